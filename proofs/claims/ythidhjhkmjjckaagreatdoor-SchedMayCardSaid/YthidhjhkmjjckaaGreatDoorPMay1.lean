/-
  Parts of the proof of LMay: printed by a program out of longer texts.
-/
import Derived.KernelRfl
import Derived.WalkKit
import Derived.WalkSpells
import Derived.WalkLawsBesides
import Derived.RangeFuncMany
import Derived.TacticsIn
import Derived.LoopNIn
import Derived.OrdersIn
import Derived.Deep.AppendSrc
import Derived.Laws.MakeOwn
import Derived.Laws.CopyRow
import Derived.OpenShut
import Derived.JoinedOf
import Derived.SizedLaws
set_option linter.unusedVariables false
set_option linter.unusedSimpArgs false
open List renaming getElem?_eq_some_iff→kJ,getElem?_eq_getElem→j4,getD_eq_getElem?_getD→nI,getElem?_append_left→sZ,getElem?_append_right→uI,getElem?_set_ne→rK,getElem?_set_self→uu,mem_of_getElem?→q6,getElem?_map→pz,eraseIdx→Iw,insertIdx_succ_cons→azV,insertIdx_zero→azW,replicate→dM,mem_append→y7,length_append→tV,all_eq_true→xz
open Go.Sem renaming run_pure→cK,run_bind→cL
open Go.Result renaming andThen_ok→cF
open Bool renaming or_eq_false_iff→kx,and_eq_true→iZ
open Option renaming isNone→eL
open Go.IntKind renaming wrap→aG
open Int renaming toNat_natCast→kR
open Array renaming setIfInBounds→eM,getElem?_eq_some_iff→AL
open Nat renaming le_refl→iv
open Go.Addr renaming add→aY
namespace Go
abbrev aq:=World→Prop
theorem ah{P:Prop}(h:P:=by omega):P:=h
theorem bc{P:Prop}(h:P:=by simp):P:=h
theorem fY{P:Prop}(h:P:=by decide):P:=h
theorem be{P:Prop}(h:P:=by kernel_rfl):P:=h
theorem vw{P:Prop}(h:P:=by with_unfolding_all exact rfl):P:=h
end Go
namespace Go.Ev
open Go
structure Sl where
 a:Option Addr
 n:Nat
 c:Nat
inductive K where
 |i (k:IntKind)|b|p|a|s|str|m|ag|raw
def K.T:K→Type
 | .i _=>Int
 | .b=>Bool
 | .p=>Option Addr
 | .a=>Addr
 | .s=>Sl
 | .str=>ByteArray
 | .m=>Option Nat
 | .ag=>Array Value
 | .raw=>Value
def K.v:(k:K)→k.T→Value
 | .i k,x=> .int k x
 | .b,x=> .bool x
 | .p,x=> .pointer x
 | .a,x=> .pointer (some x)
 | .s,x=> .slice (Sl.a x) (Sl.n x) (Sl.c x)
 | .str,x=> .string x
 | .m,x=> .map x
 | .ag,x=> .agg x
 | .raw,x=>x
def xy(k:IntKind)(v:Value)(c:Int→Prop):Prop:=match v with| .int k' n=>if k'=k then c n else False|_=>False
def HL(v:Value)(c:Bool→Prop):Prop:=match v with| .bool b=>c b|_=>False
def toP(v:Value)(c:Option Addr→Prop):Prop:=match v with| .pointer b=>c b|_=>False
def ala(v:Value)(c:Addr→Prop):Prop:=match v with| .pointer (some b)=>c b|_=>False
def toS(v:Value)(c:Sl→Prop):Prop:=match v with| .slice a n k=>c ⟨a,n,k⟩|_=>False
def Xk(v:Value)(c:ByteArray→Prop):Prop:=match v with| .string b=>c b|_=>False
def toM(v:Value)(c:Option Nat→Prop):Prop:=match v with| .map b=>c b|_=>False
def toA(v:Value)(c:Array Value→Prop):Prop:=match v with| .agg b=>c b|_=>False
def toT(v:Value)(c:List Value→Prop):Prop:=match v with| .tuple vs=>c vs.toList|_=>False
def Zk(k:K)(v:Value)(c:k.T→Prop):Prop:=
 match k with
 | .i k=>xy k v c
 | .b=>HL v c
 | .p=>toP v c
 | .a=>ala v c
 | .s=>toS v c
 | .str=>Xk v c
 | .m=>toM v c
 | .ag=>toA v c
 | .raw=>c v
def KT:List K→Type
 |[]=>Unit
 |[k]=>k.T
 |k::(x::r)=>k.T×KT (x::r)
def qJ:(ks:List K)→List Value→(KT ks→Prop)→Prop
 |[],[],c=>c ()
 |[k],[v],c=>Zk k v c
 |k::(y::r),v::vs,c=>Zk k v λx=>qJ (y::r) vs λxs=>c (x,xs)
 |_,_,_=>False
def dB:(ks:List K)→KT ks→List Value
 |[],_=>[]
 |[k],x=>[k.v x]
 |k::(y::r),x=>k.v x.1::dB (y::r) x.2
def HM(ks:List K)(v:Value)(c:KT ks→Prop):Prop:=toT v λl=>qJ ks l c
def eV(l:List Value):Value:=match l with|[v]=>v|l=> .tuple l.toArray
def cast(k:K)(v:Value)(c:Value→Prop):Prop:=
 match k with
 | .i k=>xy k v λn=>c (.int k n)
 | .b=>HL v λn=>c (.bool n)
 | .p=>toP v λn=>c (.pointer n)
 | .a=>ala v λn=>c (.pointer (some n))
 | .s=>toS v λn=>c (.slice n.a n.n n.c)
 | .str=>Xk v λn=>c (.string n)
 | .m=>toM v λn=>c (.map n)
 | .ag=>toA v λn=>c (.agg n)
 | .raw=>c v
def rd(w:World)(a:Addr)(c:Value→Prop):Prop:=match w.cell? a with|some v=>c v|none=>False
def aN(k:IntKind)(w:World)(a:Addr)(c:Int→Prop):Prop:=rd w a λv=>xy k v c
def Jc(w:World)(a:Addr)(c:Bool→Prop):Prop:=rd w a λv=>HL v c
def aR(w:World)(a:Addr)(c:Option Addr→Prop):Prop:=rd w a λv=>toP v c
def cC(w:World)(a:Addr)(c:Sl→Prop):Prop:=rd w a λv=>toS v c
def PI(w:World)(a:Addr)(c:ByteArray→Prop):Prop:=rd w a λv=>Xk v c
def ldM(w:World)(a:Addr)(c:Option Nat→Prop):Prop:=rd w a λv=>toM v c
def sX(w:World)(a:Addr)(c:Value→Prop):Prop:=rd w a c
def FC(w:World)(a:Addr)(i:Nat):Nat→Option (List Value)
 |0=>some []
 |n+1=>match w.cell? (a.add i)with
  |some v=>match FC w a (i+1) n with|some l=>some (v::l)|none=>none
  |none=>none
def bD(n:Nat)(w:World)(a:Addr)(c:Array Value→Prop):Prop:=match FC w a 0 n with|some l=>c l.toArray|none=>False
def bJ(w:World)(a:Addr)(v:Value)(c:aq):Prop:=
 v.oneCell'=true∧(w.cell? a).isSome=true∧w.frozen? a=false∧c (w.setCell a v)
def Jk(w:World)(a:Addr)(i:Nat):List Value→(aq)→Prop
 |[],c=>c w
 |v::l,c=>bJ w (a.add i) v λw=>Jk w a (i+1) l c
def dZ(n:Nat)(w:World)(a:Addr)(cs:Array Value)(c:aq):Prop:=cs.size=n∧Jk w a 0 cs.toList c
def nn(p:Option Addr)(c:Addr→Prop):Prop:=match p with|some a=>c a|none=>False
def cZ(s:Sl)(i:Int)(sz:Nat)(c:Addr→Prop):Prop:=match s.a with|some a=>(0≤i∧i<s.n)∧c (a.add (i.toNat*sz))|none=>False
def GG(a:Addr)(len:Nat)(i:Int)(sz:Nat)(c:Addr→Prop):Prop:=(0≤i∧i<len)∧c (a.add (i.toNat*sz))
def PJ(cs:Array Value)(o:Nat)(c:Value→Prop):Prop:=match cs[o]? with|some v=>c v|none=>False
def ixA(cs:Array Value)(len:Nat)(i:Int)(c:Value→Prop):Prop:=(0≤i∧i<len)∧PJ cs i.toNat c
def ayq(s:ByteArray)(i:Int)(c:Int→Prop):Prop:=0≤i∧match s[i.toNat]? with|some b=>c b.toNat|none=>False
def Sw(s:Sl)(sz:Nat)(lo hi:Int)(c:Sl→Prop):Prop:=
 (0≤hi∧hi≤s.c)∧(0≤lo∧lo≤hi)∧c ⟨if s.c=lo.toNat then s.a else s.a.map (·.add (lo.toNat*sz)),hi.toNat - lo.toNat,s.c - lo.toNat⟩
def slL(s:Sl)(sz:Nat)(lo:Int)(c:Sl→Prop):Prop:=
 (0≤lo∧lo≤s.n)∧c ⟨if s.c=lo.toNat then s.a else s.a.map (·.add (lo.toNat*sz)),s.n - lo.toNat,s.c - lo.toNat⟩
def ao9(s:Sl)(sz:Nat)(lo hi mx:Int)(c:Sl→Prop):Prop:=
 (0≤mx∧mx≤s.c)∧(0≤hi∧hi≤mx)∧(0≤lo∧lo≤hi)∧c ⟨if mx.toNat=lo.toNat then s.a else s.a.map (·.add (lo.toNat*sz)),hi.toNat - lo.toNat,mx.toNat - lo.toNat⟩
def apa(s:ByteArray)(lo hi:Int)(c:ByteArray→Prop):Prop:=
 (0≤hi∧hi≤s.size)∧(0≤lo∧lo≤hi)∧c (s.extract lo.toNat hi.toNat)
def Vm(k:IntKind)(x y:Int):Int:=k.wrap (x.tdiv y)
def aab(x y:Int):Int:=x.tmod y
def rX(k:IntKind)(x y:Int):Int:=k.wrap (x*2 ^ min y.toNat k.bits)
def If(k:IntKind)(x y:Int):Int:=x.fdiv (2 ^ min y.toNat k.bits)
def aAX(k:IntKind)(x y:Int)(c:Int→Prop):Prop:=y≠0∧c (Vm k x y)
def alb(x y:Int)(c:Int→Prop):Prop:=y≠0∧c (aab x y)
def G9(k:IntKind)(x y:Int)(c:Int→Prop):Prop:=0≤y∧c (rX k x y)
def alc(k:IntKind)(x y:Int)(c:Int→Prop):Prop:=0≤y∧c (If k x y)
def oC(k:IntKind)(x y:Int):Int:=k.wrap (BitVec.ofInt k.bits x&&&BitVec.ofInt k.bits y).toNat
def Sx(k:IntKind)(x y:Int):Int:=k.wrap (BitVec.ofInt k.bits x|||BitVec.ofInt k.bits y).toNat
def Jl(k:IntKind)(x y:Int):Int:=k.wrap (BitVec.ofInt k.bits x ^^^ BitVec.ofInt k.bits y).toNat
def tB(k:IntKind)(x y:Int):Int:=k.wrap (BitVec.ofInt k.bits x&&&~~~ BitVec.ofInt k.bits y).toNat
def Vn(x y:Int):Int:=if y<x then y else x
def YD(x y:Int):Int:=if y>x then y else x
def aL(w:World)(cs:Array Value)(t:TypeId)(c:Addr→aq):Prop:=c ⟨w.heap.size,0,none⟩ (w.alloc (.cells cs t))
def drew(w:World)(c:aq):Prop:=c w.drew
def N1(r:Result Value)(c:Value→aq):Prop:=match r with| .ok v w=>c v w| .halt _ _=>False
def apb{A:Type}(r:Result A)(c:aq):Prop:=match r with| .ok _ w=>c w| .halt _ _=>False
def eqC(k:Nat)(x y:Value):Option Bool:=
 match k with
 |0=>match x,y with| .int k a,.int k' b=>if k=k' then some (a==b)else none|_,_=>none
 |1=>match x,y with| .bool a,.bool b=>some (a==b)|_,_=>none
 |_=>match x,y with| .string a,.string b=>some (a.toList==b.toList)|_,_=>none
def pu(xs ys:Array Value):List (Nat×Nat)→Option Bool
 |[]=>some true
 |(o,k)::os=>match xs[o]?,ys[o]? with
  |some a,some b=>match eqC k a b,pu xs ys os with|some r,some rs=>some (r&&rs)|_,_=>none
  |_,_=>none
def Zl(os:List (Nat×Nat))(xs ys:Array Value)(c:Bool→Prop):Prop:=match pu xs ys os with|some b=>c b|none=>False
def lz(acc:Array Value)(off size:Nat)(cs:Array Value)(c:Array Value→Prop):Prop:=
 cs.size=size∧c (cs.zipIdx.foldl (λcs (x,j)=>cs.setIfInBounds (off+j) x) acc)
def ap(b:Bool)(x y:Prop):Prop:=match b with|true=>x|false=>y
def nnV(v:Value)(c:Value→Prop):Prop:=match v with| .pointer p=>nn p λa=>c (.pointer (some a))| .func (.func f) a b=>c (.func (.func f) a b)|_=>False
def qd(P:Program)(ts:Array TypeId)(t:TypeId)(vs:List Value)(w:World)(c:Sl→aq):Prop:=N1 ((Builtin.append_ ts t vs.toArray).run P w) λv w=>toS v λs=>c s w
def Ue(P:Program)(ts:Array TypeId)(t:TypeId)(vs:List Value)(w:World)(c:Int→aq):Prop:=N1 ((Builtin.copy_ ts t vs.toArray).run P w) λv w=>xy .i64 v λs=>c s w
def aAZ(P:Program)(ts:Array TypeId)(t:TypeId)(vs:List Value)(w:World)(c:Int→aq):Prop:=N1 ((Builtin.len_ ts t vs.toArray).run P w) λv w=>xy .i64 v λs=>c s w
def auJ(P:Program)(ts:Array TypeId)(t:TypeId)(vs:List Value)(w:World)(c:Value→aq):Prop:=N1 ((Builtin.clear_ ts t vs.toArray).run P w) c
def agx(P:Program)(ts:Array TypeId)(t:TypeId)(vs:List Value)(w:World)(c:Value→aq):Prop:=N1 ((Builtin.delete_ ts t vs.toArray).run P w) c
def Bt(P:Program)(t:TypeId)(l k:Value)(w:World)(c:Sl→aq):Prop:=N1 ((Instr.makeSlice t l k).run P w) λv w=>toS v λs=>c s w
def mkMap(P:Program)(t:TypeId)(r:Option Value)(w:World)(c:Option Nat→aq):Prop:=N1 ((Instr.makeMap t r).run P w) λv w=>toM v λs=>c s w
def look(P:Program)(t:TypeId)(x i:Value)(ok:Bool)(w:World)(c:Value→aq):Prop:=N1 ((Instr.lookup t x i ok).run P w) c
def Ma(P:Program)(t:TypeId)(m k x:Value)(w:World)(c:aq):Prop:=apb ((Instr.mapUpdate t m k x).run P w) c
def tyA(P:Program)(x:Value)(xt as:TypeId)(ok:Bool)(w:World)(c:Value→aq):Prop:=N1 ((Instr.typeAssert x xt as ok).run P w) c
def cvt(P:Program)(s d:TypeId)(x:Value)(w:World)(c:Value→aq):Prop:=N1 ((convert s d x).run P w) c
def cE{S:Type}(body:(S→aq)→Prop)(rest:S→aq):Prop:=body rest
def jP{S:Type}(f:(S→aq)→S→aq):Nat→S→aq
 |0,_,_=>False
 |n+1,s,w=>f (jP f n) s w
def kH{S:Type}(f:(S→aq)→S→aq)(s:S)(w:World):Prop:=∃n,jP f n s w
theorem og{S:Type}{f:(S→aq)→S→aq}(I:S→aq)(μ:S→World→Nat){s:S}{w:World}(h0:I s w)
  (h:∀s w,I s w→∀C:S→aq,(∀s' w',I s' w'→μ s' w'<μ s w→C s' w')→f C s w):kH f s w:=by
 have key:∀n s w,μ s w≤n→I s w→jP f (n+1) s w:=by
  intro n;induction n with
  |zero=>intro s w hn hI;exact h s w hI _ λs' w' _ hlt=>by omega
  |succ n ih=>intro s w hn hI;exact h s w hI _ λs' w' hI' hlt=>ih s' w' ah hI'
 exact⟨_,key _ s w (iv _) h0⟩
inductive EV where
 |val (v:Value)
 |gd (g:Nat) (want:Bool) (v:Value)
abbrev Env:=List (Nat×EV)
def Env.find:Env→Nat→Option EV
 |[],_=>none
 |(s,x)::e,t=>if Nat.beq s t then some x else Env.find e t
def EV.on:EV→Nat→Bool
 | .val _,_=>false
 | .gd g _ _,d=>Nat.beq g d
def Env.del(e:Env)(d:Nat):Env:=e.filter fun(s,x)=> !(Nat.beq s d)&& !(x.on d)
def Env.put(e:Env)(d:Nat)(v:Value):Env:=(d,.val v)::e.del d
def Env.Vo(e:Env)(d:Option Nat)(v:Value):Env:=match d with|some d=>e.put d v|none=>e
def Env.apc(e:Env)(d g:Nat)(want:Bool)(v:Value):Env:=(d,.gd g want v)::e.del d
def Env.refine(e:Env)(g:Nat)(b:Bool):Env:=
 (g,.val (.bool b))::e.filterMap fun(s,x)=>if Nat.beq s g then none else match x with
  | .val v=>some (s,.val v)
  | .gd h want v=>if Nat.beq h g then some (s,.val (if want==b then v else undef))else some (s,.gd h want v)
def lH:Env→(Env→Prop)→Prop
 |[],c=>c []
 |(s,x)::e,c=>lH e λe=>c ((s,x)::e)
theorem kQ:∀(e:Env) (c:Env→Prop),lH e c=c e
 |[],_=>rfl
 |(_,_)::e,_=>kQ e _
def Env.op(e:Env):Operand→Option Value
 | .tmp t=>match e.find t with|some (.val v)=>some v|_=>none
 | .const v=>some v
 | .global g=>some (.pointer (some ⟨g,0,none⟩))
 | .func f=>some (.func (.func f) #[] #[])
def Env.opG(e:Env)(g:Nat)(b:Bool):Operand→Option Value
 | .tmp t=>match e.find t with|some (.val v)=>some v|some (.gd h want v)=>if Nat.beq h g&&want==b then some v else none|_=>none
 | .const v=>some v
 | .global g=>some (.pointer (some ⟨g,0,none⟩))
 | .func f=>some (.func (.func f) #[] #[])
def Env.under(e:Env)(g:Nat)(b:Bool):Operand→Option Value
 | .tmp t=>match e.find t with|some (.gd h want v)=>if Nat.beq h g&&want==b then some v else none|_=>none
 |_=>none
def rH(P:Program)(t:TypeId):K:=
 match P.underlying t with
 |some (.int k)=> .i k
 |some .bool=> .b
 |some .string=> .str
 |some (.pointer _)=> .p
 |some (.slice _)=> .s
 |some (.map _ _)=> .m
 |some (.struct _)|some (.array _ _)=> .ag
 |_=> .raw
def iw(P:Program)(t:TypeId):Nat:=match P.info? t with|some i=>i.size|none=>0
def zOf(P:Program)(t:TypeId):Option Value:=match P.info? t with|some i=>i.zero|none=>none
def Vp(P:Program)(s:TypeId)(f:Nat):Option Field:=match P.underlying s with|some (.struct fs)=>fs[f]?|_=>none
def ayr(P:Program)(t:TypeId):Option (List TypeId):=match P.underlying t with|some (.tuple ts)=>some ts.toList|_=>none
section
def Xl(P:Program)(t:TypeId)(v:Value)(c:Value→Prop):Prop:=
 match ayr P t with
 |none=>cast (rH P t) v c
 |some ts=>HM (ts.map (rH P)) v λx=>c (.tuple (dB (ts.map (rH P)) x).toArray)
def PK(P:Program)(rec:TypeId→Option (List (Nat×Nat))):List Field→Option (List (Nat×Nat))
 |[]=>some []
 |f::fs=>if f.name== "_" then none else
  match rec f.type,PK P rec fs with
  |some m,some l=>if m.all (fun x=>Nat.blt x.1 (iw P f.type))then some (m.map (fun x=>(x.1+f.offset,x.2))++l)else none
  |_,_=>none
def PL(sz:Nat)(m:List (Nat×Nat)):Nat→Nat→List (Nat×Nat)
 |_,0=>[]
 |i,n+1=>m.map (λx=>(x.1+i*sz,x.2))++PL sz m (i+1) n
def FK(P:Program):Nat→TypeId→Option (List (Nat×Nat))
 |0,_=>none
 |d+1,t=>
  match P.underlying t with
  |some (.int _)=>some [(0,0)]
  |some .bool=>some [(0,1)]
  |some .string=>some [(0,2)]
  |some (.struct fs)=>if iw P t=0 then none else if P.stoodInHeld t then none else PK P (FK P d) fs.toList
  |some (.array n e)=>if iw P t=0 then none else if iw P e=0 then none else match FK P d e with
   |some m=>if m.all (λx=>Nat.blt x.1 (iw P e))then some (PL (iw P e) m 0 n)else none
   |none=>none
  |_=>none
abbrev eb:=Fn→Array Value→World→(Value→aq)→Prop
def m5(bX:eb)(f:Value)(args:Array Value)(w:World)(c:Value→aq):Prop:=
 match f with
 | .func (.func id) first captured=>bX (.func id) (first++args++captured) w c
 | .func (.yield l) first _=>bX (.yield l) (first++args) w c
 |_=>False
def pF(bX:eb)(P:Program)(v:Value)(name:String)(args:Array Value)(w:World)(c:Value→aq):Prop:=
 match v with
 | .iface t v=>match (method (P.types.size+Made.depth) t v name).run P w with
  | .ok (f,r) w=>bX (.func f) (#[r] ++args) w c
  | .halt _ _=>False
 |_=>False
def isI:K→Bool| .i _=>true|_=>false
def ald:Operand→Bool
 | .const (.int _ n)=>n==0
 |_=>true
def ale:Operand→Option Nat
 | .const (.int _ (.ofNat n))=>some n
 |_=>none
def ZP:Operand→Bool
 | .const (.int _ n)=>n<0
 |_=>true
def auL:Operand→Bool
 | .const (.pointer none)=>true
 |_=>false
def auM:Operand→Bool
 | .const (.slice none _ _)=>true
 |_=>false
def aex:Operand→Bool
 | .const .nilIface=>true
 |_=>false
def auN:Operand→Bool
 | .const (.map none)=>true
 |_=>false
def aey:Operand→Bool
 | .const .nilFunc=>true
 |_=>false
def aac(v:Value)(c:Bool→Prop):Prop:=match v with| .nilFunc=>c true| .func _ _ _=>c false|_=>False
def alf(P:Program)(ts:Array TypeId):K:=match ts[0]? with|some t=>rH P t|none=> .raw
def isEq:BinOp→Bool
 | .eql=>true
 | .neq=>true
 |_=>false
def ayt:BinOp→Bool
 | .eql=>true
 | .neq=>true
 | .lss=>true
 | .leq=>true
 | .gtr=>true
 | .geq=>true
 |_=>false
def agz(op:BinOp)(y:Operand):Bool:=
 match op with
 | .quo=> !ald y
 | .rem=> !ald y
 | .shl=> !ZP y
 | .shr=> !ZP y
 |_=>true
def agA(k:K)(op:BinOp)(y:Operand):Bool:=
 match k with
 | .i _=>agz op y
 | .b=>isEq op
 | .str=>ayt op
 | .p=>isEq op&&auL y
 | .s=>isEq op&&auM y
 | .m=>isEq op&&auN y
 |_=>false
def isLen:Builtin→Bool| .len=>true|_=>false
def aiY:Builtin→Bool| .cap=>true|_=>false
def aA0:Builtin→Bool| .min=>true| .max=>true|_=>false
def ayu(b:Builtin)(k:K):Bool:=
 match k with
 | .s=>isLen b||aiY b
 | .str=>isLen b
 | .i _=>aA0 b
 |_=>false
def auO(k:K):Bool:=
 match k with
 | .i _=>true
 | .b=>true
 |_=>false
def BP(P:Program)(o:Op):Bool:=
 match o with
 | .move _=>true
 | .assign _=>true
 | .extract _ _=>true
 | .makeFunc _ _ _=>true
 | .binOp op t _ y _=>agA (rH P t) op y
 | .unOp _ t _=>auO (rH P t)
 | .convert s d _=>isI (rH P s)&&isI (rH P d)
 | .call c=>match c.callee with
  | .builtin b=>ayu b (alf P c.argTypes)
  |_=>false
 |_=>false
def aez(op:BinOp)(k:IntKind)(x y:Int):Option Value:=
 match op with
 | .add=>some (.int k (k.wrap (x+y)))
 | .sub=>some (.int k (k.wrap (x - y)))
 | .mul=>some (.int k (k.wrap (x*y)))
 | .and=>some (.int k (oC k x y))
 | .or=>some (.int k (Sx k x y))
 | .xor=>some (.int k (Jl k x y))
 | .andNot=>some (.int k (tB k x y))
 | .quo=>some (.int k (Vm k x y))
 | .rem=>some (.int k (aab x y))
 | .eql=>some (.bool (x==y))
 | .neq=>some (.bool (x !=y))
 | .lss=>some (.bool (decide (x<y)))
 | .leq=>some (.bool (decide (x≤y)))
 | .gtr=>some (.bool (decide (x>y)))
 | .geq=>some (.bool (decide (x≥y)))
 |_=>none
def Vq(a b:ByteArray):Bool:=a.toList==b.toList
def alg(op:BinOp)(a b:ByteArray):Option Value:=
 match op with
 | .eql=>some (.bool (Vq a b))
 | .neq=>some (.bool (!(Vq a b)))
 | .lss=>some (.bool (Op.bytesLess a.toList b.toList))
 | .leq=>some (.bool (Op.bytesLess a.toList b.toList||Vq a b))
 | .gtr=>some (.bool (!(Op.bytesLess a.toList b.toList||Vq a b)))
 | .geq=>some (.bool (!(Op.bytesLess a.toList b.toList)))
 |_=>none
def PM(op:BinOp)(b:Bool):Option Value:=
 match op with
 | .eql=>some (.bool b)
 | .neq=>some (.bool (!b))
 |_=>none
def Ig{A:Type}(v:Option A)(c:A→Prop):Prop:=match v with|some v=>c v|none=>False
def opsL(ρ:Operand→Option Value):List Operand→Option (List Value)
 |[]=>some []
 |x::l=>match ρ x,opsL ρ l with|some v,some r=>some (v::r)|_,_=>none
def aeA(P:Program)(op:BinOp)(t:TypeId)(x y:Value):Option Value:=
 match rH P t with
 | .i _=>match x,y with
  | .int k a,.int k' b=>match op with
   | .shl=>some (.int k (rX k a b))
   | .shr=>some (.int k (If k a b))
   |_=>if k=k' then aez op k a b else none
  |_,_=>none
 | .b=>match x,y with| .bool a,.bool b=>PM op (a==b)|_,_=>none
 | .str=>match x,y with| .string a,.string b=>alg op a b|_,_=>none
 | .p=>match x,y with| .pointer a,.pointer none=>PM op a.isNone|_,_=>none
 | .s=>match x,y with| .slice a _ _,.slice none _ _=>PM op a.isNone|_,_=>none
 | .m=>match x,y with| .map a,.map none=>PM op a.isNone|_,_=>none
 |_=>none
def apd(op:UnOp)(x:Value):Option Value:=
 match x,op with
 | .bool b,.not=>some (.bool (!b))
 | .int k n,.neg=>some (.int k (k.wrap (0 - n)))
 | .int k n,.xor=>some (.int k (Jl k (if k.signed then -1 else k.max) n))
 |_,_=>none
def evB(b:Builtin)(k:K)(l:Option (List Value)):Option Value:=
 match k,l with
 | .s,some [.slice _ n c]=>if isLen b then some (.int .i64 n)else if aiY b then some (.int .i64 c)else none
 | .str,some [.string s]=>if isLen b then some (.int .i64 s.size)else none
 | .i _,some [.int k x,.int _ y]=>match b with| .min=>some (.int k (Vn x y))| .max=>some (.int k (YD x y))|_=>none
 |_,_=>none
def ZQ(P:Program)(o:Op)(ρ:Operand→Option Value):Option Value:=
 match o with
 | .move x=>ρ x
 | .assign x=>ρ x
 | .extract x i=>match ρ x with|some (.tuple vs)=>vs.toList[i]?|_=>none
 | .makeFunc fn first captured=>
  match opsL ρ first.toList,opsL ρ captured.toList with
  |some a,some b=>some (.func fn a.toArray b.toArray)
  |_,_=>none
 | .binOp op t x y _=>match ρ x,ρ y with|some a,some b=>aeA P op t a b|_,_=>none
 | .unOp op _ x=>match ρ x with|some a=>apd op a|_=>none
 | .convert _ d x=>match ρ x,rH P d with|some (.int _ n),.i k=>some (.int k (k.wrap n))|_,_=>none
 | .call c=>match c.callee with
  | .builtin b=>evB b (alf P c.argTypes) (opsL ρ c.args.toList)
  |_=>none
 |_=>none
def aeB(P:Program)(op:BinOp)(t:TypeId)(x:Option Value)(c:Value→Prop):Prop:=
 match x with
 |some v=>match P.underlying t with
  |some (.func _ _ _)=>aac v λb=>Ig (PM op b) c
  |_=>False
 |none=>False
def sM(P:Program)(o:Op)(ρ:Operand→Option Value)(c:Value→Prop):Prop:=
 match o with
 | .binOp op t x y _=>
  match aey y with
  |true=>aeB P op t (ρ x) c
  |false=>
  match ρ x,ρ y with
  |some (.int k a),some (.int k' b)=>
   match op with
   | .shl=>G9 k a b λn=>c (.int k n)
   | .shr=>alc k a b λn=>c (.int k n)
   | .quo=>if k=k' then aAX k a b λn=>c (.int k n)else False
   | .rem=>if k=k' then alb a b λn=>c (.int k n)else False
   |_=>False
  |some (.string a),some (.string b)=>match op with| .add=>((a.size+b.size:Nat):Int)≤9223372036854775807∧c (.string (a++b))|_=>False
  |some (.agg xs),some (.agg ys)=>
   if P.eqGuardType P.depth t then False else
   match rH P t with
   | .ag=>match FK P 20 t,op with
    |some os,.eql=>Zl os xs ys λb=>c (.bool b)
    |some os,.neq=>Zl os xs ys λb=>c (.bool (!b))
    |_,_=>False
   |_=>False
  |some (.iface _ _),some .nilIface=>match P.underlying t with
   |some (.interface _)=>match op with| .eql=>c (.bool false)| .neq=>c (.bool true)|_=>False
   |_=>False
  |some .nilIface,some .nilIface=>match aex y with
   |true=>match P.underlying t with
    |some (.interface _)=>match op with| .eql=>c (.bool true)| .neq=>c (.bool false)|_=>False
    |_=>False
   |false=>False
  |_,_=>False
 | .nilCheck x=>match ρ x with|some v=>nnV v c|_=>False
 | .fieldAddr s x f=>
  match ρ x,Vp P s f with
  |some (.pointer (some a)),some fd=>if iw P fd.type=0 then False else c (.pointer (some (a.add fd.offset)))
  |_,_=>False
 | .field s x f=>
  match ρ x,Vp P s f with
  |some (.agg cs),some fd=>match rH P fd.type with| .ag=>if iw P fd.type=0 then False else c (.agg (cs.extract fd.offset (fd.offset+iw P fd.type)))| .raw=>False|k=>PJ cs fd.offset λv=>cast k v c
  |_,_=>False
 | .indexAddr t x i=>
  match ρ x,ρ i,P.underlying t with
  |some (.slice a n k),some (.int _ i),some (.slice e)=>if iw P e=0 then False else cZ ⟨a,n,k⟩ i (iw P e) λa=>c (.pointer (some a))
  |some (.pointer (some a)),some (.int _ j),some (.array n e)=>if iw P e=0 then False else
   match ale i with
   |some j=>if j<n then c (.pointer (some (a.add (j*iw P e))))else False
   |none=>GG a n j (iw P e) λa=>c (.pointer (some a))
  |_,_,_=>False
 | .index t x i=>
  match ρ x,ρ i,P.underlying t with
  |some (.agg cs),some (.int _ i),some (.array n e)=>match rH P e with| .ag=>False| .raw=>False|k=>if iw P e=1 then ixA cs n i λv=>cast k v c else False
  |some (.string s),some (.int _ i),some .string=>ayq s i λn=>c (.int .u8 n)
  |_,_,_=>False
 | .slice t x lo hi mx=>
  match ρ x,P.underlying t,(match lo with|some l=>ρ l|none=>some (.int .i64 0))with
  |some (.slice a n k),some (.slice e),some (.int _ lo)=>
   if iw P e=0 then False else
   match mx,hi with
   |none,none=>slL ⟨a,n,k⟩ (iw P e) lo λs=>c (.slice s.a s.n s.c)
   |none,some h=>match ρ h with|some (.int _ h)=>Sw ⟨a,n,k⟩ (iw P e) lo h λs=>c (.slice s.a s.n s.c)|_=>False
   |some m,some h=>match ρ h,ρ m with|some (.int _ h),some (.int _ m)=>ao9 ⟨a,n,k⟩ (iw P e) lo h m λs=>c (.slice s.a s.n s.c)|_,_=>False
   |_,_=>False
  |some (.string s),some .string,some (.int _ lo)=>
   match mx,hi with
   |none,none=>apa s lo s.size λs=>c (.string s)
   |none,some h=>match ρ h with|some (.int _ h)=>apa s lo h λs=>c (.string s)|_=>False
   |_,_=>False
  |some (.pointer (some a)),some (.array n e),some (.int _ lo)=>
   if iw P e=0 then False else
   match mx,hi with
   |none,none=>slL ⟨some a,n,n⟩ (iw P e) lo λs=>c (.slice s.a s.n s.c)
   |none,some h=>match ρ h with|some (.int _ h)=>Sw ⟨some a,n,n⟩ (iw P e) lo h λs=>c (.slice s.a s.n s.c)|_=>False
   |_,_=>False
  |_,_,_=>False
 | .makeInterface t x=>match rH P t with| .raw=>False|_=>match ρ x with|some v=>c (.iface t v)|none=>False
 |_=>False
def aeC:Op→Bool
 | .binOp _ _ _ _ _=>true
 | .nilCheck _=>true
 | .fieldAddr _ _ _=>true
 | .field _ _ _=>true
 | .indexAddr _ _ _=>true
 | .index _ _ _=>true
 | .slice _ _ _ _ _=>true
 | .makeInterface _ _=>true
 |_=>false
def RX(P:Program)(o:Op):Bool:=aeC o&& !BP P o
def Jm(P:Program)(t:TypeId)(v:Option Value)(w:World)(c:Value→Prop):Prop:=
 match v with
 |some (.pointer (some a))=>
  match rH P t with
  | .i k=>aN k w a λn=>c (.int k n)
  | .b=>Jc w a λn=>c (.bool n)
  | .p=>aR w a λn=>c (.pointer n)
  | .a=>False
  | .s=>cC w a λn=>c (.slice n.a n.n n.c)
  | .str=>PI w a λn=>c (.string n)
  | .m=>ldM w a λn=>c (.map n)
  | .ag=>if iw P t=0 then False else bD (iw P t) w a λcs=>c (.agg cs)
  | .raw=>match P.underlying t with|some _=>sX w a c|none=>False
 |_=>False
def rJ(v:Value)(c:Prop):Prop:=v.oneCell'=true∧c
def aeD:K→Bool| .raw=>true|_=>false
def ape(P:Program)(t:TypeId)(i:Nat):Bool:=
 match P.underlying t with
 |some (.struct fs)=>match fs[i]? with|some f=>aeD (rH P f.type)|none=>false
 |some (.array _ e)=>aeD (rH P e)
 |_=>false
def PN(raw:Nat→Bool)(place:Nat→Option (Nat×Nat))(n:Nat):List (Nat×Value)→Array Value→(Array Value→Prop)→Prop
 |[],acc,c=>c acc
 |(i,v)::rest,acc,c=>
  match place i with
  |none=>False
  |some (off,size)=>
   if off+size>n then False else
   match raw i with
   |true=>if size=1 then rJ v (PN raw place n rest (acc.setIfInBounds off v) c)else False
   |false=>
    match v with
    | .agg cs=>lz acc off size cs λacc=>PN raw place n rest acc c
    |v=>if size=1 then PN raw place n rest (acc.setIfInBounds off v) c else False
def placesOf(P:Program)(t:TypeId)(i:Nat):Option (Nat×Nat):=
 match P.underlying t with
 |some (.struct fs)=>match fs[i]? with|some f=>some (f.offset,iw P f.type)|none=>none
 |some (.array _ e)=>some (i*iw P e,iw P e)
 |_=>none
def aad(P:Program)(t:TypeId):Bool:=
 match P.underlying t with
 |some (.struct fs)=>fs.toList.all λf=>(P.info? f.type).isSome
 |some (.array _ e)=>(P.info? e).isSome
 |_=>false
def opsOf(ρ:Operand→Option Value):List (Nat×Operand)→Option (List (Nat×Value))
 |[]=>some []
 |(i,x)::l=>match ρ x,opsOf ρ l with|some v,some r=>some ((i,v)::r)|_,_=>none
def aeE(P:Program)(bX:eb)(o:Oper)(ρ:Operand→Option Value)(w:World)(c:Value→aq):Prop:=
 match o.op with
 | .store t x y=>
  match ρ x,ρ y with
  |some (.pointer (some a)),some v=>
   match rH P t with
   | .ag=>if iw P t=0 then False else match v with| .agg cs=>dZ (iw P t) w a cs fun w=>c undef w|_=>False
   |_=>if iw P t=1 then bJ w a v fun w=>c undef w else False
  |_,_=>False
 | .alloc t=>match zOf P t with|some z=>aL w z.cells t fun a w=>c (.pointer (some a)) w|none=>False
 | .box t x=>
  match ρ x with
  |some v=>
   match aeD (rH P t)with
   |true=>rJ v (aL w #[v] t fun a w=>c (.pointer (some a)) w)
   |false=>aL w v.cells t fun a w=>c (.pointer (some a)) w
  |none=>False
 | .build t parts=>
  match opsOf ρ parts.toList,zOf P t with
  |some l,some z=>if z.cells.size=iw P t∧aad P t=true then PN (ape P t) (placesOf P t) (iw P t) l z.cells fun cs=>c (.agg cs) w else False
  |_,_=>False
 | .buildSlice t len parts=>
  match P.underlying t,opsOf ρ parts.toList with
  |some (.slice e),some l=>
   if len*iw P e>2 ^ 24∨(P.info? e).isSome=false then False else
   match (if len*iw P e=0 then some #[]else(zOf P e).map (·.cells))with
   |some z=>PN (fun _=>aeD (rH P e)) (fun i=>some (i*iw P e,iw P e)) (len*iw P e) l ((Array.range (len*iw P e)).map (z[· % z.size]!)) fun cs=>
     aL w cs e fun a w=>c (.slice (some a) len len) w
   |none=>False
  |_,_=>False
 | .makeSlice t l k=>
  match ρ l,ρ k with
  |some a,some b=>Bt P t a b w fun s w=>c (.slice s.a s.n s.c) w
  |_,_=>False
 | .call cl=>
  match cl.callee with
  | .builtin b=>match opsL ρ cl.args.toList with
   |some vs=>match b with
    | .append=>qd P cl.argTypes o.type vs w fun s w=>c (.slice s.a s.n s.c) w
    | .copy=>Ue P cl.argTypes o.type vs w fun n w=>c (.int .i64 n) w
    | .len=>aAZ P cl.argTypes o.type vs w fun n w=>c (.int .i64 n) w
    | .clear=>auJ P cl.argTypes o.type vs w c
    | .delete=>agx P cl.argTypes o.type vs w c
    | .panic=>bX (.method "panic") vs.toArray w c
    |_=>False
   |none=>False
  | .value f=>match ρ f,opsL ρ cl.args.toList with
   |some f,some vs=>m5 bX f vs.toArray w fun v w=>Xl P o.type v fun v=>c v w
   |_,_=>False
  | .invoke r name=>match ρ r,opsL ρ cl.args.toList with
   |some v,some vs=>pF bX P v name vs.toArray w fun v w=>Xl P o.type v fun v=>c v w
   |_,_=>False
 | .makeMap t r=>
  match r with
  |none=>mkMap P t none w fun m w=>c (.map m) w
  |some r=>match ρ r with|some r=>mkMap P t (some r) w fun m w=>c (.map m) w|none=>False
 | .lookup t x i ok=>
  match ρ x,ρ i with
  |some x,some i=>look P t x i ok w fun v w=>Xl P o.type v fun v=>c v w
  |_,_=>False
 | .mapUpdate t m k x=>
  match ρ m,ρ k,ρ x with
  |some m,some k,some x=>Ma P t m k x w fun w=>c undef w
  |_,_,_=>False
 | .insert t m k x=>
  match ρ m,ρ k,ρ x with
  |some m,some k,some x=>Ma P t m k x w fun w=>c undef w
  |_,_,_=>False
 | .convert s d x=>
  match ρ x with
  |some x=>cvt P s d x w fun v w=>cast (rH P d) v fun v=>c v w
  |none=>False
 | .typeAssert x xt as ok=>
  match ρ x with
  |some x=>tyA P x xt as ok w fun v w=>Xl P o.type v fun v=>c v w
  |none=>False
 | .panic x=>
  match ρ x with
  |some v=>bX (.method "panic") #[v] w c
  |none=>False
 |_=>False
def ZR(e:Env)(x a b:Operand):Option Value:=
 match x,e.op x with
 | .tmp g,some (.bool cb)=>
  match (match e.op a with|some v=>some v|none=>e.under g true a),(match e.op b with|some v=>some v|none=>e.under g false b)with
  |some (.bool va),some (.bool vb)=>
   match a,b with
   | .const (.bool true),_=>some (.bool (cb||vb))
   |_,.const (.bool false)=>some (.bool (cb&&va))
   |_,_=>some (.bool (if cb then va else vb))
  |_,_=>none
 |_,_=>none
def aae(e:Env)(x a b:Operand)(c:Value→Prop):Prop:=
 match e.op x with
 |some (.bool cb)=>ap cb (Ig (e.op a) c) (Ig (e.op b) c)
 |_=>False
def aeF(ops:Array Oper)(g:Option (Nat×Bool)):Option (Nat×Bool):=
 match g with
 |some (j,want)=>match ops[j]? with|some o=>(match o.dst with|some d=>some (d,want)|none=>none)|none=>none
 |none=>none
def RY:Op→Option (Operand×Operand×Operand)| .pick x a b=>some (x,a,b)|_=>none
def Jn:Op→Option (TypeId×Operand)| .load t x=>some (t,x)|_=>none
def adj(P:Program)(bX:eb)(o:Oper)(ρ:Operand→Option Value)(w:World)(c:Value→aq):Prop:=
 if BP P o.op then Ig (ZQ P o.op ρ) λv=>c v w
 else if RX P o.op then sM P o.op ρ λv=>c v w
 else match Jn o.op with
  |some (t,x)=>Jm P t (ρ x) w λv=>c v w
  |none=>aeE P bX o ρ w c
def rootOf(e:Env):Nat→Nat→Nat
 |0,g=>g
 |n+1,g=>match e.find g with|some (.gd h _ _)=>rootOf e n h|_=>g
def Xm(g:Nat)(want:Bool)(yes no:Env→Prop):Nat→Env→Prop
 |0,_=>False
 |n+1,e=>
  match e.find g with
  |some (.val (.bool b))=>
   match want with
   |true=>ap b (lH (e.refine g true) yes) (lH (e.refine g false) no)
   |false=>ap b (lH (e.refine g true) no) (lH (e.refine g false) yes)
  |some (.val (.tuple _))=>no e
  |some (.gd _ _ _)=>
   match e.find (rootOf e 9 g)with
   |some (.val (.bool b))=>ap b (lH (e.refine (rootOf e 9 g) true) λe=>Xm g want yes no n e) (lH (e.refine (rootOf e 9 g) false) λe=>Xm g want yes no n e)
   |_=>False
  |_=>False
def RZ(P:Program)(bX:eb)(o:Oper)(e:Env)(w:World)(c:Env→aq):Prop:=
 match RY o.op with
 |some (x,a,b)=>
  match ZR e x a b with
  |some v=>c (e.Vo o.dst v) w
  |none=>aae e x a b λv=>c (e.Vo o.dst v) w
 |none=>adj P bX o e.op w λv w=>c (e.Vo o.dst v) w
def aaf(P:Program)(o:Op)(e:Env)(g:Nat)(want:Bool):Option Value:=
 match e.find g with
 |some (.val (.tuple _))=>none
 |_=>
  match RY o with
  |some (x,a,b)=>ZR (e.refine g want) x a b
  |none=>if BP P o then ZQ P o (e.opG g want)else none
def Mb(P:Program)(bX:eb)(ops:Array Oper)(o:Oper)(e:Env)(w:World)(c:Env→aq):Prop:=
 match o.guard with
 |none=>RZ P bX o e w c
 |some _=>
  match aeF ops o.guard with
  |none=>False
  |some (g,want)=>
   match aaf P o.op e g want,o.dst with
   |some v,some d=>if Nat.beq d g then False else c (e.apc d g want v) w
   |_,_=>Xm g want (λe=>RZ P bX o e w c) (λe=>c (e.Vo o.dst undef) w) 9 e
def aag(P:Program)(bX:eb)(ops:Array Oper):List Oper→Env→World→(Env→aq)→Prop
 |[],e,w,c=>c e w
 |o::rest,e,w,c=>Mb P bX ops o e w λe w=>lH e λe=>aag P bX ops rest e w c
def Uf(P:Program)(o:Op):Bool:=(RY o).isSome||BP P o||RX P o
def Mc(P:Program)(t:TypeId):Nat:=match rH P t with| .ag=>iw P t|_=>1
def ai(n:Nat)(a:Addr)(w w':World)(c:Prop):Prop:=(∀k,k<n→w'.cell? (a.add k)=w.cell? (a.add k))∧c
structure N2 where
 i:Nat
 n:Nat
 a:Addr
 w:World
def FN(o:Oper):Nat:=o.after.foldl (λs e=>if Region.binds .any e then s|||2 ^ e.on else s) 0
def BZ(P:Program)(ops:Array Oper)(m:Nat):Nat→Nat→Option Nat
 |0,_=>none
 |n+1,i=>match ops[i]? with
  |some o=>if !m.testBit i&&(FN o&&&m==FN o)&&(Uf P o.op||(Jn o.op).isSome)then some i else BZ P ops m n (i+1)
  |none=>none
def KV(ops:Array Oper)(m:Nat):List Nat:=
 (List.range ops.size).filter λi=>match ops[i]? with|some o=> !m.testBit i&&(FN o&&&m==FN o)|none=>false
def Vr(su:Nat)(hs:List N2)(w:World)(c:Prop):Prop:=
 match hs with
 |[]=>c
 |h::hs=>if su.testBit h.i then Vr su hs w c else ai h.n h.a h.w w (Vr su hs w c)
def both(x y:Prop):Prop:=x∧y
def aiZ(l:List Nat)(c:Nat→Prop):Prop:=
 match l with
 |[]=>True
 |[i]=>c i
 |i::l=>both (c i) (aiZ l c)
def aeG(P:Program)(i:Nat)(t:TypeId)(v:Option Value)(w:World)(hs:List N2):List N2:=
 match v with
 |some (.pointer (some a))=>⟨i,Mc P t,a,w⟩::hs
 |_=>hs
def PO(P:Program)(ops:Array Oper)(i:Nat)(o:Oper)(t:TypeId)(x:Operand)(e:Env)(w:World)(hs:List N2)(c:Env→List N2→Prop):Prop:=
 match o.guard with
 |none=>Jm P t (e.op x) w λv=>c (e.Vo o.dst v) (aeG P i t (e.op x) w hs)
 |some _=>
  match aeF ops o.guard with
  |none=>False
  |some (g,want)=>Xm g want (λe=>Jm P t (e.op x) w λv=>c (e.Vo o.dst v) (aeG P i t (e.op x) w hs)) (λe=>c (e.Vo o.dst undef) hs) 9 e
def Jo(P:Program)(bX:eb)(ops:Array Oper)(su:Array Nat):Nat→Nat→List N2→Env→World→(Env→aq)→Prop
 |0,_,_,_,_,_=>False
 |fuel+1,m,hs,e,w,c=>
  match BZ P ops m ops.size 0 with
  |some i=>match ops[i]? with
   |some o=>match Jn o.op with
    |some (t,x)=>PO P ops i o t x e w hs λe hs=>lH e λe=>Jo P bX ops su fuel (m|||2 ^ i) hs e w c
    |none=>Mb P bX ops o e w λe w=>lH e λe=>Jo P bX ops su fuel (m|||2 ^ i) hs e w c
   |none=>False
  |none=>match KV ops m with
   |[]=>if (List.range ops.size).all (λi=>m.testBit i)then c e w else False
   |l=>aiZ l λi=>match ops[i]? with
    |some o=>Mb P bX ops o e w λe w=>Vr (su.getD i 0) hs w (lH e λe=>Jo P bX ops su fuel (m|||2 ^ i) hs e w c)
    |none=>False
def aah(ops:Array Oper)(su:Array Nat):Bool:=
 (List.range ops.size).all λj=>(List.range j).all λi=>(su.getD j 0).testBit i||match ops[i]?,ops[j]? with|some x,some y=>Oper.apart ops x y&&Oper.apart ops y x|_,_=>false
def ai0(acc:Array Nat)(o:Oper):Nat:=o.after.foldl (λs e=>if Region.binds .any e then s|||2 ^ e.on|||acc.getD e.on 0 else s) 0
def alh:List Oper→Array Nat→Array Nat
 |[],acc=>acc
 |o::l,acc=>alh l (acc.push (ai0 acc o))
def adk(ops:Array Oper):Array Nat:=alh ops.toList #[]
def R1(ops:Array Oper):Bool:=
 (List.range ops.size).all λj=>match ops[j]? with|some o=>o.after.all λe=> !Region.binds .any e||Nat.blt e.on j|none=>false
def noSelect(ops:Array Oper):Bool:=ops.toList.all λo=>match o.op with| .select _ _=>false|_=>true
def aeH(ops:Array Oper):Bool:=R1 ops&&aah ops (adk ops)&&noSelect ops
end
inductive Ex where
 |normal|exit (id:Nat)|ret
inductive AC where
 |skip
 |region (id:Nat) (ops:Array Oper) (draw:Bool)
 |seq (a b:AC)
 |cond (c:Operand) (a b:AC)
 |block (id:Nat) (a:AC)
 |loop (ks:List (Nat×K)) (a:AC)
 |exit (id:Nat)
 |label (l:Nat)
 |ret
 |join (ks:List (Nat×K)) (a:AC)
 |scope (a:AC)
 |bad (c:Code)
def AC.code:AC→Code
 | .skip=> .skip
 | .region id ops d=> .region id ops d
 | .seq a b=> .seq a.code b.code
 | .cond c a b=> .cond c a.code b.code
 | .block id a=> .block id a.code
 | .loop _ a=> .loop a.code
 | .exit id=> .exit id
 | .label l=> .label l
 | .ret=> .ret
 | .join _ a=>a.code
 | .scope a=> .scope a.code
 | .bad c=>c
abbrev sv:=List (Nat×List (Nat×K))
def sv.at:sv→Nat→Option (List (Nat×K))
 |[],_=>none
 |(m,k)::h,n=>if Nat.beq m n then some k else sv.at h n
def joined(h:sv)(n:Nat)(a:AC):AC:=match h.at n with|some ks=> .join ks a|none=>a
def m6(h:sv):Code→Nat→AC×Nat
 | .skip,n=>(.skip,n)
 | .region id ops d,n=>(joined h n (.region id ops d),n+1)
 | .seq a b,n=>match m6 h a n with|(x,n)=>match m6 h b n with|(y,n)=>(.seq x y,n)
 | .cond c a b,n=>match m6 h a (n+1)with|(x,m)=>match m6 h b m with|(y,m)=>(joined h n (.cond c x y),m)
 | .block id a,n=>match m6 h a (n+1)with|(x,m)=>(joined h n (.block id x),m)
 | .loop a,n=>match m6 h a (n+1)with|(x,m)=>(.loop ((h.at n).getD []) x,m)
 | .exit id,n=>(.exit id,n)
 | .label l,n=>(.label l,n)
 | .ret,n=>(.ret,n)
 | .scope a,n=>match m6 h a n with|(x,m)=>(.scope x,m)
 |c,n=>(.bad c,n)
theorem Md(h:sv)(n:Nat)(a:AC):(joined h n a).code=a.code:=by
 unfold joined;split<;>rfl
theorem tC(h:sv)(c:Code):∀n,(m6 h c n).1.code=c:=by
 induction c with
 |skip=>intro n;rfl
 |region id ops d=>intro n;simp[m6,Md,AC.code]
 |seq a b iha ihb=>intro n;simp[m6,AC.code,iha,ihb]
 |cond c a b iha ihb=>intro n;simp[m6,Md,AC.code,iha,ihb]
 |block id a ih=>intro n;simp[m6,Md,AC.code,ih]
 |loop a ih=>intro n;simp[m6,AC.code,ih]
 |scope a ih=>intro n;simp[m6,AC.code,ih]
 |_=>intros;rfl
def AC.writes:AC→Nat→Bool
 | .region _ ops _,s=>ops.toList.any λo=>match o.dst with|some d=>Nat.beq d s|none=>false
 | .seq a b,s=>a.writes s||b.writes s
 | .cond _ a b,s=>a.writes s||b.writes s
 | .block _ a,s=>a.writes s
 | .loop _ a,s=>a.writes s
 | .join _ a,s=>a.writes s
 | .scope a,s=>a.writes s
 |_,_=>false
def AC.fits(n:Nat):AC→Bool
 | .region _ ops _=>ops.toList.all λo=>match o.dst with|some d=>Nat.blt d n|none=>true
 | .seq a b=>a.fits n&&b.fits n
 | .cond _ a b=>a.fits n&&b.fits n
 | .block _ a=>a.fits n
 | .loop _ a=>a.fits n
 | .join _ a=>a.fits n
 | .scope a=>a.fits n
 |_=>true
def HT:List (Nat×K)→Type
 |[]=>Unit
 |[(_,k)]=>k.T
 |(_,k)::(x::r)=>k.T×HT (x::r)
def AK:(ks:List (Nat×K))→HT ks→Env
 |[],_=>[]
 |[(s,k)],x=>[(s,.val (k.v x))]
 |(s,k)::(y::r),x=>(s,.val (k.v x.1))::AK (y::r) x.2
def tR:(ks:List (Nat×K))→Env→(HT ks→Prop)→Prop
 |[],_,c=>c ()
 |[(s,k)],e,c=>match e.find s with|some (.val v)=>Zk k v c|_=>False
 |(s,k)::(y::r),e,c=>match e.find s with|some (.val v)=>Zk k v λx=>tR (y::r) e λxs=>c (x,xs)|_=>False
def Env.keep(e:Env)(mask:Nat):Env:=e.filter fun(s,x)=>mask.testBit s&&(match x with| .val _=>true|_=>false)
def Env.unw(e:Env)(a:AC):Env:=e.filter fun(s,x)=> !(a.writes s)&&(match x with| .val _=>true|_=>false)
def ev(P:Program)(bX:eb)(mask:Nat):AC→Env→World→(Ex→Env→aq)→Prop
 | .skip,e,w,k=>k .normal e w
 | .label _,e,w,k=>k .normal e w
 | .region _ ops draw,e,w,k=>
  if draw then(if aeH ops then drew w λw=>Jo P bX ops (adk ops) (ops.size+1) 0 [] e w λe w=>lH (e.keep mask) λe=>k .normal e w else False)
  else aag P bX ops ops.toList e w λe w=>lH (e.keep mask) λe=>k .normal e w
 | .seq a b,e,w,k=>ev P bX mask a e w λx e w=>match x with| .normal=>ev P bX mask b e w k|x=>k x e w
 | .cond c a b,e,w,k=>match e.op c with|some (.bool t)=>ap t (ev P bX mask a e w k) (ev P bX mask b e w k)|_=>False
 | .block id a,e,w,k=>ev P bX mask a e w λx e w=>match x with| .exit i=>if Nat.beq i id then k .normal e w else k (.exit i) e w|x=>k x e w
 | .loop ks a,e,w,k=>
  tR ks e λx=>kH (λC x w=>lH (AK ks x++e.unw a) λe=>ev P bX mask a e w λy e w=>match y with| .normal=>tR ks e λx=>C x w|y=>k y e w) x w
 | .exit id,e,w,k=>k (.exit id) e w
 | .ret,e,w,k=>k .ret e w
 | .join ks a,e,w,k=>
  cE (λJ=>ev P bX mask a e w λx e w=>match x with| .normal=>tR ks e λx=>J x w|x=>k x e w) λx w=>lH (AK ks x++e.unw a) λe=>k .normal e w
 | .scope a,e,w,k=>ev P bX mask a e w k
 | .bad _,_,_,_=>False
def axO(P:Program)(r:ResultVar)(e:Env)(w:World)(c:Value→Prop):Prop:=
 match r with
 | .tmp t=>Ig (e.op (.tmp t)) c
 | .cell a t=>Jm P t (e.op (.tmp a)) w c
def Jp(P:Program):List ResultVar→Env→World→(List Value→Prop)→Prop
 |[],_,_,c=>c []
 |r::rs,e,w,c=>axO P r e w λv=>Jp P rs e w λl=>c (v::l)
def ali(P:Program)(rs:List ResultVar)(c:List Value→aq)(x:Ex)(e:Env)(w:World):Prop:=
 match x with
 | .exit _=>False
 |_=>Jp P rs e w λl=>c l w
def CW:Nat→List Value→Env
 |_,[]=>[]
 |n,v::l=>(n,.val v)::CW (n+1) l
def N3(P:Program)(bX:eb)(mask:Nat)(h:sv)(fn:Func)(ks:List K)(args:List Value)(w:World)(c:KT ks→aq):Prop:=
 match fn.body with
 |some b=>ev P bX mask (m6 h b 0).1 (CW 0 args) w (ali P fn.results.toList λl w=>qJ ks l λx=>c x w)
 |none=>False
def Vs(h:sv)(fn:Func)(n:Nat):Bool:=
 match fn.body with
 |some b=>(m6 h b 0).1.fits fn.ntmps&&Nat.ble n fn.ntmps&& !(fn.name== "runtime.NumGoroutine")
 |none=>false
def Vt(P:Program)(bX:eb)(mask:Nat):List AC→Env→World→(Ex→Env→aq)→Prop
 |[],e,w,k=>k .normal e w
 |a::l,e,w,k=>ev P bX mask a e w λx e w=>match x with| .normal=>Vt P bX mask l e w k|x=>k x e w
def spine:List AC→Code→Code
 |[],c=>c
 |a::l,c=> .seq a.code (spine l c)
def ai1(P:Program)(bX:eb)(alj:(Value→aq)→eb)(dR:List Value→World→(aq)→Prop)(dP:List Value→Value→World→(aq)→Prop)
  (mask:Nat) (pre:List AC) (d:Nat) (g:FuncId) (aai:List Operand) (post:AC) (fn:Func) (ks:List K) (args:List Value) (w:World) (c:KT ks→aq):Prop:=
 Vt P bX mask pre (CW 0 args) w λx e w=>match x with
  | .normal=>match opsL e.op aai with
   |some l=>lH (e.put d (.func (.func g) #[] l.toArray)) λe=>
    ev P (alj λv w=>dP l v w λw=>Jp P fn.results.toList (e.unw post) w λl=>qJ ks l λx=>c x w) mask post e w λx e w=>match x with
     | .exit _=>False
     |_=>dR l w λw=>Jp P fn.results.toList e w λl=>qJ ks l λx=>c x w
   |none=>False
  |x=>ali P fn.results.toList (λl w=>qJ ks l λx=>c x w) x e w
def ai2(P:Program)(bX:eb)(mask:Nat)(c:AC)(args:List Value)(w:World)(k:aq):Prop:=
 ev P bX mask c (CW 0 args) w λx _ w=>match x with| .exit _=>False|_=>k w
def ayv:Array Oper→Bool:=λops=>match ops.toList.reverse with|o::_=>(match o.op with| .defer _=>true|_=>false)|[]=>false
def aeI:Code→Option (List Code×Nat×Array Oper×Code)
 | .seq (.region id ops d) c=>match ayv ops with
  |true=>some ([],id,ops,c)
  |false=>match aeI c with|some (l,r)=>some (.region id ops d::l,r)|none=>none
 | .seq x c=>match aeI c with|some (l,r)=>some (x::l,r)|none=>none
 |_=>none
def ZS(fn:Func):List Code×Nat×Array Oper×Code:=match fn.body with|some b=>(match aeI b with|some r=>r|none=>([],0,#[],.skip))|none=>([],0,#[],.skip)
def axP(c:Code):AC:=(m6 [] c 0).1
def aA2(fn:Func):List AC:=(ZS fn).1.map axP
def aA3(fn:Func):Nat:=(ZS fn).2.1
def axQ(fn:Func):List Oper:=(ZS fn).2.2.1.toList
def ayw(fn:Func):AC:=axP (ZS fn).2.2.2
def xMk(fn:Func):Oper:=(axQ fn).headD default
def xDf(fn:Func):Oper:=(axQ fn).getLastD default
def xD(fn:Func):Nat:=match (xMk fn).dst with|some d=>d|none=>0
def xG(fn:Func):FuncId:=match (xMk fn).op with| .makeFunc (.func g) _ _=>g|_=>0
def ayx(fn:Func):List Operand:=match (xMk fn).op with| .makeFunc _ _ c=>c.toList|_=>[]
abbrev bn:=List Value→World→(Value→aq)→Prop
def aaj:List (Nat×bn)→FuncId→bn
 |[],_,_,_,_=>False
 |(n,d)::l,f,args,w,c=>match Nat.beq n f with|true=>d args w c|false=>aaj l f args w c
def kw(l:List (Nat×bn)):eb:=λfn args w c=>match fn with| .func f=>aaj l f args.toList w c|_=>False
def Jq(l:List (Nat×bn))(Y:Nat→bn):eb:=λfn args w c=>match fn with| .func f=>aaj l f args.toList w c| .yield n=>Y n args.toList w c|_=>False
def aA4(a:Act)(s:Nat):EV→Prop
 | .val v=>a.tmps[s]?=some v
 | .gd g want v=>(a.tmps[g]?=some (.bool want)→a.tmps[s]?=some v)∧(a.tmps[g]?≠some (.bool want)→a.tmps[s]?=some undef)
def Sub(e:Env)(a:Act):Prop:=∀p∈e,aA4 a p.1 p.2
theorem beq_eq{a b:Nat}(h:Nat.beq a b=true):a=b:=Nat.eq_of_beq_eq_true h
theorem alk{a b:Nat}(h:Nat.beq a b=false):a≠b:=λe=>by subst e;simp at h
theorem Cv:∀{e:Env} {t:Nat} {x:EV},e.find t=some x→(t,x)∈e
 |[],_,_,h=>by simp[Env.find]at h
 |(s,y)::e,t,x,h=>by
  unfold Env.find at h;split at h
  ·rename_i hb;have:=beq_eq hb;subst this;cases h;exact List.mem_cons_self
  ·exact List.mem_cons_of_mem _ (Cv h)
def uD(ρ:Operand→Option Value)(a:Act):Prop:=∀x v,ρ x=some v→a.eval x=v
theorem Vu{a:Act}{t:Nat}{v:Value}(h:a.tmps[t]?=some v):a.eval (.tmp t)=v:=by
 simp[Act.eval,h]
theorem pZ{e:Env}{a:Act}(h:Sub e a):uD e.op a:=by
 intro x v hx;cases x with
 |tmp t=>
  simp only[Env.op]at hx;split at hx
  ·rename_i u hf;cases hx;exact Vu (h _ (Cv hf))
  ·cases hx
 |const u=>simp[Env.op]at hx;subst hx;rfl
 |global g=>simp[Env.op]at hx;subst hx;rfl
 |func f=>simp[Env.op]at hx;subst hx;rfl
theorem ai3{e:Env}{a:Act}{g:Nat}{b:Bool}(h:Sub e a)(hg:a.tmps[g]?=some (.bool b)):uD (e.opG g b) a:=by
 intro x v hx;cases x with
 |tmp t=>
  simp only[Env.opG]at hx;split at hx
  ·rename_i u hf;cases hx;exact Vu (h _ (Cv hf))
  ·rename_i g' want u hf;split at hx
   ·rename_i hc;simp only[iZ]at hc;have h1:=beq_eq hc.1;have h2:want=b:=by simpa using hc.2
    subst h1;subst h2;cases hx
    exact Vu ((h _ (Cv hf)).1 hg)
   ·cases hx
  ·cases hx
 |const u=>simp[Env.opG]at hx;subst hx;rfl
 |global g=>simp[Env.opG]at hx;subst hx;rfl
 |func f=>simp[Env.opG]at hx;subst hx;rfl
theorem Vv{e:Env}{a:Act}{g:Nat}{b:Bool}(h:Sub e a)(hg:a.tmps[g]?=some (.bool b)){x:Operand}{v:Value}(hx:e.under g b x=some v):a.eval x=v:=by
 cases x with
 |tmp t=>
  simp only[Env.under]at hx;split at hx
  ·rename_i g' want u hf;split at hx
   ·rename_i hc;simp only[iZ]at hc;have h1:=beq_eq hc.1;have h2:want=b:=by simpa using hc.2
    subst h1;subst h2;cases hx
    exact Vu ((h _ (Cv hf)).1 hg)
   ·cases hx
  ·cases hx
 |_=>simp[Env.under]at hx
theorem FO{a:Act}{d s:Nat}{v:Value}(h:s≠d):(a.put (some d) v).tmps[s]?=a.tmps[s]?:=by
 simp[Act.put,Array.getElem?_setIfInBounds_ne (Ne.symm h)]
theorem Vw{a:Act}{d:Nat}{v:Value}(h:d<a.tmps.size):(a.put (some d) v).tmps[d]?=some v:=by
 simp[Act.put,h]
theorem alm{e:Env}{a:Act}{d:Nat}{v:Value}(h:Sub e a):Sub (e.del d) (a.put (some d) v):=by
 intro p hp;unfold Env.del at hp;rw[List.mem_filter]at hp;obtain⟨hp,hc⟩:=hp;obtain⟨s,x⟩:=p;simp only[iZ,Bool.not_eq_true']at hc;have hs:=alk hc.1;have h0:=h _ hp;cases x with
 |val u=>show _=_;rw[FO hs];exact h0
 |gd g want u=>
  have hg:g≠d:=alk hc.2;show(_→(a.put (some d) v).tmps[s]?=some u)∧_;rw[FO hg,FO hs];exact h0
theorem aln{e:Env}{a:Act}{d:Nat}{v:Value}(h:Sub e a)(hd:d<a.tmps.size):Sub (e.put d v) (a.put (some d) v):=by
 intro p hp;unfold Env.put at hp;rcases List.mem_cons.1 hp with rfl|hp
 ·exact Vw hd
 ·exact alm h p hp
theorem y4{e:Env}{a:Act}{d:Option Nat}{v:Value}(h:Sub e a)(hd:∀x,d=some x→x<a.tmps.size):Sub (e.Vo d v) (a.put d v):=by
 cases d with
 |none=>exact h
 |some d=>exact aln h (hd d rfl)
theorem Vx{e:Env}{a:Act}{d g:Nat}{want:Bool}{v v':Value}(h:Sub e a)(hd:d<a.tmps.size)(hne:d≠g)(hv:a.tmps[g]?=some (.bool want)→v'=v)(FP:a.tmps[g]?≠some (.bool want)→v'=undef):Sub (e.apc d g want v) (a.put (some d) v'):=by
 intro p hp;unfold Env.apc at hp;rcases List.mem_cons.1 hp with rfl|hp
 ·show(_→(a.put (some d) v').tmps[d]?=some v)∧_;rw[FO (Ne.symm hne),Vw hd];exact⟨λhw=>by rw[hv hw],λhw=>by rw[FP hw]⟩
 ·exact alm h p hp
theorem B0{e:Env}{a:Act}{g:Nat}{b:Bool}(h:Sub e a)(hg:a.tmps[g]?=some (.bool b)):Sub (e.refine g b) a:=by
 intro p hp;unfold Env.refine at hp;rcases List.mem_cons.1 hp with rfl|hp
 ·exact hg
 ·rw[List.mem_filterMap]at hp;obtain⟨⟨s,x⟩,hm,hx⟩:=hp;have h0:=h _ hm;dsimp only at hx;split at hx
  ·cases hx
  ·cases x with
   |val v=>simp only[Option.some.injEq]at hx;subst hx;exact h0
   |gd g' want v=>
    dsimp only at hx;split at hx
    ·rename_i hb;have:=beq_eq hb;subst this;simp only[Option.some.injEq]at hx;subst hx;show a.tmps[s]?=some _;split
     ·rename_i hw;have hw':want=b:=by simpa using hw
      subst hw';exact h0.1 hg
     ·rename_i hw;have hw':want≠b:=by simpa using hw
      exact h0.2 (by rw[hg];simp;exact λe=>hw' e.symm)
    ·simp only[Option.some.injEq]at hx;subst hx;exact h0
theorem adl{ρ:Operand→Option Value}{a:Act}(h:uD ρ a):∀{l:List Operand} {vs:List Value},opsL ρ l=some vs→l.map a.eval=vs
 |[],vs,hl=>by simp[opsL]at hl;subst hl;rfl
 |x::l,vs,hl=>by
  simp only[opsL]at hl;split at hl
  ·rename_i v r hv hr;cases hl
   simp[h x v hv,adl h hr]
  ·cases hl
theorem tu{ρ:Operand→Option Value}{a:Act}(h:uD ρ a){l:Array Operand}{vs:List Value}(hl:opsL ρ l.toList=some vs):l.map a.eval=vs.toArray:=by
 apply Array.ext';simp[adl h hl]
theorem Ug{ρ:Operand→Option Value}{a:Act}(h:uD ρ a):∀{l:List (Nat×Operand)} {vs:List (Nat×Value)},opsOf ρ l=some vs→l.map (fun(i,x)=>(i,a.eval x))=vs
 |[],vs,hl=>by simp[opsOf]at hl;subst hl;rfl
 |(i,x)::l,vs,hl=>by
  simp only[opsOf]at hl;split at hl
  ·rename_i v r hv hr;cases hl
   simp[h x v hv,Ug h hr]
  ·cases hl
theorem PP{k:IntKind}{v:Value}{c:Int→Prop}(h:xy k v c):∃n,v= .int k n∧c n:=by
 unfold xy at h;split at h
 ·split at h
  ·rename_i hk;subst hk;exact⟨_,rfl,h⟩
  ·exact h.elim
 ·exact h.elim
theorem aak{v:Value}{c:Bool→Prop}(h:HL v c):∃n,v= .bool n∧c n:=by
 unfold HL at h;split at h<;>first|exact⟨_,rfl,h⟩|exact h.elim
theorem aal{v:Value}{c:Option Addr→Prop}(h:toP v c):∃n,v= .pointer n∧c n:=by
 unfold toP at h;split at h<;>first|exact⟨_,rfl,h⟩|exact h.elim
theorem adm{v:Value}{c:Addr→Prop}(h:ala v c):∃n,v= .pointer (some n)∧c n:=by
 unfold ala at h;split at h<;>first|exact⟨_,rfl,h⟩|exact h.elim
theorem PR{v:Value}{c:Sl→Prop}(h:toS v c):∃n:Sl,v= .slice n.a n.n n.c∧c n:=by
 unfold toS at h;split at h
 ·rename_i a n k;exact⟨⟨a,n,k⟩,rfl,h⟩
 ·exact h.elim
theorem Uh{v:Value}{c:ByteArray→Prop}(h:Xk v c):∃n,v= .string n∧c n:=by
 unfold Xk at h;split at h<;>first|exact⟨_,rfl,h⟩|exact h.elim
theorem PS{v:Value}{c:Option Nat→Prop}(h:toM v c):∃n,v= .map n∧c n:=by
 unfold toM at h;split at h<;>first|exact⟨_,rfl,h⟩|exact h.elim
theorem agD{v:Value}{c:Array Value→Prop}(h:toA v c):∃n,v= .agg n∧c n:=by
 unfold toA at h;split at h<;>first|exact⟨_,rfl,h⟩|exact h.elim
theorem Vy{k:K}{v:Value}{c:k.T→Prop}(h:Zk k v c):∃x:k.T,v=k.v x∧c x:=by
 cases k with
 |i kk=>exact PP h
 |b=>exact aak h
 |p=>exact aal h
 |a=>exact adm h
 |s=>exact PR h
 |str=>exact Uh h
 |m=>exact PS h
 |ag=>exact agD h
 |raw=>exact⟨v,rfl,h⟩
theorem R3{k:K}{v:Value}{c:Value→Prop}(h:cast k v c):c v:=by
 cases k with
 |i kk=>obtain⟨n,rfl,h'⟩:=PP (c:=λn=>c (.int kk n)) h;exact h'
 |b=>obtain⟨n,rfl,h'⟩:=aak (c:=λn=>c (.bool n)) h;exact h'
 |p=>obtain⟨n,rfl,h'⟩:=aal (c:=λn=>c (.pointer n)) h;exact h'
 |a=>obtain⟨n,rfl,h'⟩:=adm (c:=λn=>c (.pointer (some n))) h;exact h'
 |s=>obtain⟨n,rfl,h'⟩:=PR (c:=λn=>c (.slice n.a n.n n.c)) h;exact h'
 |str=>obtain⟨n,rfl,h'⟩:=Uh (c:=λn=>c (.string n)) h;exact h'
 |m=>obtain⟨n,rfl,h'⟩:=PS (c:=λn=>c (.map n)) h;exact h'
 |ag=>obtain⟨n,rfl,h'⟩:=agD (c:=λn=>c (.agg n)) h;exact h'
 |raw=>exact h
theorem y5:∀{ks:List K} {l:List Value} {c:KT ks→Prop},qJ ks l c→∃x,l=dB ks x∧c x
 |[],[],c,h=>⟨(),rfl,h⟩
 |[],_::_,c,h=>h.elim
 |[k],[v],c,h=>by obtain⟨x,rfl,hc⟩:=Vy h;exact⟨x,rfl,hc⟩
 |[k],[],c,h=>h.elim
 |[k],_::_::_,c,h=>h.elim
 |k::(y::r),v::vs,c,h=>by
  obtain⟨x,rfl,h'⟩:=Vy (c:=λx=>qJ (y::r) vs λxs=>c (x,xs)) h;obtain⟨xs,rfl,hc⟩:=y5 h';exact⟨(x,xs),rfl,hc⟩
 |k::(y::r),[],c,h=>h.elim
theorem B1{P:Program}{t:TypeId}{v:Value}{c:Value→Prop}(h:Xl P t v c):c v:=by
 unfold Xl at h;split at h
 ·exact R3 h
 ·unfold HM toT at h;split at h
  ·obtain⟨x,hx,hc⟩:=y5 h;rw[←hx]at hc;exact hc
  ·exact h.elim
theorem acy{P:Program}{op:BinOp}{t:TypeId}{x y:Operand}{a b:Value}{w:World}(h1:∀c,a≠ .agg c)(h2:a≠ .nilIface):(eqGuard op t x y a b).run P w= .ok () w:=by
 cases a with
 |agg c=>exact absurd rfl (h1 c)
 |nilIface=>exact absurd rfl h2
 |_=>cases op<;>rfl
theorem PT{P:Program}{a:Act}{o:Oper}{op:BinOp}{t:TypeId}{x y:Operand}{yt:TypeId}{v:Value}{w:World}(ho:o.op= .binOp op t x y yt)
  (h1:∀c,a.eval x≠ .agg c) (h2:a.eval x≠ .nilIface) (h:(binOp op t (a.eval x) (a.eval y)).run P w= .ok v w):(execOp a.eval o).run P w= .ok (.value v) w:=by
 simp only[execOp,ho,cL,acy h1 h2,cF,h,cK]
theorem aam{P:Program}{op:BinOp}{t:TypeId}{k k':IntKind}{m n:Int}{v:Value}{w:World}(hk:k=k')(hq:n≠0∨(op≠ .quo∧op≠ .rem))(h:aez op k m n=some v):
  (binOp op t (.int k m) (.int k' n)).run P w= .ok v w:=by
 subst hk;cases op<;>simp only[aez,Option.some.injEq,reduceCtorEq]at h<;>subst h<;>
  first
  |(simp[binOp,Op.intArith];done)
  |(simp[binOp,Op.intBits,oC,Sx,Jl,tB];done)
  |(simp[binOp,Op.intCmp];done)
  |(have hn:n≠0:=by rcases hq with h|h<;>simp_all
    simp[binOp,Op.intDiv,hn,Vm,aab])
theorem Me{P:Program}{op:BinOp}{t:TypeId}{k k':IntKind}{m n:Int}{w:World}(hn:0≤n):
  (op= .shl→(binOp op t (.int k m) (.int k' n)).run P w= .ok (.int k (rX k m n)) w)∧
  (op= .shr→(binOp op t (.int k m) (.int k' n)).run P w= .ok (.int k (If k m n)) w):=by
 have hn':¬n<0:=ah;constructor<;>intro h<;>subst h<;>simp[binOp,Op.shift,hn',rX,If]
theorem jl{P:Program}{t:TypeId}{w:World}{d:TypeDesc}(h:P.underlying t=some d):(underlying t).run P w= .ok d w:=run_underlying h w
theorem vz{P:Program}{t:TypeId}{k:K}(h:rH P t=k)(hk:k≠ .raw):∃d,P.underlying t=some d∧(match k with
  | .i k=>d= .int k| .a=>False| .b=>d= .bool| .str=>d= .string| .p=> ∃e,d= .pointer e| .s=> ∃e,d= .slice e| .m=> ∃x y,d= .map x y
  | .ag=>(∃fs,d= .struct fs)∨(∃n e,d= .array n e)| .raw=>False):=by
 unfold rH at h;split at h<;>subst h<;>first|exact absurd rfl hk|(rename_i hd;exact⟨_,hd,rfl⟩)|(rename_i hd;exact⟨_,hd,_,rfl⟩)|(rename_i hd;exact⟨_,hd,_,_,rfl⟩)|(rename_i hd;exact⟨_,hd,.inl ⟨_,rfl⟩⟩)|(rename_i hd;exact⟨_,hd,.inr ⟨_,_,rfl⟩⟩)
theorem ai4{P:Program}{t:TypeId}{a b:Bool}{w:World}(d:Nat)(h:P.underlying t=some .bool):(Op.equalIn (d+1) t (.bool a) (.bool b)).run P w= .ok (a==b) w:=by
 simp only[Op.equalIn,cL,jl h,cF,cK]
theorem amV{P:Program}{t e:TypeId}{a:Option Addr}{w:World}(d:Nat)(h:P.underlying t=some (.pointer e)):(Op.equalIn (d+1) t (.pointer a) (.pointer none)).run P w= .ok a.isNone w:=by
 cases a<;>simp only[Op.equalIn,cL,jl h,cF,cK,eL]
theorem agE{P:Program}{t e:TypeId}{a:Option Addr}{n c n' c':Nat}{w:World}(d:Nat)(h:P.underlying t=some (.slice e)):(Op.equalIn (d+1) t (.slice a n c) (.slice none n' c')).run P w= .ok a.isNone w:=by
 cases a<;>simp only[Op.equalIn,cL,jl h,cF,cK,eL]
theorem amW{P:Program}{t e e':TypeId}{a:Option Nat}{w:World}(d:Nat)(h:P.underlying t=some (.map e e')):(Op.equalIn (d+1) t (.map a) (.map none)).run P w= .ok a.isNone w:=by
 cases a<;>simp only[Op.equalIn,cL,jl h,cF,cK,eL]
theorem ZT{P:Program}{op:BinOp}{t:TypeId}{x y:Value}{b:Bool}{v:Value}{w:World}
  (hx:∀(op:BinOp),op= .eql→binOp op t x y=(do pure (.bool (←Op.equal t x y)))) (hx':∀(op:BinOp),op= .neq→binOp op t x y=(do pure (.bool (!(←Op.equal t x y)))))
  (he:(Op.equal t x y).run P w= .ok b w) (h:PM op b=some v):(binOp op t x y).run P w= .ok v w:=by
 cases op<;>simp only[PM,Option.some.injEq,reduceCtorEq]at h<;>subst h
 ·rw[hx _ rfl];simp[he]
 ·rw[hx' _ rfl];simp[he]
theorem ai5{P:Program}{op:BinOp}{t:TypeId}{x y v:Value}{w:World}(hok:∀k m k' n,x= .int k m→y= .int k' n→(n≠0∨(op≠ .quo∧op≠ .rem))∧(0≤n∨(op≠ .shl∧op≠ .shr)))
  (h:aeA P op t x y=some v):(binOp op t x y).run P w= .ok v w∧(∀c,x≠ .agg c)∧x≠ .nilIface:=by
 unfold aeA at h;split at h
 ·split at h
  ·rename_i k m k' n;obtain⟨h1,h2⟩:=hok _ _ _ _ rfl rfl;refine⟨?_,λc=>by simp,bc⟩
   split at h
   ·cases h;exact(Me (by rcases h2 with h|h<;>simp_all)).1 rfl
   ·cases h;exact(Me (by rcases h2 with h|h<;>simp_all)).2 rfl
   ·split at h
    ·rename_i hk;exact aam hk h1 h
    ·cases h
  ·cases h
 ·rename_i hk;obtain⟨d,hd,rfl⟩:=vz hk bc;split at h
  ·rename_i a b;refine⟨ZT (b:=a==b) (λop e=>by subst e;rfl) (λop e=>by subst e;rfl) (ai4 9999 hd) h,λc=>by simp,bc⟩
  ·cases h
 ·rename_i hk;split at h
  ·rename_i a b;refine⟨?_,λc=>by simp,bc⟩
   cases op<;>simp only[alg,Vq,Option.some.injEq,reduceCtorEq]at h<;>subst h<;>simp[binOp,Op.stringOp]
  ·cases h
 ·rename_i hk;obtain⟨d,hd,e,rfl⟩:=vz hk bc;split at h
  ·rename_i a;refine⟨ZT (b:=a.isNone) (λop e=>by subst e;rfl) (λop e=>by subst e;rfl) (amV 9999 hd) h,λc=>by simp,bc⟩
  ·cases h
 ·rename_i hk;obtain⟨d,hd,e,rfl⟩:=vz hk bc;split at h
  ·rename_i a _ _ _ _;refine⟨ZT (b:=a.isNone) (λop e=>by subst e;rfl) (λop e=>by subst e;rfl) (agE 9999 hd) h,λc=>by simp,bc⟩
  ·cases h
 ·rename_i hk;obtain⟨d,hd,e,e',rfl⟩:=vz hk bc;split at h
  ·rename_i a;refine⟨ZT (b:=a.isNone) (λop e=>by subst e;rfl) (λop e=>by subst e;rfl) (amW 9999 hd) h,λc=>by simp,bc⟩
  ·cases h
 ·cases h
theorem amX{P:Program}{op:UnOp}{x v:Value}{w:World}(h:apd op x=some v):(Op.unary op x).run P w= .ok v w:=by
 unfold apd at h;split at h<;>(first|cases h|skip)<;>simp[Op.unary,Op.intArith,Op.intBits,Jl]
theorem auQ{a:Act}{y:Operand}{k:IntKind}{n:Int}(hy:a.eval y= .int k n):(ald y=false→n≠0)∧(ZP y=false→0≤n):=by
 constructor<;>intro h<;>(first|unfold ald at h|unfold ZP at h)<;>split at h<;>simp_all[Act.eval]
theorem TA{P:Program}{a:Act}{o:Oper}{b:Builtin}{args:Array Operand}{ts:Array TypeId}{w:World}(ho:o.op= .call {callee:= .builtin b,args,argTypes:=ts}):
  ∃cs,(execOp a.eval o).run P w=(builtin b ts o.type cs (args.map a.eval)).run P w:=by
 simp only[execOp,ho,resolve,cL,cK,cF,invoke];exact⟨_,rfl⟩
theorem aan{P:Program}{ts:Array TypeId}{k:K}(h:alf P ts=k)(hk:k≠ .raw):∃t,ts[0]?=some t∧rH P t=k:=by
 unfold alf at h;split at h
 ·rename_i t ht;exact⟨t,ht,h⟩
 ·subst h;exact absurd rfl hk
theorem ayy{P:Program}{t:TypeId}(h:rH P t= .s):∃e,P.underlying t=some (.slice e):=by
 obtain⟨d,hd,e,rfl⟩:=vz h bc;exact⟨e,hd⟩
theorem apf{P:Program}{t:TypeId}(h:rH P t= .str):P.underlying t=some .string:=by
 obtain⟨d,hd,rfl⟩:=vz h bc;exact hd
theorem alo{P:Program}{t:TypeId}{k:IntKind}(h:rH P t= .i k):P.underlying t=some (.int k):=by
 obtain⟨d,hd,rfl⟩:=vz h bc;exact hd
theorem PU{P:Program}{a:Act}{ρ:Operand→Option Value}{o:Oper}{v:Value}(hρ:uD ρ a)(hp:BP P o.op=true)(h:ZQ P o.op ρ=some v)(w:World):
  (execOp a.eval o).run P w= .ok (.value v) w:=by
 unfold ZQ at h;split at h
 ·rename_i x ho;simp only[execOp,ho,hρ _ _ h,cK]
 ·rename_i x ho;simp only[execOp,ho,hρ _ _ h,cK]
 ·rename_i x i ho;split at h
  ·rename_i vs hx;have h':vs[i]?=some v:=by simpa using h
   simp only[execOp,ho,hρ _ _ hx,Instr.extract,h',cL,cK,cF]
  ·cases h
 ·rename_i fn first captured ho
  split at h
  ·rename_i xs ys hx hy;cases h
   simp only[execOp,ho,Instr.makeFunc,tu hρ hx,tu hρ hy,cL,cK,cF]
  ·cases h
 ·rename_i op t x y yt ho;split at h
  ·rename_i vx vy hx hy;have hx':=hρ _ _ hx;have hy':=hρ _ _ hy;have hok:∀k m k' n,vx= .int k m→vy= .int k' n→(n≠0∨(op≠ .quo∧op≠ .rem))∧(0≤n∨(op≠ .shl∧op≠ .shr)):=by
    intro k m k' n e1 e2;subst e1;subst e2;have hl:=auQ hy';unfold aeA at h;split at h
    ·rename_i kk hk;rw[ho]at hp;simp only[BP,hk,agA]at hp;cases op<;>simp_all[agz]
    ·simp at h
    ·simp at h
    ·simp at h
    ·simp at h
    ·simp at h
    ·simp at h
   have:=ai5 (P:=P) (w:=w) hok h;exact PT ho (by rw[hx'];exact this.2.1) (by rw[hx'];exact this.2.2) (by rw[hx',hy'];exact this.1)
  ·cases h
 ·rename_i op t x ho;split at h
  ·rename_i vx hx;have:=amX (P:=P) (w:=w) h;simp only[execOp,ho,hρ _ _ hx,this,cL,cK,cF]
  ·cases h
 ·rename_i s d x ho;split at h
  ·rename_i kk n k hx hk;cases h
   rw[ho]at hp;simp only[BP,iZ]at hp;cases hs:rH P s<;>simp[hs,isI]at hp
   simp only[execOp,ho,hρ _ _ hx,convert,cL,jl (alo hs),jl (alo hk),cF,Conv.intToInt,cK]
  ·cases h
 ·rename_i cl ho;split at h
  ·rename_i b hcb;have yX:o.op= .call {callee:= .builtin b,args:=cl.args,argTypes:=cl.argTypes}:=by rw[ho,←hcb]
   obtain⟨cs,hc⟩:=TA (P:=P) (a:=a) (w:=w) yX;rw[hc];rw[ho]at hp;simp only[BP,hcb]at hp;unfold evB at h;split at h
   ·rename_i base n c hk hl;obtain⟨t,ht,Zm⟩:=aan hk bc;obtain⟨e,he⟩:=ayy Zm;rw[tu hρ hl];split at h
    ·rename_i hb;cases b<;>simp only[isLen,Bool.false_eq_true]at hb
     cases h
     simp[builtin,Builtin.len_,ht,jl he,goInt]
    ·split at h
     ·rename_i hb;cases b<;>simp only[aiY,Bool.false_eq_true]at hb
      cases h
      simp[builtin,Builtin.cap_,ht,jl he,goInt]
     ·cases h
   ·rename_i s hk hl;obtain⟨t,ht,Zm⟩:=aan hk bc;have he:=apf Zm;rw[tu hρ hl];split at h
    ·rename_i hb;cases b<;>simp only[isLen,Bool.false_eq_true]at hb
     cases h
     simp[builtin,Builtin.len_,ht,jl he,goInt]
    ·cases h
   ·rename_i kk k x ky y hk hl;rw[tu hρ hl];cases b<;>simp only[Option.some.injEq,reduceCtorEq]at h<;>subst h
    ·simp[builtin,Builtin.max_,Builtin.max2,YD]
    ·simp[builtin,Builtin.min_,Builtin.min2,Vn]
   ·cases h
  ·cases h
 ·cases h
theorem run_sizeOf{P:Program}{t:TypeId}{w:World}{i:TypeInfo}(h:P.info? t=some i):(sizeOf t).run P w= .ok i.size w:=by
 simp[sizeOf,typeInfo,h]
theorem aao{P:Program}{t:TypeId}(h:iw P t≠0):∃i,P.info? t=some i∧i.size=iw P t:=by
 unfold iw at*
 split at h
 ·rename_i i hi;exact⟨i,hi,bc⟩
 ·exact absurd rfl h
theorem aap{P:Program}{t:TypeId}{i:TypeInfo}(h:P.info? t=some i):iw P t=i.size:=by simp[iw,h]
theorem aaq{P:Program}{t:TypeId}{w:World}(hk:rH P t= .ag):(isAgg t).run P w= .ok true w:=by
 obtain⟨d,hd,h⟩:=vz hk bc;unfold isAgg;rcases h with⟨fs,rfl⟩|⟨n,e,rfl⟩<;>simp only[cL,jl hd,cF,cK]
theorem Xn{P:Program}{t:TypeId}{w:World}{d:TypeDesc}(hd:P.underlying t=some d)(hk:rH P t≠ .ag):(isAgg t).run P w= .ok false w:=by
 unfold isAgg;simp only[cL,jl hd,cF];cases d<;>first|rfl|(exact absurd (by simp[rH,hd]) hk)
theorem tS{P:Program}{t:TypeId}(hs:iw P t≠0)(w:World):(sizeOf t).run P w= .ok (iw P t) w:=by
 obtain⟨i,hi,he⟩:=aao hs;rw[run_sizeOf hi,he]
theorem vA{P:Program}{k:IntKind}{i:Int}{y:Nat}{c:BoundsCode}{w:World}(h:0≤i∧i≤y):(Instr.sliceBound (.int k i) y c).run P w= .ok i.toNat w:=by
 simp[Instr.sliceBound,asIntOf,h.1,h.2]
theorem Ui{P:Program}{b:Bool}{len cap:Nat}{lo hi:Value}{l h:Int}{kl kh:IntKind}{w:World}(hlo:lo= .int kl l)(hhi:hi= .int kh h)(h1:0≤h∧h≤cap)(h2:0≤l∧l≤h):
  (Instr.sliceBounds b len cap (some lo) (some hi) none).run P w= .ok (l.toNat,h.toNat,cap) w:=by
 subst hlo;subst hhi;have h3:0≤l∧l≤(h.toNat:Int):=ah;simp only[Instr.sliceBounds,cL,cK,cF,vA h1,vA h3]
theorem Xo{P:Program}{b:Bool}{len cap:Nat}{hi:Value}{h:Int}{kh:IntKind}{w:World}(hhi:hi= .int kh h)(h1:0≤h∧h≤cap):
  (Instr.sliceBounds b len cap none (some hi) none).run P w= .ok (0,h.toNat,cap) w:=by
 subst hhi;simp only[Instr.sliceBounds,cL,cK,cF,vA h1]
theorem Xp{P:Program}{b:Bool}{len cap:Nat}{lo:Value}{l:Int}{kl:IntKind}{w:World}(hlo:lo= .int kl l)(h2:0≤l∧l≤len):
  (Instr.sliceBounds b len cap (some lo) none none).run P w= .ok (l.toNat,len,cap) w:=by
 subst hlo;simp only[Instr.sliceBounds,cL,cK,cF,vA h2]
theorem Mf{P:Program}{b:Bool}{len cap:Nat}{w:World}:(Instr.sliceBounds b len cap none none none).run P w= .ok (0,len,cap) w:=by
 simp only[Instr.sliceBounds,cL,cK,cF]
theorem agF{P:Program}{b:Bool}{len cap:Nat}{lo hi mx:Value}{l h m:Int}{kl kh km:IntKind}{w:World}(hlo:lo= .int kl l)(hhi:hi= .int kh h)(Vz:mx= .int km m)
  (h0:0≤m∧m≤cap) (h1:0≤h∧h≤m) (h2:0≤l∧l≤h):
  (Instr.sliceBounds b len cap (some lo) (some hi) (some mx)).run P w= .ok (l.toNat,h.toNat,m.toNat) w:=by
 subst hlo;subst hhi;subst Vz;have h3:0≤l∧l≤(h.toNat:Int):=ah;have h4:0≤h∧h≤(m.toNat:Int):=ah;simp only[Instr.sliceBounds,cL,cK,cF,vA h0,vA h4,vA h3]
theorem ai6{P:Program}{b:Bool}{len cap:Nat}{hi mx:Value}{h m:Int}{kh km:IntKind}{w:World}(hhi:hi= .int kh h)(Vz:mx= .int km m)
  (h0:0≤m∧m≤cap) (h1:0≤h∧h≤m):
  (Instr.sliceBounds b len cap none (some hi) (some mx)).run P w= .ok (0,h.toNat,m.toNat) w:=by
 subst hhi;subst Vz;have h4:0≤h∧h≤(m.toNat:Int):=ah;simp only[Instr.sliceBounds,cL,cK,cF,vA h0,vA h4]
theorem xn{P:Program}{t e:TypeId}{a:Option Addr}{len cap l h m:Nat}{lo hi mx:Option Value}{w:World}(ht:P.underlying t=some (.slice e))(hs:iw P e≠0)
  (hb:(Instr.sliceBounds true len cap lo hi mx).run P w= .ok (l,h,m) w):
  (Instr.sliceAt t (.slice a len cap) lo hi mx).run P w= .ok (.slice (if m=l then a else a.map (·.add (l*iw P e))) (h - l) (m - l)) w:=by
 simp only[Instr.sliceAt,Instr.slice,cL,jl ht,cF,hb,tS hs,cK]
theorem CX{P:Program}{t e:TypeId}{a:Addr}{n l h m:Nat}{lo hi mx:Option Value}{w:World}(ht:P.underlying t=some (.array n e))(hs:iw P e≠0)
  (hb:(Instr.sliceBounds false n n lo hi mx).run P w= .ok (l,h,m) w):
  (Instr.sliceAt t (.pointer (some a)) lo hi mx).run P w= .ok (.slice (some (if m=l then a else a.add (l*iw P e))) (h - l) (m - l)) w:=by
 simp only[Instr.sliceAt,cL,jl ht,cF,Instr.sureAddr,hb,tS hs,cK]
theorem CY{P:Program}{t:TypeId}{s:ByteArray}{l h m:Nat}{lo hi:Option Value}{w:World}(ht:P.underlying t=some .string)
  (hb:(Instr.sliceBounds false s.size s.size lo hi none).run P w= .ok (l,h,m) w):
  (Instr.sliceAt t (.string s) lo hi none).run P w= .ok (.string (s.extract l h)) w:=by
 simp only[Instr.sliceAt,Instr.slice,cL,jl ht,cF,hb,cK,Option.isSome_none,Bool.false_eq_true,if_false]
theorem y6{P:Program}{a:Act}{o:Oper}{t:TypeId}{x:Operand}{lo hi mx:Option Operand}{v:Value}{w:World}(ho:o.op= .slice t x lo hi mx)
  (h:(Instr.sliceAt t (a.eval x) (lo.map a.eval) (hi.map a.eval) (mx.map a.eval)).run P w= .ok v w):(execOp a.eval o).run P w= .ok (.value v) w:=by
 simp only[execOp,ho,cL,h,cF,cK]
theorem aeJ{P:Program}{a:Act}{ρ:Operand→Option Value}{o:Oper}{t:TypeId}{x:Operand}{lo hi mx:Option Operand}{c:Value→Prop}(hρ:uD ρ a)(ho:o.op= .slice t x lo hi mx)
  (h:sM P (.slice t x lo hi mx) ρ c):∃v,c v∧∀w,(execOp a.eval o).run P w= .ok (.value v) w:=by
 unfold sM at h;dsimp only at h;split at h
 ·rename_i base n k e kl l hx ht hl;have hx':=hρ _ _ hx;split at h
  ·exact h.elim
  rename_i hs;split at h
  ·obtain⟨hlo,hc⟩:=h;refine⟨_,hc,λw=>y6 ho ?_⟩;rw[hx'];cases lo with
   |none=>
    simp only[Option.some.injEq,Value.int.injEq]at hl;obtain⟨_,rfl⟩:=hl;exact xn ht hs Mf
   |some y=>exact xn ht hs (Xp (hρ _ _ hl) hlo)
  ·rename_i hh;split at h
   ·rename_i kh hv hhv;obtain⟨h1,h2,hc⟩:=h;refine⟨_,hc,λw=>y6 ho ?_⟩;rw[hx'];cases lo with
    |none=>
     simp only[Option.some.injEq,Value.int.injEq]at hl;obtain⟨_,rfl⟩:=hl;exact xn ht hs (Xo (hρ _ _ hhv) h1)
    |some y=>exact xn ht hs (Ui (hρ _ _ hl) (hρ _ _ hhv) h1 h2)
   ·exact h.elim
  ·rename_i mm hh;split at h
   ·rename_i kh hv km mv hhv hmv;obtain⟨h0,h1,h2,hc⟩:=h;refine⟨_,hc,λw=>y6 ho ?_⟩;rw[hx'];cases lo with
    |none=>
     simp only[Option.some.injEq,Value.int.injEq]at hl;obtain⟨_,rfl⟩:=hl;exact xn ht hs (ai6 (hρ _ _ hhv) (hρ _ _ hmv) h0 h1)
    |some y=>exact xn ht hs (agF (hρ _ _ hl) (hρ _ _ hhv) (hρ _ _ hmv) h0 h1 h2)
   ·exact h.elim
  ·exact h.elim
 ·rename_i s kl l hx ht hl;have hx':=hρ _ _ hx;split at h
  ·obtain⟨h1,h2,hc⟩:=h;rw[kR]at hc;refine⟨_,hc,λw=>y6 ho ?_⟩;rw[hx'];cases lo with
   |none=>
    simp only[Option.some.injEq,Value.int.injEq]at hl;obtain⟨_,rfl⟩:=hl;exact CY ht Mf
   |some y=>exact CY ht (Xp (hρ _ _ hl) h2)
  ·rename_i hh;split at h
   ·rename_i kh hv hhv;obtain⟨h1,h2,hc⟩:=h;refine⟨_,hc,λw=>y6 ho ?_⟩;rw[hx'];cases lo with
    |none=>
     simp only[Option.some.injEq,Value.int.injEq]at hl;obtain⟨_,rfl⟩:=hl;exact CY ht (Xo (hρ _ _ hhv) h1)
    |some y=>exact CY ht (Ui (hρ _ _ hl) (hρ _ _ hhv) h1 h2)
   ·exact h.elim
  ·exact h.elim
 ·rename_i p n e kl l hx ht hl;have hx':=hρ _ _ hx;have hmap:∀(m l sz:Nat),(if m=l then some p else(some p:Option Addr).map (·.add (l*sz)))=some (if m=l then p else p.add (l*sz)):=by intro m l sz;split<;>rfl
  split at h
  ·exact h.elim
  rename_i hs;split at h
  ·obtain⟨hlo,hc⟩:=h;rw[hmap]at hc;refine⟨_,hc,λw=>y6 ho ?_⟩;rw[hx'];cases lo with
   |none=>
    simp only[Option.some.injEq,Value.int.injEq]at hl;obtain⟨_,rfl⟩:=hl;exact CX ht hs Mf
   |some y=>exact CX ht hs (Xp (hρ _ _ hl) hlo)
  ·rename_i hh;split at h
   ·rename_i kh hv hhv;obtain⟨h1,h2,hc⟩:=h;rw[hmap]at hc;refine⟨_,hc,λw=>y6 ho ?_⟩;rw[hx'];cases lo with
    |none=>
     simp only[Option.some.injEq,Value.int.injEq]at hl;obtain⟨_,rfl⟩:=hl;exact CX ht hs (Xo (hρ _ _ hhv) h1)
    |some y=>exact CX ht hs (Ui (hρ _ _ hl) (hρ _ _ hhv) h1 h2)
   ·exact h.elim
  ·exact h.elim
 ·exact h.elim
theorem Cw{P:Program}{t:TypeId}{cs:Array Value}{off:Nat}{v:Value}{w:World}{d:TypeDesc}(hd:P.underlying t=some d)(hk:rH P t≠ .ag)(h:cs[off]?=some v):(part t cs off).run P w= .ok v w:=by
 simp only[part,cL,Xn hd hk,cF,Bool.false_eq_true,if_false,h,cK]
theorem Mg{P:Program}{t:TypeId}{cs:Array Value}{off:Nat}{w:World}(hk:rH P t= .ag)(hs:iw P t≠0):(part t cs off).run P w= .ok (.agg (cs.extract off (off+iw P t))) w:=by
 simp only[part,cL,aaq hk,cF,if_true,tS hs,cK]
theorem tD{P:Program}{t:TypeId}(h:rH P t≠ .raw):∃d,P.underlying t=some d:=by
 obtain⟨d,hd,_⟩:=vz rfl h;exact⟨d,hd⟩
theorem agG{cs:Array Value}{o:Nat}{c:Value→Prop}(h:PJ cs o c):∃v,cs[o]?=some v∧c v:=by
 unfold PJ at h;split at h
 ·rename_i v hv;exact⟨v,hv,h⟩
 ·exact h.elim
theorem aeK{P:Program}{a:Act}{ρ:Operand→Option Value}{o:Oper}{t:TypeId}{x:Operand}{f:Nat}{c:Value→Prop}(hρ:uD ρ a)(ho:o.op= .field t x f)
  (h:sM P (.field t x f) ρ c):∃v,c v∧∀w,(execOp a.eval o).run P w= .ok (.value v) w:=by
 unfold sM at h;dsimp only at h;split at h
 ·rename_i cs fd hx hf;have hx':=hρ _ _ hx;unfold Vp at hf;split at hf
  ·rename_i fs ht;have key:∀v,(∀w,(part fd.type cs fd.offset).run P w= .ok v w)→∀w,(execOp a.eval o).run P w= .ok (.value v) w:=by
    intro v hv w;simp only[execOp,ho,Instr.field,cL,jl ht,cF,hf,hx',asAgg,cK,hv]
   split at h
   ·rename_i hk;split at h
    ·exact h.elim
    ·rename_i hs;exact⟨_,h,key _ λw=>Mg hk hs⟩
   ·exact h.elim
   ·rename_i k GH GI;obtain⟨v,hv,hc⟩:=agG h;obtain⟨d,hd⟩:=tD GI;exact⟨v,R3 hc,key _ λw=>Cw hd GH hv⟩
  ·cases hf
 ·exact h.elim
theorem Xq{P:Program}{a:Act}{ρ:Operand→Option Value}{o:Oper}{t:TypeId}{x:Operand}{f:Nat}{c:Value→Prop}(hρ:uD ρ a)(ho:o.op= .fieldAddr t x f)
  (h:sM P (.fieldAddr t x f) ρ c):∃v,c v∧∀w,(execOp a.eval o).run P w= .ok (.value v) w:=by
 unfold sM at h;dsimp only at h;split at h
 ·rename_i p fd hx hf;have hx':=hρ _ _ hx;unfold Vp at hf;split at hf
  ·rename_i fs ht;split at h
   ·exact h.elim
   ·rename_i hs;refine⟨_,h,λw=> ?_⟩;simp only[execOp,ho,Instr.fieldAt,cL,jl ht,cF,hf,hx',Instr.sureAddr,cK,fieldPlace,tS hs,hs,if_false]
  ·cases hf
 ·exact h.elim
theorem Xr{P:Program}{a:Act}{ρ:Operand→Option Value}{o:Oper}{t:TypeId}{x i:Operand}{c:Value→Prop}(hρ:uD ρ a)(ho:o.op= .indexAddr t x i)
  (h:sM P (.indexAddr t x i) ρ c):∃v,c v∧∀w,(execOp a.eval o).run P w= .ok (.value v) w:=by
 unfold sM at h;dsimp only at h;split at h
 ·rename_i base n k ki i' e hx hi ht;have hx':=hρ _ _ hx;have hi':=hρ _ _ hi;split at h
  ·exact h.elim
  rename_i hs;unfold cZ at h;cases base with
  |none=>exact h.elim
  |some p=>
   obtain⟨hb,hc⟩:=h;refine⟨_,hc,λw=> ?_⟩;simp only[execOp,ho,Instr.indexAt,hx',hi',asIntOf,cL,cK,cF,jl ht,hb,and_self,if_true,tS hs]
 ·rename_i p ki i' n e hx hi ht;have hx':=hρ _ _ hx;have hi':=hρ _ _ hi;split at h
  ·exact h.elim
  rename_i hs;split at h
  ·rename_i j hj;split at h
   ·rename_i hlt;have hij:i'=(j:Int):=by
     unfold ale at hj;split at hj
     ·cases hj
      have:Value.int ki i'=_:=hi'.symm;cases this
      rfl
     ·cases hj
    subst hij;refine⟨_,h,λw=> ?_⟩;have hb:0≤(j:Int)∧(j:Int)<n:=ah;simp only[execOp,ho,Instr.indexAt,hx',hi',asIntOf,cL,cK,cF,jl ht,hb,and_self,if_true,tS hs,Instr.sureAddr,kR]
   ·exact h.elim
  ·obtain⟨hb,hc⟩:=h;refine⟨_,hc,λw=> ?_⟩;simp only[execOp,ho,Instr.indexAt,hx',hi',asIntOf,cL,cK,cF,jl ht,hb,and_self,if_true,tS hs,Instr.sureAddr]
 ·exact h.elim
theorem aeL{P:Program}{a:Act}{ρ:Operand→Option Value}{o:Oper}{t:TypeId}{x i:Operand}{c:Value→Prop}(hρ:uD ρ a)(ho:o.op= .index t x i)
  (h:sM P (.index t x i) ρ c):∃v,c v∧∀w,(execOp a.eval o).run P w= .ok (.value v) w:=by
 unfold sM at h;dsimp only at h;split at h
 ·rename_i cs ki i' n e hx hi ht;have hx':=hρ _ _ hx;have hi':=hρ _ _ hi;split at h
  ·exact h.elim
  ·exact h.elim
  ·rename_i k GH GI;split at h
   ·rename_i hs;obtain⟨hb,h⟩:=h;obtain⟨v,hv,hc⟩:=agG h;obtain⟨d,hd⟩:=tD GI;refine⟨v,R3 hc,λw=> ?_⟩;simp only[execOp,ho,Instr.index,hx',hi',asIntOf,cL,cK,cF,jl ht,hb,and_self,if_true,tS (by rw[hs];simp:iw P e≠0),hs,Nat.mul_one,Cw hd GH hv]
   ·exact h.elim
 ·rename_i s ki i' hx hi ht;have hx':=hρ _ _ hx;have hi':=hρ _ _ hi;obtain⟨h0,h⟩:=h;split at h
  ·rename_i b hb;refine⟨_,h,λw=> ?_⟩;simp only[execOp,ho,Instr.index,hx',hi',asIntOf,cL,cK,cF,jl ht,h0,if_true,hb]
  ·exact h.elim
 ·exact h.elim
theorem ai7{P:Program}{a:Act}{ρ:Operand→Option Value}{o:Oper}{x:Operand}{c:Value→Prop}(hρ:uD ρ a)(ho:o.op= .nilCheck x)
  (h:sM P (.nilCheck x) ρ c):∃v,c v∧∀w,(execOp a.eval o).run P w= .ok (.value v) w:=by
 unfold sM at h;dsimp only at h;split at h
 ·rename_i v hx;have hx':=hρ _ _ hx;unfold nnV at h;split at h
  ·rename_i p;unfold nn at h;cases p with
   |none=>exact h.elim
   |some p=>exact⟨_,h,λw=>by simp only[execOp,ho,hx',cK]⟩
  ·exact⟨_,h,λw=>by simp only[execOp,ho,hx',cK]⟩
  ·exact h.elim
 ·exact h.elim
theorem aeM{P:Program}{a:Act}{ρ:Operand→Option Value}{o:Oper}{t:TypeId}{x:Operand}{c:Value→Prop}(hρ:uD ρ a)(ho:o.op= .makeInterface t x)
  (h:sM P (.makeInterface t x) ρ c):∃v,c v∧∀w,(execOp a.eval o).run P w= .ok (.value v) w:=by
 unfold sM at h;dsimp only at h;split at h
 ·exact h.elim
 ·rename_i hk;split at h
  ·rename_i v hx;obtain⟨d,hd⟩:=tD hk;refine⟨_,h,λw=> ?_⟩;simp only[execOp,ho,hρ _ _ hx,Instr.makeInterface,cL,jl hd,cF];cases d<;>first|rfl|(exact absurd (by simp[rH,hd]) hk)
  ·exact h.elim
theorem Ih{xs ys:Array Value}:∀{m l:List (Nat×Nat)} {r:Bool},pu xs ys (m++l)=some r→∃r1 r2,pu xs ys m=some r1∧pu xs ys l=some r2∧r=(r1&&r2)
 |[],l,r,h=>⟨true,r,rfl,h,bc⟩
 |(o,k)::m,l,r,h=>by
  rw[List.cons_append,pu]at h;split at h
  ·rename_i a b ha hb;split at h
   ·rename_i q qs hq hqs;cases h
    obtain⟨r1,r2,h1,h2,rfl⟩:=Ih hqs;exact⟨q&&r1,r2,by simp[pu,ha,hb,hq,h1],h2,by simp[Bool.and_assoc]⟩
   ·cases h
  ·cases h
theorem N4{xs ys:Array Value}{off sz:Nat}:∀{m:List (Nat×Nat)} {r:Bool},m.all (λx=>Nat.blt x.1 sz)=true→pu xs ys (m.map λx=>(x.1+off,x.2))=some r→
  pu (xs.extract off (off+sz)) (ys.extract off (off+sz)) m=some r
 |[],r,_,h=>h
 |(o,k)::m,r,hm,h=>by
  simp only[List.all_cons,iZ]at hm;have ho:o<sz:=by have:=hm.1;simpa[Nat.blt_eq]using this
  simp only[List.map_cons,pu]at h ⊢;split at h
  ·rename_i a b ha hb;have ha':(xs.extract off (off+sz))[o]?=some a:=by
    rw[Array.getElem?_extract];have hlt:o+off<xs.size:=(AL.1 ha).1;rw[if_pos ah,Nat.add_comm off o];exact ha
   have hb':(ys.extract off (off+sz))[o]?=some b:=by
    rw[Array.getElem?_extract];have hlt:o+off<ys.size:=(AL.1 hb).1;rw[if_pos ah,Nat.add_comm off o];exact hb
   simp only[ha',hb'];split at h
   ·rename_i q qs hq hqs;cases h
    simp[hq,N4 hm.2 hqs]
   ·cases h
  ·cases h
def Go.Op.HZ(d:Nat)(e:TypeId)(n:Nat)(xs ys:Array Value):Nat→Nat→Sem Bool
 |_,0=>pure true
 |i,k+1=>do
  let a←part e xs (i*n)
  let b←part e ys (i*n)
  let r←Op.equalIn d e a b
  if (!r)=true then pure false else Go.Op.HZ d e n xs ys (i+1) k
theorem run_equalIn_array{P:Program}(w:World)(d:Nat)(t e:TypeId)(len:Nat)(xs ys:Array Value)(ht:P.underlying t=some (.array len e)){i:TypeInfo}(hi:P.info? e=some i):
  (Op.equalIn (d+1) t (.agg xs) (.agg ys)).run P w=(Go.Op.HZ d e i.size xs ys 0 len).run P w:=by
 simp only[Op.equalIn,cL,run_underlying ht,cF,run_sizeOf hi];rw[Std.Legacy.Range.forIn_eq_forIn_range'];simp only[Std.Legacy.Range.size,Nat.sub_zero,Nat.add_sub_cancel,Nat.div_one];clear ht;generalize 0=s;induction len generalizing s w with
 |zero=>simp[Go.Op.HZ]
 |succ len ih=>
  simp only[List.range'_succ,List.forIn_cons,Go.Op.HZ,cL,Sem.run_ite];generalize (part e xs (s*i.size)).run P w=r1;cases r1 with
  |ok a w1=>
   simp only[cF];generalize (part e ys (s*i.size)).run P w1=r2;cases r2 with
   |ok b w2=>
    simp only[cF];generalize (Op.equalIn d e a b).run P w2=r3;cases r3 with
    |ok r w3=>
     cases r
     ·simp only[cF,Bool.not_false,if_true,cK]
     ·simp only[cF,Bool.not_true,Bool.false_eq_true,if_false,cK];exact ih w3 (s+1)
    |halt x w3=>simp[Result.andThen]
   |halt x w2=>simp[Result.andThen]
  |halt x w1=>simp[Result.andThen]
def aeN(P:Program)(D:Nat)(t:TypeId)(m:List (Nat×Nat)):Prop:=
 ∀(w:World) (xs ys:Array Value) (off:Nat) (r:Bool),m.all (λx=>Nat.blt x.1 (iw P t))=true→pu xs ys (m.map λx=>(x.1+off,x.2))=some r→
  ∃vx vy,(part t xs off).run P w= .ok vx w∧(part t ys off).run P w= .ok vy w∧(Op.equalIn D t vx vy).run P w= .ok r w
theorem TB{P:Program}{D:Nat}{rec:TypeId→Option (List (Nat×Nat))}(Jr:∀t m,rec t=some m→aeN P D t m):
  ∀(fs:List Field) (os:List (Nat×Nat)) (w:World) (xs ys:Array Value) (r:Bool),PK P rec fs=some os→pu xs ys os=some r→(Op.eqFields D xs ys fs).run P w= .ok r w
 |[],os,w,xs,ys,r,h,he=>by
  simp only[PK,Option.some.injEq]at h;subst h;simp only[pu,Option.some.injEq]at he;subst he;rfl
 |f::fs,os,w,xs,ys,r,h,he=>by
  unfold PK at h;split at h
  ·cases h
  ·rename_i hn;have hn':f.name≠ "_" :=by simpa using hn
   split at h
   ·rename_i m l hm hl;split at h
    ·rename_i n9;cases h
     obtain⟨r1,r2,h1,h2,rfl⟩:=Ih he;obtain⟨vx,vy,hx,hy,hq⟩:=Jr _ _ hm w xs ys f.offset r1 n9 h1;have ih:=TB Jr fs l w xs ys r2 hl h2;unfold Op.eqFields;rw[if_pos hn'];simp only[Sem.run_bind,hx,hy,hq,Result.andThen_ok,Sem.run_ite,ih,Sem.run_pure];cases r1<;>simp
    ·cases h
   ·cases h
theorem VA{P:Program}{D:Nat}{e:TypeId}{m:List (Nat×Nat)}(Jr:aeN P D e m)(n9:m.all (λx=>Nat.blt x.1 (iw P e))=true):
  ∀(n s:Nat) (w:World) (xs ys:Array Value) (r:Bool),pu xs ys (PL (iw P e) m s n)=some r→(Go.Op.HZ D e (iw P e) xs ys s n).run P w= .ok r w
 |0,s,w,xs,ys,r,he=>by
  simp only[PL,pu,Option.some.injEq]at he;subst he;rfl
 |n+1,s,w,xs,ys,r,he=>by
  unfold PL at he;obtain⟨r1,r2,h1,h2,rfl⟩:=Ih he;obtain⟨vx,vy,hx,hy,hq⟩:=Jr w xs ys (s*iw P e) r1 n9 h1;have ih:=VA Jr n9 n (s+1) w xs ys r2 h2;unfold Go.Op.HZ;simp only[cL,hx,hy,hq,cF,Sem.run_ite,ih,cK];cases r1<;>simp
theorem VB{P:Program}{t:TypeId}{fs:Array Field}(h:P.underlying t=some (.struct fs)):P.fieldsOf t=fs:=by simp[Program.fieldsOf,h]
theorem aeO{P:Program}:∀(d:Nat) (t:TypeId) (m:List (Nat×Nat)),FK P d t=some m→∀D,d≤D→
  aeN P D t m∧(rH P t= .ag→∀(w:World) (xs ys:Array Value) (r:Bool),pu xs ys m=some r→(Op.equalIn D t (.agg xs) (.agg ys)).run P w= .ok r w)
 |0,t,m,h,_,_=>by simp[FK]at h
 |d+1,t,m,h,D,hD=>by
  obtain⟨D,rfl⟩:∃D',D=D'+1:=⟨D - 1,ah⟩;have hag:rH P t= .ag→∀(w:World) (xs ys:Array Value) (r:Bool),pu xs ys m=some r→(Op.equalIn (D+1) t (.agg xs) (.agg ys)).run P w= .ok r w:=by
   intro hk w xs ys r he;unfold FK at h;split at h
   ·rename_i hd;simp[rH,hd]at hk
   ·rename_i hd;simp[rH,hd]at hk
   ·rename_i hd;simp[rH,hd]at hk
   ·rename_i fs hd;split at h
    ·cases h
    split at h
    ·cases h
    ·rename_i hs;have oD:P.underlying t=some (.struct (P.fieldsOf t)):=by rw[VB hd];exact hd
     rw[run_equalIn_struct w D t xs ys oD (by simpa using hs),VB hd]
     exact TB (λt m hm=>(aeO d t m hm D ah).1) _ _ w xs ys r h he
   ·rename_i n e hd;split at h
    ·cases h
    split at h
    ·cases h
    rename_i hz;split at h
    ·rename_i mm hm;split at h
     ·rename_i n9;cases h
      obtain⟨i,hi,hsz⟩:=aao hz;rw[run_equalIn_array w D t e n xs ys hd hi,hsz];exact VA (aeO d e mm hm D ah).1 n9 n 0 w xs ys r he
     ·cases h
    ·cases h
   ·cases h
  refine⟨?_,hag⟩;intro w xs ys off r n9 he;by_cases hk:rH P t= .ag
  ·have hs:iw P t≠0:=by
    unfold FK at h;split at h
    ·rename_i hd;simp[rH,hd]at hk
    ·rename_i hd;simp[rH,hd]at hk
    ·rename_i hd;simp[rH,hd]at hk
    ·split at h
     ·cases h
     ·assumption
    ·split at h
     ·cases h
     ·assumption
    ·cases h
   exact⟨_,_,Mg hk hs,Mg hk hs,hag hk w _ _ r (N4 n9 he)⟩
  ·unfold FK at h;split at h
   ·rename_i kk hd;cases h
    simp only[List.map_cons,List.map_nil,pu,Nat.zero_add]at he;split at he
    ·rename_i a b ha hb;refine⟨a,b,Cw hd hk ha,Cw hd hk hb,?_⟩;unfold eqC at he;cases a<;>cases b<;>simp at he
     rename_i k1 x k2 y;by_cases hkk:k1=k2
     ·subst hkk;simp at he;subst he;exact run_equalIn_int w D t k1 kk x y hd
     ·simp[hkk]at he
    ·cases he
   ·rename_i hd;cases h
    simp only[List.map_cons,List.map_nil,pu,Nat.zero_add]at he;split at he
    ·rename_i a b ha hb;refine⟨a,b,Cw hd hk ha,Cw hd hk hb,?_⟩;unfold eqC at he;cases a<;>cases b<;>simp at he
     subst he;exact run_equalIn_bool' w D t _ _ hd
    ·cases he
   ·rename_i hd;cases h
    simp only[List.map_cons,List.map_nil,pu,Nat.zero_add]at he;split at he
    ·rename_i a b ha hb;refine⟨a,b,Cw hd hk ha,Cw hd hk hb,?_⟩;unfold eqC at he;cases a<;>cases b<;>simp at he
     subst he;exact run_equalIn_string w D t _ _ hd
    ·cases he
   ·rename_i hd;exact absurd (by simp[rH,hd]) hk
   ·rename_i hd;exact absurd (by simp[rH,hd]) hk
   ·cases h
theorem TC{P:Program}{w:World}{t t1:TypeId}{v1:Value}{ms}(hu:P.underlying t=some (.interface ms)):(Op.equal t (.iface t1 v1) .nilIface).run P w= .ok false w:=by
 have key:∀d,(Op.equalIn (d+1) t (.iface t1 v1) .nilIface).run P w= .ok false w:=λd=>by simp[Op.equalIn,run_underlying hu]
 exact key 9999
theorem TD{P:Program}{w:World}{t:TypeId}{ms}(hu:P.underlying t=some (.interface ms)):(Op.equal t .nilIface .nilIface).run P w= .ok true w:=by
 have key:∀d,(Op.equalIn (d+1) t .nilIface .nilIface).run P w= .ok true w:=λd=>by simp[Op.equalIn,run_underlying hu]
 exact key 9999
theorem N5{P:Program}{w:World}{op:BinOp}{t t1:TypeId}{x y:Operand}{v1:Value}:(eqGuard op t x y (.iface t1 v1) .nilIface).run P w= .ok () w:=by
 unfold eqGuard;split<;>rfl
theorem N6{P:Program}{w:World}{op:BinOp}{t:TypeId}{x y:Operand}(hy:aex y=true):(eqGuard op t x y .nilIface .nilIface).run P w= .ok () w:=by
 have:y= .const .nilIface:=by
  unfold aex at hy;split at hy
  ·rfl
  ·cases hy
 subst this;unfold eqGuard;split<;>simp
theorem acz{P:Program}{w:World}{t:TypeId}{ps rs v}(hu:P.underlying t=some (.func ps rs v)):(Op.equal t .nilFunc .nilFunc).run P w= .ok true w:=by
 have key:∀d,(Op.equalIn (d+1) t .nilFunc .nilFunc).run P w= .ok true w:=λd=>by simp[Op.equalIn,run_underlying hu]
 exact key 9999
theorem acA{P:Program}{w:World}{t:TypeId}{f:Fn}{l m:Array Value}{ps rs v}(hu:P.underlying t=some (.func ps rs v)):(Op.equal t (.func f l m) .nilFunc).run P w= .ok false w:=by
 have key:∀d,(Op.equalIn (d+1) t (.func f l m) .nilFunc).run P w= .ok false w:=λd=>by simp[Op.equalIn,run_underlying hu]
 exact key 9999
theorem agH{P:Program}{a:Act}{ρ:Operand→Option Value}{o:Oper}{op:BinOp}{t:TypeId}{x y:Operand}{yt:TypeId}{c:Value→Prop}(hρ:uD ρ a)(ho:o.op= .binOp op t x y yt)(hy:aey y=true)
  (h:aeB P op t (ρ x) c):∃v,c v∧∀w,(execOp a.eval o).run P w= .ok (.value v) w:=by
 have hy':a.eval y= .nilFunc:=by
  unfold aey at hy;split at hy
  ·rfl
  ·cases hy
 unfold aeB at h;cases hx:ρ x with
 |none=>rw[hx]at h;exact h.elim
 |some v=>
  have hx':=hρ _ _ hx;rw[hx]at h;dsimp only at h;split at h
  ·rename_i hu;have key:∀b,(∀w,(Op.equal t v .nilFunc).run P w= .ok b w)→Ig (PM op b) c→v≠ .nilIface→(∀z,v≠ .agg z)→∃v,c v∧∀w,(execOp a.eval o).run P w= .ok (.value v) w:=by
    intro b hb hc h1 h2;cases op with
    |eql=>exact⟨_,hc,λw=>PT ho (by rw[hx'];exact h2) (by rw[hx'];exact h1) (by rw[hx',hy'];simp only[binOp,cL,hb,cF,cK])⟩
    |neq=>exact⟨_,hc,λw=>PT ho (by rw[hx'];exact h2) (by rw[hx'];exact h1) (by rw[hx',hy'];simp only[binOp,cL,hb,cF,cK])⟩
    |_=>exact hc.elim
   unfold aac at h;split at h
   ·exact key true (λw=>acz hu) h bc bc
   ·exact key false (λw=>acA hu) h bc bc
   ·exact h.elim
  ·exact h.elim
theorem agJ{P:Program}{a:Act}{ρ:Operand→Option Value}{o:Oper}{op:BinOp}{t:TypeId}{x y:Operand}{yt:TypeId}{c:Value→Prop}(hρ:uD ρ a)(ho:o.op= .binOp op t x y yt)
  (h:sM P (.binOp op t x y yt) ρ c):∃v,c v∧∀w,(execOp a.eval o).run P w= .ok (.value v) w:=by
 unfold sM at h;dsimp only at h;split at h
 ·exact agH hρ ho (by assumption) h
 split at h
 ·rename_i k m k' n hx hy;have hx':=hρ _ _ hx;have hy':=hρ _ _ hy;have key:∀v,(∀w,(binOp op t (.int k m) (.int k' n)).run P w= .ok v w)→∀w,(execOp a.eval o).run P w= .ok (.value v) w:=by
   intro v hv w;exact PT ho (by rw[hx'];intro c;simp) (by rw[hx'];simp) (by rw[hx',hy'];exact hv w)
  split at h
  ·obtain⟨h0,h⟩:=h;exact⟨_,h,key _ λw=>(Me h0).1 rfl⟩
  ·obtain⟨h0,h⟩:=h;exact⟨_,h,key _ λw=>(Me h0).2 rfl⟩
  ·split at h
   ·rename_i hk;obtain⟨h0,h⟩:=h;exact⟨_,h,key _ λw=>aam hk (.inl h0) rfl⟩
   ·exact h.elim
  ·split at h
   ·rename_i hk;obtain⟨h0,h⟩:=h;exact⟨_,h,key _ λw=>aam hk (.inl h0) rfl⟩
   ·exact h.elim
  ·exact h.elim
 ·rename_i s1 s2 hx hy;have hx':=hρ _ _ hx;have hy':=hρ _ _ hy;split at h
  ·obtain⟨hle,h⟩:=h;refine⟨_,h,λw=>PT ho (by rw[hx'];intro c;simp) (by rw[hx'];simp) ?_⟩
   rw[hx',hy'];have hm:¬((s1.size+s2.size:Nat):Int)>IntKind.i64.max:=by
    have:IntKind.i64.max=9223372036854775807:=fY;omega
   simp only[binOp,Op.stringOp,hm,if_false,cK]
  ·exact h.elim
 ·rename_i xs ys hx hy;have hx':=hρ _ _ hx;have hy':=hρ _ _ hy;split at h
  ·exact h.elim
  rename_i hg;have KW:P.eqGuardType P.depth t=false:=by simpa using hg
  have key:∀v,(∀w,(binOp op t (.agg xs) (.agg ys)).run P w= .ok v w)→∀w,(execOp a.eval o).run P w= .ok (.value v) w:=by
   intro v hv w;simp only[execOp,ho,cL,hx',hy',run_eqGuard_agg w op t x y xs ys KW,cF,hv w,cK]
  split at h
  ·rename_i hk;split at h
   ·rename_i os hl;unfold Zl at h;split at h
    ·rename_i b hb;have:=λw=>(aeO 20 t os hl 10000 ah).2 hk w xs ys b hb;refine⟨_,h,key _ λw=> ?_⟩;rw[run_eql_struct,this w];rfl
    ·exact h.elim
   ·rename_i os hl;unfold Zl at h;split at h
    ·rename_i b hb;have:=λw=>(aeO 20 t os hl 10000 ah).2 hk w xs ys b hb;refine⟨_,h,key _ λw=> ?_⟩;rw[run_neq_struct,this w];rfl
    ·exact h.elim
   ·exact h.elim
  ·exact h.elim
 ·rename_i t1 v1 hx hy;have hx':=hρ _ _ hx;have hy':=hρ _ _ hy;split at h
  ·rename_i ms hu;split at h
   ·refine⟨_,h,λw=> ?_⟩;simp only[execOp,ho,cL,hx',hy',N5,cF,binOp,TC hu,cK]
   ·refine⟨_,h,λw=> ?_⟩;simp only[execOp,ho,cL,hx',hy',N5,cF,binOp,TC hu,cK,Bool.not_false]
   ·exact h.elim
  ·exact h.elim
 ·rename_i hx hy;have hx':=hρ _ _ hx;have hy':=hρ _ _ hy;split at h
  ·rename_i hn;split at h
   ·rename_i ms hu;split at h
    ·refine⟨_,h,λw=> ?_⟩;simp only[execOp,ho,cL,hx',hy',N6 hn,cF,binOp,TD hu,cK]
    ·refine⟨_,h,λw=> ?_⟩;simp only[execOp,ho,cL,hx',hy',N6 hn,cF,binOp,TD hu,cK,Bool.not_true]
    ·exact h.elim
   ·exact h.elim
  ·exact h.elim
 ·exact h.elim
theorem YE{P:Program}{a:Act}{ρ:Operand→Option Value}{o:Oper}{c:Value→Prop}(hρ:uD ρ a)(h:sM P o.op ρ c):∃v,c v∧∀w,(execOp a.eval o).run P w= .ok (.value v) w:=by
 cases ho:o.op with
 |binOp op t x y yt=>rw[ho]at h;exact agJ hρ ho h
 |nilCheck x=>rw[ho]at h;exact ai7 hρ ho h
 |fieldAddr s x f=>rw[ho]at h;exact Xq hρ ho h
 |field s x f=>rw[ho]at h;exact aeK hρ ho h
 |indexAddr t x i=>rw[ho]at h;exact Xr hρ ho h
 |index t x i=>rw[ho]at h;exact aeL hρ ho h
 |slice t x lo hi mx=>rw[ho]at h;exact aeJ hρ ho h
 |makeInterface t x=>rw[ho]at h;exact aeM hρ ho h
 |_=>rw[ho]at h;exact h.elim
theorem Mh{w:World}{a:Addr}{c:Value→Prop}(h:rd w a c):∃v,w.cell? a=some v∧c v:=by
 unfold rd at h;split at h
 ·rename_i v hv;exact⟨v,hv,h⟩
 ·exact h.elim
def Mi(n:Nat)(a:Addr)(w w':World):Prop:=∀k,k<n→w'.cell? (a.add k)=w.cell? (a.add k)
theorem add_zero(a:Addr):a.add 0=a:=rfl
theorem YF{P:Program}{w:World}{a:Addr}:∀{n i:Nat} {l:List Value} (acc:Array Value),FC w a i n=some l→∀w',(∀k,k<n→w'.cell? (a.add (i+k))=w.cell? (a.add (i+k)))→
  (loadCellsFrom a i n acc).run P w'= .ok (acc++l.toArray) w'
 |0,i,l,acc,h,w',_=>by simp only[FC,Option.some.injEq]at h;subst h;simp[loadCellsFrom]
 |n+1,i,l,acc,h,w',hw=>by
  simp only[FC]at h;split at h
  ·rename_i v hv;split at h
   ·rename_i l' hl;cases h
    have h0:=hw 0 ah;simp only[Nat.add_zero]at h0;have ih:=YF (P:=P) (acc.push v) hl w' (λk hk=>by have:=hw (k+1) ah;rwa[show i+(k+1)=i+1+k by omega]at this)
    simp only[loadCellsFrom,cL,run_load,h0,hv,cF,ih];simp
   ·cases h
  ·cases h
theorem YG{P:Program}{t:TypeId}{v:Value}{w:World}{c:Value→Prop}(h:Jm P t (some v) w c):
  ∃p u,v= .pointer (some p)∧c u∧∀w',Mi (Mc P t) p w w'→(Instr.loadAt t v).run P w'= .ok u w':=by
 unfold Jm at h;split at h
 ·rename_i p hv;cases hv
  have key:rH P t≠ .ag→(∃d,P.underlying t=some d)→∀u,w.cell? p=some u→∀w',Mi (Mc P t) p w w'→(Instr.loadAt t (.pointer (some p))).run P w'= .ok u w':=by
   intro hna hd u hu w' hs;have hN:Mc P t=1:=by unfold Mc;split<;>first|exact absurd (by assumption) hna|rfl
   have h0:=hs 0 ah;rw[add_zero,hu]at h0;obtain⟨d,hd⟩:=hd;simp only[Instr.loadAt,Instr.sureAddr,cL,cK,cF,loadVar,Xn hd hna,Bool.false_eq_true,if_false,run_load,h0]
  split at h
  ·rename_i kk hkk;obtain⟨u,hu,h⟩:=Mh h;obtain⟨n,rfl,h'⟩:=PP (c:=λn=>c (.int kk n)) h;exact⟨p,_,rfl,h',key (by simp[hkk]) (tD (by simp[hkk])) _ hu⟩
  ·rename_i hkk;obtain⟨u,hu,h⟩:=Mh h;obtain⟨n,rfl,h'⟩:=aak (c:=λn=>c (.bool n)) h;exact⟨p,_,rfl,h',key (by simp[hkk]) (tD (by simp[hkk])) _ hu⟩
  ·rename_i hkk;obtain⟨u,hu,h⟩:=Mh h;obtain⟨n,rfl,h'⟩:=aal (c:=λn=>c (.pointer n)) h;exact⟨p,_,rfl,h',key (by simp[hkk]) (tD (by simp[hkk])) _ hu⟩
  ·exact h.elim
  ·rename_i hkk;obtain⟨u,hu,h⟩:=Mh h;obtain⟨n,rfl,h'⟩:=PR (c:=λn=>c (.slice n.a n.n n.c)) h;exact⟨p,_,rfl,h',key (by simp[hkk]) (tD (by simp[hkk])) _ hu⟩
  ·rename_i hkk;obtain⟨u,hu,h⟩:=Mh h;obtain⟨n,rfl,h'⟩:=Uh (c:=λn=>c (.string n)) h;exact⟨p,_,rfl,h',key (by simp[hkk]) (tD (by simp[hkk])) _ hu⟩
  ·rename_i hkk;obtain⟨u,hu,h⟩:=Mh h;obtain⟨n,rfl,h'⟩:=PS (c:=λn=>c (.map n)) h;exact⟨p,_,rfl,h',key (by simp[hkk]) (tD (by simp[hkk])) _ hu⟩
  ·rename_i hkk;split at h
   ·exact h.elim
   rename_i hz;unfold bD at h;split at h
   ·rename_i l hl;refine⟨p,_,rfl,h,λw' hs=> ?_⟩;have hN:Mc P t=iw P t:=by unfold Mc;rw[hkk]
    rw[hN]at hs;simp only[Instr.loadAt,Instr.sureAddr,cL,cK,cF,loadVar,aaq hkk,if_true,tS hz,loadCells];rw[YF #[] hl w' (λk hk=>by simpa using hs k hk)]
    simp
   ·exact h.elim
  ·rename_i hkk;split at h
   ·rename_i d hd;obtain⟨u,hu,h⟩:=Mh h;exact⟨p,u,rfl,h,key (by simp[hkk]) ⟨d,hd⟩ _ hu⟩
   ·exact h.elim
 ·exact h.elim
theorem YH{P:Program}{a:Act}{ρ:Operand→Option Value}{o:Oper}{t:TypeId}{x:Operand}{w:World}{c:Value→Prop}(hρ:uD ρ a)(ho:o.op= .load t x)(h:Jm P t (ρ x) w c):
  ∃p u,ρ x=some (.pointer (some p))∧c u∧∀w',Mi (Mc P t) p w w'→(execOp a.eval o).run P w'= .ok (.value u) w':=by
 cases hx:ρ x with
 |none=>rw[hx]at h;exact h.elim
 |some v=>
  rw[hx]at h;obtain⟨p,u,rfl,hc,hr⟩:=YG h;refine⟨p,u,rfl,hc,λw' hs=> ?_⟩;simp only[execOp,ho,hρ _ _ hx,cL,hr w' hs,cF,cK]
def uE:Option Nat→Fence
 |none=>Fence.wide
 |some l=>Fence.wide.inRound l
theorem Js(ro:Option Nat)(f:FuncId):(uE ro).fn f:=by cases ro<;>exact trivial
theorem Uj(ro:Option Nat):(uE ro).depth.isSome=true→∀{p:Prop},p:=by cases ro<;>intro h<;>cases h
theorem Mj{ro:Option Nat}{n:Nat}{P:Program}{f:FuncId}{args:Array Value}{w:World}{R:Ending→aq}(h:Calls P f args w R):CallsIn (uE ro) n P f args w R:=by
 cases ro with
 |none=>exact callsIn_wide.2 h
 |some l=>exact(callsIn_wide (n:=n).2 h:CallsIn Fence.wide n P f args w R)
theorem aeP{ro:Option Nat}{n m:Nat}{P:Program}{l:Nat}{f:FuncId}{tmps:Array Value}{assign body:Code}{w:World}{R:Ending→aq}(h:RoundIn Fence.wide m P l f tmps assign body w R):RoundIn (uE ro) n P l f tmps assign body w R:=by
 cases ro with
 |none=>exact⟨h.1,λc cs _=>h.2 c cs (room_wide _)⟩
 |some l'=>exact⟨h.1,λc cs _=>h.2 c cs (room_wide _)⟩
abbrev Uk:=List PanicEntry→aq
def PV:Uk:=λ_ _=>False
def YI(c:Value→aq)(q:Uk):Ending→aq
 | .returned v,w=>c v w
 | .panicked ch,w=>q ch w
 | .outgrown,_=>False
def td(P:Program)(bX:eb)(q:Uk):Prop:=∀fn args w c,bX fn args w c→match fn with
 | .func f=>((∃fn,P.funcs[f]?=some fn∧fn.body.isSome=true∧(fn.name== "runtime.NumGoroutine")=false)∧Calls P f args w (YI c q))∨∃v w',(callFunc f args).run P w= .ok (.value v) w'∧c v w'
 | .yield l=>YieldAt Fence.wide 0 P l args w (YI c q)
 | .method _=> ∃t v,args=#[.iface t v]∧q [{v:= .iface t v,recovered:=false}] w
 |_=>False
section
variable {P:Program} {a:Act} {o:Oper} {w w':World} {K:Act→aq} {Q:Exit→Act→aq} {ro:Option Nat} {n:Nat}
theorem aas{ρ:Operand→Value}{o:Oper}{c:Call}(hc:o.op= .defer c){r:Next}{w w':World}(h:(execOp ρ o).run P w= .ok r w'):∃d,r= .defer d:=by
 simp only[execOp,hc,cL]at h;cases hr:(resolve ρ c o.type).run P w with
 |ok d w1=>rw[hr]at h;simp only[cF,cK]at h;cases h;exact⟨d,rfl⟩
 |halt x w1=>rw[hr]at h;cases h
theorem aat{r:Next}(h:(execOp a.eval o).run P w= .ok r w')(hr:∀d,r≠ .defer d)(hK:o.uponIn (uE ro) n P a K Q (.ok r w')):o.wpIn (uE ro) n P a w K Q:=by
 refine⟨λf _=>Js ro f,?_⟩;rw[Oper.semAt_eq _ _ _ λc hc=>by obtain⟨d,hd⟩:=aas hc h;exact hr d hd,h]
 exact hK
theorem jy{v:Value}(h:(execOp a.eval o).run P w= .ok (.value v) w')(hK:K (a.put o.dst v) w'):o.wpIn (uE ro) n P a w K Q:=aat h (λd hd=>by cases hd) hK
theorem aau(h:(execOp a.eval o).run P w= .ok .skip w')(hK:K (a.put o.dst undef) w'):o.wpIn (uE ro) n P a w K Q:=aat h (λd hd=>by cases hd) hK
theorem adn{v:Value}(hnd:∀c,o.op≠ .defer c)(h:(execOp a.eval o).run P w= .halt (.panic v) w')(hQ:Q (.panic [{v,recovered:=false}]) a w'):o.wpIn (uE ro) n P a w K Q:=by
 refine⟨λf _=>Js ro f,?_⟩;rw[Oper.semAt_eq _ _ _ λc hc=>absurd hc (hnd c),h];exact hQ
theorem uF{r:Result Value}{c:Value→aq}(h:N1 r c):∃v w',r= .ok v w'∧c v w':=by
 unfold N1 at h;split at h
 ·exact⟨_,_,rfl,h⟩
 ·exact h.elim
theorem EY{v:Value}(h:v.oneCell'=true):v.cells=#[v]:=by cases v<;>first|rfl|(simp[Value.oneCell']at h)
theorem agK{p:Addr}{v:Value}{c:aq}(h:bJ w p v c):(store p v).run P w= .ok () (w.setCell p v)∧c (w.setCell p v):=by
 obtain⟨h1,h2,h3,h4⟩:=h;refine⟨?_,h4⟩;rw[run_store P w p v .plain h1];cases hc:w.cell? p with
 |none=>simp[hc]at h2
 |some u=>simp[h3]
theorem YJ{p:Addr}:∀{l:List Value} {i:Nat} {w:World} {c:aq},Jk w p i l c→∃w',(storeCells p l i).run P w= .ok () w'∧c w'
 |[],i,w,c,h=>⟨w,rfl,h⟩
 |v::l,i,w,c,h=>by
  obtain⟨h1,h2⟩:=agK (P:=P) (c:=λw=>Jk w p (i+1) l c) h;obtain⟨w',h3,h4⟩:=YJ h2;exact⟨w',by simp only[storeCells,cL,h1,cF,h3],h4⟩
theorem EZ{raw:Nat→Bool}{place place':Nat→Option (Nat×Nat)}{n:Nat}(hp:∀i x,place' i=some x→place i=some x):
  ∀{l:List (Nat×Value)} {acc:Array Value} {c:Array Value→Prop},PN raw place' n l acc c→acc.size=n→∃cs,Instr.fill place acc l=some cs∧c cs∧cs.size=n
 |[],acc,c,h,hn=>⟨acc,rfl,h,hn⟩
 |(i,v)::l,acc,c,h,hn=>by
  unfold PN at h;split at h
  ·exact h.elim
  ·rename_i off size B2;have aA6:=hp _ _ B2;split at h
   ·exact h.elim
   ·rename_i hle;unfold Instr.fill;simp only[aA6];split at h
    ·split at h
     ·rename_i hs1;obtain⟨ho,h⟩:=h;have hc:v.cells=#[v]:=by cases v<;>first|rfl|exact absurd ho (by simp[Value.oneCell'])
      have hcond:¬((v.cells.size≠size)||decide (off+v.cells.size>acc.size))=true:=by rw[hc];simp[hs1];omega
      rw[if_neg hcond,hc];have:(#[v].zipIdx.foldl (λcs (x,j)=>cs.setIfInBounds (off+j) x) acc)=acc.setIfInBounds off v:=by simp
      rw[this];exact EZ hp h (by simp[hn])
     ·exact h.elim
    split at h
    ·rename_i cs;obtain⟨hsz,h⟩:=h;have hc:(Value.agg cs).cells=cs:=rfl;have hcond:¬((cs.size≠size)||decide (off+cs.size>acc.size))=true:=by simp[hsz];omega
     rw[hc,if_neg hcond];have hs:(cs.zipIdx.foldl (λcs (x,j)=>cs.setIfInBounds (off+j) x) acc).size=n:=by
      have:∀(l:List (Value×Nat)) (b:Array Value),(l.foldl (λcs (x,j)=>cs.setIfInBounds (off+j) x) b).size=b.size:=by
       intro l;induction l with
       |nil=>intro b;rfl
       |cons y l ih=>intro b;simp[ih]
      rw[←Array.foldl_toList,this];exact hn
     exact EZ hp h hs
    ·rename_i hna;split at h
     ·rename_i hs1;have hc:v.cells=#[v]:=by cases v<;>first|rfl|exact absurd rfl (hna _)
      have hcond:¬((v.cells.size≠size)||decide (off+v.cells.size>acc.size))=true:=by rw[hc];simp[hs1];omega
      rw[if_neg hcond,hc];have:(#[v].zipIdx.foldl (λcs (x,j)=>cs.setIfInBounds (off+j) x) acc)=acc.setIfInBounds off v:=by simp
      rw[this];exact EZ hp h (by simp[hn])
     ·exact h.elim
theorem run_places{fs:List Field}(h:∀f∈fs,(P.info? f.type).isSome=true):
  (fs.mapM λf=>(do pure (f.offset,←sizeOf f.type):Sem (Nat×Nat))).run P w= .ok (fs.map λf=>(f.offset,iw P f.type)) w:=by
 induction fs with
 |nil=>rfl
 |cons f fs ih=>
  have h0:=h f List.mem_cons_self;cases hi:P.info? f.type with
  |none=>simp[hi]at h0
  |some i=>
   simp only[List.mapM_cons,cL,run_sizeOf hi,cF,cK,ih (λg hg=>h g (List.mem_cons_of_mem _ hg)),List.map_cons,aap hi]
theorem KX{t:TypeId}{z:Value}(h:zOf P t=some z):(zeroValue t).run P w= .ok z w:=by
 unfold zOf at h;cases hi:P.info? t with
 |none=>simp[hi]at h
 |some i=>
  simp only[hi]at h;simp[zeroValue,typeInfo,hi,h]
theorem run_build{t:TypeId}{l:List (Nat×Value)}{z:Value}{c:Value→Prop}(hz:zOf P t=some z)(hs:z.cells.size=iw P t)(hi:aad P t=true)
  (h:PN (ape P t) (placesOf P t) (iw P t) l z.cells λcs=>c (.agg cs)) {parts:Array (Nat×Value)} (hl:parts.toList=l):∃v,(Instr.build t parts).run P w= .ok v w∧c v:=by
 unfold aad at hi;split at hi
 ·rename_i fs ht;rw[xz]at hi;have B2:(fs.mapM λf=>(do pure (f.offset,←sizeOf f.type):Sem (Nat×Nat))).run P w= .ok ((fs.toList.map λf=>(f.offset,iw P f.type)).toArray) w:=by
   rw[Array.mapM_eq_mapM_toList];simp only[Sem.run_map,run_places hi,cF]
  obtain⟨cs,h1,h2,h3⟩:=EZ (place:=((fs.toList.map λf=>(f.offset,iw P f.type)).toArray[·]?)) (by
   intro i x hx;unfold placesOf at hx;rw[ht]at hx;simp only at hx;split at hx
   ·rename_i f hf;cases hx;simp[hf]
   ·cases hx) h hs
  refine⟨_,?_,h2⟩;simp only[Instr.build,cL,KX hz,cF,jl ht,B2,hl,h1,cK]
 ·rename_i n e ht;cases hie:P.info? e with
  |none=>simp[hie]at hi
  |some i=>
   obtain⟨cs,h1,h2,h3⟩:=EZ (place:=λk=>some (k*iw P e,iw P e)) (by
    intro k x hx;unfold placesOf at hx;rw[ht]at hx;exact hx) h hs
   refine⟨_,?_,h2⟩;rw[aap hie]at h1;simp only[Instr.build,cL,KX hz,cF,jl ht,run_sizeOf hie,hl,h1,cK]
 ·cases hi
theorem FD{f:FuncId}{args:Array Value}(h:∃fn,P.funcs[f]?=some fn∧fn.body.isSome=true∧(fn.name== "runtime.NumGoroutine")=false):(callFunc f args).run P w= .ok (.enter f args) w:=by
 obtain⟨fn,h1,h2,h3⟩:=h;have h4:fn.body.isNone=false:=by cases hb:fn.body<;>simp_all
 simp only[callFunc,Sem.run_bind,run_program,Result.andThen_ok,h1,h3,h4,Bool.false_eq_true,if_false,Sem.run_pure]
theorem am0{bX:eb}{ρ:Operand→Option Value}{c:Value→aq}{q:Uk}(hρ:uD ρ a)(ho:td P bX q)(hq:∀ch w,q ch w→Q (.panic ch) a w)(h:aeE P bX o ρ w c)
  (hK:∀v w',c v w'→K (a.put o.dst v) w'):o.wpIn (uE ro) n P a w K Q:=by
 unfold aeE at h;split at h
 ·rename_i t x y hop;split at h
  ·rename_i p v hx hy;have hx':=hρ _ _ hx;have hy':=hρ _ _ hy;have key:v.cells.size=iw P t→iw P t≠0→∀w',(storeCells p v.cells.toList 0).run P w= .ok () w'→c undef w'→o.wpIn (uE ro) n P a w K Q:=by
    intro h1 h2 w' h3 h4;refine aau (w':=w') ?_ (hK _ _ h4);have h5:¬v.cells.size≠iw P t:=by simp[h1]
    simp only[execOp,hop,hx',hy',Instr.storeAt,Instr.sureAddr,cL,cK,cF,storeVar,tS h2,h5,if_false,h3]
   split at h
   ·rename_i hk;split at h
    ·exact h.elim
    rename_i hz;split at h
    ·rename_i cs;obtain⟨h1,h2⟩:=h;obtain⟨w',h3,h4⟩:=YJ (P:=P) h2;exact key h1 hz w' h3 h4
    ·exact h.elim
   ·split at h
    ·rename_i hs;obtain⟨h1,h2⟩:=agK (P:=P) h;have h0:=h.1;refine key (by rw[EY h0,hs];rfl) (by rw[hs];simp) _ ?_ h2
     rw[EY h0];simp only[storeCells,cL,add_zero,h1,cF,cK]
    ·exact h.elim
  ·exact h.elim
 ·rename_i t hop;split at h
  ·rename_i z hz;refine jy ?_ (hK _ _ h);simp only[execOp,hop,Instr.alloc,cL,KX hz,cF,newVar,newRow,run_newObj,cK,World.alloc_eq]
  ·exact h.elim
 ·rename_i t x hop;split at h
  ·rename_i v hx;split at h
   ·obtain⟨ho,h⟩:=h;refine jy ?_ (hK _ _ h);simp only[execOp,hop,hρ _ _ hx,Instr.box,EY ho,cL,cF,newVar,newRow,run_newObj,cK,World.alloc_eq]
   refine jy ?_ (hK _ _ h);simp only[execOp,hop,hρ _ _ hx,Instr.box,cL,cF,newVar,newRow,run_newObj,cK,World.alloc_eq]
  ·exact h.elim
 ·rename_i t parts hop;split at h
  ·rename_i l z hl hz;split at h
   ·rename_i hcond;obtain⟨v,h1,h2⟩:=run_build (P:=P) (w:=w) (c:=λv=>c v w) hz hcond.1 hcond.2 h (parts:=parts.map fun(i,x)=>(i,a.eval x)) (by simpa using Ug hρ hl)
    refine jy ?_ (hK _ _ h2);simp only[execOp,hop,cL,h1,cF,cK]
   ·exact h.elim
  ·exact h.elim
 ·rename_i t len parts hop;split at h
  ·rename_i e l ht hl;split at h
   ·exact h.elim
   rename_i hc;have GJ:¬len*iw P e>2 ^ 24:=λh=>hc (.inl h);cases hie:P.info? e with
   |none=>exact absurd (.inr (by simp[hie])) hc
   |some i=>
    rw[aap hie]at h GJ;split at h
    ·rename_i z hz;obtain⟨cs,h1,h2,h3⟩:=EZ (place:=λk=>some (k*i.size,i.size)) (λ_ _ hx=>hx) h bc;refine jy ?_ (hK _ _ h2);have alp:(parts.map fun(i,x)=>(i,a.eval x)).toList=l:=by simpa using Ug hρ hl
     by_cases h0:len*i.size=0
     ·rw[if_pos h0]at hz;cases hz
      simp only[h0]at h1 GJ;simp only[execOp,hop,Instr.buildSlice,cL,jl ht,run_sizeOf hie,cF,h0,GJ,if_false,if_true,cK,alp,h1,newRow,run_newObj,World.alloc_eq]
     ·rw[if_neg h0]at hz;cases hzo:zOf P e with
      |none=>simp[hzo]at hz
      |some zz=>
       simp[hzo]at hz;subst hz;simp only[execOp,hop,Instr.buildSlice,cL,jl ht,run_sizeOf hie,cF,h0,GJ,if_false,KX hzo,cK,alp,h1,newRow,run_newObj,World.alloc_eq]
    ·exact h.elim
  ·exact h.elim
 ·rename_i t l k hop;split at h
  ·rename_i x y hx hy;obtain⟨v,w',h1,h2⟩:=uF h;obtain⟨s,rfl,h3⟩:=PR h2;refine jy ?_ (hK _ _ h3);simp only[execOp,hop,hρ _ _ hx,hρ _ _ hy,cL,h1,cF,cK]
  ·exact h.elim
 ·rename_i cl hop;split at h
  ·rename_i b hcb;have yX:o.op= .call {callee:= .builtin b,args:=cl.args,argTypes:=cl.argTypes}:=by rw[hop,←hcb]
   obtain⟨cs,hc⟩:=TA (P:=P) (a:=a) (w:=w) yX;split at h
   ·rename_i vs hvs;rw[tu hρ hvs]at hc;split at h
    ·obtain⟨v,w',h1,h2⟩:=uF h;obtain⟨s,rfl,h3⟩:=PR h2;refine jy ?_ (hK _ _ h3);rw[hc];simp only[builtin,cL,h1,cF,cK]
    ·obtain⟨v,w',h1,h2⟩:=uF h;obtain⟨s,rfl,h3⟩:=PP h2;refine jy ?_ (hK _ _ h3);rw[hc];simp only[builtin,cL,h1,cF,cK]
    ·obtain⟨v,w',h1,h2⟩:=uF h;obtain⟨s,rfl,h3⟩:=PP h2;refine jy ?_ (hK _ _ h3);rw[hc];simp only[builtin,cL,h1,cF,cK]
    ·obtain⟨v,w',h1,h2⟩:=uF h;refine jy ?_ (hK _ _ h2);rw[hc];simp only[builtin,cL,h1,cF,cK]
    ·obtain⟨v,w',h1,h2⟩:=uF h;refine jy ?_ (hK _ _ h2);rw[hc];simp only[builtin,cL,h1,cF,cK]
    ·obtain⟨t,v,h1,h2⟩:=ho _ _ _ _ h;refine adn (v:= .iface t v) (w':=w) (λc=>by rw[hop];intro h;cases h) ?_ (hq _ _ h2)
     rw[hc,h1];simp only[builtin];rfl
    ·exact h.elim
   ·exact h.elim
  ·rename_i f hcb;split at h
   ·rename_i fv vs hf hvs;have pB:cl={callee:= .value f,args:=cl.args,argTypes:=cl.argTypes}:=by rw[←hcb]
    unfold m5 at h;split at h
    ·rename_i id first captured
     rcases ho _ _ _ _ h with⟨h1,h2⟩|⟨v,w1,h1,h2⟩
     ·have hrun:(execOp a.eval o).run P w= .ok (.enter id (first++vs.toArray++captured)) w:=by
       rw[pB]at hop;simp only[execOp,hop,resolve,hρ _ _ hf,tu hρ hvs,Deferred.ofValue,cL,cK,cF,invoke,FD h1]
      refine aat hrun (λd hd=>by cases hd) ⟨λh=>Uj ro h,Mj (h2.mono λe w' he=> ?_)⟩
      cases e with
      |returned v=>exact hK _ _ (B1 he)
      |panicked ch=>exact hq _ _ he
      |outgrown=>exact he.elim
     ·refine jy ?_ (hK _ _ (B1 h2));rw[pB]at hop;simp only[execOp,hop,resolve,hρ _ _ hf,tu hρ hvs,Deferred.ofValue,cL,cK,cF,invoke,h1]
    ·rename_i l first _
     obtain⟨fn,tmps,assign,body,h1,h2⟩:=ho _ _ _ _ h;have hrun:(execOp a.eval o).run P w= .ok (.round l fn tmps assign body) w:=by
      rw[pB]at hop;simp only[execOp,hop,resolve,hρ _ _ hf,tu hρ hvs,Deferred.ofValue,cL,cK,cF,invoke,h1]
     refine aat hrun (λd hd=>by cases hd) ⟨λh=>Uj ro h,aeP (h2.mono λe w' he=> ?_)⟩
     cases e with
     |returned v=>exact hK _ _ (B1 he)
     |panicked ch=>exact hq _ _ he
     |outgrown=>exact he.elim
    ·exact h.elim
   ·exact h.elim
  ·rename_i r name hcb;split at h
   ·rename_i rv vs hr hvs;have pB:cl={callee:= .invoke r name,args:=cl.args,argTypes:=cl.argTypes}:=by rw[←hcb]
    unfold pF at h;split at h
    ·rename_i t v;split at h
     ·rename_i f x w1 hm;have e0:(#[Value.iface t v] ++vs.toArray)[0]?=some (.iface t v):=by simp
      have e1:(#[Value.iface t v] ++vs.toArray).extract 1 (#[Value.iface t v] ++vs.toArray).size=vs.toArray:=by simp
      rcases ho _ _ _ _ h with⟨h1,h2⟩|⟨u,w2,h1,h2⟩
      ·have hrun:(execOp a.eval o).run P w= .ok (.enter f (#[x] ++vs.toArray)) w1:=by
        rw[pB]at hop;simp only[execOp,hop,resolve,hρ _ _ hr,tu hρ hvs,cL,cK,cF,invoke,e0,e1,callMethod,run_program,hm,FD h1]
       refine aat hrun (λd hd=>by cases hd) ⟨λh=>Uj ro h,Mj (h2.mono λe w' he=> ?_)⟩
       cases e with
       |returned v=>exact hK _ _ (B1 he)
       |panicked ch=>exact hq _ _ he
       |outgrown=>exact he.elim
      ·refine jy ?_ (hK _ _ (B1 h2));rw[pB]at hop;simp only[execOp,hop,resolve,hρ _ _ hr,tu hρ hvs,cL,cK,cF,invoke,e0,e1,callMethod,run_program,hm,h1]
     ·exact h.elim
    ·exact h.elim
   ·exact h.elim
 ·rename_i t r hop;split at h
  ·obtain⟨v,w',h1,h2⟩:=uF h;obtain⟨s,rfl,h3⟩:=PS h2;refine jy ?_ (hK _ _ h3);simp only[execOp,hop,Option.map_none,cL,h1,cF,cK]
  ·split at h
   ·rename_i r _ x hx;obtain⟨v,w',h1,h2⟩:=uF h;obtain⟨s,rfl,h3⟩:=PS h2;refine jy ?_ (hK _ _ h3);simp only[execOp,hop,Option.map_some,hρ _ _ hx,cL,h1,cF,cK]
   ·exact h.elim
 ·rename_i t x i ok hop;split at h
  ·rename_i vx vi hx hi;obtain⟨v,w',h1,h2⟩:=uF h;refine jy ?_ (hK _ _ (B1 h2));simp only[execOp,hop,hρ _ _ hx,hρ _ _ hi,cL,h1,cF,cK]
  ·exact h.elim
 ·rename_i t m k x hop;split at h
  ·rename_i vm vk vx hm hk hx;unfold Ma apb at h;split at h
   ·rename_i u w' hr;refine aau ?_ (hK _ _ h);simp only[execOp,hop,hρ _ _ hm,hρ _ _ hk,hρ _ _ hx,cL,hr,cF,cK]
   ·exact h.elim
  ·exact h.elim
 ·rename_i t m k x hop;split at h
  ·rename_i vm vk vx hm hk hx;unfold Ma apb at h;split at h
   ·rename_i u w' hr;refine aau ?_ (hK _ _ h);simp only[execOp,hop,hρ _ _ hm,hρ _ _ hk,hρ _ _ hx,cL,hr,cF,cK]
   ·exact h.elim
  ·exact h.elim
 ·rename_i s d x hop;split at h
  ·rename_i vx hx;obtain⟨v,w',h1,h2⟩:=uF h;refine jy ?_ (hK _ _ (R3 h2));simp only[execOp,hop,hρ _ _ hx,cL,h1,cF,cK]
  ·exact h.elim
 ·rename_i x xt as ok hop;split at h
  ·rename_i vx hx;obtain⟨v,w',h1,h2⟩:=uF h;refine jy ?_ (hK _ _ (B1 h2));simp only[execOp,hop,hρ _ _ hx,cL,h1,cF,cK]
  ·exact h.elim
 ·rename_i x hop;split at h
  ·rename_i vx hx;obtain⟨t,v,h1,h2⟩:=ho _ _ _ _ h;have h1:vx= .iface t v:=by simpa using h1
   subst h1;refine adn (v:= .iface t v) (w':=w) (λc=>by rw[hop];intro h;cases h) ?_ (hq _ _ h2)
   simp only[execOp,hop,hρ _ _ hx];rfl
  ·exact h.elim
 ·exact h.elim
end
section
variable {P:Program} {ops:Array Oper} {a:Act} {o:Oper} {w:World} {q:Uk}
def PQ(q:Uk):Exit→Act→aq:=λe _ w=>match e with| .panic ch=>q ch w|_=>False
theorem R4{ρ:Operand→Value}{o:Oper}{v:Value}{w w':World}(h:(execOp ρ o).run P w= .ok (.value v) w'):∀c,o.op≠ .defer c:=λc hc=>by
 obtain⟨d,hd⟩:=aas hc h;cases hd
def E0(P:Program)(ops:Array Oper)(o:Oper)(a:Act)(w:World)(v:Value):Prop:=
 (Region.wanted o (yielded ops a.tmps)=true∧(execOp a.eval o).run P w= .ok (.value v) w)∨(Region.wanted o (yielded ops a.tmps)=false∧v=undef)
def E1(P:Program)(ops:Array Oper)(q:Uk)(o:Oper)(a:Act)(w:World)(c:Value→aq):Prop:=
 (Region.wanted o (yielded ops a.tmps)=true∧(∀c,o.op≠ .defer c)∧∀(ro:Option Nat) (n:Nat) (K:Act→aq),(∀v w',c v w'→K (a.put o.dst v) w')→o.wpIn (uE ro) n P a w K (PQ q))∨(Region.wanted o (yielded ops a.tmps)=false∧c undef w)
theorem E0.c{v:Value}(h:E0 P ops o a w v):E1 P ops q o a w λu w'=>u=v∧w'=w:=by
 rcases h with⟨h1,h2⟩|⟨h1,h2⟩
 ·exact .inl ⟨h1,R4 h2,λ_ _ K hK=>jy h2 (hK _ _ ⟨rfl,rfl⟩)⟩
 ·exact .inr ⟨h1,h2.symm,rfl⟩
theorem E1.mono{c c':Value→aq}(h:E1 P ops q o a w c)(hc:∀v w',c v w'→c' v w'):E1 P ops q o a w c':=by
 rcases h with⟨h1,h2⟩|⟨h1,h2⟩
 ·exact .inl ⟨h1,h2.1,λro n K hK=>h2.2 ro n K λv w' h=>hK v w' (hc v w' h)⟩
 ·exact .inr ⟨h1,hc _ _ h2⟩
theorem am1{F:Fence}{n:Nat}{K:Act→aq}{Q:Exit→Act→aq}(hq:∀ch w,q ch w→Q (.panic ch) a w)(h:o.wpIn F n P a w K (PQ q)):o.wpIn F n P a w K Q:=by
 refine⟨h.1,?_⟩;have h:=h.2;generalize (o.semAt F.round a.eval).run P w=r at*
 cases r with
 |ok x w'=>
  cases x<;>simp only[Oper.uponIn]at h ⊢ <;>first
   |exact h
   |(refine⟨h.1,h.2.mono λe w'' he=> ?_⟩;cases e with
     |returned v=>exact he
     |panicked c=>exact hq _ _ he
     |outgrown=>obtain⟨_,_,hx⟩:=he;exact hx.elim)
 |halt x w'=>cases x<;>simp only[Oper.uponIn]at h ⊢ <;>first|exact hq _ _ h|exact h.elim
theorem E1.wp{c:Value→aq}(h:E1 P ops q o a w c){ro:Option Nat}{n:Nat}{K:Act→aq}{Q:Exit→Act→aq}(hq:∀ch w,q ch w→Q (.panic ch) a w)(hK:∀v w',c v w'→K (a.put o.dst v) w'):
  if Region.wanted o (yielded ops a.tmps)then o.wpIn (uE ro) n P a w K Q else(∀f,o.about P w a.eval=some f→(uE ro).fn f)∧K (a.put o.dst undef) w:=by
 rcases h with⟨h1,h2⟩|⟨h1,h2⟩
 ·rw[if_pos h1];exact am1 hq (h2.2 ro n K hK)
 ·rw[if_neg (by simp[h1])];exact⟨λf _=>Js ro f,hK _ _ h2⟩
theorem Am(h:o.guard=none)(y:Nat→Option Bool):Region.wanted o y=true:=by simp[Region.wanted,h]
theorem R5{e:Env}{g:Nat}{v:Value}(hs:Sub e a)(h:e.find g=some (.val v)):a.tmps[g]?=some v:=hs _ (Cv h)
theorem auR{bX:eb}{ρ:Operand→Option Value}{c:Value→aq}(hρ:uD ρ a)(ho:td P bX q)(h:adj P bX o ρ w c)(hw:Region.wanted o (yielded ops a.tmps)=true):E1 P ops q o a w c:=by
 refine .inl ⟨hw,λcc hcc=>by
  unfold adj at h;simp[hcc,BP,RX,aeC,Jn,aeE]at h,λro n K hK=> ?_⟩
 unfold adj at h;split at h
 ·rename_i hp;unfold Ig at h;split at h
  ·rename_i v hv;exact jy (PU hρ hp hv w) (hK _ _ h)
  ·exact h.elim
 ·split at h
  ·obtain⟨v,hc,hr⟩:=YE hρ h;exact jy (hr w) (hK _ _ hc)
  ·split at h
   ·rename_i t x hl;have hop:o.op= .load t x:=by
     unfold Jn at hl;split at hl<;>simp_all
    obtain⟨p,u,_,hc,hr⟩:=YH hρ hop h;exact jy (hr w λ_ _=>rfl) (hK _ _ hc)
   ·exact am0 hρ ho (λ_ _ h=>h) h hK
theorem auS{bX:eb}{ρ:Operand→Option Value}{c:Value→aq}(hρ:uD ρ a)(hb:BP P o.op=true∨RX P o.op=true)(h:adj P bX o ρ w c)(hw:Region.wanted o (yielded ops a.tmps)=true):
  ∃v,c v w∧∀w',E0 P ops o a w' v:=by
 unfold adj at h;split at h
 ·rename_i hp;unfold Ig at h;split at h
  ·rename_i v hv;exact⟨v,h,λw'=> .inl ⟨hw,PU hρ hp hv w'⟩⟩
  ·exact h.elim
 ·rename_i hp;rw[if_pos (hb.resolve_left hp)]at h;obtain⟨v,hc,hr⟩:=YE hρ h;exact⟨v,hc,λw'=> .inl ⟨hw,hr w'⟩⟩
theorem KY{x y z:Operand}{b:Bool}(ho:o.op= .pick x y z)(hx:a.eval x= .bool b)(w:World):(execOp a.eval o).run P w= .ok (.value (if b then a.eval y else a.eval z)) w:=by
 simp only[execOp,ho,hx,asBool,cL,cK,cF]
theorem Ul{e:Env}{x y z:Operand}{v:Value}(hs:Sub e a)(h:ZR e x y z=some v):∃b,a.eval x= .bool b∧(if b then a.eval y else a.eval z)=v:=by
 unfold ZR at h;split at h
 ·rename_i g cb hx;have hx':=pZ hs _ _ hx;have hg:a.tmps[g]?=some (.bool cb):=by
   simp only[Env.op]at hx;split at hx
   ·rename_i u hf;cases hx;exact R5 hs hf
   ·cases hx
  refine⟨cb,hx',?_⟩;split at h
  ·rename_i va vb h1 h2;have hy:cb=true→a.eval y= .bool va:=by
    intro hc;subst hc;split at h1
    ·rename_i u hu;cases h1;exact pZ hs _ _ hu
    ·exact Vv hs hg h1
   have hz:cb=false→a.eval z= .bool vb:=by
    intro hc;subst hc;split at h2
    ·rename_i u hu;cases h2;exact pZ hs _ _ hu
    ·exact Vv hs hg h2
   split at h
   ·cases h
    cases cb
    ·simp[hz rfl]
    ·simp[Act.eval]
   ·cases h
    cases cb
    ·simp[Act.eval]
    ·simp[hy rfl]
   ·cases h
    cases cb
    ·simp[hz rfl]
    ·simp[hy rfl]
  ·cases h
 ·cases h
theorem YK{e:Env}{x y z:Operand}{c:Value→Prop}(hs:Sub e a)(h:aae e x y z c):∃b v,a.eval x= .bool b∧(if b then a.eval y else a.eval z)=v∧c v:=by
 unfold aae at h;split at h
 ·rename_i cb hx;have hx':=pZ hs _ _ hx;cases cb
  ·unfold ap Ig at h;simp only at h;split at h
   ·rename_i v hv;exact⟨false,v,hx',by simpa using pZ hs _ _ hv,h⟩
   ·exact h.elim
  ·unfold ap Ig at h;simp only at h;split at h
   ·rename_i v hv;exact⟨true,v,hx',by simpa using pZ hs _ _ hv,h⟩
   ·exact h.elim
 ·exact h.elim
theorem Um{p:Operand×Operand×Operand}(h:RY o.op=some p):o.op= .pick p.1 p.2.1 p.2.2:=by
 unfold RY at h;split at h
 ·rename_i x y z hop;cases h;exact hop
 ·cases h
def Fits(o:Oper)(a:Act):Prop:=∀d,o.dst=some d→d<a.tmps.size
theorem ado{bX:eb}{e:Env}{c:Env→aq}(hs:Sub e a)(hf:Fits o a)(ho:td P bX q)(hw:Region.wanted o (yielded ops a.tmps)=true)(h:RZ P bX o e w c):
  E1 P ops q o a w λv w'=> ∃e',c e' w'∧Sub e' (a.put o.dst v):=by
 unfold RZ at h;split at h
 ·rename_i x y z hp;have hop:=Um hp;split at h
  ·rename_i v hv;obtain⟨b,hx,FP⟩:=Ul hs hv;have hr:=KY (P:=P) (o:=o) hop hx w;rw[FP]at hr;exact .inl ⟨hw,R4 hr,λ_ _ K hK=>jy hr (hK _ _ ⟨_,h,y4 hs hf⟩)⟩
  ·obtain⟨b,v,hx,FP,hc⟩:=YK hs h;have hr:=KY (P:=P) (o:=o) hop hx w;rw[FP]at hr;exact .inl ⟨hw,R4 hr,λ_ _ K hK=>jy hr (hK _ _ ⟨_,hc,y4 hs hf⟩)⟩
 ·exact(auR (pZ hs) ho h hw).mono λv w' hc=>⟨_,hc,y4 hs hf⟩
theorem adp{bX:eb}{e:Env}{c:Env→aq}(hs:Sub e a)(hf:Fits o a)(hb:Uf P o.op=true)(hw:Region.wanted o (yielded ops a.tmps)=true)(h:RZ P bX o e w c):
  ∃e' v,c e' w∧Sub e' (a.put o.dst v)∧∀w',E0 P ops o a w' v:=by
 unfold RZ at h;split at h
 ·rename_i x y z hp;have hop:=Um hp;split at h
  ·rename_i v hv;obtain⟨b,hx,FP⟩:=Ul hs hv;refine⟨_,v,h,y4 hs hf,λw'=> .inl ⟨hw,?_⟩⟩;have hr:=KY (P:=P) (o:=o) hop hx w';rwa[FP]at hr
  ·obtain⟨b,v,hx,FP,hc⟩:=YK hs h;refine⟨_,v,hc,y4 hs hf,λw'=> .inl ⟨hw,?_⟩⟩;have hr:=KY (P:=P) (o:=o) hop hx w';rwa[FP]at hr
 ·rename_i hp;have hb':BP P o.op=true∨RX P o.op=true:=by simpa[Uf,hp]using hb
  obtain⟨v,hc,hr⟩:=auS (ops:=ops) (pZ hs) hb' h hw;exact⟨_,v,hc,y4 hs hf,hr⟩
theorem YL{e:Env}{g:Nat}{want:Bool}{v:Value}(hs:Sub e a)(hg:a.tmps[g]?=some (.bool want))(h:aaf P o.op e g want=some v)(w:World):(execOp a.eval o).run P w= .ok (.value v) w:=by
 unfold aaf at h;split at h
 ·cases h
 split at h
 ·rename_i x y z hp;have hop:=Um hp;obtain⟨b,hx,FP⟩:=Ul (B0 hs hg) h;have hr:=KY (P:=P) (o:=o) hop hx w;rwa[FP]at hr
 ·split at h
  ·rename_i hp;exact PU (ai3 hs hg) hp h w
  ·cases h
def oT(a:Act)(g:Nat)(want:Bool):Bool:=match a.tmps[g]? with|some (.bool b)=>b==want|_=>false
theorem VC{g:Nat}{want:Bool}:oT a g want=true↔a.tmps[g]?=some (.bool want):=by
 unfold oT;split
 ·rename_i b hb;rw[hb];simp
 ·rename_i hn;constructor
  ·intro h;cases h
  ·intro h;exact absurd h (hn _)
theorem PW{g:Nat}{want:Bool}(h:aeF ops o.guard=some (g,want)):Region.wanted o (yielded ops a.tmps)=oT a g want:=by
 unfold aeF at h;split at h
 ·rename_i j wnt hg;split at h
  ·rename_i oj hj;split at h
   ·rename_i d hd;cases h
    simp only[Region.wanted,hg,yielded,hj,hd,Option.bind_some,oT];split<;>simp_all
   ·cases h
  ·cases h
 ·cases h
theorem Ii{g:Nat}{want:Bool}{yes no:Env→Prop}:∀{n:Nat} {e:Env},Sub e a→Xm g want yes no n e→(∃e',Sub e' a∧oT a g want=true∧yes e')∨(∃e',Sub e' a∧oT a g want=false∧no e')
 |0,_,_,h=>h.elim
 |n+1,e,hs,h=>by
  unfold Xm at h;split at h
  ·rename_i b hfind;have hb:=R5 hs hfind;split at h
   ·cases b
    ·simp only[ap,kQ]at h;exact .inr ⟨_,B0 hs hb,by simp[oT,hb],h⟩
    ·simp only[ap,kQ]at h;exact .inl ⟨_,B0 hs hb,by simp[oT,hb],h⟩
   ·cases b
    ·simp only[ap,kQ]at h;exact .inl ⟨_,B0 hs hb,by simp[oT,hb],h⟩
    ·simp only[ap,kQ]at h;exact .inr ⟨_,B0 hs hb,by simp[oT,hb],h⟩
  ·rename_i vs hfind;have hb:=R5 hs hfind;exact .inr ⟨e,hs,by simp[oT,hb],h⟩
  ·split at h
   ·rename_i b hfind;have hb:=R5 hs hfind;cases b
    ·simp only[ap,kQ]at h;exact Ii (B0 hs hb) h
    ·simp only[ap,kQ]at h;exact Ii (B0 hs hb) h
   ·exact h.elim
  ·exact h.elim
theorem adq{bX:eb}{e:Env}{c:Env→aq}(hs:Sub e a)(hf:Fits o a)(ho:td P bX q)(h:Mb P bX ops o e w c):
  E1 P ops q o a w λv w'=> ∃e',c e' w'∧Sub e' (a.put o.dst v):=by
 unfold Mb at h;split at h
 ·rename_i hg;exact ado hs hf ho (Am hg _) h
 ·split at h
  ·exact h.elim
  ·rename_i g want hgs;have hw:=PW (a:=a) hgs;split at h
   ·rename_i v d hpure hd;split at h
    ·exact h.elim
    ·rename_i hne;have aav:d≠g:=by simpa using hne
     have oD:=hf d hd;cases Ij:oT a g want with
     |true=>
      have hb:=VC.1 Ij;have hr:=YL (P:=P) hs hb hpure w;refine .inl ⟨by rw[hw,Ij],R4 hr,λ_ _ K hK=>jy hr (hK _ _ ⟨_,h,?_⟩)⟩
      rw[hd];exact Vx hs oD aav (λ_=>rfl) λhx=>absurd hb hx
     |false=>
      refine .inr ⟨by rw[hw,Ij],_,h,?_⟩
      rw[hd];exact Vx hs oD aav (λhx=>by rw[VC.2 hx]at Ij;cases Ij) λ_=>rfl
   ·rcases Ii hs h with⟨e',hs',Ij,h⟩|⟨e',hs',Ij,h⟩
    ·exact ado hs' hf ho (by rw[hw,Ij]) h
    ·exact .inr ⟨by rw[hw,Ij],_,h,y4 hs' hf⟩
theorem am2{bX:eb}{e:Env}{c:Env→aq}(hs:Sub e a)(hf:Fits o a)(hb:Uf P o.op=true)(h:Mb P bX ops o e w c):
  ∃e' v,c e' w∧Sub e' (a.put o.dst v)∧∀w',E0 P ops o a w' v:=by
 unfold Mb at h;split at h
 ·rename_i hg;exact adp hs hf hb (Am hg _) h
 ·split at h
  ·exact h.elim
  ·rename_i g want hgs;have hw:=PW (a:=a) hgs;split at h
   ·rename_i v d hpure hd;split at h
    ·exact h.elim
    ·rename_i hne;have aav:d≠g:=by simpa using hne
     have oD:=hf d hd;cases Ij:oT a g want with
     |true=>
      have hbv:=VC.1 Ij;refine⟨_,v,h,?_,λw'=> .inl ⟨by rw[hw,Ij],YL hs hbv hpure w'⟩⟩
      rw[hd];exact Vx hs oD aav (λ_=>rfl) λhx=>absurd hbv hx
     |false=>
      refine⟨_,undef,h,?_,λw'=> .inr ⟨by rw[hw,Ij],rfl⟩⟩
      rw[hd];exact Vx hs oD aav (λhx=>by rw[VC.2 hx]at Ij;cases Ij) λ_=>rfl
   ·rcases Ii hs h with⟨e',hs',Ij,h⟩|⟨e',hs',Ij,h⟩
    ·exact adp hs' hf hb (by rw[hw,Ij]) h
    ·exact⟨_,undef,h,y4 hs' hf,λw'=> .inr ⟨by rw[hw,Ij],rfl⟩⟩
theorem E2(a:Act)(d:Option Nat)(v:Value):(a.put d v).tmps.size=a.tmps.size:=by cases d<;>simp[Act.put]
theorem put_defers(a:Act)(d:Option Nat)(v:Value):(a.put d v).defers=a.defers:=by cases d<;>rfl
def oV(ws:Nat→Bool)(a a':Act):Prop:=a'.tmps.size=a.tmps.size∧a'.defers=a.defers∧∀s,ws s=false→a'.tmps[s]?=a.tmps[s]?
theorem oV.refl(ws:Nat→Bool)(a:Act):oV ws a a:=⟨rfl,rfl,λ_ _=>rfl⟩
theorem oV.trans{ws:Nat→Bool}{a b c:Act}(h:oV ws a b)(k:oV ws b c):oV ws a c:=⟨k.1.trans h.1,k.2.1.trans h.2.1,λs hs=>(k.2.2 s hs).trans (h.2.2 s hs)⟩
theorem oV.mono{ws ws':Nat→Bool}{a b:Act}(h:oV ws a b)(hw:∀s,ws' s=false→ws s=false):oV ws' a b:=⟨h.1,h.2.1,λs hs=>h.2.2 s (hw s hs)⟩
theorem oV.put{ws:Nat→Bool}{a:Act}{d:Option Nat}{v:Value}(h:∀x,d=some x→ws x=true):oV ws a (a.put d v):=by
 refine⟨E2 a d v,put_defers a d v,λs hs=> ?_⟩;cases d with
 |none=>rfl
 |some d=>exact FO λe=>by subst e;rw[h _ rfl]at hs;cases hs
def VD(ops:Array Oper)(s:Nat):Bool:=ops.toList.any λo=>match o.dst with|some d=>Nat.beq d s|none=>false
theorem H6{x:Nat}(hm:o∈ops)(h:o.dst=some x):VD ops x=true:=by
 unfold VD;rw[List.any_eq_true];exact⟨o,by simpa using hm,by simp[h]⟩
def R6(n:Nat)(ops:Array Oper):Bool:=ops.toList.all λo=>match o.dst with|some d=>Nat.blt d n|none=>true
theorem Jt{n:Nat}(h:R6 n ops=true)(hm:o∈ops):∀d,o.dst=some d→d<n:=by
 intro d hd;unfold R6 at h;rw[xz]at h;have:=h o (by simpa using hm)
 simpa[hd,Nat.blt_eq]using this
theorem adr{bX:eb}{ro:Option Nat}{n:Nat}{Q:Exit→Act→aq}(ho:td P bX q):∀(l:List Oper) (e:Env) (w:World) (a:Act) (c:Env→aq),(∀ch a' w',oV (VD ops) a a'→q ch w'→Q (.panic ch) a' w')→(∀o∈l,o∈ops)→R6 a.tmps.size ops=true→Sub e a→aag P bX ops l e w c→
  (∀e' w' a',c e' w'→Sub e' a'→oV (VD ops) a a'→Q .normal a' w')→wpListIn (uE ro) n P ops Q l a w
 |[],e,w,a,c,_,_,_,hs,h,hQ=>hQ e w a h hs (.refl _ _)
 |o::l,e,w,a,c,hq,hm,hf,hs,h,hQ=>by
  unfold aag at h;have hmo:=hm o List.mem_cons_self;have hc:=adq hs (Jt hf hmo) ho h;unfold wpListIn;refine hc.wp (λch w h=>hq ch a w (.refl _ _) h) λv w' hx=> ?_;obtain⟨e',hx,hs'⟩:=hx;rw[kQ]at hx;exact adr ho l e' w' _ c (λch a' w' hd h=>hq ch a' w' ((oV.put λx hx=>H6 hmo hx).trans hd) h) (λo h=>hm o (List.mem_cons_of_mem _ h)) (by rw[E2];exact hf) hs' hx λPX w'' a'' h1 h2 h3=>
   hQ PX w'' a'' h1 h2 ((oV.put λx hx=>H6 hmo hx).trans h3)
end
section
variable {P:Program} {ops:Array Oper} {Q:Exit→Act→aq} {q:Uk}
def still(P:Program)(o:Oper):Bool:=Uf P o.op||(Jn o.op).isSome
theorem YM{P:Program}{o:Oper}(h:still P o=true):∀cs b,o.op≠ .select cs b:=by
 intro cs b hb;simp[still,Uf,hb,RY,BP,RX,aeC,Jn]at h
def Sy(h:Nat→aq)(i:Nat)(S:aq):Nat→aq:=λk=>if k=i then S else h k
theorem am3(h:Nat→aq){i j:Nat}(hij:i≠j)(S T:aq):Sy (Sy h i S) j T=Sy (Sy h j T) i S:=by
 funext k;unfold Sy;by_cases h1:k=i<;>by_cases h2:k=j<;>simp_all
def wpH(P:Program)(ops:Array Oper)(su:Nat→Nat→Bool)(q:Uk)(Q:Exit→Act→aq):Nat→Array Bool→(Nat→aq)→Act→aq
 |0,listed,_,a,w=>Region.ready .any ops listed=[]∧Q .normal a w
 |f+1,listed,h,a,w=>(Region.ready .any ops listed=[]→Q .normal a w)∧∀i∈Region.ready .any ops listed,∀o,ops[i]?=some o→
   (still P o=true→∃v S,S w∧(∀w',S w'→E0 P ops o a w' v)∧wpH P ops su q Q f (listed.setIfInBounds i true) (Sy h i S) (a.put o.dst v) w)∧
   (still P o=false→(∀cs b,o.op≠ .select cs b)∧E1 P ops q o a w λv w'=>(∀k,su i k=false→h k w')∧wpH P ops su q Q f (listed.setIfInBounds i true) h (a.put o.dst v) w')
theorem PY{su:Nat→Nat→Bool}{ro:Option Nat}{n:Nat}:∀(f:Nat) (listed:Array Bool) (h:Nat→aq) (a:Act) (w:World),(∀ch a' w',oV (VD ops) a a'→q ch w'→Q (.panic ch) a' w')→wpH P ops su q Q f listed h a w→wpAnyIn (uE ro) n P .any ops Q f listed a w
 |0,_,_,_,_,_,h=>h
 |f+1,listed,hh,a,w,hq,h=>by
  refine⟨h.1,λi hi=> ?_⟩;obtain⟨_,o,ho,_⟩:=mem_ready.1 hi;obtain⟨h1,h2⟩:=h.2 i hi o ho;unfold wpOpIn;rw[ho];cases hs:still P o with
  |true=>
   obtain⟨v,S,hS,hv,hK⟩:=h1 hs;exact((hv w hS).c (q:=q)).wp (λch w h=>hq ch a w (.refl _ _) h) λu w' ⟨hu,hw'⟩=>by subst hu;subst hw';exact PY f _ _ _ _ (λch a' w' hd h=>hq ch a' w' ((oV.put λx hx=>H6 (Array.mem_of_getElem? ho) hx).trans hd) h) hK
  |false=>exact(h2 hs).2.wp (λch w h=>hq ch a w (.refl _ _) h) λu w' hK=>PY f _ _ _ _ (λch a' w' hd h=>hq ch a' w' ((oV.put λx hx=>H6 (Array.mem_of_getElem? ho) hx).trans hd) h) hK.2
theorem aaw{o o':Oper}(hap:Oper.apart ops o' o=true)(hs:∀cs b,o.op≠ .select cs b)(a:Act)(v:Value):
  execOp (a.put o'.dst v).eval o=execOp a.eval o∧Region.wanted o (yielded ops (a.put o'.dst v).tmps)=Region.wanted o (yielded ops a.tmps):=by
 have h:=Oper.apart_spec hap;exact⟨execOp_put o hs a o'.dst v h.1,wanted_put o a o'.dst v h.1⟩
theorem Un{o o':Oper}(hap:Oper.apart ops o' o=true)(hs:∀cs b,o.op≠ .select cs b){a:Act}{u v:Value}{w:World}:E0 P ops o (a.put o'.dst u) w v↔E0 P ops o a w v:=by
 obtain⟨h1,h2⟩:=aaw hap hs a u;unfold E0;rw[h1,h2]
theorem api{a b:Act}{d:Option Nat}{u v:Value}(hz:a.tmps.size=b.tmps.size)(h:b.put d u=b.put d v):a.put d u=a.put d v:=by
 cases d with
 |none=>rfl
 |some d=>
  by_cases hd:d<b.tmps.size
  ·have h1:(b.put (some d) u).tmps[d]?=(b.put (some d) v).tmps[d]?:=by rw[h]
   rw[Vw hd,Vw hd]at h1;cases h1
   rfl
  ·have:∀x,a.put (some d) x=a:=by
    intro x;simp only[Act.put];have hx:a.tmps.setIfInBounds d x=a.tmps:=by
     apply Array.ext_getElem?;intro i;by_cases hi:i=d
     ·subst hi;simp[show a.tmps.size≤i by omega]
     ·rw[Array.getElem?_setIfInBounds_ne (Ne.symm hi)]
    rw[hx]
   rw[this,this]
theorem ai9{o o':Oper}(hap:Oper.apart ops o' o=true)(hs:∀cs b,o.op≠ .select cs b){a:Act}{u:Value}{w:World}{c:Value→aq}(h:E1 P ops q o (a.put o'.dst u) w c):E1 P ops q o a w c:=by
 obtain⟨h1,h2⟩:=aaw hap hs a u;unfold E1 at*
 rw[h2]at h;rcases h with⟨hw,hnd,h⟩|⟨hw,h⟩
 ·refine .inl ⟨hw,hnd,λro n K hK=> ?_⟩;have h3:=h ro n (λa1 w1=> ∃v',a1=(a.put o'.dst u).put o.dst v'∧K (a.put o.dst v') w1) λv' w' hc=>⟨v',rfl,hK v' w' hc⟩;refine⟨λf _=>Js ro f,?_⟩;have h3:=h3.2;have aA7:((o.semAt (uE ro).round (a.put o'.dst u).eval).run P w)=((o.semAt (uE ro).round a.eval).run P w):=by
   rw[Oper.semAt_eq _ _ _ hnd,Oper.semAt_eq _ _ _ hnd,h1]
  rw[aA7]at h3;have hz:∀v v':Value,(a.put o'.dst u).put o.dst v=(a.put o'.dst u).put o.dst v'→a.put o.dst v=a.put o.dst v':=λv v'=>api (by rw[E2])
  generalize (o.semAt (uE ro).round a.eval).run P w=r at*
  cases r with
  |ok x w'=>
   cases x with
   |value v=>simp only[Oper.uponIn]at h3 ⊢;obtain⟨v',he,hk⟩:=h3;rw[hz _ _ he];exact hk
   |skip=>simp only[Oper.uponIn]at h3 ⊢;obtain⟨v',he,hk⟩:=h3;rw[hz _ _ he];exact hk
   |defer d=>
    simp only[Oper.uponIn]at h3;obtain⟨v',he,hk⟩:=h3;have h4:=congrArg (λb:Act=>b.defers.length) he;simp only[put_defers,List.length_cons]at h4;omega
   |enter f args=>
    simp only[Oper.uponIn]at h3 ⊢;refine⟨h3.1,h3.2.mono λe w'' he=> ?_⟩;cases e with
    |returned v=>obtain⟨v',he',hk⟩:=he;simp only;rw[hz _ _ he'];exact hk
    |panicked c=>exact he
    |outgrown=>obtain⟨_,_,hx⟩:=he;exact hx.elim
   |round l f t as b=>
    simp only[Oper.uponIn]at h3 ⊢;refine⟨h3.1,h3.2.mono λe w'' he=> ?_⟩;cases e with
    |returned v=>obtain⟨v',he',hk⟩:=he;simp only;rw[hz _ _ he'];exact hk
    |panicked c=>exact he
    |outgrown=>obtain⟨_,_,hx⟩:=he;exact hx.elim
   |row r args=>
    simp only[Oper.uponIn]at h3 ⊢;refine⟨h3.1,RowsIn.mono h3.2 λv w'' he=> ?_⟩;obtain⟨v',he',hk⟩:=he;rw[hz _ _ he'];exact hk
   |_=>simp only[Oper.uponIn]at h3
  |halt x w'=>cases x<;>simp only[Oper.uponIn]at h3 ⊢ <;>exact h3
 ·exact .inr ⟨hw,h⟩
def aja(ops:Array Oper)(su:Nat→Nat→Bool):Prop:=∀i j x y,i<j→ops[i]?=some x→ops[j]?=some y→su j i=false→Oper.apart ops x y=true∧Oper.apart ops y x=true
def aeQ(ops:Array Oper)(su:Nat→Nat→Bool):Prop:=∀j i,su j i=true→∃o,ops[j]?=some o∧∃e∈o.after,Region.binds .any e=true∧e.on<j∧(e.on=i∨su e.on i=true)
def Mk(ops:Array Oper)(listed:Array Bool):Prop:=listed.size=ops.size∧∀j o,ops[j]?=some o→listed.getD j false=true→∀e∈o.after,Region.binds .any e=true→listed.getD e.on false=true
theorem PZ{su:Nat→Nat→Bool}(ha:aeQ ops su){listed:Array Bool}(hc:Mk ops listed):∀(n j i:Nat),j≤n→(∀o,ops[j]?=some o→∀e∈o.after,Region.binds .any e=true→listed.getD e.on false=true)→su j i=true→listed.getD i false=true
 |0,j,i,hj,hd,h=>by
  obtain⟨o,ho,e,he,hb,hlt,_⟩:=ha j i h;omega
 |n+1,j,i,hj,hd,h=>by
  obtain⟨o,ho,e,he,hb,hlt,hx⟩:=ha j i h;have hl:=hd o ho e he hb;rcases hx with rfl|hx
  ·exact hl
  ·exact PZ ha hc n e.on i ah (λo' yX=>hc.2 e.on o' yX hl) hx
theorem Mk.set{listed:Array Bool}(hc:Mk ops listed){i:Nat}(hi:i∈Region.ready .any ops listed):Mk ops (listed.setIfInBounds i true):=by
 obtain⟨_,oi,hoi,n9⟩:=mem_ready.1 hi;refine⟨by simp[hc.1],λj oj hj hl e he hb=> ?_⟩
 by_cases hij:i=j
 ·subst hij;have:oj=oi:=Option.some.inj (hj.symm.trans hoi);subst this;exact getD_set_true (n9 e he hb)
 ·rw[getD_set_ne false hij]at hl;exact getD_set_true (hc.2 j oj hj hl e he hb)
theorem H7{listed:Array Bool}{i:Nat}(hi:i∈Region.ready .any ops listed):i<ops.size:=by
 obtain⟨_,oi,hoi,_⟩:=mem_ready.1 hi;exact(AL.1 hoi).1
theorem aax{listed:Array Bool}{i j:Nat}(hij:i≠j)(hj:j∈Region.ready .any ops listed):j∈Region.ready .any ops (listed.setIfInBounds i true):=by
 obtain⟨h1,o,ho,h2⟩:=mem_ready.1 hj;exact mem_ready.2 ⟨by rw[getD_set_ne true hij];exact h1,o,ho,λe he hb=>getD_set_true (h2 e he hb)⟩
theorem N7{listed:Array Bool}(hc:Mk ops listed){i:Nat}(hi:i<ops.size)(h:listed.getD i true=false):listed.getD i false=false:=by
 have hlt:i<listed.size:=by rw[hc.1];exact hi
 simp[hlt]at h ⊢;exact h
theorem ajb{su:Nat→Nat→Bool}(hap:aja ops su)(ha:aeQ ops su):∀(f:Nat) (listed:Array Bool) (h:Nat→aq) (a:Act) (w:World) (i:Nat) (o:Oper) (v:Value) (S:aq),
  Mk ops listed→(∀k,listed.getD k false=false→h k=λ_=>True)→i∈Region.ready .any ops listed→ops[i]?=some o→still P o=true→S w→(∀w',S w'→E0 P ops o a w' v)→
  wpH P ops su q Q f (listed.setIfInBounds i true) (Sy h i S) (a.put o.dst v) w→wpH P ops su q Q (f+1) listed h a w
 |f,listed,h,a,w,i,o,v,S,hc,hh,hi,ho,hst,hS,hv,hK=>by
  refine⟨λhr=>(by rw[hr]at hi;cases hi),λj hj oj hoj=> ?_⟩
  by_cases hij:i=j
  ·subst hij;have:oj=o:=Option.some.inj (hoj.symm.trans ho);subst this;exact⟨λ_=>⟨v,S,hS,hv,hK⟩,λh'=>by rw[hst]at h';cases h'⟩
  ·have hjr:=aax hij hj;have hir:=aax (Ne.symm hij) hi;obtain⟨hi1,_,_,hi2⟩:=mem_ready.1 hi;obtain⟨hj1,_,_,hj2⟩:=mem_ready.1 hj;have hin:=N7 hc (H7 hi) hi1;have hjn:=N7 hc (H7 hj) hj1;have auW:su i j=false:=by
    cases hx:su i j with
    |false=>rfl
    |true=>
     have:=PZ ha hc i i j (iv _) (λo' yX=>(mem_ready.1 hi).2.elim λoo hoo=>by
      have:o'=oo:=Option.some.inj (yX.symm.trans hoo.1);subst this;exact hoo.2) hx
     rw[hjn]at this;cases this
   have alq:su j i=false:=by
    cases hx:su j i with
    |false=>rfl
    |true=>
     have:=PZ ha hc j j i (iv _) (λo' yX=>(mem_ready.1 hj).2.elim λoo hoo=>by
      have:o'=oo:=Option.some.inj (yX.symm.trans hoo.1);subst this;exact hoo.2) hx
     rw[hin]at this;cases this
   have hapart:Oper.apart ops o oj=true∧Oper.apart ops oj o=true:=by
    rcases Nat.lt_or_gt_of_ne hij with hlt|hlt
    ·exact hap i j o oj hlt ho hoj alq
    ·exact(hap j i oj o hlt hoj ho auW).symm
   have hsel:=YM hst;cases f with
   |zero=>rw[hK.1]at hjr;cases hjr
   |succ f=>
    obtain⟨h1,h2⟩:=hK.2 j hjr oj hoj;have apk:∀u,(a.put o.dst v).put oj.dst u=(a.put oj.dst u).put o.dst v:=λu=>Act.put_comm a v u (Oper.apart_spec hapart.1).2.1;have apl:(listed.setIfInBounds i true).setIfInBounds j true=(listed.setIfInBounds j true).setIfInBounds i true:=Array.setIfInBounds_comm _ _ hij;have hh':∀T,∀k,(listed.setIfInBounds j true).getD k false=false→Sy h j T k=λ_=>True:=by
     intro T k hk;by_cases Zn:k=j
     ·subst Zn;rw[show(listed.setIfInBounds k true).getD k false=true by
        have:k<listed.size:=by rw[hc.1];exact H7 hj
        simp[this]]at hk
      cases hk
     ·unfold Sy;rw[if_neg Zn];exact hh k (by rwa[getD_set_ne false (Ne.symm Zn)]at hk)
    refine⟨λhs=> ?_,λhs=> ?_⟩
    ·obtain⟨u,T,hT,hu,hK2⟩:=h1 hs;have aeR:=YM hs;refine⟨u,T,hT,λw' hw'=>(Un hapart.1 aeR).1 (hu w' hw'),?_⟩;refine ajb hap ha f _ _ _ w i o v S (hc.set hj) (hh' T) hir ho hst hS (λw' hw'=>(Un hapart.2 hsel).2 (hv w' hw')) ?_;rw[apk u,apl,am3 h hij]at hK2;exact hK2
    ·obtain⟨aeR,h2⟩:=h2 hs;refine⟨aeR,(ai9 hapart.1 aeR h2).mono λu w' ⟨ads,hK2⟩=>⟨λk hk=> ?_,?_⟩⟩
     ·by_cases hki:k=i
      ·subst hki;rw[hh k hin];trivial
      ·have:=ads k hk;unfold Sy at this;rwa[if_neg hki]at this
     ·have hS':S w':=by
       have:=ads i alq;unfold Sy at this;rwa[if_pos rfl]at this
      have hh2:∀k,(listed.setIfInBounds j true).getD k false=false→h k=λ_=>True:=by
       intro k hk;by_cases Zn:k=j
       ·subst Zn;exact hh k hjn
       ·exact hh k (by rwa[getD_set_ne false (Ne.symm Zn)]at hk)
      refine ajb hap ha f _ _ _ w' i o v S (hc.set hj) hh2 hir ho hst hS' (λw'' aA8=>(Un hapart.2 hsel).2 (hv w'' aA8)) ?_;rw[apk u,apl]at hK2;exact hK2
end
theorem HN(m i k:Nat):(m|||2 ^ i).testBit k=(m.testBit k||decide (i=k)):=by
 rw[Nat.testBit_or,Nat.testBit_two_pow]
theorem apn(l:List Edge):∀(s k:Nat),(l.foldl (λs e=>if Region.binds .any e then s|||2 ^ e.on else s) s).testBit k=true↔s.testBit k=true∨∃e∈l,Region.binds .any e=true∧e.on=k:=by
 induction l with
 |nil=>intro s k;simp
 |cons e l ih=>
  intro s k;rw[List.foldl_cons,ih];by_cases hb:Region.binds .any e=true
  ·rw[if_pos hb,HN];simp only[Bool.or_eq_true,decide_eq_true_eq,List.mem_cons];constructor
   ·rintro((h|h)|⟨e',h1,h2,h3⟩)
    ·exact .inl h
    ·exact .inr ⟨e,.inl rfl,hb,h⟩
    ·exact .inr ⟨e',.inr h1,h2,h3⟩
   ·rintro(h|⟨e',h1|h1,h2,h3⟩)
    ·exact .inl (.inl h)
    ·subst h1;exact .inl (.inr h3)
    ·exact .inr ⟨e',h1,h2,h3⟩
  ·rw[if_neg hb];simp only[List.mem_cons];constructor
   ·rintro(h|⟨e',h1,h2,h3⟩)
    ·exact .inl h
    ·exact .inr ⟨e',.inr h1,h2,h3⟩
   ·rintro(h|⟨e',h1|h1,h2,h3⟩)
    ·exact .inl h
    ·subst h1;exact absurd h2 hb
    ·exact .inr ⟨e',h1,h2,h3⟩
theorem VE(o:Oper)(k:Nat):(FN o).testBit k=true↔∃e∈o.after,Region.binds .any e=true∧e.on=k:=by
 unfold FN;rw[←Array.foldl_toList,apn];simp
theorem adt{x m:Nat}:(x&&&m==x)=true↔∀k,x.testBit k=true→m.testBit k=true:=by
 rw[beq_iff_eq];constructor
 ·intro h k hk;rw[←h,Nat.testBit_and]at hk;simp only[iZ]at hk;exact hk.2
 ·intro h;apply Nat.eq_of_testBit_eq;intro k;rw[Nat.testBit_and];cases hx:x.testBit k
  ·rfl
  ·simp[h k hx]
section
variable {P:Program} {ops:Array Oper} {Q:Exit→Act→aq} {q:Uk}
def LM(ops:Array Oper)(m:Nat)(listed:Array Bool):Prop:=listed.size=ops.size∧∀i d,i<ops.size→listed.getD i d=m.testBit i
theorem LM.set{m i:Nat}{listed:Array Bool}(h:LM ops m listed)(hi:i<ops.size):LM ops (m|||2 ^ i) (listed.setIfInBounds i true):=by
 refine⟨by simp[h.1],λk d hk=> ?_⟩
 rw[HN];by_cases hik:i=k
 ·subst hik;have:i<listed.size:=by rw[h.1];exact hi
  simp[this]
 ·rw[getD_set_ne d hik,h.2 k d hk];simp[hik]
def rdy(ops:Array Oper)(m i:Nat)(o:Oper):Prop:=ops[i]?=some o∧(!m.testBit i&&(FN o&&&m==FN o))=true
theorem aaz(hb:R1 ops=true){j:Nat}{o:Oper}(ho:ops[j]?=some o):∀e∈o.after,Region.binds .any e=true→e.on<j:=by
 intro e he hbi;have hj:j<ops.size:=(AL.1 ho).1;unfold R1 at hb;rw[xz]at hb;have h1:=hb j (List.mem_range.2 hj);rw[ho]at h1;simp only[Array.all_eq_true']at h1;have h2:=h1 e he;simpa[hbi,Nat.blt_eq]using h2
theorem apo(hb:R1 ops=true){m:Nat}{listed:Array Bool}(h:LM ops m listed){i:Nat}:i∈Region.ready .any ops listed↔∃o,rdy ops m i o:=by
 rw[mem_ready];constructor
 ·rintro⟨h1,o,ho,h2⟩;have hi:i<ops.size:=(AL.1 ho).1;refine⟨o,ho,?_⟩;simp only[iZ,Bool.not_eq_true'];refine⟨by rw[←h.2 i true hi];exact h1,adt.2 λk hk=> ?_⟩
  obtain⟨e,he,hbi,rfl⟩:=(VE o k).1 hk;have:=h2 e he hbi;rwa[h.2 e.on false (by have:=aaz hb ho e he hbi;omega)]at this
 ·rintro⟨o,ho,h1⟩;have hi:i<ops.size:=(AL.1 ho).1;simp only[iZ,Bool.not_eq_true']at h1;refine⟨by rw[h.2 i true hi];exact h1.1,o,ho,λe he hbi=> ?_⟩
  rw[h.2 e.on false (by have:=aaz hb ho e he hbi;omega)]
  exact adt.1 h1.2 e.on ((VE o e.on).2 ⟨e,he,hbi,rfl⟩)
theorem N8{m:Nat}:∀{n i0 i:Nat},BZ P ops m n i0=some i→∃o,rdy ops m i o∧still P o=true
 |0,_,_,h=>by simp[BZ]at h
 |n+1,i0,i,h=>by
  unfold BZ at h;split at h
  ·rename_i o ho;split at h
   ·rename_i hc;cases h
    simp only[iZ]at hc;exact⟨o,⟨ho,by simp only[iZ];exact hc.1⟩,hc.2⟩
   ·exact N8 h
  ·cases h
theorem N9{m:Nat}:∀{n i0:Nat},BZ P ops m n i0=none→∀i o,i0≤i→i<i0+n→rdy ops m i o→still P o=false
 |0,i0,_,i,_,h1,h2,_=>by omega
 |n+1,i0,h,i,o,h1,h2,hr=>by
  unfold BZ at h;split at h
  ·rename_i o0 ho0;split at h
   ·cases h
   ·rename_i hc;by_cases hi:i=i0
    ·subst hi;have:o=o0:=Option.some.inj (hr.1.symm.trans ho0);subst this;cases hs:still P o with
     |false=>rfl
     |true=>exact absurd (by simp only[iZ];exact⟨by simpa using hr.2,hs⟩) hc
    ·exact N9 h i o ah ah hr
  ·rename_i hn;have hi:i<ops.size:=(AL.1 hr.1).1;have:ops.size≤i0:=by simpa using hn
   omega
theorem Kc{m i:Nat}:i∈KV ops m↔∃o,rdy ops m i o:=by
 unfold KV rdy;rw[List.mem_filter,List.mem_range];constructor
 ·rintro⟨_,h⟩;split at h
  ·rename_i o ho;exact⟨o,ho,h⟩
  ·cases h
 ·rintro⟨o,ho,h⟩;exact⟨(AL.1 ho).1,by rw[ho];exact h⟩
theorem aaA{c:Nat→Prop}:∀{l:List Nat},aiZ l c→∀i∈l,c i
 |[],_,i,hi=>by cases hi
 |[j],h,i,hi=>by rcases List.mem_cons.1 hi with rfl|hi;exact h;cases hi
 |j::k::l,h,i,hi=>by
  rcases List.mem_cons.1 hi with rfl|hi
  ·exact h.1
  ·exact aaA h.2 i hi
def Ju(m n:Nat):Nat:=(List.range n).countP λi=> !m.testBit i
theorem aaB(m n:Nat):Ju m (n+1)=Ju m n+if m.testBit n then 0 else 1:=by
 unfold Ju;rw[List.range_succ,List.countP_append];cases h:m.testBit n<;>simp[h]
theorem R7{m i:Nat}(hm:m.testBit i=false):∀{n:Nat},(i<n→Ju (m|||2 ^ i) n+1=Ju m n)∧(n≤i→Ju (m|||2 ^ i) n=Ju m n)
 |0=>⟨λh=>by omega,λ_=>rfl⟩
 |n+1=>by
  obtain⟨h1,h2⟩:=R7 hm (n:=n);rw[aaB,aaB,HN];constructor
  ·intro h;by_cases hi:i=n
   ·subst hi;have:=h2 (iv _);simp[hm,this]
   ·have:=h1 ah;simp only[hi,decide_false,Bool.or_false];omega
  ·intro h;have:=h2 ah;have hi:i≠n:=ah;simp only[hi,decide_false,Bool.or_false,this]
def HR(hs:List N2)(h:Nat→aq):Prop:=∀k w',(∀x∈hs,x.i=k→Mi x.n x.a x.w w')→h k w'
theorem P0{su:Nat}:∀{hs:List N2} {w:World} {c:Prop},Vr su hs w c→c∧∀x∈hs,su.testBit x.i=false→Mi x.n x.a x.w w
 |[],_,_,h=>⟨h,λx hx=>by cases hx⟩
 |y::hs,w,c,h=>by
  unfold Vr at h;split at h
  ·rename_i hb;obtain⟨h1,h2⟩:=P0 h;refine⟨h1,λx hx hn=> ?_⟩;rcases List.mem_cons.1 hx with rfl|hx
   ·rw[hb]at hn;cases hn
   ·exact h2 x hx hn
  ·obtain⟨h0,h⟩:=h;obtain⟨h1,h2⟩:=P0 h;refine⟨h1,λx hx hn=> ?_⟩;rcases List.mem_cons.1 hx with rfl|hx
   ·exact h0
   ·exact h2 x hx hn
theorem acB{i:Nat}{o:Oper}{t:TypeId}{x:Operand}{a:Act}{e:Env}{w:World}{hs:List N2}{c:Env→List N2→Prop}(hs0:Sub e a)(hf:Fits o a)(hop:o.op= .load t x)
  (h:PO P ops i o t x e w hs c):
  ∃e' hs' v S,c e' hs'∧Sub e' (a.put o.dst v)∧S w∧(∀w',S w'→E0 P ops o a w' v)∧(hs'=hs∧(S=λ_=>True)∨∃n p,hs'=⟨i,n,p,w⟩::hs∧(S=λw'=>Mi n p w w')):=by
 have key:∀(e:Env),Sub e a→Region.wanted o (yielded ops a.tmps)=true→(Jm P t (e.op x) w λv=>c (e.Vo o.dst v) (aeG P i t (e.op x) w hs))→
   ∃e' hs' v S,c e' hs'∧Sub e' (a.put o.dst v)∧S w∧(∀w',S w'→E0 P ops o a w' v)∧(hs'=hs∧(S=λ_=>True)∨∃n p,hs'=⟨i,n,p,w⟩::hs∧(S=λw'=>Mi n p w w')):=by
  intro e hs1 hw h;obtain⟨p,u,hp,hc,hr⟩:=YH (pZ hs1) hop h;rw[hp]at hc;exact⟨_,_,u,λw'=>Mi (Mc P t) p w w',hc,y4 hs1 hf,λ_ _=>rfl,λw' hw'=> .inl ⟨hw,hr w' hw'⟩,.inr ⟨_,_,rfl,rfl⟩⟩
 unfold PO at h;split at h
 ·rename_i hg;exact key e hs0 (Am hg _) h
 ·split at h
  ·exact h.elim
  ·rename_i g want hgs;have hw:=PW (a:=a) hgs;rcases Ii hs0 h with⟨e',hs',Ij,h⟩|⟨e',hs',Ij,h⟩
   ·exact key _ hs' (by rw[hw,Ij]) h
   ·exact⟨_,hs,undef,λ_=>True,h,y4 hs' hf,trivial,λw' _=> .inr ⟨by rw[hw,Ij],rfl⟩,.inl ⟨rfl,rfl⟩⟩
theorem alr{hs hs':List N2}{h:Nat→aq}{i:Nat}{w:World}{S:aq}(hr:HR hs h)
  (hx:hs'=hs∧(S=λ_=>True)∨∃n p,hs'=⟨i,n,p,w⟩::hs∧(S=λw'=>Mi n p w w')):HR hs' (Sy h i S):=by
 intro k w' n9;unfold Sy;split
 ·rename_i hk;rcases hx with⟨_,rfl⟩|⟨n,p,rfl,rfl⟩
  ·trivial
  ·exact n9 _ List.mem_cons_self hk.symm
 ·rcases hx with⟨rfl,_⟩|⟨n,p,rfl,_⟩
  ·exact hr k w' n9
  ·exact hr k w' λx hx he=>n9 x (List.mem_cons_of_mem _ hx) he
theorem Xs{bX:eb}{su:Array Nat}(ho:td P bX q)(hb:R1 ops=true)(hap:aja ops λj i=>(su.getD j 0).testBit i)(han:aeQ ops λj i=>(su.getD j 0).testBit i)
  (hsel:∀o∈ops,∀cs b,o.op≠ .select cs b):
  ∀(fuel m:Nat) (hs:List N2) (e:Env) (w:World) (a:Act) (listed:Array Bool) (h:Nat→aq) (c:Env→aq),LM ops m listed→Mk ops listed→(∀k,listed.getD k false=false→h k=λ_=>True)→HR hs h→
  R6 a.tmps.size ops=true→Sub e a→Jo P bX ops su fuel m hs e w c→(∀e' w' a',c e' w'→Sub e' a'→oV (VD ops) a a'→Q .normal a' w')→
  wpH P ops (λj i=>(su.getD j 0).testBit i) q Q (Ju m ops.size) listed h a w
 |0,_,_,_,_,_,_,_,_,_,_,_,_,_,_,h,_=>h.elim
 |fuel+1,m,hs,e,w,a,listed,hh,c,hlm,pB,hun,hr,hf,hs0,h,hQ=>by
  unfold Jo at h;have adu:∀i,i∈Region.ready .any ops listed↔∃o,rdy ops m i o:=λi=>apo hb hlm;split at h
  ·rename_i i ajc;obtain⟨o,hrd,hst⟩:=N8 ajc;have hir:=(adu i).2 ⟨o,hrd⟩;have hi:=H7 hir;have hmo:o∈ops:=Array.mem_of_getElem? hrd.1;have hmi:m.testBit i=false:=by have:=hrd.2;simp only[iZ,Bool.not_eq_true']at this;exact this.1
   rw[hrd.1]at h;simp only at h;have als:=(R7 hmi (n:=ops.size)).1 hi;rw[←als];have apr:∀S,∀k,(listed.setIfInBounds i true).getD k false=false→Sy hh i S k=λ_=>True:=by
    intro S k hk;by_cases hki:k=i
    ·subst hki;have:k<listed.size:=by rw[hlm.1];exact hi
     simp[this]at hk
    ·unfold Sy;rw[if_neg hki];exact hun k (by rwa[getD_set_ne false (Ne.symm hki)]at hk)
   have fin:∀e' hs' v S,(lH e' λe=>Jo P bX ops su fuel (m|||2 ^ i) hs' e w c)→Sub e' (a.put o.dst v)→S w→(∀w',S w'→E0 P ops o a w' v)→HR hs' (Sy hh i S)→
     wpH P ops (λj i=>(su.getD j 0).testBit i) q Q (Ju (m|||2 ^ i) ops.size+1) listed hh a w:=by
    intro e' hs' v S hd hs1 hS hv hr';rw[kQ]at hd;refine ajb hap han _ listed hh a w i o v S pB hun hir hrd.1 hst hS hv ?_;exact Xs ho hb hap han hsel fuel _ hs' e' w _ _ _ c (hlm.set hi) (pB.set hir) (apr S) hr' (by rw[E2];exact hf) hs1 hd λe2 w2 a2 h1 h2 h3=>
     hQ e2 w2 a2 h1 h2 ((oV.put λx hx=>H6 hmo hx).trans h3)
   split at h
   ·rename_i t x hl;have hop:o.op= .load t x:=by unfold Jn at hl;split at hl<;>simp_all
    obtain⟨e',hs',v,S,hc,hs1,hS,hv,hx⟩:=acB hs0 (Jt hf hmo) hop h;exact fin e' hs' v S hc hs1 hS hv (alr hr hx)
   ·rename_i hl;have hbl:Uf P o.op=true:=by
     unfold still at hst;rw[hl]at hst;simpa using hst
    obtain⟨e',v,hc,hs1,hv⟩:=am2 hs0 (Jt hf hmo) hbl h;exact fin e' hs v (λ_=>True) hc hs1 trivial (λw' _=>hv w') (alr (w:=w) hr (.inl ⟨rfl,rfl⟩))
  ·rename_i ajc;have aA9:∀i o,rdy ops m i o→still P o=false:=λi o hrd=>
    N9 ajc i o (Nat.zero_le _) (by have:=(AL.1 hrd.1).1;omega) hrd
   split at h
   ·rename_i hnil;split at h
    ·rename_i n9;rw[xz]at n9;have alu:Region.ready .any ops listed=[]:=by
      cases hrr:Region.ready .any ops listed with
      |nil=>rfl
      |cons i l=>
       have hi:i∈Region.ready .any ops listed:=by rw[hrr];exact List.mem_cons_self
       have:=Kc.2 ((adu i).1 hi);rw[hnil]at this;cases this
     have hq:=hQ e w a h hs0 (.refl _ _);cases hcn:Ju m ops.size with
     |zero=>exact⟨alu,hq⟩
     |succ f=>exact⟨λ_=>hq,λi hi=>by rw[alu]at hi;cases hi⟩
    ·exact h.elim
   ·rename_i l hne;have n9:=aaA h;have hex:∃i,i∈KV ops m:=by
     cases hrr:KV ops m with
     |nil=>exact absurd hrr hne
     |cons i l=>exact⟨i,List.mem_cons_self⟩
    obtain⟨i0,Xt⟩:=hex;obtain⟨o0,hr0⟩:=Kc.1 Xt;have aBb:=H7 ((adu i0).2 ⟨o0,hr0⟩);have hm0:m.testBit i0=false:=by have:=hr0.2;simp only[iZ,Bool.not_eq_true']at this;exact this.1
    have hpos:=(R7 hm0 (n:=ops.size)).1 aBb;cases hcn:Ju m ops.size with
    |zero=>omega
    |succ f=>
     refine⟨λhr'=> ?_,λi hir o hoi=>⟨λhst=> ?_,λ_=> ?_⟩⟩
     ·have:=(adu i0).2 ⟨o0,hr0⟩;rw[hr']at this;cases this
     ·obtain⟨o',hrd⟩:=(adu i).1 hir;have:o=o':=Option.some.inj (hoi.symm.trans hrd.1);subst this;rw[aA9 i o hrd]at hst;cases hst
     ·obtain⟨o',hrd⟩:=(adu i).1 hir;have:o=o':=Option.some.inj (hoi.symm.trans hrd.1);subst this;have hi:=H7 hir;have hmo:o∈ops:=Array.mem_of_getElem? hrd.1;have hmi:m.testBit i=false:=by have:=hrd.2;simp only[iZ,Bool.not_eq_true']at this;exact this.1
      have als:=(R7 hmi (n:=ops.size)).1 hi;have hfe:f=Ju (m|||2 ^ i) ops.size:=ah;have hst:=n9 i (Kc.2 ⟨o,hrd⟩);rw[hrd.1]at hst;simp only at hst;refine⟨hsel o hmo,(adq hs0 (Jt hf hmo) ho hst).mono λv w' hx=> ?_⟩;obtain⟨e',hx,hs1⟩:=hx;obtain⟨hx,ayJ⟩:=P0 hx;rw[kQ]at hx;refine⟨λk hk=>hr k w' λy hy hyk=>ayJ y hy (by rw[hyk];exact hk),?_⟩
      rw[hfe];have apr:∀k,(listed.setIfInBounds i true).getD k false=false→hh k=λ_=>True:=by
       intro k hk;by_cases hki:k=i
       ·subst hki;have:k<listed.size:=by rw[hlm.1];exact hi
        simp[this]at hk
       ·exact hun k (by rwa[getD_set_ne false (Ne.symm hki)]at hk)
      exact Xs ho hb hap han hsel fuel _ hs e' w' _ _ _ c (hlm.set hi) (pB.set hir) apr hr (by rw[E2];exact hf) hs1 hx λe2 w2 a2 h1 h2 h3=>
       hQ e2 w2 a2 h1 h2 ((oV.put λx hx=>H6 hmo hx).trans h3)
end
section
variable {P:Program} {ops:Array Oper} {q:Uk}
theorem acC(h:noSelect ops=true):∀o∈ops,∀cs b,o.op≠ .select cs b:=by
 intro o ho cs b hb;unfold noSelect at h;rw[xz]at h;have:=h o (by simpa using ho)
 simp[hb]at this
theorem aeV{su:Array Nat}(h:aah ops su=true):aja ops λj i=>(su.getD j 0).testBit i:=by
 intro i j x y hij hx hy ha;have hj:j<ops.size:=(AL.1 hy).1;unfold aah at h;rw[xz]at h;have h1:=h j (List.mem_range.2 hj);rw[xz]at h1;have h2:=h1 i (List.mem_range.2 hij);simp only[ha,Bool.false_or,hx,hy,iZ]at h2;exact h2
theorem aps(acc:Array Nat)(l:List Edge):∀(s k:Nat),(l.foldl (λs e=>if Region.binds .any e then s|||2 ^ e.on|||acc.getD e.on 0 else s) s).testBit k=true→s.testBit k=true∨∃e∈l,Region.binds .any e=true∧(e.on=k∨(acc.getD e.on 0).testBit k=true):=by
 induction l with
 |nil=>intro s k h;exact .inl h
 |cons e l ih=>
  intro s k h;rw[List.foldl_cons]at h;rcases ih _ k h with h|⟨e',h1,h2,h3⟩
  ·split at h
   ·rename_i hb;rw[Nat.testBit_or,HN]at h;simp only[Bool.or_eq_true,decide_eq_true_eq]at h;rcases h with(h|h)|h
    ·exact .inl h
    ·exact .inr ⟨e,List.mem_cons_self,hb,.inl h⟩
    ·exact .inr ⟨e,List.mem_cons_self,hb,.inr h⟩
   ·exact .inl h
  ·exact .inr ⟨e',List.mem_cons_of_mem _ h1,h2,h3⟩
def aaC(ops:Array Oper)(acc:Array Nat):Prop:=∀j i,(acc.getD j 0).testBit i=true→∃o,ops[j]?=some o∧∃e∈o.after,Region.binds .any e=true∧(e.on=i∨(acc.getD e.on 0).testBit i=true)
theorem aaD:∀(l:List Oper) (acc:Array Nat),(∀k,l[k]?=ops[acc.size+k]?)→aaC ops acc→aaC ops (alh l acc)
 |[],acc,_,h=>h
 |o::l,acc,hl,h=>by
  unfold alh;have h0:ops[acc.size]?=some o:=by have:=hl 0;simpa using this.symm
  refine aaD l _ (λk=>by have:=hl (k+1);simp at this ⊢;rw[this];congr 1;omega) ?_
  intro j i hji;have apt:∀x,(acc.getD x 0).testBit i=true→((acc.push (ai0 acc o)).getD x 0).testBit i=true:=by
   intro x hx;by_cases hlt:x<acc.size
   ·simp[Array.getElem?_push,hlt]at hx ⊢;rw[if_neg ah];simpa[hlt]using hx
   ·simp[Array.getElem?_eq_none (Nat.le_of_not_lt hlt)]at hx
  by_cases hj:j=acc.size
  ·subst hj;simp at hji;unfold ai0 at hji;rw[←Array.foldl_toList]at hji;rcases aps acc _ 0 i hji with hz|⟨e,h1,h2,h3⟩
   ·simp at hz
   ·exact⟨o,h0,e,by simpa using h1,h2,h3.imp id (apt _)⟩
  ·have aBc:(acc.getD j 0).testBit i=true:=by
    simp[Array.getElem?_push,hj]at hji ⊢;exact hji
   obtain⟨o',yX,e,h1,h2,h3⟩:=h j i aBc;exact⟨o',yX,e,h1,h2,h3.imp id (apt _)⟩
theorem apu(hb:R1 ops=true):aeQ ops λj i=>((adk ops).getD j 0).testBit i:=by
 intro j i h;have hg:aaC ops (adk ops):=aaD ops.toList #[] bc (by intro j i h;simp at h)
 obtain⟨o,ho,e,h1,h2,h3⟩:=hg j i h;exact⟨o,ho,e,h1,h2,aaz hb ho e h1 h2,h3⟩
theorem Oa(n i:Nat)(d:Bool)(h:i<n):(Array.replicate n false).getD i d=false:=by simp[h]
theorem aeW{bX:eb}{ro:Option Nat}{n:Nat}{Q:Exit→Act→aq}{id:Nat}{e:Env}{w:World}{a:Act}{c:Env→aq}(hm:P.follows .mixedOrders=true)(ho:td P bX q)(hq:∀ch a' w',oV (VD ops) a a'→q ch w'→Q (.panic ch) a' w')(hd:aeH ops=true)
  (hf:R6 a.tmps.size ops=true) (hs:Sub e a) (h:Jo P bX ops (adk ops) (ops.size+1) 0 [] e w.drew c) (hQ:∀e' w' a',c e' w'→Sub e' a'→oV (VD ops) a a'→Q .normal a' w'):
  (Code.region id ops true).wpIn (uE ro) n P Q a w:=by
 unfold aeH at hd;simp only[iZ]at hd;obtain⟨⟨hb,hp⟩,hn⟩:=hd;refine wpIn_region_any hm (PY (su:=λj i=>((adk ops).getD j 0).testBit i) _ _ (λ_ _=>True) _ _ hq ?_);have als:Ju 0 ops.size=ops.size:=by
  unfold Ju;rw[List.countP_eq_length.2 bc];simp
 have:=Xs (Q:=Q) ho hb (aeV hp) (apu hb) (acC hn) (ops.size+1) 0 [] e w.drew a (Array.replicate ops.size false) (λ_ _=>True) c
  ⟨bc,λi d hi=>by rw[Oa _ _ _ hi];simp⟩ ⟨bc,λj o hj hl=>by
   rw[Oa _ _ _ (AL.1 hj).1]at hl;cases hl⟩ (λ_ _=>rfl) (λ_ _ _=>trivial) hf hs h hQ
 rw[als]at this;exact this
def apv:Ex→Exit
 | .normal=> .normal
 | .exit id=> .exit id
 | .ret=> .ret
theorem ru{a:Act}:∀{ks:List (Nat×K)} {e:Env} {c:HT ks→Prop},Sub e a→tR ks e c→∃x,c x∧Sub (AK ks x) a
 |[],e,c,_,h=>⟨(),h,λp hp=>by cases hp⟩
 |[(s,k)],e,c,hs,h=>by
  unfold tR at h;split at h
  ·rename_i v hv;obtain⟨x,rfl,hc⟩:=Vy h;refine⟨x,hc,λp hp=> ?_⟩;rcases List.mem_cons.1 hp with rfl|hp
   ·exact hs _ (Cv hv)
   ·cases hp
  ·exact h.elim
 |(s,k)::(y::r),e,c,hs,h=>by
  unfold tR at h;split at h
  ·rename_i v hv;obtain⟨x,rfl,h'⟩:=Vy (c:=λx=>tR (y::r) e λxs=>c (x,xs)) h;obtain⟨xs,hc,hxs⟩:=ru hs h';refine⟨(x,xs),hc,λp hp=> ?_⟩;rcases List.mem_cons.1 hp with rfl|hp
   ·exact hs _ (Cv hv)
   ·exact hxs _ hp
  ·exact h.elim
theorem apw{e:Env}{a:Act}{m:Nat}(h:Sub e a):Sub (e.keep m) a:=λp hp=>h p (List.mem_filter.1 hp).1
theorem aeX{e:Env}{a a':Act}{c:AC}(h:Sub e a)(hk:oV c.writes a a'):Sub (e.unw c) a':=by
 intro p hp;unfold Env.unw at hp;rw[List.mem_filter]at hp;obtain⟨hp,hc⟩:=hp;obtain⟨s,x⟩:=p;simp only[iZ,Bool.not_eq_true']at hc;have h0:=h _ hp;cases x with
 |val v=>show _=_;rw[hk.2.2 s hc.1];exact h0
 |gd g want v=>exact absurd hc.2 bc
theorem B3{e e':Env}{a:Act}(h:Sub e a)(h':Sub e' a):Sub (e++e') a:=λp hp=>(y7.1 hp).elim (h p) (h' p)
theorem agP{e:Env}{a:Act}{x:Operand}{b:Bool}(hs:Sub e a)(h:e.op x=some (.bool b)):a.eval x= .bool b:=pZ hs _ _ h
theorem FQ{F:Fence}{n:Nat}{c:Code}{Q:Exit→Act→aq}{a:Act}{w:World}(h:c.wpIn F n P (Exit.noGoto Q) a w):(Code.scope c).wpIn F n P Q a w:=by
 intro b k cs hro hb hr;have h0:(lone (b.atR a (.code (.scope c)::k)) cs w).fenced P F:=fenced_calm hb hr rfl;obtain⟨e,a₁,w₁,hq,m7⟩:=h b (.inScope c::k) cs hro hb hr;have hstep:step P (lone (b.atR a (.code (.scope c)::k)) cs w)= .next (lone (b.atR a (.code c:: .inScope c::k)) cs w):=step_lone_go (by simp[stepG,stepG.exec,Frame.atR])
 cases e with
 |normal=>exact⟨.normal,a₁,w₁,hq,.head h0 hstep (StepsIn.trans m7 (.one (fenced_calm hb hr rfl) (step_lone_go (by simp[stepG,stepG.exec,Frame.atR]))))⟩
 |exit id=>
  have hx:exitTo id (.inScope c::k)=exitTo id k:=by simp[exitTo]
  exact⟨.exit id,a₁,w₁,hq,λk' hk=> .head h0 hstep (m7.1 k' (by rw[hx];exact hk)),
   λhr' hk=>let ⟨k₁,h1,h2⟩:=m7.2 hr' (by rw[hx];exact hk);⟨k₁,h1,.head h0 hstep h2⟩⟩
 |goto l=>exact hq.elim
 |ret=>exact⟨_,a₁,w₁,hq,.of_steps (.one h0 hstep) m7⟩
 |panic ch=>exact⟨_,a₁,w₁,hq,.of_steps (.one h0 hstep) m7⟩
 |outgrown=>exact⟨_,a₁,w₁,hq,.of_steps (.one h0 hstep) m7⟩
theorem q5{bX:eb}{mask:Nat}{ro:Option Nat}{n0:Nat}(hm:P.follows .mixedOrders=true)(ho:td P bX q):∀(c:AC) (e:Env) (w:World) (a:Act) (k:Ex→Env→aq) (Q:Exit→Act→aq),(∀ch a' w',oV c.writes a a'→q ch w'→Q (.panic ch) a' w')→
  Sub e a→c.fits a.tmps.size=true→ev P bX mask c e w k→(∀x e' w' a',k x e' w'→Sub e' a'→oV c.writes a a'→Q (apv x) a' w')→c.code.wpIn (uE ro) n0 P Q a w
 | .skip,e,w,a,k,Q,hq,hs,_,h,hQ=>wpIn_skip (hQ .normal e w a h hs (.refl _ _))
 | .label l,e,w,a,k,Q,hq,hs,_,h,hQ=>wpIn_label (hQ .normal e w a h hs (.refl _ _))
 | .exit id,e,w,a,k,Q,hq,hs,_,h,hQ=>wpIn_exit (hQ (.exit id) e w a h hs (.refl _ _))
 | .ret,e,w,a,k,Q,hq,hs,_,h,hQ=>wpIn_ret (hQ .ret e w a h hs (.refl _ _))
 | .bad c,e,w,a,k,Q,hq,_,_,h,_=>h.elim
 | .scope x,e,w,a,k,Q,hq,hs,hf,h,hQ=>by
  refine FQ (q5 hm ho x e w a k _ (by exact λ_ _ _ hd h=>hq _ _ _ (by first|exact hd|exact hkp.trans hd|exact hd.mono λs gI=>(by simp only[AC.writes,kx]at gI;first|exact gI.1|exact gI.2)|exact py.trans (hd.mono λs gI=>(by simp only[AC.writes,kx]at gI;first|exact gI.1|exact gI.2))) h) hs hf h λz e' w' a' h1 h2 h3=> ?_)
  cases z<;>exact hQ _ e' w' a' h1 h2 h3
 | .region id ops draw,e,w,a,k,Q,hq,hs,hf,h,hQ=>by
  unfold ev at h;have hf':R6 a.tmps.size ops=true:=hf;have fin:∀e' w' a',(lH (e'.keep mask) λe=>k .normal e w')→Sub e' a'→oV (VD ops) a a'→Q .normal a' w':=by
   intro e' w' a' h1 h2 h3;rw[kQ]at h1;exact hQ .normal _ w' a' h1 (apw h2) h3
  cases draw with
  |true=>
   simp only[if_true]at h;split at h
   ·rename_i hd;exact aeW hm ho hq hd hf' hs h fin
   ·exact h.elim
  |false=>
   simp only[Bool.false_eq_true,if_false]at h;exact wpIn_region_list (adr ho ops.toList e w a _ hq (λo h=>by simpa using h) hf' hs h fin)
 | .seq x y,e,w,a,k,Q,hq,hs,hf,h,hQ=>by
  unfold ev at h;simp only[AC.fits,iZ]at hf;refine wpIn_seq (q5 hm ho x e w a _ _ (by exact λ_ _ _ hd h=>hq _ _ _ (by first|exact hd|exact hkp.trans hd|exact hd.mono λs gI=>(by simp only[AC.writes,kx]at gI;first|exact gI.1|exact gI.2)|exact py.trans (hd.mono λs gI=>(by simp only[AC.writes,kx]at gI;first|exact gI.1|exact gI.2))) h) hs hf.1 h λz e' w' a' hk hs' hkp=> ?_)
  have py:oV (AC.seq x y).writes a a':=hkp.mono λs gI=>by simp only[AC.writes,kx]at gI;exact gI.1
  cases z with
  |normal=>
   refine q5 hm ho y e' w' a' k Q (by exact λ_ _ _ hd h=>hq _ _ _ (by first|exact hd|exact hkp.trans hd|exact hd.mono λs gI=>(by simp only[AC.writes,kx]at gI;first|exact gI.1|exact gI.2)|exact py.trans (hd.mono λs gI=>(by simp only[AC.writes,kx]at gI;first|exact gI.1|exact gI.2))) h) hs' (by rw[hkp.1];exact hf.2) hk λz PX w'' a'' h1 h2 h3=>hQ z PX w'' a'' h1 h2 (py.trans (h3.mono λs gI=> ?_))
   simp only[AC.writes,kx]at gI;exact gI.2
  |exit id=>exact hQ (.exit id) e' w' a' hk hs' py
  |ret=>exact hQ .ret e' w' a' hk hs' py
 | .cond c x y,e,w,a,k,Q,hq,hs,hf,h,hQ=>by
  unfold ev at h;simp only[AC.fits,iZ]at hf;split at h
  ·rename_i t ht;refine wpIn_cond (agP hs ht) ?_;cases t
   ·exact q5 hm ho y e w a k Q (by exact λ_ _ _ hd h=>hq _ _ _ (by first|exact hd|exact hkp.trans hd|exact hd.mono λs gI=>(by simp only[AC.writes,kx]at gI;first|exact gI.1|exact gI.2)|exact py.trans (hd.mono λs gI=>(by simp only[AC.writes,kx]at gI;first|exact gI.1|exact gI.2))) h) hs hf.2 h λz e' w' a' h1 h2 h3=>hQ z e' w' a' h1 h2 (h3.mono λs gI=>by simp only[AC.writes,kx]at gI;exact gI.2)
   ·exact q5 hm ho x e w a k Q (by exact λ_ _ _ hd h=>hq _ _ _ (by first|exact hd|exact hkp.trans hd|exact hd.mono λs gI=>(by simp only[AC.writes,kx]at gI;first|exact gI.1|exact gI.2)|exact py.trans (hd.mono λs gI=>(by simp only[AC.writes,kx]at gI;first|exact gI.1|exact gI.2))) h) hs hf.1 h λz e' w' a' h1 h2 h3=>hQ z e' w' a' h1 h2 (h3.mono λs gI=>by simp only[AC.writes,kx]at gI;exact gI.1)
  ·exact h.elim
 | .block id x,e,w,a,k,Q,hq,hs,hf,h,hQ=>by
  unfold ev at h;refine wpIn_block (q5 hm ho x e w a _ _ (by exact λ_ _ _ hd h=>hq _ _ _ (by first|exact hd|exact hkp.trans hd|exact hd.mono λs gI=>(by simp only[AC.writes,kx]at gI;first|exact gI.1|exact gI.2)|exact py.trans (hd.mono λs gI=>(by simp only[AC.writes,kx]at gI;first|exact gI.1|exact gI.2))) h) hs hf h λz e' w' a' hk hs' hkp=> ?_)
  cases z with
  |normal=>exact hQ .normal e' w' a' hk hs' hkp
  |ret=>exact hQ .ret e' w' a' hk hs' hkp
  |exit i=>
   simp only at hk;show(if i=id then Q .normal a' w' else Q (.exit i) a' w')
   split at hk
   ·rename_i hb;rw[if_pos (beq_eq hb)];exact hQ .normal e' w' a' hk hs' hkp
   ·rename_i hb;have hb':i≠id:=by simpa using hb
    rw[if_neg hb'];exact hQ (.exit i) e' w' a' hk hs' hkp
 | .join ks x,e,w,a,k,Q,hq,hs,hf,h,hQ=>by
  unfold ev cE at h;refine q5 hm ho x e w a _ Q (by exact λ_ _ _ hd h=>hq _ _ _ (by first|exact hd|exact hkp.trans hd|exact hd.mono λs gI=>(by simp only[AC.writes,kx]at gI;first|exact gI.1|exact gI.2)|exact py.trans (hd.mono λs gI=>(by simp only[AC.writes,kx]at gI;first|exact gI.1|exact gI.2))) h) hs hf h λz e' w' a' hk hs' hkp=> ?_
  cases z with
  |normal=>
   obtain⟨y,hy,Ml⟩:=ru hs' hk;rw[kQ]at hy;exact hQ .normal _ w' a' hy (B3 Ml (aeX hs hkp)) hkp
  |exit id=>exact hQ (.exit id) e' w' a' hk hs' hkp
  |ret=>exact hQ .ret e' w' a' hk hs' hkp
 | .loop ks x,e,w,a,k,Q,hq,hs,hf,h,hQ=>by
  unfold ev at h;obtain⟨y,hy,Ml⟩:=ru hs h;obtain⟨n,hn⟩:=hy;refine wpIn_loop_rounds n ?_;have key:∀n y w b,jP (λC y w=>lH (AK ks y++e.unw x) λe=>ev P bX mask x e w λz e w=>match z with| .normal=>tR ks e λy=>C y w|z=>k z e w) n y w→
    Sub (AK ks y) b→oV x.writes a b→Code.roundsIn (uE ro) n0 P x.code Q n b w:=by
   intro n;induction n with
   |zero=>intro y w b h;exact h.elim
   |succ n ih=>
    intro y w b h Ml hkp;unfold jP at h;rw[kQ]at h;rw[roundsIn_succ];refine q5 hm ho x _ w b _ _ (by exact λ_ _ _ hd h=>hq _ _ _ (by first|exact hd|exact hkp.trans hd|exact hd.mono λs gI=>(by simp only[AC.writes,kx]at gI;first|exact gI.1|exact gI.2)|exact py.trans (hd.mono λs gI=>(by simp only[AC.writes,kx]at gI;first|exact gI.1|exact gI.2))) h) (B3 Ml (aeX hs hkp)) (by rw[hkp.1];exact hf) h λz e' w' a' hk hs' py=> ?_
    cases z with
    |normal=>
     obtain⟨y',hy',VF⟩:=ru hs' hk;exact ih y' w' a' hy' VF (hkp.trans py)
    |exit id=>exact hQ (.exit id) e' w' a' hk hs' (hkp.trans py)
    |ret=>exact hQ .ret e' w' a' hk hs' (hkp.trans py)
  exact key n y w a hn Ml (.refl _ _)
def uG(P:Program)(f:FuncId)(d:bn):Prop:=
 (∃fn,P.funcs[f]?=some fn∧fn.body.isSome=true∧(fn.name== "runtime.NumGoroutine")=false)∧
 ∀(args:Array Value) w c,d args.toList w c→Calls P f args w fun e w'=> ∃v,e= .returned v∧c v w'
def E3(P:Program):List (Nat×bn)→Prop
 |[]=>True
 |(n,d)::l=>uG P n d∧E3 P l
theorem KZ:∀{l:List (Nat×bn)} {f:FuncId} {args:Array Value} {w:World} {c:Value→aq},E3 P l→aaj l f args.toList w c→
  (∃fn,P.funcs[f]?=some fn∧fn.body.isSome=true∧(fn.name== "runtime.NumGoroutine")=false)∧Calls P f args w fun e w'=> ∃v,e= .returned v∧c v w'
 |[],_,_,_,_,_,h=>h.elim
 |(n,d)::l,f,args,w,c,hl,h=>by
  unfold aaj at h;split at h
  ·rename_i hb;have:=beq_eq hb;subst this;exact⟨hl.1.1,hl.1.2 args w c h⟩
  ·exact KZ hl.2 h
theorem Calls.apx{f:FuncId}{args:Array Value}{w:World}{c:Value→aq}{q:Uk}(h:Calls P f args w λe w'=> ∃v,e= .returned v∧c v w'):Calls P f args w (YI c q):=
 h.mono λe w' he=>by obtain⟨v,rfl,hv⟩:=he;exact hv
theorem Mm{l:List (Nat×bn)}(hl:E3 P l):td P (kw l) q:=λfn args w c h=>by
 cases fn with
 |func f=>exact .inl ⟨(KZ hl h).1,Calls.apx (KZ hl h).2⟩
 |_=>exact h.elim
theorem agQ{n:Nat}{args:Array Value}{w:World}{c:Value→aq}{q:Uk}(h:YieldAt Fence.wide 0 P n args w λe w'=> ∃v,e= .returned v∧c v w'):YieldAt Fence.wide 0 P n args w (YI c q):=by
 obtain⟨fn,t,as,b,h1,h2⟩:=h;exact⟨fn,t,as,b,h1,h2.mono λe w' he=>by obtain⟨v,rfl,hv⟩:=he;exact hv⟩
theorem VG{l:List (Nat×bn)}{Y:Nat→bn}(hl:E3 P l)(hY:∀n (args:Array Value) w c,Y n args.toList w c→YieldAt Fence.wide 0 P n args w λe w'=> ∃v,e= .returned v∧c v w'):td P (Jq l Y) q:=λfn args w c h=>by
 cases fn with
 |func f=>exact .inl ⟨(KZ hl h).1,Calls.apx (KZ hl h).2⟩
 |yield n=>exact agQ (hY n args w c h)
 |_=>exact h.elim
abbrev aaE:=List Value→World→(Value→aq)→(Value→aq)→Prop
def alv(q:Value→aq):Uk:=λch w=> ∃v,ch=[{v:=v,recovered:=false}]∧q v w
def alw(P:Program)(f:FuncId)(d:aaE):Prop:=
 (∃fn,P.funcs[f]?=some fn∧fn.body.isSome=true∧(fn.name== "runtime.NumGoroutine")=false)∧
 ∀(args:Array Value) w c q,d args.toList w c q→Calls P f args w (YI c (alv q))
theorem uG.p{f:FuncId}{d:bn}(h:uG P f d):alw P f λargs w c _=>d args w c:=
 ⟨h.1,λargs w c q hd=>Calls.apx (h.2 args w c hd)⟩
def Mn(P:Program):List (Nat×aaE)→Prop
 |[]=>True
 |(n,d)::l=>alw P n d∧Mn P l
def aeY:List (Nat×aaE)→FuncId→aaE
 |[],_,_,_,_,_=>False
 |(n,d)::l,f,args,w,c,q=>match Nat.beq n f with|true=>d args w c q|false=>aeY l f args w c q
def apy(l:List (Nat×aaE))(q:Value→aq):eb:=λfn args w c=>match fn with
 | .func f=>aeY l f args.toList w c q
 | .method _=>match args.toList with|[.iface t v]=>q (.iface t v) w|_=>False
 |_=>False
theorem adw:∀{l:List (Nat×aaE)} {f:FuncId} {args:Array Value} {w:World} {c q:Value→aq},Mn P l→aeY l f args.toList w c q→
  (∃fn,P.funcs[f]?=some fn∧fn.body.isSome=true∧(fn.name== "runtime.NumGoroutine")=false)∧Calls P f args w (YI c (alv q))
 |[],_,_,_,_,_,_,h=>h.elim
 |(n,d)::l,f,args,w,c,q,hl,h=>by
  unfold aeY at h;split at h
  ·rename_i hb;have:=beq_eq hb;subst this;exact⟨hl.1.1,hl.1.2 args w c q h⟩
  ·exact adw hl.2 h
theorem apz{l:List (Nat×aaE)}{q:Value→aq}(hl:Mn P l):td P (apy l q) (alv q):=λfn args w c h=>by
 cases fn with
 |func f=>exact .inl (adw hl h)
 |method s=>
  unfold apy at h;dsimp only at h;split at h
  ·rename_i t v ha;exact⟨t,v,by cases args;simp_all,_,rfl,h⟩
  ·exact h.elim
 |_=>exact h.elim
theorem Ik:∀(l:List Value) (n:Nat) (a:Act),(∀i v,l[i]?=some v→a.tmps[n+i]?=some v)→Sub (CW n l) a
 |[],n,a,_=>λp hp=>by cases hp
 |v::l,n,a,h=>λp hp=>by
  rcases List.mem_cons.1 hp with rfl|hp
  ·exact h 0 v bc
  ·exact Ik l (n+1) a (λi u hu=>by have:=h (i+1) u (by simpa using hu);rwa[show n+(i+1)=n+1+i by omega]at this) p hp
def P1(a:Act):ResultVar→Sem Value
 | .tmp t=>pure (a.tmps.getD t undef)
 | .cell p t=>do loadVar t (←asAddr (a.tmps.getD p undef))
theorem R8{e:Env}{w:World}{a:Act}(hs:Sub e a):∀{rs:List ResultVar} {c:List Value→Prop},Jp P rs e w c→∃l,c l∧
  (rs.mapM (P1 a)).run P w= .ok l w
 |[],c,h=>⟨[],h,rfl⟩
 |r::rs,c,h=>by
  unfold Jp axO at h;have key:∀v,(P1 a r).run P w= .ok v w→(Jp P rs e w λl=>c (v::l))→∃l,c l∧
    ((r::rs).mapM (P1 a)).run P w= .ok l w:=by
   intro v hv hc;obtain⟨l,hl,hr⟩:=R8 hs hc;refine⟨v::l,hl,?_⟩;rw[List.mapM_cons];simp only[cL,hv,cF,hr,cK]
  split at h
  ·rename_i t;unfold Ig at h;split at h
   ·rename_i v hv;have:=pZ hs _ _ hv;refine key v ?_ h;simp only[P1,cK];rw[←this];rfl
   ·exact h.elim
  ·rename_i p t;cases hv:e.op (.tmp p)with
   |none=>rw[hv]at h;exact h.elim
   |some v=>
    rw[hv]at h;obtain⟨q,u,rfl,hc,hr⟩:=YG h;have h1:=pZ hs _ _ hv;have h2:=hr w λ_ _=>rfl;refine key u ?_ hc;have h3:a.tmps.getD p undef= .pointer (some q):=h1;simp only[Instr.loadAt,Instr.sureAddr,cL,cK,cF]at h2;simp only[P1,h3,asAddr,cL,cK,cF,h2]
theorem aaF(l:List Value):(if h:l.toArray.size=1 then l.toArray[0]else .tuple l.toArray)=eV l:=by
 match l with
 |[]=>rfl
 |[v]=>rfl
 |_::_::_=>rfl
theorem agR{f:FuncId}{fn:Func}{mask:Nat}{h:sv}{bX:eb}(hm:P.follows .mixedOrders=true)(hf:P.funcs[f]?=some fn)(ho:td P bX q)(qc tT:List K)
  (hok:Vs h fn qc.length=true) {args:Array Value} {w:World} {c:Value→aq} {x:KT qc} (hx:args.toList=dB qc x) (hF:N3 P bX mask h fn tT (dB qc x) w fun r w=>c (eV (dB tT r)) w):
  (∃fn,P.funcs[f]?=some fn∧fn.body.isSome=true∧(fn.name== "runtime.NumGoroutine")=false)∧Calls P f args w (YI c q):=by
 unfold Vs at hok;cases hb:fn.body with
 |none=>rw[hb]at hok;cases hok
 |some b=>
  rw[hb]at hok;simp only[Bool.and_eq_true,Bool.not_eq_true']at hok;refine⟨⟨fn,hf,by rw[hb];rfl,hok.2⟩,?_⟩
  have hlen:(dB qc x).length=qc.length:=by
   have:∀(ks:List K) (x:KT ks),(dB ks x).length=ks.length:=by
    intro ks;induction ks with
    |nil=>intro x;rfl
    |cons k r ih=>
     intro x;cases r with
     |nil=>rfl
     |cons y r=>show(dB (y::r) x.2).length+1=_;rw[ih];rfl
   exact this qc x
  unfold N3 at hF;rw[hb]at hF;simp only at hF;have hle:qc.length≤fn.ntmps:=Nat.le_of_ble_eq_true hok.1.2;have hsz:args.size≤fn.ntmps:=by
   have:args.toList.length=qc.length:=by rw[hx,hlen]
   rw[Array.length_toList]at this;omega
  refine calls_of_wp hf hb ?_;have ajd:=tC h b 0;have hw:=q5 (ro:=none) (n0:=0) (mask:=mask) hm ho (m6 h b 0).1 (CW 0 (dB qc x)) w {tmps:=args++Array.replicate (fn.ntmps - args.size) undef,defers:=[]} _ (bodyPost P fn (YI c q)) ?_ ?_ ?_ hF ?_
  ·rw[ajd]at hw;exact wpIn_wide.1 hw
  ·exact fun ch a' w' hd h=>⟨hd.2.1,h⟩
  ·refine Ik _ 0 _ fun i v hv=> ?_;rw[←hx]at hv;have FP:args[i]?=some v:=by simpa using hv
   have hi:i<args.size:=(Array.getElem?_eq_some_iff.1 FP).1;simp only[Nat.zero_add];rw[Array.getElem?_append_left hi];exact FP
  ·have:(args++Array.replicate (fn.ntmps - args.size) undef).size=fn.ntmps:=by simp;omega
   rw[this];exact hok.1.1
  ·intro z e' w' a' hk hs hkp;have apA:a'.defers=[]:=hkp.2.1;have fin:(Jp P fn.results.toList e' w' fun l=>qJ tT l fun x=>c (eV (dB tT x)) w')→a'.defers=[]∧∃v,(results fn a'.tmps).run P w'= .ok v w'∧c v w':=by
    intro hr;obtain⟨l,hc,hrun⟩:=R8 hs hr;obtain⟨y,rfl,Ei⟩:=y5 hc;refine⟨apA,eV (dB tT y),?_,Ei⟩;have he:results fn a'.tmps=(do
      let vs←fn.results.mapM (P1 a');pure (if h:vs.size=1 then vs[0]else .tuple vs)):=by
     have hfun:(fun x=>(match x with| .tmp t=>pure (a'.tmps.getD t undef)| .cell a t=>do loadVar t (←asAddr (a'.tmps.getD a undef)):Sem Value))=P1 a':=by
      funext r;cases r<;>rfl
     unfold results;rw[←hfun];rfl
    rw[he,Array.mapM_eq_mapM_toList];simp only[Sem.run_bind,Sem.run_map,hrun,Result.andThen_ok,Sem.run_pure];rw[aaF]
   cases z with
   |normal=>exact fin hk
   |ret=>exact fin hk
   |exit id=>exact hk.elim
theorem Mo{f:FuncId}{fn:Func}{mask:Nat}{h:sv}{bX:eb}(hm:P.follows .mixedOrders=true)(hf:P.funcs[f]?=some fn)(ho:td P bX PV)(qc tT:List K)
  (hok:Vs h fn qc.length=true) (F:KT qc→World→(KT tT→aq)→Prop) (hl:∀x w c,N3 P bX mask h fn tT (dB qc x) w c=F x w c):
  uG P f λargs w c=>qJ qc args λx=>F x w λr w=>c (eV (dB tT r)) w:=by
 refine⟨?_,λargs w c hd=> ?_⟩
 ·unfold Vs at hok;cases hb:fn.body with
  |none=>rw[hb]at hok;cases hok
  |some b=>
   rw[hb]at hok;simp only[iZ,Bool.not_eq_true']at hok;exact⟨fn,hf,by rw[hb];rfl,hok.2⟩
 ·obtain⟨x,hx,hF⟩:=y5 hd;rw[←hl]at hF;refine(agR hm hf ho qc tT hok hx hF).2.mono λe w' he=> ?_;cases e with
  |returned v=>exact⟨v,rfl,he⟩
  |panicked ch=>exact he.elim
  |outgrown=>exact he.elim
theorem adx{f:FuncId}{fn:Func}{mask:Nat}{h:sv}{ds:List (Nat×bn)}(hm:P.follows .mixedOrders=true)(hf:P.funcs[f]?=some fn)(hds:E3 P ds)(qc tT:List K)
  (hok:Vs h fn qc.length=true) (F:KT qc→World→(KT tT→aq)→Prop) (hl:∀x w c,N3 P (kw ds) mask h fn tT (dB qc x) w c=F x w c):
  uG P f λargs w c=>qJ qc args λx=>F x w λr w=>c (eV (dB tT r)) w:=Mo hm hf (Mm hds) qc tT hok F hl
end
end Go.Ev
namespace Go.Ev
open Go Go.RowKit
structure oU (S:Nat→Prop) (w w':World):Prop where
 os:w'.os=w.os
 tape:w'.tape=w.tape
 output:w'.output=w.output
 size:w.heap.size≤w'.heap.size
 block:∀k,k<w.heap.size→¬S k→w'.heap[k]?=w.heap[k]?
abbrev Ext(w w':World):Prop:=oU (λ_=>False) w w'
theorem oU.refl(S:Nat→Prop)(w:World):oU S w w:=⟨rfl,rfl,rfl,iv _,λ_ _ _=>rfl⟩
theorem oU.trans{S T U:Nat→Prop}{a b c:World}(h:oU S a b)(k:oU T b c)(hS:∀k,k<a.heap.size→S k→U k)(hT:∀k,k<a.heap.size→T k→U k):oU U a c:=
 ⟨k.os.trans h.os,k.tape.trans h.tape,k.output.trans h.output,Nat.le_trans h.size k.size,λi hi hU=>
  (k.block i (Nat.lt_of_lt_of_le hi h.size) (λhx=>hU (hT i hi hx))).trans (h.block i hi (λhx=>hU (hS i hi hx)))⟩
theorem oU.mono{S T:Nat→Prop}{a b:World}(h:oU S a b)(hS:∀k,k<a.heap.size→S k→T k):oU T a b:=⟨h.os,h.tape,h.output,h.size,λk hk hT=>h.block k hk λhx=>hT (hS k hk hx)⟩
theorem Ext.trans{a b c:World}(h:Ext a b)(k:Ext b c):Ext a c:=oU.trans h k (λ_ _ h=>h) (λ_ _ h=>h)
theorem Ext.only{S:Nat→Prop}{a b:World}(h:Ext a b):oU S a b:=oU.mono h λ_ _ h=>h.elim
theorem oU.below{S:Nat→Prop}{w w':World}{B:Nat}(h:oU S w w')(hB:B≤w.heap.size)(hS:∀k,S k→B≤k):Below B w w':=
 ⟨h.os,h.tape,h.output,h.size,λk hk=>h.block k (Nat.lt_of_lt_of_le hk hB) λhx=>by have:=hS k hx;omega⟩
theorem Ext.below{w w':World}(h:Ext w w'):Below w.heap.size w w':=oU.below h (iv _) λ_ h=>h.elim
theorem Ext.then{T:Nat→Prop}{a b c:World}(h:Ext a b)(k:oU T b c)(hT:∀g,T g→a.heap.size≤g):Ext a c:=oU.trans h k (λ_ _ h=>h) λg hg ht=>by have:=hT g ht;omega
theorem oU.cell{S:Nat→Prop}{w w':World}(h:oU S w w'){p:Addr}(hS:¬S p.block){v:Value}(hv:w.cell? p=some v):w'.cell? p=some v:=
 (World.cell?_of_block (h.block p.block (World.block_lt_of_cell? w p hv) hS)).trans hv
theorem Ext.cell{w w':World}(h:Ext w w'){p:Addr}{v:Value}(hv:w.cell? p=some v):w'.cell? p=some v:=oU.cell h (λh=>h) hv
theorem An(w:World):Ext w w.drew:=⟨rfl,rfl,rfl,iv _,λ_ _ _=>rfl⟩
theorem E4(w:World)(o:Obj):Ext w (w.alloc o):=⟨rfl,rfl,rfl,bc,λk hk _=>Go.heap_alloc_old w o hk⟩
theorem TE(w:World)(p:Addr)(v:Value):oU (λk=>k=p.block) w (w.setCell p v):=
 ⟨rfl,rfl,rfl,by simp[World.setCell],λk _ hk=>heap_setCell_other w p k v hk⟩
@[simp] theorem cY (g o n:Nat):(Addr.mk g o none).add n=⟨g,o+n,none⟩:=by
 unfold aY;split<;>simp_all
def pG(w:World)(g:Nat)(cs:Array Value):Prop:=∃e,w.heap[g]?=some (.cells cs e (0,0))
theorem pG.lt{w:World}{g:Nat}{cs:Array Value}(h:pG w g cs):g<w.heap.size:=by
 obtain⟨e,h⟩:=h;exact(AL.1 h).1
theorem pG.cell{w:World}{g:Nat}{cs:Array Value}(h:pG w g cs)(i:Nat):w.cell? ⟨g,i,none⟩=cs[i]?:=by
 obtain⟨e,h⟩:=h;exact cell_of_row w g i cs e _ h
theorem pG.frozen{w:World}{g:Nat}{cs:Array Value}(h:pG w g cs)(i:Nat):w.frozen? ⟨g,i,none⟩=false:=by
 obtain⟨e,h⟩:=h;exact frozen_of_row w g i cs e h
theorem pG.keep{S:Nat→Prop}{w w':World}{g:Nat}{cs:Array Value}(h:pG w g cs)(ho:oU S w w')(hg:¬S g):pG w' g cs:=by
 have:=ho.block g h.lt hg;obtain⟨e,h⟩:=h;exact⟨e,this.trans h⟩
theorem pG.ext{w w':World}{g:Nat}{cs:Array Value}(h:pG w g cs)(ho:Ext w w'):pG w' g cs:=h.keep ho λh=>h
theorem pG.new(w:World)(cs:Array Value)(t:TypeId):pG (w.alloc (.cells cs t)) w.heap.size cs:=⟨t,heap_alloc_new w _⟩
theorem pG.set{w:World}{g:Nat}{cs:Array Value}(h:pG w g cs)(i:Nat)(v:Value):pG (w.setCell ⟨g,i,none⟩ v) g (cs.setIfInBounds i v):=by
 obtain⟨e,h⟩:=h;exact⟨e,heap_setCell_same w g i cs e v h⟩
theorem jD{w:World}{cs:Array Value}{t:TypeId}{c:Addr→aq}(h:∀g w',g=w.heap.size→w'.heap.size=g+1→pG w' g cs→Ext w w'→c ⟨g,0,none⟩ w'):aL w cs t c:=
 h _ _ rfl bc (pG.new w cs t) (E4 w _)
theorem Mp{w:World}{c:aq}(h:∀w',w'.heap=w.heap→Ext w w'→c w'):drew w c:=h _ rfl (An w)
theorem ay{b:Bool}{x y:Prop}(h1:b=true→x)(h2:b=false→y):ap b x y:=by cases b;exact h2 rfl;exact h1 rfl
@[simp] theorem ayL (x y:Prop):ap true x y=x:=rfl
@[simp] theorem axR (x y:Prop):ap false x y=y:=rfl
theorem bO{b:Bool}{x y:Prop}(hb:b=true)(h:x):ap b x y:=by subst hb;exact h
theorem bh{b:Bool}{x y:Prop}(hb:b=false)(h:y):ap b x y:=by subst hb;exact h
theorem bS{S:Type}{body:(S→aq)→Prop}{rest:S→aq}(I:S→aq)(h1:∀J:S→aq,(∀x w,I x w→J x w)→body J)(h2:∀x w,I x w→rest x w):cE body rest:=h1 rest h2
theorem P2{S:Type}{body:(S→aq)→Prop}{rest:S→aq}(h:body rest):cE body rest:=h
theorem uH{k:IntKind}{w:World}{a:Addr}{c:Int→Prop}{n:Int}(h:w.cell? a=some (.int k n))(hc:c n):aN k w a c:=by simp[aN,rd,h,xy,hc]
theorem aje{w:World}{a:Addr}{c:Bool→Prop}{n:Bool}(h:w.cell? a=some (.bool n))(hc:c n):Jc w a c:=by simp[Jc,rd,h,HL,hc]
theorem apB{w:World}{a:Addr}{c:Option Addr→Prop}{n:Option Addr}(h:w.cell? a=some (.pointer n))(hc:c n):aR w a c:=by simp[aR,rd,h,toP,hc]
theorem Il{w:World}{a:Addr}{c:Sl→Prop}{s:Sl}(h:w.cell? a=some (.slice s.a s.n s.c))(hc:c s):cC w a c:=by simp[cC,rd,h,toS,hc]
theorem aaG{w:World}{g o:Nat}{cs:Array Value}{v:Value}{c:aq}(h1:v.oneCell'=true)(hb:pG w g cs)(ho:o<cs.size)
  (hc:∀w',pG w' g (cs.setIfInBounds o v)→w'.heap.size=w.heap.size→oU (λk=>k=g) w w'→c w'):bJ w ⟨g,o,none⟩ v c:=
 ⟨h1,by rw[hb.cell];simp[ho],hb.frozen o,hc _ (hb.set o v) (by simp[World.setCell]) (TE w ⟨g,o,none⟩ v)⟩
theorem lY{x:Int}(h: -9223372036854775808≤x∧x≤9223372036854775807):IntKind.i64.wrap x=x:=IntWalk.i64_in x h
theorem an{a:Addr}{c:Addr→Prop}(h:c a):nn (some a) c:=h
theorem alx{x y:Int}{c:Int→Prop}(hy:y≠0)(h:c (x.tmod y)):alb x y c:=⟨hy,h⟩
theorem aly{k:IntKind}{x y:Int}{c:Int→Prop}(hy:0≤y)(h:c (If k x y)):alc k x y c:=⟨hy,h⟩
theorem FE{k:IntKind}{x y:Int}{c:Int→Prop}(hy:0≤y)(h:c (rX k x y)):G9 k x y c:=⟨hy,h⟩
structure GK (sz:Nat) (w:World) (s:Sl) (vs:List Value):Prop where
 len:vs.length=s.n*sz
 cell:∀i v,vs[i]?=some v→∃p,s.a=some p∧w.cell? (p.add i)=some v
theorem GK.keep{S:Nat→Prop}{sz:Nat}{w w':World}{s:Sl}{vs:List Value}(h:GK sz w s vs)(ho:oU S w w')(hs:∀p,s.a=some p→¬S p.block):GK sz w' s vs:=
 ⟨h.len,λi v hv=>by
  obtain⟨p,hp,hc⟩:=h.cell i v hv;refine⟨p,hp,ho.cell ?_ hc⟩;have:(p.add i).block=p.block:=by unfold aY;split<;>rfl
  rw[this];exact hs p hp⟩
theorem GK.ext{sz:Nat}{w w':World}{s:Sl}{vs:List Value}(h:GK sz w s vs)(ho:Ext w w'):GK sz w' s vs:=h.keep ho λ_ _ h=>h
abbrev ints(xs:List Int):List Value:=xs.map (Value.int .i64)
def Sl.ax(s:Sl):Option Nat:=s.a.map (·.block)
structure Own (w:World) (B:Nat) (s:Sl) (xs:List Value):Prop where
 len:xs.length=s.n
 cap:s.n≤s.c
 max:s.c≤9223372036854775807
 one:∀x∈xs,x.oneCell'=true
 row:(s.a=none∧s.c=0)∨∃g off cs,s.a=some ⟨g,off,none⟩∧B≤g∧pG w g cs∧off+s.c≤cs.size∧∀i v,xs[i]?=some v→cs[off+i]?=some v
theorem Own.nil(w:World)(B:Nat):Own w B ⟨none,0,0⟩ []:=⟨rfl,iv _,bc,bc,.inl ⟨rfl,rfl⟩⟩
theorem Own.sls{w:World}{B:Nat}{s:Sl}{xs:List Value}(h:Own w B s xs):GK 1 w s xs:=by
 refine⟨by rw[h.len];simp,λi v hv=> ?_⟩
 rcases h.row with⟨h1,h2⟩|⟨g,off,cs,h1,_,h3,_,h5⟩
 ·have h0:=h.cap;have h6:i<xs.length:=(kJ.1 hv).1;have h7:=h.len;omega
 ·exact⟨_,h1,by rw[cY,h3.cell];exact h5 i v hv⟩
theorem Own.keep{S:Nat→Prop}{w w':World}{B:Nat}{s:Sl}{xs:List Value}(h:Own w B s xs)(ho:oU S w w')(hs:∀g,s.ax=some g→¬S g):Own w' B s xs:=by
 refine⟨h.len,h.cap,h.max,h.one,h.row.imp id ?_⟩;rintro⟨g,off,cs,h1,h2,h3,h4,h5⟩;exact⟨g,off,cs,h1,h2,h3.keep ho (hs g (by simp[Sl.ax,h1])),h4,h5⟩
theorem Own.ext{w w':World}{B:Nat}{s:Sl}{xs:List Value}(h:Own w B s xs)(ho:Ext w w'):Own w' B s xs:=h.keep ho λ_ _ h=>h
theorem Own.below{w:World}{B:Nat}{s:Sl}{xs:List Value}(h:Own w B s xs){g:Nat}(hg:s.ax=some g):B≤g∧g<w.heap.size:=by
 rcases h.row with⟨h1,_⟩|⟨g',off,cs,h1,h2,h3,_⟩
 ·simp[Sl.ax,h1]at hg
 ·simp[Sl.ax,h1]at hg;subst hg;exact⟨h2,h3.lt⟩
theorem Own.out{w:World}{B B':Nat}{s:Sl}{xs:List Value}(h:Own w B s xs)(hB:B'≤B):∀g,s.ax=some g→B'≤g:=λ_ hg=>Nat.le_trans hB (h.below hg).1
theorem H8{xs:List Int}:∀v∈ints xs,v.oneCell'=true:=by
 intro v hv;obtain⟨x,_,rfl⟩:=List.mem_map.1 hv;rfl
theorem aaH{w:World}{g:Nat}{l:List Value}{n:Nat}(hb:pG w g l.toArray)(hn:l.length=n)(c:Nat):GK 1 w ⟨some ⟨g,0,none⟩,n,c⟩ l:=
 ⟨by simp[hn],λi v hv=>⟨_,rfl,by rw[cY,hb.cell];simpa using hv⟩⟩
theorem Own.new{w:World}{g B:Nat}{l:List Value}{n:Nat}(hb:pG w g l.toArray)(hB:B≤g)(hn:l.length=n)(hm:n≤9223372036854775807)(h1:∀x∈l,x.oneCell'=true):Own w B ⟨some ⟨g,0,none⟩,n,n⟩ l:=
 ⟨hn,iv _,hm,h1,.inr ⟨g,0,l.toArray,rfl,hB,hb,by simp[hn],λi v hv=>by simpa using hv⟩⟩
def ElT(P:Program)(t e:TypeId)(b:Nat)(z:Value):Prop:=P.underlying t=some (.slice e)∧(P.info? e).map (λi=>(i.size,i.bytes,i.zero))=some (1,b,some z)
theorem ElT.info{P:Program}{t e:TypeId}{b:Nat}{z:Value}(h:ElT P t e b z):∃i,P.info? e=some i∧i.size=1∧i.bytes=b∧i.zero=some z:=by
 have h2:=h.2;cases hi:P.info? e with
 |none=>simp[hi]at h2
 |some i=>simp[hi]at h2;exact⟨i,rfl,h2⟩
theorem E5{P:Program}{w:World}{s:Sl}{vs:List Value}(h:GK 1 w s vs):(Builtin.firstCells 1 s.n (.slice s.a s.n s.c)).run P w= .ok vs.toArray w:=by
 cases ha:s.a with
 |none=>
  have:vs=[]:=by
   cases vs with
   |nil=>rfl
   |cons v l=>obtain⟨p,hp,_⟩:=h.cell 0 v rfl;rw[ha]at hp;cases hp
  subst this;exact run_firstCells_none w 1 s.n s.n s.c
 |some p=>
  exact run_firstCells_some w 1 s.n p s.n s.c vs (by rw[h.len]) λj v hv=>by
   obtain⟨q,hq,hc⟩:=h.cell j v hv;rw[ha]at hq;cases hq;exact hc
theorem auY{P:Program}{w:World}{tx e':TypeId}(hk:P.underlying tx=some (.slice e')){s:Sl}{vs:List Value}(h:GK 1 w s vs)(h1:∀v∈vs,v.oneCell'=true):Src P 1 tx (.slice s.a s.n s.c) s.n vs w:=
 ⟨.inl ⟨e',hk⟩,λ_=>rfl,E5 h,E5 (h.ext (An w)),by rw[h.len],h1⟩
theorem Ke{e:TypeId}:∀(l:List Value) (w:World) (g o:Nat) (cs:Array Value),w.heap[g]?=some (.cells cs e (0,0))→o+l.length≤cs.size→
  ∃cs',(w.setCells g o l).heap[g]?=some (.cells cs' e (0,0))∧cs'.size=cs.size∧(∀j,j<o∨o+l.length≤j→cs'[j]?=cs[j]?)∧(∀i v,l[i]?=some v→cs'[o+i]?=some v)∧oU (λk=>k=g) w (w.setCells g o l)∧(w.setCells g o l).heap.size=w.heap.size
 |[],w,g,o,cs,h,_=>⟨cs,h,rfl,λ_ _=>rfl,λi v hv=>by simp at hv,.refl _ _,rfl⟩
 |v::l,w,g,o,cs,h,hl=>by
  simp only[List.length_cons]at hl;obtain⟨cs',h1,h2,h3,h4,h5,h6⟩:=Ke l (w.setCell ⟨g,o,none⟩ v) g (o+1) (cs.setIfInBounds o v) (heap_setCell_same w g o cs e v h) (by simp;omega)
  refine⟨cs',h1,by simpa using h2,λj hj=> ?_,λi u hu=> ?_,oU.trans (TE w ⟨g,o,none⟩ v) h5 (λ_ _ h=>h) (λ_ _ h=>h),by rw[World.setCells,h6];simp[World.setCell]⟩
  ·rw[h3 j (by simp only[List.length_cons]at hj;omega)]
   rw[Array.getElem?_setIfInBounds_ne (by simp only[List.length_cons]at hj;omega)]
  ·cases i with
   |zero=>
    simp at hu;subst hu;rw[h3 (o+0) ah,Nat.add_zero,Array.getElem?_setIfInBounds_self];rw[if_pos ah]
   |succ i=>
    have:=h4 i u (by simpa using hu)
    rwa[show o+(i+1)=o+1+i by omega]
theorem auZ{P:Program}{t tx e e':TypeId}{ty:TypeId}{b:Nat}{z:Value}{w:World}{B:Nat}{s x:Sl}{xs ys:List Value}{c:Sl→aq}(ht:ElT P t e b z)(hz1:z.oneCell'=true)(hk:P.underlying tx=some (.slice e'))
  (hown:Own w B s xs) (hsrc:GK 1 w x ys) (h1:∀v∈ys,v.oneCell'=true) (hB:B≤w.heap.size) (hbytes:(xs.length+ys.length)*b≤140737488355328) (h63:xs.length+ys.length≤9223372036854775807)
  (hc:∀s' w',Own w' B s' (xs++ys)→oU (λk=>s.ax=some k) w w'→(s'.ax=s.ax∨∃g,s'.ax=some g∧w.heap.size≤g)→c s' w'):
  qd P #[t,tx] ty [.slice s.a s.n s.c,.slice x.a x.n x.c] w c:=by
 obtain⟨i,hi,hsz,hby,Zo⟩:=ht.info;have hs:=auY hk hsrc h1;have hxn:x.n=ys.length:=by have:=hsrc.len;omega
 have hone:∀v∈xs++ys,v.oneCell'=true:=λv hv=>(y7.1 hv).elim (hown.one v) (h1 v);unfold qd;by_cases hroom:s.n+x.n≤s.c
 ·rcases hown.row with⟨h2,h3⟩|⟨g,off,cs,h2,h3,h4,h5,h6⟩
  ·have hx0:x.n=0:=ah;have hs0:s.n=0:=ah;have hys:ys=[]:=List.eq_nil_of_length_eq_zero ah;have hxs:xs=[]:=List.eq_nil_of_length_eq_zero (by have:=hown.len;omega)
   subst hys;subst hxs;rw[h2,hs0,h3];have hr:(Builtin.append_ #[t,tx] ty #[.slice none 0 0,.slice x.a x.n x.c]).run P w= .ok (.slice none 0 0) w:=by
    have hk':=hs.cells;simp only[List.toArray]at hk';have hlen:=hs.len w;rw[hx0]at hlen hk' ⊢;simp[Builtin.append_,run_underlying ht.1,run_underlying hk,sizeOf,typeInfo,hi,hsz,Builtin.lenOf,Builtin.firstCells]at hk' ⊢;cases hxa:x.a<;>simp[Builtin.firstCells,hxa,loadCells,loadCellsFrom]
   simp only[List.toArray]at*
   rw[hr];show c ⟨none,0,0⟩ w;exact hc _ _ (by simpa using Own.nil w B) (.refl _ _) (.inl (by simp[Sl.ax,h2]))
  ·obtain⟨ee,h4'⟩:=h4;have hlen:=hown.len;have hcell:∀j,j<ys.length→(w.cell? ⟨g,off+s.n*i.size+j,none⟩).isSome=true:=by
    intro j hj;rw[hsz,Nat.mul_one,(show pG w g cs from⟨ee,h4'⟩).cell];have:off+s.n+j<cs.size:=ah;simp[this]
   have apC:∀j,j<ys.length→w.frozen? ⟨g,off+s.n*i.size+j,none⟩=false:=λj _=>(show pG w g cs from⟨ee,h4'⟩).frozen _;rw[←hsz]at hs;have hr:=run_append_room_src w t tx ty e i ht.1 hi g off s.n s.c _ x.n ys hs hroom hcell apC;obtain⟨cs',k1,k2,k3,k4,k5,k6⟩:=Ke ys w g (off+s.n) cs h4' ah;rw[hsz,Nat.mul_one]at hr;rw[h2];simp only[List.toArray]at*
   rw[hr];show c ⟨some ⟨g,off,none⟩,s.n+x.n,s.c⟩ _;refine hc _ _ ⟨by simp;omega,hroom,hown.max,hone,.inr ⟨g,off,cs',rfl,h3,⟨ee,k1⟩,by rw[k2];exact h5,λj v hv=> ?_⟩⟩ (k5.mono λk _ hk=>by simp[Sl.ax,h2,hk]) (.inl (by simp[Sl.ax,h2]))
   by_cases hj:j<xs.length
   ·rw[sZ hj]at hv;rw[k3 _ ah];exact h6 j v hv
   ·rw[uI ah]at hv;have:=k4 _ v hv;rwa[show off+s.n+(j - xs.length)=off+j by omega]at this
 ·have hg:s.c<s.n+x.n:=ah;have hlen:=hown.len;have hfit:Builtin.nextslicecap (s.n+x.n) s.c*i.bytes≤281474976710656:=growslice_fits hg (by rw[hby,hxn,←hlen];exact hbytes)
  have hold:=E5 (P:=P) (hown.sls.ext (An w));rw[←hsz]at hold hs;have hr:=run_append_grow_src w t tx ty e i z ht.1 hi Zo s.a s.n s.c xs hold _ x.n ys hs hg ah hfit;simp only[List.toArray]at*
  rw[hr];have hge:=grownCap_ge w (s.n+x.n) s.c e;have Uo:=grownCap_le_maxLen w (s.n+x.n) s.c e (by unfold maxLen;omega)
  unfold maxLen at Uo;show c ⟨some ⟨w.heap.size,0,none⟩,s.n+x.n,_⟩ _;have hzs:z.cells.size=1:=by rw[EY hz1];rfl
  refine hc _ _ ⟨by simp;omega,hge,Uo,hone,.inr ⟨w.heap.size,0,_,rfl,hB,pG.new w.drew _ e,?_,λj v hv=> ?_⟩⟩ (Ext.only ((An w).trans (E4 _ _))) (.inr ⟨w.heap.size,rfl,iv _⟩)
  ·simp[size_zeroCells,hzs];omega
  ·have hj:j<(xs++ys).length:=(kJ.1 hv).1;rw[Nat.zero_add,Array.getElem?_append_left (by simpa using hj)]
   simpa using hv
structure Part (s:Sl) (lo:Nat) (d:Sl):Prop where
 addr:d.a=s.a.map (·.add lo)∨d.n=0
 fits:lo+d.n≤s.n
theorem Part.all(s:Sl):Part s 0 s:=⟨.inl (by cases s.a<;>simp[add_zero]),ah⟩
theorem Own.off{w:World}{B:Nat}{s d:Sl}{xs ys:List Value}{lo:Nat}(h:Own w B s xs)(hy:ys.length=d.n)(hc:d.n≤d.c)(hcc:lo+d.c≤s.c)(ha:d.a=s.a.map (·.add lo)∨(d.a=s.a∧d.c=0))(hv:∀i v,ys[i]?=some v→xs[lo+i]?=some v):Own w B d ys:=by
 have aBd:=h.max;refine⟨hy,hc,ah,λx hx=> ?_,?_⟩
 ·obtain⟨i,hi,rfl⟩:=List.getElem_of_mem hx;have:=hv i ys[i] (by simp[hi])
  exact h.one _ (q6 this)
 ·rcases h.row with⟨h1,h2⟩|⟨g,off,cs,h1,h2,h3,h4,h5⟩
  ·refine .inl ⟨?_,ah⟩;rcases ha with ha|⟨ha,_⟩<;>rw[ha,h1] <;>rfl
  ·rcases ha with ha|⟨ha,VH⟩
   ·exact .inr ⟨g,off+lo,cs,by rw[ha,h1];simp,h2,h3,ah,λi v hi=>by rw[Nat.add_assoc];exact h5 _ _ (hv i v hi)⟩
   ·have hy0:ys=[]:=List.eq_nil_of_length_eq_zero ah;subst hy0;exact .inr ⟨g,off,cs,by rw[ha,h1],h2,h3,ah,λi v hi=>by simp at hi⟩
theorem aaJ{w:World}{B:Nat}{s:Sl}{xs:List Value}{lo:Int}{c:Sl→Prop}(h:Own w B s xs)(h0:0≤lo)(h1:lo≤s.n)
  (hc:∀d,Part s lo.toNat d→d.n=s.n - lo.toNat→d.ax=s.ax→Own w B d (xs.drop lo.toNat)→c d):slL s 1 lo c:=by
 have hcap:=h.cap;have hlen:=h.len;refine⟨⟨h0,h1⟩,hc _ ⟨?_,by simp;omega⟩ rfl ?_ (h.off (lo:=lo.toNat) (by simp;omega) (by simp;omega) (by simp;omega) ?_ λi v hi=>by simpa using hi)⟩
 ·by_cases hq:s.c=lo.toNat
  ·right;simp;omega
  ·left;simp[hq]
 ·by_cases hq:s.c=lo.toNat
  ·simp[Sl.ax,hq]
  ·simp only[Sl.ax,hq,if_false];cases s.a with
   |none=>rfl
   |some p=>simp[aY];split<;>rfl
 ·by_cases hq:s.c=lo.toNat
  ·right;simp[hq]
  ·left;simp[hq]
theorem aeZ(w:World)(g:Nat)(cs:Array Value):oU (λk=>k=g) w (w.setRow g cs):=
 ⟨rfl,rfl,rfl,by simp[World.setRow],λk _ hk=>by simp[World.setRow,Array.getElem?_modify,Ne.symm hk]⟩
theorem aaK{P:Program}{t tx e:TypeId}{ty:TypeId}{b:Nat}{z:Value}{w:World}{B lo:Nat}{s d x:Sl}{xs ys:List Value}{c:Int→aq}(ht:ElT P t e b z)
  (hown:Own w B s xs) (hd:Part s lo d) (hsrc:GK 1 w x ys) (h1:∀v∈ys,v.oneCell'=true)
  (hc:∀w',Own w' B s (xs.take lo++(ys.take (min d.n x.n)++xs.drop (lo+min d.n x.n)))→oU (λk=>s.ax=some k) w w'→w'.heap.size=w.heap.size→c (min d.n x.n:Nat) w'):
  Ue P #[t,tx] ty [.slice d.a d.n d.c,.slice x.a x.n x.c] w c:=by
 obtain⟨i,hi,hsz,hby,Zo⟩:=ht.info;have hxn:x.n=ys.length:=by have:=hsrc.len;omega
 have hlen:=hown.len;have aDF:=hd.fits;unfold Ue;have hread:(Builtin.firstCells i.size (min d.n x.n) (.slice x.a x.n x.c)).run P w= .ok (ys.take (min d.n x.n)).toArray w:=by
  rw[hsz];by_cases hxa:x.a=none
  ·have:ys=[]:=by
    cases ys with
    |nil=>rfl
    |cons v l=>obtain⟨p,hp,_⟩:=hsrc.cell 0 v rfl;rw[hxa]at hp;cases hp
   subst this;rw[hxa,List.take_nil];exact run_firstCells_none w 1 _ _ _
  ·obtain⟨p,hp⟩:=Option.ne_none_iff_exists'.1 hxa;rw[hp];refine run_firstCells_some w 1 _ p _ _ _ (by simp;omega) λj v hv=> ?_
   rw[List.getElem?_take]at hv;split at hv
   ·obtain⟨q,hq,pB⟩:=hsrc.cell j v hv;rw[hp]at hq;cases hq;exact pB
   ·cases hv
 have aDx:(Builtin.firstCells i.size (min x.n d.n) (.slice x.a x.n x.c)).run P w= .ok (ys.take (min d.n x.n)).toArray w:=by rw[Nat.min_comm];exact hread
 have ayM:(Builtin.copy_ #[t,tx] ty #[.slice d.a d.n d.c,.slice x.a x.n x.c]).run P w=match d.a with
   |some a=>((storeCells a (ys.take (min d.n x.n))).run P w).andThen λ_ w=> .ok (goInt ((min d.n x.n:Nat):Int)) w
   |none=> .ok (goInt ((min d.n x.n:Nat):Int)) w:=by
  have e1:Nat.min x.n d.n=min d.n x.n:=Nat.min_comm _ _;cases hda:d.a<;>simp[Builtin.copy_,run_underlying ht.1,Builtin.lenOf,sizeOf,typeInfo,hi,e1,hread]
 simp only[List.toArray]at*
 rw[ayM];by_cases hm:min d.n x.n=0
 ·have:=hc w (by rw[hm];simpa using hown) (.refl _ _) rfl
  rw[hm]at this ⊢;cases d.a<;>exact this
 ·rcases hown.row with⟨h2,h3⟩|⟨g,off,cs,h2,h3,h4,h5,h6⟩
  ·have:=hown.cap;omega
  ·have hda:d.a=some ⟨g,off+lo,none⟩:=by
    rcases hd.addr with h|h
    ·rw[h,h2];simp
    ·omega
   obtain⟨ee,h4'⟩:=h4;have hcap:=hown.cap;have hst:=run_storeCells_at P g (off+lo) ee (ys.take (min d.n x.n)) 0 cs w h4' (by simp;omega) λv hv=>h1 v (List.mem_of_mem_take hv)
   rw[hda];simp only[Nat.add_zero]at hst;simp only[hst,cF];show c (min d.n x.n:Nat) _;refine hc _ ⟨by simp;omega,hcap,hown.max,λv hv=> ?_,.inr ⟨g,off,_,h2,h3,⟨ee,setRow_heap w g cs _ ee (0,0) h4'⟩,by simp;omega,λi v hv=> ?_⟩⟩ ((aeZ w g _).mono λk _ hk=>by simp[Sl.ax,h2,hk]) (by simp[World.setRow])
   ·rcases y7.1 hv with hv|hv
    ·exact hown.one v (List.mem_of_mem_take hv)
    ·rcases y7.1 hv with hv|hv
     ·exact h1 v (List.mem_of_mem_take hv)
     ·exact hown.one v (List.mem_of_mem_drop hv)
   ·have hi:i<s.n:=by
     have:=(kJ.1 hv).1;simp at this;omega
    simp only[List.getElem?_toArray];by_cases c1:i<lo
    ·rw[sZ (by simp;omega),List.getElem?_take_of_lt c1]at hv
     rw[List.append_assoc,sZ (by simp;omega),List.getElem?_take_of_lt ah]
     simpa using h6 i v hv
    ·rw[uI (by simp;omega)]at hv
     rw[List.append_assoc,uI (by simp;omega)]
     have el:(List.take lo xs).length=lo:=by simp;omega
     have el2:(List.take (off+lo) cs.toList).length=off+lo:=by simp;omega
     rw[el]at hv;rw[el2,show off+i - (off+lo)=i - lo by omega]
     by_cases c2:i - lo<min d.n x.n
     ·rw[sZ (by simp;omega)]at hv ⊢
      exact hv
     ·rw[uI (by simp;omega)]at hv ⊢
      rw[List.getElem?_drop]at hv ⊢;have el3:(List.take (min d.n x.n) ys).length=min d.n x.n:=by simp;omega
      rw[el3]at hv ⊢;rw[show lo+min d.n x.n+(i - lo - min d.n x.n)=i by omega]at hv
      rw[show off+lo+min d.n x.n+(i - lo - min d.n x.n)=off+i by omega]
      simpa using h6 i v hv
theorem alz{P:Program}{t e:TypeId}{b:Nat}{z:Value}{w:World}{B:Nat}{n:Nat}{kl kc:IntKind}{c:Sl→aq}(ht:ElT P t e b z)(hz1:z.oneCell'=true)(hB:B≤w.heap.size)
  (hbytes:b*n≤281474976710656) (h63:n≤9223372036854775807)
  (hc:∀s w',Own w' B s (dM n z)→Ext w w'→s.n=n→s.c=n→s.ax=some w.heap.size→w'.heap.size=w.heap.size+1→c s w'):Bt P t (.int kl (n:Int)) (.int kc (n:Int)) w c:=by
 obtain⟨i,hi,hsz,hby,Zo⟩:=ht.info;have hb':(i.bytes:Int)*(n:Int)≤281474976710656:=by
  have h:((b*n:Nat):Int)≤281474976710656:=ah;rw[Int.natCast_mul]at h;rwa[hby]
 have hr:=run_make (P:=P) w t e i z ht.1 hi Zo kl kc n n ah (Int.le_refl _) hb' ah;unfold Bt;rw[hr,hsz,Nat.mul_one,EY hz1];have hrow:madeCells #[z] n=(dM n z).toArray:=by
  apply Array.ext
  ·simp[madeCells]
  ·intro j h1 h2;simp[madeCells,Nat.mod_one]
 rw[kR,hrow];show c ⟨some ⟨w.heap.size,0,none⟩,n,n⟩ _;exact hc _ _ (Own.new (pG.new w _ e) hB bc h63 λx hx=>by rw[(List.mem_replicate.1 hx).2];exact hz1) (E4 w _) rfl rfl rfl bc
theorem ady{g o:Nat}:∀(l:List Value) (w:World) (i:Nat) (cs:Array Value) (c:aq),pG w g cs→o+i+l.length≤cs.size→(∀v∈l,v.oneCell'=true)→
  (∀w' cs',pG w' g cs'→cs'.size=cs.size→(∀j,j<o+i∨o+i+l.length≤j→cs'[j]?=cs[j]?)→(∀j v,l[j]?=some v→cs'[o+i+j]?=some v)→oU (λk=>k=g) w w'→w'.heap.size=w.heap.size→c w')→Jk w ⟨g,o,none⟩ i l c
 |[],w,i,cs,c,hb,_,_,hc=>hc w cs hb rfl (λ_ _=>rfl) (λj v h=>by simp at h) (.refl _ _) rfl
 |v::l,w,i,cs,c,hb,hl,h1,hc=>by
  simp only[List.length_cons]at hl;unfold Jk;rw[cY];refine aaG (h1 v bc) hb ah λw1 AM hs1 ho1=> ?_;refine ady l w1 (i+1) _ c AM (by simp;omega) (λx hx=>h1 x (by simp[hx])) λw2 cs2 jL hz2 GI hv2 ho2 Im=> ?_
  refine hc w2 cs2 jL (by simpa using hz2) (λj hj=> ?_) (λj u hu=> ?_) (ho1.trans ho2 (λ_ _ h=>h) λ_ _ h=>h) (Im.trans hs1)
  ·rw[GI j (by simp only[List.length_cons]at hj;omega)]
   rw[Array.getElem?_setIfInBounds_ne (by simp only[List.length_cons]at hj;omega)]
  ·cases j with
   |zero=>
    simp at hu;subst hu;rw[GI (o+i+0) ah,Nat.add_zero,Array.getElem?_setIfInBounds_self];rw[if_pos ah]
   |succ j=>
    have:=hv2 j u (by simpa using hu)
    rwa[show o+i+(j+1)=o+(i+1)+j by omega]
theorem ae0{n g o:Nat}{w:World}{cs vs:Array Value}{c:aq}(hb:pG w g cs)(hn:vs.size=n)(hl:o+n≤cs.size)(h1:∀v∈vs,v.oneCell'=true)
  (hc:∀w' cs',pG w' g cs'→cs'.size=cs.size→(∀j,j<o∨o+n≤j→cs'[j]?=cs[j]?)→(∀j,j<n→cs'[o+j]?=vs[j]?)→oU (λk=>k=g) w w'→w'.heap.size=w.heap.size→c w'):dZ n w ⟨g,o,none⟩ vs c:=by
 refine⟨hn,ady vs.toList w 0 cs c hb (by simpa[hn]using hl) (λv hv=>h1 v (by simpa using hv)) λw' cs' h1 h2 h3 h4 h5 h6=>hc w' cs' h1 h2 (λj hj=>h3 j (by simpa[hn]using hj)) (λj hj=> ?_) h5 h6⟩
 have:=h4 j vs[j] (by simp[hn,hj])
 rw[Nat.add_zero]at this;rw[this];simp[hn,hj]
theorem adz{w:World}{g o:Nat}{cs:Array Value}(hb:pG w g cs):∀(n i:Nat),o+i+n≤cs.size→FC w ⟨g,o,none⟩ i n=some ((cs.toList.drop (o+i)).take n)
 |0,i,_=>by simp[FC]
 |n+1,i,h=>by
  unfold FC;rw[cY,hb.cell,adz hb n (i+1) ah];have e:cs.toList.drop (o+i)=cs[o+i]::cs.toList.drop (o+(i+1)):=by
   rw[List.drop_eq_getElem_cons (by simp;omega)];rfl
  rw[e];simp[show o+i<cs.size by omega]
theorem ajf{n g o:Nat}{w:World}{cs:Array Value}{c:Array Value→Prop}(hb:pG w g cs)(hl:o+n≤cs.size)(hc:c ((cs.toList.drop o).take n).toArray):bD n w ⟨g,o,none⟩ c:=by
 unfold bD;rw[adz hb n 0 ah];exact hc
theorem tU{g o len sz:Nat}{i:Int}{c:Addr→Prop}(h0:0≤i)(h1:i<len)(hc:c ⟨g,o+i.toNat*sz,none⟩):GG ⟨g,o,none⟩ len i sz c:=⟨⟨h0,h1⟩,by rw[cY];exact hc⟩
end Go.Ev
namespace Go.Ev
open Go
def uJ(x:Int):Prop:= -9223372036854775808≤x∧x≤9223372036854775807
instance (x:Int):Decidable (uJ x):=inferInstanceAs (Decidable (_∧_))
abbrev bv(x:Int):BitVec 64:=BitVec.ofInt 64 x
theorem adA{x:Int}(h:uJ x):(bv x).toInt=x:=by
 rw[BitVec.toInt_ofInt,Int.bmod_eq_of_le (by simp[uJ]at h;omega) (by simp[uJ]at h;omega)]
theorem aaL(b:BitVec 64):IntKind.i64.wrap (b.toNat:Int)=b.toInt:=by
 rw[IntKind.wrap_i64,BitVec.toInt_eq_toNat_cond];have:=b.isLt;split<;>omega
theorem aaM(b:BitVec 64):uJ b.toInt:=by
 have h1:=b.toInt_lt;have h2:=b.le_toInt;simp at h1 h2;exact⟨ah,ah⟩
theorem apD(x:Int):IntKind.i64.wrap x=(bv x).toInt:=by
 rw[IntKind.wrap_i64,BitVec.toInt_ofInt,Int.bmod_def];split<;>omega
theorem cT{x:Int}(h:uJ x):IntKind.i64.wrap x=x:=by rw[apD,adA h]
theorem P3(x y:Int):oC .i64 x y=(bv x&&&bv y).toInt:=aaL _
theorem ae1(x y:Int):Sx .i64 x y=(bv x|||bv y).toInt:=aaL _
theorem P4(x y:Int):tB .i64 x y=(bv x&&&~~~ bv y).toInt:=aaL _
theorem CZ(b:BitVec 64):bv b.toInt=b:=BitVec.ofInt_toInt
theorem apE{x i:Int}(h:uJ x)(h1:i<64):If .i64 x i=((bv x).sshiftRight i.toNat).toInt:=by
 rw[BitVec.toInt_sshiftRight,adA h];unfold If;have:min i.toNat IntKind.i64.bits=i.toNat:=by simp[IntKind.bits];omega
 rw[this,Int.shiftRight_eq_div_pow,Int.fdiv_eq_ediv_of_nonneg _ (by exact_mod_cast Nat.zero_le (2 ^ i.toNat))]
 simp
def tb(x:Int)(i:Nat):Bool:=(bv x).getLsbD i
theorem aBf{x i:Int}(h:uJ x)(h0:0≤i)(h1:i<64):(oC .i64 (If .i64 x i) 1==1)=tb x i.toNat:=by
 rw[P3,apE h h1,CZ];have e:bv 1=1#64:=fY;rw[e,BitVec.and_one_eq_setWidth_ofBool_getLsbD,BitVec.getLsbD_sshiftRight];have:(decide (64≤0))=false:=fY;simp only[this,Bool.not_false,Bool.true_and,Nat.add_zero];rw[if_pos ah];unfold tb;cases (bv x).getLsbD i.toNat<;>decide
theorem Up(x y:Int){i:Nat}(h:i<64):tb (tB .i64 x y) i=(tb x i&& !tb y i):=by
 unfold tb;rw[P4,CZ];simp[h]
theorem agT(x y:Int):uJ (tB .i64 x y):=by rw[P4];exact aaM _
abbrev BI(w:World)(g:Nat)(l:List Int):Prop:=pG w g (ints l).toArray
abbrev eU(l:List Int):Array Value:=(ints l).toArray
theorem m0{l:List Int}{o:Nat}(h:o<l.length):(eU l)[o]?=some (.int .i64 (l.getD o 0)):=by
 simp[eU,ints,nI,h]
theorem BI.cell{w:World}{g:Nat}{l:List Int}(h:BI w g l){o:Nat}(ho:o<l.length):w.cell? ⟨g,o,none⟩=some (.int .i64 (l.getD o 0)):=by
 rw[pG.cell h,m0 ho]
theorem jX{w:World}{g o:Nat}{l:List Int}{c:Int→Prop}(h:BI w g l)(ho:o<l.length)(hc:c (l.getD o 0)):aN .i64 w ⟨g,o,none⟩ c:=uH (h.cell ho) hc
theorem ints_set{l:List Int}{o:Nat}{x:Int}:(eU l).setIfInBounds o (.int .i64 x)=eU (l.set o x):=by
 simp[eU,ints,List.map_set]
theorem B4{w:World}{g o:Nat}{l:List Int}{x:Int}{c:aq}(h:BI w g l)(ho:o<l.length)(hc:∀w',BI w' g (l.set o x)→w'.heap.size=w.heap.size→oU (λk=>k=g) w w'→c w'):bJ w ⟨g,o,none⟩ (.int .i64 x) c:=
 aaG rfl h (by simpa[eU,ints]using ho) λw' hb hs ho=>hc w' (by rw[ints_set]at hb;exact hb) hs ho
theorem ae2{w:World}{g:Nat}{a b:Array Value}(h:pG w g a)(e:∀j:Nat,a[j]?=b[j]?):pG w g b:=by
 have:a=b:=by
  obtain⟨a⟩:=a;obtain⟨b⟩:=b;congr 1;exact List.ext_getElem? λj=>by simpa using e j
 rwa[←this]
theorem xA{w:World}{g n:Nat}{l:List Int}{cs:Array Value}{c:aq}(h:pG w g cs)(hs:cs.size=n)(hl:l.length=n)(hc:∀w',BI w' g l→w'.heap.size=w.heap.size→oU (λk=>k=g) w w'→c w'):dZ n w ⟨g,0,none⟩ (eU l) c:=by
 refine ae0 h (by simpa[eU,ints]using hl) ah (λv hv=>H8 v (by simpa[eU]using hv)) λw' cs' hb hz hk hv ho hs'=>hc w' (ae2 hb λj=> ?_) hs' ho
 by_cases hj:j<n
 ·have:=hv j hj;rwa[Nat.zero_add]at this
 ·rw[Array.getElem?_eq_none ah,Array.getElem?_eq_none (by simp[eU,ints];omega)]
theorem ayN{w:World}{g n o:Nat}{l l':List Int}{c:aq}(h:BI w g l)(hl:l'.length=n)(ho:o+n≤l.length)(hc:∀w',BI w' g (l.take o++(l'++l.drop (o+n)))→w'.heap.size=w.heap.size→oU (λk=>k=g) w w'→c w'):dZ n w ⟨g,o,none⟩ (eU l') c:=by
 refine ae0 h (by simpa[eU,ints]using hl) (by simpa[eU,ints]using ho) (λv hv=>H8 v (by simpa[eU]using hv)) λw' cs' hb hz hk hv FR hs'=>hc w' (ae2 hb λj=> ?_) hs' FR
 have hz':cs'.size=l.length:=by simpa[eU,ints]using hz
 by_cases h1:j<o
 ·rw[hk j (.inl h1)];simp only[eU,ints,List.getElem?_toArray,pz];rw[sZ (by simp;omega),List.getElem?_take_of_lt h1]
 ·by_cases h2:j<o+n
  ·have:=hv (j - o) ah;rw[show o+(j - o)=j by omega]at this
   rw[this];simp only[eU,ints,List.getElem?_toArray,pz];rw[uI (by simp;omega),sZ (by simp;omega)]
   congr 2;simp;omega
  ·rw[hk j (.inr ah)];simp only[eU,ints,List.getElem?_toArray,pz];rw[uI (by simp;omega),uI (by simp;omega),List.getElem?_drop]
   congr 2;simp;omega
theorem kS{w:World}{g n:Nat}{l:List Int}{c:Array Value→Prop}(h:BI w g l)(hl:l.length=n)(hc:c (eU l)):bD n w ⟨g,0,none⟩ c:=by
 refine ajf h (by simp[eU,ints];omega) ?_
 have:((eU l).toList.drop 0).take n=ints l:=by simp[eU,ints,List.take_of_length_le,hl]
 rw[this];exact hc
theorem apF{w:World}{g n o:Nat}{l:List Int}{c:Array Value→Prop}(h:BI w g l)(hl:o+n≤l.length)(hc:c (eU ((l.drop o).take n))):bD n w ⟨g,o,none⟩ c:=by
 refine ajf h (by simpa[eU,ints]using hl) ?_
 have:((eU l).toList.drop o).take n=ints ((l.drop o).take n):=by simp[eU,ints,List.map_take,List.map_drop]
 rw[this];exact hc
theorem apG{l:List Int}{n:Nat}{i:Int}{c:Value→Prop}(h0:0≤i)(h1:i<n)(hl:l.length=n)(hc:c (.int .i64 (l.getD i.toNat 0))):ixA (eU l) n i c:=by
 refine⟨⟨h0,h1⟩,?_⟩;unfold PJ;rw[m0 ah];exact hc
theorem Io{n:Int}{c:Int→Prop}(h:c n):xy .i64 (.int .i64 n) c:=h
theorem Bu{g o n:Nat}{w w':World}{cs:Array Value}{c:Prop}(h:pG w g cs)(h':pG w' g cs)(hc:c):ai n ⟨g,o,none⟩ w w' c:=
 ⟨λk _=>by rw[cY,h.cell,h'.cell],hc⟩
theorem VI:∀(os:List Nat) (xs ys:List Int),(∀o∈os,o<xs.length∧o<ys.length)→pu (eU xs) (eU ys) (os.map λo=>(o,0))=some (os.all λo=>xs.getD o 0==ys.getD o 0)
 |[],_,_,_=>rfl
 |o::os,xs,ys,h=>by
  have h1:=h o bc;simp only[List.map_cons,pu,m0 h1.1,m0 h1.2,eqC,if_true];rw[VI os xs ys λo ho=>h o (by simp[ho])]
  simp
theorem ajg{n:Nat}{xs ys:List Int}{c:Bool→Prop}(hx:xs.length=n)(hy:ys.length=n)(hc:c (decide (xs=ys))):Zl ((List.range n).map λo=>(o,0)) (eU xs) (eU ys) c:=by
 unfold Zl;rw[VI _ _ _ λo ho=>by simp at ho;omega]
 have e:((List.range n).all λo=>xs.getD o 0==ys.getD o 0)=decide (xs=ys):=by
  rw[Bool.eq_iff_iff,decide_eq_true_eq,xz];constructor
  ·intro h;apply List.ext_getElem?;intro j;by_cases hj:j<n
   ·have:=h j (by simpa using hj)
    simp only[nI,beq_iff_eq]at this;rw[j4 ah,j4 ah]at this ⊢;simpa using this
   ·rw[List.getElem?_eq_none ah,List.getElem?_eq_none ah]
  ·rintro rfl o _;simp
 rw[e];exact hc
theorem aaN(L:List Value)(n:Nat)(v:Value):(L.set n v).take n=L.take n:=by
 apply List.ext_getElem?;intro j;rw[List.getElem?_take,List.getElem?_take];split
 ·rw[rK ah]
 ·rfl
theorem ae3(L:List Value)(n m:Nat)(v:Value)(h:n<m):(L.set n v).drop m=L.drop m:=by
 apply List.ext_getElem?;intro j;rw[List.getElem?_drop,List.getElem?_drop,rK ah]
theorem aaO(off:Nat):∀(cs:List Value) (k:Nat) (L:List Value),off+k+cs.length≤L.length→
  (cs.zipIdx k).foldl (fun(a:List Value) (x:Value×Nat)=>a.set (off+x.2) x.1) L=L.take (off+k)++(cs++L.drop (off+k+cs.length))
 |[],k,L,h=>by simp
 |v::cs,k,L,h=>by
  simp only[List.length_cons]at h;rw[List.zipIdx_cons,List.foldl_cons,aaO off cs (k+1) _ (by simp;omega)]
  simp only[List.length_cons];rw[ae3 _ _ _ _ ah,show off+(k+1)=off+k+1 by omega,List.take_add_one,aaN,uu ah]
  rw[show off+k+1+cs.length=off+k+(cs.length+1) by omega]
  simp
theorem VJ(off:Nat):∀(l:List (Value×Nat)) (acc:Array Value),(l.foldl (fun(a:Array Value) (x:Value×Nat)=>a.setIfInBounds (off+x.2) x.1) acc).toList=l.foldl (fun(a:List Value) (x:Value×Nat)=>a.set (off+x.2) x.1) acc.toList
 |[],_=>rfl
 |x::l,acc=>by rw[List.foldl_cons,List.foldl_cons,VJ off l];simp
theorem am7(off:Nat)(cs:List Value)(acc:Array Value)(h:off+cs.length≤acc.size):
  (cs.zipIdx 0).foldl (fun(a:Array Value) (x:Value×Nat)=>a.setIfInBounds (off+x.2) x.1) acc=(acc.toList.take off++(cs++acc.toList.drop (off+cs.length))).toArray:=by
 have h1:=VJ off (cs.zipIdx 0) acc;rw[aaO off cs 0 _ (by simpa using h),Nat.add_zero]at h1
 rw[←h1]
theorem apH{acc cs:List Value}{off size:Nat}{c:Array Value→Prop}(r:List Value)(h:cs.length=size)(ho:off+size≤acc.length)(hr:acc.take off++(cs++acc.drop (off+size))=r)(hc:c r.toArray):lz acc.toArray off size cs.toArray c:=by
 refine⟨by simp[h],?_⟩
 have:=am7 off cs acc.toArray (by simp;omega)
 rw[←Array.foldl_toList];have e:cs.toArray.zipIdx.toList=cs.zipIdx 0:=by simp
 rw[e];have e2:(fun(cs:Array Value) (x:Value×Nat)=>cs.setIfInBounds (off+x.2) x.1)=fun(cs:Array Value) (x:Value×Nat)=>match x with|(x,j)=>cs.setIfInBounds (off+j) x:=by
  funext cs x;cases x;rfl
 rw[e2]at this;rw[this];have e3:acc.toArray.toList=acc:=rfl;rw[e3,h,hr];exact hc
theorem qK{acc cs:Array Value}{off size:Nat}{c:Array Value→Prop}(r:Array Value)(h:cs.size=size)(hr:cs.zipIdx.foldl (λcs (x,j)=>cs.setIfInBounds (off+j) x) acc=r)(hc:c r):lz acc off size cs c:=by
 subst hr;exact⟨h,hc⟩
theorem ajh{w:World}{a:Addr}{v:Value}{c:Value→Prop}(h:w.cell? a=some v)(hc:c v):sX w a c:=by
 simp only[sX,rd,h];exact hc
theorem apI{g o n c sz:Nat}{i:Int}{k:Addr→Prop}(h0:0≤i)(h1:i<n)(hk:k ⟨g,o+i.toNat*sz,none⟩):cZ ⟨some ⟨g,o,none⟩,n,c⟩ i sz k:=⟨⟨h0,h1⟩,by rw[cY];exact hk⟩
end Go.Ev
namespace Go.Ev
open Go Go.RowKit Go.ChangeShapes Go.WideShapes
theorem P5{H:Type}{enc:TypeId×Value→H}{P:Program}(hl:laidOutB P=true){W W':World}(hb:Below W.heap.size W W'):
  ∀{ts:List TypeId} {vs:List Value} {ds:List (DataW H)} {ps:List MemPlace},ts.all (λt=>P.readableRec t&&decide (t<P.types.size))=true→DataW.TrodAll enc P W 0 (λ_=>true) true ts vs ds ps→(∀x∈ps,x.block<W.heap.size)→
   DataW.TrodAll enc P W' 0 (λb=>decide (b<W.heap.size)) true ts vs ds ps
 |[],[],[],_,_,h,_=>h
 |[],_::_,_,_,_,h,_=>h.elim
 |[],[],_::_,_,_,h,_=>h.elim
 |_::_,[],_,_,_,h,_=>h.elim
 |_::_,_::_,[],_,_,h,_=>h.elim
 |t::ts,v::vs,d::ds,ps,hr,h,hlt=>by
  obtain⟨p,q,h1,h2,rfl⟩:=h;simp only[List.all_cons,iZ,decide_eq_true_eq]at hr;exact⟨p,q,Below.trod hl hr.1.1 hr.1.2 h1 hb (λx hx=>hlt x (by simp[hx])),P5 hl hb hr.2 h2 (λx hx=>hlt x (by simp[hx])),rfl⟩
theorem TF{H:Type}{enc:TypeId×Value→H}{P:Program}{w:World}{base:Nat}{spare:Nat→Bool}{held:Bool}:
  ∀{ts:List TypeId} {vs:List Value} {ds:List (DataW H)} {ps:List MemPlace},DataW.TrodAll enc P w base spare held ts vs ds ps→ds.length=ts.length
 |[],[],[],_,_=>rfl
 |[],_::_,_,_,h=>h.elim
 |[],[],_::_,_,h=>h.elim
 |_::_,[],_,_,h=>h.elim
 |_::_,_::_,[],_,h=>h.elim
 |_::_,_::_,_::_,_,h=>by
  obtain⟨p,q,h1,h2,rfl⟩:=h;simp[TF h2]
def Ej(P:Program)(w:World)(t:TypeId)(cs:List Value):Prop:=
 ∃(H:Type) (enc:TypeId×Value→H) (spare:Nat→Bool) (held:Bool) (fuel:Nat) (d:DataW H) (ps:List MemPlace),
  DataW.trod enc P w 0 spare held fuel t cs=some (d,ps)∧∀n∈d.weights P t,n≤reachBytes
structure Arg (P:Program) (w:World) (t:TypeId) (v:Value):Prop where
 form:∃base,Value.okWide P w .any base t v
 reads:Ej P w t v.cells.toList
def VK(P:Program)(w:World):List TypeId→List Value→Prop
 |[],[]=>True
 |t::ts,v::vs=>Arg P w t v∧VK P w ts vs
 |_,_=>False
theorem VK.cons{P:Program}{w:World}{t:TypeId}{ts:List TypeId}{vs:List Value}(h:VK P w (t::ts) vs):∃v vs',vs=v::vs'∧Arg P w t v∧VK P w ts vs':=by
 cases vs with
 |nil=>exact h.elim
 |cons v vs=>exact⟨v,vs,rfl,h.1,h.2⟩
theorem VK.nil{P:Program}{w:World}{vs:List Value}(h:VK P w [] vs):vs=[]:=by
 cases vs with
 |nil=>rfl
 |cons v vs=>exact h.elim
theorem agU{H:Type}{enc:TypeId×Value→H}{P:Program}{w:World}:
  ∀{ts:List TypeId} {vs:List Value} {ds:List (DataW H)} {ps:List MemPlace} {base:Nat},(∀(j:Nat) t v,ts[j]?=some t→vs[j]?=some v→Value.okWide P w .any base t v)→
   DataW.TrodAll enc P w 0 (λ_=>true) true ts vs ds ps→(∀n∈DataW.weightsEach P ts ds,n≤reachBytes)→VK P w ts vs
 |[],[],[],_,_,_,_,_=>trivial
 |[],_::_,_,_,_,_,h,_=>h.elim
 |[],[],_::_,_,_,_,h,_=>h.elim
 |_::_,[],_,_,_,_,h,_=>h.elim
 |_::_,_::_,[],_,_,_,h,_=>h.elim
 |t::ts,v::vs,d::ds,_,base,hv,h,hw=>by
  obtain⟨p,q,⟨fuel,h1⟩,h2,rfl⟩:=h;simp only[DataW.weightsEach,y7]at hw;exact⟨⟨⟨base,hv 0 t v rfl rfl⟩,⟨H,enc,_,_,fuel,d,p,h1,λn hn=>hw n (.inl hn)⟩⟩,agU (λj t' v' ht FP=>hv (j+1) t' v' (by simpa using ht) (by simpa using FP)) h2 λn hn=>hw n (.inr hn)⟩
section
variable {P:Program} {w:World}
theorem au2{n:Int}(h:(Lit.int .i64 n).wf=true):uJ n:=by
 simp[Lit.wf,IntKind.min,IntKind.max,IntKind.signed,IntKind.bits]at h;exact⟨ah,ah⟩
theorem Ej.int{t:TypeId}{cs:List Value}(ht:P.underlying t=some (.int .i64))(h:Ej P w t cs):∃n,cs=[.int .i64 n]∧uJ n:=by
 obtain⟨H,enc,spare,held,fuel,d,ps,h,_⟩:=h;cases fuel with
 |zero=>simp[DataW.trod]at h
 |succ m=>
  unfold DataW.trod at h;rw[ht]at h;split at h<;>simp_all;rename_i hk;obtain⟨⟨_,h2⟩,_⟩:=h;subst hk;exact au2 h2
theorem GL{H:Type}{e:TypeId}:∀{ds:List (DataW H)} {d:DataW H} {n:Nat},d∈ds→n∈d.weights P e→n∈DataW.weightsAll P e ds
 |d0::ds,d,n,hd,hn=>by
  simp only[DataW.weightsAll,y7];rcases List.mem_cons.1 hd with rfl|hd
  ·exact .inl hn
  ·exact .inr (GL hd hn)
theorem Ej.struct{t:TypeId}{fs:Array Field}{cs:List Value}(ht:P.underlying t=some (.struct fs))(h:Ej P w t cs):
  cs.length=P.cellsOf t∧∀(i:Nat) (f:Field),fs[i]?=some f→Ej P w f.type ((cs.drop f.offset).take (P.cellsOf f.type)):=by
 obtain⟨H,enc,spare,held,fuel,d,ps,h,hw⟩:=h;obtain⟨xs,n,_,hx,hl,qL,n9⟩:=DataW.trod_struct ht h;cases hx
 refine⟨hl,λi f hf=> ?_⟩;have hi:i<xs.length:=by rw[qL];exact(AL.1 hf).1
 have:=n9 i f hf;rw[j4 hi]at this;refine⟨H,enc,spare,held,n,xs[i].1,xs[i].2,this,λm hm=>hw m ?_⟩;simp only[DataW.weights,ht];exact DataW.weights_mem_each (j:=i) (t:=f.type) (d:=xs[i].1) (by simp[hf]) (by simp[hi]) m hm
theorem Ej.array{t e:TypeId}{k:Nat}{cs:List Value}(ht:P.underlying t=some (.array k e))(h:Ej P w t cs):
  cs.length=P.cellsOf t∧∀i,i<k→Ej P w e ((cs.drop (i*P.cellsOf e)).take (P.cellsOf e)):=by
 obtain⟨H,enc,spare,held,fuel,d,ps,h,hw⟩:=h;obtain⟨xs,n,_,hx,hl,qL,n9⟩:=DataW.trod_array ht h;cases hx
 refine⟨hl,λi hi=> ?_⟩;have:=n9 i hi;rw[j4 ah]at this;refine⟨H,enc,spare,held,n,xs[i].1,xs[i].2,this,λm hm=>hw m ?_⟩;simp only[DataW.weights,ht];exact GL (List.mem_map.2 ⟨xs[i],List.getElem_mem _,rfl⟩) hm
structure Uq (sz:Nat) (w:World) (s:Sl) (es:List (List Value)):Prop where
 len:es.length=s.n
 row:∀i e,es[i]?=some e→e.length=sz∧∃p,s.a=some p∧∀j v,e[j]?=some v→w.cell? ((p.add (i*sz)).add j)=some v
theorem Uq.keep{S:Nat→Prop}{sz:Nat}{w w':World}{s:Sl}{es:List (List Value)}(h:Uq sz w s es)(ho:oU S w w')(hs:∀p,s.a=some p→¬S p.block):Uq sz w' s es:=
 ⟨h.len,λi e he=>by
  obtain⟨h1,p,hp,hc⟩:=h.row i e he;refine⟨h1,p,hp,λj v hv=>ho.cell ?_ (hc j v hv)⟩;have:((p.add (i*sz)).add j).block=p.block:=by rw[block_add,block_add]
  rw[this];exact hs p hp⟩
theorem Uq.ext{sz:Nat}{w w':World}{s:Sl}{es:List (List Value)}(h:Uq sz w s es)(ho:Ext w w'):Uq sz w' s es:=h.keep ho λ_ _ h=>h
theorem aji{w:World}{s:Sl}{es:List (List Value)}{sz:Nat}{i:Int}{c:Addr→Prop}(h:Uq sz w s es)(h0:0≤i)(h1:i<s.n)
  (hc:∀p e,es[i.toNat]?=some e→e.length=sz→(∀j v,e[j]?=some v→w.cell? (p.add j)=some v)→c p):cZ s i sz c:=by
 have hlen:=h.len;obtain⟨h2,p,hp,hcell⟩:=h.row i.toNat es[i.toNat] (j4 ah);unfold cZ;rw[hp];exact⟨⟨h0,h1⟩,hc _ _ (j4 ah) h2 hcell⟩
theorem ajj{base n:Nat}{a:Addr}{vs:List Value}(h:w.cells? base a n=some vs):vs.length=n∧∀j v,vs[j]?=some v→w.cell? (a.add j)=some v:=by
 have hs:=World.cells?_some h;refine⟨by simpa using hs.2.1,λj v hv=> ?_⟩
 have hj:=(kJ.1 hv).1;have:=hs.2.2 j ah;rw[this];exact hv
theorem Ej.slice{t e:TypeId}{cs:List Value}(ht:P.underlying t=some (.slice e))(h:Ej P w t cs):
  ∃(s:Sl) (es:List (List Value)),cs=[.slice s.a s.n s.c]∧Uq (P.cellsOf e) w s es∧es.length*P.bytesOf e≤reachBytes∧s.n≤s.c∧s.c≤9223372036854775807∧∀e'∈es,Ej P w e e':=by
 obtain⟨H,enc,spare,held,fuel,d,ps,h,hw⟩:=h;rcases DataW.trod_slice ht h with⟨rfl,_⟩|⟨a,len,cap,elems,rest,n,_,rfl,hx,hb,hl,hm,hlen,hel,hsp,hns⟩
 ·exact⟨⟨none,0,0⟩,[],rfl,⟨rfl,λi e h=>by simp at h⟩,bc,iv _,bc,bc⟩
 ·cases hx
  simp only[DataW.weights,ht]at hw;have each:∀i,i<len→∃vs,w.cells? 0 (a.add (i*P.cellsOf e)) (P.cellsOf e)=some vs∧∃x,elems[i]?=some x∧DataW.trod enc P w 0 spare held n e vs=some x:=by
   intro i hi;have h1:=hel i hi;rw[j4 ah]at h1;cases hc:w.cells? 0 (a.add (i*P.cellsOf e)) (P.cellsOf e)with
   |none=>rw[hc]at h1;simp at h1
   |some vs=>rw[hc]at h1;exact⟨vs,rfl,elems[i],j4 ah,h1⟩
  refine⟨⟨some a,len,cap⟩,(List.range len).map λi=>(w.cells? 0 (a.add (i*P.cellsOf e)) (P.cellsOf e)).getD [],rfl,⟨bc,λi e' he=> ?_⟩,?_,hl,by unfold maxLen at hm;exact hm,λe' he'=> ?_⟩
  ·have hi:i<len:=by have:=(kJ.1 he).1;simpa using this
   obtain⟨vs,hvs,_⟩:=each i hi;simp[hi,hvs]at he;subst he;obtain⟨h1,h2⟩:=ajj hvs;exact⟨h1,a,rfl,h2⟩
  ·have:=hw ((elems.length+rest.length)*P.bytesOf e) bc;simp only[List.length_map,List.length_range]at this ⊢;exact Nat.le_trans (Nat.mul_le_mul_right _ ah) this
  ·obtain⟨i,hi,rfl⟩:=List.mem_map.1 he';obtain⟨vs,hvs,x,hx,ht'⟩:=each i (by simpa using hi)
   rw[hvs];refine⟨H,enc,spare,held,n,x.1,x.2,ht',λm hm=>hw m ?_⟩;refine List.mem_cons_of_mem _ (y7.2 (.inl (GL (List.mem_map.2 ⟨x,q6 hx,rfl⟩) hm)))
theorem FT{A B:Type}{f:A→B}{G:A→Prop}:∀{es:List B},(∀e∈es,∃x,e=f x∧G x)→∃l:List A,es=l.map f∧∀x∈l,G x
 |[],_=>⟨[],rfl,bc⟩
 |e::es,h=>by
  obtain⟨x,rfl,hx⟩:=h e bc;obtain⟨l,rfl,hl⟩:=FT (es:=es) λe he=>h e (by simp[he])
  exact⟨x::l,rfl,λy hy=>by rcases List.mem_cons.1 hy with rfl|hy;exact hx;exact hl y hy⟩
theorem Arg.agg{t:TypeId}{v:Value}(ht:(∃n e,P.underlying t=some (.array n e))∨∃fs,P.underlying t=some (.struct fs))(h:Arg P w t v):∃cs,v= .agg cs∧Ej P w t cs.toList:=by
 obtain⟨b,hf⟩:=h.form;have hv:∃cs,v= .agg cs:=by
  rcases ht with⟨n,e,ht⟩|⟨fs,ht⟩;all_goals
   simp only[Value.okWide,ht]at hf;obtain⟨cs,h1,_⟩:=hf;exact⟨cs,h1⟩
 obtain⟨cs,rfl⟩:=hv;exact⟨cs,rfl,by simpa[Value.cells]using h.reads⟩
end
def Xu(P:Program):Nat→TypeId→Bool
 |0,_=>false
 |n+1,t=>match P.underlying t with
  |some (.int .i64)=>true
  |some (.struct fs)=>fs.all (λf=>Xu P n f.type)&&(List.range (P.cellsOf t)).all λj=>fs.any λf=>decide (f.offset≤j∧j<f.offset+P.cellsOf f.type)
  |some (.array k e)=>Xu P n e&&decide (P.cellsOf t=k*P.cellsOf e)&&decide (0<P.cellsOf e)
  |_=>false
theorem adB{cs:List Value}{o n j:Nat}(h0:o≤j)(h1:j<o+n)(h2:j<cs.length):cs[j] ∈(cs.drop o).take n:=by
 apply q6 (i:=j - o);rw[List.getElem?_take_of_lt ah,List.getElem?_drop,show o+(j - o)=j by omega,j4 h2]
theorem Ej.flat{P:Program}{w:World}:∀{n:Nat} {t:TypeId} {cs:List Value},Xu P n t=true→Ej P w t cs→∀c∈cs,∃z,c= .int .i64 z∧uJ z
 |0,_,_,h,_=>by cases h
 |n+1,t,cs,h,hr=>by
  unfold Xu at h;split at h
  ·rename_i ht;obtain⟨z,rfl,hz⟩:=hr.int ht;intro c hc;rw[List.mem_singleton]at hc;exact⟨z,hc,hz⟩
  ·rename_i fs ht;obtain⟨hl,hf⟩:=hr.struct ht;simp only[iZ,xz]at h;intro c hc;obtain⟨j,hj,rfl⟩:=List.getElem_of_mem hc;have h2:=h.2 j (by simp;omega)
   obtain⟨i,hi,hfi⟩:=Array.any_eq_true.1 h2;have hfi:=of_decide_eq_true hfi;have ayO:=(Array.all_eq_true.1 h.1) i hi;exact Ej.flat ayO (hf i fs[i] bc) _ (adB hfi.1 hfi.2 hj)
  ·rename_i k e ht;obtain⟨hl,hf⟩:=hr.array ht;simp only[iZ,decide_eq_true_eq]at h;obtain⟨⟨h1,h2⟩,h3⟩:=h;intro c hc;obtain⟨j,hj,rfl⟩:=List.getElem_of_mem hc;have hdiv:j / P.cellsOf e<k:=by
    rw[Nat.div_lt_iff_lt_mul h3];omega
   have hm:=Nat.div_add_mod j (P.cellsOf e);have hlt:=Nat.mod_lt j h3;rw[Nat.mul_comm]at hm;exact Ej.flat h1 (hf (j / P.cellsOf e) hdiv) _ (adB ah ah hj)
  ·cases h
theorem Ej.len{P:Program}{w:World}{t:TypeId}{cs:List Value}(ht:(∃n e,P.underlying t=some (.array n e))∨∃fs,P.underlying t=some (.struct fs))(h:Ej P w t cs):cs.length=P.cellsOf t:=by
 rcases ht with⟨n,e,ht⟩|⟨fs,ht⟩
 ·exact(h.array ht).1
 ·exact(h.struct ht).1
theorem Arg.flat{P:Program}{w:World}{t:TypeId}{v:Value}{n k:Nat}(ht:(∃n e,P.underlying t=some (.array n e))∨∃fs,P.underlying t=some (.struct fs))(hf:Xu P n t=true)(hc:P.cellsOf t=k)(h:Arg P w t v):
  ∃xs:List Int,v= .agg (Go.Ev.ints xs).toArray∧xs.length=k∧∀y∈xs,uJ y:=by
 obtain⟨cs,rfl,hr⟩:=h.agg ht;obtain⟨xs,hx,hI⟩:=FT (hr.flat hf);refine⟨xs,?_,?_,hI⟩
 ·have:cs=(xs.map (Value.int .i64)).toArray:=by rw[←hx]
  rw[this]
 ·have:=hr.len ht;rw[hx,hc]at this;simpa using this
theorem apJ:∀(k:K) (x:k.T) (c:k.T→Prop),Zk k (k.v x) c=c x
 | .i k,x,c=>by simp[Zk,K.v,xy]
 | .b,x,c=>rfl
 | .p,x,c=>rfl
 | .a,x,c=>rfl
 | .s,x,c=>rfl
 | .str,x,c=>rfl
 | .m,x,c=>rfl
 | .ag,x,c=>rfl
 | .raw,x,c=>rfl
theorem agV:∀(ks:List K) (x:KT ks) (c:KT ks→Prop),qJ ks (dB ks x) c=c x
 |[],x,c=>rfl
 |[k],x,c=>apJ k x c
 |k::(y::r),x,c=>by
  show Zk k (k.v x.1) (λz=>qJ (y::r) (dB (y::r) x.2) λxs=>c (z,xs))=c x;rw[apJ,agV (y::r)];rfl
theorem uG.call{P:Program}{f:FuncId}{qc tT:List K}{F:KT qc→World→(KT tT→aq)→Prop}(h:uG P f λargs w c=>qJ qc args λx=>F x w λr w=>c (eV (dB tT r)) w){args:Array Value}{W:World}{Q:Ending→aq}(x:KT qc)(ha:args.toList=dB qc x)
  (hF:F x W λr w=>Q (.returned (eV (dB tT r))) w):Calls P f args W Q:=by
 refine(h.2 args W (λv w=>Q (.returned v) w) ?_).mono ?_
 ·rw[ha];show qJ qc (dB qc x) _;rw[agV];exact hF
 ·rintro e w' ⟨v,rfl,hv⟩;exact hv
end Go.Ev
namespace Go.Ev
open Go Go.RowKit
structure HP where
 p:(Nat→Prop)→aq
 lt:∀{F w g},p F w→F g→g<w.heap.size
 keep:∀{F w w'},p F w→(∀g,F g→w'.heap[g]?=w.heap[g]?)→p F w'
def uK:List HP→(Nat→Prop)→aq
 |[],F,_=> ∀g,¬F g
 |R::L,F,w=> ∃F1 F2,R.p F1 w∧uK L F2 w∧(∀g,F1 g→¬F2 g)∧∀g,F g↔(F1 g∨F2 g)
theorem C0:∀{L:List HP} {F w g},uK L F w→F g→g<w.heap.size
 |[],F,w,g,h,hg=>(h g hg).elim
 |R::L,F,w,g,⟨F1,F2,h1,h2,_,e⟩,hg=>by
  rcases (e g).1 hg with hg|hg
  ·exact R.lt h1 hg
  ·exact C0 h2 hg
theorem E6:∀{L:List HP} {F w w'},uK L F w→(∀g,F g→w'.heap[g]?=w.heap[g]?)→uK L F w'
 |[],F,w,w',h,_=>h
 |R::L,F,w,w',⟨F1,F2,h1,h2,hd,e⟩,hk=>
  ⟨F1,F2,R.keep h1 λg hg=>hk g ((e g).2 (.inl hg)),E6 h2 λg hg=>hk g ((e g).2 (.inr hg)),hd,e⟩
theorem am8:∀{L:List HP} {F G w},(∀g,F g↔G g)→uK L F w→uK L G w
 |[],F,G,w,hfg,h=>λg hg=>h g ((hfg g).2 hg)
 |R::L,F,G,w,hfg,⟨F1,F2,h1,h2,hd,e⟩=>⟨F1,F2,h1,h2,hd,λg=>(hfg g).symm.trans (e g)⟩
theorem Ip{R S:HP}{L:List HP}{F w}(h:uK (R::S::L) F w):uK (S::R::L) F w:=by
 obtain⟨F1,F2,h1,⟨F3,F4,h3,h4,oD,e'⟩,hd,e⟩:=h;refine⟨F3,λg=>F1 g∨F4 g,h3,⟨F1,F4,h1,h4,λg hg hg4=>hd g hg ((e' g).2 (.inr hg4)),λg=>Iff.rfl⟩,λg hg hor=> ?_,λg=> ?_⟩
 ·rcases hor with h|h
  ·exact hd g h ((e' g).2 (.inl hg))
  ·exact oD g hg h
 ·rw[e,e'];constructor<;>(intro h;rcases h with h|h|h<;>simp[h])
structure St (w0 w:World) (L:List HP):Prop where
 ext:Ext w0 w
 sep:∃F,uK L F w∧∀g,F g→w0.heap.size≤g
theorem St.nil(w:World):St w w []:=⟨.refl _ _,λ_=>False,λ_ h=>h,λ_ h=>h.elim⟩
theorem St.au4{w0 w:World}(h:Ext w0 w):St w0 w []:=⟨h,λ_=>False,λ_ h=>h,λ_ h=>h.elim⟩
theorem St.on{w0 w w':World}{L:List HP}(h:St w0 w L)(he:Ext w w'):St w0 w' L:=by
 obtain⟨h1,F,h2,h3⟩:=h;exact⟨h1.trans he,F,E6 h2 λg hg=>he.block g (C0 h2 hg) λh=>h,h3⟩
theorem St.swap{w0 w:World}{R S:HP}{L:List HP}(h:St w0 w (R::S::L)):St w0 w (S::R::L):=by
 obtain⟨h1,F,h2,h3⟩:=h;exact⟨h1,F,Ip h2,h3⟩
theorem St.drop{w0 w:World}{R:HP}{L:List HP}(h:St w0 w (R::L)):St w0 w L:=by
 obtain⟨h1,F,⟨F1,F2,h2,h4,h5,e⟩,h3⟩:=h;exact⟨h1,F2,h4,λg hg=>h3 g ((e g).2 (.inr hg))⟩
theorem St.all{w0 w:World}{L:List HP}(h:St w0 w L):St w0 w []:=St.au4 h.ext
theorem St.new{w0 w w':World}{L:List HP}{X:HP}{F':Nat→Prop}(h:St w0 w L)(he:Ext w w')(hx:X.p F' w')(hf:∀g,F' g→w.heap.size≤g):St w0 w' (X::L):=by
 obtain⟨h1,F,h2,h3⟩:=h;refine⟨h1.trans he,λg=>F' g∨F g,⟨F',F,hx,E6 h2 λg hg=>he.block g (C0 h2 hg) λh=>h,λg hg Mq=> ?_,λ_=>Iff.rfl⟩,λg hg=> ?_⟩
 ·have:=hf g hg;have:=C0 h2 Mq;omega
 ·rcases hg with hg|hg
  ·have:=hf g hg;have:=h1.size;omega
  ·exact h3 g hg
theorem St.adC{w0 w w':World}{L:List HP}{R X:HP}(h:St w0 w (R::L))(hx:∀F1,R.p F1 w→oU F1 w w'∧∃F',X.p F' w'∧∀g,F' g→F1 g∨w.heap.size≤g):St w0 w' (X::L):=by
 obtain⟨h1,F,⟨F1,F2,h2,h4,h5,e⟩,h3⟩:=h;obtain⟨ho,F',hx,hf⟩:=hx F1 h2;have GI:uK L F2 w':=E6 h4 λg hg=>ho.block g (C0 h4 hg) λh=>h5 g h hg;refine⟨h1.then ho λg hg=>h3 g ((e g).2 (.inl hg)),λg=>F' g∨F2 g,⟨F',F2,hx,GI,λg hg Mq=> ?_,λ_=>Iff.rfl⟩,λg hg=> ?_⟩
 ·rcases hf g hg with h|h
  ·exact h5 g h Mq
  ·have:=C0 h4 Mq;omega
 ·rcases hg with hg|hg
  ·rcases hf g hg with h|h
   ·exact h3 g ((e g).2 (.inl h))
   ·have:=h1.size;omega
  ·exact h3 g ((e g).2 (.inr hg))
theorem St.look{w0 w:World}{R:HP}{L:List HP}(h:St w0 w (R::L)):∃F,R.p F w∧∀g,F g→w0.heap.size≤g:=by
 obtain⟨h1,F,⟨F1,F2,h2,h4,h5,e⟩,h3⟩:=h;exact⟨F1,h2,λg hg=>h3 g ((e g).2 (.inl hg))⟩
theorem St.conv{w0 w:World}{R X:HP}{L:List HP}(h:St w0 w (R::L))(hx:∀F,R.p F w→X.p F w):St w0 w (X::L):=by
 obtain⟨h1,F,⟨F1,F2,h2,h4,h5,e⟩,h3⟩:=h;exact⟨h1,F,⟨F1,F2,hx F1 h2,h4,h5,e⟩,h3⟩
class At {α:Type} (L:List HP) (k:α→HP) (x:outParam α) (f:outParam (HP→List HP)):Prop where
 split:∃R,(∀{F w},uK L F w→uK (k x::R) F w)∧∀{X F w},uK (X::R) F w→uK (f X) F w
instance (priority:=high) At.here {α:Type} {L:List HP} {k:α→HP} {x:α}:At (k x::L) k x (λX=>X::L):=⟨⟨L,id,id⟩⟩
instance At.there {α:Type} {L:List HP} {k:α→HP} {x:α} {Y:HP} {f:HP→List HP} [a:At L k x f]:At (Y::L) k x (λX=>Y::f X):=by
 constructor
 obtain⟨R,h1,h2⟩:=a.split
 refine⟨Y::R,λh=>Ip ?_,λh=> ?_⟩
 ·obtain⟨F1,F2,k2,k4,k5,e⟩:=h
  exact⟨F1,F2,k2,h1 k4,k5,e⟩
 ·obtain⟨F1,F2,k2,k4,k5,e⟩:=Ip h
  exact⟨F1,F2,k2,h2 k4,k5,e⟩
theorem At.out{α:Type}{L:List HP}{k:α→HP}{x:α}{f:HP→List HP}(a:At L k x f):∃R,(∀{w0 w},St w0 w L→St w0 w (k x::R))∧∀{X w0 w},St w0 w (X::R)→St w0 w (f X):=by
 obtain⟨R,h1,h2⟩:=a.split;exact⟨R,fun⟨a,F,b,c⟩=>⟨a,F,h1 b,c⟩,fun⟨a,F,b,c⟩=>⟨a,F,h2 b,c⟩⟩
theorem St.look'{α:Type}{w0 w:World}{L:List HP}{k:α→HP}{x:α}{f:HP→List HP}(h:St w0 w L)(a:At L k x f):∃F,(k x).p F w∧∀g,F g→w0.heap.size≤g:=by
 obtain⟨R,h1,h2⟩:=a.out;exact(h1 h).look
theorem St.Mr{α:Type}{w0 w w':World}{L:List HP}{k:α→HP}{x:α}{f:HP→List HP}{X:HP}(h:St w0 w L)(a:At L k x f)(hx:∀F1,(k x).p F1 w→oU F1 w w'∧∃F',X.p F' w'∧∀g,F' g→F1 g∨w.heap.size≤g):St w0 w' (f X):=by
 obtain⟨R,h1,h2⟩:=a.out;exact h2 ((h1 h).adC hx)
theorem St.ae4{α:Type}{w0 w:World}{L:List HP}{k:α→HP}{x:α}{f:HP→List HP}{X:HP}(h:St w0 w L)(a:At L k x f)(hx:∀F,(k x).p F w→X.p F w):St w0 w (f X):=by
 obtain⟨R,h1,h2⟩:=a.out;exact h2 ((h1 h).conv hx)
theorem YN:∀{L:List HP} {n:Nat} {X:HP} {F w},L[n]?=some X→uK L F w→uK (X::L.eraseIdx n) F w
 |[],n,X,F,w,h,_=>by simp at h
 |R::L,0,X,F,w,h,hs=>by simp at h;subst h;exact hs
 |R::L,n+1,X,F,w,h,⟨F1,F2,h1,h2,h3,h4⟩=>by
  have:=YN (L:=L) (n:=n) (by simpa using h) h2
  exact Ip ⟨F1,F2,h1,this,h3,h4⟩
theorem St.front{w0 w:World}{L:List HP}(h:St w0 w L)(n:Nat){X:HP}(e:L[n]?=some X):St w0 w (X::L.eraseIdx n):=⟨h.ext,by obtain⟨F,h1,h2⟩:=h.sep;exact⟨F,YN e h1,h2⟩⟩
theorem St.rm{w0 w:World}{L:List HP}(h:St w0 w L)(n:Nat){X:HP}(e:L[n]?=some X):St w0 w (L.eraseIdx n):=(h.front n e).drop
theorem agW{n:Nat}{a:Addr}{w:World}{c:Prop}(hc:c):ai n a w w c:=⟨λ_ _=>rfl,hc⟩
def ax(g:Nat)(cs:List Value):HP where
 p F w:=(∀k,F k↔k=g)∧pG w g cs.toArray
 lt:=fun⟨e,h⟩ hg=>by rw[(e _).1 hg];exact h.lt
 keep:=fun⟨e,h⟩ hk=>⟨e,by obtain⟨t,h⟩:=h;exact⟨t,(hk _ ((e _).2 rfl)).trans h⟩⟩
section
variable {w0 w:World} {L:List HP} {g:Nat} {cs:List Value} {f:HP→List HP}
theorem St.ax(h:St w0 w L)[a:At L (ax g) cs f]:pG w g cs.toArray:=by
 obtain⟨F,h1,_⟩:=h.look' a;exact h1.2
theorem av{a:Array Value}{t:TypeId}{c:Addr→aq}(h:St w0 w L)(hc:∀g w',St w0 w' (Ev.ax g a.toList::L)→c ⟨g,0,none⟩ w'):aL w a t c:=
 jD λg w' hg hs hb he=>hc g w' (h.new he (F':=λk=>k=g) ⟨λ_=>Iff.rfl,hb⟩ λk hk=>by omega)
theorem aF{c:aq}(h:St w0 w L)(hc:∀w',St w0 w' L→c w'):drew w c:=Mp λw' _ he=>hc w' (h.on he)
theorem jY{o:Nat}{v:Value}{c:aq}(h:St w0 w L)[a:At L (Ev.ax g) cs f](h1:v.oneCell'=true)(ho:o<cs.length)(hc:∀w',St w0 w' (f (Ev.ax g (cs.set o v)))→c w'):bJ w ⟨g,o,none⟩ v c:=by
 refine aaG h1 h.ax (by simpa using ho) λw' hb hs FR=>hc w' (h.Mr a λF1 hF=>⟨FR.mono λk _ hk=>(hF.1 k).2 hk,λk=>k=g,⟨λ_=>Iff.rfl,?_⟩,λk hk=> .inl ((hF.1 k).2 hk)⟩)
 rw[List.setIfInBounds_toArray]at hb;exact hb
theorem cn{k:IntKind}{o:Nat}{n:Int}{c:Int→Prop}(h:St w0 w L)[a:At L (Ev.ax g) cs f](hv:cs[o]?=some (.int k n))(hc:c n):aN k w ⟨g,o,none⟩ c:=uH (by rw[h.ax.cell];simpa using hv) hc
theorem ajl{o:Nat}{n:Bool}{c:Bool→Prop}(h:St w0 w L)[a:At L (Ev.ax g) cs f](hv:cs[o]?=some (.bool n))(hc:c n):Jc w ⟨g,o,none⟩ c:=aje (by rw[h.ax.cell];simpa using hv) hc
theorem B5{o:Nat}{n:Option Addr}{c:Option Addr→Prop}(h:St w0 w L)[a:At L (Ev.ax g) cs f](hv:cs[o]?=some (.pointer n))(hc:c n):aR w ⟨g,o,none⟩ c:=apB (by rw[h.ax.cell];simpa using hv) hc
theorem ea{o:Nat}{p:Option Addr}{n m:Nat}{c:Sl→Prop}(h:St w0 w L)[a:At L (Ev.ax g) cs f](hv:cs[o]?=some (.slice p n m))(hc:c ⟨p,n,m⟩):cC w ⟨g,o,none⟩ c:=Il (s:=⟨p,n,m⟩) (by rw[h.ax.cell];simpa using hv) hc
theorem agX{o:Nat}{n:ByteArray}{c:ByteArray→Prop}(h:St w0 w L)[a:At L (Ev.ax g) cs f](hv:cs[o]?=some (.string n))(hc:c n):PI w ⟨g,o,none⟩ c:=by
 have:w.cell? ⟨g,o,none⟩=some (.string n):=by rw[h.ax.cell];simpa using hv
 simp[PI,rd,this,Xk,hc]
theorem aaP{o:Nat}{n:Option Nat}{c:Option Nat→Prop}(h:St w0 w L)[a:At L (Ev.ax g) cs f](hv:cs[o]?=some (.map n))(hc:c n):ldM w ⟨g,o,none⟩ c:=by
 have:w.cell? ⟨g,o,none⟩=some (.map n):=by rw[h.ax.cell];simpa using hv
 simp[ldM,rd,this,toM,hc]
theorem Iq{o:Nat}{v:Value}{c:Value→Prop}(h:St w0 w L)[a:At L (Ev.ax g) cs f](hv:cs[o]?=some v)(hc:c v):sX w ⟨g,o,none⟩ c:=ajh (by rw[h.ax.cell];simpa using hv) hc
theorem qz{n o:Nat}{c:Array Value→Prop}(h:St w0 w L)[a:At L (Ev.ax g) cs f](hl:o+n≤cs.length)(hc:c ((cs.drop o).take n).toArray):bD n w ⟨g,o,none⟩ c:=ajf h.ax (by simpa using hl) hc
theorem jZ{n:Nat}{c:Array Value→Prop}(h:St w0 w L)[a:At L (Ev.ax g) cs f](hl:cs.length=n)(hc:c cs.toArray):bD n w ⟨g,0,none⟩ c:=by
 refine qz h ah ?_;rw[List.drop_zero,List.take_of_length_le ah];exact hc
theorem Xv{n o:Nat}{vs:Array Value}{c:aq}(h:St w0 w L)[a:At L (Ev.ax g) cs f](hn:vs.size=n)(hl:o+n≤cs.length)(h1:∀v∈vs,v.oneCell'=true)
  (hc:∀w',St w0 w' (f (Ev.ax g (cs.take o++(vs.toList++cs.drop (o+n)))))→c w'):dZ n w ⟨g,o,none⟩ vs c:=by
 refine ae0 h.ax hn (by simpa using hl) h1 λw' cs' hb hz hk hv FR hs=>hc w' (h.Mr a λF1 hF=>⟨FR.mono λk _ hk=>(hF.1 k).2 hk,λk=>k=g,⟨λ_=>Iff.rfl,?_⟩,λk hk=> .inl ((hF.1 k).2 hk)⟩)
 refine ae2 hb λj=> ?_;have hz':cs'.size=cs.length:=by simpa using hz
 simp only[List.getElem?_toArray];by_cases h1:j<o
 ·rw[hk j (.inl h1)];rw[sZ (by simp;omega),List.getElem?_take_of_lt h1];simp
 ·by_cases h2:j<o+n
  ·have:=hv (j - o) ah;rw[show o+(j - o)=j by omega]at this
   rw[this];rw[uI (by simp;omega),sZ (by simp;omega)]
   simp only[List.length_take,Array.getElem?_toList];congr 1;omega
  ·rw[hk j (.inr ah)];rw[uI (by simp;omega),uI (by simp;omega),List.getElem?_drop]
   simp only[List.length_take,List.getElem?_toArray,Array.length_toList];congr 1;omega
theorem m8{n:Nat}{vs:Array Value}{c:aq}(h:St w0 w L)[a:At L (Ev.ax g) cs f](hl:cs.length=n)(hn:vs.size=n)(h1:∀v∈vs,v.oneCell'=true)(hc:∀w',St w0 w' (f (Ev.ax g vs.toList))→c w'):dZ n w ⟨g,0,none⟩ vs c:=
 Xv h hn ah h1 λw' h'=>hc w' (by
  have e:cs.take 0++(vs.toList++cs.drop (0+n))=vs.toList:=by simp[List.drop_eq_nil_of_le,hl]
  rwa[e]at h')
theorem eT{w0' w':World}{L':List HP}{f':HP→List HP}{n o:Nat}{c:Prop}(h:St w0 w L)(h':St w0' w' L')[a:At L (Ev.ax g) cs f][a':At L' (Ev.ax g) cs f'](hc:c):ai n ⟨g,o,none⟩ w w' c:=Bu h.ax h'.ax hc
end
structure qf (sz:Nat) (w:World) (s:Sl) (vs:List Value):Prop where
 len:vs.length=s.n*sz
 cap:s.n≤s.c
 max:s.c≤9223372036854775807
 one:∀x∈vs,x.oneCell'=true
 row:(s.a=none∧s.c=0)∨∃g off cs,s.a=some ⟨g,off,none⟩∧pG w g cs∧off+s.c*sz≤cs.size∧∀i v,vs[i]?=some v→cs[off+i]?=some v
theorem qf.keep{sz:Nat}{w w':World}{s:Sl}{vs:List Value}(h:qf sz w s vs)(hk:∀g,s.ax=some g→w'.heap[g]?=w.heap[g]?):qf sz w' s vs:=by
 refine⟨h.len,h.cap,h.max,h.one,h.row.imp id ?_⟩;rintro⟨g,off,cs,h1,h2,h3⟩;refine⟨g,off,cs,h1,?_,h3⟩;obtain⟨t,h2⟩:=h2;exact⟨t,(hk g (by simp[Sl.ax,h1])).trans h2⟩
theorem qf.sls{sz:Nat}{w:World}{s:Sl}{vs:List Value}(h:qf sz w s vs):GK sz w s vs:=by
 refine⟨h.len,λi v hv=> ?_⟩;rcases h.row with⟨h1,h2⟩|⟨g,off,cs,h1,h3,_,h5⟩
 ·have h0:=h.cap;have h6:i<vs.length:=(kJ.1 hv).1;have h7:=h.len;have:s.n=0:=ah;have h8:vs.length=0:=by rw[h7,this];simp
  omega
 ·exact⟨_,h1,by rw[cY,h3.cell];exact h5 i v hv⟩
def bP(sz:Nat)(s:Sl)(vs:List Value):HP where
 p F w:=(∀k,F k↔s.ax=some k)∧qf sz w s vs
 lt:=fun⟨e,h⟩ hg=>by
  have hg:=(e _).1 hg
  rcases h.row with⟨h1,_⟩|⟨g',off,cs,h1,h3,_⟩
  ·simp[Sl.ax,h1]at hg
  ·simp[Sl.ax,h1]at hg;subst hg;exact h3.lt
 keep:=fun⟨e,h⟩ hk=>⟨e,h.keep λg hg=>hk g ((e g).2 hg)⟩
section
variable {w0 w:World} {L:List HP} {sz:Nat} {s:Sl} {vs:List Value} {f:HP→List HP}
theorem St.own(h:St w0 w L)[a:At L (bP sz s) vs f]:qf sz w s vs:=by
 obtain⟨F,h1,_⟩:=h.look' a;exact h1.2
theorem St.FU(h:St w0 w L)[a:At L (bP sz s) vs f]:vs.length=s.n*sz:=h.own.len
theorem qf.nil(sz:Nat)(w:World):qf sz w ⟨none,0,0⟩ []:=⟨bc,iv _,bc,bc,.inl ⟨rfl,rfl⟩⟩
theorem St.Jv(h:St w0 w L)(sz:Nat):St w0 w (bP sz ⟨none,0,0⟩ []::L):=by
 exact h.new (.refl _ _) (F':=λ_=>False) ⟨λk=>by simp[Sl.ax],qf.nil sz w⟩ λ_ h=>h.elim
theorem qf.new{g n:Nat}{l:List Value}(hb:pG w g l.toArray)(hn:l.length=n*sz)(hm:n≤9223372036854775807)(h1:∀x∈l,x.oneCell'=true):qf sz w ⟨some ⟨g,0,none⟩,n,n⟩ l:=
 ⟨hn,iv _,hm,h1,.inr ⟨g,0,l.toArray,rfl,hb,by simp[hn],λi v hv=>by simpa using hv⟩⟩
theorem St.asS{g n:Nat}{cs:List Value}(h:St w0 w L)[a:At L (Ev.ax g) cs f](hn:cs.length=n*sz)(hm:n≤9223372036854775807)(h1:∀x∈cs,x.oneCell'=true):St w0 w (f (bP sz ⟨some ⟨g,0,none⟩,n,n⟩ cs)):=
 h.ae4 a λF hF=>⟨λk=>by rw[hF.1];simp[Sl.ax,eq_comm],qf.new hF.2 hn hm h1⟩
theorem Kf{i:Int}{c:Addr→Prop}(h:St w0 w L)[a:At L (bP sz s) vs f](hsz:0<sz)(h0:0≤i)(h1:i<s.n)
  (hc:∀g o,s.ax=some g→(∀{w' L' f'},St w0 w' L'→[At L' (bP sz s) vs f']→∀j v,j<sz→vs[i.toNat*sz+j]?=some v→w'.cell? ⟨g,o+j,none⟩=some v)→
   (∀{w':World} {L':List HP} {vs':List Value} {f':HP→List HP} (h':St w0 w' L') (a':At L' (bP sz s) vs' f') (j:Nat) (v:Value) (c':aq),j<sz→v.oneCell'=true→
    (∀w'',St w0 w'' (f' (bP sz s (vs'.set (i.toNat*sz+j) v)))→c' w'')→bJ w' ⟨g,o+j,none⟩ v c')→c ⟨g,o,none⟩):cZ s i sz c:=by
 have ho:qf sz w s vs:=h.own;have hi:i.toNat<s.n:=ah;have hlt:i.toNat*sz+sz≤s.n*sz:=by
  rw[←Nat.succ_mul];exact Nat.mul_le_mul_right _ hi
 rcases ho.row with⟨h2,h3⟩|⟨g,off,cs,h2,h3,h4,h5⟩
 ·have:=ho.cap;omega
 ·unfold cZ;rw[h2];refine⟨⟨h0,h1⟩,?_⟩;rw[cY];refine hc g _ (by simp[Sl.ax,h2]) ?_ ?_
  ·intro w' L' f' h' a' j v hj hv;obtain⟨p,hp,pB⟩:=(h'.own (sz:=sz) (s:=s) (vs:=vs)).sls.cell _ v hv;rw[h2]at hp;cases hp;rw[cY]at pB;rw[Nat.add_assoc];exact pB
  ·intro w' L' vs' f' h' a' j v c' hj Zp Ei;have yX:qf sz w' s vs':=h'.own;rcases yX.row with⟨h2',_⟩|⟨g',off',cs',h2',h3',h4',h5'⟩
   ·rw[h2]at h2';cases h2'
   ·rw[h2]at h2';cases h2';have GJ:=yX.cap;have axS:s.n*sz≤s.c*sz:=Nat.mul_le_mul_right _ GJ;refine aaG Zp h3' ah λw'' hb hs FR=>Ei w'' (h'.Mr a' λF1 hF=>⟨FR.mono λk _ hk=>(hF.1 k).2 (by simp[Sl.ax,h2,hk]),F1,⟨hF.1,?_⟩,λk hk=> .inl hk⟩)
    refine⟨by rw[List.length_set];exact yX.len,yX.cap,yX.max,λx hx=> ?_,.inr ⟨g,off,_,h2,hb,by simpa using h4',λk u hk=> ?_⟩⟩
    ·rcases List.mem_or_eq_of_mem_set hx with hx|rfl
     ·exact yX.one x hx
     ·exact Zp
    ·by_cases Zn:i.toNat*sz+j=k
     ·subst Zn;have adD:i.toNat*sz+j<vs'.length:=by rw[yX.len];omega
      rw[uu adD]at hk;cases hk
      rw[show off+i.toNat*sz+j=off+(i.toNat*sz+j) by omega,Array.getElem?_setIfInBounds_self,if_pos (by rw[yX.len]at adD;omega)]
     ·rw[rK Zn]at hk;rw[Array.getElem?_setIfInBounds_ne ah];exact h5' k u hk
def R9(P:Program)(t:TypeId):Option (Nat×Nat×Option Value):=match P.underlying t with
 |some (.slice e)=>(P.info? e).map λi=>(i.size,i.bytes,i.zero)
 |_=>none
structure GM (P:Program) (t:TypeId) (sz b:Nat) (z:Value):Prop where
 info:R9 P t=some (sz,b,some z)
 size:z.cells.size=sz
theorem GM.out{P:Program}{t:TypeId}{b:Nat}{z:Value}(h:GM P t sz b z):∃e i,P.underlying t=some (.slice e)∧P.info? e=some i∧i.size=sz∧i.bytes=b∧i.zero=some z:=by
 have h2:=h.info;unfold R9 at h2;split at h2
 ·rename_i e he;cases hi:P.info? e with
  |none=>simp[hi]at h2
  |some i=>simp[hi]at h2;exact⟨e,i,he,hi,h2⟩
 ·cases h2
def adE(P:Program)(t:TypeId):Bool:=match P.underlying t with|some (.slice _)=>true|_=>false
theorem ana{P:Program}{t:TypeId}(h:adE P t=true):∃e,P.underlying t=some (.slice e):=by
 unfold adE at h;split at h
 ·exact⟨_,by assumption⟩
 ·cases h
theorem HO{P:Program}{x:Sl}{ys:List Value}{n:Nat}(h:GK sz w x ys)(hn:n≤x.n):(Builtin.firstCells sz n (.slice x.a x.n x.c)).run P w= .ok (ys.take (n*sz)).toArray w:=by
 have hlen:=h.len;have hle:n*sz≤ys.length:=by rw[hlen];exact Nat.mul_le_mul_right _ hn
 cases ha:x.a with
 |none=>
  have:ys=[]:=by
   cases ys with
   |nil=>rfl
   |cons v l=>obtain⟨p,hp,_⟩:=h.cell 0 v rfl;rw[ha]at hp;cases hp
  subst this;rw[List.take_nil];exact run_firstCells_none w sz n x.n x.c
 |some p=>
  exact run_firstCells_some w sz n p x.n x.c (ys.take (n*sz)) (by rw[List.length_take];omega) λj v hv=>by
   rw[List.getElem?_take]at hv;split at hv
   ·obtain⟨q,hq,hc⟩:=h.cell j v hv;rw[ha]at hq;cases hq;exact hc
   ·cases hv
theorem apL{P:Program}{tx e':TypeId}(hk:P.underlying tx=some (.slice e')){x:Sl}{ys:List Value}(h:GK sz w x ys)(h1:∀v∈ys,v.oneCell'=true):Src P sz tx (.slice x.a x.n x.c) x.n ys w:=by
 have e:ys.take (x.n*sz)=ys:=List.take_of_length_le (by rw[h.len];exact iv _)
 refine⟨.inl ⟨e',hk⟩,λ_=>rfl,?_,?_,by rw[h.len],h1⟩
 ·have:=HO (P:=P) h (iv _);rwa[e]at this
 ·have:=HO (P:=P) (h.ext (An w)) (iv _);rwa[e]at this
theorem qf.qG{P:Program}{t tx:TypeId}{ty:TypeId}{b:Nat}{z:Value}{x:Sl}{ys:List Value}{c:Sl→aq}(hown:qf sz w s vs)(ht:GM P t sz b z)(hk:adE P tx=true)
  (hsrc:GK sz w x ys) (h1:∀v∈ys,v.oneCell'=true) (hbytes:(s.n+x.n)*b≤140737488355328) (h63:s.n+x.n≤9223372036854775807)
  (hc:∀s' w',qf sz w' s' (vs++ys)→oU (λk=>s.ax=some k) w w'→(s'.ax=s.ax∨∃g,s'.ax=some g∧w.heap.size≤g)→s'.n=s.n+x.n→c s' w'):
  qd P #[t,tx] ty [.slice s.a s.n s.c,.slice x.a x.n x.c] w c:=by
 obtain⟨e,i,hte,hi,hsz,hby,Zo⟩:=ht.out;obtain⟨e',hk⟩:=ana hk;have hs:=apL (P:=P) hk hsrc h1;have GN:=hsrc.len;have hlen:=hown.len;have hone:∀v∈vs++ys,v.oneCell'=true:=λv hv=>(y7.1 hv).elim (hown.one v) (h1 v);have hmul:(s.n+x.n)*sz=s.n*sz+x.n*sz:=Nat.add_mul _ _ _;unfold qd;by_cases hroom:s.n+x.n≤s.c
 ·rcases hown.row with⟨h2,h3⟩|⟨g,off,cs,h2,h4,h5,h6⟩
  ·have hx0:x.n=0:=ah;have hs0:s.n=0:=ah;have hys:ys=[]:=List.eq_nil_of_length_eq_zero (by rw[GN,hx0,Nat.zero_mul])
   have hxs:vs=[]:=List.eq_nil_of_length_eq_zero (by rw[hlen,hs0,Nat.zero_mul])
   subst hys;subst hxs;rw[h2,hs0,h3];have hr:(Builtin.append_ #[t,tx] ty #[.slice none 0 0,.slice x.a x.n x.c]).run P w= .ok (.slice none 0 0) w:=by
    have hk':=hs.cells;simp only[List.toArray]at hk';have hlen:=hs.len w;rw[hx0]at hlen hk' ⊢;simp[Builtin.append_,run_underlying hte,run_underlying hk,sizeOf,typeInfo,hi,hsz,Builtin.lenOf,Builtin.firstCells]at hk' ⊢;cases hxa:x.a<;>simp[Builtin.firstCells,hxa,loadCells,loadCellsFrom]
   simp only[List.toArray]at*
   rw[hr];show c ⟨none,0,0⟩ w;exact hc _ _ (by simpa using qf.nil sz w) (.refl _ _) (.inl (by simp[Sl.ax,h2])) (by rw[hs0,hx0])
  ·obtain⟨ee,h4'⟩:=h4;have hcap:(s.n+x.n)*sz≤s.c*sz:=Nat.mul_le_mul_right _ hroom;have hcell:∀j,j<ys.length→(w.cell? ⟨g,off+s.n*i.size+j,none⟩).isSome=true:=by
    intro j hj;rw[hsz,(show pG w g cs from⟨ee,h4'⟩).cell];have:off+s.n*sz+j<cs.size:=ah;simp[this]
   have apC:∀j,j<ys.length→w.frozen? ⟨g,off+s.n*i.size+j,none⟩=false:=λj _=>(show pG w g cs from⟨ee,h4'⟩).frozen _;rw[←hsz]at hs;have hr:=run_append_room_src w t tx ty e i hte hi g off s.n s.c _ x.n ys hs hroom hcell apC;obtain⟨cs',k1,k2,k3,k4,k5,k6⟩:=Ke ys w g (off+s.n*sz) cs h4' ah;rw[hsz]at hr;rw[h2];simp only[List.toArray]at*
   rw[hr];show c ⟨some ⟨g,off,none⟩,s.n+x.n,s.c⟩ _;refine hc _ _ ⟨by simp;omega,hroom,hown.max,hone,.inr ⟨g,off,cs',rfl,⟨ee,k1⟩,by rw[k2];exact h5,λj v hv=> ?_⟩⟩ (k5.mono λk _ hk=>by simp[Sl.ax,h2,hk]) (.inl (by simp[Sl.ax,h2])) rfl
   by_cases hj:j<vs.length
   ·rw[sZ hj]at hv;rw[k3 _ ah];exact h6 j v hv
   ·rw[uI ah]at hv;have:=k4 _ v hv;rwa[show off+s.n*sz+(j - vs.length)=off+j by omega]at this
 ·have hg:s.c<s.n+x.n:=ah;have hfit:Builtin.nextslicecap (s.n+x.n) s.c*i.bytes≤281474976710656:=growslice_fits hg (by rw[hby];exact hbytes)
  have e0:vs.take (s.n*sz)=vs:=List.take_of_length_le ah;have hold:=HO (P:=P) (hown.sls.ext (An w)) (iv _);rw[e0]at hold;rw[←hsz]at hold hs;have hr:=run_append_grow_src w t tx ty e i z hte hi Zo s.a s.n s.c vs hold _ x.n ys hs hg ah hfit;simp only[List.toArray]at*
  rw[hr];have hge:=grownCap_ge w (s.n+x.n) s.c e;have Uo:=grownCap_le_maxLen w (s.n+x.n) s.c e (by unfold maxLen;omega)
  unfold maxLen at Uo;show c ⟨some ⟨w.heap.size,0,none⟩,s.n+x.n,_⟩ _;have hzs:z.cells.size=sz:=ht.size;refine hc _ _ ⟨by simp;omega,hge,Uo,hone,.inr ⟨w.heap.size,0,_,rfl,pG.new w.drew _ e,?_,λj v hv=> ?_⟩⟩ (Ext.only ((An w).trans (E4 _ _))) (.inr ⟨w.heap.size,rfl,iv _⟩) rfl
  ·have h9:(s.n+x.n)*sz≤grownCap w (s.n+x.n) s.c e*sz:=Nat.mul_le_mul_right _ hge;rw[Array.size_append,size_zeroCells,hzs,Nat.sub_mul];simp only[List.size_toArray,tV];omega
  ·have hj:j<(vs++ys).length:=(kJ.1 hv).1;rw[Nat.zero_add,Array.getElem?_append_left (by simpa using hj)]
   simpa using hv
theorem Sa{P:Program}{t tx:TypeId}{ty:TypeId}{b:Nat}{z:Value}{x:Sl}{ys:List Value}{c:Sl→aq}(h:St w0 w L)[a:At L (bP sz s) vs f](ht:GM P t sz b z)(hk:adE P tx=true)
  (hsrc:GK sz w x ys) (h1:∀v∈ys,v.oneCell'=true) (hbytes:(s.n+x.n)*b≤140737488355328) (h63:s.n+x.n≤9223372036854775807)
  (hc:∀s' w',St w0 w' (f (bP sz s' (vs++ys)))→s'.n=s.n+x.n→c s' w'):qd P #[t,tx] ty [.slice s.a s.n s.c,.slice x.a x.n x.c] w c:=
 qf.qG h.own ht hk hsrc h1 hbytes h63 λs' w' ho FR hb hn=>hc s' w' (h.Mr a λF1 hF=>⟨FR.mono λk _ hk=>(hF.1 k).2 hk,λk=>s'.ax=some k,⟨λ_=>Iff.rfl,ho⟩,λk hk=>by
  rcases hb with hb|⟨g,hg,hge⟩
  ·exact .inl ((hF.1 k).2 (by rw[←hb];exact hk))
  ·rw[hg]at hk;cases hk;exact .inr hge⟩) hn
theorem GK.alA{g n c:Nat}{cs:List Value}{fr:HP→List HP}(h:St w0 w L)[a:At L (Ev.ax g) cs fr](hn:cs.length=n*sz):GK sz w ⟨some ⟨g,0,none⟩,n,c⟩ cs:=
 ⟨hn,λi v hv=>⟨_,rfl,by rw[cY,h.ax.cell];simpa using hv⟩⟩
theorem qf.off{d:Sl}{ys:List Value}{lo:Nat}(h:qf sz w s vs)(hy:ys.length=d.n*sz)(hc:d.n≤d.c)(hcc:lo+d.c≤s.c)(ha:d.a=s.a.map (·.add (lo*sz))∨(d.a=s.a∧d.c=0))(hv:∀i v,ys[i]?=some v→vs[lo*sz+i]?=some v):qf sz w d ys:=by
 have aBd:=h.max;have hm:(lo+d.c)*sz≤s.c*sz:=Nat.mul_le_mul_right _ hcc;rw[Nat.add_mul]at hm;refine⟨hy,hc,ah,λx hx=> ?_,?_⟩
 ·obtain⟨i,hi,rfl⟩:=List.getElem_of_mem hx;have:=hv i ys[i] (by simp[hi])
  exact h.one _ (q6 this)
 ·rcases h.row with⟨h1,h2⟩|⟨g,off,cs,h1,h3,h4,h5⟩
  ·refine .inl ⟨?_,ah⟩;rcases ha with ha|⟨ha,_⟩<;>rw[ha,h1] <;>rfl
  ·rcases ha with ha|⟨ha,VH⟩
   ·exact .inr ⟨g,off+lo*sz,cs,by rw[ha,h1];simp,h3,ah,λi v hi=>by rw[Nat.add_assoc];exact h5 _ _ (hv i v hi)⟩
   ·have hy0:ys=[]:=List.eq_nil_of_length_eq_zero (by
      rw[hy];have:d.n=0:=ah;rw[this,Nat.zero_mul])
    subst hy0;exact .inr ⟨g,off,cs,by rw[ha,h1],h3,by rw[VH,Nat.zero_mul];omega,λi v hi=>by simp at hi⟩
theorem apM{lo:Int}{c:Sl→Prop}(h:St w0 w L)[a:At L (bP sz s) vs f](h0:0≤lo)(h1:lo≤s.n)
  (hc:∀d:Sl,d.n=s.n - lo.toNat→St w0 w (f (bP sz d (vs.drop (lo.toNat*sz))))→c d):slL s sz lo c:=by
 have ho:qf sz w s vs:=h.own;have hcap:=ho.cap;have hlen:=ho.len;refine⟨⟨h0,h1⟩,hc _ rfl (h.ae4 a λF hF=>⟨λk=> ?_,ho.off (lo:=lo.toNat) (by simp[hlen,Nat.sub_mul]) (by simp;omega) (by simp;omega) ?_ λi v hi=>by simpa using hi⟩)⟩
 ·rw[hF.1];by_cases hq:s.c=lo.toNat
  ·simp[Sl.ax,hq]
  ·simp only[Sl.ax,hq,if_false];cases s.a with
   |none=>simp
   |some p=>simp[aY];split<;>rfl
 ·by_cases hq:s.c=lo.toNat
  ·right;simp[hq]
  ·left;simp[hq]
theorem ajm{lo hi:Int}{c:Sl→Prop}(h:St w0 w L)[a:At L (bP sz s) vs f](h0:0≤lo)(h1:lo≤hi)(h2:hi≤s.n)
  (hc:∀d:Sl,d.n=hi.toNat - lo.toNat→St w0 w (f (bP sz d ((vs.drop (lo.toNat*sz)).take ((hi.toNat - lo.toNat)*sz))))→c d):Sw s sz lo hi c:=by
 have ho:qf sz w s vs:=h.own;have hcap:=ho.cap;have hlen:=ho.len;have hm:(hi.toNat - lo.toNat)*sz≤(s.n - lo.toNat)*sz:=Nat.mul_le_mul_right _ ah;refine⟨⟨ah,ah⟩,⟨h0,h1⟩,hc _ rfl (h.ae4 a λF hF=>⟨λk=> ?_,ho.off (lo:=lo.toNat) ?_ (by simp;omega) (by simp;omega) ?_ λi v hi=> ?_⟩)⟩
 ·rw[hF.1];by_cases hq:s.c=lo.toNat
  ·simp[Sl.ax,hq]
  ·simp only[Sl.ax,hq,if_false];cases s.a with
   |none=>simp
   |some p=>simp[aY];split<;>rfl
 ·rw[List.length_take,List.length_drop,hlen,←Nat.sub_mul];exact Nat.min_eq_left hm
 ·by_cases hq:s.c=lo.toNat
  ·right;simp[hq]
  ·left;simp[hq]
 ·rw[List.getElem?_take]at hi;split at hi
  ·simpa using hi
  ·cases hi
theorem Ao{P:Program}{t:TypeId}{b:Nat}{z:Value}{n:Nat}{kl kc:IntKind}{c:Sl→aq}(h:St w0 w L)(ht:GM P t 1 b z)(hz1:z.oneCell'=true)
  (hbytes:b*n≤281474976710656) (h63:n≤9223372036854775807)
  (hc:∀s w',St w0 w' (bP 1 s (dM n z)::L)→s.n=n→c s w'):Bt P t (.int kl (n:Int)) (.int kc (n:Int)) w c:=by
 obtain⟨e,i,hte,hi,hsz,hby,Zo⟩:=ht.out;refine alz (B:=w.heap.size) (e:=e) ⟨hte,by rw[hi];simp[hsz,hby,Zo]⟩ hz1 (iv _) hbytes h63 λs w' ho he h1 h2 h3 h4=>hc s w' (h.new he (F':=λk=>s.ax=some k) ⟨λ_=>Iff.rfl,?_⟩ λk hk=> ?_) h1
 ·refine⟨by simp[h1],ho.cap,ho.max,ho.one,ho.row.imp id ?_⟩
  rintro⟨g,off,cs,e1,e2,e3,e4,e5⟩;exact⟨g,off,cs,e1,e3,by simpa using e4,e5⟩
 ·rw[h3]at hk;cases hk;exact iv _
theorem qf.aBh{P:Program}{t tx:TypeId}{ty:TypeId}{b:Nat}{z:Value}{n:Nat}{kk:IntKind}{c:Sl→aq}(hown:qf 1 w s vs)(ht:GM P t 1 b z)(hk:P.underlying tx=some (.int .i64))(hz1:z.oneCell'=true)
  (hfull:s.n=s.c) (hn:0<n) (hbytes:(s.n+n)*b≤140737488355328) (h63:s.n+n≤9223372036854775807)
  (hc:∀s' w',qf 1 w' s' (vs++dM n z)→Ext w w'→s'.ax=some w.heap.size→s'.n=s.n+n→c s' w'):
  qd P #[t,tx] ty [.slice s.a s.n s.c,.int .i64 (n:Int)] w c:=by
 obtain⟨e,i,hte,hi,hsz,hby,Zo⟩:=ht.out;have hlen:=hown.len;unfold qd;have hg:s.c<s.n+n:=ah;have hnot:¬(s.n+n≤s.c):=ah;have hfit:Builtin.nextslicecap (s.n+n) s.c*i.bytes≤281474976710656:=growslice_fits hg (by rw[hby];exact hbytes)
 have e0:vs.take (s.n*1)=vs:=List.take_of_length_le ah;have hold:=HO (P:=P) (hown.sls.ext (An w)) (iv _);rw[e0]at hold;have hge:=grownCap_ge w (s.n+n) s.c e;have Uo:=grownCap_le_maxLen w (s.n+n) s.c e (by unfold maxLen;omega)
 unfold maxLen at Uo;have hw:IntKind.i64.wrap (n:Int)=n:=lY ⟨ah,ah⟩;have jL:n*b≤140737488355328:=Nat.le_trans (Nat.mul_le_mul_right _ ah) hbytes;have sx:¬(281474976710656<(n:Int)*(b:Int)):=by
  have:((n*b:Nat):Int)≤140737488355328:=ah;rw[Int.natCast_mul]at this;omega
 have h63':¬(9223372036854775807<((s.n:Int)+(n:Int))):=ah;have h48':¬(281474976710656<Builtin.nextslicecap (s.n+n) s.c*b):=by rw[←hby];omega
 have hneg:¬((n:Int)<0):=ah;have qX:n≠0:=ah;have hzc:Builtin.zeroCells #[z] n=(dM n z).toArray:=by
  apply Array.ext
  ·simp[size_zeroCells]
  ·intro j h1 h2;simp[Builtin.zeroCells,Nat.mod_one]
 have hr:(Builtin.append_ #[t,tx] ty #[.slice s.a s.n s.c,.int .i64 (n:Int)]).run P w=
   .ok (.slice (some ⟨w.heap.size,0,none⟩) (s.n+n) (grownCap w (s.n+n) s.c e)) (w.drew.alloc (.cells ((vs++dM n z).toArray++Builtin.zeroCells z.cells (grownCap w (s.n+n) s.c e - (s.n+n))) e)):=by
  simp[Builtin.append_,run_underlying hte,run_underlying hk,sizeOf,typeInfo,zeroValue,hi,Zo,hsz,hby,hw,sx,hneg,hnot,h63',h48',qX,Question.forced,hold,newRow,grownCap,asInt,asIntOf,EY hz1,hzc];congr 2;apply Array.ext';simp[List.append_assoc]
 simp only[List.toArray]at*
 rw[hr];show c ⟨some ⟨w.heap.size,0,none⟩,s.n+n,_⟩ _;refine hc _ _ ⟨by simp;omega,hge,Uo,λv hv=>(y7.1 hv).elim (hown.one v) λhv=>by rw[(List.mem_replicate.1 hv).2];exact hz1,.inr ⟨w.heap.size,0,_,rfl,pG.new w.drew _ e,?_,λj v hv=> ?_⟩⟩ ((An w).trans (E4 _ _)) rfl rfl
 ·rw[Array.size_append,size_zeroCells,ht.size];simp only[List.size_toArray,tV,List.length_replicate];omega
 ·have hj:j<(vs++dM n z).length:=(kJ.1 hv).1;rw[Nat.zero_add,Array.getElem?_append_left (by simpa using hj)]
  simpa using hv
theorem apO{P:Program}{t tx:TypeId}{ty:TypeId}{b:Nat}{z:Value}{n:Nat}{c:Sl→aq}(h:St w0 w L)[a:At L (bP 1 s) vs f](ht:GM P t 1 b z)(hk:P.underlying tx=some (.int .i64))(hz1:z.oneCell'=true)
  (hfull:s.n=s.c) (hn:0<n) (hbytes:(s.n+n)*b≤140737488355328) (h63:s.n+n≤9223372036854775807)
  (hc:∀s' w',St w0 w' (f (bP 1 s' (vs++dM n z)))→s'.n=s.n+n→c s' w'):qd P #[t,tx] ty [.slice s.a s.n s.c,.int .i64 (n:Int)] w c:=
 qf.aBh (kk:= .i64) h.own ht hk hz1 hfull hn hbytes h63 λs' w' ho he hb hn'=>hc s' w' (h.Mr a λF1 hF=>⟨he.only,λk=>s'.ax=some k,⟨λ_=>Iff.rfl,ho⟩,λk hk=>by
  rw[hb]at hk;cases hk;exact .inr (iv _)⟩) hn'
theorem au5{hi mx:Int}{c:Sl→Prop}(h:St w0 w L)[a:At L (bP sz s) vs f](h1:0≤hi)(h2:hi≤s.n)(h3:hi≤mx)(h4:mx≤s.c)
  (hc:∀d:Sl,d.n=hi.toNat→d.c=mx.toNat→St w0 w (f (bP sz d (vs.take (hi.toNat*sz))))→c d):ao9 s sz 0 hi mx c:=by
 have ho:qf sz w s vs:=h.own;have hcap:=ho.cap;have hlen:=ho.len;have hm:hi.toNat*sz≤s.n*sz:=Nat.mul_le_mul_right _ ah;refine⟨⟨ah,ah⟩,⟨h1,h3⟩,⟨Int.le_refl _,h1⟩,hc _ bc bc (h.ae4 a λF hF=>⟨λk=> ?_,ho.off (lo:=0) ?_ (by simp;omega) (by simp;omega) ?_ λi v hi=> ?_⟩)⟩
 ·rw[hF.1];by_cases hq:mx.toNat=(0:Int).toNat
  ·simp[Sl.ax,hq]
  ·simp only[Sl.ax,hq,if_false];cases s.a with
   |none=>simp
   |some p=>simp[aY]
 ·rw[List.length_take,hlen];simp only[Int.toNat_zero,Nat.sub_zero];exact Nat.min_eq_left hm
 ·by_cases hq:mx.toNat=(0:Int).toNat
  ·right;simp at hq;simp[hq]
  ·left;simp only[hq,if_false];rfl
 ·rw[List.getElem?_take]at hi;split at hi
  ·simpa using hi
  ·cases hi
def mG(A:List HP):HP where
 p:=uK A
 lt:=C0
 keep:=E6
def FV{α:Type}(X:α→HP):HP where
 p F w:=∃a,(X a).p F w
 lt:=fun⟨a,h⟩ hg=>(X a).lt h hg
 keep:=fun⟨a,h⟩ hk=>⟨a,(X a).keep h hk⟩
def Jw(p:Prop)(X:HP):HP where
 p F w:=p∧X.p F w
 lt:=fun⟨_,h⟩ hg=>X.lt h hg
 keep:=fun⟨a,h⟩ hk=>⟨a,X.keep h hk⟩
theorem y8:∀{A B:List HP} {F w},uK (mG A::B) F w↔uK (A++B) F w
 |[],B,F,w=>by
  constructor
  ·rintro⟨F1,F2,h1,h2,_,e⟩;exact am8 (λg=>by rw[e];exact⟨.inr,λh=>h.elim (λh=>(h1 g h).elim) id⟩) h2
  ·intro h;exact⟨λ_=>False,F,λg hg=>hg,h,λg hg=>hg.elim,λg=>by simp⟩
 |R::A,B,F,w=>by
  constructor
  ·rintro⟨F1,F2,⟨G1,G2,k1,k2,kd,ke⟩,h2,hd,e⟩;refine⟨G1,λg=>G2 g∨F2 g,k1,y8.1 ⟨G2,F2,k2,h2,λg hg=>hd g ((ke g).2 (.inr hg)),λ_=>Iff.rfl⟩,λg hg hor=> ?_,λg=> ?_⟩
   ·rcases hor with h|h
    ·exact kd g hg h
    ·exact hd g ((ke g).2 (.inl hg)) h
   ·rw[e,ke,or_assoc]
  ·rintro⟨G1,G2,k1,k2,kd,ke⟩;obtain⟨F1,F2,h1,h2,hd,e⟩:=y8.2 k2;refine⟨λg=>G1 g∨F1 g,F2,⟨G1,F1,k1,h1,λg hg hf=>kd g hg ((e g).2 (.inl hf)),λ_=>Iff.rfl⟩,h2,λg hg hf=> ?_,λg=> ?_⟩
   ·rcases hg with h|h
    ·exact kd g h ((e g).2 (.inr hf))
    ·exact hd g h hf
   ·rw[ke,e,or_assoc]
theorem St.open{A B:List HP}(h:St w0 w (mG A::B)):St w0 w (A++B):=⟨h.ext,by obtain⟨F,h1,h2⟩:=h.sep;exact⟨F,y8.1 h1,h2⟩⟩
theorem St.shut{A B:List HP}(h:St w0 w (A++B)):St w0 w (mG A::B):=⟨h.ext,by obtain⟨F,h1,h2⟩:=h.sep;exact⟨F,y8.2 h1,h2⟩⟩
theorem St.some{α:Type}{X:α→HP}(h:St w0 w (FV X::L)):∃a,St w0 w (X a::L):=by
 obtain⟨h1,F,⟨F1,F2,⟨a,h2⟩,h4⟩,h3⟩:=h;exact⟨a,h1,F,⟨F1,F2,h2,h4⟩,h3⟩
theorem St.ex{α:Type}{X:α→HP}(a:α)(h:St w0 w (X a::L)):St w0 w (FV X::L):=h.conv λF hF=>⟨a,hF⟩
theorem St.pure{p:Prop}{X:HP}(h:St w0 w (Jw p X::L)):p∧St w0 w (X::L):=by
 obtain⟨F,hF,_⟩:=h.look;exact⟨hF.1,h.conv λF hF=>hF.2⟩
theorem St.pur{p:Prop}{X:HP}(hp:p)(h:St w0 w (X::L)):St w0 w (Jw p X::L):=h.conv λF hF=>⟨hp,hF⟩
theorem vB{xs:List Int}{i:Nat}(h:i<xs.length):(ints xs)[i]?=some (.int .i64 (xs.getD i 0)):=by
 simp[ints,nI,h]
theorem AN{xs:List Int}{i:Int}{c:Int→Prop}(h:St w0 w L)[a:At L (bP 1 s) (ints xs) f](h0:0≤i)(h1:i<xs.length)(hc:c (xs.getD i.toNat 0)):cZ s i 1 λa=>aN .i64 w a c:=by
 have hn:xs.length=s.n:=by have:=h.FU (sz:=1) (s:=s) (vs:=ints xs);simpa using this
 refine Kf h ah h0 ah λg o _ hr _=>uH ?_ hc;have:=hr h 0 _ ah (vB (i:=i.toNat*1+0) ah);simpa using this
theorem y9{xs:List Int}{i:Int}{x:Int}{c:aq}(h:St w0 w L)[a:At L (bP 1 s) (ints xs) f](h0:0≤i)(h1:i<xs.length)(hc:∀w',St w0 w' (f (bP 1 s (ints (xs.set i.toNat x))))→c w'):cZ s i 1 λa=>bJ w a (.int .i64 x) c:=by
 have hn:xs.length=s.n:=by have:=h.FU (sz:=1) (s:=s) (vs:=ints xs);simpa using this
 refine Kf h ah h0 ah λg o _ _ hs=> ?_;have:=hs h a 0 (.int .i64 x) c ah rfl λw' h'=>hc w' (by
  have e:(ints xs).set (i.toNat*1+0) (.int .i64 x)=ints (xs.set i.toNat x):=by simp[ints,List.map_set]
  rwa[e]at h')
 simpa using this
theorem aaR{a:Addr}{v:Value}{w':World}{c:Prop}(h:w.cell? a=some v)(h':w'.cell? a=some v)(hc:c):ai 1 a w w' c:=
 ⟨λk hk=>by
  have:k=0:=ah;subst this;rw[add_zero,h,h'],hc⟩
end
theorem P6{w0 w:World}{L:List HP}{sz:Nat}{s:Sl}{es:List (List Value)}{e:List Value}{i:Int}{c:Addr→Prop}(hR:Uq sz w0 s es)(h:St w0 w L)(h0:0≤i)(he:es[i.toNat]?=some e)
  (hc:∀p:Addr,(∀{w' L'},St w0 w' L'→∀{j v},e[j]?=some v→w'.cell? (p.add j)=some v)→c p):cZ s i sz c:=by
 have hlen:=hR.len;have hlt:=(kJ.1 he).1;refine aji hR h0 ah λp e' he' hl hcell=>hc p fun{w' L'} hS {j v} hv=> ?_;rw[he]at he';cases he';exact hS.ext.cell (hcell j v hv)
theorem St.same{α:Type}{w0 w:World}{L:List HP}{k:α→HP}{x:α}{f:HP→List HP}(h:St w0 w L)(a:At L k x f):St w0 w (f (k x)):=by
 obtain⟨R,h1,h2⟩:=a.out;exact h2 (h1 h)
theorem bU{bX:eb}{id:FuncId}{first captured args:Array Value}{w:World}{c:Value→aq}{d:bn}(e:∀args w c,bX (.func id) args w c=d args.toList w c)(h:d (first++args++captured).toList w c):m5 bX (.func (.func id) first captured) args w c:=by
 show bX (.func id) (first++args++captured) w c
 rw[e];exact h
end Go.Ev
