/-
  Parts of the proof of LNil: printed by a program out of longer texts.
-/
import Derived.Test.YthidhjhkmjjckaaGreatDoorPNil1
import Derived.RangeFuncFrom
import Derived.RangeFuncLeaves
import Derived.ScopeJumps
import Derived.MapKept
import Derived.WideKeyRuns
import Derived.Recover
import Derived.Test.YthidhjhkmjjckaaGreatDoorProg
import Derived.KernelRfl
set_option linter.unusedVariables false
set_option linter.unusedSimpArgs false
set_option maxRecDepth 100000
open List renaming getElem?_eq_some_iff→kO,getElem?_eq_getElem→kq,getD_eq_getElem?_getD→nr,getElem?_append_left→sY,getElem?_append_right→uK,getElem?_set_ne→rG,getElem?_set_self→uw,mem_of_getElem?→r0,getElem?_map→pB,eraseIdx→Iy,insertIdx_succ_cons→aAd,insertIdx_zero→aAe,replicate→dM,mem_append→B0,length_append→tW,all_eq_true→xz
open Go.Sem renaming run_pure→cO,run_bind→cQ
open Go.Result renaming andThen_ok→cJ
open Bool renaming or_eq_false_iff→j5,and_eq_true→iW
open Option renaming isNone→ej
open Go.IntKind renaming wrap→aL
open Int renaming toNat_natCast→kY
open Array renaming setIfInBounds→eM,getElem?_eq_some_iff→AO
open Nat renaming le_refl→iN
open Go.Addr renaming add→aX
namespace Go.Ev
open Go Go.RowKit
def q7:Code→Bool
 | .rangeFunc _ _ _ _=>true
 | .goto _=>true
 | .seq a b=>q7 a||q7 b
 | .cond _ a b=>q7 a||q7 b
 | .block _ a=>q7 a
 | .loop a=>q7 a
 | .scope a=>q7 a
 |_=>false
def Kk:Code→List (Nat×Nat)
 | .region _ ops _=>match ops[0]? with|some o=>(match o.op,o.dst with| .assign (.tmp s),some d=>[(d,s)] |_,_=>[])|none=>[]
 | .seq a b=>Kk a++Kk b
 |_=>[]
def Qj:Code→Bool
 | .skip=>true
 | .region _ ops false=>match ops.toList with|[o]=>(match o.op,o.dst,o.guard with| .assign (.tmp _),some _,none=>true|_,_,_=>false)|_=>false
 | .seq a b=>Qj a&&Qj b
 |_=>false
inductive jS where
 |base (a:AC)
 |seq (a b:jS)
 |cond (c:Operand) (a b:jS)
 |block (id:Nat) (a:jS)
 |loop (ks:List (Nat×K)) (a:jS)
 |join (ks:List (Nat×K)) (a:jS)
 |scope (a:jS)
 |goto (l:Nat)
 |yN (ks:List (Nat×K)) (l:Nat) (p q:jS)
 |Au (ks:List (Nat×K)) (l:Nat) (p p2:jS) (l2:Nat) (q:jS)
 |range (ks:List (Nat×K)) (f:Operand) (ps:Array Tmp) (asl:List (Nat×Nat)) (assign:Code) (body:AC)
mutual
def jS.code:jS→Code
 | .base a=>a.code
 | .seq a b=> .seq a.code b.code
 | .cond c a b=> .cond c a.code b.code
 | .block id a=> .block id a.code
 | .loop _ a=> .loop a.code
 | .join _ a=>a.code
 | .scope a=> .scope a.code
 | .range _ f ps _ a b=> .rangeFunc f ps a b.code
 | .goto l=> .goto l
 | .yN _ l p q=> .scope (qg p (.seq (.label l) q.code))
 | .Au _ l p p2 l2 q=> .scope (qg p (.seq (.label l) (qg p2 (.seq (.label l2) q.code))))
def qg:jS→Code→Code
 | .seq a r,t=> .seq a.code (qg r t)
 |_,t=>t
end
def My:jS→Bool
 | .seq _ r=>My r
 | .base .skip=>true
 |_=>false
def Mz(l:Nat):jS→Bool
 | .seq a r=>(findLabel a.code l).isNone&&Mz l r
 |_=>true
def toJ:jS→Option (jS×Nat×jS)
 | .seq a b=>match b with
  | .seq (.base (.label l)) q=>some (.seq a (.base .skip),l,q)
  |b=>match toJ b with|some (p,l,q)=>some (.seq a p,l,q)|none=>none
 |_=>none
theorem adX:∀(x:jS) {p q:jS} {l:Nat},toJ x=some (p,l,q)→x.code=qg p (.seq (.label l) q.code)
 | .seq a b,p,q,l,h=>by
  unfold toJ at h;split at h
  ·cases h;rfl
  ·split at h
   ·rename_i heq;cases h
    have:=adX b heq;simp only[jS.code,qg,this]
   ·cases h
 | .base _,_,_,_,h| .cond ..,_,_,_,h| .block ..,_,_,_,h| .loop ..,_,_,_,h| .join ..,_,_,_,h| .scope _,_,_,_,h| .goto _,_,_,_,h| .yN ..,_,_,_,h| .Au ..,_,_,_,h| .range ..,_,_,_,h=>by cases h
def alW:AC→Option (jS×Nat×AC)
 | .seq a b=>match b with
  | .seq (.label l) q=>some (.seq (.base a) (.base .skip),l,q)
  |b=>match alW b with|some (p,l,q)=>some (.seq (.base a) p,l,q)|none=>none
 |_=>none
theorem aa9:∀(x:AC) {p:jS} {q:AC} {l:Nat},alW x=some (p,l,q)→x.code=qg p (.seq (.label l) q.code)
 | .seq a b,p,q,l,h=>by
  unfold alW at h;split at h
  ·cases h;rfl
  ·split at h
   ·rename_i heq;cases h
    have:=aa9 b heq;simp only[AC.code,jS.code,qg,this]
   ·cases h
 | .skip,_,_,_,h| .region ..,_,_,_,h| .cond ..,_,_,_,h| .block ..,_,_,_,h| .loop ..,_,_,_,h| .exit _,_,_,_,h| .label _,_,_,_,h| .ret,_,_,_,h| .join ..,_,_,_,h| .scope _,_,_,_,h| .bad _,_,_,_,h=>by cases h
def toK:jS→Option (jS×Nat×jS)
 | .seq a b=>match b with
  | .seq (.base (.label l)) q=>some (.seq a (.base .skip),l,q)
  | .base (.seq (.label l) q)=>some (.seq a (.base .skip),l,.base q)
  |b=>match toK b with|some (p,l,q)=>some (.seq a p,l,q)|none=>none
 | .base x=>match alW x with|some (p,l,q)=>some (p,l,.base q)|none=>none
 |_=>none
theorem adY:∀(x:jS) {p q:jS} {l:Nat},toK x=some (p,l,q)→x.code=qg p (.seq (.label l) q.code)
 | .seq a b,p,q,l,h=>by
  unfold toK at h;split at h
  ·cases h;rfl
  ·cases h;rfl
  ·split at h
   ·rename_i heq;cases h
    have:=adY b heq;simp only[jS.code,qg,this]
   ·cases h
 | .base x,p,q,l,h=>by
  unfold toK at h;split at h
  ·rename_i heq;cases h
   have:=aa9 x heq;simp only[jS.code,this]
  ·cases h
 | .cond ..,_,_,_,h| .block ..,_,_,_,h| .loop ..,_,_,_,h| .join ..,_,_,_,h| .scope _,_,_,_,h| .goto _,_,_,_,h| .yN ..,_,_,_,h| .Au ..,_,_,_,h| .range ..,_,_,_,h=>by cases h
def Jz(l:Nat):jS→Bool
 | .goto l'=>Nat.beq l' l
 | .seq a b=>Jz l a||Jz l b
 | .cond _ a b=>Jz l a||Jz l b
 | .block _ a=>Jz l a
 | .loop _ a=>Jz l a
 | .join _ a=>Jz l a
 |_=>false
def aba(ks:List (Nat×K))(l:Nat)(p q:jS):jS:=match toK q with
 |some (p2,l2,q2)=>if Jz l2 p2&& !(Nat.beq l l2)then .Au ks l p p2 l2 q2 else .yN ks l p q
 |none=> .yN ks l p q
theorem ac0(ks:List (Nat×K))(l:Nat)(p q:jS):(aba ks l p q).code= .scope (qg p (.seq (.label l) q.code)):=by
 unfold aba;split
 ·rename_i heq;split
  ·have:=adY _ heq;simp only[jS.code,this]
  ·simp only[jS.code]
 ·simp only[jS.code]
def V3(h:sA)(n:Nat)(a:jS):jS:=match h.at n with|some ks=> .join ks a|none=>a
def sO(h:sA):Code→Nat→jS×Nat
 | .seq a b,n=>if q7 a||q7 b then(match sO h a n with|(x,n)=>match sO h b n with|(y,n)=>(.seq x y,n))else(.base (mU h (.seq a b) n).1,(mU h (.seq a b) n).2)
 | .cond c a b,n=>if q7 a||q7 b then(match sO h a (n+1)with|(x,m)=>match sO h b m with|(y,m)=>(V3 h n (.cond c x y),m))else(.base (mU h (.cond c a b) n).1,(mU h (.cond c a b) n).2)
 | .block id a,n=>if q7 a then(match sO h a (n+1)with|(x,m)=>(V3 h n (.block id x),m))else(.base (mU h (.block id a) n).1,(mU h (.block id a) n).2)
 | .loop a,n=>if q7 a then(match sO h a (n+1)with|(x,m)=>(.loop ((h.at n).getD []) x,m))else(.base (mU h (.loop a) n).1,(mU h (.loop a) n).2)
 | .goto l,n=>(.goto l,n)
 | .scope a,n=>if q7 a then(match sO h a (n+1)with|(x,m)=>(match toJ x with|some (p,l,q)=>(aba ((h.at n).getD []) l p q,m)|none=>(.scope x,m)))else(.base (mU h (.scope a) n).1,(mU h (.scope a) n).2)
 | .rangeFunc f ps a b,n=>match mU h a (n+1)with|(x,m)=>match mU h b m with|(y,m)=>(.range ((h.at n).getD []) f ps (Kk a) a y,m)
 |c,n=>(.base (mU h c n).1,(mU h c n).2)
theorem TR(h:sA)(n:Nat)(a:jS):(V3 h n a).code=a.code:=by
 unfold V3;split<;>rfl
theorem afm(h:sA)(c:Code):∀n,(sO h c n).1.code=c:=by
 induction c with
 |seq a b iha ihb=>intro n;unfold sO;split<;>simp[jS.code,iha,ihb,tA]
 |cond c a b iha ihb=>intro n;unfold sO;split<;>simp[TR,jS.code,iha,ihb,tA]
 |block id a ih=>intro n;unfold sO;split<;>simp[TR,jS.code,ih,tA]
 |loop a ih=>intro n;unfold sO;split<;>simp[jS.code,ih,tA]
 |scope a ih=>
  intro n;unfold sO;split
  ·simp only;split
   ·rename_i heq;have:=adX _ heq;simp only[ac0,←this,ih]
   ·simp only[jS.code,ih]
  ·simp[jS.code,tA]
 |goto l=>intro n;rfl
 |rangeFunc f ps a b iha ihb=>intro n;simp[sO,jS.code,tA]
 |_=>intro n;simp[sO,jS.code,tA]
def jS.writes:jS→Nat→Bool
 | .base a,s=>a.writes s
 | .seq a b,s=>a.writes s||b.writes s
 | .cond _ a b,s=>a.writes s||b.writes s
 | .block _ a,s=>a.writes s
 | .loop _ a,s=>a.writes s
 | .join _ a,s=>a.writes s
 | .scope a,s=>a.writes s
 | .range _ _ _ _ _ _,_=>false
 | .goto _,_=>false
 | .yN _ _ p q,s=>p.writes s||q.writes s
 | .Au _ _ p p2 _ q,s=>p.writes s||(p2.writes s||q.writes s)
def jS.fits(n:Nat):jS→Bool
 | .base a=>a.fits n
 | .seq a b=>a.fits n&&b.fits n
 | .cond _ a b=>a.fits n&&b.fits n
 | .block _ a=>a.fits n
 | .loop _ a=>a.fits n
 | .join _ a=>a.fits n
 | .scope a=>a.fits n
 | .goto _=>true
 | .yN _ l p q=>p.fits n&&q.fits n&&My p&&Mz l p
 | .Au _ l p p2 l2 q=>p.fits n&&(p2.fits n&&q.fits n)&&My p&&Mz l p&&My p2&&Mz l2 p2&&Mz l2 p&& !(Nat.beq l l2)
 | .range ks _ ps asl a b=>b.fits n&&Qj a&&decide (Kk a=asl)&&asl.all (λp=>Nat.blt p.1 n)&&decide (ks.map (·.1)=ps.toList)&&ps.toList.all (λp=>Nat.blt p n)&&decide (ps.toList.Nodup)
abbrev Cw:=FuncId→(Nat→bu)→bu
def BM(I:Cw)(kk:List K)(v:Value)(w:World)(body:KT kk→World→(aq)→Prop)(fin:Nat→aq):Prop:=
 match v with
 | .func (.func gf) first lb=> ∀R:LoopState→Obj,(∀s,(R s).isCells=false)→
  I gf (λl args w1 c=>l=w.heap.size+1∧w1.heap[w.heap.size+1]?=some (R .ready)∧qG kk args λy=>body y (w1.putObj (w.heap.size+1) (R .busy)) λw4=>w4.heap[w.heap.size+1]?=some (R .busy)∧c (.bool true) (w4.putObj (w.heap.size+1) (R .ready)))
   (first.toList++(.func (.yield (w.heap.size+1)) #[] #[]::lb.toList)) ((w.alloc (.deferred (some []))).alloc (R .ready))
   (λ_ w5=>w5.heap[w.heap.size+1]?=some (R .ready)∧fin w.heap.size (w5.putObj (w.heap.size+1) (R .exhausted)))
 |_=>False
def ahf:(ks:List (Nat×K))→KT (ks.map (·.2))→Env
 |[],_=>[]
 |[(s,k)],x=>[(s,.val (k.v x))]
 |(s,k)::(y::r),x=>(s,.val (k.v x.1))::ahf (y::r) x.2
def Env.ahg(e:Env)(ps:Array Tmp):Env:=e.filter fun(s,x)=> !(ps.contains s)&&(match x with| .val _=>true|_=>false)
def Env.V4(e:Env)(a:jS):Env:=e.filter fun(s,x)=> !(a.writes s)&&(match x with| .val _=>true|_=>false)
def V5:List (Nat×Nat)→Env→(Env→Prop)→Prop
 |[],e,c=>c e
 |(d,s)::l,e,c=>match e.find s with|some (.val v)=>lq (e.put d v) λe=>V5 l e c|_=>False
inductive Ex2 where
 |normal
 |exit (id:Nat)
 |ret
 |goto (l:Nat)
def Ex2.of:Ex→Ex2
 | .normal=> .normal
 | .exit i=> .exit i
 | .ret=> .ret
def zg(P:Program)(bZ:eb)(I:Cw)(mask:Nat):jS→Env→World→List Nat→(Ex2→Env→World→List Nat→Prop)→Prop
 | .base a,e,w,ds,k=>ev P bZ mask a e w λx e w=>k (.of x) e w ds
 | .goto l,e,w,ds,k=>k (.goto l) e w ds
 | .yN ks l p q,e,w,ds,k=>zg P bZ I mask p e w ds λx e1 w ds=>match x with
  | .normal=>tS ks e1 λy=>jO (S:=HT ks×List Nat) (λC y w=>lq (AN ks y.1++e1.V4 q) λe=>zg P bZ I mask q e w y.2 λz e w ds=>match z with| .goto l'=>if Nat.beq l' l then tS ks e λy=>C (y,ds) w else False|z=>k z e w ds) (y,ds) w
  | .goto _=>False
  |x=>k x e1 w ds
 | .Au ks l p p2 l2 q,e,w,ds,k=>zg P bZ I mask p e w ds λx e1 w ds=>match x with
  | .normal=>tS ks e1 λy=>jO (S:=HT ks×List Nat) (λC y w=>lq (AN ks y.1++e1.V4 (.seq p2 q)) λe=>zg P bZ I mask p2 e w y.2 λz e w ds=>match z with
   | .normal=>zg P bZ I mask q e w ds λz e w ds=>match z with| .goto l'=>if Nat.beq l' l then tS ks e λy=>C (y,ds) w else False|z=>k z e w ds
   | .goto l'=>if Nat.beq l' l then tS ks e λy=>C (y,ds) w else if Nat.beq l' l2 then zg P bZ I mask q e w ds λz e w ds=>match z with| .goto _=>False|z=>k z e w ds else False
   |z=>k z e w ds) (y,ds) w
  | .goto _=>False
  |x=>k x e1 w ds
 | .seq a b,e,w,ds,k=>zg P bZ I mask a e w ds λx e w ds=>match x with| .normal=>zg P bZ I mask b e w ds k|x=>k x e w ds
 | .cond c a b,e,w,ds,k=>match e.op c with|some (.bool t)=>ap t (zg P bZ I mask a e w ds k) (zg P bZ I mask b e w ds k)|_=>False
 | .block id a,e,w,ds,k=>zg P bZ I mask a e w ds λx e w ds=>match x with| .exit i=>if Nat.beq i id then k .normal e w ds else k (.exit i) e w ds|x=>k x e w ds
 | .loop ks a,e,w,ds,k=>
  tS ks e λx=>jO (S:=HT ks×List Nat) (λC x w=>lq (AN ks x.1++e.V4 a) λe=>zg P bZ I mask a e w x.2 λy e w ds=>match y with| .normal=>tS ks e λx=>C (x,ds) w|y=>k y e w ds) (x,ds) w
 | .join ks a,e,w,ds,k=>
  cD (S:=HT ks×List Nat) (λJ=>zg P bZ I mask a e w ds λx e w ds=>match x with| .normal=>tS ks e λx=>J (x,ds) w|x=>k x e w ds) λx w=>lq (AN ks x.1++e.V4 a) λe=>k .normal e w x.2
 | .scope a,e,w,ds,k=>zg P bZ I mask a e w ds λx e w ds=>match x with| .goto _=>False|x=>k x e w ds
 | .range ks f ps asl _ body,e,w,ds,k=>
  match e.op f with
  |some v=>BM I (ks.map (·.2)) v w (λy w1 C=>lq (ahf ks y++e.ahg ps) λe1=>V5 asl e1 λe2=>ev P bZ mask body e2 w1 λz _ w4=>match z with| .normal=>C w4|_=>False) λD w'=>k .normal e w' (D::ds)
  |none=>False
def Is:List Nat→World→(aq)→Prop
 |[],w,c=>c w
 |D::ds,w,c=>w.heap[D]?=some (.deferred (some []))∧Is ds (w.putObj D (.deferred none)) c
theorem adZ{a:Act}:∀(ks:List (Nat×K)) (x:KT (ks.map (·.2))),(∀(i s:Nat),(ks.map (·.1))[i]?=some s→a.tmps[s]?=(dz (ks.map (·.2)) x)[i]?)→Sub (ahf ks x) a
 |[],_,_=>λp hp=>by cases hp
 |[(s,k)],x,h=>λp hp=>by
  rcases List.mem_cons.1 hp with rfl|hp
  ·exact h 0 s rfl
  ·cases hp
 |(s,k)::(y::r),x,h=>λp hp=>by
  rcases List.mem_cons.1 hp with rfl|hp
  ·exact h 0 s rfl
  ·refine adZ (y::r) x.2 (λi s' hs=> ?_) _ hp;exact h (i+1) s' (by simpa using hs)
theorem MA:∀(ks:List K) (x:KT ks),(dz ks x).length=ks.length
 |[],_=>rfl
 |[_],_=>rfl
 |_::(y::r),x=>by show(dz (y::r) x.2).length+1=_;rw[MA (y::r)];rfl
section
variable {P:Program}
def YOK(P:Program)(Y:Nat→bu):Prop:=∀n (args:Array Value) w c,Y n args.toList w c→YieldAt Fence.wide 0 P n args w λe w'=> ∃v,e= .returned v∧c v w'
def V6(P:Program)(I:Cw):Prop:=∀gf Y (args:Array Value) w c,YOK P Y→I gf Y args.toList w c→
 (∃fn,P.funcs[gf]?=some fn∧fn.body.isSome=true∧(fn.name== "runtime.NumGoroutine")=false)∧Calls P gf args w fun e w'=> ∃v,e= .returned v∧c v w'
def marks(ds:List Nat):List Deferred:=ds.map λD=> {target:= .collected D,args:=#[]}
def iX(ws:Nat→Bool)(a a':Act):Prop:=a'.tmps.size=a.tmps.size∧∀s,ws s=false→a'.tmps[s]?=a.tmps[s]?
theorem iX.refl(ws:Nat→Bool)(a:Act):iX ws a a:=⟨rfl,λ_ _=>rfl⟩
theorem iX.trans{ws:Nat→Bool}{a b c:Act}(h:iX ws a b)(k:iX ws b c):iX ws a c:=⟨k.1.trans h.1,λs hs=>(k.2 s hs).trans (h.2 s hs)⟩
theorem iX.mono{ws ws':Nat→Bool}{a b:Act}(h:iX ws a b)(hw:∀s,ws' s=false→ws s=false):iX ws' a b:=⟨h.1,λs hs=>h.2 s (hw s hs)⟩
theorem oJ.m{ws:Nat→Bool}{a b:Act}(h:oJ ws a b):iX ws a b:=⟨h.1,h.2.2⟩
theorem V7{e:Env}{a a':Act}{c:jS}(h:Sub e a)(hk:iX c.writes a a'):Sub (e.V4 c) a':=by
 intro p hp;unfold Env.V4 at hp;rw[List.mem_filter]at hp;obtain⟨hp,hc⟩:=hp;obtain⟨s,x⟩:=p;simp only[iW,Bool.not_eq_true']at hc;have h0:=h _ hp;cases x with
 |val v=>show _=_;rw[hk.2 s hc.1];exact h0
 |gd g want v=>exact absurd hc.2 bh
def MB:List (Nat×Nat)→Act→Act
 |[],a=>a
 |(d,s)::l,a=>MB l (a.put (some d) (a.eval (.tmp s)))
theorem abb(l l':List (Nat×Nat))(a:Act):MB (l++l') a=MB l' (MB l a):=by
 induction l generalizing a with
 |nil=>rfl
 |cons x l ih=>exact ih _
theorem Y7:∀(l:List (Nat×Nat)) {e:Env} {a:Act} {c:Env→Prop},Sub e a→(∀p∈l,p.1<a.tmps.size)→V5 l e c→∃e',c e'∧Sub e' (MB l a)∧(MB l a).tmps.size=a.tmps.size
 |[],e,a,c,hs,_,h=>⟨e,h,hs,rfl⟩
 |(d,s)::l,e,a,c,hs,hl,h=>by
  unfold V5 at h;split at h
  ·rename_i v hv;rw[kF]at h;have hev:a.eval (.tmp s)=v:=pU hs (.tmp s) v (by simp[Env.op,hv])
   have hsz:(a.put (some d) (a.eval (.tmp s))).tmps.size=a.tmps.size:=E2 a _ _;have hsub:Sub (e.put d v) (a.put (some d) (a.eval (.tmp s))):=by
    rw[hev];exact alJ hs (hl (d,s) bh)
   obtain⟨e',h1,h2,h3⟩:=Y7 l hsub (λp hp=>by rw[hsz];exact hl p (by simp[hp])) h
   exact⟨e',h1,h2,h3.trans hsz⟩
  ·exact h.elim
theorem avs{ro:Option Nat}{n0:Nat}:∀{c:Code} {a:Act} {w:World} {K:Act→aq} {Q:Exit→Act→aq},Qj c=true→K (MB (Kk c) a) w→c.wpIn (uG ro) n0 P (Exit.then K Q) a w:=by
 intro c;induction c with
 |skip=>intro a w K Q _ h;exact wpIn_skip h
 |region id ops draw=>
  intro a w K Q hok h;cases draw with
  |true=>simp[Qj]at hok
  |false=>
   unfold Qj at hok;split at hok
   ·rename_i o ho;split at hok
    ·rename_i s d hop hd hg;have h0:ops[0]?=some o:=by
      have:=congrArg (·[0]?) ho;simpa using this
     refine wpIn_region_list ?_;rw[ho];unfold wpListIn;have hw:Region.wanted o (yielded ops a.tmps)=true:=Aq hg _;rw[if_pos hw];refine jq (v:=a.eval (.tmp s)) (w':=w) ?_ ?_
     ·simp[execOp,hop]
     ·unfold wpListIn;have e:Kk (.region id ops false)=[(d,s)]:=by simp[Kk,h0,hop,hd]
      rw[e]at h;rw[hd];exact h
    ·cases hok
   ·cases hok
 |seq x y ihx ihy=>
  intro a w K Q hok h;simp only[Qj,iW]at hok;refine wpIn_seq (wpIn_mono (ihx (K:=λa w=>y.wpIn (uG ro) n0 P (Exit.then K Q) a w) (Q:=Exit.then K Q) hok.1 (ihy hok.2 ?_)) λe a w h=> ?_)
  ·have e:Kk (.seq x y)=Kk x++Kk y:=rfl;rw[e,abb]at h;exact h
  ·cases e<;>exact h
 |_=>intro a w K Q hok;simp[Qj]at hok
theorem abc:∀(ps:List Nat) (vs:List Value) (t:Array Value) (s:Nat),s ∉ ps→((ps.zip vs).foldl (λt (x:Nat×Value)=>t.setIfInBounds x.1 x.2) t)[s]?=t[s]?
 |[],_,_,_,_=>by simp
 |p::ps,[],_,_,_=>by simp
 |p::ps,v::vs,t,s,h=>by
  rw[List.zip_cons_cons,List.foldl_cons,abc ps vs _ s (by simp at h;exact h.2),Array.getElem?_setIfInBounds_ne (by simp at h;omega)]
theorem ad0:∀(ps:List Nat) (vs:List Value) (t:Array Value),((ps.zip vs).foldl (λt (x:Nat×Value)=>t.setIfInBounds x.1 x.2) t).size=t.size
 |[],_,_=>by simp
 |p::ps,[],_=>by simp
 |p::ps,v::vs,t=>by rw[List.zip_cons_cons,List.foldl_cons,ad0 ps vs];simp
theorem ahi:∀(ps:List Nat) (vs:List Value) (t:Array Value) (i s:Nat),ps.Nodup→ps[i]?=some s→ps.length=vs.length→(∀p∈ps,p<t.size)→((ps.zip vs).foldl (λt (x:Nat×Value)=>t.setIfInBounds x.1 x.2) t)[s]?=vs[i]?
 |[],_,_,_,_,_,h,_,_=>by simp at h
 |p::ps,[],_,_,_,_,_,h,_=>by simp at h
 |p::ps,v::vs,t,0,s,hn,h,hl,hlt=>by
  simp at h;subst h;rw[List.zip_cons_cons,List.foldl_cons,abc ps vs _ p (List.nodup_cons.1 hn).1,Array.getElem?_setIfInBounds_self,if_pos (hlt p bh)];rfl
 |p::ps,v::vs,t,i+1,s,hn,h,hl,hlt=>by
  rw[List.zip_cons_cons,List.foldl_cons,ahi ps vs _ i s (List.nodup_cons.1 hn).2 (by simpa using h) (by simpa using hl) (λq hq=>by simp;exact hlt q (by simp[hq]))]
  rfl
theorem aBB(ps:Array Tmp)(vs:Array Value)(t:Array Value):(ps.zip vs).foldl (λt (x:Nat×Value)=>t.setIfInBounds x.1 x.2) t=(ps.toList.zip vs.toList).foldl (λt (x:Nat×Value)=>t.setIfInBounds x.1 x.2) t:=by
 rw[←Array.foldl_toList,Array.toList_zip]
theorem anw{e:Env}{a a':Act}{ps:Array Tmp}(h:Sub e a)(hk:∀s,s ∉ ps.toList→a'.tmps[s]?=a.tmps[s]?):Sub (e.ahg ps) a':=by
 intro p hp;unfold Env.ahg at hp;rw[List.mem_filter]at hp;obtain⟨hp,hc⟩:=hp;obtain⟨s,x⟩:=p;simp only[iW,Bool.not_eq_true']at hc;have h0:=h _ hp;cases x with
 |val v=>show _=_;rw[hk s (by simpa using hc.1)];exact h0
 |gd g want v=>exact absurd hc.2 bh
theorem afn{bZ:eb}{I:Cw}{mask:Nat}(hm:P.follows .mixedOrders=true)(ho:sZ P bZ P7)(hI:V6 P I){ks:List (Nat×K)}{f:Operand}{ps:Array Tmp}{asl:List (Nat×Nat)}{asg:Code}{body:AC}
  {e:Env} {w:World} {a:Act} {fin:Nat→aq} {Q:Exit→Act→aq} {v:Value} (hs:Sub e a) (hf:(jS.range ks f ps asl asg body).fits a.tmps.size=true) (hv:e.op f=some v)
  (h:BM I (ks.map (·.2)) v w (λy w1 C=>lq (ahf ks y++e.ahg ps) λe1=>V5 asl e1 λe2=>ev P bZ mask body e2 w1 λz _ w4=>match z with| .normal=>C w4|_=>False) fin)
  (hQ:∀D w',fin D w'→Q .normal {a with defers:={target:= .collected D,args:=#[]}::a.defers} w'):(Code.rangeFunc f ps asg body.code).wpIn (uG none) 2 P Q a w:=by
 simp only[jS.fits,iW,decide_eq_true_eq,xz]at hf;obtain⟨⟨⟨⟨⟨⟨hfb,aBC⟩,aBD⟩,aBE⟩,hps⟩,BY⟩,hnd⟩:=hf;have hev:a.eval f=v:=pU hs f v hv;unfold BM at h;split at h
 ·rename_i gf first lb
  refine wpIn_rangeFunc ?_;intro fn hfn;obtain⟨rec,Jt⟩:∃rec:LoopState→Loop,rec=λst=> {state:=st,pending:=none,fn,tmps:=a.tmps,params:=ps,assign:=asg,body:=body.code,defers:=w.heap.size}:=⟨_,rfl⟩;have h1:=h (λst=> .loop (rec st)) λ_=>rfl;have XO:=hI gf _ (first++(#[.func (.yield (w.heap.size+1)) #[] #[]] ++lb)) _ _ ?_ (by
   have e:(first++(#[Value.func (.yield (w.heap.size+1)) #[] #[]] ++lb)).toList=first.toList++(.func (.yield (w.heap.size+1)) #[] #[]::lb.toList):=by simp
   rw[e];exact h1)
  ·refine⟨w.heap.size+1,[{target:= .collected w.heap.size,args:=#[]}],(w.alloc (.deferred (some []))).alloc (.loop (rec .ready)),{target:= .fn (.func gf) lb,args:=first++ #[.func (.yield (w.heap.size+1)) #[] #[]]},(w.alloc (.deferred (some []))).alloc (.loop (rec .ready)),gf,
    first++ #[.func (.yield (w.heap.size+1)) #[] #[]] ++lb,(w.alloc (.deferred (some []))).alloc (.loop (rec .ready)),?_,?_,?_,?_,λ_=>by omega,?_⟩
   ·rw[Jt];exact run_enterLoop_outer _ _ _ _ _
   ·simp only[resolve,rangeCall,hev];simp[go_sem,Deferred.ofValue]
   ·intro f' hf';exact Ju none f'
   ·simp only[invoke,FD XO.1]
   ·have e2:first++ #[Value.func (.yield (w.heap.size+1)) #[] #[]] ++lb=first++(#[.func (.yield (w.heap.size+1)) #[] #[]] ++lb):=by rw[Array.append_assoc]
    rw[e2];refine Mo (XO.2.mono λen w5 he=> ?_);obtain⟨v,rfl,hr,abd⟩:=he;refine⟨none,_,?_,hQ _ _ abd⟩;have:=run_endLoop (P:=P) hr (by rw[Jt];simp)
    rw[Jt]at this ⊢;exact this
  ·intro n args w1 c hY;obtain⟨rfl,hr,hu⟩:=hY;obtain⟨y,hy,hb⟩:=zb hu;rw[kF]at hb;have hlen:args.size=ps.size:=by
    have:=congrArg List.length hy;rw[MA]at this;have h2:=congrArg List.length hps;simp at this h2;omega
   have afo:=run_yield (P:=P) (args:=args) hr (by rw[Jt];exact hlen)
   rw[Jt]at afo;refine⟨fn,_,asg,body.code,afo,roundIn_of_wpIn (Ju none fn) ?_⟩;dsimp only at afo ⊢;rw[aBB];generalize ht:(ps.toList.zip args.toList).foldl (λt (x:Nat×Value)=>t.setIfInBounds x.1 x.2) a.tmps=t at*
   have hts:t.size=a.tmps.size:=by rw[←ht];exact ad0 _ _ _
   have hsub:Sub (ahf ks y++e.ahg ps) {tmps:=t,defers:=[]}:=by
    refine BZ (adZ ks y λi s hi=> ?_) (anw hs λs hns=> ?_)
    ·show t[s]?=_;rw[hps]at hi;rw[←ht,←hy];exact ahi _ _ _ i s hnd hi (by simpa using hlen.symm) λp hp=>by have:=BY p hp;rwa[Nat.blt_eq]at this
    ·show t[s]?=_;rw[←ht];exact abc _ _ _ _ hns
   obtain⟨e2,hb,abe,alX⟩:=Y7 asl hsub (λp hp=>by show p.1<t.size;rw[hts];have:=aBE p hp;rwa[Nat.blt_eq]at this) hb
   refine avs (ro:=some (w.heap.size+1)) (n0:=0) aBC ?_;rw[aBD];refine⟨_,run_beginRound hr (by rw[Jt]),?_⟩
   have azg:w1.putObj (w.heap.size+1) (.loop {rec .ready with state:= .busy})=w1.putObj (w.heap.size+1) (.loop (rec .busy)):=by rw[Jt]
   rw[azg];refine q6 (ro:=some (w.heap.size+1)) (n0:=0) hm ho body e2 _ _ _ _ (λ_ _ _ _ h=>h.elim) abe (by rw[alX];show body.fits t.size=true;rw[hts];exact hfb) hb λz e' w4 a' hk _ _=> ?_
   cases z with
   |normal=>
    obtain⟨hbz,hc⟩:=hk;refine⟨_,_,run_endRound none hbz,.bool true,rfl,?_⟩;have:({rec .busy with state:=if (none:Option Code).isNone then .ready else .done,pending:=none}:Loop)=rec .ready:=by rw[Jt];rfl
    rw[this];exact hc
   |exit id=>exact hk.elim
   |ret=>exact hk.elim
 ·exact h.elim
def ajH:Ex2→Exit
 | .normal=> .normal
 | .exit i=> .exit i
 | .ret=> .ret
 | .goto l=> .goto l
theorem anx(x:Ex):ajH (.of x)=apP x:=by cases x<;>rfl
theorem UA{F:Fence}{n0:Nat}{c rest:Code}{l:Nat}{Q:Exit→Act→aq}{a:Act}{w:World}(hf:findLabel c l=some rest)(R:Nat→Act→aq)
  (first:c.wpIn F n0 P (Exit.jump l (λa w=> ∃n,R n a w) Q) a w)
  (pass:∀n a w,R n a w→rest.wpIn F n0 P (Exit.jump l (λa' w'=> ∃m,m<n∧R m a' w') Q) a w):(Code.scope c).wpIn F n0 P Q a w:=by
 intro b k cs hro hb hr;have h0:(lone (b.atR a (.code (.scope c)::k)) cs w).fenced P F:=fenced_calm hb hr rfl;have hstep:step P (lone (b.atR a (.code (.scope c)::k)) cs w)= .next (lone (b.atR a (.code c:: .inScope c::k)) cs w):=step_lone_go (by simp[stepG,stepG.exec,Frame.atR])
 have hg:gotoIn l (.inScope c::k)=some (.code rest:: .inScope c::k):=by simp[gotoIn,hf]
 have hx (id:Nat):exitTo id (.inScope c::k)=exitTo id k:=by simp[exitTo]
 have hend (a:Act) (w:World):StepsIn (λm=>m.fenced P F) P (lone (b.atR a (.inScope c::k)) cs w) (lone (b.atR a k) cs w):= .one (fenced_calm hb hr rfl) (step_lone_go (by simp[stepG,stepG.exec,Frame.atR]))
 have key:∀n a w,R n a w→∃e a' w',Q e a' w'∧ArrivesIn (λm=>m.fenced P F) P (lone (b.atR a (.code rest:: .inScope c::k)) cs w) b k cs e a' w':=by
  intro n;induction n using Nat.strongRecOn with
  |_ n ih=>
   intro a w hR;obtain⟨e,a₁,w₁,hq,mV⟩:=pass n a w hR b (.inScope c::k) cs hro hb hr;cases e with
   |normal=>exact⟨.normal,a₁,w₁,hq,StepsIn.trans mV (hend _ _)⟩
   |exit id=>exact⟨.exit id,a₁,w₁,hq,λk' hk=>mV.1 k' (by rw[hx];exact hk),λhr' hk=>mV.2 hr' (by rw[hx];exact hk)⟩
   |goto l'=>
    obtain⟨rfl,m,hm,UB⟩:=hq;obtain⟨e₂,a₂,w₂,hq₂,It⟩:=ih m hm a₁ w₁ UB;exact⟨e₂,a₂,w₂,hq₂,.of_steps (mV.1 _ hg) It⟩
   |ret=>exact⟨_,a₁,w₁,hq,mV⟩
   |panic ch=>exact⟨_,a₁,w₁,hq,mV⟩
   |outgrown=>exact⟨_,a₁,w₁,hq,mV⟩
 obtain⟨e,a₁,w₁,hq,mV⟩:=first b (.inScope c::k) cs hro hb hr
 cases e with
 |normal=>exact⟨.normal,a₁,w₁,hq,.head h0 hstep (StepsIn.trans mV (hend _ _))⟩
 |exit id=>
  exact⟨.exit id,a₁,w₁,hq,λk' hk=> .head h0 hstep (mV.1 k' (by rw[hx];exact hk)),
   λhr' hk=>let ⟨k₁,h1,h2⟩:=mV.2 hr' (by rw[hx];exact hk);⟨k₁,h1,.head h0 hstep h2⟩⟩
 |goto l'=>
  obtain⟨rfl,n,hR⟩:=hq;obtain⟨e₂,a₂,w₂,hq₂,It⟩:=key n a₁ w₁ hR;exact⟨e₂,a₂,w₂,hq₂,.of_steps (.head h0 hstep (mV.1 _ hg)) It⟩
 |ret=>exact⟨_,a₁,w₁,hq,.of_steps (.one h0 hstep) mV⟩
 |panic ch=>exact⟨_,a₁,w₁,hq,.of_steps (.one h0 hstep) mV⟩
 |outgrown=>exact⟨_,a₁,w₁,hq,.of_steps (.one h0 hstep) mV⟩
theorem ZH{F:Fence}{n0:Nat}{c rest afp:Code}{l l2:Nat}{Q:Exit→Act→aq}{a:Act}{w:World}(hf:findLabel c l=some rest)(hf2:findLabel c l2=some afp)(R:Nat→Act→aq)(R2:Act→aq)
  (first:c.wpIn F n0 P (λe a w=>match e with| .goto l'=>(l'=l∧∃n,R n a w)∨(l'=l2∧R2 a w)|e=>Q e a w) a w)
  (pass:∀n a w,R n a w→rest.wpIn F n0 P (λe a' w'=>match e with| .goto l'=>(l'=l∧∃m,m<n∧R m a' w')∨(l'=l2∧R2 a' w')|e=>Q e a' w') a w)
  (ajI:∀a w,R2 a w→afp.wpIn F n0 P (λe a' w'=>match e with| .goto _=>False|e=>Q e a' w') a w):(Code.scope c).wpIn F n0 P Q a w:=by
 intro b k cs hro hb hr;have h0:(lone (b.atR a (.code (.scope c)::k)) cs w).fenced P F:=fenced_calm hb hr rfl;have hstep:step P (lone (b.atR a (.code (.scope c)::k)) cs w)= .next (lone (b.atR a (.code c:: .inScope c::k)) cs w):=step_lone_go (by simp[stepG,stepG.exec,Frame.atR])
 have hg:gotoIn l (.inScope c::k)=some (.code rest:: .inScope c::k):=by simp[gotoIn,hf]
 have Mw:gotoIn l2 (.inScope c::k)=some (.code afp:: .inScope c::k):=by simp[gotoIn,hf2]
 have hx (id:Nat):exitTo id (.inScope c::k)=exitTo id k:=by simp[exitTo]
 have hend (a:Act) (w:World):StepsIn (λm=>m.fenced P F) P (lone (b.atR a (.inScope c::k)) cs w) (lone (b.atR a k) cs w):= .one (fenced_calm hb hr rfl) (step_lone_go (by simp[stepG,stepG.exec,Frame.atR]))
 have ayj:∀a w,R2 a w→∃e a' w',Q e a' w'∧ArrivesIn (λm=>m.fenced P F) P (lone (b.atR a (.code afp:: .inScope c::k)) cs w) b k cs e a' w':=by
  intro a w hR;obtain⟨e,a₁,w₁,hq,mV⟩:=ajI a w hR b (.inScope c::k) cs hro hb hr;cases e with
  |normal=>exact⟨.normal,a₁,w₁,hq,StepsIn.trans mV (hend _ _)⟩
  |exit id=>exact⟨.exit id,a₁,w₁,hq,λk' hk=>mV.1 k' (by rw[hx];exact hk),λhr' hk=>mV.2 hr' (by rw[hx];exact hk)⟩
  |goto l'=>exact hq.elim
  |ret=>exact⟨_,a₁,w₁,hq,mV⟩
  |panic ch=>exact⟨_,a₁,w₁,hq,mV⟩
  |outgrown=>exact⟨_,a₁,w₁,hq,mV⟩
 have key:∀n a w,R n a w→∃e a' w',Q e a' w'∧ArrivesIn (λm=>m.fenced P F) P (lone (b.atR a (.code rest:: .inScope c::k)) cs w) b k cs e a' w':=by
  intro n;induction n using Nat.strongRecOn with
  |_ n ih=>
   intro a w hR;obtain⟨e,a₁,w₁,hq,mV⟩:=pass n a w hR b (.inScope c::k) cs hro hb hr;cases e with
   |normal=>exact⟨.normal,a₁,w₁,hq,StepsIn.trans mV (hend _ _)⟩
   |exit id=>exact⟨.exit id,a₁,w₁,hq,λk' hk=>mV.1 k' (by rw[hx];exact hk),λhr' hk=>mV.2 hr' (by rw[hx];exact hk)⟩
   |goto l'=>
    rcases hq with⟨rfl,m,hm,UB⟩|⟨rfl,UB⟩
    ·obtain⟨e₂,a₂,w₂,hq₂,It⟩:=ih m hm a₁ w₁ UB;exact⟨e₂,a₂,w₂,hq₂,.of_steps (mV.1 _ hg) It⟩
    ·obtain⟨e₂,a₂,w₂,hq₂,It⟩:=ayj a₁ w₁ UB;exact⟨e₂,a₂,w₂,hq₂,.of_steps (mV.1 _ Mw) It⟩
   |ret=>exact⟨_,a₁,w₁,hq,mV⟩
   |panic ch=>exact⟨_,a₁,w₁,hq,mV⟩
   |outgrown=>exact⟨_,a₁,w₁,hq,mV⟩
 obtain⟨e,a₁,w₁,hq,mV⟩:=first b (.inScope c::k) cs hro hb hr
 cases e with
 |normal=>exact⟨.normal,a₁,w₁,hq,.head h0 hstep (StepsIn.trans mV (hend _ _))⟩
 |exit id=>
  exact⟨.exit id,a₁,w₁,hq,λk' hk=> .head h0 hstep (mV.1 k' (by rw[hx];exact hk)),
   λhr' hk=>let ⟨k₁,h1,h2⟩:=mV.2 hr' (by rw[hx];exact hk);⟨k₁,h1,.head h0 hstep h2⟩⟩
 |goto l'=>
  rcases hq with⟨rfl,n,hR⟩|⟨rfl,hR⟩
  ·obtain⟨e₂,a₂,w₂,hq₂,It⟩:=key n a₁ w₁ hR;exact⟨e₂,a₂,w₂,hq₂,.of_steps (.head h0 hstep (mV.1 _ hg)) It⟩
  ·obtain⟨e₂,a₂,w₂,hq₂,It⟩:=ayj a₁ w₁ hR;exact⟨e₂,a₂,w₂,hq₂,.of_steps (.head h0 hstep (mV.1 _ Mw)) It⟩
 |ret=>exact⟨_,a₁,w₁,hq,.of_steps (.one h0 hstep) mV⟩
 |panic ch=>exact⟨_,a₁,w₁,hq,.of_steps (.one h0 hstep) mV⟩
 |outgrown=>exact⟨_,a₁,w₁,hq,.of_steps (.one h0 hstep) mV⟩
theorem abg{l:Nat}{t:Code}:∀{p:jS},Mz l p=true→My p=true→findLabel (qg p t) l=findLabel t l
 | .seq a r,h,hl=>by
  simp only[Mz,iW,Option.isNone_iff_eq_none]at h;simp only[qg,findLabel,h.1];exact abg h.2 hl
 | .base c,_,_=>by simp[qg]
 | .cond ..,_,hl| .block ..,_,hl| .loop ..,_,hl| .join ..,_,hl| .scope _,_,hl| .goto _,_,hl| .yN ..,_,hl| .Au ..,_,hl| .range ..,_,hl=>by cases hl
theorem JA{l:Nat}{t:Code}:∀{p:jS},Mz l p=true→My p=true→findLabel (qg p (.seq (.label l) t)) l=some (.seq .skip t)
 | .seq a r,h,hl=>by
  simp only[Mz,iW,Option.isNone_iff_eq_none]at h;simp only[qg,findLabel,h.1];exact JA h.2 hl
 | .base c,_,_=>by simp[qg,findLabel]
 | .cond ..,_,hl| .block ..,_,hl| .loop ..,_,hl| .join ..,_,hl| .scope _,_,hl| .goto _,_,hl| .yN ..,_,hl| .Au ..,_,hl| .range ..,_,hl=>by cases hl
mutual
theorem qw{bZ:eb}{I:Cw}{mask:Nat}(hm:P.follows .mixedOrders=true)(ho:sZ P bZ P7)(hI:V6 P I):∀(c:jS) (e:Env) (w:World) (a:Act) (ds:List Nat) (k:Ex2→Env→World→List Nat→Prop) (Q:Exit→Act→aq),
  Sub e a→c.fits a.tmps.size=true→a.defers=marks ds→zg P bZ I mask c e w ds k→(∀x e' w' ds' a',k x e' w' ds'→Sub e' a'→iX c.writes a a'→a'.defers=marks ds'→Q (ajH x) a' w')→c.code.wpIn (uG none) 2 P Q a w
 | .base c,e,w,a,ds,k,Q,hs,hf,hd,h,hQ=>by
  unfold zg at h;exact q6 hm ho c e w a _ Q (λ_ _ _ _ h=>h.elim) hs hf h λx e' w' a' h1 h2 h3=>anx x▸hQ (.of x) e' w' ds a' h1 h2 h3.m (h3.2.1.trans hd)
 | .scope x,e,w,a,ds,k,Q,hs,hf,hd,h,hQ=>by
  unfold zg at h;refine FP (qw hm ho hI x e w a ds _ _ hs hf hd h λz e' w' ds' a' h1 h2 h3 h4=> ?_);cases z with
  |normal=>exact hQ .normal e' w' ds' a' h1 h2 h3 h4
  |exit id=>exact hQ (.exit id) e' w' ds' a' h1 h2 h3 h4
  |ret=>exact hQ .ret e' w' ds' a' h1 h2 h3 h4
  |goto l=>exact h1.elim
 | .goto l,e,w,a,ds,k,Q,hs,hf,hd,h,hQ=>wpIn_goto (hQ (.goto l) e w ds a h hs (.refl _ _) hd)
 | .yN ks l p q,e,w,a,ds,k,Q,hs,hf,hd,h,hQ=>by
  unfold zg at h;simp only[jS.fits,iW]at hf;obtain⟨⟨⟨hfp,hfq⟩,hl⟩,hn⟩:=hf;have Qk:∀{a':Act},iX p.writes a a'→iX (jS.yN ks l p q).writes a a':=λhk=>hk.mono λs gE=>by simp only[jS.writes,j5]at gE;exact gE.1
  have SK:∀{a' a'':Act},iX p.writes a a'→iX q.writes a' a''→iX (jS.yN ks l p q).writes a a'':=λh h'=>(Qk h).trans (h'.mono λs gE=>by simp only[jS.writes,j5]at gE;exact gE.2)
  let body (e1:Env):(HT ks×List Nat→aq)→HT ks×List Nat→aq:=λC y w=>lq (AN ks y.1++e1.V4 q) λe=>zg P bZ I mask q e w y.2 λz e w ds=>match z with| .goto l'=>if Nat.beq l' l then tS ks e λy=>C (y,ds) w else False|z=>k z e w ds
  let R (n:Nat) (b:Act) (w:World):Prop:=∃e1 a1 y,Sub e1 a1∧iX p.writes a a1∧jF (body e1) n y w∧Sub (AN ks y.1) b∧iX q.writes a1 b∧b.defers=marks y.2;have pass:∀n b w,R n b w→q.code.wpIn (uG none) 2 P (Exit.jump l (λa' w'=> ∃m,m<n∧R m a' w') Q) b w:=by
   rintro n b w ⟨e1,a1,y,hs1,GD,hit,Mq,hkb,hdb⟩;cases n with
   |zero=>exact hit.elim
   |succ n=>
    unfold jF at hit;have abh:=hit;simp only[body]at abh;rw[kF]at abh;refine qw hm ho hI q _ w b y.2 _ _ (BZ Mq (V7 hs1 hkb)) (by rw[hkb.1,GD.1];exact hfq) hdb abh λz e' w' ds' a' hk hs' pg ol=> ?_
    cases z with
    |normal=>exact hQ .normal e' w' ds' a' hk hs' (SK GD (hkb.trans pg)) ol
    |exit id=>exact hQ (.exit id) e' w' ds' a' hk hs' (SK GD (hkb.trans pg)) ol
    |ret=>exact hQ .ret e' w' ds' a' hk hs' (SK GD (hkb.trans pg)) ol
    |goto l'=>
     simp only at hk;split at hk
     ·rename_i hb;obtain⟨y',hy',VW⟩:=rq hs' hk;exact⟨beq_eq hb,n,ah,e1,a1,(y',ds'),hs1,GD,hy',VW,hkb.trans pg,ol⟩
     ·exact hk.elim
  refine UA (JA hn hl) R ?_ λn b w hR=>wpIn_seq (wpIn_skip (pass n b w hR));refine HS hm ho hI p e w a ds _ _ _ hs hfp hl hd h (λe1 w1 ds1 a1 hk hs1 hkp hd1=> ?_) λx e' w' ds' a' hx hk hs' hkp ol=> ?_
  ·obtain⟨y,hy,Mq⟩:=rq hs1 hk;obtain⟨n,hy⟩:=hy;have:=pass n a1 w1 ⟨e1,a1,(y,ds1),hs1,hkp,hy,Mq,.refl _ _,hd1⟩;refine wpIn_seq (wpIn_label ?_);refine wpIn_mono this λe' a' w' hq=> ?_;cases e' with
   |goto l'=>exact⟨hq.1,hq.2.choose,hq.2.choose_spec.2⟩
   |_=>exact hq
  ·cases x with
   |normal=>exact(hx rfl).elim
   |exit id=>exact hQ (.exit id) e' w' ds' a' hk hs' (Qk hkp) ol
   |ret=>exact hQ .ret e' w' ds' a' hk hs' (Qk hkp) ol
   |goto l'=>exact hk.elim
 | .Au ks l p p2 l2 q,e,w,a,ds,k,Q,hs,hf,hd,h,hQ=>by
  unfold zg at h;simp only[jS.fits,iW,Bool.not_eq_true']at hf;obtain⟨⟨⟨⟨⟨⟨⟨hfp,aBF,hfq⟩,hl⟩,hn⟩,hl2⟩,E7⟩,hn3⟩,hne⟩:=hf;have Qk:∀{a':Act},iX p.writes a a'→iX (jS.Au ks l p p2 l2 q).writes a a':=λhk=>hk.mono λs gE=>by simp only[jS.writes,j5]at gE;exact gE.1
  have SK:∀{a' a'':Act},iX p.writes a a'→iX (jS.seq p2 q).writes a' a''→iX (jS.Au ks l p p2 l2 q).writes a a'':=λh h'=>(Qk h).trans (h'.mono λs gE=>by simp only[jS.writes,j5]at gE ⊢;exact gE.2)
  have hp2:∀{a' a'':Act},iX p2.writes a' a''→iX (jS.seq p2 q).writes a' a'':=λhk=>hk.mono λs gE=>by simp only[jS.writes,j5]at gE;exact gE.1
  have hq2:∀{a' a'':Act},iX q.writes a' a''→iX (jS.seq p2 q).writes a' a'':=λhk=>hk.mono λs gE=>by simp only[jS.writes,j5]at gE;exact gE.2
  let body (e1:Env):(HT ks×List Nat→aq)→HT ks×List Nat→aq:=λC y w=>lq (AN ks y.1++e1.V4 (.seq p2 q)) λe=>zg P bZ I mask p2 e w y.2 λz e w ds=>match z with
   | .normal=>zg P bZ I mask q e w ds λz e w ds=>match z with| .goto l'=>if Nat.beq l' l then tS ks e λy=>C (y,ds) w else False|z=>k z e w ds
   | .goto l'=>if Nat.beq l' l then tS ks e λy=>C (y,ds) w else if Nat.beq l' l2 then zg P bZ I mask q e w ds λz e w ds=>match z with| .goto _=>False|z=>k z e w ds else False
   |z=>k z e w ds
  let R (n:Nat) (b:Act) (w:World):Prop:=∃e1 a1 y,Sub e1 a1∧iX p.writes a a1∧jF (body e1) n y w∧Sub (AN ks y.1) b∧iX (jS.seq p2 q).writes a1 b∧b.defers=marks y.2;let R2 (b:Act) (w:World):Prop:=∃a1 e ds,iX p.writes a a1∧iX (jS.seq p2 q).writes a1 b∧Sub e b∧b.defers=marks ds∧zg P bZ I mask q e w ds λz e w ds=>match z with| .goto _=>False|z=>k z e w ds
  have pass:∀n b w,R n b w→(qg p2 (.seq (.label l2) q.code)).wpIn (uG none) 2 P (λe a' w'=>match e with| .goto l'=>(l'=l∧∃m,m<n∧R m a' w')∨(l'=l2∧R2 a' w')|e=>Q e a' w') b w:=by
   rintro n b w ⟨e1,a1,y,hs1,GD,hit,Mq,hkb,hdb⟩;cases n with
   |zero=>exact hit.elim
   |succ n=>
    unfold jF at hit;have abh:=hit;simp only[body]at abh;rw[kF]at abh;refine HS hm ho hI p2 _ w b y.2 _ _ _ (BZ Mq (V7 hs1 hkb)) (by rw[hkb.1,GD.1];exact aBF) hl2 hdb abh (λe' w' ds' a' hk hs' pg ol=> ?_) λz e' w' ds' a' hz hk hs' pg ol=> ?_
    ·refine wpIn_seq (wpIn_label ?_);refine qw hm ho hI q e' w' a' ds' _ _ hs' (by rw[pg.1,hkb.1,GD.1];exact hfq) ol hk λz Qa w'' JB a'' hk Y8 ajL Y9=> ?_
     have hkk:=hkb.trans ((hp2 pg).trans (hq2 ajL));cases z with
     |normal=>exact hQ .normal Qa w'' JB a'' hk Y8 (SK GD hkk) Y9
     |exit id=>exact hQ (.exit id) Qa w'' JB a'' hk Y8 (SK GD hkk) Y9
     |ret=>exact hQ .ret Qa w'' JB a'' hk Y8 (SK GD hkk) Y9
     |goto l'=>
      simp only at hk;split at hk
      ·rename_i hb;obtain⟨y',hy',VW⟩:=rq Y8 hk;exact .inl ⟨beq_eq hb,n,ah,e1,a1,(y',JB),hs1,GD,hy',VW,hkk,Y9⟩
      ·exact hk.elim
    ·have hkk:=hkb.trans (hp2 pg);cases z with
     |normal=>exact(hz rfl).elim
     |exit id=>exact hQ (.exit id) e' w' ds' a' hk hs' (SK GD hkk) ol
     |ret=>exact hQ .ret e' w' ds' a' hk hs' (SK GD hkk) ol
     |goto l'=>
      simp only at hk;split at hk
      ·rename_i hb;obtain⟨y',hy',VW⟩:=rq hs' hk;exact .inl ⟨beq_eq hb,n,ah,e1,a1,(y',ds'),hs1,GD,hy',VW,hkk,ol⟩
      ·split at hk
       ·rename_i hb;exact .inr ⟨beq_eq hb,a1,e',ds',GD,hkk,hs',ol,hk⟩
       ·exact hk.elim
  have ajI:∀b w,R2 b w→q.code.wpIn (uG none) 2 P (λe a' w'=>match e with| .goto _=>False|e=>Q e a' w') b w:=by
   rintro b w ⟨a1,e2,ds2,GD,hkb,Io,hd2,hev⟩;refine qw hm ho hI q e2 w b ds2 _ _ Io (by rw[hkb.1,GD.1];exact hfq) hd2 hev λz Qa w'' JB a'' hk Y8 ajL Y9=> ?_
   have hkk:=hkb.trans (hq2 ajL);cases z with
   |normal=>exact hQ .normal Qa w'' JB a'' hk Y8 (SK GD hkk) Y9
   |exit id=>exact hQ (.exit id) Qa w'' JB a'' hk Y8 (SK GD hkk) Y9
   |ret=>exact hQ .ret Qa w'' JB a'' hk Y8 (SK GD hkk) Y9
   |goto l'=>exact hk.elim
  have hf2:findLabel (qg p (.seq (.label l) (qg p2 (.seq (.label l2) q.code)))) l2=some (.seq .skip q.code):=by
   rw[abg hn3 hl];have aaL:(l==l2)=false:=by rw[beq_eq_false_iff_ne];exact λh=>by rw[h]at hne;simp at hne
   simp only[findLabel,aaL];exact JA E7 hl2
  refine ZH (JA hn hl) hf2 R R2 ?_ (λn b w hR=>wpIn_seq (wpIn_skip (pass n b w hR))) λb w hR=>wpIn_seq (wpIn_skip (ajI b w hR));refine HS hm ho hI p e w a ds _ _ _ hs hfp hl hd h (λe1 w1 ds1 a1 hk hs1 hkp hd1=> ?_) λx e' w' ds' a' hx hk hs' hkp ol=> ?_
  ·obtain⟨y,hy,Mq⟩:=rq hs1 hk;obtain⟨n,hy⟩:=hy;have:=pass n a1 w1 ⟨e1,a1,(y,ds1),hs1,hkp,hy,Mq,.refl _ _,hd1⟩;refine wpIn_seq (wpIn_label ?_);refine wpIn_mono this λe' a' w' hq=> ?_;cases e' with
   |goto l'=>
    rcases hq with⟨h1,m,hm,h2⟩|h2
    ·exact .inl ⟨h1,m,h2⟩
    ·exact .inr h2
   |_=>exact hq
  ·cases x with
   |normal=>exact(hx rfl).elim
   |exit id=>exact hQ (.exit id) e' w' ds' a' hk hs' (Qk hkp) ol
   |ret=>exact hQ .ret e' w' ds' a' hk hs' (Qk hkp) ol
   |goto l'=>exact hk.elim
 | .seq x y,e,w,a,ds,k,Q,hs,hf,hd,h,hQ=>by
  unfold zg at h;simp only[jS.fits,iW]at hf;refine wpIn_seq (qw hm ho hI x e w a ds _ _ hs hf.1 hd h λz e' w' ds' a' hk hs' hkp ol=> ?_);have pg:iX (jS.seq x y).writes a a':=hkp.mono λs gE=>by simp only[jS.writes,j5]at gE;exact gE.1
  cases z with
  |normal=>
   refine qw hm ho hI y e' w' a' ds' k Q hs' (by rw[hkp.1];exact hf.2) ol hk λz Qa w'' JB a'' h1 h2 h3 h4=>hQ z Qa w'' JB a'' h1 h2 (pg.trans (h3.mono λs gE=> ?_)) h4
   simp only[jS.writes,j5]at gE;exact gE.2
  |exit id=>exact hQ (.exit id) e' w' ds' a' hk hs' pg ol
  |ret=>exact hQ .ret e' w' ds' a' hk hs' pg ol
  |goto l=>exact hQ (.goto l) e' w' ds' a' hk hs' pg ol
 | .cond c x y,e,w,a,ds,k,Q,hs,hf,hd,h,hQ=>by
  unfold zg at h;simp only[jS.fits,iW]at hf;split at h
  ·rename_i t ht;refine wpIn_cond (ag6 hs ht) ?_;cases t
   ·exact qw hm ho hI y e w a ds k Q hs hf.2 hd h λz e' w' ds' a' h1 h2 h3 h4=>hQ z e' w' ds' a' h1 h2 (h3.mono λs gE=>by simp only[jS.writes,j5]at gE;exact gE.2) h4
   ·exact qw hm ho hI x e w a ds k Q hs hf.1 hd h λz e' w' ds' a' h1 h2 h3 h4=>hQ z e' w' ds' a' h1 h2 (h3.mono λs gE=>by simp only[jS.writes,j5]at gE;exact gE.1) h4
  ·exact h.elim
 | .block id x,e,w,a,ds,k,Q,hs,hf,hd,h,hQ=>by
  unfold zg at h;refine wpIn_block (qw hm ho hI x e w a ds _ _ hs hf hd h λz e' w' ds' a' hk hs' hkp ol=> ?_);cases z with
  |normal=>exact hQ .normal e' w' ds' a' hk hs' hkp ol
  |ret=>exact hQ .ret e' w' ds' a' hk hs' hkp ol
  |goto l=>exact hQ (.goto l) e' w' ds' a' hk hs' hkp ol
  |exit i=>
   simp only at hk;show(if i=id then Q .normal a' w' else Q (.exit i) a' w')
   split at hk
   ·rename_i hb;rw[if_pos (beq_eq hb)];exact hQ .normal e' w' ds' a' hk hs' hkp ol
   ·rename_i hb;have hb':i≠id:=by simpa using hb
    rw[if_neg hb'];exact hQ (.exit i) e' w' ds' a' hk hs' hkp ol
 | .join ks x,e,w,a,ds,k,Q,hs,hf,hd,h,hQ=>by
  unfold zg cD at h;refine qw hm ho hI x e w a ds _ Q hs hf hd h λz e' w' ds' a' hk hs' hkp ol=> ?_;cases z with
  |normal=>
   obtain⟨y,hy,Mq⟩:=rq hs' hk;rw[kF]at hy;exact hQ .normal _ w' ds' a' hy (BZ Mq (V7 hs hkp)) hkp ol
  |exit id=>exact hQ (.exit id) e' w' ds' a' hk hs' hkp ol
  |ret=>exact hQ .ret e' w' ds' a' hk hs' hkp ol
  |goto l=>exact hQ (.goto l) e' w' ds' a' hk hs' hkp ol
 | .loop ks x,e,w,a,ds,k,Q,hs,hf,hd,h,hQ=>by
  unfold zg at h;obtain⟨y,hy,Mq⟩:=rq hs h;obtain⟨n,hn⟩:=hy;refine wpIn_loop_rounds n ?_;have key:∀n (y:HT ks×List Nat) w b,jF (λC y w=>lq (AN ks y.1++e.V4 x) λe=>zg P bZ I mask x e w y.2 λz e w ds=>match z with| .normal=>tS ks e λy=>C (y,ds) w|z=>k z e w ds) n y w→
    Sub (AN ks y.1) b→iX x.writes a b→b.defers=marks y.2→Code.roundsIn (uG none) 2 P x.code Q n b w:=by
   intro n;induction n with
   |zero=>intro y w b h;exact h.elim
   |succ n ih=>
    intro y w b h Mq hkp hdb;unfold jF at h;rw[kF]at h;rw[roundsIn_succ];refine qw hm ho hI x _ w b y.2 _ _ (BZ Mq (V7 hs hkp)) (by rw[hkp.1];exact hf) hdb h λz e' w' ds' a' hk hs' pg ol=> ?_
    cases z with
    |normal=>
     obtain⟨y',hy',VW⟩:=rq hs' hk;exact ih (y',ds') w' a' hy' VW (hkp.trans pg) ol
    |exit id=>exact hQ (.exit id) e' w' ds' a' hk hs' (hkp.trans pg) ol
    |ret=>exact hQ .ret e' w' ds' a' hk hs' (hkp.trans pg) ol
    |goto l=>exact hQ (.goto l) e' w' ds' a' hk hs' (hkp.trans pg) ol
  exact key n (y,ds) w a hn Mq (.refl _ _) hd
 | .range ks f ps asl asg body,e,w,a,ds,k,Q,hs,hf,hd,h,hQ=>by
  unfold zg at h;split at h
  ·rename_i v hv;refine afn hm ho hI hs hf hv h λD w' hk=>hQ .normal e w' (D::ds) _ hk hs ⟨rfl,λ_ _=>rfl⟩ ?_;show _::a.defers=_;rw[hd];rfl
  ·exact h.elim
theorem HS{bZ:eb}{I:Cw}{mask:Nat}(hm:P.follows .mixedOrders=true)(ho:sZ P bZ P7)(hI:V6 P I):∀(p:jS) (e:Env) (w:World) (a:Act) (ds:List Nat) (k:Ex2→Env→World→List Nat→Prop) (Q:Exit→Act→aq) (t:Code),
  Sub e a→p.fits a.tmps.size=true→My p=true→a.defers=marks ds→zg P bZ I mask p e w ds k→
  (∀e' w' ds' a',k .normal e' w' ds'→Sub e' a'→iX p.writes a a'→a'.defers=marks ds'→t.wpIn (uG none) 2 P Q a' w')→
  (∀x e' w' ds' a',x≠Ex2.normal→k x e' w' ds'→Sub e' a'→iX p.writes a a'→a'.defers=marks ds'→Q (ajH x) a' w')→(qg p t).wpIn (uG none) 2 P Q a w
 | .seq x r,e,w,a,ds,k,Q,t,hs,hf,hl,hd,h,hN,hQ=>by
  unfold zg at h;simp only[jS.fits,iW]at hf;unfold qg;refine wpIn_seq (qw hm ho hI x e w a ds _ _ hs hf.1 hd h λz e' w' ds' a' hk hs' hkp ol=> ?_);have pg:iX (jS.seq x r).writes a a':=hkp.mono λs gE=>by simp only[jS.writes,j5]at gE;exact gE.1
  have hkr:∀{a''},iX r.writes a' a''→iX (jS.seq x r).writes a a'':=λh3=>pg.trans (h3.mono λs gE=>by simp only[jS.writes,j5]at gE;exact gE.2)
  cases z with
  |normal=>exact HS hm ho hI r e' w' a' ds' k Q t hs' (by rw[hkp.1];exact hf.2) hl ol hk (λQa w'' JB a'' h1 h2 h3 h4=>hN Qa w'' JB a'' h1 h2 (hkr h3) h4) λz Qa w'' JB a'' hz h1 h2 h3 h4=>hQ z Qa w'' JB a'' hz h1 h2 (hkr h3) h4
  |exit id=>exact hQ (.exit id) e' w' ds' a' bh hk hs' pg ol
  |ret=>exact hQ .ret e' w' ds' a' bh hk hs' pg ol
  |goto l=>exact hQ (.goto l) e' w' ds' a' bh hk hs' pg ol
 | .base c,e,w,a,ds,k,Q,t,hs,hf,hl,hd,h,hN,hQ=>by
  cases c with
  |skip=>unfold zg ev at h;exact hN e w ds a h hs (.refl _ _) hd
  |_=>cases hl
 | .cond ..,_,_,_,_,_,_,_,_,_,hl,_,_,_,_| .block ..,_,_,_,_,_,_,_,_,_,hl,_,_,_,_| .loop ..,_,_,_,_,_,_,_,_,_,hl,_,_,_,_| .join ..,_,_,_,_,_,_,_,_,_,hl,_,_,_,_| .scope _,_,_,_,_,_,_,_,_,_,hl,_,_,_,_| .goto _,_,_,_,_,_,_,_,_,_,hl,_,_,_,_| .yN ..,_,_,_,_,_,_,_,_,_,hl,_,_,_,_| .Au ..,_,_,_,_,_,_,_,_,_,hl,_,_,_,_| .range ..,_,_,_,_,_,_,_,_,_,hl,_,_,_,_=>by cases hl
end
def azj(P:Program)(rs:List ResultVar)(c:List Value→aq)(x:Ex2)(e:Env)(w:World)(ds:List Nat):Prop:=
 match x with
 | .exit _=>False
 | .goto _=>False
 |_=>Is ds w λw=>Jr P rs e w λl=>c l w
def UC(P:Program)(bZ:eb)(I:Cw)(mask:Nat)(h:sA)(fn:Func)(ks:List K)(args:List Value)(w:World)(c:KT ks→aq):Prop:=
 match fn.body with
 |some b=>zg P bZ I mask (sO h b 0).1 (CX 0 args) w [] (azj P fn.results.toList λl w=>qG ks l λx=>c x w)
 |none=>False
def aqc(h:sA)(fn:Func)(n:Nat):Bool:=
 match fn.body with
 |some b=>(sO h b 0).1.fits fn.ntmps&&Nat.ble n fn.ntmps&& !(fn.name== "runtime.NumGoroutine")
 |none=>false
theorem TS{fn:Func}{tmps:Array Value}{R:Ending→aq}:∀{ds:List Nat} {w:World} {c:aq},Is ds w c→(∀w',c w'→LeavesInM (uG none) 2 P fn tmps R [] .returning w')→LeavesInM (uG none) 2 P fn tmps R (marks ds) .returning w
 |[],w,c,h,hc=>hc w h
 |D::ds,w,c,h,hc=>⟨bh,.inl ⟨D,_,rfl,run_takeDeferred h.1,TS h.2 hc⟩⟩
theorem Iu{f:FuncId}{fn:Func}{mask:Nat}{h:sA}{bZ:eb}{I:Cw}(hm:P.follows .mixedOrders=true)(hf:P.funcs[f]?=some fn)(ho:sZ P bZ P7)(hI:V6 P I)(pX tU:List K)
  (hok:aqc h fn pX.length=true) (F:KT pX→World→(KT tU→aq)→Prop) (hl:∀x w c,UC P bZ I mask h fn tU (dz pX x) w c=F x w c):
  uI P f λargs w c=>qG pX args λx=>F x w λr w=>c (eW (dz tU r)) w:=by
 unfold aqc at hok;cases hb:fn.body with
 |none=>rw[hb]at hok;cases hok
 |some b=>
  rw[hb]at hok;simp only[iW,Bool.not_eq_true']at hok;refine⟨⟨fn,hf,by rw[hb];rfl,hok.2⟩,λargs w c hd=> ?_⟩
  obtain⟨x,hx,hF⟩:=zb hd;have hlen:=MA pX x;rw[←hl]at hF;unfold UC at hF;rw[hb]at hF;simp only at hF;have hle:pX.length≤fn.ntmps:=Nat.le_of_ble_eq_true hok.1.2;have hsz:args.size≤fn.ntmps:=by
   have:args.toList.length=pX.length:=by rw[hx,hlen]
   rw[Array.length_toList]at this;omega
  refine(callsIn_wide (n:=2)).1 (callsIn_of_wp_marks (F:=uG none) hf hb (Ju none f) ?_);have ajx:=afm h b 0;have hw:=qw (mask:=mask) hm ho hI (sO h b 0).1 (CX 0 (dz pX x)) w {tmps:=args++Array.replicate (fn.ntmps - args.size) undef,defers:=[]} [] _ (bodyPostM (uG none) 2 P fn λe w'=> ∃v,e= .returned v∧c v w') ?_ ?_ rfl hF ?_
  ·rw[ajx]at hw;exact hw
  ·refine Im _ 0 _ λi v hv=> ?_;rw[←hx]at hv;have FO:args[i]?=some v:=by simpa using hv
   have hi:i<args.size:=(AO.1 FO).1;simp only[Nat.zero_add];rw[Array.getElem?_append_left hi];exact FO
  ·have:(args++Array.replicate (fn.ntmps - args.size) undef).size=fn.ntmps:=by simp;omega
   rw[this];exact hok.1.1
  ·intro z e' w' ds' a' hk hs hkp apU;have fin:(Is ds' w' λw=>Jr P fn.results.toList e' w λl=>qG tU l λx=>c (eW (dz tU x)) w)→LeavesInM (uG none) 2 P fn a'.tmps (λe w'=> ∃v,e= .returned v∧c v w') a'.defers .returning w':=by
    intro ht;rw[apU];refine TS ht λw'' hr=> ?_;obtain⟨l,hc,hrun⟩:=Si hs hr;obtain⟨y,rfl,Ek⟩:=zb hc;show LeavesIn (uG none) 2 P fn a'.tmps _ [] .returning w'';refine⟨eW (dz tU y),?_,_,rfl,Ek⟩;have he:results fn a'.tmps=(do
      let vs←fn.results.mapM (Qe a');pure (if h:vs.size=1 then vs[0]else .tuple vs)):=by
     have hfun:(λx=>(match x with| .tmp t=>pure (a'.tmps.getD t undef)| .cell a t=>do loadVar t (←asAddr (a'.tmps.getD a undef)):Sem Value))=Qe a':=by
      funext r;cases r<;>rfl
     unfold results;rw[←hfun];rfl
    rw[he,Array.mapM_eq_mapM_toList];simp only[cQ,Sem.run_map,hrun,cJ,cO];rw[aaV]
   cases z with
   |normal=>exact fin hk
   |ret=>exact fin hk
   |exit id=>exact hk.elim
   |goto l=>exact hk.elim
def V8(P:Program)(f:FuncId)(G:(Nat→bu)→bu):Prop:=∀Y,YOK P Y→uI P f (G Y)
def abi(P:Program):List (Nat×((Nat→bu)→bu))→Prop
 |[]=>True
 |(n,d)::l=>V8 P n d∧abi P l
def Cy:List (Nat×((Nat→bu)→bu))→Cw
 |[],_,_,_,_,_=>False
 |(n,d)::l,f,Y,args,w,c=>match Nat.beq n f with|true=>d Y args w c|false=>Cy l f Y args w c
theorem K7:∀{l:List (Nat×((Nat→bu)→bu))},abi P l→V6 P (Cy l)
 |[],_=>λ_ _ _ _ _ _ h=>h.elim
 |(n,d)::l,hl=>λgf Y args w c hY h=>by
  unfold Cy at h;split at h
  ·rename_i hb;have:=beq_eq hb;subst this;have:=hl.1 Y hY;exact⟨this.1,this.2 args w c h⟩
  ·exact K7 hl.2 gf Y args w c hY h
end
def obj(g:Nat)(o:Obj):HP where
 p F w:=(∀k,F k↔k=g)∧w.heap[g]?=some o
 lt:=fun⟨e,h⟩ hg=>by rw[(e _).1 hg];exact(AO.1 h).1
 keep:=fun⟨e,h⟩ hk=>⟨e,(hk _ ((e _).2 rfl)).trans h⟩
def Iw(ds:List Nat):HP where
 p F w:=ds.Nodup∧(∀k,F k↔k∈ds)∧∀D∈ds,w.heap[D]?=some (.deferred (some []))
 lt:=fun⟨_,e,h⟩ hg=>(AO.1 (h _ ((e _).1 hg))).1
 keep:=fun⟨n,e,h⟩ hk=>⟨n,e,λD hD=>(hk _ ((e _).2 hD)).trans (h D hD)⟩
theorem afr(w:World)(g:Nat)(o:Obj):pz (λk=>k=g) w (w.putObj g o):=
 ⟨rfl,rfl,rfl,by simp[World.putObj],λk _ hn=>World.putObj_heap_other hn⟩
theorem ajN(w:World)(o:Obj):Ext w (w.alloc o):=
 ⟨rfl,rfl,rfl,by show w.heap.size≤(w.heap.push o).size;simp,λk hk _=>by show(w.heap.push o)[k]?=_;rw[Array.getElem?_push_lt hk];simp[hk]⟩
section
variable {w0 w:World} {L:List HP} {g:Nat} {f:HP→List HP}
theorem Db{o:Obj}(h:St w0 w L)[a:At L (Ev.obj g) o f]:w.heap[g]?=some o:=by
 obtain⟨F,h1,_⟩:=h.look' a;exact h1.2
theorem Av{o:Obj}(o':Obj)(h:St w0 w L)[a:At L (Ev.obj g) o f]:St w0 (w.putObj g o') (f (Ev.obj g o')):=by
 have hlt:=(AO.1 (Db (g:=g) (o:=o) h)).1;exact h.Mx a λF1 hF=>⟨(afr w g o').mono λk _ hk=>(hF.1 k).2 hk,λk=>k=g,⟨λ_=>Iff.rfl,World.putObj_heap_same hlt⟩,λk hk=> .inl ((hF.1 k).2 hk)⟩
theorem abj(o:Obj)(h:St w0 w L):St w0 (w.alloc o) (Ev.obj w.heap.size o::L):=
 h.new (ajN w o) (F':=λk=>k=w.heap.size) ⟨λ_=>Iff.rfl,World.alloc_heap_new w o⟩ λk hk=>Nat.le_of_eq hk.symm
theorem Ql(h:St w0 w L):St w0 w (Iw []::L):=
 h.new (.refl _ _) (F':=λ_=>False) ⟨.nil,λk=>by simp,λD hD=>by cases hD⟩ λ_ h=>h.elim
theorem K8{D:Nat}{ds:List Nat}(h:St w0 w (Ev.obj D (.deferred (some []))::Iw ds::L)):St w0 w (Iw (D::ds)::L):=by
 obtain⟨h1,F,⟨F1,F2,⟨e1,k1⟩,⟨F3,F4,⟨n3,e3,k3⟩,h4,d34,e34⟩,d12,e12⟩,h3⟩:=h;have hn:D ∉ ds:=λhD=>d12 D ((e1 D).2 rfl) ((e34 D).2 (.inl ((e3 D).2 hD)));refine⟨h1,F,⟨λk=>F1 k∨F3 k,F4,⟨List.nodup_cons.2 ⟨hn,n3⟩,λk=>by simp[e1,e3],λD' hD=> ?_⟩,h4,λk hk h4k=> ?_,λk=> ?_⟩,h3⟩
 ·rcases List.mem_cons.1 hD with rfl|hD
  ·exact k1
  ·exact k3 D' hD
 ·rcases hk with hk|hk
  ·exact d12 k hk ((e34 k).2 (.inr h4k))
  ·exact d34 k hk h4k
 ·rw[e12,e34];exact or_assoc.symm
theorem ahj{D:Nat}{ds:List Nat}(h:St w0 w (Iw (D::ds)::L)):St w0 w (Ev.obj D (.deferred (some []))::Iw ds::L):=by
 obtain⟨h1,F,⟨F1,F4,⟨n,e1,k1⟩,h4,d14,e14⟩,h3⟩:=h;obtain⟨hn,n3⟩:=List.nodup_cons.1 n;refine⟨h1,F,⟨λk=>k=D,λk=>k∈ds∨F4 k,⟨λ_=>Iff.rfl,k1 D bh⟩,⟨λk=>k∈ds,F4,⟨n3,λ_=>Iff.rfl,λD' hD=>k1 D' (by simp[hD])⟩,h4,λk hk h4k=>d14 k ((e1 k).2 (by simp[hk])) h4k,λ_=>Iff.rfl⟩,λk hk hor=> ?_,λk=> ?_⟩,h3⟩
 ·subst hk;rcases hor with h|h
  ·exact hn h
  ·exact d14 k ((e1 k).2 bh) h
 ·rw[e14,e1];simp[or_assoc]
theorem K9:∀{ds:List Nat} {w:World} {c:aq},St w0 w (Iw ds::L)→(∀w',St w0 w' L→c w')→Is ds w c
 |[],w,c,h,hc=>hc w h.drop
 |D::ds,w,c,h,hc=>by
  have h:=ahj h;refine⟨Db h,K9 (St.drop (R:=Ev.obj D (.deferred none)) (Av (g:=D) (o:= .deferred (some [])) (f:=λX=>X::Iw ds::L) (.deferred none) h)) hc⟩
def rY(l:Nat)(R:LoopState→Obj)(kk:List K)(body:KT kk→World→(aq)→Prop):Nat→bu:=λn args w1 c=>
 n=l∧w1.heap[l]?=some (R .ready)∧qG kk args λy=>body y (w1.putObj l (R .busy)) λw4=>w4.heap[l]?=some (R .busy)∧c (.bool true) (w4.putObj l (R .ready))
theorem Sn{I:Cw}{kk:List K}{gf:FuncId}{first lb:Array Value}{body:KT kk→World→(aq)→Prop}{fin:Nat→aq}(h:St w0 w L)
  (hI:∀(l D:Nat) (R:LoopState→Obj) (w1:World),St w0 w1 (obj l (R .ready)::obj D (.deferred (some []))::L)→
   I gf (rY l R kk body) (first.toList++(.func (.yield l) #[] #[]::lb.toList)) w1 λ_ w5=>w5.heap[l]?=some (R .ready)∧fin D (w5.putObj l (R .exhausted))):
  BM I kk (.func (.func gf) first lb) w body fin:=by
 intro R hR;have h1:=abj (R .ready) (abj (.deferred (some [])) h);have e:(w.alloc (.deferred (some []))).heap.size=w.heap.size+1:=by show(w.heap.push _).size=_;simp
 rw[e]at h1;exact hI _ _ R _ h1
theorem alY{l:Nat}{R:LoopState→Obj}{kk:List K}{body:KT kk→World→(aq)→Prop}{args:List Value}{c:Value→aq}(y:KT kk)(hy:∀c:KT kk→Prop,c y→qG kk args c)
  (h:St w0 w L) [a:At L (Ev.obj l) (R .ready) f]
  (hb:∀w',St w0 w' (f (Ev.obj l (R .busy)))→body y w' λw4=>w4.heap[l]?=some (R .busy)∧c (.bool true) (w4.putObj l (R .ready))):rY l R kk body l args w c:=
 ⟨rfl,Db h,hy _ (hb _ (Av _ h))⟩
theorem abk{o o':Obj}{c:aq}(h:St w0 w L)[a:At L (Ev.obj g) o f](hc:∀w',St w0 w' (f (Ev.obj g o'))→c w'):w.heap[g]?=some o∧c (w.putObj g o'):=
 ⟨Db h,hc _ (Av _ h)⟩
theorem Qm{l:List (Nat×bu)}{Y:Nat→bu}{n:Nat}{args:Array Value}{c:Value→aq}(h:Y n args.toList w c):mT (Js l Y) (.func (.yield n) #[] #[]) args w c:=by
 show Y n (#[] ++args).toList w c;simpa using h
end
theorem St.join{w0 w w':World}{L M:List HP}(h:St w0 w L)(k:St w w' M):St w0 w' (M++L):=by
 obtain⟨e1,FL,hL,bL⟩:=h;obtain⟨e2,FM,hM,bM⟩:=k;refine⟨e1.trans e2,λg=>FM g∨FL g,ze.1 ⟨FM,FL,hM,E6 hL λg hg=>e2.block g (Da hL hg) λh=>h,λg hg Mw=> ?_,λ_=>Iff.rfl⟩,λg hg=> ?_⟩
 ·have:=bM g hg;have:=Da hL Mw;omega
 ·have:=e1.size;rcases hg with hg|hg
  ·have:=bM g hg;omega
  ·exact bL g hg
theorem ad1{w:World}{p:Addr}:∀(n i:Nat) (e:List Value),e.length=i+n→(∀j v,e[j]?=some v→w.cell? (p.add j)=some v)→FC w p i n=some (e.drop i)
 |0,i,e,hl,_=>by rw[List.drop_eq_nil_of_le ah];rfl
 |n+1,i,e,hl,h=>by
  have hi:i<e.length:=ah;have h1:=h i e[i] (kq hi);have h2:=ad1 n (i+1) e ah h;rw[List.drop_eq_getElem_cons hi];simp[FC,rd,h1,h2]
theorem GK{n:Nat}{w:World}{p:Addr}{e:List Value}{c:Array Value→Prop}(hl:e.length=n)(h:∀j v,e[j]?=some v→w.cell? (p.add j)=some v)(hc:c e.toArray):bG n w p c:=by
 unfold bG;rw[ad1 n 0 e ah h];exact hc
theorem ajO{L M:List HP}(hp:L.Perm M):∀{F w},uL L F w→uL M F w:=by
 induction hp with
 |nil=>exact id
 |cons x _ ih=>rintro F w ⟨F1,F2,h1,h2,h3,h4⟩;exact⟨F1,F2,h1,ih h2,h3,h4⟩
 |swap x y l=>exact λh=>Iq h
 |trans _ _ ih1 ih2=>exact λh=>ih2 (ih1 h)
theorem St.perm{w0 w:World}{L M:List HP}(h:St w0 w L)(hp:L.Perm M):St w0 w M:=⟨h.ext,by obtain⟨F,h1,h2⟩:=h.sep;exact⟨F,ajO hp h1,h2⟩⟩
theorem Za:∀{L:List HP} {n:Nat} {X:HP},L[n]?=some X→L.Perm (X::L.eraseIdx n)
 |[],n,X,h=>by simp at h
 |R::L,0,X,h=>by simp at h;subst h;exact .refl _
 |R::L,n+1,X,h=>((Za (L:=L) (n:=n) (by simpa using h)).cons R).trans (.swap _ _ _)
theorem bD(n:Nat){L M:List HP}{X:HP}(e:L[n]?=some X)(h:(L.eraseIdx n).Perm M):L.Perm (X::M):=by
 have:=Za e;exact this.trans (h.cons X)
theorem St.fr{w0 w:World}{L L':List HP}{X:HP}(h:St w0 w L)(n:Nat)(e:L[n]?=Option.some X:=by exact rfl)(e2:X::L.eraseIdx n=L':=by simp only[Iy] <;>exact rfl):St w0 w L':=e2▸h.front n e
theorem St.El{w0 w:World}{L L':List HP}{X:HP}(h:St w0 w L)(n:Nat)(e:L[n]?=Option.some X:=by exact rfl)(e2:L.eraseIdx n=L':=by simp only[Iy] <;>exact rfl):St w0 w L':=e2▸h.rm n e
theorem GL{L M:List HP}(h:L.Perm M:=by repeat' (first|exact List.Perm.refl _|refine bD 0 rfl ?_|refine bD 1 rfl ?_|refine bD 2 rfl ?_|refine bD 3 rfl ?_|refine bD 4 rfl ?_|refine bD 5 rfl ?_|refine bD 6 rfl ?_|refine bD 7 rfl ?_)):L.Perm M:=h
section
variable {K V:Type} [DecidableEq K]
def gmE(ek:K→Value)(ev:V→Value)(t:List (K×V×Nat)):List MapEntry:=t.map λx=>⟨ek x.1,ev x.2.1,x.2.2⟩
def gmG(t:List (K×V×Nat))(k:K):Option V:=(t.find? λx=>decide (x.1=k)).map (·.2.1)
def gm(ek:K→Value)(ev:V→Value)(g:Nat)(φ:K→Option V):HP:=FT λq:{t:List (K×V×Nat) // gmG t=φ}×Nat=>obj g (.map (gmE ek ev q.1.1).toArray q.2)
end
section
variable {K V:Type} [DecidableEq K] {ek:K→Value} {ev:V→Value} {z:V} {P:Program} {w0 w:World} {L:List HP} {g:Nat} {φ:K→Option V} {f:HP→List HP} {m kt et:TypeId}
end
section
variable {w0 w:World} {L:List HP} {g o n:Nat} {cs:List Value} {f:HP→List HP}
theorem aI{k:IntKind}{x:Int}{c:Int→Prop}(h:St w0 w L)[a:At L (ax g) cs f](hv:cs[o+n]?=some (.int k x))(hc:c x):aN k w (aX ⟨g,o,none⟩ n) c:=by rw[c8];exact cv h hv hc
theorem aB{x:Bool}{c:Bool→Prop}(h:St w0 w L)[a:At L (ax g) cs f](hv:cs[o+n]?=some (.bool x))(hc:c x):Ig w (aX ⟨g,o,none⟩ n) c:=by rw[c8];exact ajE h hv hc
theorem aP{x:Option Addr}{c:Option Addr→Prop}(h:St w0 w L)[a:At L (ax g) cs f](hv:cs[o+n]?=some (.pointer x))(hc:c x):aR w (aX ⟨g,o,none⟩ n) c:=by rw[c8];exact B2 h hv hc
theorem aS{p:Option Addr}{m k:Nat}{c:Sl→Prop}(h:St w0 w L)[a:At L (ax g) cs f](hv:cs[o+n]?=some (.slice p m k))(hc:c ⟨p,m,k⟩):cE w (aX ⟨g,o,none⟩ n) c:=by rw[c8];exact eu h hv hc
theorem aT{x:ByteArray}{c:ByteArray→Prop}(h:St w0 w L)[a:At L (ax g) cs f](hv:cs[o+n]?=some (.string x))(hc:c x):PV w (aX ⟨g,o,none⟩ n) c:=by rw[c8];exact ahe h hv hc
theorem aV{x:Value}{c:Value→Prop}(h:St w0 w L)[a:At L (ax g) cs f](hv:cs[o+n]?=some x)(hc:c x):sX w (aX ⟨g,o,none⟩ n) c:=by rw[c8];exact Ir h hv hc
theorem aA{m:Nat}{c:Array Value→Prop}(h:St w0 w L)[a:At L (ax g) cs f](hl:o+n+m≤cs.length)(hc:c ((cs.drop (o+n)).take m).toArray):bG m w (aX ⟨g,o,none⟩ n) c:=by rw[c8];exact qv h hl hc
theorem aC{v:Value}{c:aq}(h:St w0 w L)[a:At L (ax g) cs f](h1:v.oneCell'=true)(ho:o+n<cs.length)(hc:∀w',St w0 w' (f (ax g (cs.set (o+n) v)))→c w'):bJ w (aX ⟨g,o,none⟩ n) v c:=by rw[c8];exact jR h h1 ho hc
theorem aW{m:Nat}{vs:Array Value}{c:aq}(h:St w0 w L)[a:At L (ax g) cs f](hn:vs.size=m)(hl:o+n+m≤cs.length)(h1:∀v∈vs,v.oneCell'=true)
  (hc:∀w',St w0 w' (f (ax g (cs.take (o+n)++(vs.toList++cs.drop (o+n+m)))))→c w'):dK m w (aX ⟨g,o,none⟩ n) vs c:=by rw[c8];exact XN h hn hl h1 hc
theorem bA{m:Nat}{c:Array Value→Prop}(h:St w0 w L)[a:At L (ax g) cs f](hl:Nat.ble (o+n+m) cs.length=true)(hc:c ((cs.drop (o+n)).take m).toArray):bG m w (aX ⟨g,o,none⟩ n) c:=aA h (Nat.le_of_ble_eq_true hl) hc
theorem bA0{m:Nat}{c:Array Value→Prop}(h:St w0 w L)[a:At L (ax g) cs f](hl:Nat.ble (o+m) cs.length=true)(hc:c ((cs.drop o).take m).toArray):bG m w ⟨g,o,none⟩ c:=qv h (Nat.le_of_ble_eq_true hl) hc
theorem bC{v:Value}{c:aq}(h:St w0 w L)[a:At L (ax g) cs f](h1:v.oneCell'=true)(ho:Nat.ble (o+n+1) cs.length=true)(hc:∀w',St w0 w' (f (ax g (cs.set (o+n) v)))→c w'):bJ w (aX ⟨g,o,none⟩ n) v c:=aC h h1 (Nat.le_of_ble_eq_true ho) hc
theorem bC0{v:Value}{c:aq}(h:St w0 w L)[a:At L (ax g) cs f](h1:v.oneCell'=true)(ho:Nat.ble (o+1) cs.length=true)(hc:∀w',St w0 w' (f (ax g (cs.set o v)))→c w'):bJ w ⟨g,o,none⟩ v c:=jR h h1 (Nat.le_of_ble_eq_true ho) hc
theorem bW{m:Nat}{vs:Array Value}{c:aq}(h:St w0 w L)[a:At L (ax g) cs f](hn:vs.size=m)(hl:Nat.ble (o+n+m) cs.length=true)(h1:vs.toList.all Value.oneCell'=true)
  (hc:∀w',St w0 w' (f (ax g (cs.take (o+n)++(vs.toList++cs.drop (o+n+m)))))→c w'):dK m w (aX ⟨g,o,none⟩ n) vs c:=aW h hn (Nat.le_of_ble_eq_true hl) (λv hv=>xz.1 h1 v (by simpa using hv)) hc
theorem bW0{m:Nat}{vs:Array Value}{c:aq}(h:St w0 w L)[a:At L (ax g) cs f](hn:vs.size=m)(hl:cs.length=m)(h1:vs.toList.all Value.oneCell'=true)
  (hc:∀w',St w0 w' (f (ax g vs.toList))→c w'):dK m w ⟨g,0,none⟩ vs c:=mW h hl hn (λv hv=>xz.1 h1 v (by simpa using hv)) hc
theorem sq{w0' w':World}{L':List HP}{f':HP→List HP}{cs':List Value}{m:Nat}{c:Prop}(h:St w0 w L)(h':St w0' w' L')[a:At L (ax g) cs f][a':At L' (ax g) cs' f'](e:(cs.drop o).take m=(cs'.drop o).take m)(hc:c):ai m ⟨g,o,none⟩ w w' c:=by
 refine⟨λk hk=> ?_,hc⟩;have h1:=h.ax (g:=g) (cs:=cs);have h2:=h'.ax (g:=g) (cs:=cs');rw[c8,h1.cell,h2.cell,List.getElem?_toArray,List.getElem?_toArray];have:=congrArg (λl=>l[k]?) e;simp only[List.getElem?_take_of_lt hk,List.getElem?_drop]at this;exact this.symm
theorem asq{w0' w':World}{L':List HP}{f':HP→List HP}{cs':List Value}{m:Nat}{c:Prop}(h:St w0 w L)(h':St w0' w' L')[a:At L (ax g) cs f][a':At L' (ax g) cs' f'](e:(cs.drop (o+n)).take m=(cs'.drop (o+n)).take m)(hc:c):ai m (aX ⟨g,o,none⟩ n) w w' c:=by rw[c8];exact sq h h' e hc
theorem gA{m:Nat}{a:Addr}{w:World}{c:Prop}(hc:c):ai m a w w c:=⟨λ_ _=>rfl,hc⟩
theorem lu{x y:Prop}(hx:x)(hy:y):both x y:=⟨hx,hy⟩
theorem aab{v:Value}{c:Prop}(h1:v.oneCell'=true)(hc:c):rF v c:=⟨h1,hc⟩
theorem afs{b:Bool}{c:Bool→Prop}(h:c b):HL (.bool b) c:=h
theorem alZ{c:Bool→Prop}(h:c true):aas .nilFunc c:=h
theorem MC{f:Fn}{a b:Array Value}{c:Bool→Prop}(h:c false):aas (.func f a b) c:=h
end
section
variable {w0 w:World} {L:List HP} {g o n:Nat} {cs:List Value} {f:HP→List HP}
theorem dL{x:Option Addr}{c:Option Addr→Prop}(h:St w0 w L)[a:At L (ax g) cs f](hc:c x)(hv:cs[o+n]?=some (.pointer x):=by with_unfolding_all exact rfl):aR w (aX ⟨g,o,none⟩ n) c:=aP h hv hc
theorem oI{x:Option Addr}{c:Option Addr→Prop}(h:St w0 w L)[a:At L (ax g) cs f](hc:c x)(hv:cs[o]?=some (.pointer x):=by with_unfolding_all exact rfl):aR w ⟨g,o,none⟩ c:=B2 h hv hc
theorem dX{k:IntKind}{x:Int}{c:Int→Prop}(h:St w0 w L)[a:At L (ax g) cs f](hc:c x)(hv:cs[o+n]?=some (.int k x):=by with_unfolding_all exact rfl):aN k w (aX ⟨g,o,none⟩ n) c:=aI h hv hc
theorem GM{k:IntKind}{x:Int}{c:Int→Prop}(h:St w0 w L)[a:At L (ax g) cs f](hc:c x)(hv:cs[o]?=some (.int k x):=by with_unfolding_all exact rfl):aN k w ⟨g,o,none⟩ c:=cv h hv hc
theorem FU{x:Bool}{c:Bool→Prop}(h:St w0 w L)[a:At L (ax g) cs f](hc:c x)(hv:cs[o+n]?=some (.bool x):=by with_unfolding_all exact rfl):Ig w (aX ⟨g,o,none⟩ n) c:=aB h hv hc
theorem OB{x:Bool}{c:Bool→Prop}(h:St w0 w L)[a:At L (ax g) cs f](hc:c x)(hv:cs[o]?=some (.bool x):=by with_unfolding_all exact rfl):Ig w ⟨g,o,none⟩ c:=ajE h hv hc
theorem mJ{p:Option Addr}{m k:Nat}{c:Sl→Prop}(h:St w0 w L)[a:At L (ax g) cs f](hc:c ⟨p,m,k⟩)(hv:cs[o+n]?=some (.slice p m k):=by with_unfolding_all exact rfl):cE w (aX ⟨g,o,none⟩ n) c:=aS h hv hc
theorem B3{p:Option Addr}{m k:Nat}{c:Sl→Prop}(h:St w0 w L)[a:At L (ax g) cs f](hc:c ⟨p,m,k⟩)(hv:cs[o]?=some (.slice p m k):=by with_unfolding_all exact rfl):cE w ⟨g,o,none⟩ c:=eu h hv hc
theorem td{x:Value}{c:Value→Prop}(h:St w0 w L)[a:At L (ax g) cs f](hc:c x)(hv:cs[o+n]?=some x:=by with_unfolding_all exact rfl):sX w (aX ⟨g,o,none⟩ n) c:=aV h hv hc
theorem MD{x:Value}{c:Value→Prop}(h:St w0 w L)[a:At L (ax g) cs f](hc:c x)(hv:cs[o]?=some x:=by with_unfolding_all exact rfl):sX w ⟨g,o,none⟩ c:=Ir h hv hc
theorem La{x:ByteArray}{c:ByteArray→Prop}(h:St w0 w L)[a:At L (ax g) cs f](hc:c x)(hv:cs[o+n]?=some (.string x):=by with_unfolding_all exact rfl):PV w (aX ⟨g,o,none⟩ n) c:=aT h hv hc
theorem OC{x:ByteArray}{c:ByteArray→Prop}(h:St w0 w L)[a:At L (ax g) cs f](hc:c x)(hv:cs[o]?=some (.string x):=by with_unfolding_all exact rfl):PV w ⟨g,o,none⟩ c:=ahe h hv hc
theorem pi{m:Nat}{c:Array Value→Prop}(h:St w0 w L)[a:At L (ax g) cs f](hc:c ((cs.drop (o+n)).take m).toArray)(hl:Nat.ble (o+n+m) cs.length=true:=by with_unfolding_all exact rfl):bG m w (aX ⟨g,o,none⟩ n) c:=bA h hl hc
theorem pn{m:Nat}{c:Array Value→Prop}(h:St w0 w L)[a:At L (ax g) cs f](hc:c ((cs.drop o).take m).toArray)(hl:Nat.ble (o+m) cs.length=true:=by with_unfolding_all exact rfl):bG m w ⟨g,o,none⟩ c:=bA0 h hl hc
theorem eL{v:Value}{c:aq}(h:St w0 w L)[a:At L (ax g) cs f](hc:∀w',St w0 w' (f (ax g (cs.set (o+n) v)))→c w')(h1:v.oneCell'=true:=by first|assumption|with_unfolding_all exact rfl)(ho:Nat.ble (o+n+1) cs.length=true:=by with_unfolding_all exact rfl):bJ w (aX ⟨g,o,none⟩ n) v c:=bC h h1 ho hc
theorem xB{v:Value}{c:aq}(h:St w0 w L)[a:At L (ax g) cs f](hc:∀w',St w0 w' (f (ax g (cs.set o v)))→c w')(h1:v.oneCell'=true:=by first|assumption|with_unfolding_all exact rfl)(ho:Nat.ble (o+1) cs.length=true:=by with_unfolding_all exact rfl):bJ w ⟨g,o,none⟩ v c:=bC0 h h1 ho hc
theorem HV{m:Nat}{vs:Array Value}{c:aq}(h:St w0 w L)[a:At L (ax g) cs f](hc:∀w',St w0 w' (f (ax g (cs.take (o+n)++(vs.toList++cs.drop (o+n+m)))))→c w')(hn:vs.size=m:=by with_unfolding_all exact rfl)(hl:Nat.ble (o+n+m) cs.length=true:=by with_unfolding_all exact rfl)(h1:vs.toList.all Value.oneCell'=true:=by with_unfolding_all exact rfl):dK m w (aX ⟨g,o,none⟩ n) vs c:=bW h hn hl h1 hc
theorem qX{m:Nat}{vs:Array Value}{c:aq}(h:St w0 w L)[a:At L (ax g) cs f](hc:∀w',St w0 w' (f (ax g vs.toList))→c w')(hn:vs.size=m:=by with_unfolding_all exact rfl)(hl:cs.length=m:=by with_unfolding_all exact rfl)(h1:vs.toList.all Value.oneCell'=true:=by with_unfolding_all exact rfl):dK m w ⟨g,0,none⟩ vs c:=bW0 h hn hl h1 hc
theorem kr{w0' w':World}{L':List HP}{f':HP→List HP}{cs':List Value}{m:Nat}{c:Prop}(h':St w0' w' L')(hc:c)(h:St w0 w L:=by assumption)[a:At L (ax g) cs f][a':At L' (ax g) cs' f'](e:(cs.drop (o+n)).take m=(cs'.drop (o+n)).take m:=by with_unfolding_all exact rfl):ai m (aX ⟨g,o,none⟩ n) w w' c:=asq h h' e hc
theorem po{w0' w':World}{L':List HP}{f':HP→List HP}{cs':List Value}{m:Nat}{c:Prop}(h':St w0' w' L')(hc:c)(h:St w0 w L:=by assumption)[a:At L (ax g) cs f][a':At L' (ax g) cs' f'](e:(cs.drop o).take m=(cs'.drop o).take m:=by with_unfolding_all exact rfl):ai m ⟨g,o,none⟩ w w' c:=sq h h' e hc
theorem ij{b:Bool}{x y:Prop}(h:y)(hb:b=false:=by with_unfolding_all exact rfl):ap b x y:=bp hb h
theorem qx{b:Bool}{x y:Prop}(h:x)(hb:b=true:=by with_unfolding_all exact rfl):ap b x y:=bH hb h
theorem Jf{v:Value}{c:Prop}(hc:c)(h1:v.oneCell'=true:=by first|assumption|with_unfolding_all exact rfl):rF v c:=aab h1 hc
end
theorem abl{A:Type}{sz:Nat}:∀{es:List (List A)},(∀e∈es,e.length=sz)→es.flatten.length=es.length*sz
 |[],_=>by simp
 |e::es,h=>by
  have:=abl (es:=es) λx hx=>h x (by simp[hx])
  have he:=h e bh;simp only[List.flatten_cons,tW,List.length_cons,Nat.add_mul,Nat.one_mul];omega
theorem abm{A:Type}{sz:Nat}:∀{es:List (List A)},(∀e∈es,e.length=sz)→∀{i j:Nat} {e:List A},es[i]?=some e→j<sz→es.flatten[i*sz+j]?=e[j]?
 |[],_,i,j,e,he,_=>by simp at he
 |x::es,h,0,j,e,he,hj=>by
  have hx:=h x bh;simp at he;subst he;rw[List.flatten_cons,Nat.zero_mul,Nat.zero_add,sY ah]
 |x::es,h,i+1,j,e,he,hj=>by
  have hx:=h x bh;rw[List.flatten_cons,Nat.succ_mul,uK ah,hx];rw[show i*sz+sz+j - sz=i*sz+j by omega,abm (λy hy=>h y (by simp[hy])) (by simpa using he) hj]
theorem abn{A:Type}{sz:Nat}:∀{es:List (List A)},(∀e∈es,e.length=sz)→∀{i j:Nat} {e:List A} {v:A},es[i]?=some e→j<sz→es.flatten.set (i*sz+j) v=(es.set i (e.set j v)).flatten
 |[],_,i,j,e,v,he,_=>by simp at he
 |x::es,h,0,j,e,v,he,hj=>by
  have hx:=h x bh;simp at he;subst he;rw[List.flatten_cons,Nat.zero_mul,Nat.zero_add,List.set_append_left (h:=by omega)];rfl
 |x::es,h,i+1,j,e,v,he,hj=>by
  have hx:=h x bh;rw[List.flatten_cons,Nat.succ_mul,List.set_append_right (h:=by omega),hx]
  rw[show i*sz+sz+j - sz=i*sz+j by omega,abn (λy hy=>h y (by simp[hy])) (by simpa using he) hj];rfl
theorem abo{A:Type}{sz:Nat}:∀{es:List (List A)} (n:Nat),(∀e∈es,e.length=sz)→es.flatten.take (n*sz)=(es.take n).flatten
 |[],n,_=>by simp
 |e::es,0,_=>by simp
 |e::es,n+1,h=>by
  have he:=h e bh;rw[List.flatten_cons,List.take_append,List.take_of_length_le (by rw[he,Nat.succ_mul];omega),he,Nat.succ_mul,Nat.add_sub_cancel,List.take_succ_cons,List.flatten_cons,abo n λx hx=>h x (by simp[hx])]
def rws(sz:Nat)(s:Sl)(es:List (List Value)):HP:=Jy (∀e∈es,e.length=sz) (bQ sz s es.flatten)
section
variable {w0 w:World} {L:List HP} {sz:Nat} {s:Sl} {es:List (List Value)} {f:HP→List HP}
theorem Lb(a:At L (rws sz s) es f)(h:St w0 w L):∃R,(∀e∈es,e.length=sz)∧St w0 w (bQ sz s es.flatten::R)∧∀{es' w0' w'},(∀e∈es',e.length=sz)→St w0' w' (bQ sz s es'.flatten::R)→St w0' w' (f (rws sz s es')):=by
 obtain⟨R,h1,h2⟩:=a.out;obtain⟨hp,h3⟩:=(h1 h).pure;exact⟨R,hp,h3,λhp' h4=>h2 (St.pur hp' h4)⟩
theorem ad2(a:At L (rws sz s) es f)(h:St w0 w L):∃R,(∀e∈es,e.length=sz)∧St w0 w (bQ sz s es.flatten::R)∧∀{s' es' w0' w'},(∀e∈es',e.length=sz)→St w0' w' (bQ sz s' es'.flatten::R)→St w0' w' (f (rws sz s' es')):=by
 obtain⟨R,h1,h2⟩:=a.out;obtain⟨hp,h3⟩:=(h1 h).pure;exact⟨R,hp,h3,λhp' h4=>h2 (St.pur hp' h4)⟩
theorem tC(h:St w0 w L)[a:At L (rws sz s) es f]:(∀e∈es,e.length=sz)∧(0<sz→es.length=s.n):=by
 obtain⟨R,hp,h1,_⟩:=Lb a h;have:=h1.FR (sz:=sz) (s:=s) (vs:=es.flatten);rw[abl hp]at this;exact⟨hp,λhz=>Nat.eq_of_mul_eq_mul_right hz this⟩
theorem ixG{vs:List Value}{i:Int}{c:Addr→Prop}(h:St w0 w L)[a:At L (bQ sz s) vs f](hsz:0<sz)(h0:0≤i)(h1:i<s.n)
  (hc:∀g o,(∀{w':World} {L':List HP} {vs':List Value} {f':HP→List HP},St w0 w' L'→At L' (bQ sz s) vs' f'→∀j v,j<sz→vs'[i.toNat*sz+j]?=some v→w'.cell? ⟨g,o+j,none⟩=some v)→
   (∀{w':World} {L':List HP} {vs':List Value} {f':HP→List HP} (h':St w0 w' L') (a':At L' (bQ sz s) vs' f') (j:Nat) (v:Value) (c':aq),j<sz→v.oneCell'=true→
    (∀w'',St w0 w'' (f' (bQ sz s (vs'.set (i.toNat*sz+j) v)))→c' w'')→bJ w' ⟨g,o+j,none⟩ v c')→c ⟨g,o,none⟩):cW s i sz c:=by
 have ho:pY sz w s vs:=h.own;have hi:i.toNat<s.n:=ah;rcases ho.row with⟨h2,h3⟩|⟨g,off,cs,h2,h3,h4,h5⟩
 ·have:=ho.cap;omega
 ·unfold cW;rw[h2];refine⟨⟨h0,h1⟩,?_⟩;rw[c8];refine hc g _ ?_ ?_
  ·intro w' L' vs' f' h' a' j v hj hv;obtain⟨p,hp,py⟩:=(h'.own (sz:=sz) (s:=s) (vs:=vs')).sls.cell _ v hv;rw[h2]at hp;cases hp;rw[c8]at py;rw[Nat.add_assoc];exact py
  ·intro w' L' vs' f' h' a' j v c' hj ZG Ek;have y5:pY sz w' s vs':=h'.own;have hlt:i.toNat*sz+sz≤s.n*sz:=by
    rw[←Nat.succ_mul];exact Nat.mul_le_mul_right _ hi
   rcases y5.row with⟨h2',_⟩|⟨g',off',cs',h2',h3',h4',h5'⟩
   ·rw[h2]at h2';cases h2'
   ·rw[h2]at h2';cases h2';have GG:=y5.cap;have ayi:s.n*sz≤s.c*sz:=Nat.mul_le_mul_right _ GG;refine aaW ZG h3' ah λw'' hb hs FQ=>Ek w'' (h'.Mx a' λF1 hF=>⟨FQ.mono λk _ hk=>(hF.1 k).2 (by simp[Sl.ax,h2,hk]),F1,⟨hF.1,?_⟩,λk hk=> .inl hk⟩)
    refine⟨by rw[List.length_set];exact y5.len,y5.cap,y5.max,λx hx=> ?_,.inr ⟨g,off,_,h2,hb,by simpa using h4',λk u hk=> ?_⟩⟩
    ·rcases List.mem_or_eq_of_mem_set hx with hx|rfl
     ·exact y5.one x hx
     ·exact ZG
    ·by_cases ZE:i.toNat*sz+j=k
     ·subst ZE;have adV:i.toNat*sz+j<vs'.length:=by rw[y5.len];omega
      rw[uw adV]at hk;cases hk
      rw[show off+i.toNat*sz+j=off+(i.toNat*sz+j) by omega,Array.getElem?_setIfInBounds_self,if_pos (by rw[y5.len]at adV;omega)]
     ·rw[rG ZE]at hk;rw[Array.getElem?_setIfInBounds_ne ah];exact h5' k u hk
theorem rix{i:Int}{e:List Value}{c:Addr→Prop}(h:St w0 w L)[a:At L (rws sz s) es f](h0:0≤i)(he:es[i.toNat]?=some e)(hsz:0<sz)
  (hc:∀g o,(∀{w' L' es' f' e'},St w0 w' L'→[a':At L' (rws sz s) es' f']→es'[i.toNat]?=some e'→∀j v,e'[j]?=some v→w'.cell? ⟨g,o+j,none⟩=some v)→
   (∀{w':World} {L':List HP} {es':List (List Value)} {f':HP→List HP} {e':List Value} (h':St w0 w' L') (a':At L' (rws sz s) es' f') (he':es'[i.toNat]?=some e') (j:Nat) (v:Value) (c':aq),j<sz→v.oneCell'=true→
    (∀w'',St w0 w'' (f' (rws sz s (es'.set i.toNat (e'.set j v))))→c' w'')→bJ w' ⟨g,o+j,none⟩ v c')→c ⟨g,o,none⟩):cW s i sz c:=by
 obtain⟨R,hp,h1,_⟩:=Lb a h;have hl:=(tC (sz:=sz) (s:=s) (es:=es) h).2 hsz;have hlt:=(kO.1 he).1;refine ixG (sz:=sz) (s:=s) (vs:=es.flatten) h1 hsz h0 ah λg o hr hs=>hc g o ?_ ?_
 ·intro w' L' es' f' e' h' a' he' j v hv;obtain⟨R',hp',h1',_⟩:=Lb a' h';have hj:j<sz:=by rw[←hp' _ (r0 he')];exact(kO.1 hv).1
  exact hr h1' .here j v hj (by rw[abm hp' he' hj];exact hv)
 ·intro w' L' es' f' e' h' a' he' j v c' hj ZG Ek;obtain⟨R',hp',h1',hb'⟩:=Lb a' h';refine hs h1' .here j v c' hj ZG λw'' h''=>Ek w'' (hb' (λx hx=> ?_) ?_)
  ·rcases List.mem_or_eq_of_mem_set hx with hx|rfl
   ·exact hp' x hx
   ·rw[List.length_set];exact hp' _ (r0 he')
  ·rw[←abn hp' he' hj];exact h''
theorem avw{e:List Value}{i j:Nat}{v:Value}(h:St w0 w L)[a:At L (rws sz s) es f](he:es[i]?=some e)(hv:e[j]?=some v):j<sz∧0<sz:=by
 have:=(tC (sz:=sz) (s:=s) (es:=es) h).1 e (r0 he);have:=(kO.1 hv).1;omega
theorem rD{i:Int}{j:Nat}{e:List Value}{v:Value}{C:Value→Prop}{c:Addr→Prop}(h:St w0 w L)[a:At L (rws sz s) es f](h0:0≤i)(he:es[i.toNat]?=some e)(hv:e[j]?=some v)
  (hC:∀p,w.cell? (aX p j)=some v→c p):cW s i sz c:=by
 have hj:=avw (sz:=sz) (s:=s) h he hv;refine rix h h0 he hj.2 λg o hr _=>hC _ ?_;rw[c8];exact hr h he j v hv
theorem rI{i:Int}{j:Nat}{e:List Value}{k:IntKind}{x:Int}{c:Int→Prop}(h:St w0 w L)[a:At L (rws sz s) es f](h0:0≤i)(he:es[i.toNat]?=some e)(hv:e[j]?=some (.int k x))(hc:c x):cW s i sz λa=>aN k w (aX a j) c:=
 rD (C:=λ_=>True) h h0 he hv λp hp=>uJ hp hc
theorem rI2{i:Int}{j:Nat}{e:List Value}{k:IntKind}{x:Int}{c:Addr→Int→Prop}(h:St w0 w L)[a:At L (rws sz s) es f](h0:0≤i)(he:es[i.toNat]?=some e)(hv:e[j]?=some (.int k x))(hc:∀p,c p x):cW s i sz λa=>aN k w (aX a j) (c a):=
 rD (C:=λ_=>True) h h0 he hv λp hp=>uJ hp (hc p)
theorem rB{i:Int}{j:Nat}{e:List Value}{x:Bool}{c:Bool→Prop}(h:St w0 w L)[a:At L (rws sz s) es f](h0:0≤i)(he:es[i.toNat]?=some e)(hv:e[j]?=some (.bool x))(hc:c x):cW s i sz λa=>Ig w (aX a j) c:=
 rD (C:=λ_=>True) h h0 he hv λp hp=>ajy hp hc
theorem rS{i:Int}{j:Nat}{e:List Value}{p:Option Addr}{m k:Nat}{c:Sl→Prop}(h:St w0 w L)[a:At L (rws sz s) es f](h0:0≤i)(he:es[i.toNat]?=some e)(hv:e[j]?=some (.slice p m k))(hc:c ⟨p,m,k⟩):cW s i sz λa=>cE w (aX a j) c:=
 rD (C:=λ_=>True) h h0 he hv λq hp=>Kh (s:=⟨p,m,k⟩) hp hc
theorem rSt{i:Int}{j:Nat}{e:List Value}{v:Value}{c:aq}(h:St w0 w L)[a:At L (rws sz s) es f](h0:0≤i)(he:es[i.toNat]?=some e)(hj:j<sz)(h1:v.oneCell'=true)
  (hc:∀w',St w0 w' (f (rws sz s (es.set i.toNat (e.set j v))))→c w'):cW s i sz λa=>bJ w (aX a j) v c:=
 rix h h0 he ah λg o _ hs=>by rw[c8];exact hs h a he j v c hj h1 hc
theorem rW{i:Int}{e:List Value}{x:Array Value}{c:aq}(h:St w0 w L)[a:At L (rws sz s) es f](h0:0≤i)(he:es[i.toNat]?=some e)(hsz:0<sz)(hx:x.size=sz)(h1:∀v∈x,v.oneCell'=true)
  (hc:∀w',St w0 w' (f (rws sz s (es.set i.toNat x.toList)))→c w'):cW s i sz λa=>dK sz w a x c:=by
 refine rix h h0 he hsz λg o _ hs=>⟨hx,?_⟩;have key:∀(l:List Value) (w:World) (L:List HP) (es:List (List Value)) (f:HP→List HP) (h:St w0 w L) (a:At L (rws sz s) es f) (k:Nat) (e:List Value) (he:es[i.toNat]?=some e),k+l.length=sz→(∀v∈l,v.oneCell'=true)→
   (∀w',St w0 w' (f (rws sz s (es.set i.toNat (e.take k++l))))→c w')→Jm w ⟨g,o,none⟩ k l c:=by
  intro l;induction l with
  |nil=>
   intro w L es f h a k e he hk _ hc;refine hc w ?_;have hle:=(tC (sz:=sz) (s:=s) (es:=es) h).1 e (r0 he);simp only[List.length_nil]at hk;rw[List.append_nil,List.take_of_length_le ah];have:es.set i.toNat e=es:=by
    apply List.ext_getElem?;intro j;by_cases hj:i.toNat=j
    ·subst hj;rw[uw (kO.1 he).1,he]
    ·rw[rG hj]
   rw[this];exact h.same a
  |cons v l ih=>
   intro w L es f h a k e he hk h1 hc;simp only[List.length_cons]at hk;unfold Jm;rw[c8];obtain⟨R,ho,hb⟩:=a.out;refine hs (ho h) .here he k v _ ah (h1 v bh) λw2 h2=> ?_;have uM:(es.set i.toNat (e.set k v))[i.toNat]?=some (e.set k v):=uw (kO.1 he).1;refine ih w2 _ _ _ h2 .here (k+1) _ uM ah (λx hx=>h1 x (by simp[hx])) λw3 h3=>hc w3 (hb ?_)
   have hle:=(tC (sz:=sz) (s:=s) (es:=es) h).1 e (r0 he);have e1:(e.set k v).take (k+1)++l=e.take k++v::l:=by
    rw[List.take_add_one,uw ah,List.take_set_of_le ah];simp
   rw[List.set_set,e1]at h3;exact h3
 exact key x.toList w L es f h a 0 e he (by simpa using hx) (λv hv=>h1 v (by simpa using hv)) (by simpa using hc)
theorem rA{i:Int}{e:List Value}{c:Array Value→Prop}(h:St w0 w L)[a:At L (rws sz s) es f](h0:0≤i)(he:es[i.toNat]?=some e)(hsz:0<sz)(hc:c e.toArray):cW s i sz λa=>bG sz w a c:=by
 refine rix h h0 he hsz λg o hr _=> ?_;refine GK ((tC (sz:=sz) (s:=s) (es:=es) h).1 e (r0 he)) (λj v hv=> ?_) hc;rw[c8];exact hr h he j v hv
theorem ad3{P:Program}{t tx ty:TypeId}{b g:Nat}{z:Value}{e:List Value}{c:Sl→aq}{fr:HP→List HP}(h:St w0 w L)[a:At L (rws sz s) es f][a2:At L (ax g) e fr](ht:GI P t sz b z)(hk:adW P tx=true)
  (hl:e.length=sz) (hsz:0<sz) (h1:∀v∈e,v.oneCell'=true) (hn:es.length≤1000000) (hb:b≤1000000)
  (hc:∀s' w',St w0 w' (f (rws sz s' (es++[e])))→s'.n=es.length+1→c s' w'):oh P #[t,tx] ty [.slice s.a s.n s.c,.slice (some ⟨g,0,none⟩) 1 1] w c:=by
 obtain⟨R,hp,h2,hb'⟩:=ad2 a h;have hle:=(tC (sz:=sz) (s:=s) (es:=es) h).2 hsz;have hm:(s.n+1)*b≤1000001*1000000:=Nat.mul_le_mul ah hb;refine Sk (sz:=sz) (s:=s) (vs:=es.flatten) (x:=⟨some ⟨g,0,none⟩,1,1⟩) (ys:=e) h2 ht hk (GH.alV h ah) h1 (by simp only;omega) (by simp only;omega) λs' w' h3 hn'=>hc s' w' (hb' (λx hx=> ?_) ?_) (by simp only at hn';omega)
 ·rcases B0.1 hx with hx|hx
  ·exact hp x hx
  ·simp at hx;subst hx;exact hl
 ·rw[List.flatten_append];simpa using h3
theorem aBJ{hi:Int}{c:Sl→Prop}(h:St w0 w L)[a:At L (rws sz s) es f](hsz:0<sz)(h1:0≤hi)(h2:hi≤es.length)
  (hc:∀d:Sl,d.n=hi.toNat→St w0 w (f (rws sz d (es.take hi.toNat)))→c d):SG s sz 0 hi c:=by
 obtain⟨R,hp,h3,hb⟩:=ad2 a h;have hle:=(tC (sz:=sz) (s:=s) (es:=es) h).2 hsz;refine ajF (sz:=sz) (s:=s) (vs:=es.flatten) h3 (Int.le_refl _) h1 ah λd hd h4=>hc d (by simpa using hd) (hb (λe he=>hp e (List.mem_of_mem_take he)) ?_)
 simp only[Int.toNat_zero,Nat.zero_mul,List.drop_zero,Nat.sub_zero]at h4;rwa[abo _ hp]at h4
end
section
variable {w0 w:World} {L:List HP} {s:Sl} {vs:List Value} {f:HP→List HP}
theorem vD{i:Int}{v:Value}{c:Addr→Prop}(h:St w0 w L)[a:At L (bQ 1 s) vs f](h0:0≤i)(hv:vs[i.toNat]?=some v)(hC:∀p,w.cell? p=some v→c p):cW s i 1 c:=by
 have hl:=h.FR (sz:=1) (s:=s) (vs:=vs);have hlt:=(kO.1 hv).1;refine Kj h ah h0 ah λg o _ hr _=>hC _ ?_;have:=hr h 0 v ah (by simpa using hv)
 simpa using this
theorem vI{i:Int}{k:IntKind}{x:Int}{c:Int→Prop}(h:St w0 w L)[a:At L (bQ 1 s) vs f](h0:0≤i)(hv:vs[i.toNat]?=some (.int k x))(hc:c x):cW s i 1 λa=>aN k w a c:=vD h h0 hv λp hp=>uJ hp hc
theorem vP{i:Int}{x:Option Addr}{c:Option Addr→Prop}(h:St w0 w L)[a:At L (bQ 1 s) vs f](h0:0≤i)(hv:vs[i.toNat]?=some (.pointer x))(hc:c x):cW s i 1 λa=>aR w a c:=vD h h0 hv λp hp=>apV hp hc
theorem vV{i:Int}{x:Value}{c:Value→Prop}(h:St w0 w L)[a:At L (bQ 1 s) vs f](h0:0≤i)(hv:vs[i.toNat]?=some x)(hc:c x):cW s i 1 λa=>sX w a c:=vD h h0 hv λp hp=>ajB hp hc
theorem Ld{P:Program}{t tx ty:TypeId}{b g:Nat}{z v:Value}{c:Sl→aq}{fr:HP→List HP}(h:St w0 w L)[a:At L (bQ 1 s) vs f][a2:At L (ax g) [v] fr](ht:GI P t 1 b z)(hk:adW P tx=true)
  (h1:v.oneCell'=true) (hn:vs.length≤1000000) (hb:b≤1000000)
  (hc:∀s' w',St w0 w' (f (bQ 1 s' (vs++[v])))→s'.n=vs.length+1→c s' w'):oh P #[t,tx] ty [.slice s.a s.n s.c,.slice (some ⟨g,0,none⟩) 1 1] w c:=by
 have hl:=h.FR (sz:=1) (s:=s) (vs:=vs);have hm:(s.n+1)*b≤1000001*1000000:=Nat.mul_le_mul ah hb;exact Sk (sz:=1) (s:=s) (vs:=vs) (x:=⟨some ⟨g,0,none⟩,1,1⟩) (ys:=[v]) h ht hk (GH.alV h bh) (by simpa using h1) (by simp only;omega) (by simp only;omega) λs' w' h3 hn'=>hc s' w' h3 (by simp only at hn';omega)
theorem al0{hi:Int}{c:Sl→Prop}(h:St w0 w L)[a:At L (bQ 1 s) vs f](h1:0≤hi)(h2:hi≤vs.length)
  (hc:∀d:Sl,d.n=hi.toNat→St w0 w (f (bQ 1 d (vs.take hi.toNat)))→c d):SG s 1 0 hi c:=by
 have hl:=h.FR (sz:=1) (s:=s) (vs:=vs);refine ajF (sz:=1) (s:=s) (vs:=vs) h (Int.le_refl _) h1 ah λd hd h4=>hc d (by simpa using hd) ?_
 simpa using h4
theorem uN(h:St w0 w L)[a:At L (bQ 1 s) vs f]:s.n=vs.length:=by
 have:=h.FR (sz:=1) (s:=s) (vs:=vs);omega
end
def lP{α:Type}(X:α→HP)(l:List α):HP:=mr (l.map X)
section
variable {α:Type} {X:α→HP} {l:List α} {w0 w:World} {R:List HP}
theorem St.azl{Y:HP}{A:List HP}(h:St w0 w (Y::(A++R))):St w0 w (Y::mr A::R):=by
 obtain⟨h1,F,⟨F1,F2,h2,h4,h5,e⟩,h3⟩:=h;exact⟨h1,F,⟨F1,F2,h2,ze.2 h4,h5,e⟩,h3⟩
theorem St.aqd{Y:HP}{A:List HP}(h:St w0 w (Y::mr A::R)):St w0 w (Y::(A++R)):=by
 obtain⟨h1,F,⟨F1,F2,h2,h4,h5,e⟩,h3⟩:=h;exact⟨h1,F,⟨F1,F2,h2,ze.1 h4,h5,e⟩,h3⟩
theorem Iz{i:Nat}{a:α}(h:St w0 w (lP X l::R))(e:l[i]?=some a):St w0 w (X a::lP X (l.eraseIdx i)::R):=by
 have hlt:=(kO.1 e).1;have h2:=(St.open h).front i (X:=X a) (by rw[sY (by simpa using hlt),pB,e];rfl)
 rw[List.eraseIdx_append_of_lt_length (by simpa using hlt)]at h2
 refine St.azl ?_;have e2:(l.map X).eraseIdx i=(l.eraseIdx i).map X:=by rw[List.eraseIdx_eq_take_drop_succ,List.eraseIdx_eq_take_drop_succ];simp
 rwa[e2]at h2
theorem aac{i:Nat}{b:α}(h:St w0 w (X b::lP X (l.eraseIdx i)::R))(hi:i<l.length):St w0 w (lP X (l.set i b)::R):=by
 have h2:=St.aqd h;refine St.shut (h2.perm ?_);have e1:l.eraseIdx i=l.take i++l.drop (i+1):=List.eraseIdx_eq_take_drop_succ ..;have e2:l.set i b=l.take i++b::l.drop (i+1):=List.set_eq_take_append_cons_drop .. |>.trans (by rw[if_pos hi])
 rw[e1,e2];simp only[List.map_append,List.map_cons,List.append_assoc,List.cons_append];exact List.perm_middle.symm
theorem V9{b:α}(h:St w0 w (X b::lP X l::R)):St w0 w (lP X (l++[b])::R):=by
 refine St.shut ((St.aqd h).perm ?_);simp only[List.map_append,List.map_cons,List.map_nil,List.append_assoc,List.cons_append,List.nil_append];exact List.perm_middle.symm
theorem Wa(h:St w0 w R):St w0 w (lP X []::R):=St.shut (A:=[]) h
end
theorem St.under{w0 w:World}{Y:HP}{A B:List HP}(hAB:∀{F w},uL A F w→uL B F w)(h:St w0 w (Y::A)):St w0 w (Y::B):=by
 obtain⟨h1,F,⟨F1,F2,h2,h4,h5,e⟩,h3⟩:=h;exact⟨h1,F,⟨F1,F2,h2,hAB h4,h5,e⟩,h3⟩
theorem St.aqe{w0 w:World}{A B:List HP}(hAB:∀{F w},uL A F w→uL B F w)(h:St w0 w A):St w0 w B:=by
 obtain⟨h1,F,h2,h3⟩:=h;exact⟨h1,F,hAB h2,h3⟩
theorem Qn{G S:Type}{f:(S→aq)→S→aq}(I:G→S→aq)(μ:G→Nat){g:G}{s:S}{w:World}(h0:I g s w)
  (h:∀g s w,I g s w→∀C:S→aq,(∀g' s' w',I g' s' w'→μ g'<μ g→C s' w')→f C s w):jO f s w:=by
 have key:∀n g s w,μ g≤n→I g s w→jF f (n+1) s w:=by
  intro n;induction n with
  |zero=>intro g s w hn hI;exact h g s w hI _ λg' s' w' _ hlt=>by omega
  |succ n ih=>intro g s w hn hI;exact h g s w hI _ λg' s' w' hI' hlt=>ih g' s' w' ah hI'
 exact⟨_,key _ g s w (iN _) h0⟩
end Go.Ev
namespace Go.Ev
open Go
section
variable {P:Program}
def exN:Ex→Bool| .normal=>true|_=>false
theorem Qo{bZ:eb}{mask:Nat}{ro:Option Nat}{n0:Nat}{q:Ut}(hm:P.follows .mixedOrders=true)(ho:sZ P bZ q){c:Code}:∀(pre:List AC) (e:Env) (w:World) (a:Act) (k:Ex→Env→aq) (Q:Exit→Act→aq),
  (∀ch a' w',a'.defers=a.defers→q ch w'→Q (.panic ch) a' w')→Sub e a→(pre.all λx=>x.fits a.tmps.size)=true→VJ P bZ mask pre e w k→
  (∀x e' w' a',exN x=false→k x e' w'→Sub e' a'→a'.defers=a.defers→Q (apP x) a' w')→
  (∀e' w' a',k .normal e' w'→Sub e' a'→a'.tmps.size=a.tmps.size→a'.defers=a.defers→c.wpIn (uG ro) n0 P Q a' w')→(spine pre c).wpIn (uG ro) n0 P Q a w
 |[],e,w,a,k,Q,hq,hs,_,h,_,hN=>hN e w a h hs rfl rfl
 |x::pre,e,w,a,k,Q,hq,hs,hf,h,hX,hN=>by
  unfold VJ at h;simp only[List.all_cons,iW]at hf;unfold spine;refine wpIn_seq (q6 hm ho x e w a _ _ (by exact λch a' w' hd h=>hq ch a' w' hd.2.1 h) hs hf.1 h λz e' w' a' hk hs' hkp=> ?_)
  cases z with
  |normal=>
   exact Qo hm ho pre e' w' a' k Q (λch a2 w2 hd h=>hq ch a2 w2 (hd.trans hkp.2.1) h) hs' (by rw[hkp.1];exact hf.2) hk
    (λz e2 w2 a2 hz h1 h2 h3=>hX z e2 w2 a2 hz h1 h2 (h3.trans hkp.2.1)) λe2 w2 a2 h1 h2 h3 h4=>hN e2 w2 a2 h1 h2 (h3.trans hkp.1) (h4.trans hkp.2.1)
  |exit id=>exact hX (.exit id) e' w' a' rfl hk hs' hkp.2.1
  |ret=>exact hX .ret e' w' a' rfl hk hs' hkp.2.1
theorem Wb{fn:Func}{e:Env}{w:World}{a:Act}{tU:List K}{c:KT tU→aq}(hs:Sub e a)(h:Jr P fn.results.toList e w λl=>qG tU l λx=>c x w):
  ∃x,(results fn a.tmps).run P w= .ok (eW (dz tU x)) w∧c x w:=by
 obtain⟨l,hc,hrun⟩:=Si hs h;obtain⟨y,rfl,Ek⟩:=zb hc;refine⟨y,?_,Ek⟩;have he:results fn a.tmps=(do
   let vs←fn.results.mapM (Qe a);pure (if h:vs.size=1 then vs[0]else .tuple vs)):=by
  have hfun:(λx=>(match x with| .tmp t=>pure (a.tmps.getD t undef)| .cell p t=>do loadVar t (←asAddr (a.tmps.getD p undef)):Sem Value))=Qe a:=by
   funext r;cases r<;>rfl
  unfold results;rw[←hfun];rfl
 rw[he,Array.mapM_eq_mapM_toList];simp only[cQ,Sem.run_map,hrun,cJ,cO];rw[aaV]
structure avx (mk df:Oper) (d:Nat) (g:FuncId) (aay:List Operand):Prop where
 mko:mk.op= .makeFunc (.func g) #[] aay.toArray
 mkd:mk.dst=some d
 mkg:mk.guard=none
 dfo:df.op= .defer {callee:= .value (.tmp d),args:=#[],argTypes:=#[]}
 dfd:df.dst=none
 dfg:df.guard=none
def DR(P:Program)(g:FuncId)(dR:List Value→World→(aq)→Prop):Prop:=
 ∀l w k,dR l w k→(∃fn,P.funcs[g]?=some fn∧fn.body.isSome=true∧(fn.name== "runtime.NumGoroutine")=false)∧CallsD P g l.toArray .returning w fun e u w'=>(∃v,e= .returned v)∧u= .returning∧k w'
def DP(P:Program)(g:FuncId)(dP:List Value→Value→World→(aq)→Prop):Prop:=
 ∀l v w k,dP l v w k→(∃fn,P.funcs[g]?=some fn∧fn.body.isSome=true∧(fn.name== "runtime.NumGoroutine")=false)∧CallsD P g l.toArray (.panicking [{v:=v,recovered:=false}]) w fun e u w'=>(∃v,e= .returned v)∧settle u= .returning∧k w'
theorem aqf{f:FuncId}{fn:Func}{mask:Nat}{bZ:eb}{alG:(Value→aq)→eb}{dR:List Value→World→(aq)→Prop}{dP:List Value→Value→World→(aq)→Prop}
  {pre:List AC} {rid d:Nat} {g:FuncId} {aay:List Operand} {mk df:Oper} {post:AC} (hm:P.follows .mixedOrders=true) (hf:P.funcs[f]?=some fn)
  (hbody:fn.body=some (spine pre (.seq (.region rid #[mk,df] false) post.code))) (ad4:avx mk df d g aay) (hname:(fn.name== "runtime.NumGoroutine")=false)
  (hfit:((pre.all fun x=>x.fits fn.ntmps)&&post.fits fn.ntmps&&Nat.blt d fn.ntmps)=true)
  (ho:sZ P bZ P7) (hq:∀q,sZ P (alG q) (alQ q)) (hR:DR P g dR) (hP:DP P g dP) (pX tU:List K) (hle:Nat.ble pX.length fn.ntmps=true)
  (F:KT pX→World→(KT tU→aq)→Prop) (hl:∀x w c,ajl P bZ alG dR dP mask pre d g aay post fn tU (dz pX x) w c=F x w c):
  uI P f fun args w c=>qG pX args fun x=>F x w fun r w=>c (eW (dz tU r)) w:=by
 refine⟨⟨fn,hf,by rw[hbody];rfl,hname⟩,fun args w c hd=> ?_⟩
 obtain⟨x,hx,hF⟩:=zb hd;have hlen:(dz pX x).length=pX.length:=by
  have:∀(ks:List K) (x:KT ks),(dz ks x).length=ks.length:=by
   intro ks;induction ks with
   |nil=>intro x;rfl
   |cons k r ih=>
    intro x;cases r with
    |nil=>rfl
    |cons y r=>show(dz (y::r) x.2).length+1=_;rw[ih];rfl
  exact this pX x
 rw[←hl]at hF;unfold ajl at hF;have hle:=Nat.le_of_ble_eq_true hle;have hsz:args.size≤fn.ntmps:=by
  have:args.toList.length=pX.length:=by rw[hx,hlen]
  rw[Array.length_toList]at this;omega
 simp only[Bool.and_eq_true]at hfit;obtain⟨⟨azn,azo⟩,azp⟩:=hfit;have aBL:d<fn.ntmps:=by simpa[Nat.blt_eq]using azp
 refine calls_of_wp_defers hf hbody ?_;have alX:(args++Array.replicate (fn.ntmps - args.size) undef).size=fn.ntmps:=by simp;omega
 have hsub:Sub (CX 0 (dz pX x)) {tmps:=args++Array.replicate (fn.ntmps - args.size) undef,defers:=[]}:=by
  refine Im _ 0 _ fun i v hv=> ?_;rw[←hx]at hv;have FO:args[i]?=some v:=by simpa using hv
  have hi:i<args.size:=(Array.getElem?_eq_some_iff.1 FO).1;simp only[Nat.zero_add];rw[Array.getElem?_append_left hi];exact FO
 refine wpIn_wide.1 (Qo (ro:=none) (n0:=0) (mask:=mask) hm ho pre _ w _ _ _ (fun _ _ _ _ h=>h.elim) hsub (by rw[alX];exact azn) hF (fun z e' w' a' hz hk hs' ol=> ?_) fun e' w' a' hk hs' aBM ol=> ?_)
 ·have VY:a'.defers=[]:=ol;have fin:(Jr P fn.results.toList e' w' fun l=>qG tU l fun x=>c (eW (dz tU x)) w')→Leaves P fn a'.tmps (fun e w'=> ∃v,e= .returned v∧c v w') a'.defers .returning w':=by
   intro hr;obtain⟨y,hrun,hc⟩:=Wb (c:=fun x w=>c (eW (dz tU x)) w) hs' hr;rw[VY];exact⟨_,hrun,_,rfl,hc⟩
  cases z with
  |normal=>cases hz
  |ret=>exact fin hk
  |exit id=>exact hk.elim
 ·have VY:a'.defers=[]:=ol;have ayk:a'.tmps.size=fn.ntmps:=by rw[aBM,alX]
  dsimp only at hk;split at hk
  ·rename_i l azq;rw[kF]at hk;have py:=tr (pU hs') azq;refine wpIn_seq (wpIn_region_list ?_);unfold wpListIn;rw[if_pos (Aq ad4.mkg _)];have ad5:aay.toArray.map a'.eval=l.toArray:=py;have hv:(execOp a'.eval mk).run P w'= .ok (.value (.func (.func g) #[] l.toArray)) w':=by
    have h0:(#[]:Array Operand).map a'.eval=#[]:=by simp
    simp only[execOp,ad4.mko,Instr.makeFunc,ad5,h0,Sem.run_bind,Sem.run_pure,Result.andThen_ok]
   refine jq hv ?_;have ol:d<a'.tmps.size:=by rw[ayk];exact aBL
   have abe:Sub (e'.put d (.func (.func g) #[] l.toArray)) (a'.put mk.dst (.func (.func g) #[] l.toArray)):=by
    rw[ad4.mkd];exact za (d:=some d) (v:= .func (.func g) #[] l.toArray) hs' (fun x hx=>by cases hx;exact ol)
   have hev:(a'.put mk.dst (.func (.func g) #[] l.toArray)).eval (.tmp d)= .func (.func g) #[] l.toArray:=by
    refine pU abe (.tmp d) _ ?_;simp[Env.op,Env.put,Env.find]
   generalize ha2:a'.put mk.dst (.func (.func g) #[] l.toArray)=a2 at*
   have hd2:a2.defers=[]:=by rw[←ha2,put_defers];exact VY
   have aBO:a2.tmps.size=fn.ntmps:=by rw[←ha2,E2];exact ayk
   unfold wpListIn;rw[if_pos (Aq ad4.dfg _)];refine⟨fun f _=>Ju none f,?_⟩;have hrun:(df.semAt (uG none).round a2.eval).run P w'= .ok (.defer {target:= .fn (.func g) l.toArray,args:=#[]}) w':=by
    show(execOp a2.eval df).run P w'=_;have h0:(#[]:Array Operand).map a2.eval=#[]:=by simp
    simp only[execOp,ad4.dfo,resolve,h0,hev,Deferred.ofValue,Sem.run_bind,Sem.run_pure,Result.andThen_ok];rfl
   rw[hrun];simp only[Oper.uponIn,ad4.dfd,Act.put,hd2];unfold wpListIn;show post.code.wpIn _ _ _ _ _ _;have res:∀{e3 w3} {a3:Act},Sub e3 a3→(Jr P fn.results.toList e3 w3 fun l=>qG tU l fun x=>c (eW (dz tU x)) w3)→Leaves P fn a3.tmps (fun e w'=> ∃v,e= .returned v∧c v w') [] .returning w3:=by
    intro e3 w3 a3 UD hr;obtain⟨y,hrun,hc⟩:=Wb (c:=fun x w=>c (eW (dz tU x)) w) UD hr;exact⟨_,hrun,_,rfl,hc⟩
   have hinv:∀w3,(∃fn,P.funcs[g]?=some fn∧fn.body.isSome=true∧(fn.name== "runtime.NumGoroutine")=false)→(invoke (.fn (.func g) l.toArray) #[]).run P w3= .ok (.enter g l.toArray) w3:=by
    intro w3 hg;have:(#[]:Array Value)++l.toArray=l.toArray:=by simp
    simp only[invoke,this];exact FD hg
   refine q6 hm (hq _) post _ w' {tmps:=a2.tmps,defers:=[{target:= .fn (.func g) l.toArray,args:=#[]}]} _ _ (fun ch a3 w3 hk3 hp=> ?_) abe (by rw[aBO];exact azo) hk fun z e3 w3 a3 hk3 UD aBP=> ?_
   ·obtain⟨v,rfl,hdp⟩:=hp;obtain⟨hg,XO⟩:=hP _ _ _ _ hdp;show Leaves P fn a3.tmps _ a3.defers (.panicking [{v:=v,recovered:=false}]) w3;rw[hk3.2.1];refine⟨by simp,.func g,l.toArray,g,l.toArray,rfl,hinv _ hg,XO.mono fun e u w4 he=> ?_⟩
    obtain⟨⟨v',rfl⟩,hu,hr⟩:=he;dsimp only;rw[hu];have azr:Sub (e'.put d (.func (.func g) #[] l.toArray)) {tmps:=a2.tmps,defers:=[{target:= .fn (.func g) l.toArray,args:=#[]}]}:=abe;exact res (afe azr hk3) hr
   ·have fin:(dR l w3 fun w=>Jr P fn.results.toList e3 w fun l=>qG tU l fun x=>c (eW (dz tU x)) w)→Leaves P fn a3.tmps (fun e w'=> ∃v,e= .returned v∧c v w') a3.defers .returning w3:=by
     intro hdr;obtain⟨hg,XO⟩:=hR _ _ _ hdr;rw[aBP.2.1];refine⟨by simp,.func g,l.toArray,g,l.toArray,rfl,hinv _ hg,XO.mono fun e u w4 he=> ?_⟩
     obtain⟨⟨v',rfl⟩,hu,hr⟩:=he;dsimp only;rw[hu];exact res UD hr
    cases z with
    |normal=>exact fin hk3
    |ret=>exact fin hk3
    |exit id=>exact hk3.elim
  ·exact hk.elim
theorem avy{g:FuncId}{fn:Func}{mask:Nat}{bZ:eb}{c:AC}{n:Nat}(hm:P.follows .mixedOrders=true)(hf:P.funcs[g]?=some fn)(hb:fn.body=some c.code)(hname:(fn.name== "runtime.NumGoroutine")=false)
  (hres:fn.results=#[]) (hfit:c.fits fn.ntmps=true) (hle:Nat.ble n fn.ntmps=true) (ho:sZ P bZ P7):
  DR P g fun l w k=>l.length=n∧ajm P bZ mask c l w k:=fun l w k ⟨hl,h⟩=>by
 refine⟨⟨fn,hf,by rw[hb];rfl,hname⟩,?_⟩
 have hle:=Nat.le_of_ble_eq_true hle;have hsz:l.toArray.size≤fn.ntmps:=by simp;omega
 refine(callsD_of_wp (R:=fun e w'=>(∃v,e= .returned v)∧k w') hf hb ?_).mono fun e u w' ⟨h1,h2,h3⟩=>⟨h2,h1,h3⟩;refine wpIn_wide.1 (q6 (ro:=none) (n0:=0) (mask:=mask) hm ho c (CX 0 l) w _ _ _ (fun _ _ _ _ h=>h.elim) ?_ ?_ h fun z e' w' a' hk hs hkp=> ?_)
 ·refine Im _ 0 _ fun i v hv=> ?_;have hi:i<l.length:=(List.getElem?_eq_some_iff.1 hv).1;simp only[Nat.zero_add];rw[Array.getElem?_append_left (by simpa using hi)]
  simpa using hv
 ·have:(l.toArray++Array.replicate (fn.ntmps - l.toArray.size) undef).size=fn.ntmps:=by simp;omega
  rw[this];exact hfit
 ·have hr:(results fn a'.tmps).run P w'= .ok (.tuple #[]) w':=by
   unfold results;rw[hres];simp
  cases z with
  |normal=>exact⟨hkp.2.1,_,hr,⟨_,rfl⟩,hk⟩
  |ret=>exact⟨hkp.2.1,_,hr,⟨_,rfl⟩,hk⟩
  |exit id=>exact hk.elim
theorem avz{g:FuncId}{fn:Func}{mask:Nat}{h:sA}{bZ:eb}(hm:P.follows .mixedOrders=true)(hf:P.funcs[g]?=some fn)(ho:sZ P bZ P7)(pX:List K)
  (hok:VI h fn pX.length=true) (hres:fn.results=#[]) (F:KT pX→World→(Unit→aq)→Prop) (hl:∀x w c,Oa P bZ mask h fn [] (dz pX x) w c=F x w c):
  DR P g λl w k=>qG pX l λx=>F x w λ_ w=>k w:=by
 intro l w k hd;obtain⟨x,hx,hF⟩:=zb hd;have hF:Oa P bZ mask h fn [] (dz pX x) w (λ_ w=>k w):=by rw[hl x w λ_ w=>k w];exact hF
 unfold VI at hok;unfold Oa at hF;cases hb:fn.body with
 |none=>rw[hb]at hok;cases hok
 |some b=>
  rw[hb]at hok hF;simp only[iW,Bool.not_eq_true']at hok;have hlen:∀(ks:List K) (x:KT ks),(dz ks x).length=ks.length:=by
   intro ks;induction ks with
   |nil=>intro x;rfl
   |cons y r ih=>cases r with
    |nil=>intro x;rfl
    |cons z r=>intro x;exact congrArg (·+1) (ih x.2)
  refine avy (mask:=mask) (c:=(mU h b 0).1) (n:=pX.length) hm hf (by rw[hb,tA]) hok.2 hres hok.1.1 hok.1.2 ho l w k ⟨by rw[hx,hlen],?_⟩
  rw[hx];have e:ajm P bZ mask (mU h b 0).1 (dz pX x) w k=ev P bZ mask (mU h b 0).1 (CX 0 (dz pX x)) w (alF P fn.results.toList λl w=>qG [] l fun(_:Unit)=>k w):=by
   unfold ajm;congr 1;funext x e w;rw[hres];cases x<;>rfl
  rw[e];exact hF
end
end Go.Ev
namespace Go.Proofs.YthidhjhkmjjckaaGreatDoor
open Go Go.Ev Tryz
theorem mixed:Tryz.prog.follows .mixedOrders=true:=by kernel_rfl
abbrev Kl:Nat:=13
abbrev Ep:Nat:=20
abbrev Dc:Nat:=22
abbrev zh:Nat:=23
abbrev Wc:Nat:=26
abbrev Dd:Nat:=28
abbrev G7:Nat:=29
abbrev G8:Nat:=30
abbrev vC:Nat:=31
abbrev FV:Nat:=33
abbrev Qp:Nat:=35
abbrev E8:Nat:=37
abbrev Er:Nat:=40
abbrev Es:Nat:=43
abbrev De:Nat:=44
abbrev tD:Nat:=46
abbrev IA:Nat:=47
abbrev IB:Nat:=51
abbrev G9:Nat:=57
abbrev He:Nat:=58
abbrev JC:Nat:=59
abbrev Hf:Nat:=60
abbrev rH:Nat:=61
abbrev xd:Nat:=62
abbrev sP:Nat:=63
abbrev GN:Nat:=65
abbrev ME:Nat:=66
abbrev UE:Nat:=67
abbrev MF:Nat:=68
abbrev Qq:Nat:=69
abbrev mR:Nat:=70
abbrev lp:Nat:=71
abbrev nu:Nat:=72
abbrev xC:Nat:=73
abbrev Le:Nat:=74
abbrev xE:Nat:=75
abbrev IC:Nat:=76
abbrev sC:Nat:=78
abbrev qJ:Nat:=79
abbrev Hg:Nat:=80
abbrev JD:Nat:=81
abbrev ID:Nat:=82
abbrev Df:Nat:=83
abbrev IE:Nat:=86
abbrev Km:Nat:=91
abbrev Dg:Nat:=97
abbrev B4:Nat:=98
abbrev Dh:Nat:=99
abbrev mK:Nat:=100
abbrev tu:Nat:=101
abbrev nN:Nat:=102
abbrev nU:Nat:=103
abbrev JE:Nat:=108
abbrev Wd:Nat:=109
abbrev Zb:Nat:=110
abbrev We:Nat:=111
abbrev Wf:Nat:=112
abbrev Wg:Nat:=113
abbrev Hh:Nat:=114
abbrev fV:Nat:=115
abbrev vE:Nat:=116
abbrev B5:Nat:=117
abbrev AR:Nat:=118
abbrev AT:Nat:=119
abbrev Aw:Nat:=120
abbrev BN:Nat:=121
abbrev Qr:Nat:=122
abbrev JF:Nat:=123
abbrev nO:Nat:=124
abbrev zi:Nat:=125
abbrev Et:Nat:=126
abbrev UF:Nat:=127
abbrev rJ:Nat:=128
abbrev oK:Nat:=129
abbrev jC:Nat:=130
abbrev tE:Nat:=131
abbrev oL:Nat:=132
abbrev q8:Nat:=133
abbrev Hi:Nat:=134
abbrev TU:Nat:=135
abbrev FW:Nat:=139
abbrev Eu:Nat:=151
abbrev Di:Nat:=152
abbrev be:Nat:=153
abbrev AU:Nat:=154
abbrev iU:Nat:=155
abbrev iY:Nat:=156
abbrev iZ:Nat:=159
abbrev qi:Nat:=160
abbrev lz:Nat:=161
abbrev Dj:Nat:=162
abbrev uA:Nat:=163
abbrev my:Nat:=164
abbrev vF:Nat:=165
abbrev pC:Nat:=166
abbrev oN:Nat:=167
abbrev pZ:Nat:=168
abbrev vG:Nat:=169
abbrev j6:Nat:=170
abbrev om:Nat:=171
abbrev qj:Nat:=172
abbrev TV:Nat:=173
abbrev Oj:Nat:=174
abbrev jV:Nat:=175
abbrev nw:Nat:=176
abbrev Bt:Nat:=177
abbrev GO:Nat:=178
abbrev Kq:Nat:=179
abbrev nV:Nat:=180
abbrev pV:Nat:=181
abbrev nW:Nat:=182
abbrev ny:Nat:=183
abbrev yO:Nat:=184
abbrev zj:Nat:=185
abbrev qy:Nat:=186
abbrev tF:Nat:=187
abbrev iJ:Nat:=188
abbrev AV:Nat:=189
abbrev FX:Nat:=190
abbrev Ew:Nat:=191
abbrev Ey:Nat:=192
abbrev Ez:Nat:=193
abbrev fD:Nat:=199
abbrev mX:Nat:=200
abbrev ja:Nat:=209
abbrev Bu:Nat:=210
abbrev Hj:Nat:=211
abbrev kH:Nat:=212
abbrev nX:Nat:=213
abbrev lA:Nat:=214
abbrev lB:Nat:=215
abbrev Dk:Nat:=216
abbrev lC:Nat:=217
abbrev mb:Nat:=218
abbrev vH:Nat:=219
abbrev nA:Nat:=220
abbrev rK:Nat:=221
abbrev Lf:Nat:=222
abbrev Wh:Nat:=223
abbrev B6:Nat:=224
abbrev GP:Nat:=225
abbrev r4:Nat:=226
abbrev r5:Nat:=227
abbrev nY:Nat:=228
abbrev nZ:Nat:=229
abbrev n7:Nat:=230
abbrev n8:Nat:=231
abbrev n9:Nat:=232
abbrev oa:Nat:=233
abbrev MG:Nat:=234
abbrev Dl:Nat:=235
abbrev dH:Nat:=240
abbrev rL:Nat:=241
abbrev Dm:Nat:=242
abbrev mz:Nat:=243
abbrev Lg:Nat:=244
abbrev TW:Nat:=245
abbrev IF:Nat:=246
abbrev nB:Nat:=247
abbrev uO:Nat:=248
abbrev uP:Nat:=249
abbrev JG:Nat:=250
abbrev JH:Nat:=251
abbrev B7:Nat:=252
abbrev mY:Nat:=253
abbrev qK:Nat:=254
abbrev q9:Nat:=255
abbrev rM:Nat:=263
abbrev Ax:Nat:=264
abbrev ql:Nat:=265
abbrev sQ:Nat:=266
abbrev oO:Nat:=267
abbrev jT:Nat:=268
abbrev fW:Nat:=269
abbrev zk:Nat:=270
abbrev rN:Nat:=271
abbrev uQ:Nat:=272
abbrev E9:Nat:=273
abbrev uB:Nat:=274
abbrev JI:Nat:=275
abbrev ob:Nat:=276
abbrev rO:Nat:=277
abbrev yP:Nat:=282
abbrev sD:Nat:=283
abbrev IG:Nat:=284
abbrev kI:Nat:=285
abbrev tG:Nat:=286
abbrev kx:Nat:=287
abbrev zl:Nat:=288
abbrev bY:Nat:=289
abbrev pD:Nat:=290
abbrev oP:Nat:=291
abbrev qm:Nat:=292
abbrev Kr:Nat:=293
abbrev sj:Nat:=294
abbrev qL:Nat:=295
abbrev Zc:Nat:=296
abbrev JJ:Nat:=297
abbrev qM:Nat:=298
abbrev qN:Nat:=302
abbrev pW:Nat:=303
abbrev B8:Nat:=304
abbrev vJ:Nat:=305
abbrev jD:Nat:=306
abbrev kZ:Nat:=307
abbrev je:Nat:=308
abbrev k7:Nat:=309
abbrev kz:Nat:=310
abbrev jW:Nat:=311
abbrev k8:Nat:=312
abbrev iK:Nat:=313
abbrev oQ:Nat:=314
abbrev GQ:Nat:=315
abbrev rf:Nat:=316
abbrev JK:Nat:=317
abbrev qO:Nat:=318
abbrev rP:Nat:=323
abbrev AW:Nat:=324
abbrev FY:Nat:=325
abbrev nI:Nat:=326
abbrev tH:Nat:=327
abbrev ot:Nat:=328
abbrev zm:Nat:=329
abbrev gB:Nat:=330
abbrev mA:Nat:=331
abbrev vK:Nat:=332
abbrev mB:Nat:=333
abbrev oS:Nat:=334
abbrev lD:Nat:=335
abbrev k9:Nat:=336
abbrev sR:Nat:=337
abbrev qn:Nat:=338
abbrev tI:Nat:=339
abbrev lQ:Nat:=340
abbrev sE:Nat:=341
abbrev FZ:Nat:=343
abbrev nJ:Nat:=344
abbrev fE:Nat:=345
abbrev xF:Nat:=346
abbrev jX:Nat:=347
abbrev kJ:Nat:=348
abbrev Hl:Nat:=349
abbrev lE:Nat:=350
abbrev eJ:Nat:=351
abbrev ou:Nat:=352
abbrev qP:Nat:=353
abbrev mD:Nat:=354
abbrev II:Nat:=355
abbrev mZ:Nat:=356
abbrev pE:Nat:=357
abbrev F0:Nat:=359
abbrev m0:Nat:=360
abbrev lF:Nat:=361
abbrev kK:Nat:=362
abbrev Bv:Nat:=363
abbrev qa:Nat:=364
abbrev ov:Nat:=365
abbrev mE:Nat:=366
abbrev Dn:Nat:=367
abbrev oT:Nat:=368
abbrev jY:Nat:=369
abbrev oU:Nat:=370
abbrev lG:Nat:=371
abbrev Dp:Nat:=372
abbrev oc:Nat:=373
abbrev Bw:Nat:=374
abbrev m3:Nat:=375
abbrev ow:Nat:=376
abbrev mF:Nat:=377
abbrev IJ:Nat:=378
abbrev jf:Nat:=379
abbrev vL:Nat:=380
abbrev vM:Nat:=381
abbrev lH:Nat:=382
abbrev F5:Nat:=383
abbrev oV:Nat:=384
abbrev Dq:Nat:=385
abbrev Ho:Nat:=386
abbrev oW:Nat:=387
abbrev uR:Nat:=388
abbrev xH:Nat:=389
abbrev j7:Nat:=390
abbrev EA:Nat:=391
abbrev mG:Nat:=392
abbrev m4:Nat:=393
abbrev EB:Nat:=394
abbrev uS:Nat:=395
abbrev uT:Nat:=396
abbrev TX:Nat:=397
abbrev fG:Nat:=420
abbrev kP:Nat:=421
abbrev dm:Nat:=422
abbrev iw:Nat:=423
abbrev rh:Nat:=424
abbrev Iv(n:Int):Value:= .int .i64 n
abbrev SM:Array Value:=#[Iv 0,Iv 0,Iv 0]
abbrev zr4:Array Value:=#[Iv 0,Iv 0,Iv 0,Iv 0]
abbrev Jg:Array Value:=#[Iv 0,Iv 0,Iv 0,Iv 0,Iv 0]
abbrev zr6:Array Value:=#[Iv 0,Iv 0,Iv 0,Iv 0,Iv 0,Iv 0]
abbrev Ds:Array Value:=#[Iv 0,Iv 0,Iv 0,Iv 0,Iv 0,Iv 0,Iv 0,Iv 0,Iv 0,Iv 0,Iv 0,Iv 0,Iv 0,Iv 0,Iv 0,Iv 0,Iv 0,Iv 0,Iv 0]
abbrev ayl:Array Value:=#[Iv 0,Iv 0,Iv 0,Iv 0,Iv 0,Iv 0,Iv 0,Iv 0,Iv 0,Iv 0,Iv 0,Iv 0,Iv 0,Iv 0,Iv 0,Iv 0,Iv 0,Iv 0,Iv 0,Iv 0,Iv 0,Iv 0,Iv 0,Iv 0,Iv 0,Iv 0,Iv 0,Iv 0,Iv 0,Iv 0,Iv 0,Iv 0,Iv 0,Iv 0,Iv 0,Iv 0,Iv 0,Iv 0,Iv 0,Iv 0,Iv 0,Iv 0,Iv 0,Iv 0,Iv 0,Iv 0,Iv 0,Iv 0,Iv 0,Iv 0,Iv 0,Iv 0,Iv 0,Iv 0,Iv 0,Iv 0,Iv 0,Iv 0,Iv 0,Iv 0,Iv 0,Iv 0,Iv 0,Iv 0,Iv 0,Iv 0,Iv 0,Iv 0]
abbrev DD(A R:List K)(f:KT A→World→(KT R→aq)→Prop):bu:=λargs w c=>qG A args λx=>f x w λr w=>c (eW (dz R r)) w
abbrev E(A R:List K)(ds:List (Nat×bu))(m:Nat)(h:sA)(fn:Func)(x:KT A)(w:World)(k:KT R→aq):Prop:=Oa Tryz.prog (j4 ds) m h fn R (dz A x) w k
abbrev SS(n:Nat)(d:bu):Prop:=uI Tryz.prog n d
inductive AS:List (Nat×bu)→Prop
 |z:AS []
 |c {n:Nat} {d:bu} {l:List (Nat×bu)}:SS n d→AS l→AS ((n,d)::l)
theorem AS.all{l:List (Nat×bu)}(h:AS l):E3 Tryz.prog l:=by
 induction h with
 |z=>trivial
 |c h _ ih=>exact⟨h,ih⟩
theorem so{A R:List K}{m:Nat}{h:sA}{ds:List (Nat×bu)}{n:Nat}{fn:Func}{f:KT A→World→(KT R→aq)→Prop}(hf:Tryz.prog.funcs[n]?=some fn)(hs:AS ds)(e:E A R ds m h fn=f)(hok:VI h fn A.length=true:=by kernel_rfl):SS n (DD A R f):=
 adP mixed hf hs.all A R hok f λx w k=>congrFun (congrFun (congrFun e x) w) k
theorem sl{A R:List K}{n:Nat}{fn:Func}{f:KT A→World→(KT R→aq)→Prop}(m:Nat)(h:sA)(hf:Tryz.prog.funcs[n]?=some fn)(e:E A R [] m h fn=f:=by kernel_rfl)(hok:VI h fn A.length=true:=by kernel_rfl):SS n (DD A R f):=
 so hf .z e hok
abbrev T0:=Option Addr→World→(Unit→aq)→Prop
abbrev cg(f:T0):bu:=DD [.p] [] λx=>f x
abbrev T1:=Option Addr→Int→World→(Bool→aq)→Prop
abbrev qd(f:T1):bu:=DD [.p,.i .i64] [.b] λx=>f x.1 x.2
abbrev T2:=Array Value→World→(Bool→aq)→Prop
abbrev OD(f:T2):bu:=DD [.ag] [.b] λx=>f x
abbrev T3:=Option Addr→World→(Int→aq)→Prop
abbrev y6(f:T3):bu:=DD [.p] [.i .i64] λx=>f x
abbrev T4:=Option Addr→Option Addr→Int→World→((Int×Int)→aq)→Prop
abbrev lf(f:T4):bu:=DD [.p,.p,.i .i64] [.i .i64,.i .i64] λx=>f x.1 x.2.1 x.2.2
abbrev T5:=Option Addr→World→(Sl→aq)→Prop
abbrev OE(f:T5):bu:=DD [.p] [.s] λx=>f x
abbrev T6:=Option Addr→Option Addr→Int→World→(Int→aq)→Prop
abbrev qY(f:T6):bu:=DD [.p,.p,.i .i64] [.i .i64] λx=>f x.1 x.2.1 x.2.2
abbrev T7:=Array Value→World→(Int→aq)→Prop
abbrev xI(f:T7):bu:=DD [.ag] [.i .i64] λx=>f x
abbrev T8:=Option Addr→World→((Option Addr)→aq)→Prop
abbrev F6(f:T8):bu:=DD [.p] [.p] λx=>f x
abbrev T9:=Option Addr→Int→World→(Int→aq)→Prop
abbrev vt(f:T9):bu:=DD [.p,.i .i64] [.i .i64] λx=>f x.1 x.2
abbrev GR:=Option Addr→Int→Int→World→((Int×Int)→aq)→Prop
abbrev yQ(f:GR):bu:=DD [.p,.i .i64,.i .i64] [.i .i64,.i .i64] λx=>f x.1 x.2.1 x.2.2
abbrev ZI:=Array Value→World→((Option Addr)→aq)→Prop
abbrev JL(f:ZI):bu:=DD [.ag] [.p] λx=>f x
abbrev Wl:=Option Addr→World→(Bool→aq)→Prop
abbrev Lh(f:Wl):bu:=DD [.p] [.b] λx=>f x
abbrev T13:=Sl→Int→Int→World→(Unit→aq)→Prop
abbrev Dt(f:T13):bu:=DD [.s,.i .i64,.i .i64] [] λx=>f x.1 x.2.1 x.2.2
abbrev MH:=Option Addr→World→((Array Value)→aq)→Prop
abbrev EC(f:MH):bu:=DD [.p] [.ag] λx=>f x
abbrev ZJ:=Array Value→World→((Array Value)→aq)→Prop
abbrev Ol(f:ZJ):bu:=DD [.ag] [.ag] λx=>f x
abbrev T16:=Option Addr→Array Value→World→(Bool→aq)→Prop
abbrev aqg(f:T16):bu:=DD [.p,.ag] [.b] λx=>f x.1 x.2
abbrev T17:=Sl→World→(Int→aq)→Prop
abbrev IK(f:T17):bu:=DD [.s] [.i .i64] λx=>f x
abbrev UG:=Int→World→(Bool→aq)→Prop
abbrev AI(f:UG):bu:=DD [.i .i64] [.b] λx=>f x
abbrev SN:=Option Addr→Value→World→(Unit→aq)→Prop
abbrev ED(f:SN):bu:=DD [.p,.raw] [] λx=>f x.1 x.2
abbrev T20:=Option Addr→World→(Value→aq)→Prop
abbrev Hp(f:T20):bu:=DD [.p] [.raw] λx=>f x
abbrev Wm:=Option Addr→Int→Value→World→(Unit→aq)→Prop
abbrev Li(f:Wm):bu:=DD [.p,.i .i64,.raw] [] λx=>f x.1 x.2.1 x.2.2
abbrev T22:=Addr→World→(Unit→aq)→Prop
abbrev EE(f:T22):bu:=DD [.a] [] λx=>f x
abbrev T23:=Sl→Sl→World→(Bool→aq)→Prop
abbrev aym(f:T23):bu:=DD [.s,.s] [.b] λx=>f x.1 x.2
abbrev T24:=Value→Int→Int→World→(Bool→aq)→Prop
abbrev Qs(f:T24):bu:=DD [.raw,.i .i64,.i .i64] [.b] λx=>f x.1 x.2.1 x.2.2
abbrev UH:=Array Value→Option Addr→Int→World→((Int×Int)→aq)→Prop
abbrev IL(f:UH):bu:=DD [.ag,.p,.i .i64] [.i .i64,.i .i64] λx=>f x.1 x.2.1 x.2.2
abbrev T26:=Value→Int→World→(Unit→aq)→Prop
abbrev TY(f:T26):bu:=DD [.raw,.i .i64] [] λx=>f x.1 x.2
abbrev T27:=Int→Addr→World→(Unit→aq)→Prop
abbrev Hq(f:T27):bu:=DD [.i .i64,.a] [] λx=>f x.1 x.2
abbrev T28:=Option Addr→Int→World→(Unit→aq)→Prop
abbrev JM(f:T28):bu:=DD [.p,.i .i64] [] λx=>f x.1 x.2
abbrev T29:=Addr→Addr→World→(Unit→aq)→Prop
abbrev JN(f:T29):bu:=DD [.a,.a] [] λx=>f x.1 x.2
abbrev T30:=Array Value→Int→World→(Int→aq)→Prop
abbrev abp(f:T30):bu:=DD [.ag,.i .i64] [.i .i64] λx=>f x.1 x.2
abbrev T31:=Sl→Int→Int→World→(Bool→aq)→Prop
abbrev Wn(f:T31):bu:=DD [.s,.i .i64,.i .i64] [.b] λx=>f x.1 x.2.1 x.2.2
abbrev T32:=Addr→Addr→World→(Int→aq)→Prop
abbrev Om(f:T32):bu:=DD [.a,.a] [.i .i64] λx=>f x.1 x.2
abbrev T33:=Option Addr→Option Addr→Int→Int→Option Addr→Value→World→((Int×Int)→aq)→Prop
abbrev Wo(f:T33):bu:=DD [.p,.p,.i .i64,.i .i64,.p,.raw] [.i .i64,.i .i64] λx=>f x.1 x.2.1 x.2.2.1 x.2.2.2.1 x.2.2.2.2.1 x.2.2.2.2.2
abbrev ZK:=Array Value→Option Addr→Int→World→(Int→aq)→Prop
abbrev On(f:ZK):bu:=DD [.ag,.p,.i .i64] [.i .i64] λx=>f x.1 x.2.1 x.2.2
abbrev T35:=Option Addr→Sl→World→(Bool→aq)→Prop
abbrev Ua(f:T35):bu:=DD [.p,.s] [.b] λx=>f x.1 x.2
abbrev T36:=Option Addr→Int→Int→Int→World→((Int×Int)→aq)→Prop
abbrev Zd(f:T36):bu:=DD [.p,.i .i64,.i .i64,.i .i64] [.i .i64,.i .i64] λx=>f x.1 x.2.1 x.2.2.1 x.2.2.2
abbrev T37:=Array Value→Array Value→World→((Option Addr×Int)→aq)→Prop
abbrev ayn(f:T37):bu:=DD [.ag,.ag] [.p,.i .i64] λx=>f x.1 x.2
abbrev T38:=Int→Int→Int→World→(Int→aq)→Prop
abbrev ayo(f:T38):bu:=DD [.i .i64,.i .i64,.i .i64] [.i .i64] λx=>f x.1 x.2.1 x.2.2
abbrev T39:=Option Addr→Option Addr→Value→World→(Unit→aq)→Prop
abbrev abq(f:T39):bu:=DD [.p,.p,.raw] [] λx=>f x.1 x.2.1 x.2.2
abbrev T40:=Option Addr→Option Addr→Int→World→((Bool×Int)→aq)→Prop
abbrev Wp(f:T40):bu:=DD [.p,.p,.i .i64] [.b,.i .i64] λx=>f x.1 x.2.1 x.2.2
abbrev T41:=Option Addr→Int→Int→World→(Unit→aq)→Prop
abbrev abr(f:T41):bu:=DD [.p,.i .i64,.i .i64] [] λx=>f x.1 x.2.1 x.2.2
abbrev T42:=Option Addr→Int→Int→Int→Int→World→((Bool×Int)→aq)→Prop
abbrev abt(f:T42):bu:=DD [.p,.i .i64,.i .i64,.i .i64,.i .i64] [.b,.i .i64] λx=>f x.1 x.2.1 x.2.2.1 x.2.2.2.1 x.2.2.2.2
abbrev T43:=Option Addr→Int→Int→Int→World→(Int→aq)→Prop
abbrev abu(f:T43):bu:=DD [.p,.i .i64,.i .i64,.i .i64] [.i .i64] λx=>f x.1 x.2.1 x.2.2.1 x.2.2.2
abbrev T44:=Option Addr→Sl→World→(Unit→aq)→Prop
abbrev aqi(f:T44):bu:=DD [.p,.s] [] λx=>f x.1 x.2
abbrev T45:=Option Addr→Int→Int→Value→World→(Int→aq)→Prop
abbrev abv(f:T45):bu:=DD [.p,.i .i64,.i .i64,.raw] [.i .i64] λx=>f x.1 x.2.1 x.2.2.1 x.2.2.2
abbrev T46:=Option Addr→Option Addr→Int→Int→World→((Bool×Int)→aq)→Prop
abbrev Ze(f:T46):bu:=DD [.p,.p,.i .i64,.i .i64] [.b,.i .i64] λx=>f x.1 x.2.1 x.2.2.1 x.2.2.2
abbrev T47:=Array Value→Option Addr→Int→Int→World→(Int→aq)→Prop
abbrev Zf(f:T47):bu:=DD [.ag,.p,.i .i64,.i .i64] [.i .i64] λx=>f x.1 x.2.1 x.2.2.1 x.2.2.2
abbrev T48:=Option Addr→Int→Int→World→(Int→aq)→Prop
abbrev al1(f:T48):bu:=DD [.p,.i .i64,.i .i64] [.i .i64] λx=>f x.1 x.2.1 x.2.2
abbrev T49:=Array Value→Int→World→((Array Value)→aq)→Prop
abbrev abw(f:T49):bu:=DD [.ag,.i .i64] [.ag] λx=>f x.1 x.2
abbrev T50:=Bool→Addr→World→(Unit→aq)→Prop
abbrev Zg(f:T50):bu:=DD [.b,.a] [] λx=>f x.1 x.2
abbrev T51:=Option Addr→Option Addr→Int→Int→World→((Int×Int)→aq)→Prop
abbrev ad6(f:T51):bu:=DD [.p,.p,.i .i64,.i .i64] [.i .i64,.i .i64] λx=>f x.1 x.2.1 x.2.2.1 x.2.2.2
abbrev T52:=Addr→Addr→Addr→World→(Unit→aq)→Prop
abbrev Zh(f:T52):bu:=DD [.a,.a,.a] [] λx=>f x.1 x.2.1 x.2.2
abbrev T53:=Array Value→Option Addr→Int→World→(Bool→aq)→Prop
abbrev abx(f:T53):bu:=DD [.ag,.p,.i .i64] [.b] λx=>f x.1 x.2.1 x.2.2
abbrev T54:=Int→Int→World→((Array Value)→aq)→Prop
abbrev ayp(f:T54):bu:=DD [.i .i64,.i .i64] [.ag] λx=>f x.1 x.2
abbrev T56:=Addr→World→(Int→aq)→Prop
abbrev ad7(f:T56):bu:=DD [.a] [.i .i64] λx=>f x
abbrev T57:=Array Value→Int→World→(Bool→aq)→Prop
abbrev ahp(f:T57):bu:=DD [.ag,.i .i64] [.b] λx=>f x.1 x.2
abbrev T58:=Array Value→Int→World→((Option Addr)→aq)→Prop
abbrev ahq(f:T58):bu:=DD [.ag,.i .i64] [.p] λx=>f x.1 x.2
abbrev T59:=Int→Int→World→(Bool→aq)→Prop
abbrev al2(f:T59):bu:=DD [.i .i64,.i .i64] [.b] λx=>f x.1 x.2
abbrev T60:=Int→World→(Int→aq)→Prop
abbrev al3(f:T60):bu:=DD [.i .u64] [.i .i64] λx=>f x
abbrev T62:=Int→World→((Array Value)→aq)→Prop
abbrev ayq(f:T62):bu:=DD [.i .i64] [.ag] λx=>f x
abbrev T64:=Option Addr→Option Addr→World→(Bool→aq)→Prop
abbrev ahr(f:T64):bu:=DD [.p,.p] [.b] λx=>f x.1 x.2
abbrev T65:=Option Addr→Int→World→((Array Value×Int)→aq)→Prop
abbrev ad8(f:T65):bu:=DD [.p,.i .i64] [.ag,.i .i64] λx=>f x.1 x.2
abbrev T67:=Option Addr→Option Addr→Int→Int→Int→Value→World→((Int×Int)→aq)→Prop
abbrev al4(f:T67):bu:=DD [.p,.p,.i .i64,.i .i64,.i .i64,.raw] [.i .i64,.i .i64] λx=>f x.1 x.2.1 x.2.2.1 x.2.2.2.1 x.2.2.2.2.1 x.2.2.2.2.2
abbrev T68:=Option Addr→Value→Value→Value→World→(Unit→aq)→Prop
abbrev aqo(f:T68):bu:=DD [.p,.raw,.raw,.raw] [] λx=>f x.1 x.2.1 x.2.2.1 x.2.2.2
abbrev T69:=Array Value→Option Addr→World→(Int→aq)→Prop
abbrev aqp(f:T69):bu:=DD [.ag,.p] [.i .i64] λx=>f x.1 x.2
abbrev T70:=Option Addr→Int→World→((Option Addr×Int)→aq)→Prop
abbrev al5(f:T70):bu:=DD [.p,.i .i64] [.p,.i .i64] λx=>f x.1 x.2
abbrev T71:=Option Addr→Array Value→World→(Unit→aq)→Prop
abbrev aqr(f:T71):bu:=DD [.p,.ag] [] λx=>f x.1 x.2
abbrev T72:=Int→Addr→Addr→Addr→World→(Bool→aq)→Prop
abbrev al6(f:T72):bu:=DD [.i .i64,.a,.a,.a] [.b] λx=>f x.1 x.2.1 x.2.2.1 x.2.2.2
abbrev T73:=Option Addr→Option Addr→Int→World→((Bool×Bool×Int)→aq)→Prop
abbrev aqs(f:T73):bu:=DD [.p,.p,.i .i64] [.b,.b,.i .i64] λx=>f x.1 x.2.1 x.2.2
abbrev T74:=Bool→Addr→Addr→World→(Unit→aq)→Prop
abbrev al7(f:T74):bu:=DD [.b,.a,.a] [] λx=>f x.1 x.2.1 x.2.2
abbrev T75:=Option Addr→Option Addr→World→(Unit→aq)→Prop
abbrev aqt(f:T75):bu:=DD [.p,.p] [] λx=>f x.1 x.2
abbrev T76:=Option Addr→Int→Int→Int→Int→Array Value→World→(Int→aq)→Prop
abbrev aqu(f:T76):bu:=DD [.p,.i .i64,.i .i64,.i .i64,.i .i64,.ag] [.i .i64] λx=>f x.1 x.2.1 x.2.2.1 x.2.2.2.1 x.2.2.2.2.1 x.2.2.2.2.2
abbrev T77:=Option Addr→Option Addr→Int→Int→World→(Int→aq)→Prop
abbrev aqv(f:T77):bu:=DD [.p,.p,.i .i64,.i .i64] [.i .i64] λx=>f x.1 x.2.1 x.2.2.1 x.2.2.2
abbrev T78:=Sl→World→(Value→aq)→Prop
abbrev al8(f:T78):bu:=DD [.s] [.raw] λx=>f x
abbrev aqw(f:T60):bu:=DD [.i .i64] [.i .i64] λx=>f x
abbrev T81:=Array Value→Option Addr→World→((Int×Int×Int)→aq)→Prop
abbrev al9(f:T81):bu:=DD [.ag,.p] [.i .i64,.i .i64,.i .i64] λx=>f x.1 x.2
abbrev T82:=Int→Int→World→((Option Addr×Int)→aq)→Prop
abbrev aqy(f:T82):bu:=DD [.i .i64,.i .i64] [.p,.i .i64] λx=>f x.1 x.2
abbrev T85:=Option Addr→Int→Int→Int→World→((Array Value×Int)→aq)→Prop
abbrev ama(f:T85):bu:=DD [.p,.i .i64,.i .i64,.i .i64] [.ag,.i .i64] λx=>f x.1 x.2.1 x.2.2.1 x.2.2.2
abbrev T92:=Int→World→((Array Value×Int)→aq)→Prop
abbrev aqA(f:T92):bu:=DD [.i .i64] [.ag,.i .i64] λx=>f x
abbrev T93:=Sl→World→(Sl→aq)→Prop
abbrev aqB(f:T93):bu:=DD [.s] [.s] λx=>f x
abbrev T94:=Array Value→World→(Sl→aq)→Prop
abbrev aqC(f:T94):bu:=DD [.ag] [.s] λx=>f x
abbrev T95:=Array Value→Array Value→World→(Sl→aq)→Prop
abbrev aqD(f:T95):bu:=DD [.ag,.ag] [.s] λx=>f x.1 x.2
abbrev T96:=Bool→World→(Int→aq)→Prop
abbrev aqE(f:T96):bu:=DD [.b] [.i .i64] λx=>f x
abbrev T97:=Array Value→Option Addr→Int→World→((Bool×Int)→aq)→Prop
abbrev ayr(f:T97):bu:=DD [.ag,.p,.i .i64] [.b,.i .i64] λx=>f x.1 x.2.1 x.2.2
abbrev T98:=Int→Int→Int→Int→Int→World→((Sl×Int)→aq)→Prop
abbrev ays(f:T98):bu:=DD [.i .i64,.i .i64,.i .i64,.i .i64,.i .i64] [.s,.i .i64] λx=>f x.1 x.2.1 x.2.2.1 x.2.2.2.1 x.2.2.2.2
abbrev T99:=Array Value→Array Value→World→((Array Value×Int)→aq)→Prop
abbrev ayt(f:T99):bu:=DD [.ag,.ag] [.ag,.i .i64] λx=>f x.1 x.2
abbrev aqF:=Array Value→Array Value→World→((Array Value×Bool)→aq)→Prop
abbrev aqG(f:aqF):bu:=DD [.ag,.ag] [.ag,.b] λx=>f x.1 x.2
abbrev ayu:=Array Value→Array Value→Array Value→World→((Array Value×Int)→aq)→Prop
abbrev aqH(f:ayu):bu:=DD [.ag,.ag,.ag] [.ag,.i .i64] λx=>f x.1 x.2.1 x.2.2
abbrev aqI:=Array Value→Array Value→Int→World→((Array Value)→aq)→Prop
abbrev aqJ(f:aqI):bu:=DD [.ag,.ag,.i .i64] [.ag] λx=>f x.1 x.2.1 x.2.2
abbrev aqK:=Array Value→Array Value→Bool→World→((Array Value)→aq)→Prop
abbrev aqL(f:aqK):bu:=DD [.ag,.ag,.b] [.ag] λx=>f x.1 x.2.1 x.2.2
abbrev aqM:=Array Value→Option Addr→Int→Int→World→((Bool×Int)→aq)→Prop
abbrev aqN(f:aqM):bu:=DD [.ag,.p,.i .i64,.i .i64] [.b,.i .i64] λx=>f x.1 x.2.1 x.2.2.1 x.2.2.2
abbrev aqO:=Array Value→Array Value→Int→Int→World→((Array Value×Int×Bool)→aq)→Prop
abbrev aqP(f:aqO):bu:=DD [.ag,.ag,.i .i64,.i .i64] [.ag,.i .i64,.b] λx=>f x.1 x.2.1 x.2.2.1 x.2.2.2
abbrev aqQ:=Option Addr→Int→Int→World→(Bool→aq)→Prop
abbrev aqR(f:aqQ):bu:=DD [.p,.i .i64,.i .i64] [.b] λx=>f x.1 x.2.1 x.2.2
abbrev amb:=Int→World→(Value→aq)→Prop
abbrev ajT(f:amb):bu:=DD [.i .i64] [.raw] λx=>f x
abbrev aqS:=Int→Int→World→(Int→aq)→Prop
abbrev aqT(f:aqS):bu:=DD [.i .i64,.i .i64] [.i .i64] λx=>f x.1 x.2
abbrev aqU:=Option Addr→Sl→World→(Int→aq)→Prop
abbrev aqV(f:aqU):bu:=DD [.p,.s] [.i .i64] λx=>f x.1 x.2
abbrev aqW:=Array Value→Option Addr→World→(Sl→aq)→Prop
abbrev aqX(f:aqW):bu:=DD [.ag,.p] [.s] λx=>f x.1 x.2
abbrev aqY:=Option Addr→Int→World→((Sl×Int)→aq)→Prop
abbrev aqZ(f:aqY):bu:=DD [.p,.i .i64] [.s,.i .i64] λx=>f x.1 x.2
abbrev aq0:=Int→Int→Int→World→(Bool→aq)→Prop
abbrev aq1(f:aq0):bu:=DD [.i .i64,.i .i64,.i .i64] [.b] λx=>f x.1 x.2.1 x.2.2
abbrev aq2:=Value→World→(Value→aq)→Prop
abbrev aq3(f:aq2):bu:=DD [.raw] [.raw] λx=>f x
abbrev aq4:=Option Addr→Int→World→((Int×Int)→aq)→Prop
abbrev aq5(f:aq4):bu:=DD [.p,.i .i64] [.i .i64,.i .i64] λx=>f x.1 x.2
abbrev aq6:=Sl→Array Value→World→(Int→aq)→Prop
abbrev aq7(f:aq6):bu:=DD [.s,.ag] [.i .i64] λx=>f x.1 x.2
abbrev aq8:=Value→Int→World→(Value→aq)→Prop
abbrev aq9(f:aq8):bu:=DD [.raw,.i .i64] [.raw] λx=>f x.1 x.2
abbrev ara:=Value→Value→World→(Unit→aq)→Prop
abbrev arb(f:ara):bu:=DD [.raw,.raw] [] λx=>f x.1 x.2
abbrev arc:=Array Value→World→((Int×Int)→aq)→Prop
abbrev ard(f:arc):bu:=DD [.ag] [.i .i64,.i .i64] λx=>f x
abbrev are:=Int→World→((Int×Int)→aq)→Prop
abbrev arf(f:are):bu:=DD [.i .i64] [.i .i64,.i .i64] λx=>f x
abbrev amc:=Sl→Int→World→(Value→aq)→Prop
abbrev ajU(f:amc):bu:=DD [.s,.i .i64] [.raw] λx=>f x.1 x.2
abbrev arh:=Option Addr→Int→Int→World→((Array Value×Int)→aq)→Prop
abbrev ari(f:arh):bu:=DD [.p,.i .i64,.i .i64] [.ag,.i .i64] λx=>f x.1 x.2.1 x.2.2
abbrev arj:=Array Value→Array Value→Int→Int→World→((Option Addr×Int)→aq)→Prop
abbrev ark(f:arj):bu:=DD [.ag,.ag,.i .i64,.i .i64] [.p,.i .i64] λx=>f x.1 x.2.1 x.2.2.1 x.2.2.2
abbrev aBR:=World→((Option Addr)→aq)→Prop
abbrev XP(f:aBR):bu:=DD [] [.p] λx=>f
abbrev aBS:=World→((Array Value)→aq)→Prop
abbrev ajV(f:aBS):bu:=DD [] [.ag] λx=>f
def gV:T54:=λavR arl w k=>aH w zr6 43 λb d=>dK 6 d b #[Iv avR,Iv arl,Iv 65536,Iv 1048576,Iv 1000,Iv 3] λc=>bG 6 c b λa=>k a c
theorem OF:SS Es (ayp gV):=sl 19 [] func43
def lR:T62:=λzn w k=>aH w zr4 326 λA B=>kE ayl 0 4 #[Iv 1,Iv 0,Iv 0,Iv 5] λq=>kE q 4 4 #[Iv 1,Iv 1,Iv 0,Iv 0] λr=>kE r 8 4 #[Iv 1,Iv 1,Iv 1,Iv 0] λs=>kE s 12 4 #[Iv 1,Iv 1,Iv 1,Iv 0] λt=>kE t 16 4 #[Iv 1,Iv 1,Iv 1,Iv 0] λu=>kE u 20 4 #[Iv 1,Iv 1,Iv 1,Iv 0] λv=>kE v 24 4 #[Iv 0,Iv 0,Iv 0,Iv 2] λx=>kE x 28 4 #[Iv 1,Iv 0,Iv 0,Iv 2] λa=>kE a 32 4 #[Iv 1,Iv 0,Iv 0,Iv 3] λb=>kE b 36 4 #[Iv 1,Iv 1,Iv 0,Iv 0] λc=>kE c 40 4 #[Iv 1,Iv 1,Iv 1,Iv 0] λd=>kE d 44 4 #[Iv 0,Iv 0,Iv 0,Iv 4] λe=>kE e 48 4 #[Iv 1,Iv 0,Iv 0,Iv 0] λf=>kE f 52 4 zr4 λg=>kE g 56 4 zr4 λh=>kE h 60 4 #[Iv 1,Iv 0,Iv 0,Iv 0] λi=>kE i 64 4 #[Iv 1,Iv 0,Iv 0,Iv 0] λj=>aH B ayl 347 λl y=>dK 68 y l j λm=>GC l 17 zn 4 λz=>bG 4 m z λn=>dK 4 m A n λo=>bG 4 o A λp=>k p o
theorem XQ:SS Lf (ayq lR):=sl 13 [] func222
def ru:are:=λWr w k=>ap (Wr==1) (k (0,7) w) (ap (Wr==2) (k (0,127) w) (ap (Wr==3) (k (0,31) w) (ap (Wr==4) (k (0,65535) w) (ap (Wr==5) (k ((-2147483648),2147483647) w) (k (0,0) w)))))
theorem afC:SS Wh (arf ru):=sl 10941 [] func223
def FE(F:T62)(ru:are):T7:=λl w k=>aH w l 75 λe j=>cD (S:=Bool) (λz=>aN .i64 j (e.add 0) λA=>ap (decide (A<0)) (z true j) (aN .i64 j (e.add 0) λB=>z (decide (B≥17)) j)) λC m=>ap C (k 13 m) (aN .i64 m (e.add 0) λD=>F D m λn o=>aH o zr4 326 λg p=>dK 4 p g n λc=>aN .i64 c (e.add 1) λq=>aN .i64 c (e.add 2) λr=>aN .i64 c (e.add 3) λs=>aN .i64 c (e.add 4) λt=>jO (S:=(Int×Int)) (λu b f=>ap (decide (b.2<4)) (ixA #[Iv q,Iv r,Iv s,Iv t] 4 b.2 λv=>xy .i64 v λh=>GC g 4 b.2 1 λx=>aN .i64 f x λy=>ru y f λd i=>ap ((decide (h<(d.1,d.2).1))||(decide (h>(d.1,d.2).2))) (k 10 i) (u (b.1,(aL .i64 (b.2+1))) i)) (k b.1 f)) (0,0) c)
theorem ac4 a c:E [.ag] [.i .i64] [(Lf,ayq a),(Wh,arf c)] 140739367469566 [(1,[(16,.b)]),(8,[(4,(.i .i64)),(29,(.i .i64))])] f177=λx=>FE a c x:=bf
def eX:=FE lR ru
theorem Ks:SS Bt (xI eX):=so func177 (.c XQ (.c afC .z)) (ac4 lR ru)
def IM(C:T7):arc:=λtX w k=>aH w tX 78 λd p=>cD (S:=Bool) (λv=>aN .i64 p (d.add 0) λy=>ap (decide (y<0)) (v true p) (aN .i64 p (d.add 0) λz=>v (decide (z>255)) p)) λA f=>ap A (k ((-1),10) f) (cD (S:=Bool) (λx=>cE f (d.add 1) λB=>ap (decide (((B.n:Nat):Int)<1)) (x true f) (cE f (d.add 1) λq=>(x (decide (((q.n:Nat):Int)>128)) f))) λr b=>ap r (k ((-1),12) b) (cE b (d.add 1) λg=>jO (S:=Int) (λs a c=>ap (decide (a<((g.n:Nat):Int))) (cW g a 5 λt=>bG 5 c t λh=>aH c Jg 75 λi u=>dK 5 u i h λj=>bG 5 j i λl=>C l j λm o=>ap (m !=0) (k (a,m) o) (s (aL .i64 (a+1)) o)) (k (0,0) c)) 0 b))
theorem aby a:E [.ag] [.i .i64,.i .i64] [(Bt,xI a)] 69742903422 [(1,[(14,.b)]),(4,[(24,.b)]),(9,[(28,(.i .i64))])] f122=λx=>IM a x:=bf
def qE:=IM eX
theorem abz:SS Qr (ard qE):=so func122 (.c Ks .z) (aby eX)
def ox:T93:=λaad w k=>AH Tryz.prog 69 (Iv ((aad.n:Nat):Int)) (Iv ((aad.n:Nat):Int)) w λs1 l=>jO (S:=(Int×Int)) (λe b f=>ap (decide (b.2<((aad.n:Nat):Int))) (cW aad b.2 5 λm=>bG 5 f m λg=>aH f Jg 75 λj o=>dK 5 o j g λh=>cW s1 b.2 1 λi=>bJ h i (Iv b.1) λc=>aN .i64 c (j.add 0) λd=>ap (d==11) (e ((aL .i64 (b.1+1)),(aL .i64 (b.2+1))) c) (ap (d==12) (e ((aL .i64 (b.1 - 1)),(aL .i64 (b.2+1))) c) (e (b.1,(aL .i64 (b.2+1))) c))) (k s1 f)) (0,0) l
theorem ZL:SS GO (aqB ox):=sl 146816125 [(5,[(4,(.i .i64)),(12,(.i .i64))])] func178
def jr:T41:=λb d amd w k=>nn b λI=>cE w (I.add 1) λJ=>cW J d 1 λL=>aN .i64 w L λG=>cD (S:=Bool) (λH=>nn b λM=>cE w (M.add 2) λN=>cW N d 1 λO=>Ig w O λP=>ap P (nn b λl=>cE w (l.add 1) λm=>cW m d 1 λo=>aN .i64 w o λp=>H ((og .i64 G amd)==p) w) (H false w)) λq i=>ap q (k () i) (drew i λf=>nn b λr=>cE f (r.add 2) λs=>nn b λt=>cE f (t.add 1) λu=>cW s d 1 λv=>bJ f v (.bool true) λx=>cW u d 1 λy=>bJ x y (Iv (og .i64 G amd)) λj=>nn b λz=>cE j (z.add 3) λg=>aH j #[Iv d] 3 λA B=>oh Tryz.prog #[69,69] 69 [.slice g.a g.n g.c,(.slice (some A) 1 1)] B λh C=>nn b λD=>bJ C (D.add 3) (.slice h.a h.n h.c) λF=>k () F)
abbrev UI:bu:=abr jr
theorem UJ:SS B6 (abr jr):=sl 8589934659 [(1,[(33,.b)])] func224
def oy:amc:=λLj b w k=>aH w #[.slice Lj.a Lj.n Lj.c] 76 λd e=>aH e #[Iv b] 3 λf g=>k (.func (.func q9) #[] #[.pointer (some d),.pointer (some f)]) g
abbrev ZM:bu:=ajU oy
theorem ZN:SS GP (ajU oy):=sl 28 [] func225
def jE:UG:=λzn w k=>k ((zn==6)||(zn==7)) w
abbrev ac5:bu:=AI jE
theorem Ub:SS r4 (AI jE):=sl 5 [] func226
def jg:UG:=λzn w k=>k ((zn==16)||(zn==15)) w
abbrev ac6:bu:=AI jg
theorem Uc:SS r5 (AI jg):=sl 5 [] func227
def Du(Y:Nat→bu)(jE:UG)(jg:UG)(rQ:Value)(i:Addr)(j:Addr)(w:World)(k:Unit→aq):Prop:= cE w i λs1=>aN .i64 w j λI=>cW s1 I 5 λJ=>bG 5 w J λl=>aH w Jg 75 λe L=>dK 5 L e l λH=>cD (S:=Bool) (λh=>aN .i64 H (e.add 0) λM=>jE M H λm b=>ap m (aN .i64 b (e.add 4) λo=>ap (decide (o≥0)) (aN .i64 b (e.add 4) λp=>cE b i λq=>ap (decide (p<((q.n:Nat):Int))) (aN .i64 b (e.add 4) λr=>mT (Js [(r4,(AI jE)),(r5,(AI jg))] Y) rQ #[Iv r] b λs t=>HL s λu=>h (!u) t) (h false b)) (h false b)) (h false b)) λv c=>ap v (k () c) (cD (S:=Bool) (λf=>aN .i64 c (e.add 0) λx=>ap (x !=6) (aN .i64 c (e.add 0) λy=>jg y c λz d=>ap (!z) (aN .i64 d j λA=>cE d i λB=>(f (decide ((aL .i64 (A+1))<((B.n:Nat):Int))) d)) (f false d)) (f false c)) λC g=>ap C (aN .i64 g j λD=>mT (Js [(r4,(AI jE)),(r5,(AI jg))] Y) rQ #[(Iv (aL .i64 (D+1)))] g λF G=>HL F λN=>k () G) (k () g))
theorem Wu(Y:Nat→bu)(jE:UG)(jg:UG)(x:KT [.raw,.a,.a])(w:World)(k:KT []→aq):Oa Tryz.prog (Js [(r4,(AI jE)),(r5,(AI jg))] Y) 70369817919511 [(1,[(30,.b)]),(3,[(46,.b)])] f255 [] (dz [.raw,.a,.a] x) w k=Du Y jE jg x.1 x.2.1 x.2.2 w k:=bf
def xe(Y:Nat→bu)(rQ:Value)(a:Addr)(b:Addr)(w:World)(k:Unit→aq):Prop:=Du Y jE jg rQ a b w k
def ri(Y:Nat→bu):bu:=λargs w c=>qG [.raw,.a,.a] args λx=>xe Y x.1 x.2.1 x.2.2 w λr w=>c (eW (dz [] r)) w
theorem Wv:V8 Tryz.prog q9 ri:=λY hY=>
 Mu (mask:=70369817919511) (h:=[(1,[(30,.b)]),(3,[(46,.b)])]) mixed func255 (VX (l:=[(r4,ac5),(r5,ac6)]) ⟨Ub,Uc,trivial⟩ hY)
 [.raw,.a,.a] [] bf (λx w k=>xe Y x.1 x.2.1 x.2.2 w k) (λx w k=>Wu Y jE jg x w k)
def Ku(I:Cw)(jr:T41)(oy:amc)(tX:Array Value)(w:World)(k:(Sl)→aq):Prop:= aH w tX 78 λf w2=>cE w2 (f.add 1) λj=>cD (S:=Addr) (λC=>drew w2 λg=>cE g (f.add 1) λb=>both (AH Tryz.prog 69 (Iv ((j.n:Nat):Int)) (Iv ((j.n:Nat):Int)) g λu w8=>ai 1 (f.add 1) g w8 (both (AH Tryz.prog 331 (Iv ((j.n:Nat):Int)) (Iv ((j.n:Nat):Int)) w8 λD F=>ai 1 (f.add 1) g F (both (both (aH F #[.slice b.a b.n b.c,.slice u.a u.n u.c,.slice D.a D.n D.c,.slice none 0 0] 333 λg7 g8=>aH g8 #[.pointer none] 330 λa0 a2=>ai 1 (f.add 1) g a2 (bJ a2 a0 (.pointer (some g7)) λg9=>C a0 g9)) (aH F #[.pointer none] 330 λa3 a4=>ai 1 (f.add 1) g a4 (aH a4 #[.slice b.a b.n b.c,.slice u.a u.n u.c,.slice D.a D.n D.c,.slice none 0 0] 333 λh0 h1=>bJ h1 a3 (.pointer (some h0)) λh2=>C a3 h2))) (aH F #[.pointer none] 330 λa5 a6=>ai 1 (f.add 1) g a6 (aH a6 #[.slice b.a b.n b.c,.slice u.a u.n u.c,.slice D.a D.n D.c,.slice none 0 0] 333 λh3 h4=>bJ h4 a5 (.pointer (some h3)) λh5=>C a5 h5)))) (aH w8 #[.pointer none] 330 λa7 a8=>ai 1 (f.add 1) g a8 (AH Tryz.prog 331 (Iv ((j.n:Nat):Int)) (Iv ((j.n:Nat):Int)) a8 λO a9=>ai 1 (f.add 1) g a9 (aH a9 #[.slice b.a b.n b.c,.slice u.a u.n u.c,.slice O.a O.n O.c,.slice none 0 0] 333 λh6 h7=>bJ h7 a7 (.pointer (some h6)) λh8=>C a7 h8))))) (both (AH Tryz.prog 331 (Iv ((j.n:Nat):Int)) (Iv ((j.n:Nat):Int)) g λe P=>ai 1 (f.add 1) g P (both (AH Tryz.prog 69 (Iv ((j.n:Nat):Int)) (Iv ((j.n:Nat):Int)) P λm G=>ai 1 (f.add 1) g G (both (both (aH G #[.slice b.a b.n b.c,.slice m.a m.n m.c,.slice e.a e.n e.c,.slice none 0 0] 333 λh9 i0=>aH i0 #[.pointer none] 330 λb0 b1=>ai 1 (f.add 1) g b1 (bJ b1 b0 (.pointer (some h9)) λi1=>C b0 i1)) (aH G #[.pointer none] 330 λb2 b3=>ai 1 (f.add 1) g b3 (aH b3 #[.slice b.a b.n b.c,.slice m.a m.n m.c,.slice e.a e.n e.c,.slice none 0 0] 333 λi2 i3=>bJ i3 b2 (.pointer (some i2)) λi4=>C b2 i4))) (aH G #[.pointer none] 330 λb4 b5=>ai 1 (f.add 1) g b5 (aH b5 #[.slice b.a b.n b.c,.slice m.a m.n m.c,.slice e.a e.n e.c,.slice none 0 0] 333 λi5 i6=>bJ i6 b4 (.pointer (some i5)) λi7=>C b4 i7)))) (aH P #[.pointer none] 330 λb6 b7=>ai 1 (f.add 1) g b7 (AH Tryz.prog 69 (Iv ((j.n:Nat):Int)) (Iv ((j.n:Nat):Int)) b7 λQ b8=>ai 1 (f.add 1) g b8 (aH b8 #[.slice b.a b.n b.c,.slice Q.a Q.n Q.c,.slice e.a e.n e.c,.slice none 0 0] 333 λi8 i9=>bJ i9 b6 (.pointer (some i8)) λj0=>C b6 j0))))) (aH g #[.pointer none] 330 λH R=>ai 1 (f.add 1) g R (both (AH Tryz.prog 69 (Iv ((j.n:Nat):Int)) (Iv ((j.n:Nat):Int)) R λT b9=>ai 1 (f.add 1) g b9 (AH Tryz.prog 331 (Iv ((j.n:Nat):Int)) (Iv ((j.n:Nat):Int)) b9 λU c0=>ai 1 (f.add 1) g c0 (aH c0 #[.slice b.a b.n b.c,.slice T.a T.n T.c,.slice U.a U.n U.c,.slice none 0 0] 333 λj1 j2=>bJ j2 H (.pointer (some j1)) λj3=>C H j3))) (AH Tryz.prog 331 (Iv ((j.n:Nat):Int)) (Iv ((j.n:Nat):Int)) R λV c1=>ai 1 (f.add 1) g c1 (AH Tryz.prog 69 (Iv ((j.n:Nat):Int)) (Iv ((j.n:Nat):Int)) c1 λW c2=>ai 1 (f.add 1) g c2 (aH c2 #[.slice b.a b.n b.c,.slice W.a W.n W.c,.slice V.a V.n V.c,.slice none 0 0] 333 λj4 j5=>bJ j5 H (.pointer (some j4)) λj6=>C H j6))))))) λh X=>aR X h λj7=>nn j7 λj8=>cE X (j8.add 1) λj9=>cD (S:=Unit) (λk0=>jO (S:=Int) (λk1 Y J=>ap (decide (Y<((j9.n:Nat):Int))) (aR J h λk2=>nn k2 λk3=>cE J (k3.add 1) λk4=>cW k4 Y 1 λk5=>bJ J k5 (Iv 255) λk6=>k1 (aL .i64 (Y+1)) k6) (k0 () J)) 0 X) λl5 t=>ap (((j.n:Nat):Int)==0) (aR t h λk7=>nn k7 λk8=>cE t (k8.add 1) λk9=>k k9 t) (aR t h λl0=>aN .i64 t (f.add 0) λl1=>jr l0 0 (og .i64 l1 255) t λ_u l2=>jO (S:=(Unit×List Nat)) (λl3 c3 o=>aR o h λc4=>nn c4 λc5=>cE o (c5.add 3) λc6=>ap (((c6.n:Nat):Int)==0) (aR o h λc7=>nn c7 λc8=>cE o (c8.add 1) λc9=>Is c3.2 o λd0=>k c9 d0) (aR o h λd1=>nn d1 λd2=>cE o (d2.add 3) λd3=>cW d3 0 1 λd4=>aN .i64 o d4 λv=>drew o λq=>aR q h λd5=>aR q h λd6=>nn d6 λd7=>cE q (d7.add 3) λd8=>slL d8 1 1 λx=>nn d5 λd9=>bJ q (d9.add 3) (.slice x.a x.n x.c) λr=>aR r h λe0=>nn e0 λe1=>cE r (e1.add 1) λe2=>cW e2 v 1 λe3=>aN .i64 r e3 λe4=>aH r #[Iv 0] 3 λs e5=>bJ e5 s (Iv e4) λy=>cE y (f.add 1) λe6=>cW e6 v 5 λe7=>bG 5 y e7 λZ=>aH y Jg 75 λp e8=>dK 5 e8 p Z λl=>cD (S:=Bool) (λz=>aN .i64 l (p.add 0) λe9=>ap (e9==8) (aN .i64 l (p.add 1) λf0=>ap (decide (f0≥0)) (aN .i64 l (p.add 1) λf1=>z (decide (f1<8)) l) (z false l)) (z false l)) λf2 L=>cD (S:=Unit) (λM=>ap f2 (drew L λA=>aN .i64 A s λf3=>aN .i64 A (p.add 1) λf4=>G6 .i64 1 f4 λf5=>bJ A s (Iv (SH .i64 f3 f5)) λf6=>M () f6) (M () L)) λaFX N=>cE N (f.add 1) λf7=>oy f7 v N λf8 f9=>BM I [(.i .i64)] f8 f9 (fun(g0:Int) B g1=>aR B h λg2=>aN .i64 B s λg3=>jr g2 g0 g3 B λ_u g4=>g1 g4) λarm g5=>l3 ((),(arm::c3.2)) g5)) ((),[]) l2)
theorem ac7(I:Cw)(jr:T41)(oy:amc)(x:KT [.ag])(w:World)(k:KT [.s]→aq):UC Tryz.prog (j4 [(B6,(abr jr)),(GP,(ajU oy))]) I 60886842892212147944375827038718 [(1,[]),(3,[(4,.a)]),(5,[]),(6,[(26,(.i .i64))]),(24,[(95,.b)]),(25,[]),(29,[(105,(.i .i64))])] f179 [.s] (dz [.ag] x) w k=Ku I jr oy x w k:=bf
def oX:T94:=λtX w k=>Ku (Cy [(q9,ri)]) jr oy tX w k
abbrev ac8:bu:=aqC oX
theorem ac9:uI Tryz.prog Kq ac8:=
 Iu (mask:=60886842892212147944375827038718) (h:=[(1,[]),(3,[(4,.a)]),(5,[]),(6,[(26,(.i .i64))]),(24,[(95,.b)]),(25,[]),(29,[(105,(.i .i64))])]) mixed func179 (Mr (l:=[(B6,UI),(GP,ZM)]) ⟨UJ,ZN,trivial⟩) (K7 (l:=[(q9,ri)]) ⟨Wv,trivial⟩)
 [.ag] [.s] bf (λx w k=>oX x w k) (λx w k=>ac7 (Cy [(q9,ri)]) jr oy x w k)
def xJ(jE:UG):T9:=λc g w k=>nn c λA=>cE w (A.add 1) λB=>cW B g 5 λC=>bG 5 w C λh=>aH w Jg 75 λd D=>dK 5 D d h λF=>cD (S:=Bool) (λe=>drew F λz=>aN .i64 z (d.add 0) λi=>jE i z λj a=>ap j (aN .i64 a (d.add 4) λl=>nn c λm=>cE a (m.add 1) λo=>ap (decide (l≥((o.n:Nat):Int))) (e true a) (aN .i64 a (d.add 0) λp=>ap (p==8) (aN .i64 a (d.add 4) λq=>nn c λr=>cE a (aX (r.add 0) 0) λs=>(e (decide (q≥((s.n:Nat):Int))) a)) (e false a))) (aN .i64 a (d.add 0) λt=>ap (t==8) (aN .i64 a (d.add 4) λu=>nn c λv=>cE a (aX (v.add 0) 0) λx=>(e (decide (u≥((x.n:Nat):Int))) a)) (e false a))) λy f=>ap y (k 10 f) (k 0 f)
theorem OG a:E [.p,.i .i64] [.i .i64] [(r4,AI a)] 2199023255603 [(2,[(41,.b)])] f180=λx=>xJ a x.1 x.2:=bf
def gW:=xJ jE
abbrev EF:bu:=vt gW
theorem OH:SS nV (vt gW):=so func180 (.c Ub .z) (OG jE)
def AX(jg:UG):T9:=λa b w k=>nn a λh=>cE w (h.add 1) λi=>cW i b 5 λj=>aN .i64 w (j.add 0) λf=>cD (S:=Bool) (λg=>nn a λl=>cE w (l.add 1) λm=>ap ((b==(aL .i64 (((m.n:Nat):Int) - 1)))&&(f !=6)) (jg f w λo p=>g (!o) p) (g false w)) λe c=>ap e (k 11 c) (k 0 c)
theorem SO a:E [.p,.i .i64] [.i .i64] [(r5,AI a)] 1073741875 [(2,[(30,.b)])] f181=λx=>AX a x.1 x.2:=bf
def jv:=AX jg
abbrev Hr:bu:=vt jv
theorem SP:SS pV (vt jv):=so func181 (.c Uc .z) (SO jg)
def gX:T9:=λh l w k=>drew w λb=>nn h λD=>cE b (D.add 1) λG=>cW G l 5 λF=>bG 5 b F λq=>nn h λr=>cE b (r.add 2) λH=>cW H l 1 λs=>aN .i64 b s λt=>aH b Jg 75 λj c=>ai 1 s b c (ai 1 (r.add 2) b c (ai 5 F b c (ai 1 (D.add 1) b c (dK 5 c j q λd=>ai 1 s b d (ai 1 (r.add 2) b d (aN .i64 d (j.add 0) λa=>cD (S:=Bool) (λm=>ap (a==12) (m (a==12) d) (m (a==13) d)) λu e=>cD (S:=Bool) (λf=>ap u (f (decide (t≥1)) e) (ap (a==16) (f (t==0) e) (cD (S:=Bool) (λn=>ap (a==6) (n (a==6) e) (n (a==7) e)) λv o=>ap v (drew o λg=>nn h λx=>cE g (x.add 2) λy=>aN .i64 g (j.add 4) λz=>cW y z 1 λA=>aN .i64 g A λB=>f (B==t) g) (f true o)))) λC p=>ap (!C) (k 15 p) (k 0 p)))))))
abbrev EG:bu:=vt gX
theorem OI:SS nW (vt gX):=sl 140746640326899 [(6,[(24,.b)]),(8,[(7,.b)]),(14,[(33,.b)])] func182
def fX:T9:=λd f w k=>nn d λA=>cE w (A.add 1) λB=>cW B f 5 λC=>bG 5 w C λi=>aH w Jg 75 λg D=>dK 5 D g i λe=>aN .i64 e (g.add 0) λj=>cD (S:=Int) (λh=>ap (j==9) (aN .i64 e (g.add 2) λl=>G6 .i64 1 l λm=>h m e) (ap (j==10) (aN .i64 e (g.add 3) λn=>G6 .i64 1 n λo=>h o e) (ap (j==8) (drew e λb=>nn d λp=>cE b (aX (p.add 0) 0) λq=>aN .i64 b (g.add 4) λr=>cW q r 2 λs=>aN .i64 b (s.add 0) λt=>h t b) (h 0 e)))) λu c=>nn d λv=>cE c (v.add 3) λx=>cW x f 1 λy=>aN .i64 c y λz=>ap ((tw .i64 u z) !=0) (k 16 c) (k 0 c)
abbrev Dv:bu:=vt fX
theorem MI:SS ny (vt fX):=sl 140737557659763 [(6,[(6,(.i .i64))])] func183
def Dw(V:T93)(W:T94)(gW:T9)(jv:T9)(gX:T9)(fX:T9):T49:=λG p w k=>aH w G 24 λD X=>aH X SM 136 λF H=>cE H (D.add 0) λY=>cW Y p 2 λZ=>bG 2 H Z λI=>aH H #[Iv 0,.slice none 0 0] 78 λg w9=>dK 2 w9 g I λJ=>drew J λb=>bG 1 b D λq=>cE b (g.add 1) λh=>cE b (g.add 1) λL=>bG 2 b g λr=>V L b λi e=>ai 2 g b e (ai 1 (g.add 1) b e (ai 1 D b e (W r e λj l=>ai 1 (g.add 1) b l (ai 1 D b l (kE #[.slice none 0 0,.slice none 0 0,.slice none 0 0,.slice none 0 0] 0 1 q λs=>aH l (eM (eM (eM s 1 (.slice h.a h.n h.c)) 2 (.slice i.a i.n i.c)) 3 (.slice j.a j.n j.c)) 295 λd M=>rF (.func (.func nV) #[.pointer (some d)] #[]) (rF (.func (.func pV) #[.pointer (some d)] #[]) (rF (.func (.func nW) #[.pointer (some d)] #[]) (rF (.func (.func ny) #[.pointer (some d)] #[]) (aH M #[(.func (.func nV) #[.pointer (some d)] #[]),(.func (.func pV) #[.pointer (some d)] #[]),(.func (.func nW) #[.pointer (some d)] #[]),(.func (.func ny) #[.pointer (some d)] #[])] 132 λN t=>cE t (g.add 1) λO=>jO (S:=Int) (λP f u=>ap (decide (f<((O.n:Nat):Int))) (jO (S:=Int) (λQ m o=>ap (decide (m<((4:Nat):Int))) (cW (Sl.mk (some N) 4 4) m 1 λR=>sX o R λT=>mT (j4 [(GO,(aqB V)),(Kq,(aqC W)),(nV,(vt gW)),(pV,(vt jv)),(nW,(vt gX)),(ny,(vt fX))]) T #[Iv f] o λU v=>xy .i64 U λy=>ap (y !=0) (dK 3 v F #[Iv p,Iv f,Iv y] λz=>bG 3 z F λA=>k A z) (Q (aL .i64 (m+1)) v)) (P (aL .i64 (f+1)) o)) 0 u) (dK 3 u F SM λB=>bG 3 B F λC=>k C B)) 0 t)))))))))
theorem Ww a b c d e f:E [.ag,.i .i64] [.ag] [(GO,aqB a),(Kq,aqC b),(nV,vt c),(pV,vt d),(nW,vt e),(ny,vt f)] 4571494470389238 [(6,[(39,(.i .i64))]),(13,[(44,(.i .i64))])] f123=λx=>Dw a b c d e f x.1 x.2:=bf
def m9:=Dw ox oX gW jv gX fX
theorem Wx:SS JF (abw m9):=so func123 (.c ZL (.c ac9 (.c OH (.c SP (.c OI (.c MI .z)))))) (Ww ox oX gW jv gX fX)
def Fa(qE:arc)(m9:T49):ZJ:=λL w k=>aH w L 24 λj w2=>aH w2 SM 136 λc J=>cD (S:=Bool) (λJ5=>cE J (j.add 0) λs6=>ap (decide (((s6.n:Nat):Int)<1)) (J5 true J) (cE J (j.add 0) λs7=>(J5 (decide (((s7.n:Nat):Int)>32)) J))) λb8 M=>ap b8 (dK 3 M c #[(Iv (-1)),(Iv (-1)),Iv 12] λl=>bG 3 l c λm=>k m l) (cE M (j.add 0) λo=>cD (S:=Unit) (λN=>jO (S:=Int) (λO d f=>ap (decide (d<((o.n:Nat):Int))) (cW o d 2 λP=>bG 2 f P λp=>aH f #[Iv 0,.slice none 0 0] 78 λq Q=>dK 2 Q q p λr=>bG 2 r q λs=>qE s r λa t=>ap ((a.1,a.2).2 !=0) (dK 3 t c #[Iv d,(Iv (a.1,a.2).1),(Iv (a.1,a.2).2)] λu=>bG 3 u c λv=>k v u) (O (aL .i64 (d+1)) t)) (N () f)) 0 M) λa7 b=>cE b (j.add 0) λR=>cW R 0 2 λT=>aN .i64 b (T.add 0) λU=>ap (U !=0) (dK 3 b c #[Iv 0,(Iv (-1)),Iv 16] λy=>bG 3 y c λz=>k z y) (cE b (j.add 0) λV=>jO (S:=Int) (λW g h=>ap (decide (g<((V.n:Nat):Int))) (bG 1 h j λA=>m9 A g h λB X=>aH X SM 136 λi Y=>dK 3 Y i B λe=>bG 3 e i λC=>ZC ([(0,0)] ++([(1,0)] ++([(2,0)] ++[]))) C SM λZ=>ap (!Z) (bG 3 e i λD=>dK 3 e c D λF=>bG 3 F c λG=>k G F) (W (aL .i64 (g+1)) e)) (dK 3 h c SM λH=>bG 3 H c λI=>k I H)) 0 b))
theorem XR a c:E [.ag] [.ag] [(Qr,ard a),(JF,abw c)] 292206227409338878 [(1,[(18,.b)]),(5,[]),(6,[(23,(.i .i64))]),(21,[(50,(.i .i64))])] f74=λx=>Fa a c x:=bf
def oz:=Fa qE m9
theorem XS:SS Le (Ol oz):=so func74 (.c abz (.c Wx .z)) (XR qE m9)
def Fb(oz:ZJ):T2:=λa w k=>aH w a 24 λe d=>bG 1 d e λb=>oz b d λc f=>ZC ([(0,0)] ++([(1,0)] ++([(2,0)] ++[]))) c SM λg=>k g f
theorem XT a:E [.ag] [.b] [(Le,Ol a)] 6 [] f37=λx=>Fb a x:=bf
def m5:=Fb oz
theorem XU:SS E8 (OD m5):=so func37 (.c XS .z) (XT oz)
def iO:aq0:=λa aBT aBU w k=>k ((decide (a≥aBT))&&(decide (a≤aBU))) w
theorem Wz:SS JE (aq1 iO):=sl 71 [] func108
def GS(iO:aq0):T2:=λLj w k=>aH w Lj 43 λb r=>aN .i64 r (b.add 0) λs=>iO s 1 16 r λt f=>ap t (aN .i64 f (b.add 1) λu=>aN .i64 f (b.add 0) λv=>iO u 0 (aL .i64 (16 - v)) f λx g=>ap x (aN .i64 g (b.add 2) λh=>iO h 1 1048576 g λi c=>ap i (aN .i64 c (b.add 3) λj=>iO j 0 1048576 c λl d=>ap l (aN .i64 d (b.add 4) λm=>iO m 1 1000 d λn e=>ap n (aN .i64 e (b.add 5) λo=>iO o 0 8 e λp q=>k p q) (k false e)) (k false d)) (k false c)) (k false g)) (k false f)
theorem ZO a:E [.ag] [.b] [(JE,aq1 a)] 14 [] f65=λx=>GS a x:=bf
def oA:=GS iO
theorem ZP:SS GN (OD oA):=so func65 (.c Wz .z) (ZO iO)
def sF:T82:=λafD tY w k=>ap ((((decide (afD<1))||(decide (afD>1048576)))||(decide (tY<1)))||(decide (tY>16))) (k (none,10) w) (AH Tryz.prog 69 (Iv (aL .i64 (tY+1))) (Iv (aL .i64 (tY+1))) w λs1 d=>aH d #[.slice none 0 0,Iv afD,.slice s1.a s1.n s1.c] 206 λe f=>k ((some e),0) f)
theorem afE:SS ME (aqy sF):=sl 524339 [] func66
def uU(w:World)(k:(Option Addr)→aq):Prop:= aH w #[.slice none 0 0] 190 λa b=>k (some a) b
theorem ajW:SS UE (XP uU):=sl 1 [] func67
def nK(w:World)(k:(Option Addr)→aq):Prop:= mkMap Tryz.prog 207 none w λp1 a=>aH a #[Iv 0,.slice none 0 0,(.map p1)] 211 λb c=>k (some b) c
theorem afF:SS MF (XP nK):=sl 1 [] func68
def mS(w:World)(k:(Option Addr)→aq):Prop:= aH w #[.slice none 0 0] 184 λa b=>k (some a) b
theorem ahs:SS Qq (XP mS):=sl 1 [] func69
def cS:T1:=λb a w k=>ap (decide (a≥0)) (nn b λc=>cE w (c.add 2) λd=>(k (decide (a<((d.n:Nat):Int))) w)) (k false w)
theorem Cz:SS q8 (qd cS):=sl 19 [] func133
def cZ:T1:=λa aht w k=>ap (decide (aht≥0)) (nn a λb=>cE w (b.add 0) λc=>(k (decide (aht<((c.n:Nat):Int))) w)) (k false w)
abbrev Dx:bu:=qd cZ
theorem Dy:SS iY (qd cZ):=sl 19 [] func156
def r6:UG:=λa w k=>k (decide (a≥1)) w
abbrev Ud:bu:=AI r6
theorem ada:SS Bu (AI r6):=sl 5 [] func210
def vN(g:T1)(n:T1)(r6:UG):T45:=λa b c arn w k=>cD (S:=Bool) (λd=>g a b w λh e=>ap (!h) (d true e) (mT (j4 [(q8,(qd g)),(iY,(qd n)),(Bu,(AI r6))]) arn #[Iv c] e λi j=>HL i λl=>d (!l) j)) λm f=>ap m (k 10 f) (k 0 f)
theorem MJ a c d:E [.p,.i .i64,.i .i64,.raw] [.i .i64] [(q8,qd a),(iY,qd c),(Bu,AI d)] 262415 [(1,[(18,.b)])] f209=λx=>vN a c d x.1 x.2.1 x.2.2.1 x.2.2.2:=bf
def aQ:=vN cS cZ r6
theorem nD:SS ja (abv aQ):=so func209 (.c Cz (.c Dy (.c ada .z))) (MJ cS cZ r6)
def vO(C:T45):GR:=λb d e w k=>ap (ej b) (k (0,2) w) (C b d e (.func (.func Bu) #[] #[]) w λu f=>ap (u !=0) (k (0,u) f) (nn b λx=>cE f (x.add 0) λl=>nn b λy=>aN .i64 f (y.add 1) λz=>ap (decide (e>(aL .i64 (z - ((l.n:Nat):Int))))) (k (0,21) f) (nn b λA=>cE f (A.add 2) λv=>cW v d 1 λB=>aN .i64 f B λm=>cW v d 1 λo=>bJ f o (Iv (aL .i64 (m+1))) λj=>nn b λp=>cE j (p.add 0) λq=>apu q 1 0 ((l.n:Nat):Int) ((l.n:Nat):Int) λh=>oh Tryz.prog #[156,3] 156 [.slice h.a h.n h.c,Iv e] j λi r=>nn b λs=>bJ r (s.add 0) (.slice i.a i.n i.c) λt=>k (((l.n:Nat):Int),0) t)))
theorem MK a:E [.p,.i .i64,.i .i64] [.i .i64,.i .i64] [(ja,abv a)] 2147617735 [] f159=λx=>vO a x.1 x.2.1 x.2.2:=bf
def az:=vO aQ
theorem jZ:SS iZ (yQ az):=so func159 (.c nD .z) (MK aQ)
def ML(az:GR):T65:=λc e w k=>aH w #[Iv 0] 99 λa h=>ap (ej c) (dK 1 h a #[Iv 0] λi=>bG 1 i a λf=>k (f,2) i) (az c e 1 h λb j=>ap ((b.1,b.2).2 !=0) (dK 1 j a #[Iv 0] λl=>bG 1 l a λg=>k (g,(b.1,b.2).2) l) (dK 1 j a #[(Iv (b.1,b.2).1)] λm=>bG 1 m a λd=>k (d,0) m))
theorem afG a:E [.p,.i .i64] [.ag,.i .i64] [(iZ,yQ a)] 262899 [] f109=λx=>ML a x.1 x.2:=bf
def tZ:=ML az
theorem afH:SS Wd (ad8 tZ):=so func109 (.c jZ .z) (afG az)
def Qt(az:GR):T65:=λc e w k=>aH w #[Iv 0] 100 λa h=>ap (ej c) (dK 1 h a #[Iv 0] λi=>bG 1 i a λf=>k (f,2) i) (az c e 1 h λb j=>ap ((b.1,b.2).2 !=0) (dK 1 j a #[Iv 0] λl=>bG 1 l a λg=>k (g,(b.1,b.2).2) l) (dK 1 j a #[(Iv (b.1,b.2).1)] λm=>bG 1 m a λd=>k (d,0) m))
theorem ahu a:E [.p,.i .i64] [.ag,.i .i64] [(iZ,yQ a)] 262899 [] f110=λx=>Qt a x.1 x.2:=bf
def xp:=Qt az
theorem ahv:SS Zb (ad8 xp):=so func110 (.c jZ .z) (ahu az)
def MM(az:GR):T70:=λb c w k=>ap (ej b) (k (none,2) w) (az b c 2 w λa e=>ap ((a.1,a.2).2 !=0) (k (none,(a.1,a.2).2) e) (kE SM 0 3 #[(Iv (-1)),Iv 0,(Iv (a.1,a.2).1)] λd=>aH e d 232 λf g=>aH g #[(.slice (some f) 1 1)] 235 λh i=>k ((some h),0) i))
theorem afI a:E [.p,.i .i64] [.p,.i .i64] [(iZ,yQ a)] 131827 [] f111=λx=>MM a x.1 x.2:=bf
def ua:=MM az
theorem afJ:SS We (al5 ua):=so func111 (.c jZ .z) (afI az)
def cj:T2:=λd w k=>aH w d 102 λc b=>aN .i64 b (c.add 1) λe=>ap (decide (e≥1)) (aN .i64 b (c.add 1) λf=>ap (decide (f≤16)) (aN .i64 b (c.add 2) λg=>ap (decide (g≥0)) (aN .i64 b (c.add 2) λh=>aN .i64 b (c.add 1) λi=>(k (decide (h≤(aL .i64 (16 - i)))) b)) (k false b)) (k false b)) (k false b)
theorem xK:SS qi (OD cj):=sl 6 [] func160
def MN(y:T2)(az:GR):T85:=λc p avS WA w k=>aH w SM 102 λb u=>aH u SM 102 λo v=>dK 3 v o #[Iv 0,Iv avS,Iv WA] λq=>ap (ej c) (dK 3 q b SM λt=>bG 3 t b λr=>k (r,2) t) (bG 3 q o λs=>y s q λx d=>ap (!x) (dK 3 d b SM λe=>bG 3 e b λf=>k (f,10) e) (az c p 2 d λa g=>ap ((a.1,a.2).2 !=0) (dK 3 g b SM λh=>bG 3 h b λi=>k (i,(a.1,a.2).2) h) (bJ g (o.add 0) (Iv (a.1,a.2).1) λj=>bG 3 j o λl=>dK 3 j b l λm=>bG 3 m b λn=>k (n,0) m)))
theorem afK a b:E [.p,.i .i64,.i .i64,.i .i64] [.ag,.i .i64] [(qi,OD a),(iZ,yQ b)] 4296089359 [] f112=λx=>MN a b x.1 x.2.1 x.2.2.1 x.2.2.2:=bf
def uc:=MN cj az
theorem afL:SS Wf (ama uc):=so func112 (.c xK (.c jZ .z)) (afK cj az)
def uV(F:T65)(G:T65)(H:T70)(I:T85):T9:=λa sr w k=>nn a λA=>aR w (A.add 7) λp2=>F p2 sr w λf B=>nn a λC=>dK 1 B (C.add 12) (f.1,f.2).1 λi=>ap ((f.1,f.2).2 !=0) (k (f.1,f.2).2 i) (nn a λD=>aR i (D.add 7) λp8=>G p8 sr i λg j=>nn a λl=>dK 1 j (l.add 13) (g.1,g.2).1 λe=>ap ((g.1,g.2).2 !=0) (k (g.1,g.2).2 e) (nn a λm=>aR e (m.add 7) λp14=>H p14 sr e λb n=>nn a λo=>bJ n (o.add 9) (.pointer (b.1,b.2).1) λh=>ap ((b.1,b.2).2 !=0) (k (b.1,b.2).2 h) (drew h λc=>nn a λp=>aR c (p.add 7) λq=>nn a λr=>aN .i64 c (aX (r.add 1) 0) λt=>nn a λu=>aN .i64 c (aX (u.add 1) 1) λv=>I q sr t v c λd x=>nn a λy=>dK 3 x (y.add 14) (d.1,d.2).1 λz=>k (d.1,d.2).2 z)))
theorem Ll a b c d:E [.p,.i .i64] [.i .i64] [(Wd,ad8 a),(Zb,ad8 b),(We,al5 c),(Wf,ama d)] 281483566907411 [] f70=λx=>uV a b c d x.1 x.2:=bf
def fo:=uV tZ xp ua uc
abbrev CA:bu:=vt fo
theorem Ln:SS mR (vt fo):=so func70 (.c afH (.c ahv (.c afJ (.c afL .z)))) (Ll tZ xp ua uc)
def bS:T7:=λa w k=>aH w a 144 λd c=>aN .i64 c (d.add 0) λe=>k (aL .i64 (e+2)) c
theorem uC:SS rJ (xI bS):=sl 6 [] func128
def bE:T2:=λd w k=>aH w d 241 λc e=>drew e λb=>aN .i64 b (c.add 1) λf=>ap (decide (f≥0)) (aN .i64 b (c.add 1) λg=>ap (decide (g≤8)) (aN .i64 b (c.add 0) λh=>ap (decide (h≥0)) (aN .i64 b (c.add 0) λi=>aN .i64 b (c.add 1) λj=>G6 .i64 1 j λl=>(k (decide (i≤(aL .i64 (1048576 - l)))) b)) (k false b)) (k false b)) (k false b)
theorem sG:SS qy (OD bE):=sl 6 [] func186
def Dz(j:T2):T7:=λc w k=>aH w c 241 λd f=>bG 2 f d λe=>j e f λg b=>ap (!g) (k (-1) b) (aN .i64 b (d.add 0) λh=>aN .i64 b (d.add 1) λi=>k (SH .i64 (sx .i64 h 4) i) b)
theorem WB a:E [.ag] [.i .i64] [(qy,OD a)] 38 [] f162=λx=>Dz a x:=bf
def fp:=Dz bE
theorem JO:SS Dj (xI fp):=so func162 (.c sG .z) (WB bE)
def vQ(r:T45):T43:=λa b Lo d w k=>ap (ej a) (k 2 w) (r a b Lo (.func (.func iY) #[.pointer a] #[]) w λi c=>ap (i !=0) (k i c) (nn a λm=>cE c (m.add 2) λj=>cW j b 1 λn=>aN .i64 c n λo=>cW j b 1 λp=>bJ c p (Iv (aL .i64 (o+1))) λl=>nn a λq=>cE l (q.add 0) λf=>cW f Lo 1 λg=>bJ l g (Iv d) λh=>k 0 h))
theorem MO a:E [.p,.i .i64,.i .i64,.i .i64] [.i .i64] [(ja,abv a)] 527119 [] f161=λx=>vQ a x.1 x.2.1 x.2.2.1 x.2.2.2:=bf
def aM:=vQ aQ
theorem nE:SS lz (abu aM):=so func161 (.c nD .z) (MO aQ)
def MP(az:GR)(bS:T7)(fp:T7)(aM:T43):T85:=λd h MQ WA w k=>aH w #[Iv 0,Iv 0] 144 λa v=>ap (ej d) (dK 2 v a #[Iv 0,Iv 0] λH=>bG 2 H a λx=>k (x,2) H) (ap (((decide (MQ<0))||(decide (WA<MQ)))||(decide (WA>8))) (dK 2 v a #[Iv 0,Iv 0] λI=>bG 2 I a λy=>k (y,10) I) (G6 .i64 1 MQ λL=>az d h (aL .i64 (3+L)) v λc J=>ap ((c.1,c.2).2 !=0) (dK 2 J a #[Iv 0,Iv 0] λj=>bG 2 j a λl=>k (l,(c.1,c.2).2) j) (aH J #[Iv 0,Iv 0] 144 λe z=>dK 2 z e #[(Iv (c.1,c.2).1),Iv WA] λA=>aH A #[Iv 0,Iv 0] 241 λf B=>dK 2 B f #[(Iv (aL .i64 ((c.1,c.2).1+3))),Iv MQ] λC=>drew C λb=>bG 2 b e λm=>bG 2 b f λn=>bS m b λD o=>ai 2 f b o (fp n o λF G=>aM d h D F G λp g=>ap (p !=0) (dK 2 g a #[Iv 0,Iv 0] λq=>bG 2 q a λr=>k (r,p) q) (bG 2 g e λs=>dK 2 g a s λt=>bG 2 t a λu=>k (u,0) t)))))
theorem afM a b c d:E [.p,.i .i64,.i .i64,.i .i64] [.ag,.i .i64] [(iZ,yQ a),(rJ,xI b),(Dj,xI c),(lz,abu d)] 1152925902653947663 [] f113=λx=>MP a b c d x.1 x.2.1 x.2.2.1 x.2.2.2:=bf
def sH:=MP az bS fp aM
theorem afN:SS Wg (ama sH):=so func113 (.c jZ (.c uC (.c JO (.c nE .z)))) (afM az bS fp aM)
def kQ:ZI:=λa w k=>aH w a 99 λe d=>bG 1 d e λb=>kE SM 0 1 b λc=>aH d c 238 λf g=>k (some f) g
theorem SQ:SS Hh (JL kQ):=sl 6 [] func114
def th(X:T85)(kQ:ZI):T9:=λb sr w k=>jO (S:=Int) (λY B U=>ap (decide (B<sr)) (cD (S:=(Addr×Int)) (λV=>drew U λd=>nn b λC=>aR d (C.add 7) λp7=>nn b λD=>aN .i64 d (aX (D.add 1) 5) λW=>nn b λl=>aN .i64 d (aX (l.add 1) 5) λr=>both (X p7 sr (VD 2 W) r d λe F=>aH F #[Iv 0,Iv 0] 144 λs f=>ai 1 (aX (l.add 1) 5) d f (ai 1 (aX (D.add 1) 5) d f (ai 1 (C.add 7) d f (dK 2 f s (e.1,e.2).1 λG=>V (s,(e.1,e.2).2) G)))) (aH d #[Iv 0,Iv 0] 144 λt g=>ai 1 (aX (l.add 1) 5) d g (ai 1 (aX (D.add 1) 5) d g (ai 1 (C.add 7) d g (X p7 sr (VD 2 W) r g λh H=>dK 2 H t (h.1,h.2).1 λI=>V (t,(h.1,h.2).2) I))))) λi u=>ap (i.2 !=0) (k i.2 u) (drew u λj=>bG 2 j i.1 λv=>nn b λJ=>bG 1 j (J.add 12) λx=>kQ x j λL y=>ai 2 i.1 j y (kE #[.pointer b,Iv B,Iv 0,Iv 0,.pointer none,.slice none 0 0,.slice none 0 0,.nilFunc,.pointer none,.nilFunc,.pointer none,.nilFunc,.pointer none,.slice none 0 0,.bool false,.nilFunc,.nilFunc,.nilFunc,Iv 0,.nilFunc,.pointer none,Iv 0,.bool false,.bool false,.nilFunc,.nilFunc,Iv 0,.nilFunc,Iv 0,.nilFunc,Iv 0,.nilFunc] 2 2 v λz=>aH y (eM z 4 (.pointer L)) 154 λm M=>bJ M (m.add 7) (.func (.func fV) #[.pointer (some m)] #[]) λA=>nn b λN=>cE A (N.add 19) λo=>aH A #[.pointer (some m)] 141 λO P=>oh Tryz.prog #[105,105] 105 [.slice o.a o.n o.c,(.slice (some O) 1 1)] P λp Q=>nn b λR=>bJ Q (R.add 19) (.slice p.a p.n p.c) λT=>Y (aL .i64 (B+1)) T))) (k 0 U)) 0 w
theorem Jh b c:E [.p,.i .i64] [.i .i64] [(Wg,ama b),(Hh,JL c)] 17179873267 [(3,[(10,(.i .i64))]),(8,[(6,.a),(7,(.i .i64))])] f71=λx=>th b c x.1 x.2:=bf
def er:=th sH kQ
abbrev AJ:bu:=vt er
theorem Ji:SS lp (vt er):=so func71 (.c afN (.c SQ .z)) (Jh sH kQ)
def da:T35:=λa b w k=>jO (S:=Int) (λi e c=>ap (decide (e<((b.n:Nat):Int))) (cW b e 1 λj=>aN .i64 c j λg=>cD (S:=Bool) (λh=>ap ((ej a)||(decide (g<0))) (h true c) (nn a λl=>cE c (l.add 0) λm=>(h (decide (g≥((m.n:Nat):Int))) c))) λo d=>ap o (k false d) (i (aL .i64 (e+1)) d)) (k true c)) 0 w
theorem DA:SS yO (Ua da):=sl 134219731 [(3,[(9,(.i .i64))]),(8,[(27,.b)])] func184
def DB(h:T35):T6:=λa b c w k=>ap ((ej a)||(ej b)) (k 2 w) (aH w #[Iv c] 3 λe f=>h a (Sl.mk (some e) 1 1) f λg d=>ap (!g) (k 17 d) (k 0 d))
theorem WC a:E [.p,.p,.i .i64] [.i .i64] [(yO,Ua a)] 16583 [] f124=λx=>DB a x.1 x.2.1 x.2.2:=bf
def bg:=DB da
theorem pF:SS nO (qY bg):=so func124 (.c DA .z) (WC da)
def B9(C:T6)(az:GR):T51:=λb h m XV w k=>C b h XV w λv i=>ap (v !=0) (k (0,v) i) (nn b λy=>cE i (y.add 0) λz=>cW z XV 3 λA=>aN .i64 i (A.add 1) λx=>ap (decide ((aL .i64 (x+1))>32)) (k (0,23) i) (az h m 2 i λg o=>ap ((g.1,g.2).2 !=0) (k (0,(g.1,g.2).2) o) (nn b λB=>cE o (B.add 0) λe=>kE SM 0 3 #[Iv XV,(Iv (aL .i64 (x+1))),(Iv (g.1,g.2).1)] λj=>aH o j 232 λp q=>oh Tryz.prog #[233,233] 233 [.slice e.a e.n e.c,(.slice (some p) 1 1)] q λf r=>nn b λs=>bJ r (s.add 0) (.slice f.a f.n f.c) λl=>nn b λt=>cE l (t.add 0) λu=>(k ((aL .i64 (((u.n:Nat):Int) - 1)),0) l))))
theorem UK a b:E [.p,.p,.i .i64,.i .i64] [.i .i64,.i .i64] [(nO,qY a),(iZ,yQ b)] 551903837967 [] f116=λx=>B9 a b x.1 x.2.1 x.2.2.1 x.2.2.2:=bf
def cX:=B9 bg az
theorem Ca:SS vE (ad6 cX):=so func116 (.c pF (.c jZ .z)) (UK bg az)
def lj(w:World)(k:(Array Value)→aq):Prop:= aH w Ds 119 λf h=>aH h Ds 119 λg i=>jO (S:=Int) (λj d e=>ap (decide (d<8)) (GC (g.add 10) 8 d 1 λl=>bJ e l (Iv (-1)) λm=>j (aL .i64 (d+1)) m) (bG 19 e g λa=>dK 19 e f a λb=>bG 19 b f λc=>k c b)) 0 i
theorem Ue:SS Km (ajV lj):=sl 31 [(4,[(3,(.i .i64))])] func91
def Kv(az:GR):T65:=λc e w k=>aH w #[Iv 0] 116 λa h=>ap (ej c) (dK 1 h a #[Iv 0] λi=>bG 1 i a λf=>k (f,2) i) (az c e 3 h λb j=>ap ((b.1,b.2).2 !=0) (dK 1 j a #[Iv 0] λl=>bG 1 l a λg=>k (g,(b.1,b.2).2) l) (dK 1 j a #[(Iv (b.1,b.2).1)] λm=>bG 1 m a λd=>k (d,0) m))
theorem adb a:E [.p,.i .i64] [.ag,.i .i64] [(iZ,yQ a)] 262899 [] f173=λx=>Kv a x.1 x.2:=bf
def r7:=Kv az
theorem ade:SS TV (ad8 r7):=so func173 (.c jZ .z) (adb az)
def dk:T35:=λa b w k=>jO (S:=Int) (λi e c=>ap (decide (e<((b.n:Nat):Int))) (cW b e 1 λj=>aN .i64 c j λg=>cD (S:=Bool) (λh=>ap ((ej a)||(decide (g<0))) (h true c) (nn a λl=>cE c (l.add 0) λm=>(h (decide (g≥((m.n:Nat):Int))) c))) λo d=>ap o (k false d) (i (aL .i64 (e+1)) d)) (k true c)) 0 w
abbrev ZQ:bu:=Ua dk
theorem GU:SS tu (Ua dk):=sl 134219731 [(3,[(9,(.i .i64))]),(8,[(27,.b)])] func101
def GV(Z:T35):aq4:=λb Ia w k=>ap (ej b) (k (0,2) w) (cD (S:=Bool) (λP=>ap (Ia !=(-1)) (aH w #[Iv Ia] 3 λR T=>Z b (Sl.mk (some R) 1 1) T λU V=>P (!U) V) (P false w)) λW v=>ap W (k (0,17) v) (cD (S:=Bool) (λQ=>ap (Ia==(-1)) (nn b λX=>cE v (X.add 0) λx=>(Q (decide (((x.n:Nat):Int)>0)) v)) (Q false v)) λy f=>ap y (k (0,18) f) (nn b λz=>cE f (z.add 0) λo=>aH f #[Iv 0,Iv 0,.slice none 0 0] 187 λg A=>dK 3 A g #[Iv Ia,Iv 0,.slice none 0 0] λd=>cD (S:=Unit) (λp=>ap (Ia !=(-1)) (nn b λB=>cE d (B.add 0) λC=>cW C Ia 3 λh=>cE d (h.add 2) λD=>bJ d (g.add 1) (Iv ((D.n:Nat):Int)) λq=>cE q (h.add 2) λi=>aH q #[(Iv ((o.n:Nat):Int))] 3 λF G=>oh Tryz.prog #[69,69] 69 [.slice i.a i.n i.c,(.slice (some F) 1 1)] G λj H=>bJ H (h.add 2) (.slice j.a j.n j.c) λI=>p () I) (p () d)) λY J=>drew J λe=>nn b λr=>cE e (r.add 0) λl=>bG 3 e g λs=>kE #[Iv 0,Iv 0,.slice none 0 0] 0 3 s λt=>aH e t 187 λL u=>ai 1 (r.add 0) e u (oh Tryz.prog #[188,188] 188 [.slice l.a l.n l.c,(.slice (some L) 1 1)] u λm M=>nn b λN=>bJ M (N.add 0) (.slice m.a m.n m.c) λO=>k (((o.n:Nat):Int),0) O))))
theorem ZR a:E [.p,.i .i64] [.i .i64,.i .i64] [(tu,Ua a)] 2199027454963 [(5,[(12,.b)]),(8,[(22,.b)]),(14,[])] f174=λx=>GV a x.1 x.2:=bf
def pq:=GV dk
theorem ZS:SS Oj (aq5 pq):=so func174 (.c GU .z) (ZR dk)
def Cb(Q:T65)(pq:aq4):T76:=λe u anH aBV ajY v w k=>aH w v 119 λL M=>nn e λN=>aR M (N.add 7) λp4=>Q p4 u M λj O=>aH O #[Iv 0] 116 λx P=>dK 1 P x (j.1,j.2).1 λy=>ap ((j.1,j.2).2 !=0) (k (j.1,j.2).2 y) (nn e λz=>aR y (z.add 8) λp11=>pq p11 anH y λd l=>ap ((d.1,d.2).2 !=0) (k (d.1,d.2).2 l) (drew l λb=>nn e λf=>cE b (f.add 11) λh=>bG 1 b x λm=>bG 19 b L λo=>aH b #[Iv ajY] 3 λA g=>ai 19 L b g (ai 1 x b g (ai 1 (f.add 11) b g (kE #[(Iv (d.1,d.2).1),Iv aBV,Iv ajY,Iv 0,Iv 0,Iv 0,Iv 0,Iv 0,Iv 0,Iv 0,Iv 0,Iv 0,Iv 0,Iv 0,Iv 0,Iv 0,Iv 0,Iv 0,Iv 0,Iv 0,Iv 0,Iv 0,Iv 0,(.string (ByteArray.mk #[])),.slice none 0 0,.slice none 0 0,Iv 0,Iv 0] 3 1 m λp=>kE p 4 19 o λq=>ai 1 (f.add 11) b g (aH g (eM q 25 (.slice (some A) 1 1)) 122 λB r=>ai 1 (f.add 11) b r (aH r #[.pointer (some B)] 114 λC s=>ai 1 (f.add 11) b s (oh Tryz.prog #[97,97] 97 [.slice h.a h.n h.c,(.slice (some C) 1 1)] s λi D=>nn e λF=>bJ D (F.add 11) (.slice i.a i.n i.c) λt=>nn e λG=>cE t (G.add 10) λH=>cW H ajY 4 λI=>dK 4 t I #[(Iv (d.1,d.2).1),Iv 0,Iv 0,.bool false] λJ=>k 0 J))))))))
theorem UL a b:E [.p,.i .i64,.i .i64,.i .i64,.i .i64,.ag] [.i .i64] [(TV,ad8 a),(Oj,aq5 b)] 274945079327 [] f117=λx=>Cb a b x.1 x.2.1 x.2.2.1 x.2.2.2.1 x.2.2.2.2.1 x.2.2.2.2.2:=bf
def eY:=Cb r7 pq
theorem IN:SS B5 (aqu eY):=so func117 (.c ade (.c ZS .z)) (UL r7 pq)
def tJ:T52:=λf g h w k=>drew w λb=>aR b f λp2=>nn p2 λi=>cE b (i.add 0) λd=>aN .i64 b g λe=>cW d e 1 λj=>aN .i64 b j λl=>aN .i64 b h λm=>cW d e 1 λn=>bJ b n (Iv (aL .i64 (l+m))) λc=>k () c
def qQ(C:T45)(R:Addr→Addr→Addr→World→(aq)→Prop)(Q:Addr→Addr→Addr→Value→World→(aq)→Prop)(i:Option Addr)(d:Int)(Lo:Int)(aro:Int)(w:World)(k:(Int×Int)→aq):Prop:= aH w #[.pointer i] 93 λe y=>aH y #[Iv Lo] 3 λj z=>aH z #[Iv aro] 2 λA f=>aR f e λp7=>ap (ej p7) (k (0,2) f) (aR f e λp8=>aN .i64 f j λB=>aR f e λp10=>C p8 d B (.func (.func iY) #[.pointer p10] #[]) f λg a=>ap (g !=0) (k (0,g) a) (aR a e λp13=>nn p13 λl=>cE a (l.add 2) λh=>cW h d 1 λm=>aN .i64 a m λn=>cW h d 1 λo=>bJ a o (Iv (aL .i64 (n+1))) λp=>drew p λb=>aR b e λq=>nn q λr=>cE b (r.add 0) λs=>aN .i64 b j λt=>cW s t 1 λu=>aN .i64 b u λv=>R e j A b λx=>k (v,0) x))
theorem Qu(aQ:T45)(R:Addr→Addr→Addr→World→(aq)→Prop)(Q:Addr→Addr→Addr→Value→World→(aq)→Prop)(x:KT [.p,(.i .i64),(.i .i64),(.i .i64)])(w:World)(k:KT [(.i .i64),(.i .i64)]→aq):ajl Tryz.prog (j4 [(ja,(abv aQ))]) (λq=>apS [(ja,(λargs w c _=>qG [.p,(.i .i64),(.i .i64),.raw] args λx=>aQ x.1 x.2.1 x.2.2.1 x.2.2.2 w λr w=>c (eW (dz [(.i .i64)] r)) w))] q) (λl w k=>qG [.a,.a,.a] l λx=>R x.1 x.2.1 x.2.2 w k) (λl v w k=>qG [.a,.a,.a] l λx=>Q x.1 x.2.1 x.2.2 v w k) 549755813887 (aBl f175) (xD f175) (xG f175) (ayX f175) (ayW f175) f175 [(.i .i64),(.i .i64)] (dz [.p,(.i .i64),(.i .i64),(.i .i64)] x) w k=qQ aQ R Q x.1 x.2.1 x.2.2.1 x.2.2.2 w k:=bf
theorem MR(aQ:T45)(R:Addr→Addr→Addr→World→(aq)→Prop)(Q:Addr→Addr→Addr→Value→World→(aq)→Prop)(hpre:E3 Tryz.prog [(ja,(abv aQ))])(hpost:Ms Tryz.prog [(ja,(λargs w c _=>qG [.p,(.i .i64),(.i .i64),.raw] args λx=>aQ x.1 x.2.1 x.2.2.1 x.2.2.2 w λr w=>c (eW (dz [(.i .i64)] r)) w))])(hR:DR Tryz.prog vH λl w k=>qG [.a,.a,.a] l λx=>R x.1 x.2.1 x.2.2 w k)(hP:DP Tryz.prog vH λl v w k=>qG [.a,.a,.a] l λx=>Q x.1 x.2.1 x.2.2 v w k):uI Tryz.prog jV λargs w c=>qG [.p,(.i .i64),(.i .i64),(.i .i64)] args λx=>qQ aQ R Q x.1 x.2.1 x.2.2.1 x.2.2.2 w λr w=>c (eW (dz [(.i .i64),(.i .i64)] r)) w:=
 aqf (mask:=549755813887) (rid:=aBm f175) (mk:=xMk f175) (df:=xDf f175) mixed func175 bf ⟨bf,bf,bf,bf,bf,bf⟩ bf bf (Mr hpre) (λq=>apT hpost) hR hP [.p,(.i .i64),(.i .i64),(.i .i64)] [(.i .i64),(.i .i64)] bf (λx w k=>qQ aQ R Q x.1 x.2.1 x.2.2.1 x.2.2.2 w k) (λx w k=>Qu aQ R Q x w k)
theorem Lp:DR Tryz.prog vH λl w k=>qG [.a,.a,.a] l λx=>tJ x.1 x.2.1 x.2.2 w λ_ w=>k w:=
 avz (mask:=0) (h:=[]) mixed func219 (Mr (l:=[]) trivial) [.a,.a,.a] bf bf (λx w k=>tJ x.1 x.2.1 x.2.2 w k) (λx w k=>by kernel_rfl)
def aO:T36:=λa b Lo aro w k=>qQ aQ (λc d e w k=>tJ c d e w λ_ w=>k w) (λ_ _ _ _ _ _=>False) a b Lo aro w k
abbrev Qv:bu:=Zd aO
theorem m6:uI Tryz.prog jV Qv:=MR aQ _ _ ⟨nD,trivial⟩ ⟨uI.p nD,trivial⟩ Lp (λl v w k h=>by
 obtain⟨x,_,h⟩:=zb h;exact h.elim)
def AY(o:T6)(p:T36):T77:=λa b e c w k=>o a b c w λg d=>ap (g !=0) (k g d) (nn a λi=>cE d (i.add 0) λj=>cW j c 3 λl=>aN .i64 d (l.add 2) λm=>p b e (aL .i64 (m+1)) 1 d λh n=>k (h.1,h.2).2 n)
theorem SR a b:E [.p,.p,.i .i64,.i .i64] [.i .i64] [(nO,qY a),(jV,Zd b)] 133903 [] f118=λx=>AY a b x.1 x.2.1 x.2.2.1 x.2.2.2:=bf
def ey:=AY bg aO
theorem Hs:SS AR (aqv ey):=so func118 (.c pF (.c m6 .z)) (SR bg aO)
def ez:T58:=λa b w k=>aH w a 144 λg f=>bG 2 f g λc=>kE zr6 0 2 c λd=>kE #[Iv 0,Iv 0,Iv 0,Iv 0,Iv 0,Iv 0,Iv 0,.bool false,Iv 0,Iv 0,.pointer none,.nilFunc,Iv 0,Iv 0,Iv 0] 0 6 d λe=>rF (.func (.func nw) #[] #[]) (aH f (eM (eM e 6 (Iv b)) 11 (.func (.func nw) #[] #[])) 289 λh i=>k (some h) i)
theorem Ht:SS AT (ahq ez):=sl 22 [] func119
def aD:T7:=λa w k=>aH w a 144 λd c=>aN .i64 c (d.add 0) λe=>k (aL .i64 (e+1)) c
theorem kA:SS jC (xI aD):=sl 6 [] func130
def xL(q:T45):GR:=λa b Lo w k=>ap (ej a) (k (0,2) w) (q a b Lo (.func (.func iY) #[.pointer a] #[]) w λi d=>ap (i !=0) (k (0,i) d) (nn a λl=>cE d (l.add 2) λj=>cW j b 1 λm=>aN .i64 d m λn=>cW j b 1 λo=>bJ d o (Iv (aL .i64 (n+1))) λe=>nn a λp=>cE e (p.add 0) λf=>cW f Lo 1 λg=>aN .i64 e g λh=>k (h,0) e))
theorem OJ a:E [.p,.i .i64,.i .i64] [.i .i64,.i .i64] [(ja,abv a)] 263623 [] f240=λx=>xL a x.1 x.2.1 x.2.2:=bf
def aj:=xL aQ
theorem dY:SS dH (yQ aj):=so func240 (.c nD .z) (OJ aQ)
def Fc(aj:GR):T33:=λcY b c arp aBW afO w k=>aj b c arp w λa d=>nn aBW λe=>bJ d e (Iv (a.1,a.2).1) λf=>nn cY λg=>bJ f (g.add 11) afO λh=>k (0,(a.1,a.2).2) h
theorem XW a:E [.p,.p,.i .i64,.i .i64,.p,.raw] [.i .i64,.i .i64] [(dH,yQ a)] 61503 [] f220=λx=>Fc a x.1 x.2.1 x.2.2.1 x.2.2.2.1 x.2.2.2.2.1 x.2.2.2.2.2:=bf
def bc:=Fc aj
theorem oY:SS nA (Wo bc):=so func220 (.c dY .z) (XW aj)
def vR(l:T7)(m:T33):T4:=λcY b c w k=>drew w λe=>nn cY λf=>bG 2 e (aX (f.add 0) 0) λd=>nn cY λg=>l d e λh i=>m cY b c h (some (aX (g.add 0) 2)) (.func (.func rK) #[] #[]) i λa j=>k ((a.1,a.2).1,(a.1,a.2).2) j
theorem MS a b:E [.p,.p,.i .i64] [.i .i64,.i .i64] [(jC,xI a),(nA,Wo b)] 199 [] f176=λx=>vR a b x.1 x.2.1 x.2.2:=bf
def eZ:=vR aD bc
abbrev DC:bu:=lf eZ
theorem MU:SS nw (lf eZ):=so func176 (.c kA (.c oY .z)) (MS aD bc)
def bj:T7:=λa w k=>aH w a 144 λc b=>aN .i64 b (c.add 0) λe=>k e b
theorem qz:SS oK (xI bj):=sl 6 [] func129
def AZ(l:T7)(m:T33):T4:=λcY b c w k=>drew w λe=>nn cY λf=>bG 2 e (aX (f.add 0) 0) λd=>nn cY λg=>l d e λh i=>m cY b c h (some (aX (g.add 0) 3)) (.func (.func qK) #[] #[]) i λa j=>k ((a.1,a.2).1,(a.1,a.2).2) j
theorem SU a b:E [.p,.p,.i .i64] [.i .i64,.i .i64] [(oK,xI a),(nA,Wo b)] 199 [] f221=λx=>AZ a b x.1 x.2.1 x.2.2:=bf
def ix:=AZ bj bc
abbrev Hu:bu:=lf ix
theorem SV:SS rK (lf ix):=so func221 (.c qz (.c oY .z)) (SU bj bc)
def UM(p:T2):T92:=λame w k=>aH w #[Iv 0,Iv 0] 241 λe m=>aH m #[Iv 0,Iv 0] 241 λf n=>dK 2 n f #[(Iv (Ih .i64 ame 4)),(Iv (og .i64 ame 15))] λj=>bG 2 j f λh=>p h j λo i=>ap (!o) (dK 2 i e #[Iv 0,Iv 0] λl=>bG 2 l e λa=>k (a,11) l) (bG 2 i f λb=>dK 2 i e b λc=>bG 2 c e λd=>k (d,0) c)
theorem ajZ a:E [.i .i64] [.ag,.i .i64] [(qy,OD a)] 4125 [] f127=λx=>UM a x:=bf
def qR:=UM bE
theorem abA:SS UF (aqA qR):=so func127 (.c sG .z) (ajZ bE)
def Fe(n:T7)(aj:GR)(qR:T92):T6:=λcY c d w k=>nn cY λh=>bG 2 w (aX (h.add 0) 0) λe=>n e w λi j=>aj c d i j λa g=>ap ((a.1,a.2).2 !=0) (k (a.1,a.2).2 g) (qR (a.1,a.2).1 g λb l=>nn cY λm=>dK 2 l (aX (m.add 0) 4) (b.1,b.2).1 λf=>k (b.1,b.2).2 f)
theorem XX a b c:E [.p,.p,.i .i64] [.i .i64] [(rJ,xI a),(dH,yQ b),(UF,aqA c)] 4194759 [] f264=λx=>Fe a b c x.1 x.2.1 x.2.2:=bf
def dI:=Fe bS aj qR
theorem Ff:SS Ax (qY dI):=so func264 (.c uC (.c dY (.c abA .z))) (XX bS aj qR)
def DE(j:T2):T7:=λa w k=>aH w a 241 λe f=>bG 2 f e λb=>j b f λg c=>ap (!g) (k 0 c) (aN .i64 c (e.add 1) λh=>G6 .i64 1 h λi=>k i c)
theorem WD a:E [.ag] [.i .i64] [(qy,OD a)] 38 [] f131=λx=>DE a x:=bf
def cu:=DE bE
theorem yR:SS tE (xI cu):=so func131 (.c sG .z) (WD bE)
def zo(z:T6)(A:T7):T4:=λcY e f w k=>z cY e f w λr s=>ap (r !=0) (k (6,r) s) (drew s λd=>nn cY λt=>aN .i64 d (aX (t.add 0) 2) λv=>nn cY λu=>aN .i64 d (aX (u.add 0) 3) λx=>nn cY λy=>bG 2 d (aX (y.add 0) 4) λg=>A g d λh b=>ai 1 (aX (u.add 0) 3) d b (ai 1 (aX (t.add 0) 2) d b (ap (decide ((aL .i64 (v - x))<h)) (nn cY λi=>bJ b (i.add 11) (.func (.func ob) #[] #[]) λj=>k (0,0) j) (drew b λc=>nn cY λl=>aN .i64 c (aX (aX (l.add 0) 4) 1) λm=>nn cY λn=>aN .i64 c (aX (aX (n.add 0) 0) 1) λo=>ap (decide (m≥o)) (k (4,0) c) (nn cY λp=>bJ c (p.add 11) (.func (.func rO) #[] #[]) λq=>k (0,0) q)))))
theorem Qw a b:E [.p,.p,.i .i64] [.i .i64,.i .i64] [(Ax,qY a),(tE,xI b)] 2199023796679 [] f254=λx=>zo a b x.1 x.2.1 x.2.2:=bf
def gF:=zo dI cu
abbrev F7:bu:=lf gF
theorem Qx:SS qK (lf gF):=so func254 (.c Ff (.c yR .z)) (Qw dI cu)
def Qy(az:GR):arh:=λc h MQ w k=>aH w #[Iv 0,Iv 0] 241 λa i=>ap (ej c) (dK 2 i a #[Iv 0,Iv 0] λm=>bG 2 m a λj=>k (j,2) m) (ap ((decide (MQ<0))||(decide (MQ>8))) (dK 2 i a #[Iv 0,Iv 0] λn=>bG 2 n a λl=>k (l,10) n) (G6 .i64 1 MQ λq=>az c h q i λb o=>ap ((b.1,b.2).2 !=0) (dK 2 o a #[Iv 0,Iv 0] λd=>bG 2 d a λe=>k (e,(b.1,b.2).2) d) (dK 2 o a #[(Iv (b.1,b.2).1),Iv MQ] λf=>bG 2 f a λg=>k (g,0) f)))
theorem ahw a:E [.p,.i .i64,.i .i64] [.ag,.i .i64] [(iZ,yQ a)] 2147502023 [] f296=λx=>Qy a x.1 x.2.1 x.2.2:=bf
def xq:=Qy az
theorem ahx:SS Zc (ari xq):=so func296 (.c jZ .z) (ahw az)
def DF(H:T2)(I:T7):arj:=λp aBX afP abB w k=>aH w p 241 λq J=>aH J aBX 241 λo F=>cD (S:=Bool) (λG=>bG 2 F q λr=>H r F λL s=>ap (!L) (G true s) (bG 2 s o λt=>H t s λu v=>G (!u) v)) λx e=>ap x (k (none,1) e) (cD (S:=Bool) (λf=>drew e λa=>ap (decide (abB<afP)) (f true a) (bG 2 a q λg=>bG 2 a o λh=>I g a λy i=>ai 2 o a i (I h i λz A=>(f (decide ((aL .u64 ((aL .u64 abB) - (aL .u64 afP)))>(aL .u64 (VD y z)))) A)))) λB b=>ap B (k (none,10) b) (bG 2 b q λj=>bG 2 b o λl=>kE #[Iv 0,Iv 0,Iv 0,Iv 0,Iv 0,Iv 0,Iv 0,.nilFunc] 0 2 j λm=>kE m 2 2 l λn=>aH b (eM (eM n 4 (Iv afP)) 5 (Iv abB)) 380 λd C=>bJ C (d.add 7) (.func (.func rf) #[.pointer (some d)] #[]) λD=>k ((some d),0) D))
theorem WE a c:E [.ag,.ag,.i .i64,.i .i64] [.p,.i .i64] [(qy,OD a),(tE,xI c)] 1052476 [(2,[(11,.b)]),(5,[(20,.b)])] f297=λx=>DF a c x.1 x.2.1 x.2.2.1 x.2.2.2:=bf
def nc:=DF bE cu
theorem WG:SS JJ (ark nc):=so func297 (.c sG (.c yR .z)) (WE bE cu)
def A0(xq:arh)(nc:arj):T4:=λcY g h w k=>nn cY λy=>aN .i64 w (aX (aX (y.add 0) 4) 1) λz=>xq g h (aL .i64 (z+1)) w λd A=>aH A #[Iv 0,Iv 0] 241 λi B=>dK 2 B i (d.1,d.2).1 λj=>ap ((d.1,d.2).2 !=0) (k (6,(d.1,d.2).2) j) (bG 2 j i λl=>nn cY λC=>dK 2 j (C.add 8) l λm=>drew m λa=>nn cY λn=>bG 2 a (aX (n.add 0) 4) λe=>bG 2 a i λf=>nn cY λo=>aN .i64 a (aX (o.add 0) 3) λp=>nn cY λq=>aN .i64 a (aX (q.add 0) 2) λr=>nc e f p r a λb s=>nn cY λt=>bJ s (t.add 10) (.pointer (b.1,b.2).1) λu=>nn cY λv=>bJ u (v.add 11) (.func (.func qM) #[] #[]) λx=>k (0,(b.1,b.2).2) x)
theorem SX a b:E [.p,.p,.i .i64] [.i .i64,.i .i64] [(Zc,ari a),(JJ,ark b)] 16778183 [] f277=λx=>A0 a b x.1 x.2.1 x.2.2:=bf
def jw:=A0 xq nc
abbrev Hv:bu:=lf jw
theorem SY:SS rO (lf jw):=so func277 (.c ahx (.c WG .z)) (SX xq nc)
def Cc(o:T2)(p:T7):T30:=λe f w k=>aH w e 241 λc i=>bG 2 i c λg=>o g i λl j=>ap (!l) (k (-1) j) (drew j λd=>aN .i64 d (c.add 0) λm=>bG 2 d c λh=>p h d λn b=>ai 1 (c.add 0) d b ((k (aL .i64 (m+(og .i64 f (aL .i64 (n - 1))))) b)))
theorem UN a b:E [.ag,.i .i64] [.i .i64] [(qy,OD a),(tE,xI b)] 150 [] f132=λx=>Cc a b x.1 x.2:=bf
def bl:=Cc bE cu
theorem qA:SS oL (abp bl):=so func132 (.c sG (.c yR .z)) (UN bE cu)
def DG(s:T30)(aj:GR):T6:=λa c d w k=>drew w λe=>nn a λm=>bG 2 e (m.add 0) λf=>nn a λn=>aN .i64 e (n.add 4) λp=>s f p e λq r=>aj c d q r λb l=>ap ((b.1,b.2).2 !=0) (k (b.1,b.2).2 l) (nn a λg=>bJ l (g.add 6) (Iv (b.1,b.2).1) λh=>nn a λi=>bJ h (i.add 7) (.func (.func sE) #[.pointer a] #[]) λj=>k 0 j)
theorem WH a b:E [.p,.p,.i .i64] [.i .i64] [(oL,abp a),(dH,yQ b)] 33554887 [] f316=λx=>DG a b x.1 x.2.1 x.2.2:=bf
def ng:=DG bl aj
abbrev JP:bu:=qY ng
theorem WI:SS rf (qY ng):=so func316 (.c qA (.c dY .z)) (WH bl aj)
def Cd(x:T30)(y:T43):T6:=λa f g w k=>drew w λd=>nn a λr=>bG 2 d (r.add 2) λh=>nn a λs=>aN .i64 d (s.add 4) λt=>nn a λp=>aN .i64 d (p.add 6) λu=>x h t d λv q=>ai 1 (p.add 6) d q (y f g v u q λe c=>ap (e !=0) (k e c) (nn a λi=>aN .i64 c (i.add 4) λj=>nn a λl=>bJ c (l.add 4) (Iv (aL .i64 (j+1))) λm=>nn a λn=>bJ m (n.add 7) (.func (.func rf) #[.pointer a] #[]) λo=>k 0 o))
theorem UO a b:E [.p,.p,.i .i64] [.i .i64] [(oL,abp a),(lz,abu b)] 33554631 [] f341=λx=>Cd a b x.1 x.2.1 x.2.2:=bf
def lY:=Cd bl aM
abbrev IP:bu:=qY lY
theorem UP:SS sE (qY lY):=so func341 (.c qA (.c nE .z)) (UO bl aM)
def DH(u:T6)(v:T6):T40:=λa d g w k=>ap ((ej a)||(ej d)) (k (false,2) w) (drew w λe=>nn a λn=>aN .i64 e (n.add 4) λo=>nn a λp=>aN .i64 e (p.add 5) λq=>ap (o==q) (k (true,0) e) (nn a λr=>sX e (r.add 7) λs=>mT (j4 [(rf,(qY u)),(sE,(qY v))]) s #[.pointer d,Iv g] e λt m=>xy .i64 t λf=>ap (f !=0) (k (false,f) m) (drew m λc=>nn a λh=>aN .i64 c (h.add 4) λi=>nn a λj=>aN .i64 c (j.add 5) λl=>k ((i==l),0) c)))
theorem WJ a c:E [.p,.p,.i .i64] [.b,.i .i64] [(rf,qY a),(sE,qY c)] 17179935687 [] f317=λx=>DH a c x.1 x.2.1 x.2.2:=bf
def ni:=DH ng lY
theorem WK:SS JK (Wp ni):=so func317 (.c WI (.c UP .z)) (WJ ng lY)
def zq(h:T40):T4:=λcY b c w k=>nn cY λe=>aR w (e.add 10) λp2=>h p2 b c w λa d=>ap (a.1,a.2).1 (nn cY λf=>bJ d (f.add 11) (.func (.func qO) #[] #[]) λg=>k (0,(a.1,a.2).2) g) (k (0,(a.1,a.2).2) d)
theorem Qz a:E [.p,.p,.i .i64] [.i .i64,.i .i64] [(JK,Wp a)] 1049543 [] f298=λx=>zq a x.1 x.2.1 x.2.2:=bf
def iP:=zq ni
abbrev F8:bu:=lf iP
theorem QA:SS qM (lf iP):=so func298 (.c WK .z) (Qz ni)
def DI(h:T43):T67:=λcY a b arp c afO w k=>nn cY λd=>bJ w (d.add 11) afO λe=>h a b arp c e λf g=>k (0,f) g
theorem WL a:E [.p,.p,.i .i64,.i .i64,.i .i64,.raw] [.i .i64,.i .i64] [(lz,abu a)] 12351 [] f282=λx=>DI a x.1 x.2.1 x.2.2.1 x.2.2.2.1 x.2.2.2.2.1 x.2.2.2.2.2:=bf
def dc:=DI aM
theorem DJ:SS yP (al4 dc):=so func282 (.c nE .z) (WL aM)
def zu(s:T7)(t:T7)(u:T67):T4:=λcY d e w k=>nn cY λo=>bG 2 w (o.add 8) λf=>nn cY λp=>dK 2 w (aX (p.add 0) 4) f λq=>drew q λc=>nn cY λr=>bG 2 c (aX (r.add 0) 0) λg=>nn cY λn=>bG 2 c (aX (n.add 0) 4) λh=>s g c λi b=>ai 2 (aX (n.add 0) 4) c b (t h b λj l=>u cY d e i j (.func (.func ob) #[] #[]) l λa m=>k ((a.1,a.2).1,(a.1,a.2).2) m)
theorem QB a b c:E [.p,.p,.i .i64] [.i .i64,.i .i64] [(rJ,xI a),(Dj,xI b),(yP,al4 c)] 199 [] f318=λx=>zu a b c x.1 x.2.1 x.2.2:=bf
def gG:=zu bS fp dc
abbrev F9:bu:=lf gG
theorem QC:SS qO (lf gG):=so func318 (.c uC (.c JO (.c DJ .z))) (QB bS fp dc)
def xM(p:T30)(q:T67):T4:=λcY c d w k=>drew w λb=>nn cY λj=>bG 2 b (aX (j.add 0) 4) λe=>nn cY λl=>aN .i64 b (aX (l.add 0) 2) λm=>nn cY λh=>aN .i64 b (h.add 6) λn=>p e m b λo i=>ai 1 (h.add 6) b i (q cY c d o n (.func (.func qL) #[] #[]) i λa g=>k ((a.1,a.2).1,(a.1,a.2).2) g)
theorem OL a b:E [.p,.p,.i .i64] [.i .i64,.i .i64] [(oL,abp a),(yP,al4 b)] 199 [] f276=λx=>xM a b x.1 x.2.1 x.2.2:=bf
def fH:=xM bl dc
abbrev EH:bu:=lf fH
theorem OM:SS ob (lf fH):=so func276 (.c qA (.c DJ .z)) (OL bl dc)
def zv(n:T7)(o:T43):T4:=λcY b c w k=>drew w λa=>nn cY λh=>bG 2 a (aX (h.add 0) 0) λd=>nn cY λf=>aN .i64 a (aX (f.add 0) 2) λi=>n d a λj g=>ai 1 (aX (f.add 0) 2) a g (o b c j (aL .i64 (i+1)) g λl m=>k (1,l) m)
theorem QD a b:E [.p,.p,.i .i64] [.i .i64,.i .i64] [(jC,xI a),(lz,abu b)] 199 [] f295=λx=>zv a b x.1 x.2.1 x.2.2:=bf
def gH:=zv aD aM
abbrev Ga:bu:=lf gH
theorem QE:SS qL (lf gH):=so func295 (.c kA (.c nE .z)) (QD aD aM)
def xN(l:T7)(m:T33):T4:=λcY b c w k=>drew w λe=>nn cY λf=>bG 2 e (aX (f.add 0) 0) λd=>nn cY λg=>l d e λh i=>m cY b c h (some (aX (g.add 0) 2)) (.func (.func rL) #[] #[]) i λa j=>k ((a.1,a.2).1,(a.1,a.2).2) j
theorem ON a b:E [.p,.p,.i .i64] [.i .i64,.i .i64] [(jC,xI a),(nA,Wo b)] 199 [] f213=λx=>xN a b x.1 x.2.1 x.2.2:=bf
def fI:=xN aD bc
abbrev EI:bu:=lf fI
theorem OO:SS nX (lf fI):=so func213 (.c kA (.c oY .z)) (ON aD bc)
def A1(g:T6):T4:=λcY a b w k=>nn cY λc=>bJ w (c.add 11) (.func (.func rM) #[] #[]) λd=>g cY a b d λe f=>k (0,e) f
theorem SZ a:E [.p,.p,.i .i64] [.i .i64,.i .i64] [(Ax,qY a)] 199 [] f241=λx=>A1 a x.1 x.2.1 x.2.2:=bf
def iy:=A1 dI
abbrev Hw:bu:=lf iy
theorem S0:SS rL (lf iy):=so func241 (.c Ff .z) (SZ dI)
def A2(n:T7)(o:T67):T4:=λcY c d w k=>drew w λa=>nn cY λi=>bG 2 a (aX (i.add 0) 0) λe=>nn cY λg=>aN .i64 a (aX (g.add 0) 2) λj=>n e a λl h=>ai 1 (aX (g.add 0) 2) a h (o cY c d l (aL .i64 (j - 1)) (.func (.func sD) #[] #[]) h λb m=>k ((b.1,b.2).1,(b.1,b.2).2) m)
theorem S1 a b:E [.p,.p,.i .i64] [.i .i64,.i .i64] [(jC,xI a),(yP,al4 b)] 199 [] f263=λx=>A2 a b x.1 x.2.1 x.2.2:=bf
def iz:=A2 aD dc
abbrev Hx:bu:=lf iz
theorem S2:SS rM (lf iz):=so func263 (.c kA (.c DJ .z)) (S1 aD dc)
def Ce(t:T7)(u:T33):T4:=λcY d e w k=>drew w λn=>nn cY λo=>bG 2 n (aX (o.add 0) 0) λf=>nn cY λp=>t f n λq r=>u cY d e q (some (aX (p.add 0) 3)) (.func (.func qN) #[] #[]) r λa s=>drew s λc=>nn cY λg=>aN .i64 c (aX (g.add 0) 3) λh=>nn cY λi=>aN .i64 c (aX (i.add 0) 2) λj=>ap (decide (h>(aL .i64 (j - 1)))) (nn cY λl=>bJ c (l.add 11) (.func (.func pW) #[] #[]) λm=>k ((a.1,a.2).1,(a.1,a.2).2) m) (k ((a.1,a.2).1,(a.1,a.2).2) c)
theorem UQ a b:E [.p,.p,.i .i64] [.i .i64,.i .i64] [(oK,xI a),(nA,Wo b)] 274877907911 [] f283=λx=>Ce a b x.1 x.2.1 x.2.2:=bf
def js:=Ce bj bc
abbrev IQ:bu:=lf js
theorem UR:SS sD (lf js):=so func283 (.c qz (.c oY .z)) (UQ bj bc)
def zw(t:T30)(u:T33):T4:=λcY d e w k=>drew w λf=>nn cY λn=>bG 2 f (aX (n.add 0) 4) λg=>nn cY λo=>aN .i64 f (aX (o.add 0) 2) λp=>nn cY λq=>t g (aL .i64 (p - 1)) f λr s=>u cY d e r (some (q.add 13)) (.func (.func rP) #[] #[]) s λc h=>drew h λb=>nn cY λi=>aN .i64 b (aX (i.add 0) 3) λj=>nn cY λl=>aN .i64 b (aX (l.add 0) 2) λm=>ap (decide (j<(aL .i64 (m - 1)))) (k (1,(c.1,c.2).2) b) (k ((c.1,c.2).1,(c.1,c.2).2) b)
theorem QF a b:E [.p,.p,.i .i64] [.i .i64,.i .i64] [(oL,abp a),(nA,Wo b)] 8796093023175 [] f302=λx=>zw a b x.1 x.2.1 x.2.2:=bf
def gI:=zw bl bc
abbrev Gb:bu:=lf gI
theorem QG:SS qN (lf gI):=so func302 (.c qA (.c oY .z)) (QF bl bc)
def zx(v:T45):T42:=λa b Lo azG f w k=>ap (ej a) (k (false,2) w) (v a b Lo (.func (.func iY) #[.pointer a] #[]) w λo e=>ap (o !=0) (k (false,o) e) (nn a λq=>cE e (q.add 2) λp=>cW p b 1 λr=>aN .i64 e r λs=>cW p b 1 λt=>bJ e t (Iv (aL .i64 (s+1))) λd=>nn a λu=>cE d (u.add 0) λg=>cW g Lo 1 λh=>aN .i64 d h λi=>ap (i !=azG) (k (false,0) d) (nn a λj=>cE d (j.add 0) λl=>cW l Lo 1 λm=>bJ d m (Iv f) λn=>k (true,0) n)))
theorem QH a:E [.p,.i .i64,.i .i64,.i .i64,.i .i64] [.b,.i .i64] [(ja,abv a)] 2199027473439 [] f200=λx=>zx a x.1 x.2.1 x.2.2.1 x.2.2.2.1 x.2.2.2.2:=bf
def aU:=zx aQ
theorem oZ:SS mX (abt aU):=so func200 (.c nD .z) (QH aQ)
def A3(t:T7)(u:T42):T4:=λcY d e w k=>drew w λb=>nn cY λp=>bG 2 b (aX (p.add 0) 0) λf=>nn cY λn=>aN .i64 b (aX (n.add 0) 3) λq=>nn cY λo=>aN .i64 b (aX (o.add 0) 3) λr=>t f b λs g=>ai 1 (aX (o.add 0) 3) b g (ai 1 (aX (n.add 0) 3) b g (u d e s q (aL .i64 (r+1)) g λa h=>nn cY λi=>bJ h (i.add 7) (.bool (a.1,a.2).1) λj=>nn cY λl=>bJ j (l.add 11) (.func (.func pW) #[] #[]) λm=>k (0,(a.1,a.2).2) m))
theorem S3 a b:E [.p,.p,.i .i64] [.i .i64,.i .i64] [(oK,xI a),(mX,abt b)] 967 [] f323=λx=>A3 a b x.1 x.2.1 x.2.2:=bf
def iA:=A3 bj aU
abbrev Hy:bu:=lf iA
theorem S4:SS rP (lf iA):=so func323 (.c qz (.c oZ .z)) (S3 bj aU)
def A4(t:T7)(u:T43):T4:=λcY b c w k=>nn cY λv=>Ig w (v.add 7) λx=>ap x (drew w λg=>nn cY λy=>bG 2 g (aX (y.add 0) 0) λh=>nn cY λr=>aN .i64 g (aX (r.add 0) 2) λz=>t h g λA s=>ai 1 (aX (r.add 0) 2) g s (u b c A z s λj l=>k (1,j) l)) (drew w λa=>nn cY λm=>bG 2 a (aX (m.add 0) 0) λd=>nn cY λe=>aN .i64 a (aX (e.add 0) 2) λn=>t d a λo f=>ai 1 (aX (e.add 0) 2) a f (u b c o n f λp q=>k (3,p) q))
theorem S5 a b:E [.p,.p,.i .i64] [.i .i64,.i .i64] [(jC,xI a),(lz,abu b)] 4551 [] f303=λx=>A4 a b x.1 x.2.1 x.2.2:=bf
def iB:=A4 aD aM
abbrev Hz:bu:=lf iB
theorem S6:SS pW (lf iB):=so func303 (.c kA (.c nE .z)) (S5 aD aM)
def zy(l:T7)(m:T33):T4:=λcY b c w k=>drew w λe=>nn cY λf=>bG 2 e (aX (f.add 0) 0) λd=>nn cY λg=>l d e λh i=>m cY b c h (some (aX (g.add 0) 3)) (.func (.func oQ) #[] #[]) i λa j=>k ((a.1,a.2).1,(a.1,a.2).2) j
theorem QI a b:E [.p,.p,.i .i64] [.i .i64,.i .i64] [(oK,xI a),(nA,Wo b)] 199 [] f291=λx=>zy a b x.1 x.2.1 x.2.2:=bf
def gJ:=zy bj bc
abbrev Gc:bu:=lf gJ
theorem QJ:SS oP (lf gJ):=so func291 (.c qz (.c oY .z)) (QI bj bc)
def uW(r:T7)(s:T33):T4:=λcY c d w k=>drew w λl=>nn cY λm=>bG 2 l (aX (m.add 0) 0) λe=>nn cY λn=>r e l λo p=>s cY c d o (some (aX (n.add 0) 2)) (.func (.func qn) #[] #[]) p λa q=>drew q λb=>nn cY λf=>aN .i64 b (aX (f.add 0) 3) λh=>nn cY λi=>aN .i64 b (aX (i.add 0) 2) λj=>ap (decide (h≥j)) (k (3,(a.1,a.2).2) b) (k ((a.1,a.2).1,(a.1,a.2).2) b)
theorem Lq a b:E [.p,.p,.i .i64] [.i .i64,.i .i64] [(jC,xI a),(nA,Wo b)] 137438954439 [] f314=λx=>uW a b x.1 x.2.1 x.2.2:=bf
def eD:=uW aD bc
abbrev CB:bu:=lf eD
theorem Lr:SS oQ (lf eD):=so func314 (.c kA (.c oY .z)) (Lq aD bc)
def xO(g:T6):T4:=λcY a b w k=>nn cY λc=>bJ w (c.add 11) (.func (.func pE) #[] #[]) λd=>g cY a b d λe f=>k (0,e) f
theorem OP a:E [.p,.p,.i .i64] [.i .i64,.i .i64] [(Ax,qY a)] 199 [] f338=λx=>xO a x.1 x.2.1 x.2.2:=bf
def fJ:=xO dI
abbrev EJ:bu:=lf fJ
theorem OQ:SS qn (lf fJ):=so func338 (.c Ff .z) (OP dI)
def vS(o:T30)(p:T33):T4:=λcY a b w k=>drew w λc=>nn cY λg=>bG 2 c (aX (g.add 0) 4) λd=>nn cY λh=>aN .i64 c (aX (h.add 0) 3) λj=>nn cY λl=>o d j c λm n=>p cY a b m (some (l.add 13)) (.func (.func oc) #[] #[]) n λf e=>k (2,(f.1,f.2).2) e
theorem MV a b:E [.p,.p,.i .i64] [.i .i64,.i .i64] [(oL,abp a),(nA,Wo b)] 711 [] f357=λx=>vS a b x.1 x.2.1 x.2.2:=bf
def e7:=vS bl bc
abbrev DK:bu:=lf e7
theorem MW:SS pE (lf e7):=so func357 (.c qA (.c oY .z)) (MV bl bc)
def xP(p:T7)(q:T42):T4:=λcY e f w k=>drew w λb=>nn cY λl=>bG 2 b (aX (l.add 0) 0) λg=>nn cY λi=>aN .i64 b (aX (i.add 0) 3) λm=>nn cY λj=>aN .i64 b (aX (j.add 0) 3) λn=>p g b λo h=>ai 1 (aX (j.add 0) 3) b h (ai 1 (aX (i.add 0) 3) b h (q e f o m (aL .i64 (n+1)) h λa d=>ap (!(a.1,a.2).1) (k (5,(a.1,a.2).2) d) (k (1,(a.1,a.2).2) d)))
theorem OR a b:E [.p,.p,.i .i64] [.i .i64,.i .i64] [(oK,xI a),(mX,abt b)] 17179870151 [] f373=λx=>xP a b x.1 x.2.1 x.2.2:=bf
def fK:=xP bj aU
abbrev EK:bu:=lf fK
theorem OS:SS oc (lf fK):=so func373 (.c qz (.c oZ .z)) (OR bj aU)
def Fg(B:T4)(C:T4)(D:T4)(F:T4)(G:T4)(H:T4)(I:T4)(J:T4)(L:T4)(M:T4)(N:T4)(O:T4)(P:T4)(Q:T4)(R:T4)(T:T4)(U:T4)(V:T4)(W:T4)(X:T4):T6:=λcY g h w k=>ap (ej cY) (k 6 w) (cD (S:=Bool) (λs=>nn cY λt=>aN .i64 w (t.add 12) λu=>ap (u !=0) (nn cY λv=>aN .i64 w (v.add 12) λx=>s (x !=2) w) (s false w)) λy f=>ap y (nn cY λz=>aN .i64 f (z.add 12) λA=>k A f) (nn cY λj=>sX f (j.add 11) λl=>mT (j4 [(nw,(lf B)),(rK,(lf C)),(qK,(lf D)),(rO,(lf F)),(qM,(lf G)),(qO,(lf H)),(ob,(lf I)),(qL,(lf J)),(nX,(lf L)),(rL,(lf M)),(rM,(lf N)),(sD,(lf O)),(qN,(lf P)),(rP,(lf Q)),(pW,(lf R)),(oP,(lf T)),(oQ,(lf U)),(qn,(lf V)),(pE,(lf W)),(oc,(lf X))]) l #[.pointer cY,.pointer g,Iv h] f λm c=>HM [(.i .i64),(.i .i64)] m fun(b:Int×Int)=>cD (S:=Int) (λd=>ap (b.2 !=0) (d 6 c) (d b.1 c)) λe n=>nn cY λo=>bJ n (o.add 12) (Iv e) λp=>nn cY λq=>bJ p (q.add 14) (Iv b.2) λr=>k e r))
theorem XY a c d e f g h j l m n o q r s t u v y z:E [.p,.p,.i .i64] [.i .i64] [(nw,lf a),(rK,lf c),(qK,lf d),(rO,lf e),(qM,lf f),(qO,lf g),(ob,lf h),(qL,lf j),(nX,lf l),(rL,lf m),(rM,lf n),(sD,lf o),(qN,lf q),(rP,lf r),(pW,lf s),(oP,lf t),(oQ,lf u),(qn,lf v),(pE,lf y),(oc,lf z)] 2199023260615 [(5,[(12,.b)]),(10,[(7,(.i .i64))])] f120=λx=>Fg a c d e f g h j l m n o q r s t u v y z x.1 x.2.1 x.2.2:=bf
def fF:=Fg eZ ix gF jw iP gG fH gH fI iy iz js gI iA iB gJ eD fJ e7 fK
theorem Ls:SS Aw (qY fF):=so func120 (.c MU (.c SV (.c Qx (.c SY (.c QA (.c QC (.c OM (.c QE (.c OO (.c S0 (.c S2 (.c UR (.c QG (.c S4 (.c S6 (.c QJ (.c Lr (.c OQ (.c MW (.c OS .z)))))))))))))))))))) (XY eZ ix gF jw iP gG fH gH fI iy iz js gI iA iB gJ eD fJ e7 fK)
def iL:T3:=λcY w k=>ap (ej cY) (k 2 w) (nn cY λa=>aN .i64 w (a.add 14) λc=>k c w)
theorem Oo:SS BN (y6 iL):=sl 21 [] func121
def vT(cX:T51)(lj:World→((Array Value)→aq)→Prop)(eY:T76)(ey:T77)(ez:T58)(fF:T6)(iL:T3)(b:Option Addr)(sr:Int)(w:World)(k:(Int)→aq):Prop:= drew w λt=>nn b λZ=>aR t (Z.add 9) λp3=>nn b λa4=>aR t (a4.add 7) λp5=>cX p3 p5 sr 0 t λh u=>ap ((h.1,h.2).2 !=0) (k (h.1,h.2).2 u) (nn b λa8=>cE u (a8.add 10) λv=>kE #[Iv 0,Iv 0,Iv 0,.bool false] 0 4 #[(Iv (-2)),Iv 0,Iv 0,.bool false] λi=>aH u i 125 λx y=>oh Tryz.prog #[96,96] 96 [.slice v.a v.n v.c,(.slice (some x) 1 1)] y λe z=>nn b λA=>bJ z (A.add 10) (.slice e.a e.n e.c) λB=>lj B λj C=>eY b sr (-1) 0 (h.1,h.2).1 j C λl m=>ap (l !=0) (k l m) (drew m λf=>nn b λD=>aR f (D.add 9) λF=>nn b λG=>aR f (G.add 7) λH=>ey F H sr 0 f λo d=>ap (o !=0) (k o d) (nn b λI=>cE d (I.add 19) λJ=>cW J 0 1 λL=>aR d L λM=>nn M λN=>bG 2 d (N.add 2) λp=>ez p 0 d λq O=>cD (S:=Int) (λP=>jO (S:=Int) (λQ r g=>ap (r==0) (nn b λR=>aR g (R.add 7) λT=>fF q T sr g λU V=>Q U V) (P r g)) 0 O) λW s=>ap (W==6) (iL q s λX Y=>k X Y) (k 0 s))))
theorem MX a b c d e f g:E [.p,.i .i64] [.i .i64] [(vE,ad6 a),(Km,ajV b),(B5,aqu c),(AR,aqv d),(AT,ahq e),(Aw,qY f),(BN,y6 g)] 302821822780406163834867 [(16,[(10,(.i .i64))]),(17,[(10,(.i .i64))])] f72=λx=>vT a b c d e f g x.1 x.2:=bf
def fY:=vT cX lj eY ey ez fF iL
abbrev DM:bu:=vt fY
theorem MY:SS nu (vt fY):=so func72 (.c Ca (.c Ue (.c IN (.c Hs (.c Ht (.c Ls (.c Oo .z))))))) (MX cX lj eY ey ez fF iL)
def MZ(m5:T2)(oA:T2)(sF:T82)(uU:World→((Option Addr)→aq)→Prop)(nK:World→((Option Addr)→aq)→Prop)(mS:World→((Option Addr)→aq)→Prop)(fo:T9)(er:T9)(fY:T9)(g2:Array Value)(g3:Array Value)(w:World)(k:(Option Addr×Int)→aq):Prop:= aH w g2 24 λe w2=>aH w2 g3 43 λd w4=>bG 1 w4 e λg4=>m5 g4 w4 λb6 w7=>ap (!b6) (k (none,24) w7) (bG 6 w7 d λg6=>oA g6 w7 λb9 o=>ap (!b9) (k (none,10) o) (aN .i64 o (d.add 0) λb3=>aN .i64 o (d.add 1) λb4=>aN .i64 o (d.add 2) λg7=>sF g7 (aL .i64 (b3+b4)) o λb b5=>ap ((b.1,b.2).2 !=0) (k (none,(b.1,b.2).2) b5) (cD (S:=(Option Addr)) (λi=>drew b5 λa=>bG 1 a e λf=>bG 6 a d λg=>both (uU a λn j=>ai 6 d a j (ai 1 e a j (both (nK j λJ l=>ai 6 d a l (ai 1 e a l (both (mS l λg8 q=>ai 6 d a q (ai 1 e a q (ai 6 d a q (ai 1 e a q (kE #[Iv 0,Iv 0,Iv 0,.bool false] 0 4 #[(Iv (-1)),Iv 0,Iv 0,.bool false] λb7=>aH q b7 125 λg9 L=>ai 6 d a L (ai 1 e a L (kE #[.slice none 0 0,Iv 0,Iv 0,Iv 0,Iv 0,Iv 0,Iv 0,.pointer none,.pointer none,.pointer none,.slice none 0 0,.slice none 0 0,Iv 0,Iv 0,Iv 0,Iv 0,Iv 0,.pointer none,.pointer none,.slice none 0 0,Iv 0,Iv 0] 0 1 f λb8=>kE b8 1 6 g λc0=>aH L (eM (eM (eM (eM (eM c0 7 (.pointer (b.1,b.2).1)) 8 (.pointer n)) 17 (.pointer J)) 18 (.pointer g8)) 10 (.slice (some g9) 1 1)) 107 λh0 h1=>i (some h0) h1))))))) (ai 6 d a l (ai 1 e a l (both (mS l λh2 M=>ai 6 d a M (ai 1 e a M (kE #[Iv 0,Iv 0,Iv 0,.bool false] 0 4 #[(Iv (-1)),Iv 0,Iv 0,.bool false] λc1=>aH M c1 125 λh3 N=>ai 6 d a N (ai 1 e a N (kE #[.slice none 0 0,Iv 0,Iv 0,Iv 0,Iv 0,Iv 0,Iv 0,.pointer none,.pointer none,.pointer none,.slice none 0 0,.slice none 0 0,Iv 0,Iv 0,Iv 0,Iv 0,Iv 0,.pointer none,.pointer none,.slice none 0 0,Iv 0,Iv 0] 0 1 f λc2=>kE c2 1 6 g λc3=>aH N (eM (eM (eM (eM (eM c3 7 (.pointer (b.1,b.2).1)) 8 (.pointer n)) 17 (.pointer J)) 18 (.pointer h2)) 10 (.slice (some h3) 1 1)) 107 λh4 h5=>i (some h4) h5))))) (kE #[Iv 0,Iv 0,Iv 0,.bool false] 0 4 #[(Iv (-1)),Iv 0,Iv 0,.bool false] λc4=>aH l c4 125 λh6 O=>ai 6 d a O (ai 1 e a O (mS O λh7 P=>ai 6 d a P (ai 1 e a P (kE #[.slice none 0 0,Iv 0,Iv 0,Iv 0,Iv 0,Iv 0,Iv 0,.pointer none,.pointer none,.pointer none,.slice none 0 0,.slice none 0 0,Iv 0,Iv 0,Iv 0,Iv 0,Iv 0,.pointer none,.pointer none,.slice none 0 0,Iv 0,Iv 0] 0 1 f λc5=>kE c5 1 6 g λc6=>aH P (eM (eM (eM (eM (eM c6 7 (.pointer (b.1,b.2).1)) 8 (.pointer n)) 17 (.pointer J)) 18 (.pointer h7)) 10 (.slice (some h6) 1 1)) 107 λh8 h9=>i (some h8) h9))))))))))) (ai 6 d a j (ai 1 e a j (both (nK j λc7 D=>ai 6 d a D (ai 1 e a D (both (mS D λi0 Q=>ai 6 d a Q (ai 1 e a Q (kE #[Iv 0,Iv 0,Iv 0,.bool false] 0 4 #[(Iv (-1)),Iv 0,Iv 0,.bool false] λc8=>aH Q c8 125 λi1 R=>ai 6 d a R (ai 1 e a R (kE #[.slice none 0 0,Iv 0,Iv 0,Iv 0,Iv 0,Iv 0,Iv 0,.pointer none,.pointer none,.pointer none,.slice none 0 0,.slice none 0 0,Iv 0,Iv 0,Iv 0,Iv 0,Iv 0,.pointer none,.pointer none,.slice none 0 0,Iv 0,Iv 0] 0 1 f λc9=>kE c9 1 6 g λd0=>aH R (eM (eM (eM (eM (eM d0 7 (.pointer (b.1,b.2).1)) 8 (.pointer n)) 17 (.pointer c7)) 18 (.pointer i0)) 10 (.slice (some i1) 1 1)) 107 λi2 i3=>i (some i2) i3))))) (kE #[Iv 0,Iv 0,Iv 0,.bool false] 0 4 #[(Iv (-1)),Iv 0,Iv 0,.bool false] λd1=>aH D d1 125 λi4 T=>ai 6 d a T (ai 1 e a T (mS T λi5 U=>ai 6 d a U (ai 1 e a U (kE #[.slice none 0 0,Iv 0,Iv 0,Iv 0,Iv 0,Iv 0,Iv 0,.pointer none,.pointer none,.pointer none,.slice none 0 0,.slice none 0 0,Iv 0,Iv 0,Iv 0,Iv 0,Iv 0,.pointer none,.pointer none,.slice none 0 0,Iv 0,Iv 0] 0 1 f λd2=>kE d2 1 6 g λd3=>aH U (eM (eM (eM (eM (eM d3 7 (.pointer (b.1,b.2).1)) 8 (.pointer n)) 17 (.pointer c7)) 18 (.pointer i5)) 10 (.slice (some i4) 1 1)) 107 λi6 i7=>i (some i6) i7)))))))) (kE #[Iv 0,Iv 0,Iv 0,.bool false] 0 4 #[(Iv (-1)),Iv 0,Iv 0,.bool false] λd4=>aH j d4 125 λi8 V=>ai 6 d a V (ai 1 e a V (nK V λi9 W=>ai 6 d a W (ai 1 e a W (mS W λj0 X=>ai 6 d a X (ai 1 e a X (kE #[.slice none 0 0,Iv 0,Iv 0,Iv 0,Iv 0,Iv 0,Iv 0,.pointer none,.pointer none,.pointer none,.slice none 0 0,.slice none 0 0,Iv 0,Iv 0,Iv 0,Iv 0,Iv 0,.pointer none,.pointer none,.slice none 0 0,Iv 0,Iv 0] 0 1 f λd5=>kE d5 1 6 g λd6=>aH X (eM (eM (eM (eM (eM d6 7 (.pointer (b.1,b.2).1)) 8 (.pointer n)) 17 (.pointer i9)) 18 (.pointer j0)) 10 (.slice (some i8) 1 1)) 107 λj1 j2=>i (some j1) j2))))))))))))) (ai 6 d a a (ai 1 e a a (both (uU a λY F=>ai 6 d a F (ai 1 e a F (both (nK F λd7 G=>ai 6 d a G (ai 1 e a G (both (mS G λj3 Z=>ai 6 d a Z (ai 1 e a Z (kE #[Iv 0,Iv 0,Iv 0,.bool false] 0 4 #[(Iv (-1)),Iv 0,Iv 0,.bool false] λd8=>aH Z d8 125 λj5 a0=>ai 6 d a a0 (ai 1 e a a0 (kE #[.slice none 0 0,Iv 0,Iv 0,Iv 0,Iv 0,Iv 0,Iv 0,.pointer none,.pointer none,.pointer none,.slice none 0 0,.slice none 0 0,Iv 0,Iv 0,Iv 0,Iv 0,Iv 0,.pointer none,.pointer none,.slice none 0 0,Iv 0,Iv 0] 0 1 f λd9=>kE d9 1 6 g λe0=>aH a0 (eM (eM (eM (eM (eM e0 7 (.pointer (b.1,b.2).1)) 8 (.pointer Y)) 17 (.pointer d7)) 18 (.pointer j3)) 10 (.slice (some j5) 1 1)) 107 λj6 j7=>i (some j6) j7))))) (kE #[Iv 0,Iv 0,Iv 0,.bool false] 0 4 #[(Iv (-1)),Iv 0,Iv 0,.bool false] λe1=>aH G e1 125 λj8 a2=>ai 6 d a a2 (ai 1 e a a2 (mS a2 λj9 a4=>ai 6 d a a4 (ai 1 e a a4 (kE #[.slice none 0 0,Iv 0,Iv 0,Iv 0,Iv 0,Iv 0,Iv 0,.pointer none,.pointer none,.pointer none,.slice none 0 0,.slice none 0 0,Iv 0,Iv 0,Iv 0,Iv 0,Iv 0,.pointer none,.pointer none,.slice none 0 0,Iv 0,Iv 0] 0 1 f λa5=>kE a5 1 6 g λa6=>aH a4 (eM (eM (eM (eM (eM a6 7 (.pointer (b.1,b.2).1)) 8 (.pointer Y)) 17 (.pointer d7)) 18 (.pointer j9)) 10 (.slice (some j8) 1 1)) 107 λe2 e3=>i (some e2) e3)))))))) (kE #[Iv 0,Iv 0,Iv 0,.bool false] 0 4 #[(Iv (-1)),Iv 0,Iv 0,.bool false] λa7=>aH F a7 125 λe4 s=>ai 6 d a s (ai 1 e a s (nK s λe5 t=>ai 6 d a t (ai 1 e a t (mS t λe6 u=>ai 6 d a u (ai 1 e a u (kE #[.slice none 0 0,Iv 0,Iv 0,Iv 0,Iv 0,Iv 0,Iv 0,.pointer none,.pointer none,.pointer none,.slice none 0 0,.slice none 0 0,Iv 0,Iv 0,Iv 0,Iv 0,Iv 0,.pointer none,.pointer none,.slice none 0 0,Iv 0,Iv 0] 0 1 f λa8=>kE a8 1 6 g λa9=>aH u (eM (eM (eM (eM (eM a9 7 (.pointer (b.1,b.2).1)) 8 (.pointer Y)) 17 (.pointer e5)) 18 (.pointer e6)) 10 (.slice (some e4) 1 1)) 107 λe7 e8=>i (some e7) e8)))))))))) (kE #[Iv 0,Iv 0,Iv 0,.bool false] 0 4 #[(Iv (-1)),Iv 0,Iv 0,.bool false] λb0=>aH a b0 125 λe9 v=>ai 6 d a v (ai 1 e a v (uU v λf0 y=>ai 6 d a y (ai 1 e a y (nK y λf1 z=>ai 6 d a z (ai 1 e a z (mS z λf2 A=>ai 6 d a A (ai 1 e a A (kE #[.slice none 0 0,Iv 0,Iv 0,Iv 0,Iv 0,Iv 0,Iv 0,.pointer none,.pointer none,.pointer none,.slice none 0 0,.slice none 0 0,Iv 0,Iv 0,Iv 0,Iv 0,Iv 0,.pointer none,.pointer none,.slice none 0 0,Iv 0,Iv 0] 0 1 f λb1=>kE b1 1 6 g λb2=>aH A (eM (eM (eM (eM (eM b2 7 (.pointer (b.1,b.2).1)) 8 (.pointer f0)) 17 (.pointer f1)) 18 (.pointer f2)) 10 (.slice (some e9) 1 1)) 107 λf3 f4=>i (some f3) f4))))))))))))) λh f5=>rF (.func (.func mR) #[.pointer h] #[]) (rF (.func (.func lp) #[.pointer h] #[]) (rF (.func (.func nu) #[.pointer h] #[]) (aH f5 #[(.func (.func mR) #[.pointer h] #[]),(.func (.func lp) #[.pointer h] #[]),(.func (.func nu) #[.pointer h] #[])] 132 λf6 f7=>jO (S:=Int) (λf8 B C=>ap (decide (B<((3:Nat):Int))) (cW (Sl.mk (some f6) 3 3) B 1 λf9=>sX C f9 λg0=>mT (j4 [(E8,(OD m5)),(GN,(OD oA)),(ME,(aqy sF)),(UE,(λargs w c=>qG [] args λx=>uU w λr w=>c (eW (dz [.p] r)) w)),(MF,(λargs w c=>qG [] args λx=>nK w λr w=>c (eW (dz [.p] r)) w)),(Qq,(λargs w c=>qG [] args λx=>mS w λr w=>c (eW (dz [.p] r)) w)),(mR,(vt fo)),(lp,(vt er)),(nu,(vt fY))]) g0 #[(Iv (aL .i64 (b3+b4)))] C λg1 H=>xy .i64 g1 λI=>ap (I !=0) (k (none,I) H) (f8 (aL .i64 (B+1)) H)) (k (h,0) C)) 0 f7))))))
theorem afQ a b c d e f g h j:E [.ag,.ag] [.p,.i .i64] [(E8,OD a),(GN,OD b),(ME,aqy c),(UE,XP d),(MF,XP e),(Qq,XP f),(mR,vt g),(lp,vt h),(nu,vt j)] 4679240021428484092 [(12,[(9,.p)]),(16,[(54,(.i .i64))])] f26=λx=>MZ a b c d e f g h j x.1 x.2:=bf
def pG:=MZ m5 oA sF uU nK mS fo er fY
theorem afR:SS Wc (ayn pG):=so func26 (.c XU (.c ZP (.c afE (.c ajW (.c afF (.c ahs (.c Ln (.c Ji (.c MY .z))))))))) (afQ m5 oA sF uU nK mS fo er fY)
def rT:T38:=λabC tY XZ w k=>ap ((((((decide (abC<0))||(decide (abC>1048576)))||(decide (tY<1)))||(decide (tY>16)))||(decide (XZ<1)))||(decide (XZ>1048576))) (k 0 w) ((k (aL .i64 ((aL .i64 ((aL .i64 (1000*XZ))*(aL .i64 (tY+2))))*(aL .i64 (abC+2)))) w))
theorem abD:SS Qp (ayo rT):=sl 268435527 [] func35
def xQ(m:T1):T9:=λa aht w k=>cD (S:=Bool) (λc=>ap (ej a) (c true w) (m a aht w λd e=>c (!d) e)) λf b=>ap f (k 0 b) (nn a λg=>cE b (g.add 0) λh=>cW h aht 1 λi=>aN .i64 b i λl=>k l b)
theorem OT a:E [.p,.i .i64] [.i .i64] [(iY,qd a)] 4115 [(1,[(12,.b)])] f103=λx=>xQ a x.1 x.2:=bf
def aZ:=xQ cZ
theorem qo:SS nU (vt aZ):=so func103 (.c Dy .z) (OT cZ)
def xR(D:T9):T81:=λtX f w k=>aH w tX 116 λx v=>ap (ej f) (k (0,(0,0)) v) (aH v SM 192 λb y=>cD (S:=Unit) (λz=>jO (S:=Int) (λA g h=>ap (decide (g<3)) (aN .i64 h (x.add 0) λB=>D f (aL .i64 (B+g)) h λi j=>GC b 3 g 1 λl=>bJ j l (Iv i) λm=>A (aL .i64 (g+1)) m) (z () h)) 0 y) λC e=>aN .i64 e (b.add 0) λn=>ap (decide (n<2)) (bJ e (b.add 1) (Iv 0) λo=>drew o λc=>aN .i64 c (b.add 0) λp=>aN .i64 c (b.add 1) λq=>aN .i64 c (b.add 2) λr=>k (p,(q,r)) c) (drew e λd=>aN .i64 d (b.add 0) λs=>aN .i64 d (b.add 1) λt=>aN .i64 d (b.add 2) λu=>k (s,(t,u)) d))
theorem OU a:E [.ag,.p] [.i .i64,.i .i64,.i .i64] [(nU,vt a)] 33562102 [(6,[]),(7,[(11,(.i .i64))])] f63=λx=>xR a x.1 x.2:=bf
def di:=xR aZ
abbrev OV:bu:=al9 di
theorem EL:SS sP (al9 di):=so func63 (.c qo .z) (OU aZ)
def tK(A:T81):Wl:=λb w k=>ap (ej b) (k false w) (nn b λs=>cE w (s.add 19) λr=>cD (S:=Unit) (λt=>jO (S:=Int) (λu f d=>ap (decide (f<((r.n:Nat):Int))) (cW r f 1 λv=>aR d v λp8=>nn p8 λx=>cE d (x.add 5) λg=>ap (decide (((g.n:Nat):Int)>0)) (k false d) (u (aL .i64 (f+1)) d)) (t () d)) 0 w) λz h=>drew h λa=>nn b λi=>cE a (i.add 11) λj=>cW j 0 1 λl=>aR a l λp17=>nn p17 λm=>bG 1 a (m.add 3) λe=>nn b λo=>aR a (o.add 7) λp=>A e p a λc q=>(k (decide ((c.1,(c.2.1,c.2.2)).1≥2)) q))
theorem QK a:E [.p] [.b] [(sP,al9 a)] 16900661 [(5,[]),(6,[(15,(.i .i64))])] f46=λx=>tK a x:=bf
def cf:=tK di
theorem zA:SS tD (Lh cf):=so func46 (.c EL .z) (QK di)
def cK:T3:=λa w k=>ap (ej a) (k 2 w) (nn a λb=>aN .i64 w (b.add 21) λd=>k d w)
theorem Cf:SS vC (y6 cK):=sl 21 [] func31
def dS:T7:=λb w k=>aH w b 102 λd c=>aN .i64 c (d.add 1) λe=>G6 .i64 1 e λf=>k (aL .i64 (f - 1)) c
theorem Gd:SS zj (xI dS):=sl 6 [] func185
def zB(t:T2)(u:T7)(v:T9):T69:=λg a w k=>aH w g 102 λe h=>cD (S:=Bool) (λo=>ap (ej a) (o true h) (bG 3 h e λi=>t i h λq r=>o (!q) r)) λs p=>ap s (k 0 p) (drew p λf=>bG 3 f e λb=>aN .i64 f (e.add 0) λj=>u b f λl d=>ai 1 (e.add 0) f d (v a (aL .i64 (j+1)) d λm n=>k (SH .i64 l m) n))
theorem QL a c d:E [.ag,.p] [.i .i64] [(qi,OD a),(zj,xI c),(nU,vt d)] 2070 [(1,[(11,.b)])] f125=λx=>zB a c d x.1 x.2:=bf
def dU:=zB cj dS aZ
theorem Ge:SS zi (aqp dU):=so func125 (.c xK (.c Gd (.c qo .z))) (QL cj dS aZ)
def ko:T59:=λM0 a w k=>ap ((decide (a≥0))&&(decide (a<64))) (alz .i64 M0 a λc=>k ((og .i64 c 1)==1) w) (k false w)
theorem QM:SS JD (al2 ko):=sl 19 [] func81
def Cg(l:T69)(m:T59):T53:=λa b c w k=>aH w a 102 λf e=>bG 3 e f λd=>l d b e λg h=>m g c h λi j=>k i j
theorem US a c:E [.ag,.p,.i .i64] [.b] [(zi,aqp a),(JD,al2 c)] 78 [] f78=λx=>Cg a c x.1 x.2.1 x.2.2:=bf
def dA:=Cg dU ko
theorem IR:SS sC (abx dA):=so func78 (.c Ge (.c QM .z)) (US dU ko)
def dB:T3:=λa w k=>ap (ej a) (k 0 w) (nn a λb=>cE w (b.add 0) λc=>k ((c.n:Nat):Int) w)
theorem EM:SS xC (y6 dB):=sl 21 [] func73
def xS(o:T3)(p:T9):T53:=λf a afS w k=>aH w f 99 λd h=>drew h λb=>ap (!(ej a)) (aN .i64 b (d.add 0) λi=>ap (decide (i≥0)) (aN .i64 b (d.add 0) λj=>o a b λl e=>ai 1 (d.add 0) b e (ap (decide (j<l)) (aN .i64 e (d.add 0) λm=>p a m e λn g=>k (n==afS) g) (k false e))) (k false b)) (k false b)
theorem OW a c:E [.ag,.p,.i .i64] [.b] [(xC,y6 a),(nU,vt c)] 78 [] f126=λx=>xS a c x.1 x.2.1 x.2.2:=bf
def jH:=xS dB aZ
theorem OX:SS Et (abx jH):=so func126 (.c EM (.c qo .z)) (OW dB aZ)
def zC(n:T53):T64:=λa c w k=>drew w λb=>ap (!(ej a)) (nn a λf=>aN .i64 b (f.add 1) λg=>ap (g==2) (nn a λh=>bG 1 b (h.add 0) λe=>nn a λi=>aN .i64 b (i.add 2) λj=>n e c j b λl m=>k l m) (k false b)) (k false b)
theorem QN a:E [.p,.p] [.b] [(Et,abx a)] 19 [] f79=λx=>zC a x.1 x.2:=bf
def cP:=zC jH
theorem Gf:SS qJ (ahr cP):=so func79 (.c OX .z) (QN jH)
def ae:T1:=λb a w k=>cD (S:=Bool) (λc=>ap (a !=0) (nn b λe=>aN .i64 w (e.add 21) λg=>c (g==0) w) (c false w)) λh d=>ap h (nn b λi=>bJ d (i.add 21) (Iv a) λj=>k (a !=0) j) (k (a !=0) d)
theorem bq:SS be (qd ae):=sl 8211 [(1,[(13,.b)])] func153
def cG:T3:=λcY w k=>cD (S:=Bool) (λb=>ap (ej cY) (b true w) (nn cY λd=>aN .i64 w (d.add 12) λe=>ap (e !=2) (nn cY λf=>aN .i64 w (f.add 12) λg=>b (g !=1) w) (b false w))) λh c=>ap h (k 0 c) (nn cY λi=>aN .i64 c (i.add 13) λj=>k j c)
theorem BO:SS pZ (y6 cG):=sl 262149 [(1,[(18,.b)])] func168
def bi:Wm:=λa b avT w k=>nn a λc=>bJ w (c.add 18) (Iv b) λd=>nn a λe=>bJ d (e.add 19) avT λf=>nn a λg=>bJ f (g.add 7) (.func (.func lA) #[.pointer a] #[]) λh=>k () h
theorem qS:SS oN (Li bi):=sl 0 [] func167
def dg:T68:=λa avU azH avV w k=>nn a λb=>bJ w (b.add 15) avU λc=>nn a λd=>bJ c (d.add 16) azH λe=>nn a λf=>bJ e (f.add 17) avV λg=>nn a λh=>bJ g (h.add 7) (.func (.func lB) #[.pointer a] #[]) λi=>k () i
theorem DN:SS vG (aqo dg):=sl 0 [] func169
def vU(h:T3)(bi:Wm)(dg:T68):T27:=λahy a w k=>ap (ahy==1) (drew w λb=>aR b a λp2=>aR b a λp3=>nn p3 λe=>aR b (e.add 8) λp5=>aR b a λp6=>h p5 b λf c=>ai 1 a b c (ai 1 a b c (bi p2 f (.func (.func fV) #[.pointer p6] #[]) c λ_u g=>k () g))) (aR w a λp10=>aR w a λp11=>dg p10 (.func (.func j6) #[] #[]) (.func (.func om) #[] #[.pointer (some a)]) (.func (.func qj) #[.pointer p11] #[]) w λ_u d=>k () d)
theorem M1 b c d:E [.i .i64,.a] [] [(pZ,y6 b),(oN,Li c),(vG,aqo d)] 18 [] f166=λx=>vU b c d x.1 x.2:=bf
def fZ:=vU cG bi dg
abbrev DO:bu:=Hq fZ
theorem M2:SS pC (Hq fZ):=so func166 (.c BO (.c qS (.c DN .z))) (M1 cG bi dg)
def jA:ZI:=λa w k=>aH w a 144 λf e=>bG 2 e f λb=>kE zr6 0 2 b λc=>kE #[Iv 0,Iv 0,Iv 0,Iv 0,Iv 0,Iv 0,Iv 0,.bool false,Iv 0,Iv 0,.pointer none,.nilFunc,Iv 0,Iv 0,Iv 0] 0 6 c λd=>rF (.func (.func oP) #[] #[]) (aH e (eM d 11 (.func (.func oP) #[] #[])) 289 λg h=>k (some g) h)
theorem QO:SS zk (JL jA):=sl 6 [] func270
def bt:T39:=λa arq ars w k=>nn a λb=>bJ w (b.add 8) (.pointer arq) λc=>nn a λd=>bJ c (d.add 9) ars λe=>nn a λf=>bJ e (f.add 7) (.func (.func kH) #[.pointer a] #[]) λg=>k () g
theorem sS:SS my (abq bt):=sl 0 [] func164
def jh:T58:=λa WM w k=>aH w a 102 λf e=>bG 3 e f λb=>kE #[Iv 0,Iv 0,Iv 0,Iv 0,Iv 0,Iv 0,Iv 0,.nilFunc] 0 3 b λc=>aH e (eM (eM c 3 (Iv WM)) 6 (Iv (-1))) 346 λd g=>bJ g (d.add 7) (.func (.func uO) #[.pointer (some d)] #[]) λh=>k (some d) h
theorem M3:SS Dk (ahq jh):=sl 54 [] func216
def xT(B:T58):T0:=λa w k=>nn a λt=>Ig w (t.add 14) λu=>ap u (nn a λv=>bJ w (v.add 7) (.func (.func fV) #[.pointer a] #[]) λx=>k () x) (drew w λc=>nn a λy=>aN .i64 c (y.add 1) λz=>nn a λA=>aR c (A.add 0) λp9=>nn p9 λf=>aN .i64 c (aX (f.add 1) 0) λg=>ap (decide (z≥g)) (drew c λb=>nn a λh=>aR b (h.add 0) λp14=>nn p14 λi=>bG 3 b (i.add 14) λe=>nn a λj=>aN .i64 b (j.add 1) λl=>B e l b λp19 m=>nn a λn=>bJ m (n.add 12) (.pointer p19) λo=>nn a λp=>bJ o (p.add 7) (.func (.func lC) #[.pointer a] #[]) λq=>k () q) (nn a λr=>bJ c (r.add 7) (.func (.func mb) #[.pointer a] #[]) λs=>k () s))
theorem OY a:E [.p] [] [(Dk,ahq a)] 131201 [] f172=λx=>xT a x:=bf
def gY:=xT jh
abbrev EN:bu:=cg gY
theorem OZ:SS qj (cg gY):=so func172 (.c M3 .z) (OY jh)
def jI:ZI:=λa w k=>aH w a 102 λf e=>bG 3 e f λb=>kE #[Iv 0,Iv 0,Iv 0,Iv 0,Iv 0,Iv 0,Iv 0,.nilFunc] 0 3 b λc=>aH e (eM c 6 (Iv (-1))) 346 λd g=>bJ g (d.add 7) (.func (.func uS) #[.pointer (some d)] #[]) λh=>k (some d) h
theorem O0:SS EA (JL jI):=sl 14 [] func391
def e9:T3:=λa w k=>ap (ej a) (k 2 w) (nn a λb=>aN .i64 w (b.add 1) λd=>ap (d !=1) (k 19 w) (nn a λe=>bJ w (e.add 1) (Iv 2) λf=>k 0 f))
theorem IS:SS B7 (y6 e9):=sl 77 [] func252
def uX(jI:ZI)(e9:T3)(ae:T1):T0:=λa w k=>nn a λH=>Ig w (H.add 14) λI=>ap I (nn a λJ=>sX w (J.add 24) λL=>nn a λM=>bJ w (M.add 7) L λN=>k () N) (cD (S:=Bool) (λG=>nn a λO=>aR w (O.add 20) λp9=>ap (!(ej p9)) (nn a λh=>Ig w (h.add 22) λi=>G (!i) w) (G false w)) λj b=>ap j (nn a λl=>bJ b (l.add 7) (.func (.func j7) #[.pointer a] #[]) λm=>k () m) (nn a λn=>Ig b (n.add 23) λo=>ap (!o) (nn a λp=>aR b (p.add 0) λp19=>nn p19 λq=>bG 3 b (q.add 14) λd=>jI d b λr s=>nn a λt=>bJ s (t.add 12) (.pointer r) λu=>nn a λv=>bJ u (v.add 7) (.func (.func mG) #[.pointer a] #[]) λx=>k () x) (drew b λc=>nn a λe=>aR c (e.add 0) λy=>nn a λz=>aR c (z.add 4) λA=>e9 A c λB f=>ai 1 (e.add 0) c f (ae y B f λC g=>ap (!C) (nn a λD=>bJ g (D.add 7) (.func (.func m4) #[.pointer a] #[]) λF=>k () F) (k () g)))))
theorem Lt a c d:E [.p] [] [(EA,JL a),(B7,y6 c),(be,qd d)] 281476050718721 [(4,[(30,.b)])] f384=λx=>uX a c d x:=bf
def fq:=uX jI e9 ae
abbrev CC:bu:=cg fq
theorem Lu:SS oV (cg fq):=so func384 (.c O0 (.c IS (.c bq .z))) (Lt jI e9 ae)
def vW(jA:ZI)(bt:T39)(gY:T0)(fq:T0):T0:=λb w k=>nn b λy=>cE w (y.add 13) λz=>ap (((z.n:Nat):Int)==0) (nn b λA=>sX w (A.add 17) λB=>mT (j4 [(zk,(JL jA)),(my,(abq bt)),(qj,(cg gY)),(oV,(cg fq))]) B #[] w λC D=>HM [] C fun(H:Unit)=>k () D) (drew w λd=>nn b λF=>aR d (F.add 0) λp10=>nn p10 λh=>cE d (h.add 19) λi=>nn b λj=>cE d (j.add 13) λl=>cW l 0 1 λm=>aN .i64 d m λo=>cW i o 1 λp=>aR d p λp18=>nn b λq=>cE d (q.add 13) λr=>slL r 1 1 λe=>nn b λs=>bJ d (s.add 13) (.slice e.a e.n e.c) λf=>nn p18 λt=>bG 2 f (t.add 2) λg=>jA g f λu v=>bt b u (.func (.func rN) #[.pointer b] #[]) v λ_u x=>k () x)
theorem M4 a b c d:E [.p] [] [(zk,JL a),(my,abq b),(qj,cg c),(oV,cg d)] 261 [] f247=λx=>vW a b c d x:=bf
def bR:=vW jA bt gY fq
theorem vX:SS nB (cg bR):=so func247 (.c QO (.c sS (.c OZ (.c Lu .z)))) (M4 jA bt gY fq)
def ia:UG:=λa w k=>k true w
abbrev ud:bu:=AI ia
theorem Kw:SS j6 (AI ia):=sl 4 [] func170
def zD(p:T35):aqQ:=λa b art w k=>aH w #[Iv b,Iv art] 3 λh i=>p a (Sl.mk (some h) 2 2) i λj g=>ap (!j) (k false g) (jO (S:=Int) (λl d c=>ap (decide (d>art)) (nn a λm=>cE c (m.add 0) λn=>cW n d 3 λe=>aN .i64 c (e.add 0) λf=>l f c) (k (d==art) c)) b g)
theorem QR a:E [.p,.i .i64,.i .i64] [.b] [(tu,Ua a)] 36935 [(5,[(1,(.i .i64))])] f383=λx=>zD a x.1 x.2.1 x.2.2:=bf
def jB:=zD dk
theorem QS:SS F5 (aqR jB):=so func383 (.c GU .z) (QR dk)
def vY(jB:aqQ):T72:=λb l n m w k=>drew w λc=>aR c l λp2=>nn p2 λo=>aR c (o.add 0) λp4=>nn p4 λp=>aR c (p.add 8) λp6=>aN .i64 c n λq=>jB p6 b q c λr a=>ap r (k true a) (aR a m λp10=>ap (!(ej p10)) (aR a l λp11=>nn p11 λe=>aR a (e.add 0) λp13=>nn p13 λf=>aR a (f.add 8) λp15=>aR a m λp16=>nn p16 λg=>aN .i64 a (g.add 0) λh=>jB p15 b h a λi j=>k i j) (k false a))
theorem M5 c:E [.i .i64,.a,.a,.a] [.b] [(F5,aqR c)] 47 [] f382=λx=>vY c x.1 x.2.1 x.2.2.1 x.2.2.2:=bf
def gu:=vY jB
abbrev vZ:bu:=al6 gu
theorem M6:SS lH (al6 gu):=so func382 (.c QS .z) (M5 jB)
def A5(n:T3)(o:T0)(ia:UG)(gu:T72):T28:=λa aru w k=>cD (S:=Bool) (λj=>drew w λb=>ap (aru !=2) (j true b) (nn a λl=>sX b (l.add 15) λp=>nn a λq=>aR b (q.add 8) λp6=>n p6 b λr m=>ai 1 (l.add 15) b m (mT (j4 [(pZ,(y6 n)),(nB,(cg o)),(j6,(AI ia)),(lH,(al6 gu))]) p #[Iv r] m λs d=>HL s λe=>j (!e) d))) λf c=>ap f (o a c λ_u g=>k () g) (nn a λh=>bJ c (h.add 9) (.func (.func qm) #[.pointer a] #[]) λi=>k () i)
theorem S7 a c d e:E [.p,.i .i64] [] [(pZ,y6 a),(nB,cg c),(j6,AI d),(lH,al6 e)] 262145 [(0,[(18,.b)])] f271=λx=>A5 a c d e x.1 x.2:=bf
def jx:=A5 cG bR ia gu
abbrev HA:bu:=JM jx
theorem S8:SS rN (JM jx):=so func271 (.c BO (.c vX (.c Kw (.c M6 .z)))) (S7 cG bR ia gu)
def ue(bi:Wm):T27:=λa b w k=>aR w b λp1=>aR w b λp2=>bi p1 a (.func (.func fV) #[.pointer p2] #[]) w λ_u c=>k () c
theorem Kx b:E [.i .i64,.a] [] [(oN,Li b)] 0 [] f171=λx=>ue b x.1 x.2:=bf
def eN:=ue bi
abbrev By:bu:=Hq eN
theorem Ky:SS om (Hq eN):=so func171 (.c qS .z) (Kx bi)
def bI:SN:=λa So w k=>nn a λb=>bJ w (b.add 25) So λc=>nn a λd=>bJ c (d.add 12) (.pointer none) λe=>nn a λf=>bJ e (f.add 7) (.func (.func mE) #[.pointer a] #[]) λg=>k () g
theorem tL:SS qP (ED bI):=sl 0 [] func353
def xU(bI:SN):T28:=λb c w k=>aH w #[.pointer b] 141 λd h=>aH h #[Iv c] 3 λi e=>aR e d λp5=>nn p5 λj=>sX e (j.add 24) λl=>aH e #[.nilFunc] 1 λg m=>bJ m g l λa=>aR a d λp11=>bI p11 (.func (.func oW) #[] #[.pointer (some d),.pointer (some i),.pointer (some g)]) a λ_u f=>k () f
theorem O1 a:E [.p,.i .i64] [] [(qP,ED a)] 28 [] f377=λx=>xU a x.1 x.2:=bf
def cU:=xU bI
abbrev EO:bu:=JM cU
theorem EP:SS mF (JM cU):=so func377 (.c tL .z) (O1 bI)
def xV(h:T3)(i:T0)(q:T27)(r:T28):T28:=λa aru w k=>ap (aru==1) (drew w λb=>nn a λf=>sX b (f.add 16) λj=>nn a λl=>aR b (l.add 8) λp5=>h p5 b λm g=>ai 1 (f.add 16) b g (mT (j4 [(pZ,(y6 h)),(nB,(cg i)),(om,(Hq q)),(mF,(JM r))]) j #[Iv m] g λn o=>HM [] n fun(p:Unit)=>k () o)) (nn a λc=>bJ w (c.add 14) (.bool true) λd=>i a d λ_u e=>k () e)
theorem O2 a b c d:E [.p,.i .i64] [] [(pZ,y6 a),(nB,cg b),(om,Hq c),(mF,JM d)] 33 [] f292=λx=>xV a b c d x.1 x.2:=bf
def gZ:=xV cG bR eN cU
abbrev EQ:bu:=JM gZ
theorem O3:SS qm (JM gZ):=so func292 (.c BO (.c vX (.c Ky (.c EP .z)))) (O2 cG bR eN cU)
def cm:SN:=λa So w k=>nn a λb=>bJ w (b.add 29) So λc=>nn a λd=>bJ c (d.add 7) (.func (.func mZ) #[.pointer a] #[]) λe=>k () e
theorem xW:SS sR (ED cm):=sl 0 [] func337
def uf(bi:Wm)(cm:SN):T27:=λahy a w k=>ap (ahy==4) (drew w λb=>aR b a λp2=>aR b a λp3=>nn p3 λd=>aN .i64 b (d.add 18) λf=>aR b a λp6=>bi p2 f (.func (.func fW) #[.pointer p6] #[]) b λ_u g=>k () g) (aR w a λp8=>aR w a λp9=>cm p8 (.func (.func fW) #[.pointer p9] #[]) w λ_u c=>k () c)
theorem Kz b c:E [.i .i64,.a] [] [(oN,Li b),(sR,ED c)] 18 [] f365=λx=>uf b c x.1 x.2:=bf
def eO:=uf bi cm
abbrev Bz:bu:=Hq eO
theorem KA:SS ov (Hq eO):=so func365 (.c qS (.c xW .z)) (Kz bi cm)
def af:T8:=λa w k=>drew w λb=>nn a λc=>cE b (c.add 5) λd=>nn a λe=>cE b (e.add 5) λf=>cW d (aL .i64 (((f.n:Nat):Int) - 1)) 1 λh=>aR b h λp7=>k p7 b
theorem cn:SS bY (F6 af):=sl 5 [] func289
def zE(V:T8)(dg:T68):T0:=λW w k=>aH w #[.pointer W] 141 λb w2=>cD (S:=(Addr×Addr)) (λG=>drew w2 λa=>aR a b λp5=>aR a b λp6=>nn p6 λc=>aR a (c.add 20) λp8=>both (V p5 a λp9 d=>ai 1 (c.add 20) a d (ai 1 b a d (nn p9 λe=>aN .i64 d (e.add 0) λH=>both (aH d #[Iv 0] 3 λI f=>ai 1 (e.add 0) d f (ai 1 (c.add 20) a f (ai 1 b a f (ai 1 b a f (aH f #[.pointer none] 114 λJ g=>ai 1 (e.add 0) d g (ai 1 (c.add 20) a g (ai 1 b a g (ai 1 b a g (bJ g I (Iv H) λz=>ai 1 (c.add 20) a z (ai 1 b a z (bJ z J (.pointer p8) λX=>G (I,J) X))))))))))) (aH d #[.pointer none] 114 λL h=>ai 1 (e.add 0) d h (ai 1 (c.add 20) a h (ai 1 b a h (ai 1 b a h (aH h #[Iv 0] 3 λM i=>ai 1 (e.add 0) d i (ai 1 (c.add 20) a i (ai 1 b a i (ai 1 b a i (bJ i M (Iv H) λA=>ai 1 (c.add 20) a A (ai 1 b a A (bJ A L (.pointer p8) λY=>G (M,L) Y)))))))))))))) (both (aH a #[Iv 0] 3 λr j=>ai 1 (c.add 20) a j (ai 1 b a j (ai 1 b a j (both (V p5 j λZ l=>ai 1 (c.add 20) a l (ai 1 b a l (nn Z λN=>aN .i64 l (N.add 0) λa0=>aH l #[.pointer none] 114 λO m=>ai 1 (N.add 0) l m (ai 1 (c.add 20) a m (ai 1 b a m (ai 1 b a m (bJ m r (Iv a0) λB=>ai 1 (c.add 20) a B (ai 1 b a B (bJ B O (.pointer p8) λa2=>G (r,O) a2))))))))) (aH j #[.pointer none] 114 λP s=>ai 1 (c.add 20) a s (ai 1 b a s (ai 1 b a s (V p5 s λa3 t=>ai 1 (c.add 20) a t (ai 1 b a t (nn a3 λa4=>aN .i64 t (a4.add 0) λa5=>bJ t r (Iv a5) λC=>ai 1 (c.add 20) a C (ai 1 b a C (bJ C P (.pointer p8) λa6=>G (r,P) a6)))))))))))) (aH a #[.pointer none] 114 λu n=>ai 1 (c.add 20) a n (ai 1 b a n (ai 1 b a n (both (V p5 n λa8 o=>ai 1 (c.add 20) a o (ai 1 b a o (nn a8 λQ=>aN .i64 o (Q.add 0) λa9=>aH o #[Iv 0] 3 λR p=>ai 1 (Q.add 0) o p (ai 1 (c.add 20) a p (ai 1 b a p (ai 1 b a p (bJ p R (Iv a9) λD=>ai 1 (c.add 20) a D (ai 1 b a D (bJ D u (.pointer p8) λb0=>G (R,u) b0))))))))) (aH n #[Iv 0] 3 λT v=>ai 1 (c.add 20) a v (ai 1 b a v (ai 1 b a v (V p5 v λb1 x=>ai 1 (c.add 20) a x (ai 1 b a x (nn b1 λb2=>aN .i64 x (b2.add 0) λb3=>bJ x T (Iv b3) λF=>ai 1 (c.add 20) a F (ai 1 b a F (bJ F u (.pointer p8) λb4=>G (T,u) b4)))))))))))))) λU y=>aR y b λb5=>aR y b λb6=>aR y b λb7=>dg b5 (.func (.func lH) #[] #[.pointer (some b),(.pointer (some U.1)),(.pointer (some U.2))]) (.func (.func mF) #[.pointer b6] #[]) (.func (.func oV) #[.pointer b7] #[]) y λ_u b8=>k () b8
theorem QT b c:E [.p] [] [(bY,F6 b),(vG,aqo c)] 14 [(1,[(2,.a),(3,.a)])] f369=λx=>zE b c x:=bf
def cr:=zE af dg
abbrev zF:bu:=cg cr
theorem zG:SS jY (cg cr):=so func369 (.c cn (.c DN .z)) (QT af dg)
def cT:T22:=λa w k=>aR w a λp1=>aR w a λp2=>nn p1 λb=>bJ w (b.add 7) (.func (.func kJ) #[.pointer p2] #[]) λc=>k () c
abbrev wc:bu:=EE cT
theorem DQ:SS jX (EE cT):=sl 0 [] func347
def ug(g:T3)(h:T28)(n:T0)(o:T22):T27:=λahy c w k=>ap (ahy !=1) (aR w c λp1=>nn p1 λi=>sX w (i.add 27) λj=>mT (j4 [(pZ,(y6 g)),(mF,(JM h)),(jY,(cg n)),(jX,(EE o))]) j #[] w λl m=>HM [] l fun(p:Unit)=>k () m) (drew w λa=>aR a c λp8=>aR a c λp9=>nn p9 λd=>aR a (d.add 8) λp11=>g p11 a λe b=>ai 1 c a b (h p8 e b λ_u f=>k () f))
theorem KB b c d e:E [.i .i64,.a] [] [(pZ,y6 b),(mF,JM c),(jY,cg d),(jX,EE e)] 18 [] f376=λx=>ug b c d e x.1 x.2:=bf
def eP:=ug cG cU cr cT
abbrev BA:bu:=Hq eP
theorem KC:SS ow (Hq eP):=so func376 (.c BO (.c EP (.c zG (.c DQ .z)))) (KB cG cU cr cT)
def uY(p:T6)(q:T3)(r:T1)(B:T27)(C:T28)(D:T28)(F:T27)(G:T27):T0:=λa w k=>drew w λe=>nn a λs=>aR e (s.add 8) λp3=>nn a λt=>aR e (t.add 0) λp5=>nn p5 λu=>aR e (u.add 7) λp7=>nn a λv=>aN .i64 e (v.add 1) λy=>p p3 p7 y e λd b=>ap (d==0) (k () b) (ap (d==6) (drew b λc=>nn a λf=>aR c (f.add 0) λp14=>nn a λh=>aR c (h.add 8) λp16=>q p16 c λi g=>ai 1 (f.add 0) c g (r p14 i g λz j=>k () j)) (nn a λl=>sX b (l.add 9) λm=>mT (j4 [(Aw,(qY p)),(BN,(y6 q)),(be,(qd r)),(pC,(Hq B)),(rN,(JM C)),(qm,(JM D)),(ov,(Hq F)),(ow,(Hq G))]) m #[Iv d] b λn o=>HM [] n fun(A:Unit)=>k () o))
theorem Lv a b c d e f g h:E [.p] [] [(Aw,qY a),(BN,y6 b),(be,qd c),(pC,Hq d),(rN,JM e),(qm,JM f),(ov,Hq g),(ow,Hq h)] 336068613 [] f212=λx=>uY a b c d e f g h x:=bf
def eE:=uY fF iL ae fZ jx gZ eO eP
abbrev uZ:bu:=cg eE
theorem Lw:SS kH (cg eE):=so func212 (.c Ls (.c Oo (.c bq (.c M2 (.c S8 (.c O3 (.c KA (.c KC .z)))))))) (Lv fF iL ae fZ jx gZ eO eP)
def A6(o:T6)(aj:GR):T46:=λb c f d w k=>o b c d w λg e=>ap (g !=0) (k (false,g) e) (nn b λh=>cE e (h.add 0) λi=>cW i d 3 λj=>aN .i64 e (j.add 2) λm=>aj c f m e λa n=>(k ((((a.1,a.2).2==0)&&((a.1,a.2).1 !=0)),(a.1,a.2).2) n))
theorem S9 a c:E [.p,.p,.i .i64,.i .i64] [.b,.i .i64] [(nO,qY a),(dH,yQ c)] 270095 [] f324=λx=>A6 a c x.1 x.2.1 x.2.2.1 x.2.2.2:=bf
def eA:=A6 bg aj
theorem HB:SS AW (Ze eA):=so func324 (.c pF (.c dY .z)) (S9 bg aj)
def zH(m:T35):T9:=λa b w k=>aH w #[Iv b] 3 λd e=>m a (Sl.mk (some d) 1 1) e λf c=>ap (!f) (k (-1) c) (nn a λg=>cE c (g.add 0) λh=>cW h b 3 λi=>aN .i64 c (i.add 0) λl=>k l c)
theorem QU a:E [.p,.i .i64] [.i .i64] [(yO,Ua a)] 531 [] f325=λx=>zH a x.1 x.2:=bf
def j8:=zH da
theorem QV:SS FY (vt j8):=so func325 (.c DA .z) (QU da)
def Ch(R:T46)(T:T9):T73:=λLj e i w k=>ap ((ej Lj)||(ej e)) (k (false,(false,2)) w) (nn Lj λJ=>Ig w (J.add 2) λL=>ap L (drew w λI=>nn Lj λM=>Ig I (M.add 3) λN=>k (true,(N,0)) I) (drew w λj=>nn Lj λO=>aR j (O.add 0) λp8=>nn Lj λP=>aN .i64 j (P.add 1) λl=>R p8 e i l j λa g=>ap ((a.1,a.2).2 !=0) (k (false,(false,(a.1,a.2).2)) g) (nn Lj λm=>bJ g (m.add 3) (.bool (a.1,a.2).1) λb=>cD (S:=Unit) (λh=>ap (a.1,a.2).1 (nn Lj λn=>bJ b (n.add 2) (.bool true) λo=>h () o) (nn Lj λp=>aN .i64 b (p.add 1) λq=>nn Lj λr=>bJ b (r.add 2) (.bool (q==0)) λs=>h () s)) λQ t=>drew t λc=>nn Lj λu=>aR c (u.add 0) λv=>nn Lj λx=>aN .i64 c (x.add 1) λy=>T v y c λz A=>nn Lj λB=>bJ A (B.add 1) (Iv z) λC=>drew C λd=>nn Lj λD=>Ig d (D.add 2) λF=>nn Lj λG=>Ig d (G.add 3) λH=>k (F,(H,0)) d)))
theorem UT a c:E [.p,.p,.i .i64] [.b,.b,.i .i64] [(AW,Ze a),(FY,vt c)] 4398046777287 [(13,[])] f304=λx=>Ch a c x.1 x.2.1 x.2.2:=bf
def kL:=Ch eA j8
theorem UU:SS B8 (aqs kL):=so func304 (.c HB (.c QV .z)) (UT eA j8)
def au:MH:=λa w k=>aH w #[Iv 0,Iv 0] 356 λf g=>drew g λd=>nn a λh=>cE d (h.add 24) λi=>nn a λj=>cE d (j.add 24) λl=>cW i (aL .i64 (((l.n:Nat):Int) - 1)) 2 λo=>bG 2 d o λe=>dK 2 d f e λb=>bG 2 b f λc=>k c b
theorem iC:SS gB (EC au):=sl 5 [] func330
def dD:Wm:=λa avW avX w k=>nn a λb=>bJ w (b.add 26) (Iv avW) λc=>nn a λd=>bJ c (d.add 27) avX λe=>nn a λf=>bJ e (f.add 7) (.func (.func lF) #[.pointer a] #[]) λg=>k () g
theorem ER:SS xF (Li dD):=sl 0 [] func346
def zI(x:T8)(au:MH)(dD:Wm):SN:=λi So w k=>aH w #[.pointer i] 141 λb r=>rF So (aH r #[So] 1 λj s=>drew s λd=>aR d b λp6=>aR d b λp7=>sX d j λt=>nn p6 λu=>bJ d (u.add 20) (.pointer none) λc=>ai 1 j d c (ai 1 b d c (nn p7 λl=>bJ c (l.add 31) t λe=>aR e b λp13=>nn p13 λm=>bJ e (m.add 24) (.func (.func fE) #[] #[.pointer (some b),.pointer (some j)]) λn=>drew n λa=>aR a b λp17=>aR a b λp18=>x p18 a λp19 f=>ai 1 b a f (au p19 f λg h=>ai 1 b a h (PW g 1 λo=>xy .i64 o λp=>dD p17 p (.func (.func jX) #[] #[.pointer (some b)]) h λ_u q=>k () q)))))
theorem QW a b c:E [.p,.raw] [] [(bY,F6 a),(gB,EC b),(xF,Li c)] 12 [] f327=λx=>zI a b c x.1 x.2:=bf
def cF:=zI af au dD
theorem zJ:SS tH (ED cF):=so func327 (.c cn (.c iC (.c ER .z))) (QW af au dD)
def we(j:T8)(cF:SN):T0:=λc w k=>aH w #[.pointer c] 141 λb g=>aR g b λp3=>j p3 g λp4 a=>nn p4 λh=>cE a (h.add 24) λi=>ap (((i.n:Nat):Int)==0) (aR a b λp8=>aR a b λp9=>nn p8 λd=>bJ a (d.add 7) (.func (.func nI) #[.pointer p9] #[]) λe=>k () e) (aR a b λp12=>cF p12 (.func (.func ot) #[] #[.pointer (some b)]) a λ_u f=>k () f)
theorem M7 a b:E [.p] [] [(bY,F6 a),(tH,ED b)] 258 [] f305=λx=>we a b x:=bf
def dh:=we af cF
theorem DS:SS vJ (cg dh):=so func305 (.c cn (.c zJ .z)) (M7 af cF)
def zK(i:T8)(j:T0):T41:=λa avY b w k=>i a w λp1 c=>nn p1 λd=>bJ c (d.add 26) (Iv avY) λe=>nn p1 λf=>bJ e (f.add 27) (Iv b) λg=>j a g λ_u h=>k () h
theorem QX a b:E [.p,.i .i64,.i .i64] [] [(bY,F6 a),(vJ,cg b)] 71 [] f286=λx=>zK a b x.1 x.2.1 x.2.2:=bf
def cz:=zK af dh
theorem zL:SS tG (abr cz):=so func286 (.c cn (.c DS .z)) (QX af dh)
def tj(c:T41):T0:=λa w k=>c a 4 0 w λ_u b=>k () b
theorem Jj a:E [.p] [] [(tG,abr a)] 0 [] f268=λx=>tj a x:=bf
def bB:=tj cz
abbrev AK:bu:=cg bB
theorem tq:SS jT (cg bB):=so func268 (.c zL .z) (Jj cz)
def u0(e:T0):T50:=λabE a w k=>ap abE (aR w a λp1=>e p1 w λ_u b=>k () b) (aR w a λp3=>aR w a λp4=>nn p3 λc=>bJ w (c.add 7) (.func (.func fW) #[.pointer p4] #[]) λd=>k () d)
theorem Lx c:E [.b,.a] [] [(jT,cg c)] 10 [] f267=λx=>u0 c x.1 x.2:=bf
def fu:=u0 bB
abbrev CD:bu:=Zg fu
theorem Ly:SS oO (Zg fu):=so func267 (.c tq .z) (Lx bB)
def xX(n:T1):Wl:=λa w k=>drew w λb=>nn a λg=>aR b (g.add 0) λp3=>nn p3 λh=>aN .i64 b (h.add 20) λi=>nn a λj=>aR b (j.add 0) λp7=>nn p7 λl=>aN .i64 b (aX (l.add 1) 3) λm=>ap (decide (i≥m)) (nn a λd=>aR b (d.add 0) λp11=>n p11 22 b λe f=>k e f) (k false b)
theorem O4 a:E [.p] [.b] [(be,qd a)] 5 [] f306=λx=>xX a x:=bf
def aE:=xX ae
theorem kB:SS jD (Lh aE):=so func306 (.c bq .z) (O4 ae)
def c7:T49:=λtX aBY w k=>aH w tX 119 λb i=>aH i Ds 119 λe j=>bJ j (b.add 1) (Iv aBY) λf=>aN .i64 f (b.add 18) λl=>bJ f (b.add 18) (Iv (aL .i64 (l+1))) λg=>bG 19 g b λd=>dK 19 g e d λh=>bG 19 h e λa=>k a h
theorem DT:SS tF (abw c7):=sl 22 [] func187
def xY(m:T49):ZJ:=λtX w k=>aH w tX 119 λf i=>aH i Ds 119 λg b=>bG 19 b f λc=>aN .i64 b (f.add 1) λj=>m c (aL .i64 (j+1)) b λe l=>dK 19 l g e λh=>bG 19 h g λa=>k a h
theorem O5 a:E [.ag] [.ag] [(tF,abw a)] 6 [] f188=λx=>xY a x:=bf
def ay:=xY c7
theorem kC:SS iJ (Ol ay):=so func188 (.c DT .z) (O5 c7)
def j0:T95:=λtX s w k=>aH w tX 119 λA D=>aH D s 75 λd F=>cD (S:=(Addr×Addr)) (λB=>drew F λb=>aN .i64 b (d.add 2) λG=>GC (A.add 2) 8 G 1 λm=>aN .i64 b m λC=>aN .i64 b (d.add 3) λt=>GC (A.add 2) 8 t 1 λc=>aN .i64 b c λn=>both (aH b #[Iv 0] 2 λo e=>ai 1 c b e (ai 1 (d.add 3) b e (ai 1 m b e (ai 1 (d.add 2) b e (aH e #[Iv 0] 2 λp f=>ai 1 c b f (ai 1 (d.add 3) b f (ai 1 m b f (ai 1 (d.add 2) b f (bJ f o (Iv C) λj=>ai 1 c b j (ai 1 (d.add 3) b j (bJ j p (Iv n) λu=>B (o,p) u))))))))))) (aH b #[Iv 0] 2 λq g=>ai 1 c b g (ai 1 (d.add 3) b g (ai 1 m b g (ai 1 (d.add 2) b g (aH g #[Iv 0] 2 λr h=>ai 1 c b h (ai 1 (d.add 3) b h (ai 1 m b h (ai 1 (d.add 2) b h (bJ h r (Iv C) λl=>ai 1 c b l (ai 1 (d.add 3) b l (bJ l q (Iv n) λv=>B (r,q) v)))))))))))) λa x=>rF (.func (.func nY) #[] #[.pointer (some d)]) (rF (.func (.func nZ) #[] #[(.pointer (some a.1))]) (rF (.func (.func n7) #[] #[(.pointer (some a.1)),(.pointer (some a.2))]) (rF (.func (.func n8) #[] #[(.pointer (some a.1)),(.pointer (some a.2))]) (rF (.func (.func n9) #[] #[(.pointer (some a.1)),(.pointer (some a.2))]) (rF (.func (.func oa) #[] #[(.pointer (some a.1)),(.pointer (some a.2))]) (aH x #[(.func (.func nY) #[] #[.pointer (some d)]),(.func (.func nZ) #[] #[(.pointer (some a.1))]),(.func (.func n7) #[] #[(.pointer (some a.1)),(.pointer (some a.2))]),(.func (.func n8) #[] #[(.pointer (some a.1)),(.pointer (some a.2))]),(.func (.func n9) #[] #[(.pointer (some a.1)),(.pointer (some a.2))]),(.func (.func oa) #[] #[(.pointer (some a.1)),(.pointer (some a.2))])] 86 λy z=>k (Sl.mk (some y) 6 6) z))))))
theorem Ta:SS AV (aqD j0):=sl 124 [(1,[(5,.a),(6,.a)])] func189
def mg:T56:=λa w k=>aN .i64 w (a.add 4) λc=>k c w
theorem O6:SS nY (ad7 mg):=sl 3 [] func228
def mh:T56:=λa w k=>aN .i64 w a λc=>k c w
theorem O7:SS nZ (ad7 mh):=sl 3 [] func229
def mi:T32:=λb c w k=>aN .i64 w b λd=>aN .i64 w c λe=>k (aL .i64 (d+e)) w
theorem O8:SS n7 (Om mi):=sl 7 [] func230
def mj:T32:=λb c w k=>aN .i64 w b λd=>aN .i64 w c λe=>k (aL .i64 (d - e)) w
theorem O9:SS n8 (Om mj):=sl 7 [] func231
def mo:T32:=λb c w k=>aN .i64 w b λd=>aN .i64 w c λe=>k (aL .i64 (d*e)) w
theorem Pa:SS n9 (Om mo):=sl 7 [] func232
def mH:T96:=λabE w k=>ap abE (k 1 w) (k 0 w)
theorem WN:SS MG (aqE mH):=sl 13 [] func234
def ES(h:T96):T32:=λb c w k=>aN .i64 w b λd=>aN .i64 w c λe=>h (decide (d<e)) w λf g=>k f g
theorem Pb b:E [.a,.a] [.i .i64] [(MG,aqE b)] 7 [] f233=λx=>ES b x.1 x.2:=bf
def mq:=ES mH
theorem Pc:SS oa (Om mq):=so func233 (.c WN .z) (Pb mH)
def zM(eX:T7)(c7:T49)(ay:ZJ)(j0:T95)(mg:T56)(mh:T56)(mi:T32)(mj:T32)(mo:T32)(mq:T32):aqF:=λtX J w k=>aH w tX 119 λh w2=>aH w2 J 75 λd w4=>aH w4 Ds 119 λe w6=>bG 5 w6 d λL=>eX L w6 λi8 f=>ap (i8 !=0) (bG 19 f h λj=>dK 19 f e j λl=>bG 19 l e λm=>k (m,false) l) (aN .i64 f (d.add 0) λn=>cD (S:=Bool) (λi=>ap (n==6) (i (n==6) f) (aN .i64 f (d.add 0) λM=>ap (M==7) (aN .i64 f (d.add 1) λN=>GC (h.add 2) 8 N 1 λO=>aN .i64 f O λP=>i (P !=0) f) (i false f))) λQ a=>ap Q (bG 19 a h λo=>aN .i64 a (d.add 4) λR=>c7 o R a λp T=>dK 19 T e p λq=>bG 19 q e λr=>k (r,true) q) (aN .i64 a (d.add 0) λU=>ap (U==7) (bG 19 a h λs=>ay s a λt V=>dK 19 V e t λu=>bG 19 u e λv=>k (v,true) u) (aN .i64 a (d.add 0) λW=>ap (decide (W>5)) (bG 19 a h λx=>dK 19 a e x λy=>bG 19 y e λz=>k (z,false) y) (drew a λc=>aN .i64 c (d.add 1) λX=>bG 19 c h λA=>bG 5 c d λB=>aN .i64 c (d.add 0) λY=>j0 A B c λZ g=>ai 1 (d.add 0) c g (ai 1 (d.add 1) c g (cW Z Y 1 λa0=>sX g a0 λa2=>mT (j4 [(Bt,(xI eX)),(tF,(abw c7)),(iJ,(Ol ay)),(AV,(aqD j0)),(nY,(ad7 mg)),(nZ,(ad7 mh)),(n7,(Om mi)),(n8,(Om mj)),(n9,(Om mo)),(oa,(Om mq))]) a2 #[] g λa4 C=>xy .i64 a4 λa6=>ai 1 (d.add 1) c C (GC (h.add 2) 8 X 1 λa7=>bJ C a7 (Iv a6) λD=>bG 19 D h λF=>ay F D λG a8=>dK 19 a8 e G λH=>bG 19 H e λI=>k (I,true) H)))))))
theorem QY a c d e f g h i j l:E [.ag,.ag] [.ag,.b] [(Bt,xI a),(tF,abw c),(iJ,Ol d),(AV,aqD e),(nY,ad7 f),(nZ,ad7 g),(n7,Om h),(n8,Om i),(n9,Om j),(oa,Om l)] 34896610620 [(6,[(10,.b)])] f139=λx=>zM a c d e f g h i j l x.1 x.2:=bf
def iQ:=zM eX c7 ay j0 mg mh mi mj mo mq
theorem QZ:SS FW (aqG iQ):=so func139 (.c Ks (.c DT (.c kC (.c Ta (.c O6 (.c O7 (.c O8 (.c O9 (.c Pa (.c Pc .z)))))))))) (QY eX c7 ay j0 mg mh mi mj mo mq)
def zN(aE:Wl)(af:T8)(iQ:aqF):T71:=λa t w k=>aH w t 75 λs T=>aE a T λU Q=>ap U (k () Q) (af a Q λp5 V=>cD (S:=(Addr×Bool)) (λR=>drew V λd=>nn p5 λu=>bG 19 d (u.add 4) λe=>bG 5 d s λf=>both (iQ e f d λb v=>aH v Ds 119 λn g=>ai 5 s d g (ai 19 (u.add 4) d g (dK 19 g n (b.1,b.2).1 λx=>R (n,(b.1,b.2).2) x))) (aH d Ds 119 λo h=>ai 5 s d h (ai 19 (u.add 4) d h (iQ e f h λc y=>dK 19 y o (c.1,c.2).1 λz=>R (o,(c.1,c.2).2) z)))) λp i=>ap p.2 (bG 19 i p.1 λq=>nn p5 λA=>dK 19 i (A.add 4) q λj=>nn a λB=>aR j (B.add 0) λr=>nn r λC=>aN .i64 j (C.add 20) λD=>nn r λF=>bJ j (F.add 20) (Iv (aL .i64 (D+1))) λG=>nn a λH=>bJ G (H.add 7) (.func (.func fW) #[.pointer a] #[]) λI=>k () I) (rF (.func (.func kZ) #[.pointer a] #[]) (rF (.func (.func je) #[.pointer a] #[]) (rF (.func (.func je) #[.pointer a] #[]) (rF (.func (.func k7) #[.pointer a] #[]) (rF (.func (.func kz) #[.pointer a] #[]) (rF (.func (.func jW) #[.pointer a] #[]) (rF (.func (.func k8) #[.pointer a] #[]) (rF (.func (.func iK) #[.pointer a] #[]) (rF (.func (.func iK) #[.pointer a] #[]) (aH i #[(.func (.func kZ) #[.pointer a] #[]),(.func (.func je) #[.pointer a] #[]),(.func (.func je) #[.pointer a] #[]),(.func (.func k7) #[.pointer a] #[]),(.func (.func kz) #[.pointer a] #[]),(.func (.func jW) #[.pointer a] #[]),(.func (.func k8) #[.pointer a] #[]),(.func (.func iK) #[.pointer a] #[]),(.func (.func iK) #[.pointer a] #[])] 1 λJ m=>aN .i64 m (s.add 0) λL=>cW (Sl.mk (some J) 9 9) (aL .i64 (L - 8)) 1 λM=>sX m M λN=>nn a λO=>bJ m (O.add 7) N λP=>k () P)))))))))))
theorem Q0 c d e:E [.p,.ag] [] [(jD,Lh c),(bY,F6 d),(FW,aqG e)] 2097913 [(4,[(5,.a),(6,.b)])] f288=λx=>zN c d e x.1 x.2:=bf
def dV:=zN aE af iQ
theorem Gg:SS zl (aqr dV):=so func288 (.c kB (.c cn (.c QZ .z))) (Q0 aE af iQ)
def wg(f:T0)(g:T71):T74:=λabE b c w k=>ap abE (aR w b λp1=>f p1 w λ_u d=>k () d) (aR w b λp3=>bG 5 w c λa=>g p3 a w λ_u e=>k () e)
theorem M8 c d:E [.b,.a,.a] [] [(jT,cg c),(zl,aqr d)] 22 [] f290=λx=>wg c d x.1 x.2.1 x.2.2:=bf
def gv:=wg bB dV
abbrev DU:bu:=al7 gv
theorem M9:SS pD (al7 gv):=so func290 (.c tq (.c Gg .z)) (M8 bB dV)
def uh(bI:SN):T50:=λabE a w k=>ap abE (aR w a λp1=>aR w a λp2=>bI p1 (.func (.func jT) #[.pointer p2] #[]) w λ_u b=>k () b) (aR w a λp4=>aR w a λp5=>nn p4 λc=>bJ w (c.add 7) (.func (.func mD) #[.pointer p5] #[]) λd=>k () d)
theorem KD c:E [.b,.a] [] [(qP,ED c)] 10 [] f352=λx=>uh c x.1 x.2:=bf
def eR:=uh bI
abbrev BB:bu:=Zg eR
theorem KE:SS ou (Zg eR):=so func352 (.c tL .z) (KD bI)
def u4(m:T73)(n:T1)(v:T50)(x:T74)(y:T50):T0:=λb w k=>drew w λd=>nn b λo=>aR d (o.add 10) λp3=>nn b λp=>aR d (p.add 0) λp5=>nn p5 λq=>aR d (q.add 7) λp7=>nn b λr=>aN .i64 d (r.add 1) λt=>m p3 p7 t d λa e=>nn b λf=>aR e (f.add 0) λp13=>n p13 (a.1,(a.2.1,a.2.2)).2.2 e λg c=>ap ((!g)&&(a.1,(a.2.1,a.2.2)).1) (nn b λh=>sX c (h.add 11) λi=>mT (j4 [(B8,(aqs m)),(be,(qd n)),(oO,(Zg v)),(pD,(al7 x)),(ou,(Zg y))]) i #[(.bool (a.1,(a.2.1,a.2.2)).2.1)] c λj l=>HM [] j fun(u:Unit)=>k () l) (k () c)
theorem Lz a b c d e:E [.p] [] [(B8,aqs a),(be,qd b),(oO,Zg c),(pD,al7 d),(ou,Zg e)] 17179869213 [] f285=λx=>u4 a b c d e x:=bf
def eF:=u4 kL ae fu gv eR
abbrev u5:bu:=cg eF
theorem LA:SS kI (cg eF):=so func285 (.c UU (.c bq (.c Ly (.c M9 (.c KE .z))))) (Lz kL ae fu gv eR)
def A7(j:T36):ZK:=λa b c w k=>aH w a 99 λf d=>aN .i64 d (f.add 0) λh=>j b c h 1 d λe i=>k (e.1,e.2).2 i
theorem Tb a:E [.ag,.p,.i .i64] [.i .i64] [(jV,Zd a)] 334 [] f154=λx=>A7 a x.1 x.2.1 x.2.2:=bf
def eB:=A7 aO
theorem HC:SS AU (On eB):=so func154 (.c m6 .z) (Tb aO)
def zO(eB:ZK)(ae:T1):T0:=λa w k=>drew w λb=>nn a λp=>aR b (p.add 0) λp3=>nn a λq=>aR b (q.add 0) λp5=>nn p5 λr=>bG 1 b (r.add 12) λe=>nn a λs=>aR b (s.add 0) λp9=>nn p9 λf=>aR b (f.add 7) λp11=>nn a λg=>aN .i64 b (g.add 1) λh=>eB e p11 h b λi d=>ai 1 (p.add 0) b d (ae p3 i d λj c=>ap (!j) (nn a λl=>sX c (l.add 29) λm=>nn a λn=>bJ c (n.add 7) m λo=>k () o) (k () c))
theorem Q1 a b:E [.p] [] [(AU,On a),(be,qd b)] 67108865 [] f356=λx=>zO a b x:=bf
def gK:=zO eB ae
abbrev zP:bu:=cg gK
theorem Q2:SS mZ (cg gK):=so func356 (.c HC (.c bq .z)) (Q1 eB ae)
def Fh(aj:GR):UH:=λb c d w k=>aH w b 100 λf e=>aN .i64 e (f.add 0) λh=>aj c d h e λa i=>k ((a.1,a.2).1,(a.1,a.2).2) i
theorem X0 a:E [.ag,.p,.i .i64] [.i .i64,.i .i64] [(dH,yQ a)] 206 [] f244=λx=>Fh a x.1 x.2.1 x.2.2:=bf
def oB:=Fh aj
theorem X1:SS Lg (IL oB):=so func244 (.c dY .z) (X0 aj)
def lZ:T3:=λb w k=>cD (S:=Bool) (λx=>ap (ej b) (x true w) (nn b λy=>cE w (y.add 0) λz=>x (((z.n:Nat):Int)==0) w)) λA i=>ap A (k 0 i) (nn b λB=>cE i (B.add 0) λC=>cW C 0 1 λD=>aN .i64 i D λF=>drew i λd=>nn b λl=>cE d (l.add 0) λe=>nn b λm=>cE d (m.add 0) λo=>slL o 1 1 λf=>Un Tryz.prog #[156,156] 3 [.slice e.a e.n e.c,.slice f.a f.n f.c] d λG p=>drew p λg=>nn b λq=>cE g (q.add 0) λr=>nn b λs=>cE g (s.add 0) λt=>SG r 1 0 (aL .i64 (((t.n:Nat):Int) - 1)) λh=>nn b λu=>bJ g (u.add 0) (.slice h.a h.n h.c) λv=>k F v)
theorem UW:SS IF (y6 lZ):=sl 8205 [(1,[(13,.b)])] func246
def qT:T98:=λl WM g aBZ avZ w k=>ap ((((decide (g<1))||(decide (g>16)))||(decide (WM<0)))||(decide (WM≥g))) (k ((Sl.mk none 0 0),10) w) (cD (S:=Sl) (λB=>jO (S:=(Sl×Int)) (λy d m=>ap (decide (d.2<g)) (cD (S:=Bool) (λz=>ap (d.2 !=WM) (alz .i64 (tw .i64 aBZ avZ) d.2 λC=>z ((og .i64 C 1)==1) m) (z false m)) λD A=>ap D (aH A #[Iv d.2] 3 λF o=>oh Tryz.prog #[69,69] 69 [.slice d.1.a d.1.n d.1.c,(.slice (some F) 1 1)] o λp q=>y (p,(aL .i64 (d.2+1))) q) (y (d.1,(aL .i64 (d.2+1))) A)) (B d.1 m)) ((Sl.mk none 0 0),0) w) λb j=>ap (((b.n:Nat):Int)==0) (k ((Sl.mk none 0 0),0) j) (aly l ((b.n:Nat):Int) λr=>aly (aL .i64 (r+((b.n:Nat):Int))) ((b.n:Nat):Int) λs=>AH Tryz.prog 69 (Iv ((b.n:Nat):Int)) (Iv ((b.n:Nat):Int)) j λf t=>slL b 1 s λh=>Un Tryz.prog #[69,69] 3 [.slice f.a f.n f.c,.slice h.a h.n h.c] t λu v=>slL f 1 u λi=>Un Tryz.prog #[69,69] 3 [.slice i.a i.n i.c,.slice b.a b.n b.c] v λG x=>k (f,0) x))
theorem adf:SS TW (ays qT):=sl 72339133439409183 [(6,[(12,.s)]),(7,[(12,.s),(34,(.i .i64))]),(12,[(48,.b)])] func245
def wh(oB:UH)(ae:T1)(lZ:T3)(dU:T69)(qT:T98)(bR:T0):T0:=λd w k=>drew w λm=>nn d λY=>aR m (Y.add 0) λp3=>nn p3 λZ=>bG 1 m (Z.add 13) λy=>nn d λa6=>aR m (a6.add 0) λp7=>nn p7 λa8=>aR m (a8.add 7) λp9=>nn d λz=>aN .i64 m (z.add 1) λB=>oB y p9 B m λg o=>nn d λC=>aR o (C.add 0) λp15=>ae p15 (g.1,g.2).2 o λD p=>ap D (k () p) (drew p λb=>nn d λF=>aR b (F.add 0) λG=>nn G λH=>aR b (H.add 18) λI=>nn d λi=>aN .i64 b (i.add 1) λJ=>nn d λj=>aR b (j.add 0) λL=>nn L λl=>cE b (l.add 19) λM=>nn d λq=>aR b (q.add 0) λN=>nn N λr=>bG 3 b (r.add 14) λs=>nn d λt=>aR b (t.add 0) λO=>nn O λu=>aR b (u.add 7) λP=>lZ I b λQ e=>ai 1 (u.add 7) b e (ai 1 (t.add 0) b e (ai 3 (r.add 14) b e (ai 1 (q.add 0) b e (ai 1 (l.add 19) b e (ai 1 (j.add 0) b e (ai 1 (i.add 1) b e (dU s P e λR h=>ai 1 (l.add 19) b h (ai 1 (j.add 0) b h (ai 1 (i.add 1) b h (qT Q J ((M.n:Nat):Int) R (g.1,g.2).1 h λf v=>nn d λS=>aR v (S.add 0) λT=>ae T (f.1,f.2).2 v λU x=>ap U (k () x) (nn d λV=>bJ x (V.add 13) (.slice f.1.a f.1.n f.1.c) λW=>bR d W λ_u X=>k () X))))))))))))
theorem Na a b c d e f:E [.p] [] [(Lg,IL a),(be,qd b),(IF,y6 c),(zi,aqp d),(TW,ays e),(nB,cg f)] 302231454903661588643869 [] f215=λx=>wh a b c d e f x:=bf
def fa:=wh oB ae lZ dU qT bR
abbrev wi:bu:=cg fa
theorem Nb:SS lB (cg fa):=so func215 (.c X1 (.c bq (.c UW (.c Ge (.c adf (.c vX .z)))))) (Na oB ae lZ dU qT bR)
def Fi(m:T36):T47:=λc b a abF w k=>aH w c 100 λh d=>ap (ej b) (k 2 d) (ap ((decide (a<0))||(decide (a>16))) (k 10 d) (drew d λf=>aN .i64 f (h.add 0) λi=>G6 .i64 abF a λj=>m b a i j f λg l=>k (g.1,g.2).2 l))
theorem X2 a:E [.ag,.p,.i .i64,.i .i64] [.i .i64] [(jV,Zd a)] 19742 [] f273=λx=>Fi a x.1 x.2.1 x.2.2.1 x.2.2.2:=bf
def ik:=Fi aO
theorem LB:SS E9 (Zf ik):=so func273 (.c m6 .z) (X2 aO)
def DV(i:T47):ZK:=λa b c w k=>aH w a 100 λf e=>bG 1 e f λd=>i d b c 1 e λg h=>k g h
theorem WO a:E [.ag,.p,.i .i64] [.i .i64] [(E9,Zf a)] 78 [] f251=λx=>DV a x.1 x.2.1 x.2.2:=bf
def nj:=DV ik
theorem WQ:SS JH (On nj):=so func251 (.c LB .z) (WO ik)
def A8(nj:ZK)(ae:T1)(e9:T3):T0:=λa w k=>cD (S:=Bool) (λy=>drew w λc=>nn a λz=>aR c (z.add 0) λp4=>nn a λA=>aR c (A.add 0) λp6=>nn p6 λB=>bG 1 c (B.add 13) λh=>nn a λC=>aR c (C.add 0) λp10=>nn p10 λi=>aR c (i.add 7) λp12=>nn a λj=>aN .i64 c (j.add 1) λl=>nj h p12 l c λm d=>ai 1 (z.add 0) c d (ae p4 m d λn b=>ap n (y true b) (nn a λe=>aR b (e.add 0) λo=>nn a λp=>aR b (p.add 4) λq=>e9 q b λr f=>ai 1 (e.add 0) b f (ae o r f λs t=>y s t)))) λu g=>ap u (k () g) (nn a λv=>bJ g (v.add 7) (.func (.func mY) #[.pointer a] #[]) λx=>k () x)
theorem Tc a c d:E [.p] [] [(JH,On a),(be,qd c),(B7,y6 d)] 137438953473 [(0,[(37,.b)])] f218=λx=>A8 a c d x:=bf
def iD:=A8 nj ae e9
abbrev A9:bu:=cg iD
theorem Td:SS mb (cg iD):=so func218 (.c WQ (.c bq (.c IS .z))) (Tc nj ae e9)
def dZ:T0:=λa w k=>ap (!(ej a)) (nn a λb=>bJ w (b.add 1) (Iv 0) λc=>k () c) (k () w)
theorem HE:SS uB (cg dZ):=sl 9 [] func274
def DW(i:T47):ZK:=λa b c w k=>aH w a 100 λf e=>bG 1 e f λd=>i d b c (-1) e λg h=>k g h
theorem WR a:E [.ag,.p,.i .i64] [.i .i64] [(E9,Zf a)] 78 [] f275=λx=>DW a x.1 x.2.1 x.2.2:=bf
def nk:=DW ik
theorem WS:SS JI (On nk):=so func275 (.c LB .z) (WR ik)
def zQ(u:T0)(nk:ZK)(ae:T1):T0:=λa w k=>nn a λp=>aR w (p.add 4) λp2=>u p2 w λ_u q=>drew q λb=>nn a λo=>aR b (o.add 0) λp6=>nn a λr=>aR b (r.add 0) λp8=>nn p8 λs=>bG 1 b (s.add 13) λc=>nn a λf=>aR b (f.add 0) λp12=>nn p12 λg=>aR b (g.add 7) λp14=>nn a λh=>aN .i64 b (h.add 1) λi=>nk c p14 i b λj d=>ai 1 (o.add 0) b d (ae p6 j d λl e=>ap (!l) (nn a λm=>bJ e (m.add 7) (.func (.func fV) #[.pointer a] #[]) λn=>k () n) (k () e))
theorem Q3 a b c:E [.p] [] [(uB,cg a),(JI,On b),(be,qd c)] 2147483649 [] f253=λx=>zQ a b c x:=bf
def gL:=zQ dZ nk ae
abbrev zR:bu:=cg gL
theorem Q4:SS mY (cg gL):=so func253 (.c HE (.c WS (.c bq .z))) (Q3 dZ nk ae)
def Fj(m:T36):T6:=λcY b c w k=>nn cY λf=>aN .i64 w (aX (f.add 0) 0) λg=>m b c g 1 w λa e=>ap ((a.1,a.2).2==0) (nn cY λh=>bJ e (h.add 4) (Iv (aL .i64 ((a.1,a.2).1+1))) λi=>nn cY λj=>bJ i (j.add 7) (.func (.func uT) #[.pointer cY] #[]) λl=>k (a.1,a.2).2 l) (k (a.1,a.2).2 e)
theorem X3 a:E [.p,.p,.i .i64] [.i .i64] [(jV,Zd a)] 2097607 [] f395=λx=>Fj a x.1 x.2.1 x.2.2:=bf
def lS:=Fj aO
abbrev LC:bu:=qY lS
theorem X4:SS uS (qY lS):=so func395 (.c m6 .z) (X3 aO)
def Fk(j:T36):T6:=λcY b c w k=>nn cY λe=>aN .i64 w (aX (e.add 0) 0) λg=>j b c g (-1) w λa d=>ap ((a.1,a.2).2==0) (nn cY λh=>bJ d (h.add 7) .nilFunc λi=>k (a.1,a.2).2 i) (k (a.1,a.2).2 d)
theorem X5 a:E [.p,.p,.i .i64] [.i .i64] [(jV,Zd a)] 2097479 [] f388=λx=>Fk a x.1 x.2.1 x.2.2:=bf
def lT:=Fk aO
abbrev LD:bu:=qY lT
theorem X6:SS uR (qY lT):=so func388 (.c m6 .z) (X5 aO)
def Fm(aj:GR):T6:=λcY b c w k=>nn cY λe=>aN .i64 w (aX (e.add 0) 0) λg=>aj b c g w λa d=>ap ((a.1,a.2).2==0) (nn cY λh=>bJ d (h.add 4) (Iv (a.1,a.2).1) λi=>nn cY λj=>bJ i (j.add 7) (.func (.func uQ) #[.pointer cY] #[]) λl=>k (a.1,a.2).2 l) (k (a.1,a.2).2 d)
theorem X7 a:E [.p,.p,.i .i64] [.i .i64] [(dH,yQ a)] 2097607 [] f248=λx=>Fm a x.1 x.2.1 x.2.2:=bf
def lU:=Fm aj
abbrev LF:bu:=qY lU
theorem X8:SS uO (qY lU):=so func248 (.c dY .z) (X7 aj)
def pu:amb:=λM0 w k=>aH w #[Iv M0] 2 λa b=>k (.func (.func tI) #[] #[.pointer (some a)]) b
abbrev ZT:bu:=ajT pu
theorem ZU:SS GQ (ajT pu):=sl 6 [] func315
def bT:T60:=λa w k=>Oa Tryz.prog (j4 []) 21 [] Tryz.f340 [(.i .i64)] (dz [(.i .u64)] a) w k
abbrev xf:bu:=al3 bT
theorem xg:uI Tryz.prog lQ xf:=
 adP (mask:=21) (h:=[]) (ds:=[]) mixed func340 trivial
 [(.i .u64)] [(.i .i64)] bf (λx w k=>bT x w k) (λx w k=>rfl)
def DX(Y:Nat→bu)(bT:T60)(rQ:Value)(e:Addr)(w:World)(k:Unit→aq):Prop:= aN .i64 w e λg=>jO (S:=Int) (λh b c=>ap (b !=0) (bT b c λi j=>mT (Js [(lQ,(al3 bT))] Y) rQ #[Iv i] j λl d=>HL l λm=>ap (!m) (k () d) (h (og .u64 b (aL .u64 (b - 1))) d)) (k () c)) (aL .u64 g) w
theorem WU(Y:Nat→bu)(bT:T60)(x:KT [.raw,.a])(w:World)(k:KT []→aq):Oa Tryz.prog (Js [(lQ,(al3 bT))] Y) 65673 [(2,[(3,(.i .u64))])] f339 [] (dz [.raw,.a] x) w k=DX Y bT x.1 x.2 w k:=bf
def BP(Y:Nat→bu)(rQ:Value)(a:Addr)(w:World)(k:Unit→aq):Prop:=DX Y bT rQ a w k
def tM(Y:Nat→bu):bu:=λargs w c=>qG [.raw,.a] args λx=>BP Y x.1 x.2 w λr w=>c (eW (dz [] r)) w
theorem WV:V8 Tryz.prog tI tM:=λY hY=>
 Mu (mask:=65673) (h:=[(2,[(3,(.i .u64))])]) mixed func339 (VX (l:=[(lQ,xf)]) ⟨xg,trivial⟩ hY)
 [.raw,.a] [] bf (λx w k=>BP Y x.1 x.2 w k) (λx w k=>WU Y bT x w k)
def KF(I:Cw)(pu:amb)(M0:Int)(w:World)(k:(Int)→aq):Prop:= aH w #[Iv 0] 3 λc j=>bJ j c (Iv 0) λl=>pu M0 l λm n=>BM I [(.i .i64)] m n (fun(p:Int) h o=>aN .i64 h c λd=>bJ h c (Iv (aL .i64 (d+1))) λe=>o e) λD9 b=>aN .i64 b c λf=>Is [D9] b λg=>k f g
theorem adg(I:Cw)(pu:amb)(x:KT [(.i .i64)])(w:World)(k:KT [(.i .i64)]→aq):UC Tryz.prog (j4 [(GQ,(ajT pu))]) I 45 [(4,[(6,(.i .i64))])] f293 [(.i .i64)] (dz [(.i .i64)] x) w k=KF I pu x w k:=bf
def kD:T60:=λM0 w k=>KF (Cy [(tI,tM)]) pu M0 w k
abbrev adh:bu:=aqw kD
theorem Uf:uI Tryz.prog Kr adh:=
 Iu (mask:=45) (h:=[(4,[(6,(.i .i64))])]) mixed func293 (Mr (l:=[(GQ,ZT)]) ⟨ZU,trivial⟩) (K7 (l:=[(tI,tM)]) ⟨WV,trivial⟩)
 [(.i .i64)] [(.i .i64)] bf (λx w k=>kD x w k) (λx w k=>adg (Cy [(tI,tM)]) pu x w k)
def KG(e:T60):aqS:=λM0 a w k=>e (Jn .u64 18446744073709551615 (aL .u64 M0)) w λc d=>ap (decide (c≥(VD a 64))) (k (-1) d) (k c d)
theorem adi a:E [.i .i64,.i .i64] [.i .i64] [(lQ,al3 a)] 8243 [] f397=λx=>KG a x.1 x.2:=bf
def r8:=KG bT
theorem adj:SS TX (aqT r8):=so func397 (.c xg .z) (adi bT)
def Fo(aj:GR)(kD:T60)(dS:T7)(r8:aqS):T6:=λcY g h w k=>nn cY λA=>aN .i64 w (aX (A.add 0) 0) λB=>aj g h (aL .i64 (B+1)) w λa y=>ap ((a.1,a.2).2 !=0) (k (a.1,a.2).2 y) (nn cY λC=>bJ y (C.add 5) (Iv (a.1,a.2).1) λD=>nn cY λF=>bJ D (F.add 7) .nilFunc λG=>kD (a.1,a.2).1 G λz c=>cD (S:=Bool) (λe=>nn cY λi=>aN .i64 c (aX (i.add 0) 2) λj=>ap (decide (z<j)) (nn cY λl=>aN .i64 c (l.add 4) λm=>e (decide (z<m)) c) (e false c)) λn d=>ap n (nn cY λo=>bG 3 d (o.add 0) λf=>dS f d λp q=>r8 (SH .i64 (a.1,a.2).1 p) 16 q λr s=>nn cY λt=>bJ s (t.add 3) (Iv r) λu=>nn cY λv=>bJ u (v.add 7) (.func (.func sj) #[.pointer cY] #[]) λx=>k 0 x) (k 0 d))
theorem X9 a c d e:E [.p,.p,.i .i64] [.i .i64] [(dH,yQ a),(Kr,aqw c),(zj,xI d),(TX,aqT e)] 281474985100231 [(7,[(48,.b)])] f396=λx=>Fo a c d e x.1 x.2.1 x.2.2:=bf
def lV:=Fo aj kD dS r8
abbrev LG:bu:=qY lV
theorem Ya:SS uT (qY lV):=so func396 (.c dY (.c Uf (.c Gd (.c adj .z)))) (X9 aj kD dS r8)
def Fp(aj:GR)(ko:T59)(kD:T60):T6:=λcY h i w k=>nn cY λu=>aN .i64 w (aX (u.add 0) 0) λv=>aj h i (aL .i64 (v+1)) w λa s=>ap ((a.1,a.2).2 !=0) (k (a.1,a.2).2 s) (nn cY λx=>bJ s (x.add 5) (Iv (a.1,a.2).1) λy=>nn cY λz=>bJ y (z.add 7) .nilFunc λA=>cD (S:=Bool) (λt=>drew A λd=>nn cY λj=>aN .i64 d (j.add 3) λl=>ko (a.1,a.2).1 l d λm b=>ap m (nn cY λe=>aN .i64 b (e.add 4) λn=>kD (a.1,a.2).1 b λo f=>ai 1 (e.add 4) b f (t (decide (o>n)) f)) (t false b)) λp g=>ap p (nn cY λq=>bJ g (q.add 7) (.func (.func sj) #[.pointer cY] #[]) λr=>k 0 r) (k 0 g))
theorem Yb a c d:E [.p,.p,.i .i64] [.i .i64] [(dH,yQ a),(JD,al2 c),(Kr,aqw d)] 35184376283591 [(6,[(45,.b)])] f272=λx=>Fp a c d x.1 x.2.1 x.2.2:=bf
def lW:=Fp aj ko kD
abbrev LH:bu:=qY lW
theorem Yc:SS uQ (qY lW):=so func272 (.c dY (.c QM (.c Uf .z))) (Yb aj ko kD)
def Fq(x:T42):T6:=λcY f g w k=>drew w λd=>nn cY λo=>aN .i64 d (aX (o.add 0) 0) λp=>nn cY λq=>aN .i64 d (q.add 5) λr=>nn cY λs=>aN .i64 d (s.add 5) λt=>nn cY λu=>aN .i64 d (u.add 3) λv=>G6 .i64 1 (YV v 0) λh=>x f g (aL .i64 (p+1)) r (Jn .i64 t h) d λb e=>ap ((b.1,b.2).2 !=0) (k (b.1,b.2).2 e) (nn cY λi=>bJ e (i.add 7) .nilFunc λc=>ap (b.1,b.2).1 (nn cY λj=>aN .i64 c (j.add 3) λl=>nn cY λm=>bJ c (m.add 6) (Iv l) λn=>k 0 n) (k 0 c))
theorem Yd a:E [.p,.p,.i .i64] [.i .i64] [(mX,abt a)] 4535485465031 [] f294=λx=>Fq a x.1 x.2.1 x.2.2:=bf
def lX:=Fq aU
abbrev LI:bu:=qY lX
theorem Ye:SS sj (qY lX):=so func294 (.c oZ .z) (Yd aU)
def Fs(l:T2)(u:T6)(v:T6)(x:T6)(y:T6)(z:T6)(A:T6):T40:=λcY b e w k=>ap ((ej cY)||(ej b)) (k (false,2) w) (nn cY λm=>bG 3 w (m.add 0) λf=>l f w λn c=>ap (!n) (k (false,1) c) (nn cY λo=>sX c (o.add 7) λp=>aas p λq=>ap q (k (true,0) c) (nn cY λr=>sX c (r.add 7) λs=>mT (j4 [(qi,(OD l)),(uS,(qY u)),(uR,(qY v)),(uO,(qY x)),(uT,(qY y)),(uQ,(qY z)),(sj,(qY A))]) s #[.pointer b,Iv e] c λg a=>xy .i64 g λd=>ap (d !=0) (k (false,d) a) (nn cY λh=>sX a (h.add 7) λi=>aas i λj=>k (j,0) a))))
theorem Yf a c d e f g h:E [.p,.p,.i .i64] [.b,.i .i64] [(qi,OD a),(uS,qY c),(uR,qY d),(uO,qY e),(uT,qY f),(uQ,qY g),(sj,qY h)] 137447408583 [] f249=λx=>Fs a c d e f g h x.1 x.2.1 x.2.2:=bf
def dw:=Fs cj lS lT lU lV lW lX
theorem Ft:SS uP (Wp dw):=so func249 (.c xK (.c X4 (.c X6 (.c X8 (.c Ya (.c Yc (.c Ye .z))))))) (Yf cj lS lT lU lV lW lX)
def nl:T3:=λcY w k=>ap (ej cY) (k (-1) w) (nn cY λa=>aN .i64 w (a.add 6) λc=>k c w)
theorem WW:SS JG (y6 nl):=sl 21 [] func250
def wj(A:T40)(B:T1)(C:T3):T0:=λa w k=>drew w λe=>nn a λu=>aR e (u.add 12) λp3=>nn a λv=>aR e (v.add 0) λp5=>nn p5 λx=>aR e (x.add 7) λp7=>nn a λy=>aN .i64 e (y.add 1) λz=>A p3 p7 z e λb f=>nn a λj=>aR f (j.add 0) λp13=>B p13 (b.1,b.2).2 f λl g=>ap (l||(!(b.1,b.2).1)) (k () g) (nn a λm=>bJ g (m.add 7) (.func (.func mb) #[.pointer a] #[]) λn=>drew n λc=>nn a λo=>aR c (o.add 12) λp=>nn a λh=>aN .i64 c (h.add 1) λq=>C p c λr d=>ai 1 (h.add 1) c d (ap (r==q) (nn a λs=>bJ d (s.add 7) (.func (.func fV) #[.pointer a] #[]) λt=>k () t) (k () d)))
theorem Nc a b c:E [.p] [] [(uP,Wp a),(be,qd b),(JG,y6 c)] 140741783322637 [] f217=λx=>wj a b c x:=bf
def fb:=wj dw ae nl
abbrev wm:bu:=cg fb
theorem Nf:SS lC (cg fb):=so func217 (.c Ft (.c bq (.c WW .z))) (Nc dw ae nl)
def wo(i:T42):T97:=λtX b c w k=>aH w tX 116 λf e=>aN .i64 e (f.add 0) λg=>i b c (aL .i64 (g+0)) 0 1 e λa h=>k ((a.1,a.2).1,(a.1,a.2).2) h
theorem Ng a:E [.ag,.p,.i .i64] [.b,.i .i64] [(mX,abt a)] 206 [] f242=λx=>wo a x.1 x.2.1 x.2.2:=bf
def ji:=wo aU
theorem Nh:SS Dm (ayr ji):=so func242 (.c oZ .z) (Ng aU)
def wq(D:T97)(F:T1):T0:=λa w k=>drew w λb=>nn a λx=>aR b (x.add 0) λp3=>nn p3 λy=>cE b (y.add 11) λz=>nn a λA=>aN .i64 b (A.add 18) λB=>cW z B 1 λC=>aR b C λp9=>nn p9 λi=>bG 1 b (i.add 3) λe=>nn a λj=>aR b (j.add 0) λp13=>nn p13 λl=>aR b (l.add 7) λp15=>nn a λm=>aN .i64 b (m.add 1) λn=>D e p15 n b λc f=>nn a λo=>aR f (o.add 0) λp=>F p (c.1,c.2).2 f λq d=>ap q (k () d) (nn a λr=>sX d (r.add 19) λs=>nn a λt=>bJ d (t.add 7) s λg=>ap (c.1,c.2).1 (nn a λu=>bJ g (u.add 7) (.func (.func mz) #[.pointer a] #[]) λv=>k () v) (k () g))
theorem Ni a b:E [.p] [] [(Dm,ayr a),(be,qd b)] 282574488338445 [] f214=λx=>wq a b x:=bf
def fc:=wq ji ae
abbrev wu:bu:=cg fc
theorem Nj:SS lA (cg fc):=so func214 (.c Nh (.c bq .z)) (Ni ji ae)
def xZ(l:T7)(aj:GR):UH:=λb c d w k=>aH w b 144 λg f=>bG 2 f g λe=>l e f λh i=>aj c d h i λa j=>k ((a.1,a.2).1,(a.1,a.2).2) j
theorem Pd a b:E [.ag,.p,.i .i64] [.i .i64,.i .i64] [(jC,xI a),(dH,yQ b)] 206 [] f265=λx=>xZ a b x.1 x.2.1 x.2.2:=bf
def cq:=xZ aD aj
theorem ya:SS ql (IL cq):=so func265 (.c kA (.c dY .z)) (Pd aD aj)
def Ci(i:T35):T70:=λa b w k=>ap (ej a) (k (none,2) w) (aH w #[Iv b] 3 λd e=>i a (Sl.mk (some d) 1 1) e λf c=>ap (!f) (k (none,17) c) (aH c #[.pointer a,Iv b,.bool false,.bool false] 375 λg h=>k ((some g),0) h))
theorem UX a:E [.p,.i .i64] [.p,.i .i64] [(yO,Ua a)] 627 [] f284=λx=>Ci a x.1 x.2:=bf
def l5:=Ci da
theorem UY:SS IG (al5 l5):=so func284 (.c DA .z) (UX da)
def yb(q:T70)(r:T1):Wm:=λa d afS w k=>nn a λm=>aR w (m.add 0) λp2=>nn p2 λn=>aR w (n.add 9) λp4=>q p4 d w λc l=>nn a λo=>aR l (o.add 0) λp8=>r p8 (c.1,c.2).2 l λp b=>ap p (k () b) (nn a λe=>bJ b (e.add 10) (.pointer (c.1,c.2).1) λf=>nn a λg=>bJ f (g.add 11) afS λh=>nn a λi=>bJ h (i.add 7) (.func (.func kI) #[.pointer a] #[]) λj=>k () j)
theorem Pe a b:E [.p,.i .i64,.raw] [] [(IG,al5 a),(be,qd b)] 33554629 [] f266=λx=>yb a b x.1 x.2.1 x.2.2:=bf
def cw:=yb l5 ae
theorem yc:SS sQ (Li cw):=so func266 (.c UY (.c bq .z)) (Pe l5 ae)
def yd(ae:T1)(cq:UH)(cw:Wm):T0:=λa7 w k=>aH w #[.pointer a7] 141 λd w2=>drew w2 λz=>aR z d λp4=>nn p4 λa5=>cE z (a5.add 5) λs6=>aR z d λp7=>nn p7 λa8=>aR z (a8.add 0) λp9=>nn p9 λa9=>aN .i64 z (aX (a9.add 1) 4) λb0=>ap (decide (((s6.n:Nat):Int)≥b0)) (aR z d λp12=>nn p12 λb1=>aR z (b1.add 0) λp14=>ae p14 23 z λg1 b2=>k () b2) (drew z λj=>aR j d λp18=>nn p18 λb3=>bG 2 j (b3.add 2) λR=>aR j d λb4=>nn b4 λb5=>aR j (b5.add 0) λb6=>nn b6 λb7=>aR j (b7.add 7) λb8=>aR j d λb9=>nn b9 λc0=>aN .i64 j (c0.add 1) λc1=>cq R b8 c1 j λB C=>aR C d λc2=>nn c2 λc3=>aR C (c3.add 0) λc4=>ae c4 (B.1,B.2).2 C λc5 T=>ap c5 (k () T) (drew T λl=>aR l d λc6=>nn c6 λc7=>aR l (c7.add 0) λc8=>nn c8 λc9=>cE l (c9.add 11) λd0=>aR l d λd1=>nn d1 λd2=>aN .i64 l (d2.add 18) λd3=>cW d0 d3 1 λd4=>aR l d4 λx=>nn x λd5=>aN .i64 l (d5.add 2) λd6=>kE #[Iv 0,Iv 0] 0 2 #[Iv d6,(Iv (B.1,B.2).1)] λU=>aH l U 356 λd7 d8=>nn x λd9=>bJ d8 (d9.add 24) (.slice (some d7) 1 1) λe0=>cD (S:=Unit) (λD=>drew e0 λb=>aR b d λF=>aR b d λG=>aR b d λe1=>nn e1 λt=>cE b (t.add 5) λf=>aR b d λe2=>nn e2 λg=>cE b (g.add 6) λh=>aR b d λe3=>nn e3 λu=>sX b (u.add 19) λv=>both (aH b #[.pointer x] 114 λV e=>ai 1 (u.add 19) b e (ai 1 d b e (ai 1 (g.add 6) b e (ai 1 d b e (ai 1 (t.add 5) b e (ai 1 d b e (ai 1 d b e (ai 1 d b e (both (oh Tryz.prog #[97,97] 97 [.slice f.a f.n f.c,(.slice (some V) 1 1)] e λH m=>ai 1 (u.add 19) b m (ai 1 d b m (ai 1 (g.add 6) b m (ai 1 d b m (ai 1 d b m (ai 1 d b m (rF v (aH m #[v] 1 λe4 o=>ai 1 (g.add 6) b o (ai 1 d b o (ai 1 (t.add 5) b o (ai 1 d b o (ai 1 d b o (ai 1 d b o (oh Tryz.prog #[146,146] 146 [.slice h.a h.n h.c,(.slice (some e4) 1 1)] o λI J=>ai 1 d b J (ai 1 d b J (nn F λe5=>bJ J (e5.add 5) (.slice H.a H.n H.c) λW=>ai 1 d b W (nn G λe6=>bJ W (e6.add 6) (.slice I.a I.n I.c) λe7=>D () e7))))))))))))))))) (rF v (aH e #[v] 1 λe8 p=>ai 1 (g.add 6) b p (ai 1 d b p (ai 1 (t.add 5) b p (ai 1 d b p (ai 1 d b p (ai 1 d b p (oh Tryz.prog #[97,97] 97 [.slice f.a f.n f.c,(.slice (some V) 1 1)] p λL q=>ai 1 (u.add 19) b q (ai 1 d b q (ai 1 (g.add 6) b q (ai 1 d b q (ai 1 d b q (ai 1 d b q (oh Tryz.prog #[146,146] 146 [.slice h.a h.n h.c,(.slice (some e8) 1 1)] q λM N=>ai 1 d b N (ai 1 d b N (nn F λe9=>bJ N (e9.add 5) (.slice L.a L.n L.c) λX=>ai 1 d b X (nn G λf0=>bJ X (f0.add 6) (.slice M.a M.n M.c) λf1=>D () f1)))))))))))))))))))))))))) (rF v (aH b #[v] 1 λf2 r=>ai 1 (g.add 6) b r (ai 1 d b r (ai 1 (t.add 5) b r (ai 1 d b r (ai 1 d b r (ai 1 d b r (aH r #[.pointer x] 114 λf3 i=>ai 1 (u.add 19) b i (ai 1 d b i (ai 1 (g.add 6) b i (ai 1 d b i (ai 1 (t.add 5) b i (ai 1 d b i (ai 1 d b i (ai 1 d b i (oh Tryz.prog #[97,97] 97 [.slice f.a f.n f.c,(.slice (some f3) 1 1)] i λO s=>ai 1 (u.add 19) b s (ai 1 d b s (ai 1 (g.add 6) b s (ai 1 d b s (ai 1 d b s (ai 1 d b s (oh Tryz.prog #[146,146] 146 [.slice h.a h.n h.c,(.slice (some f2) 1 1)] s λP Q=>ai 1 d b Q (ai 1 d b Q (nn F λf4=>bJ Q (f4.add 5) (.slice O.a O.n O.c) λY=>ai 1 d b Y (nn G λf5=>bJ Y (f5.add 6) (.slice P.a P.n P.c) λZ=>D () Z)))))))))))))))))))))))))) λaFY a0=>drew a0 λy=>aR y d λa2=>nn x λa3=>aN .i64 y (a3.add 1) λa4=>cw a2 a4 (.func (.func oO) #[] #[.pointer (some d)]) y λ_u a6=>k () a6))
theorem Pf a b c:E [.p] [] [(be,qd a),(ql,IL b),(sQ,Li c)] 281474976972830 [(9,[])] f243=λx=>yd a b c x:=bf
def fL:=yd ae cq cw
abbrev ye:bu:=cg fL
theorem Pg:SS mz (cg fL):=so func243 (.c bq (.c ya (.c yc .z))) (Pf ae cq cw)
def iE:T99:=λtX r w k=>aH w tX 119 λd G=>aH G r 24 λD H=>aH H Jg 75 λe f=>cD (S:=Bool) (λF=>aN .i64 f (d.add 0) λI=>ap (decide (I<0)) (F true f) (aN .i64 f (d.add 0) λJ=>cE f (D.add 0) λs=>(F (decide (J≥((s.n:Nat):Int))) f))) λt a=>ap t (dK 5 a e Jg λg=>bG 5 g e λh=>k (h,17) g) (cE a (D.add 0) λu=>aN .i64 a (d.add 0) λv=>cW u v 2 λx=>cE a (x.add 1) λi=>cD (S:=Bool) (λj=>aN .i64 a (d.add 1) λy=>ap (decide (y<0)) (j true a) (aN .i64 a (d.add 1) λz=>(j (decide (z≥((i.n:Nat):Int))) a))) λA c=>ap A (dK 5 c e Jg λl=>bG 5 l e λm=>k (m,17) l) (aN .i64 c (d.add 1) λB=>cW i B 5 λC=>bG 5 c C λo=>dK 5 c e o λp=>bG 5 p e λq=>k (q,0) p))
theorem Te:SS Hi (ayt iE):=sl 34359869564 [(1,[(17,.b)]),(5,[(35,.b)])] func134
def yf(Q:T8)(O:T99)(U:T1):MH:=λc w k=>aH w Jg 75 λP R=>cD (S:=(Addr×Int)) (λB=>drew R λb=>nn c λo=>aR b (o.add 0) λp6=>nn p6 λp=>bG 1 b (p.add 0) λl=>both (Q c b λp9 a=>ai 1 (p.add 0) b a (ai 1 (o.add 0) b a (nn p9 λm=>bG 19 a (m.add 4) λj=>both (O j l a λd C=>aH C Jg 75 λq e=>ai 19 (m.add 4) a e (ai 1 (p.add 0) b e (ai 1 (o.add 0) b e (dK 5 e q (d.1,d.2).1 λD=>B (q,(d.1,d.2).2) D)))) (aH a Jg 75 λr f=>ai 19 (m.add 4) a f (ai 1 (p.add 0) b f (ai 1 (o.add 0) b f (O j l f λg F=>dK 5 F r (g.1,g.2).1 λG=>B (r,(g.1,g.2).2) G))))))) (aH b Jg 75 λs n=>ai 1 (p.add 0) b n (ai 1 (o.add 0) b n (Q c n λH h=>ai 1 (p.add 0) b h (ai 1 (o.add 0) b h (nn H λI=>bG 19 h (I.add 4) λt=>O t l h λi J=>dK 5 J s (i.1,i.2).1 λL=>B (s,(i.1,i.2).2) L)))))) λu v=>nn c λM=>aR v (M.add 0) λN=>U N u.2 v λT x=>bG 5 x u.1 λy=>dK 5 x P y λz=>bG 5 z P λA=>k A z
theorem Ph b c d:E [.p] [.ag] [(bY,F6 b),(Hi,ayt c),(be,qd d)] 29 [(1,[(3,.a),(4,(.i .i64))])] f287=λx=>yf b c d x:=bf
def aJ:=yf af iE ae
theorem mI:SS kx (EC aJ):=so func287 (.c cn (.c Te (.c bq .z))) (Ph af iE ae)
def r9:UG:=λzn w k=>cD (S:=Bool) (λa=>ap (zn==6) (a (zn==6) w) (ap (zn==7) (a (zn==7) w) (ap (zn==8) (a (zn==8) w) (ap (zn==9) (a (zn==9) w) (ap (zn==10) (a (zn==10) w) (ap (zn==11) (a (zn==11) w) (ap (zn==12) (a (zn==12) w) (a (zn==14) w)))))))) λc b=>ap c (k true b) (k false b)
theorem adk:SS TU (AI r9):=sl 29 [(4,[(4,.b)])] func135
def zS(aJ:MH)(r9:UG)(dV:T71)(af:T8)(cw:Wm):T0:=λg w k=>aH w #[.pointer g] 141 λd p=>aR p d λp3=>aJ p3 p λh r=>aH r Jg 75 λf s=>dK 5 s f h λq=>aN .i64 q (f.add 0) λt=>r9 t q λj a=>ap (!j) (aR a d λp12=>bG 5 a f λe=>dV p12 e a λ_u l=>k () l) (drew a λb=>aR b d λp16=>aR b d λp17=>af p17 b λp18 c=>ai 1 d b c (nn p18 λm=>aN .i64 c (m.add 1) λn=>cw p16 n (.func (.func pD) #[] #[.pointer (some d),.pointer (some f)]) c λ_u o=>k () o))
theorem Q5 a b c d e:E [.p] [] [(kx,EC a),(TU,AI b),(zl,aqr c),(bY,F6 d),(sQ,Li e)] 262 [] f269=λx=>zS a b c d e x:=bf
def gM:=zS aJ r9 dV af cw
abbrev zT:bu:=cg gM
theorem Q6:SS fW (cg gM):=so func269 (.c mI (.c adk (.c Gg (.c cn (.c yc .z))))) (Q5 aJ r9 dV af cw)
def Ba(aj:GR):UH:=λb c d w k=>aH w b 99 λf e=>aN .i64 e (f.add 0) λh=>aj c d h e λa i=>k ((a.1,a.2).1,(a.1,a.2).2) i
theorem Tf a:E [.ag,.p,.i .i64] [.i .i64,.i .i64] [(dH,yQ a)] 206 [] f211=λx=>Ba a x.1 x.2.1 x.2.2:=bf
def kR:=Ba aj
theorem Tg:SS Hj (IL kR):=so func211 (.c dY .z) (Tf aj)
def Bb(kR:UH):T6:=λa c d w k=>ap ((ej a)||(ej c)) (k 2 w) (nn a λg=>bG 1 w (g.add 0) λe=>kR e c d w λb f=>ap ((b.1,b.2).2 !=0) (k (b.1,b.2).2 f) (nn a λh=>bJ f (h.add 1) (Iv 1) λi=>nn a λj=>bJ i (j.add 2) (Iv (b.1,b.2).1) λl=>k 0 l))
theorem Th a:E [.p,.p,.i .i64] [.i .i64] [(Hj,IL a)] 67125703 [] f163=λx=>Bb a x.1 x.2.1 x.2.2:=bf
def cM:=Bb kR
theorem Bc:SS uA (qY cM):=so func163 (.c Tg .z) (Th kR)
def eG:ZI:=λa w k=>aH w a 144 λf e=>bG 2 e f λb=>kE zr6 0 2 b λc=>kE #[Iv 0,Iv 0,Iv 0,Iv 0,Iv 0,Iv 0,Iv 0,.bool false,Iv 0,Iv 0,.pointer none,.nilFunc,Iv 0,Iv 0,Iv 0] 0 6 c λd=>rF (.func (.func nX) #[] #[]) (aH e (eM d 11 (.func (.func nX) #[] #[])) 289 λg h=>k (some g) h)
theorem IT:SS vF (JL eG):=sl 6 [] func165
def zU(B:T6)(C:T1)(eG:ZI)(bt:T39):T0:=λh w k=>aH w #[.pointer h] 141 λc v=>aR v c λp3=>nn p3 λy=>bJ v (y.add 14) (.bool false) λz=>drew z λa=>aR a c λp7=>nn p7 λx=>aR a (x.add 0) λp9=>aR a c λp10=>nn p10 λi=>aR a (i.add 4) λp12=>aR a c λp13=>nn p13 λj=>aR a (j.add 0) λp15=>nn p15 λl=>aR a (l.add 7) λp17=>aR a c λp18=>nn p18 λm=>aN .i64 a (m.add 1) λn=>B p12 p17 n a λo d=>ai 1 (x.add 0) a d (ai 1 c a d (C p9 o d λp e=>ap p (k () e) (drew e λb=>aR b c λq=>aR b c λr=>nn r λs=>bG 2 b (s.add 2) λf=>eG f b λt g=>ai 1 c b g (bt q t (.func (.func pC) #[] #[.pointer (some c)]) g λ_u u=>k () u))))
theorem Q7 a b c d:E [.p] [] [(uA,qY a),(be,qd b),(vF,JL c),(my,abq d)] 33554434 [] f115=λx=>zU a b c d x:=bf
def gN:=zU cM ae eG bt
abbrev zV:bu:=cg gN
theorem Q8:SS fV (cg gN):=so func115 (.c Bc (.c bq (.c IT (.c sS .z)))) (Q7 cM ae eG bt)
def zW(T:T8)(au:MH)(cX:T51)(ae:T1):T0:=λd w k=>drew w λe=>nn d λx=>aR e (x.add 0) λp3=>nn p3 λy=>aR e (y.add 9) λp5=>nn d λz=>aR e (z.add 0) λp7=>nn p7 λA=>aR e (A.add 7) λp9=>nn d λl=>aN .i64 e (l.add 1) λC=>T d e λp12 f=>ai 1 (l.add 1) e f (ai 1 (A.add 7) e f (ai 1 (z.add 0) e f (ai 1 (y.add 9) e f (ai 1 (x.add 0) e f (au p12 f λr g=>ai 1 (l.add 1) e g (ai 1 (A.add 7) e g (ai 1 (z.add 0) e g (ai 1 (y.add 9) e g (ai 1 (x.add 0) e g (PW r 0 λD=>xy .i64 D λF=>cX p5 p9 C F g λh s=>nn d λG=>aR s (G.add 0) λH=>ae H (h.1,h.2).2 s λI t=>ap I (k () t) (drew t λb=>nn d λi=>aR b (i.add 0) λJ=>nn d λm=>aR b (m.add 0) λL=>nn L λo=>cE b (o.add 10) λp=>ai 1 (o.add 10) b b (ai 1 (m.add 0) b b (ai 1 (i.add 0) b b (kE #[Iv 0,Iv 0,Iv 0,.bool false] 0 4 #[(Iv (-2)),Iv 0,Iv 0,.bool false] λu=>aH b u 125 λM j=>ai 1 (o.add 10) b j (ai 1 (m.add 0) b j (ai 1 (i.add 0) b j (oh Tryz.prog #[96,96] 96 [.slice p.a p.n p.c,(.slice (some M) 1 1)] j λq v=>ai 1 (i.add 0) b v (nn J λN=>bJ v (N.add 10) (.slice q.a q.n q.c) λO=>nn d λP=>bJ O (P.add 28) (Iv (h.1,h.2).1) λQ=>nn d λR=>bJ Q (R.add 7) (.func (.func mA) #[.pointer d] #[]) λS=>k () S))))))))))))))))))
theorem Q9 a b c d:E [.p] [] [(bY,F6 a),(gB,EC b),(vE,ad6 c),(be,qd d)] 34359738381 [] f307=λx=>zW a b c d x:=bf
def gO:=zW af au cX ae
abbrev zX:bu:=cg gO
theorem Ra:SS kZ (cg gO):=so func307 (.c cn (.c iC (.c Ca (.c bq .z)))) (Q9 af au cX ae)
def Nk(i:T7):T57:=λb arq w k=>aH w b 75 λd a=>aN .i64 a (d.add 0) λf=>ap (f==arq) (bG 5 a d λc=>i c a λg h=>k (g==0) h) (k false a)
theorem afT a:E [.ag,.i .i64] [.b] [(Bt,xI a)] 22 [] f235=λx=>Nk a x.1 x.2:=bf
def eK:=Nk eX
theorem HW:SS Dl (ahp eK):=so func235 (.c Ks .z) (afT eX)
def zY(eK:T57)(lj:World→((Array Value)→aq)→Prop)(tX:Array Value)(x:Array Value)(y:Array Value)(w:World)(k:(Array Value×Int)→aq):Prop:= aH w tX 119 λz X=>aH X x 24 λV Y=>aH Y y 75 λv Z=>aH Z Ds 119 λh W=>bG 5 W v λA=>eK A 8 W λB d=>ap (!B) (dK 19 d h Ds λi=>bG 19 i h λj=>k (j,1) i) (aN .i64 d (v.add 4) λC=>cE d (V.add 0) λD=>ap (decide (C≥((D.n:Nat):Int))) (dK 19 d h Ds λl=>bG 19 l h λm=>k (m,17) l) (lj d λo F=>aH F Ds 119 λe G=>dK 19 G e o λH=>drew H λf=>aN .i64 f (v.add 4) λI=>bG 8 f (z.add 2) λp=>bJ f (e.add 0) (Iv I) λq=>ai 8 (z.add 2) f q (dK 8 q (e.add 2) p λJ=>jO (S:=Int) (λr b g=>ap (decide (b<8)) (drew g λc=>cE c (V.add 0) λL=>aN .i64 c (v.add 4) λM=>cW L M 2 λN=>aN .i64 c (N.add 0) λO=>G6 .i64 1 b λP=>ap ((og .i64 O P) !=0) (GC (z.add 10) 8 b 1 λQ=>aN .i64 c Q λR=>GC (e.add 10) 8 b 1 λT=>bJ c T (Iv R) λU=>r (aL .i64 (b+1)) U) (r (aL .i64 (b+1)) c)) (bG 19 g e λs=>dK 19 g h s λt=>bG 19 t h λu=>k (u,0) t)) 0 J)))
theorem Rb a b:E [.ag,.ag,.ag] [.ag,.i .i64] [(Dl,ahp a),(Km,ajV b)] 2199829091320 [(11,[(28,(.i .i64))])] f190=λx=>zY a b x.1 x.2.1 x.2.2:=bf
def iR:=zY eK lj
theorem Rd:SS FX (aqH iR):=so func190 (.c HW (.c Ue .z)) (Rb eK lj)
def yg(y:T57)(ay:ZJ):aqI:=λtX l aB0 w k=>aH w tX 119 λm t=>aH t l 75 λr u=>aH u Ds 119 λi s=>bG 5 s r λn=>y n 8 s λv j=>ap (!v) (bG 19 j m λa=>dK 19 j i a λb=>bG 19 b i λc=>k c b) (aN .i64 j (r.add 1) λo=>GC (m.add 10) 8 o 1 λp=>bJ j p (Iv aB0) λd=>bG 19 d m λe=>ay e d λf q=>dK 19 q i f λg=>bG 19 g i λh=>k h g)
theorem Pj a b:E [.ag,.ag,.i .i64] [.ag] [(Dl,ahp a),(iJ,Ol b)] 604 [] f191=λx=>yg a b x.1 x.2.1 x.2.2:=bf
def iS:=yg eK ay
theorem Pk:SS Ew (aqJ iS):=so func191 (.c HW (.c kC .z)) (Pj eK ay)
def aG:T0:=λa w k=>nn a λc=>aR w (c.add 0) λp2=>nn p2 λd=>aN .i64 w (d.add 20) λe=>nn p2 λf=>bJ w (f.add 20) (Iv (aL .i64 (e+1))) λg=>nn a λh=>bJ g (h.add 7) (.func (.func fW) #[.pointer a] #[]) λi=>k () i
theorem m7:SS k9 (cg aG):=sl 1 [] func336
def yh(aE:Wl)(af:T8)(aJ:MH)(iR:ayu)(ae:T1)(au:MH)(eY:T76)(iS:aqI)(aG:T0):T0:=λa w k=>aE a w λb1 w2=>ap b1 (k () w2) (af a w2 λp3 w4=>aJ a w4 λP w6=>aH w6 Jg 75 λv w8=>dK 5 w8 v P λw9=>cD (S:=(Addr×Int)) (λx=>drew w9 λc=>nn p3 λp=>bG 19 c (p.add 4) λl=>nn a λq=>aR c (q.add 0) λp15=>nn p15 λr=>bG 1 c (r.add 0) λm=>bG 5 c v λo=>both (iR l m o c λi Q=>aH Q Ds 119 λy e=>ai 5 v c e (ai 1 (r.add 0) c e (ai 1 (q.add 0) c e (ai 19 (p.add 4) c e (dK 19 e y (i.1,i.2).1 λR=>x (y,(i.1,i.2).2) R))))) (aH c Ds 119 λz f=>ai 5 v c f (ai 1 (r.add 0) c f (ai 1 (q.add 0) c f (ai 19 (p.add 4) c f (iR l m o f λj T=>dK 19 T z (j.1,j.2).1 λU=>x (z,(j.1,j.2).2) U)))))) λs V=>cD (S:=Bool) (λA=>drew V λB=>nn a λW=>aR B (W.add 0) λX=>ae X s.2 B λY b=>ap Y (A true b) (nn a λt=>aR b (t.add 0) λZ=>nn a λC=>aR b (C.add 0) λa0=>nn a λD=>aN .i64 b (D.add 1) λa1=>nn p3 λF=>aN .i64 b (F.add 0) λa2=>nn a λG=>aN .i64 b (G.add 28) λa3=>bG 19 b s.1 λH=>au p3 b λI d=>ai 19 s.1 b d (ai 1 (G.add 28) b d (ai 1 (F.add 0) b d (ai 1 (D.add 1) b d (ai 1 (C.add 0) b d (ai 1 (t.add 0) b d (PW I 0 λa4=>xy .i64 a4 λa5=>eY a0 a1 a2 a5 a3 H d λa6 J=>ai 1 (t.add 0) b J (ae Z a6 J λa8 a9=>A a8 a9))))))))) λb0 L=>ap b0 (k () L) (drew L λh=>nn p3 λb2=>bG 19 h (b2.add 4) λM=>bG 5 h v λN=>nn a λb3=>aR h (b3.add 0) λb4=>nn b4 λb5=>cE h (b5.add 11) λb6=>iS M N (aL .i64 (((b6.n:Nat):Int) - 1)) h λO b7=>nn p3 λb8=>dK 19 b7 (b8.add 4) O λu=>nn a λb9=>aR u (b9.add 0) λc0=>nn c0 λc1=>cE u (c1.add 11) λc2=>nn a λc3=>bJ u (c3.add 18) (Iv (aL .i64 (((c2.n:Nat):Int) - 1))) λc4=>aG a c4 λ_u c5=>nn a λc6=>bJ c5 (c6.add 7) (.func (.func lE) #[.pointer a] #[]) λc7=>k () c7))
theorem Pm c d e f g h j l m:E [.p] [] [(jD,Lh c),(bY,F6 d),(kx,EC e),(FX,aqH f),(be,qd g),(gB,EC h),(B5,aqu j),(Ew,aqJ l),(k9,cg m)] 2305843009213694141 [(3,[(4,.a),(5,(.i .i64))]),(4,[(61,.b)])] f331=λx=>yh c d e f g h j l m x:=bf
def fM:=yh aE af aJ iR ae au eY iS aG
abbrev yj:bu:=cg fM
theorem Pn:SS mA (cg fM):=so func331 (.c kB (.c cn (.c mI (.c Rd (.c bq (.c iC (.c IN (.c Pk (.c m7 .z))))))))) (Pm aE af aJ iR ae au eY iS aG)
def wv(M:T8)(au:MH)(ey:T77)(ae:T1)(ez:T58)(bt:T39):T0:=λr w k=>aH w #[.pointer r] 141 λd L=>drew L λa=>aR a d λp4=>nn p4 λq=>aR a (q.add 0) λp6=>aR a d λp7=>nn p7 λs=>aR a (s.add 0) λp9=>nn p9 λf=>aR a (f.add 9) λp11=>aR a d λp12=>nn p12 λg=>aR a (g.add 0) λp14=>nn p14 λh=>aR a (h.add 7) λp16=>aR a d λp17=>nn p17 λi=>aN .i64 a (i.add 1) λt=>aR a d λu=>M u a λv b=>ai 1 (i.add 1) a b (ai 1 d a b (ai 1 (h.add 7) a b (ai 1 (g.add 0) a b (ai 1 d a b (ai 1 (f.add 9) a b (ai 1 (s.add 0) a b (ai 1 d a b (ai 1 (q.add 0) a b (ai 1 d a b (au v b λm c=>ai 1 (i.add 1) a c (ai 1 d a c (ai 1 (h.add 7) a c (ai 1 (g.add 0) a c (ai 1 d a c (ai 1 (f.add 9) a c (ai 1 (s.add 0) a c (ai 1 d a c (ai 1 (q.add 0) a c (ai 1 d a c (PW m 0 λx=>xy .i64 x λy=>ey p11 p16 t y c λz j=>ai 1 (q.add 0) a j (ai 1 d a j (ae p6 z j λA n=>ap A (k () n) (drew n λe=>aR e d λB=>aR e d λC=>nn C λD=>bG 2 e (D.add 2) λo=>aR e d λF=>nn F λG=>aN .i64 e (G.add 18) λH=>ez o H e λI p=>ai 1 d e p (bt B I (.func (.func ov) #[] #[.pointer (some d)]) p λ_u J=>k () J))))))))))))))))))))))))
theorem Nl a b c d e f:E [.p] [] [(bY,F6 a),(gB,EC b),(AR,aqv c),(be,qd d),(AT,ahq e),(my,abq f)] 536870914 [] f350=λx=>wv a b c d e f x:=bf
def fe:=wv af au ey ae ez bt
abbrev wz:bu:=cg fe
theorem Nm:SS lE (cg fe):=so func350 (.c cn (.c iC (.c Hs (.c bq (.c Ht (.c sS .z)))))) (Nl af au ey ae ez bt)
def wA(Q:T6)(R:T1)(S:T8)(cw:Wm):T75:=λl anI w k=>aH w #[.pointer l] 141 λb N=>aH N #[.pointer anI] 114 λM O=>drew O λf=>aR f b λp6=>aR f b λp7=>aR f M λp8=>nn p6 λP=>bJ f (P.add 20) (.pointer p8) λg=>ai 1 b f g (nn p7 λm=>bJ g (m.add 14) (.bool false) λh=>aR h b λp13=>nn p13 λn=>bJ h (n.add 24) (.func (.func eJ) #[] #[.pointer (some b),.pointer (some M)]) λo=>drew o λa=>aR a b λp17=>nn p17 λi=>aR a (i.add 0) λp19=>aR a b λp=>nn p λq=>aR a (q.add 4) λr=>aR a b λs=>nn s λt=>aR a (t.add 0) λu=>nn u λv=>aR a (v.add 7) λx=>aR a b λy=>nn y λz=>aN .i64 a (z.add 1) λB=>Q r x B a λC d=>ai 1 (i.add 0) a d (ai 1 b a d (R p19 C d λD j=>ap D (k () j) (drew j λc=>aR c b λF=>aR c b λG=>S G c λH e=>ai 1 b c e (nn H λI=>aN .i64 e (I.add 1) λJ=>cw F J (.func (.func ou) #[] #[.pointer (some b)]) e λ_u L=>k () L)))))
theorem Nn a b c d:E [.p,.p] [] [(uA,qY a),(be,qd b),(bY,F6 c),(sQ,Li d)] 34359738380 [] f332=λx=>wA a b c d x.1 x.2:=bf
def c6:=wA cM ae af cw
theorem DY:SS vK (aqt c6):=so func332 (.c Bc (.c bq (.c cn (.c yc .z)))) (Nn cM ae af cw)
def zZ(aJ:MH)(af:T8)(c6:T75):T0:=λa w k=>aJ a w λn G=>aH G Jg 75 λm H=>dK 5 H m n λf=>aN .i64 f (m.add 2) λI=>aN .i64 f (m.add 0) λJ=>ap (J==10) (aN .i64 f (m.add 3) λL=>drew f λg=>nn a λh=>aR g (h.add 0) λp11=>nn p11 λi=>cE g (i.add 11) λo=>af a g λp14 b=>ai 1 (i.add 11) g b (ai 1 (h.add 0) g b (nn p14 λp=>GC (aX (p.add 4) 10) 8 L 1 λq=>aN .i64 b q λr=>cW o r 1 λs=>aR b s λt=>c6 a t b λ_u u=>k () u))) (drew f λc=>nn a λj=>aR c (j.add 0) λv=>nn v λl=>cE c (l.add 11) λx=>af a c λy d=>ai 1 (l.add 11) c d (ai 1 (j.add 0) c d (nn y λz=>GC (aX (z.add 4) 10) 8 I 1 λA=>aN .i64 d A λB=>cW x B 1 λC=>aR d C λD=>c6 a D d λ_u F=>k () F)))
theorem Re a b c:E [.p] [] [(kx,EC a),(bY,F6 b),(vK,aqt c)] 1037 [] f308=λx=>zZ a b c x:=bf
def gP:=zZ aJ af c6
abbrev z0:bu:=cg gP
theorem Rf:SS je (cg gP):=so func308 (.c mI (.c cn (.c DY .z))) (Re aJ af c6)
end Go.Proofs.YthidhjhkmjjckaaGreatDoor
