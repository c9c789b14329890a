/-
  Parts of the proof of LMay: printed by a program out of longer texts.
-/
import Derived.Test.YthidhjhkmjjckaaGreatDoorPMay1
import Derived.RangeFuncFrom
import Derived.RangeFuncLeaves
import Derived.ScopeJumps
import Derived.MapKept
import Derived.WideKeyRuns
import Derived.Recover
import Derived.Test.YthidhjhkmjjckaaGreatDoorProg
import Derived.KernelRfl
set_option linter.unusedVariables false
set_option linter.unusedSimpArgs false
set_option maxRecDepth 100000
open List renaming getElem?_eq_some_iff→kJ,getElem?_eq_getElem→j4,getD_eq_getElem?_getD→nI,getElem?_append_left→sZ,getElem?_append_right→uI,getElem?_set_ne→rK,getElem?_set_self→uu,mem_of_getElem?→q6,getElem?_map→pz,eraseIdx→Iw,insertIdx_succ_cons→azV,insertIdx_zero→azW,replicate→dM,mem_append→y7,length_append→tV,all_eq_true→xz
open Go.Sem renaming run_pure→cK,run_bind→cL
open Go.Result renaming andThen_ok→cF
open Bool renaming or_eq_false_iff→kx,and_eq_true→iZ
open Option renaming isNone→eL
open Go.IntKind renaming wrap→aG
open Int renaming toNat_natCast→kR
open Array renaming setIfInBounds→eM,getElem?_eq_some_iff→AL
open Nat renaming le_refl→iv
open Go.Addr renaming add→aY
namespace Go.Ev
open Go Go.RowKit
def q7:Code→Bool
 | .rangeFunc _ _ _ _=>true
 | .goto _=>true
 | .seq a b=>q7 a||q7 b
 | .cond _ a b=>q7 a||q7 b
 | .block _ a=>q7 a
 | .loop a=>q7 a
 | .scope a=>q7 a
 |_=>false
def Kg:Code→List (Nat×Nat)
 | .region _ ops _=>match ops[0]? with|some o=>(match o.op,o.dst with| .assign (.tmp s),some d=>[(d,s)] |_,_=>[])|none=>[]
 | .seq a b=>Kg a++Kg b
 |_=>[]
def P7:Code→Bool
 | .skip=>true
 | .region _ ops false=>match ops.toList with|[o]=>(match o.op,o.dst,o.guard with| .assign (.tmp _),some _,none=>true|_,_,_=>false)|_=>false
 | .seq a b=>P7 a&&P7 b
 |_=>false
inductive j0 where
 |base (a:AC)
 |seq (a b:j0)
 |cond (c:Operand) (a b:j0)
 |block (id:Nat) (a:j0)
 |loop (ks:List (Nat×K)) (a:j0)
 |join (ks:List (Nat×K)) (a:j0)
 |scope (a:j0)
 |goto (l:Nat)
 |yK (ks:List (Nat×K)) (l:Nat) (p q:j0)
 |Ap (ks:List (Nat×K)) (l:Nat) (p p2:j0) (l2:Nat) (q:j0)
 |range (ks:List (Nat×K)) (f:Operand) (ps:Array Tmp) (asl:List (Nat×Nat)) (assign:Code) (body:AC)
mutual
def j0.code:j0→Code
 | .base a=>a.code
 | .seq a b=> .seq a.code b.code
 | .cond c a b=> .cond c a.code b.code
 | .block id a=> .block id a.code
 | .loop _ a=> .loop a.code
 | .join _ a=>a.code
 | .scope a=> .scope a.code
 | .range _ f ps _ a b=> .rangeFunc f ps a b.code
 | .goto l=> .goto l
 | .yK _ l p q=> .scope (ql p (.seq (.label l) q.code))
 | .Ap _ l p p2 l2 q=> .scope (ql p (.seq (.label l) (ql p2 (.seq (.label l2) q.code))))
def ql:j0→Code→Code
 | .seq a r,t=> .seq a.code (ql r t)
 |_,t=>t
end
def Ms:j0→Bool
 | .seq _ r=>Ms r
 | .base .skip=>true
 |_=>false
def Mu(l:Nat):j0→Bool
 | .seq a r=>(findLabel a.code l).isNone&&Mu l r
 |_=>true
def toJ:j0→Option (j0×Nat×j0)
 | .seq a b=>match b with
  | .seq (.base (.label l)) q=>some (.seq a (.base .skip),l,q)
  |b=>match toJ b with|some (p,l,q)=>some (.seq a p,l,q)|none=>none
 |_=>none
theorem adF:∀(x:j0) {p q:j0} {l:Nat},toJ x=some (p,l,q)→x.code=ql p (.seq (.label l) q.code)
 | .seq a b,p,q,l,h=>by
  unfold toJ at h;split at h
  ·cases h;rfl
  ·split at h
   ·rename_i heq;cases h
    have:=adF b heq;simp only[j0.code,ql,this]
   ·cases h
 | .base _,_,_,_,h| .cond ..,_,_,_,h| .block ..,_,_,_,h| .loop ..,_,_,_,h| .join ..,_,_,_,h| .scope _,_,_,_,h| .goto _,_,_,_,h| .yK ..,_,_,_,h| .Ap ..,_,_,_,h| .range ..,_,_,_,h=>by cases h
def alB:AC→Option (j0×Nat×AC)
 | .seq a b=>match b with
  | .seq (.label l) q=>some (.seq (.base a) (.base .skip),l,q)
  |b=>match alB b with|some (p,l,q)=>some (.seq (.base a) p,l,q)|none=>none
 |_=>none
theorem aaS:∀(x:AC) {p:j0} {q:AC} {l:Nat},alB x=some (p,l,q)→x.code=ql p (.seq (.label l) q.code)
 | .seq a b,p,q,l,h=>by
  unfold alB at h;split at h
  ·cases h;rfl
  ·split at h
   ·rename_i heq;cases h
    have:=aaS b heq;simp only[AC.code,j0.code,ql,this]
   ·cases h
 | .skip,_,_,_,h| .region ..,_,_,_,h| .cond ..,_,_,_,h| .block ..,_,_,_,h| .loop ..,_,_,_,h| .exit _,_,_,_,h| .label _,_,_,_,h| .ret,_,_,_,h| .join ..,_,_,_,h| .scope _,_,_,_,h| .bad _,_,_,_,h=>by cases h
def toK:j0→Option (j0×Nat×j0)
 | .seq a b=>match b with
  | .seq (.base (.label l)) q=>some (.seq a (.base .skip),l,q)
  | .base (.seq (.label l) q)=>some (.seq a (.base .skip),l,.base q)
  |b=>match toK b with|some (p,l,q)=>some (.seq a p,l,q)|none=>none
 | .base x=>match alB x with|some (p,l,q)=>some (p,l,.base q)|none=>none
 |_=>none
theorem adG:∀(x:j0) {p q:j0} {l:Nat},toK x=some (p,l,q)→x.code=ql p (.seq (.label l) q.code)
 | .seq a b,p,q,l,h=>by
  unfold toK at h;split at h
  ·cases h;rfl
  ·cases h;rfl
  ·split at h
   ·rename_i heq;cases h
    have:=adG b heq;simp only[j0.code,ql,this]
   ·cases h
 | .base x,p,q,l,h=>by
  unfold toK at h;split at h
  ·rename_i heq;cases h
   have:=aaS x heq;simp only[j0.code,this]
  ·cases h
 | .cond ..,_,_,_,h| .block ..,_,_,_,h| .loop ..,_,_,_,h| .join ..,_,_,_,h| .scope _,_,_,_,h| .goto _,_,_,_,h| .yK ..,_,_,_,h| .Ap ..,_,_,_,h| .range ..,_,_,_,h=>by cases h
def Jx(l:Nat):j0→Bool
 | .goto l'=>Nat.beq l' l
 | .seq a b=>Jx l a||Jx l b
 | .cond _ a b=>Jx l a||Jx l b
 | .block _ a=>Jx l a
 | .loop _ a=>Jx l a
 | .join _ a=>Jx l a
 |_=>false
def aaT(ks:List (Nat×K))(l:Nat)(p q:j0):j0:=match toK q with
 |some (p2,l2,q2)=>if Jx l2 p2&& !(Nat.beq l l2)then .Ap ks l p p2 l2 q2 else .yK ks l p q
 |none=> .yK ks l p q
theorem acG(ks:List (Nat×K))(l:Nat)(p q:j0):(aaT ks l p q).code= .scope (ql p (.seq (.label l) q.code)):=by
 unfold aaT;split
 ·rename_i heq;split
  ·have:=adG _ heq;simp only[j0.code,this]
  ·simp only[j0.code]
 ·simp only[j0.code]
def VL(h:sv)(n:Nat)(a:j0):j0:=match h.at n with|some ks=> .join ks a|none=>a
def sN(h:sv):Code→Nat→j0×Nat
 | .seq a b,n=>if q7 a||q7 b then(match sN h a n with|(x,n)=>match sN h b n with|(y,n)=>(.seq x y,n))else(.base (m6 h (.seq a b) n).1,(m6 h (.seq a b) n).2)
 | .cond c a b,n=>if q7 a||q7 b then(match sN h a (n+1)with|(x,m)=>match sN h b m with|(y,m)=>(VL h n (.cond c x y),m))else(.base (m6 h (.cond c a b) n).1,(m6 h (.cond c a b) n).2)
 | .block id a,n=>if q7 a then(match sN h a (n+1)with|(x,m)=>(VL h n (.block id x),m))else(.base (m6 h (.block id a) n).1,(m6 h (.block id a) n).2)
 | .loop a,n=>if q7 a then(match sN h a (n+1)with|(x,m)=>(.loop ((h.at n).getD []) x,m))else(.base (m6 h (.loop a) n).1,(m6 h (.loop a) n).2)
 | .goto l,n=>(.goto l,n)
 | .scope a,n=>if q7 a then(match sN h a (n+1)with|(x,m)=>(match toJ x with|some (p,l,q)=>(aaT ((h.at n).getD []) l p q,m)|none=>(.scope x,m)))else(.base (m6 h (.scope a) n).1,(m6 h (.scope a) n).2)
 | .rangeFunc f ps a b,n=>match m6 h a (n+1)with|(x,m)=>match m6 h b m with|(y,m)=>(.range ((h.at n).getD []) f ps (Kg a) a y,m)
 |c,n=>(.base (m6 h c n).1,(m6 h c n).2)
theorem TG(h:sv)(n:Nat)(a:j0):(VL h n a).code=a.code:=by
 unfold VL;split<;>rfl
theorem ae5(h:sv)(c:Code):∀n,(sN h c n).1.code=c:=by
 induction c with
 |seq a b iha ihb=>intro n;unfold sN;split<;>simp[j0.code,iha,ihb,tC]
 |cond c a b iha ihb=>intro n;unfold sN;split<;>simp[TG,j0.code,iha,ihb,tC]
 |block id a ih=>intro n;unfold sN;split<;>simp[TG,j0.code,ih,tC]
 |loop a ih=>intro n;unfold sN;split<;>simp[j0.code,ih,tC]
 |scope a ih=>
  intro n;unfold sN;split
  ·simp only;split
   ·rename_i heq;have:=adF _ heq;simp only[acG,←this,ih]
   ·simp only[j0.code,ih]
  ·simp[j0.code,tC]
 |goto l=>intro n;rfl
 |rangeFunc f ps a b iha ihb=>intro n;simp[sN,j0.code,tC]
 |_=>intro n;simp[sN,j0.code,tC]
def j0.writes:j0→Nat→Bool
 | .base a,s=>a.writes s
 | .seq a b,s=>a.writes s||b.writes s
 | .cond _ a b,s=>a.writes s||b.writes s
 | .block _ a,s=>a.writes s
 | .loop _ a,s=>a.writes s
 | .join _ a,s=>a.writes s
 | .scope a,s=>a.writes s
 | .range _ _ _ _ _ _,_=>false
 | .goto _,_=>false
 | .yK _ _ p q,s=>p.writes s||q.writes s
 | .Ap _ _ p p2 _ q,s=>p.writes s||(p2.writes s||q.writes s)
def j0.fits(n:Nat):j0→Bool
 | .base a=>a.fits n
 | .seq a b=>a.fits n&&b.fits n
 | .cond _ a b=>a.fits n&&b.fits n
 | .block _ a=>a.fits n
 | .loop _ a=>a.fits n
 | .join _ a=>a.fits n
 | .scope a=>a.fits n
 | .goto _=>true
 | .yK _ l p q=>p.fits n&&q.fits n&&Ms p&&Mu l p
 | .Ap _ l p p2 l2 q=>p.fits n&&(p2.fits n&&q.fits n)&&Ms p&&Mu l p&&Ms p2&&Mu l2 p2&&Mu l2 p&& !(Nat.beq l l2)
 | .range ks _ ps asl a b=>b.fits n&&P7 a&&decide (Kg a=asl)&&asl.all (λp=>Nat.blt p.1 n)&&decide (ks.map (·.1)=ps.toList)&&ps.toList.all (λp=>Nat.blt p n)&&decide (ps.toList.Nodup)
abbrev Cy:=FuncId→(Nat→bn)→bn
def BQ(I:Cy)(kk:List K)(v:Value)(w:World)(body:KT kk→World→(aq)→Prop)(fin:Nat→aq):Prop:=
 match v with
 | .func (.func gf) first lb=> ∀R:LoopState→Obj,(∀s,(R s).isCells=false)→
  I gf (λl args w1 c=>l=w.heap.size+1∧w1.heap[w.heap.size+1]?=some (R .ready)∧qJ kk args λy=>body y (w1.putObj (w.heap.size+1) (R .busy)) λw4=>w4.heap[w.heap.size+1]?=some (R .busy)∧c (.bool true) (w4.putObj (w.heap.size+1) (R .ready)))
   (first.toList++(.func (.yield (w.heap.size+1)) #[] #[]::lb.toList)) ((w.alloc (.deferred (some []))).alloc (R .ready))
   (λ_ w5=>w5.heap[w.heap.size+1]?=some (R .ready)∧fin w.heap.size (w5.putObj (w.heap.size+1) (R .exhausted)))
 |_=>False
def agY:(ks:List (Nat×K))→KT (ks.map (·.2))→Env
 |[],_=>[]
 |[(s,k)],x=>[(s,.val (k.v x))]
 |(s,k)::(y::r),x=>(s,.val (k.v x.1))::agY (y::r) x.2
def Env.agZ(e:Env)(ps:Array Tmp):Env:=e.filter fun(s,x)=> !(ps.contains s)&&(match x with| .val _=>true|_=>false)
def Env.VM(e:Env)(a:j0):Env:=e.filter fun(s,x)=> !(a.writes s)&&(match x with| .val _=>true|_=>false)
def VN:List (Nat×Nat)→Env→(Env→Prop)→Prop
 |[],e,c=>c e
 |(d,s)::l,e,c=>match e.find s with|some (.val v)=>lH (e.put d v) λe=>VN l e c|_=>False
inductive Ex2 where
 |normal
 |exit (id:Nat)
 |ret
 |goto (l:Nat)
def Ex2.of:Ex→Ex2
 | .normal=> .normal
 | .exit i=> .exit i
 | .ret=> .ret
def za(P:Program)(bX:eb)(I:Cy)(mask:Nat):j0→Env→World→List Nat→(Ex2→Env→World→List Nat→Prop)→Prop
 | .base a,e,w,ds,k=>ev P bX mask a e w λx e w=>k (.of x) e w ds
 | .goto l,e,w,ds,k=>k (.goto l) e w ds
 | .yK ks l p q,e,w,ds,k=>za P bX I mask p e w ds λx e1 w ds=>match x with
  | .normal=>tR ks e1 λy=>kH (S:=HT ks×List Nat) (λC y w=>lH (AK ks y.1++e1.VM q) λe=>za P bX I mask q e w y.2 λz e w ds=>match z with| .goto l'=>if Nat.beq l' l then tR ks e λy=>C (y,ds) w else False|z=>k z e w ds) (y,ds) w
  | .goto _=>False
  |x=>k x e1 w ds
 | .Ap ks l p p2 l2 q,e,w,ds,k=>za P bX I mask p e w ds λx e1 w ds=>match x with
  | .normal=>tR ks e1 λy=>kH (S:=HT ks×List Nat) (λC y w=>lH (AK ks y.1++e1.VM (.seq p2 q)) λe=>za P bX I mask p2 e w y.2 λz e w ds=>match z with
   | .normal=>za P bX I mask q e w ds λz e w ds=>match z with| .goto l'=>if Nat.beq l' l then tR ks e λy=>C (y,ds) w else False|z=>k z e w ds
   | .goto l'=>if Nat.beq l' l then tR ks e λy=>C (y,ds) w else if Nat.beq l' l2 then za P bX I mask q e w ds λz e w ds=>match z with| .goto _=>False|z=>k z e w ds else False
   |z=>k z e w ds) (y,ds) w
  | .goto _=>False
  |x=>k x e1 w ds
 | .seq a b,e,w,ds,k=>za P bX I mask a e w ds λx e w ds=>match x with| .normal=>za P bX I mask b e w ds k|x=>k x e w ds
 | .cond c a b,e,w,ds,k=>match e.op c with|some (.bool t)=>ap t (za P bX I mask a e w ds k) (za P bX I mask b e w ds k)|_=>False
 | .block id a,e,w,ds,k=>za P bX I mask a e w ds λx e w ds=>match x with| .exit i=>if Nat.beq i id then k .normal e w ds else k (.exit i) e w ds|x=>k x e w ds
 | .loop ks a,e,w,ds,k=>
  tR ks e λx=>kH (S:=HT ks×List Nat) (λC x w=>lH (AK ks x.1++e.VM a) λe=>za P bX I mask a e w x.2 λy e w ds=>match y with| .normal=>tR ks e λx=>C (x,ds) w|y=>k y e w ds) (x,ds) w
 | .join ks a,e,w,ds,k=>
  cE (S:=HT ks×List Nat) (λJ=>za P bX I mask a e w ds λx e w ds=>match x with| .normal=>tR ks e λx=>J (x,ds) w|x=>k x e w ds) λx w=>lH (AK ks x.1++e.VM a) λe=>k .normal e w x.2
 | .scope a,e,w,ds,k=>za P bX I mask a e w ds λx e w ds=>match x with| .goto _=>False|x=>k x e w ds
 | .range ks f ps asl _ body,e,w,ds,k=>
  match e.op f with
  |some v=>BQ I (ks.map (·.2)) v w (λy w1 C=>lH (agY ks y++e.agZ ps) λe1=>VN asl e1 λe2=>ev P bX mask body e2 w1 λz _ w4=>match z with| .normal=>C w4|_=>False) λD w'=>k .normal e w' (D::ds)
  |none=>False
def Ir:List Nat→World→(aq)→Prop
 |[],w,c=>c w
 |D::ds,w,c=>w.heap[D]?=some (.deferred (some []))∧Ir ds (w.putObj D (.deferred none)) c
theorem adH{a:Act}:∀(ks:List (Nat×K)) (x:KT (ks.map (·.2))),(∀(i s:Nat),(ks.map (·.1))[i]?=some s→a.tmps[s]?=(dB (ks.map (·.2)) x)[i]?)→Sub (agY ks x) a
 |[],_,_=>λp hp=>by cases hp
 |[(s,k)],x,h=>λp hp=>by
  rcases List.mem_cons.1 hp with rfl|hp
  ·exact h 0 s rfl
  ·cases hp
 |(s,k)::(y::r),x,h=>λp hp=>by
  rcases List.mem_cons.1 hp with rfl|hp
  ·exact h 0 s rfl
  ·refine adH (y::r) x.2 (λi s' hs=> ?_) _ hp;exact h (i+1) s' (by simpa using hs)
theorem Mv:∀(ks:List K) (x:KT ks),(dB ks x).length=ks.length
 |[],_=>rfl
 |[_],_=>rfl
 |_::(y::r),x=>by show(dB (y::r) x.2).length+1=_;rw[Mv (y::r)];rfl
section
variable {P:Program}
def YOK(P:Program)(Y:Nat→bn):Prop:=∀n (args:Array Value) w c,Y n args.toList w c→YieldAt Fence.wide 0 P n args w λe w'=> ∃v,e= .returned v∧c v w'
def VO(P:Program)(I:Cy):Prop:=∀gf Y (args:Array Value) w c,YOK P Y→I gf Y args.toList w c→
 (∃fn,P.funcs[gf]?=some fn∧fn.body.isSome=true∧(fn.name== "runtime.NumGoroutine")=false)∧Calls P gf args w fun e w'=> ∃v,e= .returned v∧c v w'
def marks(ds:List Nat):List Deferred:=ds.map λD=> {target:= .collected D,args:=#[]}
def jf(ws:Nat→Bool)(a a':Act):Prop:=a'.tmps.size=a.tmps.size∧∀s,ws s=false→a'.tmps[s]?=a.tmps[s]?
theorem jf.refl(ws:Nat→Bool)(a:Act):jf ws a a:=⟨rfl,λ_ _=>rfl⟩
theorem jf.trans{ws:Nat→Bool}{a b c:Act}(h:jf ws a b)(k:jf ws b c):jf ws a c:=⟨k.1.trans h.1,λs hs=>(k.2 s hs).trans (h.2 s hs)⟩
theorem jf.mono{ws ws':Nat→Bool}{a b:Act}(h:jf ws a b)(hw:∀s,ws' s=false→ws s=false):jf ws' a b:=⟨h.1,λs hs=>h.2 s (hw s hs)⟩
theorem oV.m{ws:Nat→Bool}{a b:Act}(h:oV ws a b):jf ws a b:=⟨h.1,h.2.2⟩
theorem VP{e:Env}{a a':Act}{c:j0}(h:Sub e a)(hk:jf c.writes a a'):Sub (e.VM c) a':=by
 intro p hp;unfold Env.VM at hp;rw[List.mem_filter]at hp;obtain⟨hp,hc⟩:=hp;obtain⟨s,x⟩:=p;simp only[iZ,Bool.not_eq_true']at hc;have h0:=h _ hp;cases x with
 |val v=>show _=_;rw[hk.2 s hc.1];exact h0
 |gd g want v=>exact absurd hc.2 bc
def Mw:List (Nat×Nat)→Act→Act
 |[],a=>a
 |(d,s)::l,a=>Mw l (a.put (some d) (a.eval (.tmp s)))
theorem aaU(l l':List (Nat×Nat))(a:Act):Mw (l++l') a=Mw l' (Mw l a):=by
 induction l generalizing a with
 |nil=>rfl
 |cons x l ih=>exact ih _
theorem YO:∀(l:List (Nat×Nat)) {e:Env} {a:Act} {c:Env→Prop},Sub e a→(∀p∈l,p.1<a.tmps.size)→VN l e c→∃e',c e'∧Sub e' (Mw l a)∧(Mw l a).tmps.size=a.tmps.size
 |[],e,a,c,hs,_,h=>⟨e,h,hs,rfl⟩
 |(d,s)::l,e,a,c,hs,hl,h=>by
  unfold VN at h;split at h
  ·rename_i v hv;rw[kQ]at h;have hev:a.eval (.tmp s)=v:=pZ hs (.tmp s) v (by simp[Env.op,hv])
   have hsz:(a.put (some d) (a.eval (.tmp s))).tmps.size=a.tmps.size:=E2 a _ _;have hsub:Sub (e.put d v) (a.put (some d) (a.eval (.tmp s))):=by
    rw[hev];exact aln hs (hl (d,s) bc)
   obtain⟨e',h1,h2,h3⟩:=YO l hsub (λp hp=>by rw[hsz];exact hl p (by simp[hp])) h
   exact⟨e',h1,h2,h3.trans hsz⟩
  ·exact h.elim
theorem au7{ro:Option Nat}{n0:Nat}:∀{c:Code} {a:Act} {w:World} {K:Act→aq} {Q:Exit→Act→aq},P7 c=true→K (Mw (Kg c) a) w→c.wpIn (uE ro) n0 P (Exit.then K Q) a w:=by
 intro c;induction c with
 |skip=>intro a w K Q _ h;exact wpIn_skip h
 |region id ops draw=>
  intro a w K Q hok h;cases draw with
  |true=>simp[P7]at hok
  |false=>
   unfold P7 at hok;split at hok
   ·rename_i o ho;split at hok
    ·rename_i s d hop hd hg;have h0:ops[0]?=some o:=by
      have:=congrArg (·[0]?) ho;simpa using this
     refine wpIn_region_list ?_;rw[ho];unfold wpListIn;have hw:Region.wanted o (yielded ops a.tmps)=true:=Am hg _;rw[if_pos hw];refine jy (v:=a.eval (.tmp s)) (w':=w) ?_ ?_
     ·simp[execOp,hop]
     ·unfold wpListIn;have e:Kg (.region id ops false)=[(d,s)]:=by simp[Kg,h0,hop,hd]
      rw[e]at h;rw[hd];exact h
    ·cases hok
   ·cases hok
 |seq x y ihx ihy=>
  intro a w K Q hok h;simp only[P7,iZ]at hok;refine wpIn_seq (wpIn_mono (ihx (K:=λa w=>y.wpIn (uE ro) n0 P (Exit.then K Q) a w) (Q:=Exit.then K Q) hok.1 (ihy hok.2 ?_)) λe a w h=> ?_)
  ·have e:Kg (.seq x y)=Kg x++Kg y:=rfl;rw[e,aaU]at h;exact h
  ·cases e<;>exact h
 |_=>intro a w K Q hok;simp[P7]at hok
theorem aaV:∀(ps:List Nat) (vs:List Value) (t:Array Value) (s:Nat),s ∉ ps→((ps.zip vs).foldl (λt (x:Nat×Value)=>t.setIfInBounds x.1 x.2) t)[s]?=t[s]?
 |[],_,_,_,_=>by simp
 |p::ps,[],_,_,_=>by simp
 |p::ps,v::vs,t,s,h=>by
  rw[List.zip_cons_cons,List.foldl_cons,aaV ps vs _ s (by simp at h;exact h.2),Array.getElem?_setIfInBounds_ne (by simp at h;omega)]
theorem adI:∀(ps:List Nat) (vs:List Value) (t:Array Value),((ps.zip vs).foldl (λt (x:Nat×Value)=>t.setIfInBounds x.1 x.2) t).size=t.size
 |[],_,_=>by simp
 |p::ps,[],_=>by simp
 |p::ps,v::vs,t=>by rw[List.zip_cons_cons,List.foldl_cons,adI ps vs];simp
theorem ag1:∀(ps:List Nat) (vs:List Value) (t:Array Value) (i s:Nat),ps.Nodup→ps[i]?=some s→ps.length=vs.length→(∀p∈ps,p<t.size)→((ps.zip vs).foldl (λt (x:Nat×Value)=>t.setIfInBounds x.1 x.2) t)[s]?=vs[i]?
 |[],_,_,_,_,_,h,_,_=>by simp at h
 |p::ps,[],_,_,_,_,_,h,_=>by simp at h
 |p::ps,v::vs,t,0,s,hn,h,hl,hlt=>by
  simp at h;subst h;rw[List.zip_cons_cons,List.foldl_cons,aaV ps vs _ p (List.nodup_cons.1 hn).1,Array.getElem?_setIfInBounds_self,if_pos (hlt p bc)];rfl
 |p::ps,v::vs,t,i+1,s,hn,h,hl,hlt=>by
  rw[List.zip_cons_cons,List.foldl_cons,ag1 ps vs _ i s (List.nodup_cons.1 hn).2 (by simpa using h) (by simpa using hl) (λq hq=>by simp;exact hlt q (by simp[hq]))]
  rfl
theorem aBj(ps:Array Tmp)(vs:Array Value)(t:Array Value):(ps.zip vs).foldl (λt (x:Nat×Value)=>t.setIfInBounds x.1 x.2) t=(ps.toList.zip vs.toList).foldl (λt (x:Nat×Value)=>t.setIfInBounds x.1 x.2) t:=by
 rw[←Array.foldl_toList,Array.toList_zip]
theorem anb{e:Env}{a a':Act}{ps:Array Tmp}(h:Sub e a)(hk:∀s,s ∉ ps.toList→a'.tmps[s]?=a.tmps[s]?):Sub (e.agZ ps) a':=by
 intro p hp;unfold Env.agZ at hp;rw[List.mem_filter]at hp;obtain⟨hp,hc⟩:=hp;obtain⟨s,x⟩:=p;simp only[iZ,Bool.not_eq_true']at hc;have h0:=h _ hp;cases x with
 |val v=>show _=_;rw[hk s (by simpa using hc.1)];exact h0
 |gd g want v=>exact absurd hc.2 bc
theorem ae6{bX:eb}{I:Cy}{mask:Nat}(hm:P.follows .mixedOrders=true)(ho:td P bX PV)(hI:VO P I){ks:List (Nat×K)}{f:Operand}{ps:Array Tmp}{asl:List (Nat×Nat)}{asg:Code}{body:AC}
  {e:Env} {w:World} {a:Act} {fin:Nat→aq} {Q:Exit→Act→aq} {v:Value} (hs:Sub e a) (hf:(j0.range ks f ps asl asg body).fits a.tmps.size=true) (hv:e.op f=some v)
  (h:BQ I (ks.map (·.2)) v w (λy w1 C=>lH (agY ks y++e.agZ ps) λe1=>VN asl e1 λe2=>ev P bX mask body e2 w1 λz _ w4=>match z with| .normal=>C w4|_=>False) fin)
  (hQ:∀D w',fin D w'→Q .normal {a with defers:={target:= .collected D,args:=#[]}::a.defers} w'):(Code.rangeFunc f ps asg body.code).wpIn (uE none) 2 P Q a w:=by
 simp only[j0.fits,iZ,decide_eq_true_eq,xz]at hf;obtain⟨⟨⟨⟨⟨⟨hfb,aBk⟩,aBl⟩,aBm⟩,hps⟩,B2⟩,hnd⟩:=hf;have hev:a.eval f=v:=pZ hs f v hv;unfold BQ at h;split at h
 ·rename_i gf first lb
  refine wpIn_rangeFunc ?_;intro fn hfn;obtain⟨rec,Jr⟩:∃rec:LoopState→Loop,rec=λst=> {state:=st,pending:=none,fn,tmps:=a.tmps,params:=ps,assign:=asg,body:=body.code,defers:=w.heap.size}:=⟨_,rfl⟩;have h1:=h (λst=> .loop (rec st)) λ_=>rfl;have Xw:=hI gf _ (first++(#[.func (.yield (w.heap.size+1)) #[] #[]] ++lb)) _ _ ?_ (by
   have e:(first++(#[Value.func (.yield (w.heap.size+1)) #[] #[]] ++lb)).toList=first.toList++(.func (.yield (w.heap.size+1)) #[] #[]::lb.toList):=by simp
   rw[e];exact h1)
  ·refine⟨w.heap.size+1,[{target:= .collected w.heap.size,args:=#[]}],(w.alloc (.deferred (some []))).alloc (.loop (rec .ready)),{target:= .fn (.func gf) lb,args:=first++ #[.func (.yield (w.heap.size+1)) #[] #[]]},(w.alloc (.deferred (some []))).alloc (.loop (rec .ready)),gf,
    first++ #[.func (.yield (w.heap.size+1)) #[] #[]] ++lb,(w.alloc (.deferred (some []))).alloc (.loop (rec .ready)),?_,?_,?_,?_,λ_=>by omega,?_⟩
   ·rw[Jr];exact run_enterLoop_outer _ _ _ _ _
   ·simp only[resolve,rangeCall,hev];simp[go_sem,Deferred.ofValue]
   ·intro f' hf';exact Js none f'
   ·simp only[invoke,FD Xw.1]
   ·have e2:first++ #[Value.func (.yield (w.heap.size+1)) #[] #[]] ++lb=first++(#[.func (.yield (w.heap.size+1)) #[] #[]] ++lb):=by rw[Array.append_assoc]
    rw[e2];refine Mj (Xw.2.mono λen w5 he=> ?_);obtain⟨v,rfl,hr,aaW⟩:=he;refine⟨none,_,?_,hQ _ _ aaW⟩;have:=run_endLoop (P:=P) hr (by rw[Jr];simp)
    rw[Jr]at this ⊢;exact this
  ·intro n args w1 c hY;obtain⟨rfl,hr,hu⟩:=hY;obtain⟨y,hy,hb⟩:=y5 hu;rw[kQ]at hb;have hlen:args.size=ps.size:=by
    have:=congrArg List.length hy;rw[Mv]at this;have h2:=congrArg List.length hps;simp at this h2;omega
   have ae7:=run_yield (P:=P) (args:=args) hr (by rw[Jr];exact hlen)
   rw[Jr]at ae7;refine⟨fn,_,asg,body.code,ae7,roundIn_of_wpIn (Js none fn) ?_⟩;dsimp only at ae7 ⊢;rw[aBj];generalize ht:(ps.toList.zip args.toList).foldl (λt (x:Nat×Value)=>t.setIfInBounds x.1 x.2) a.tmps=t at*
   have hts:t.size=a.tmps.size:=by rw[←ht];exact adI _ _ _
   have hsub:Sub (agY ks y++e.agZ ps) {tmps:=t,defers:=[]}:=by
    refine B3 (adH ks y λi s hi=> ?_) (anb hs λs hns=> ?_)
    ·show t[s]?=_;rw[hps]at hi;rw[←ht,←hy];exact ag1 _ _ _ i s hnd hi (by simpa using hlen.symm) λp hp=>by have:=B2 p hp;rwa[Nat.blt_eq]at this
    ·show t[s]?=_;rw[←ht];exact aaV _ _ _ _ hns
   obtain⟨e2,hb,aaX,alC⟩:=YO asl hsub (λp hp=>by show p.1<t.size;rw[hts];have:=aBm p hp;rwa[Nat.blt_eq]at this) hb
   refine au7 (ro:=some (w.heap.size+1)) (n0:=0) aBk ?_;rw[aBl];refine⟨_,run_beginRound hr (by rw[Jr]),?_⟩
   have ayQ:w1.putObj (w.heap.size+1) (.loop {rec .ready with state:= .busy})=w1.putObj (w.heap.size+1) (.loop (rec .busy)):=by rw[Jr]
   rw[ayQ];refine q5 (ro:=some (w.heap.size+1)) (n0:=0) hm ho body e2 _ _ _ _ (λ_ _ _ _ h=>h.elim) aaX (by rw[alC];show body.fits t.size=true;rw[hts];exact hfb) hb λz e' w4 a' hk _ _=> ?_
   cases z with
   |normal=>
    obtain⟨hbz,hc⟩:=hk;refine⟨_,_,run_endRound none hbz,.bool true,rfl,?_⟩;have:({rec .busy with state:=if (none:Option Code).isNone then .ready else .done,pending:=none}:Loop)=rec .ready:=by rw[Jr];rfl
    rw[this];exact hc
   |exit id=>exact hk.elim
   |ret=>exact hk.elim
 ·exact h.elim
def ajo:Ex2→Exit
 | .normal=> .normal
 | .exit i=> .exit i
 | .ret=> .ret
 | .goto l=> .goto l
theorem ane(x:Ex):ajo (.of x)=apv x:=by cases x<;>rfl
theorem Ur{F:Fence}{n0:Nat}{c rest:Code}{l:Nat}{Q:Exit→Act→aq}{a:Act}{w:World}(hf:findLabel c l=some rest)(R:Nat→Act→aq)
  (first:c.wpIn F n0 P (Exit.jump l (λa w=> ∃n,R n a w) Q) a w)
  (pass:∀n a w,R n a w→rest.wpIn F n0 P (Exit.jump l (λa' w'=> ∃m,m<n∧R m a' w') Q) a w):(Code.scope c).wpIn F n0 P Q a w:=by
 intro b k cs hro hb hr;have h0:(lone (b.atR a (.code (.scope c)::k)) cs w).fenced P F:=fenced_calm hb hr rfl;have hstep:step P (lone (b.atR a (.code (.scope c)::k)) cs w)= .next (lone (b.atR a (.code c:: .inScope c::k)) cs w):=step_lone_go (by simp[stepG,stepG.exec,Frame.atR])
 have hg:gotoIn l (.inScope c::k)=some (.code rest:: .inScope c::k):=by simp[gotoIn,hf]
 have hx (id:Nat):exitTo id (.inScope c::k)=exitTo id k:=by simp[exitTo]
 have hend (a:Act) (w:World):StepsIn (λm=>m.fenced P F) P (lone (b.atR a (.inScope c::k)) cs w) (lone (b.atR a k) cs w):= .one (fenced_calm hb hr rfl) (step_lone_go (by simp[stepG,stepG.exec,Frame.atR]))
 have key:∀n a w,R n a w→∃e a' w',Q e a' w'∧ArrivesIn (λm=>m.fenced P F) P (lone (b.atR a (.code rest:: .inScope c::k)) cs w) b k cs e a' w':=by
  intro n;induction n using Nat.strongRecOn with
  |_ n ih=>
   intro a w hR;obtain⟨e,a₁,w₁,hq,m7⟩:=pass n a w hR b (.inScope c::k) cs hro hb hr;cases e with
   |normal=>exact⟨.normal,a₁,w₁,hq,StepsIn.trans m7 (hend _ _)⟩
   |exit id=>exact⟨.exit id,a₁,w₁,hq,λk' hk=>m7.1 k' (by rw[hx];exact hk),λhr' hk=>m7.2 hr' (by rw[hx];exact hk)⟩
   |goto l'=>
    obtain⟨rfl,m,hm,Us⟩:=hq;obtain⟨e₂,a₂,w₂,hq₂,Is⟩:=ih m hm a₁ w₁ Us;exact⟨e₂,a₂,w₂,hq₂,.of_steps (m7.1 _ hg) Is⟩
   |ret=>exact⟨_,a₁,w₁,hq,m7⟩
   |panic ch=>exact⟨_,a₁,w₁,hq,m7⟩
   |outgrown=>exact⟨_,a₁,w₁,hq,m7⟩
 obtain⟨e,a₁,w₁,hq,m7⟩:=first b (.inScope c::k) cs hro hb hr
 cases e with
 |normal=>exact⟨.normal,a₁,w₁,hq,.head h0 hstep (StepsIn.trans m7 (hend _ _))⟩
 |exit id=>
  exact⟨.exit id,a₁,w₁,hq,λk' hk=> .head h0 hstep (m7.1 k' (by rw[hx];exact hk)),
   λhr' hk=>let ⟨k₁,h1,h2⟩:=m7.2 hr' (by rw[hx];exact hk);⟨k₁,h1,.head h0 hstep h2⟩⟩
 |goto l'=>
  obtain⟨rfl,n,hR⟩:=hq;obtain⟨e₂,a₂,w₂,hq₂,Is⟩:=key n a₁ w₁ hR;exact⟨e₂,a₂,w₂,hq₂,.of_steps (.head h0 hstep (m7.1 _ hg)) Is⟩
 |ret=>exact⟨_,a₁,w₁,hq,.of_steps (.one h0 hstep) m7⟩
 |panic ch=>exact⟨_,a₁,w₁,hq,.of_steps (.one h0 hstep) m7⟩
 |outgrown=>exact⟨_,a₁,w₁,hq,.of_steps (.one h0 hstep) m7⟩
theorem Zq{F:Fence}{n0:Nat}{c rest ae8:Code}{l l2:Nat}{Q:Exit→Act→aq}{a:Act}{w:World}(hf:findLabel c l=some rest)(hf2:findLabel c l2=some ae8)(R:Nat→Act→aq)(R2:Act→aq)
  (first:c.wpIn F n0 P (λe a w=>match e with| .goto l'=>(l'=l∧∃n,R n a w)∨(l'=l2∧R2 a w)|e=>Q e a w) a w)
  (pass:∀n a w,R n a w→rest.wpIn F n0 P (λe a' w'=>match e with| .goto l'=>(l'=l∧∃m,m<n∧R m a' w')∨(l'=l2∧R2 a' w')|e=>Q e a' w') a w)
  (ajp:∀a w,R2 a w→ae8.wpIn F n0 P (λe a' w'=>match e with| .goto _=>False|e=>Q e a' w') a w):(Code.scope c).wpIn F n0 P Q a w:=by
 intro b k cs hro hb hr;have h0:(lone (b.atR a (.code (.scope c)::k)) cs w).fenced P F:=fenced_calm hb hr rfl;have hstep:step P (lone (b.atR a (.code (.scope c)::k)) cs w)= .next (lone (b.atR a (.code c:: .inScope c::k)) cs w):=step_lone_go (by simp[stepG,stepG.exec,Frame.atR])
 have hg:gotoIn l (.inScope c::k)=some (.code rest:: .inScope c::k):=by simp[gotoIn,hf]
 have Mq:gotoIn l2 (.inScope c::k)=some (.code ae8:: .inScope c::k):=by simp[gotoIn,hf2]
 have hx (id:Nat):exitTo id (.inScope c::k)=exitTo id k:=by simp[exitTo]
 have hend (a:Act) (w:World):StepsIn (λm=>m.fenced P F) P (lone (b.atR a (.inScope c::k)) cs w) (lone (b.atR a k) cs w):= .one (fenced_calm hb hr rfl) (step_lone_go (by simp[stepG,stepG.exec,Frame.atR]))
 have axT:∀a w,R2 a w→∃e a' w',Q e a' w'∧ArrivesIn (λm=>m.fenced P F) P (lone (b.atR a (.code ae8:: .inScope c::k)) cs w) b k cs e a' w':=by
  intro a w hR;obtain⟨e,a₁,w₁,hq,m7⟩:=ajp a w hR b (.inScope c::k) cs hro hb hr;cases e with
  |normal=>exact⟨.normal,a₁,w₁,hq,StepsIn.trans m7 (hend _ _)⟩
  |exit id=>exact⟨.exit id,a₁,w₁,hq,λk' hk=>m7.1 k' (by rw[hx];exact hk),λhr' hk=>m7.2 hr' (by rw[hx];exact hk)⟩
  |goto l'=>exact hq.elim
  |ret=>exact⟨_,a₁,w₁,hq,m7⟩
  |panic ch=>exact⟨_,a₁,w₁,hq,m7⟩
  |outgrown=>exact⟨_,a₁,w₁,hq,m7⟩
 have key:∀n a w,R n a w→∃e a' w',Q e a' w'∧ArrivesIn (λm=>m.fenced P F) P (lone (b.atR a (.code rest:: .inScope c::k)) cs w) b k cs e a' w':=by
  intro n;induction n using Nat.strongRecOn with
  |_ n ih=>
   intro a w hR;obtain⟨e,a₁,w₁,hq,m7⟩:=pass n a w hR b (.inScope c::k) cs hro hb hr;cases e with
   |normal=>exact⟨.normal,a₁,w₁,hq,StepsIn.trans m7 (hend _ _)⟩
   |exit id=>exact⟨.exit id,a₁,w₁,hq,λk' hk=>m7.1 k' (by rw[hx];exact hk),λhr' hk=>m7.2 hr' (by rw[hx];exact hk)⟩
   |goto l'=>
    rcases hq with⟨rfl,m,hm,Us⟩|⟨rfl,Us⟩
    ·obtain⟨e₂,a₂,w₂,hq₂,Is⟩:=ih m hm a₁ w₁ Us;exact⟨e₂,a₂,w₂,hq₂,.of_steps (m7.1 _ hg) Is⟩
    ·obtain⟨e₂,a₂,w₂,hq₂,Is⟩:=axT a₁ w₁ Us;exact⟨e₂,a₂,w₂,hq₂,.of_steps (m7.1 _ Mq) Is⟩
   |ret=>exact⟨_,a₁,w₁,hq,m7⟩
   |panic ch=>exact⟨_,a₁,w₁,hq,m7⟩
   |outgrown=>exact⟨_,a₁,w₁,hq,m7⟩
 obtain⟨e,a₁,w₁,hq,m7⟩:=first b (.inScope c::k) cs hro hb hr
 cases e with
 |normal=>exact⟨.normal,a₁,w₁,hq,.head h0 hstep (StepsIn.trans m7 (hend _ _))⟩
 |exit id=>
  exact⟨.exit id,a₁,w₁,hq,λk' hk=> .head h0 hstep (m7.1 k' (by rw[hx];exact hk)),
   λhr' hk=>let ⟨k₁,h1,h2⟩:=m7.2 hr' (by rw[hx];exact hk);⟨k₁,h1,.head h0 hstep h2⟩⟩
 |goto l'=>
  rcases hq with⟨rfl,n,hR⟩|⟨rfl,hR⟩
  ·obtain⟨e₂,a₂,w₂,hq₂,Is⟩:=key n a₁ w₁ hR;exact⟨e₂,a₂,w₂,hq₂,.of_steps (.head h0 hstep (m7.1 _ hg)) Is⟩
  ·obtain⟨e₂,a₂,w₂,hq₂,Is⟩:=axT a₁ w₁ hR;exact⟨e₂,a₂,w₂,hq₂,.of_steps (.head h0 hstep (m7.1 _ Mq)) Is⟩
 |ret=>exact⟨_,a₁,w₁,hq,.of_steps (.one h0 hstep) m7⟩
 |panic ch=>exact⟨_,a₁,w₁,hq,.of_steps (.one h0 hstep) m7⟩
 |outgrown=>exact⟨_,a₁,w₁,hq,.of_steps (.one h0 hstep) m7⟩
theorem aaZ{l:Nat}{t:Code}:∀{p:j0},Mu l p=true→Ms p=true→findLabel (ql p t) l=findLabel t l
 | .seq a r,h,hl=>by
  simp only[Mu,iZ,Option.isNone_iff_eq_none]at h;simp only[ql,findLabel,h.1];exact aaZ h.2 hl
 | .base c,_,_=>by simp[ql]
 | .cond ..,_,hl| .block ..,_,hl| .loop ..,_,hl| .join ..,_,hl| .scope _,_,hl| .goto _,_,hl| .yK ..,_,hl| .Ap ..,_,hl| .range ..,_,hl=>by cases hl
theorem Jy{l:Nat}{t:Code}:∀{p:j0},Mu l p=true→Ms p=true→findLabel (ql p (.seq (.label l) t)) l=some (.seq .skip t)
 | .seq a r,h,hl=>by
  simp only[Mu,iZ,Option.isNone_iff_eq_none]at h;simp only[ql,findLabel,h.1];exact Jy h.2 hl
 | .base c,_,_=>by simp[ql,findLabel]
 | .cond ..,_,hl| .block ..,_,hl| .loop ..,_,hl| .join ..,_,hl| .scope _,_,hl| .goto _,_,hl| .yK ..,_,hl| .Ap ..,_,hl| .range ..,_,hl=>by cases hl
mutual
theorem qA{bX:eb}{I:Cy}{mask:Nat}(hm:P.follows .mixedOrders=true)(ho:td P bX PV)(hI:VO P I):∀(c:j0) (e:Env) (w:World) (a:Act) (ds:List Nat) (k:Ex2→Env→World→List Nat→Prop) (Q:Exit→Act→aq),
  Sub e a→c.fits a.tmps.size=true→a.defers=marks ds→za P bX I mask c e w ds k→(∀x e' w' ds' a',k x e' w' ds'→Sub e' a'→jf c.writes a a'→a'.defers=marks ds'→Q (ajo x) a' w')→c.code.wpIn (uE none) 2 P Q a w
 | .base c,e,w,a,ds,k,Q,hs,hf,hd,h,hQ=>by
  unfold za at h;exact q5 hm ho c e w a _ Q (λ_ _ _ _ h=>h.elim) hs hf h λx e' w' a' h1 h2 h3=>ane x▸hQ (.of x) e' w' ds a' h1 h2 h3.m (h3.2.1.trans hd)
 | .scope x,e,w,a,ds,k,Q,hs,hf,hd,h,hQ=>by
  unfold za at h;refine FQ (qA hm ho hI x e w a ds _ _ hs hf hd h λz e' w' ds' a' h1 h2 h3 h4=> ?_);cases z with
  |normal=>exact hQ .normal e' w' ds' a' h1 h2 h3 h4
  |exit id=>exact hQ (.exit id) e' w' ds' a' h1 h2 h3 h4
  |ret=>exact hQ .ret e' w' ds' a' h1 h2 h3 h4
  |goto l=>exact h1.elim
 | .goto l,e,w,a,ds,k,Q,hs,hf,hd,h,hQ=>wpIn_goto (hQ (.goto l) e w ds a h hs (.refl _ _) hd)
 | .yK ks l p q,e,w,a,ds,k,Q,hs,hf,hd,h,hQ=>by
  unfold za at h;simp only[j0.fits,iZ]at hf;obtain⟨⟨⟨hfp,hfq⟩,hl⟩,hn⟩:=hf;have Mx:∀{a':Act},jf p.writes a a'→jf (j0.yK ks l p q).writes a a':=λhk=>hk.mono λs gI=>by simp only[j0.writes,kx]at gI;exact gI.1
  have Sz:∀{a' a'':Act},jf p.writes a a'→jf q.writes a' a''→jf (j0.yK ks l p q).writes a a'':=λh h'=>(Mx h).trans (h'.mono λs gI=>by simp only[j0.writes,kx]at gI;exact gI.2)
  let body (e1:Env):(HT ks×List Nat→aq)→HT ks×List Nat→aq:=λC y w=>lH (AK ks y.1++e1.VM q) λe=>za P bX I mask q e w y.2 λz e w ds=>match z with| .goto l'=>if Nat.beq l' l then tR ks e λy=>C (y,ds) w else False|z=>k z e w ds
  let R (n:Nat) (b:Act) (w:World):Prop:=∃e1 a1 y,Sub e1 a1∧jf p.writes a a1∧jP (body e1) n y w∧Sub (AK ks y.1) b∧jf q.writes a1 b∧b.defers=marks y.2;have pass:∀n b w,R n b w→q.code.wpIn (uE none) 2 P (Exit.jump l (λa' w'=> ∃m,m<n∧R m a' w') Q) b w:=by
   rintro n b w ⟨e1,a1,y,hs1,GH,hit,Ml,hkb,hdb⟩;cases n with
   |zero=>exact hit.elim
   |succ n=>
    unfold jP at hit;have aa0:=hit;simp only[body]at aa0;rw[kQ]at aa0;refine qA hm ho hI q _ w b y.2 _ _ (B3 Ml (VP hs1 hkb)) (by rw[hkb.1,GH.1];exact hfq) hdb aa0 λz e' w' ds' a' hk hs' py oD=> ?_
    cases z with
    |normal=>exact hQ .normal e' w' ds' a' hk hs' (Sz GH (hkb.trans py)) oD
    |exit id=>exact hQ (.exit id) e' w' ds' a' hk hs' (Sz GH (hkb.trans py)) oD
    |ret=>exact hQ .ret e' w' ds' a' hk hs' (Sz GH (hkb.trans py)) oD
    |goto l'=>
     simp only at hk;split at hk
     ·rename_i hb;obtain⟨y',hy',VF⟩:=ru hs' hk;exact⟨beq_eq hb,n,ah,e1,a1,(y',ds'),hs1,GH,hy',VF,hkb.trans py,oD⟩
     ·exact hk.elim
  refine Ur (Jy hn hl) R ?_ λn b w hR=>wpIn_seq (wpIn_skip (pass n b w hR));refine HQ hm ho hI p e w a ds _ _ _ hs hfp hl hd h (λe1 w1 ds1 a1 hk hs1 hkp hd1=> ?_) λx e' w' ds' a' hx hk hs' hkp oD=> ?_
  ·obtain⟨y,hy,Ml⟩:=ru hs1 hk;obtain⟨n,hy⟩:=hy;have:=pass n a1 w1 ⟨e1,a1,(y,ds1),hs1,hkp,hy,Ml,.refl _ _,hd1⟩;refine wpIn_seq (wpIn_label ?_);refine wpIn_mono this λe' a' w' hq=> ?_;cases e' with
   |goto l'=>exact⟨hq.1,hq.2.choose,hq.2.choose_spec.2⟩
   |_=>exact hq
  ·cases x with
   |normal=>exact(hx rfl).elim
   |exit id=>exact hQ (.exit id) e' w' ds' a' hk hs' (Mx hkp) oD
   |ret=>exact hQ .ret e' w' ds' a' hk hs' (Mx hkp) oD
   |goto l'=>exact hk.elim
 | .Ap ks l p p2 l2 q,e,w,a,ds,k,Q,hs,hf,hd,h,hQ=>by
  unfold za at h;simp only[j0.fits,iZ,Bool.not_eq_true']at hf;obtain⟨⟨⟨⟨⟨⟨⟨hfp,aBn,hfq⟩,hl⟩,hn⟩,hl2⟩,E7⟩,hn3⟩,hne⟩:=hf;have Mx:∀{a':Act},jf p.writes a a'→jf (j0.Ap ks l p p2 l2 q).writes a a':=λhk=>hk.mono λs gI=>by simp only[j0.writes,kx]at gI;exact gI.1
  have Sz:∀{a' a'':Act},jf p.writes a a'→jf (j0.seq p2 q).writes a' a''→jf (j0.Ap ks l p p2 l2 q).writes a a'':=λh h'=>(Mx h).trans (h'.mono λs gI=>by simp only[j0.writes,kx]at gI ⊢;exact gI.2)
  have hp2:∀{a' a'':Act},jf p2.writes a' a''→jf (j0.seq p2 q).writes a' a'':=λhk=>hk.mono λs gI=>by simp only[j0.writes,kx]at gI;exact gI.1
  have hq2:∀{a' a'':Act},jf q.writes a' a''→jf (j0.seq p2 q).writes a' a'':=λhk=>hk.mono λs gI=>by simp only[j0.writes,kx]at gI;exact gI.2
  let body (e1:Env):(HT ks×List Nat→aq)→HT ks×List Nat→aq:=λC y w=>lH (AK ks y.1++e1.VM (.seq p2 q)) λe=>za P bX I mask p2 e w y.2 λz e w ds=>match z with
   | .normal=>za P bX I mask q e w ds λz e w ds=>match z with| .goto l'=>if Nat.beq l' l then tR ks e λy=>C (y,ds) w else False|z=>k z e w ds
   | .goto l'=>if Nat.beq l' l then tR ks e λy=>C (y,ds) w else if Nat.beq l' l2 then za P bX I mask q e w ds λz e w ds=>match z with| .goto _=>False|z=>k z e w ds else False
   |z=>k z e w ds
  let R (n:Nat) (b:Act) (w:World):Prop:=∃e1 a1 y,Sub e1 a1∧jf p.writes a a1∧jP (body e1) n y w∧Sub (AK ks y.1) b∧jf (j0.seq p2 q).writes a1 b∧b.defers=marks y.2;let R2 (b:Act) (w:World):Prop:=∃a1 e ds,jf p.writes a a1∧jf (j0.seq p2 q).writes a1 b∧Sub e b∧b.defers=marks ds∧za P bX I mask q e w ds λz e w ds=>match z with| .goto _=>False|z=>k z e w ds
  have pass:∀n b w,R n b w→(ql p2 (.seq (.label l2) q.code)).wpIn (uE none) 2 P (λe a' w'=>match e with| .goto l'=>(l'=l∧∃m,m<n∧R m a' w')∨(l'=l2∧R2 a' w')|e=>Q e a' w') b w:=by
   rintro n b w ⟨e1,a1,y,hs1,GH,hit,Ml,hkb,hdb⟩;cases n with
   |zero=>exact hit.elim
   |succ n=>
    unfold jP at hit;have aa0:=hit;simp only[body]at aa0;rw[kQ]at aa0;refine HQ hm ho hI p2 _ w b y.2 _ _ _ (B3 Ml (VP hs1 hkb)) (by rw[hkb.1,GH.1];exact aBn) hl2 hdb aa0 (λe' w' ds' a' hk hs' py oD=> ?_) λz e' w' ds' a' hz hk hs' py oD=> ?_
    ·refine wpIn_seq (wpIn_label ?_);refine qA hm ho hI q e' w' a' ds' _ _ hs' (by rw[py.1,hkb.1,GH.1];exact hfq) oD hk λz PX w'' Jz a'' hk YP ajs YQ=> ?_
     have hkk:=hkb.trans ((hp2 py).trans (hq2 ajs));cases z with
     |normal=>exact hQ .normal PX w'' Jz a'' hk YP (Sz GH hkk) YQ
     |exit id=>exact hQ (.exit id) PX w'' Jz a'' hk YP (Sz GH hkk) YQ
     |ret=>exact hQ .ret PX w'' Jz a'' hk YP (Sz GH hkk) YQ
     |goto l'=>
      simp only at hk;split at hk
      ·rename_i hb;obtain⟨y',hy',VF⟩:=ru YP hk;exact .inl ⟨beq_eq hb,n,ah,e1,a1,(y',Jz),hs1,GH,hy',VF,hkk,YQ⟩
      ·exact hk.elim
    ·have hkk:=hkb.trans (hp2 py);cases z with
     |normal=>exact(hz rfl).elim
     |exit id=>exact hQ (.exit id) e' w' ds' a' hk hs' (Sz GH hkk) oD
     |ret=>exact hQ .ret e' w' ds' a' hk hs' (Sz GH hkk) oD
     |goto l'=>
      simp only at hk;split at hk
      ·rename_i hb;obtain⟨y',hy',VF⟩:=ru hs' hk;exact .inl ⟨beq_eq hb,n,ah,e1,a1,(y',ds'),hs1,GH,hy',VF,hkk,oD⟩
      ·split at hk
       ·rename_i hb;exact .inr ⟨beq_eq hb,a1,e',ds',GH,hkk,hs',oD,hk⟩
       ·exact hk.elim
  have ajp:∀b w,R2 b w→q.code.wpIn (uE none) 2 P (λe a' w'=>match e with| .goto _=>False|e=>Q e a' w') b w:=by
   rintro b w ⟨a1,e2,ds2,GH,hkb,Im,hd2,hev⟩;refine qA hm ho hI q e2 w b ds2 _ _ Im (by rw[hkb.1,GH.1];exact hfq) hd2 hev λz PX w'' Jz a'' hk YP ajs YQ=> ?_
   have hkk:=hkb.trans (hq2 ajs);cases z with
   |normal=>exact hQ .normal PX w'' Jz a'' hk YP (Sz GH hkk) YQ
   |exit id=>exact hQ (.exit id) PX w'' Jz a'' hk YP (Sz GH hkk) YQ
   |ret=>exact hQ .ret PX w'' Jz a'' hk YP (Sz GH hkk) YQ
   |goto l'=>exact hk.elim
  have hf2:findLabel (ql p (.seq (.label l) (ql p2 (.seq (.label l2) q.code)))) l2=some (.seq .skip q.code):=by
   rw[aaZ hn3 hl];have aav:(l==l2)=false:=by rw[beq_eq_false_iff_ne];exact λh=>by rw[h]at hne;simp at hne
   simp only[findLabel,aav];exact Jy E7 hl2
  refine Zq (Jy hn hl) hf2 R R2 ?_ (λn b w hR=>wpIn_seq (wpIn_skip (pass n b w hR))) λb w hR=>wpIn_seq (wpIn_skip (ajp b w hR));refine HQ hm ho hI p e w a ds _ _ _ hs hfp hl hd h (λe1 w1 ds1 a1 hk hs1 hkp hd1=> ?_) λx e' w' ds' a' hx hk hs' hkp oD=> ?_
  ·obtain⟨y,hy,Ml⟩:=ru hs1 hk;obtain⟨n,hy⟩:=hy;have:=pass n a1 w1 ⟨e1,a1,(y,ds1),hs1,hkp,hy,Ml,.refl _ _,hd1⟩;refine wpIn_seq (wpIn_label ?_);refine wpIn_mono this λe' a' w' hq=> ?_;cases e' with
   |goto l'=>
    rcases hq with⟨h1,m,hm,h2⟩|h2
    ·exact .inl ⟨h1,m,h2⟩
    ·exact .inr h2
   |_=>exact hq
  ·cases x with
   |normal=>exact(hx rfl).elim
   |exit id=>exact hQ (.exit id) e' w' ds' a' hk hs' (Mx hkp) oD
   |ret=>exact hQ .ret e' w' ds' a' hk hs' (Mx hkp) oD
   |goto l'=>exact hk.elim
 | .seq x y,e,w,a,ds,k,Q,hs,hf,hd,h,hQ=>by
  unfold za at h;simp only[j0.fits,iZ]at hf;refine wpIn_seq (qA hm ho hI x e w a ds _ _ hs hf.1 hd h λz e' w' ds' a' hk hs' hkp oD=> ?_);have py:jf (j0.seq x y).writes a a':=hkp.mono λs gI=>by simp only[j0.writes,kx]at gI;exact gI.1
  cases z with
  |normal=>
   refine qA hm ho hI y e' w' a' ds' k Q hs' (by rw[hkp.1];exact hf.2) oD hk λz PX w'' Jz a'' h1 h2 h3 h4=>hQ z PX w'' Jz a'' h1 h2 (py.trans (h3.mono λs gI=> ?_)) h4
   simp only[j0.writes,kx]at gI;exact gI.2
  |exit id=>exact hQ (.exit id) e' w' ds' a' hk hs' py oD
  |ret=>exact hQ .ret e' w' ds' a' hk hs' py oD
  |goto l=>exact hQ (.goto l) e' w' ds' a' hk hs' py oD
 | .cond c x y,e,w,a,ds,k,Q,hs,hf,hd,h,hQ=>by
  unfold za at h;simp only[j0.fits,iZ]at hf;split at h
  ·rename_i t ht;refine wpIn_cond (agP hs ht) ?_;cases t
   ·exact qA hm ho hI y e w a ds k Q hs hf.2 hd h λz e' w' ds' a' h1 h2 h3 h4=>hQ z e' w' ds' a' h1 h2 (h3.mono λs gI=>by simp only[j0.writes,kx]at gI;exact gI.2) h4
   ·exact qA hm ho hI x e w a ds k Q hs hf.1 hd h λz e' w' ds' a' h1 h2 h3 h4=>hQ z e' w' ds' a' h1 h2 (h3.mono λs gI=>by simp only[j0.writes,kx]at gI;exact gI.1) h4
  ·exact h.elim
 | .block id x,e,w,a,ds,k,Q,hs,hf,hd,h,hQ=>by
  unfold za at h;refine wpIn_block (qA hm ho hI x e w a ds _ _ hs hf hd h λz e' w' ds' a' hk hs' hkp oD=> ?_);cases z with
  |normal=>exact hQ .normal e' w' ds' a' hk hs' hkp oD
  |ret=>exact hQ .ret e' w' ds' a' hk hs' hkp oD
  |goto l=>exact hQ (.goto l) e' w' ds' a' hk hs' hkp oD
  |exit i=>
   simp only at hk;show(if i=id then Q .normal a' w' else Q (.exit i) a' w')
   split at hk
   ·rename_i hb;rw[if_pos (beq_eq hb)];exact hQ .normal e' w' ds' a' hk hs' hkp oD
   ·rename_i hb;have hb':i≠id:=by simpa using hb
    rw[if_neg hb'];exact hQ (.exit i) e' w' ds' a' hk hs' hkp oD
 | .join ks x,e,w,a,ds,k,Q,hs,hf,hd,h,hQ=>by
  unfold za cE at h;refine qA hm ho hI x e w a ds _ Q hs hf hd h λz e' w' ds' a' hk hs' hkp oD=> ?_;cases z with
  |normal=>
   obtain⟨y,hy,Ml⟩:=ru hs' hk;rw[kQ]at hy;exact hQ .normal _ w' ds' a' hy (B3 Ml (VP hs hkp)) hkp oD
  |exit id=>exact hQ (.exit id) e' w' ds' a' hk hs' hkp oD
  |ret=>exact hQ .ret e' w' ds' a' hk hs' hkp oD
  |goto l=>exact hQ (.goto l) e' w' ds' a' hk hs' hkp oD
 | .loop ks x,e,w,a,ds,k,Q,hs,hf,hd,h,hQ=>by
  unfold za at h;obtain⟨y,hy,Ml⟩:=ru hs h;obtain⟨n,hn⟩:=hy;refine wpIn_loop_rounds n ?_;have key:∀n (y:HT ks×List Nat) w b,jP (λC y w=>lH (AK ks y.1++e.VM x) λe=>za P bX I mask x e w y.2 λz e w ds=>match z with| .normal=>tR ks e λy=>C (y,ds) w|z=>k z e w ds) n y w→
    Sub (AK ks y.1) b→jf x.writes a b→b.defers=marks y.2→Code.roundsIn (uE none) 2 P x.code Q n b w:=by
   intro n;induction n with
   |zero=>intro y w b h;exact h.elim
   |succ n ih=>
    intro y w b h Ml hkp hdb;unfold jP at h;rw[kQ]at h;rw[roundsIn_succ];refine qA hm ho hI x _ w b y.2 _ _ (B3 Ml (VP hs hkp)) (by rw[hkp.1];exact hf) hdb h λz e' w' ds' a' hk hs' py oD=> ?_
    cases z with
    |normal=>
     obtain⟨y',hy',VF⟩:=ru hs' hk;exact ih (y',ds') w' a' hy' VF (hkp.trans py) oD
    |exit id=>exact hQ (.exit id) e' w' ds' a' hk hs' (hkp.trans py) oD
    |ret=>exact hQ .ret e' w' ds' a' hk hs' (hkp.trans py) oD
    |goto l=>exact hQ (.goto l) e' w' ds' a' hk hs' (hkp.trans py) oD
  exact key n (y,ds) w a hn Ml (.refl _ _) hd
 | .range ks f ps asl asg body,e,w,a,ds,k,Q,hs,hf,hd,h,hQ=>by
  unfold za at h;split at h
  ·rename_i v hv;refine ae6 hm ho hI hs hf hv h λD w' hk=>hQ .normal e w' (D::ds) _ hk hs ⟨rfl,λ_ _=>rfl⟩ ?_;show _::a.defers=_;rw[hd];rfl
  ·exact h.elim
theorem HQ{bX:eb}{I:Cy}{mask:Nat}(hm:P.follows .mixedOrders=true)(ho:td P bX PV)(hI:VO P I):∀(p:j0) (e:Env) (w:World) (a:Act) (ds:List Nat) (k:Ex2→Env→World→List Nat→Prop) (Q:Exit→Act→aq) (t:Code),
  Sub e a→p.fits a.tmps.size=true→Ms p=true→a.defers=marks ds→za P bX I mask p e w ds k→
  (∀e' w' ds' a',k .normal e' w' ds'→Sub e' a'→jf p.writes a a'→a'.defers=marks ds'→t.wpIn (uE none) 2 P Q a' w')→
  (∀x e' w' ds' a',x≠Ex2.normal→k x e' w' ds'→Sub e' a'→jf p.writes a a'→a'.defers=marks ds'→Q (ajo x) a' w')→(ql p t).wpIn (uE none) 2 P Q a w
 | .seq x r,e,w,a,ds,k,Q,t,hs,hf,hl,hd,h,hN,hQ=>by
  unfold za at h;simp only[j0.fits,iZ]at hf;unfold ql;refine wpIn_seq (qA hm ho hI x e w a ds _ _ hs hf.1 hd h λz e' w' ds' a' hk hs' hkp oD=> ?_);have py:jf (j0.seq x r).writes a a':=hkp.mono λs gI=>by simp only[j0.writes,kx]at gI;exact gI.1
  have hkr:∀{a''},jf r.writes a' a''→jf (j0.seq x r).writes a a'':=λh3=>py.trans (h3.mono λs gI=>by simp only[j0.writes,kx]at gI;exact gI.2)
  cases z with
  |normal=>exact HQ hm ho hI r e' w' a' ds' k Q t hs' (by rw[hkp.1];exact hf.2) hl oD hk (λPX w'' Jz a'' h1 h2 h3 h4=>hN PX w'' Jz a'' h1 h2 (hkr h3) h4) λz PX w'' Jz a'' hz h1 h2 h3 h4=>hQ z PX w'' Jz a'' hz h1 h2 (hkr h3) h4
  |exit id=>exact hQ (.exit id) e' w' ds' a' bc hk hs' py oD
  |ret=>exact hQ .ret e' w' ds' a' bc hk hs' py oD
  |goto l=>exact hQ (.goto l) e' w' ds' a' bc hk hs' py oD
 | .base c,e,w,a,ds,k,Q,t,hs,hf,hl,hd,h,hN,hQ=>by
  cases c with
  |skip=>unfold za ev at h;exact hN e w ds a h hs (.refl _ _) hd
  |_=>cases hl
 | .cond ..,_,_,_,_,_,_,_,_,_,hl,_,_,_,_| .block ..,_,_,_,_,_,_,_,_,_,hl,_,_,_,_| .loop ..,_,_,_,_,_,_,_,_,_,hl,_,_,_,_| .join ..,_,_,_,_,_,_,_,_,_,hl,_,_,_,_| .scope _,_,_,_,_,_,_,_,_,_,hl,_,_,_,_| .goto _,_,_,_,_,_,_,_,_,_,hl,_,_,_,_| .yK ..,_,_,_,_,_,_,_,_,_,hl,_,_,_,_| .Ap ..,_,_,_,_,_,_,_,_,_,hl,_,_,_,_| .range ..,_,_,_,_,_,_,_,_,_,hl,_,_,_,_=>by cases hl
end
def ayT(P:Program)(rs:List ResultVar)(c:List Value→aq)(x:Ex2)(e:Env)(w:World)(ds:List Nat):Prop:=
 match x with
 | .exit _=>False
 | .goto _=>False
 |_=>Ir ds w λw=>Jp P rs e w λl=>c l w
def Ut(P:Program)(bX:eb)(I:Cy)(mask:Nat)(h:sv)(fn:Func)(ks:List K)(args:List Value)(w:World)(c:KT ks→aq):Prop:=
 match fn.body with
 |some b=>za P bX I mask (sN h b 0).1 (CW 0 args) w [] (ayT P fn.results.toList λl w=>qJ ks l λx=>c x w)
 |none=>False
def apS(h:sv)(fn:Func)(n:Nat):Bool:=
 match fn.body with
 |some b=>(sN h b 0).1.fits fn.ntmps&&Nat.ble n fn.ntmps&& !(fn.name== "runtime.NumGoroutine")
 |none=>false
theorem TH{fn:Func}{tmps:Array Value}{R:Ending→aq}:∀{ds:List Nat} {w:World} {c:aq},Ir ds w c→(∀w',c w'→LeavesInM (uE none) 2 P fn tmps R [] .returning w')→LeavesInM (uE none) 2 P fn tmps R (marks ds) .returning w
 |[],w,c,h,hc=>hc w h
 |D::ds,w,c,h,hc=>⟨bc,.inl ⟨D,_,rfl,run_takeDeferred h.1,TH h.2 hc⟩⟩
theorem It{f:FuncId}{fn:Func}{mask:Nat}{h:sv}{bX:eb}{I:Cy}(hm:P.follows .mixedOrders=true)(hf:P.funcs[f]?=some fn)(ho:td P bX PV)(hI:VO P I)(qc tT:List K)
  (hok:apS h fn qc.length=true) (F:KT qc→World→(KT tT→aq)→Prop) (hl:∀x w c,Ut P bX I mask h fn tT (dB qc x) w c=F x w c):
  uG P f λargs w c=>qJ qc args λx=>F x w λr w=>c (eV (dB tT r)) w:=by
 unfold apS at hok;cases hb:fn.body with
 |none=>rw[hb]at hok;cases hok
 |some b=>
  rw[hb]at hok;simp only[iZ,Bool.not_eq_true']at hok;refine⟨⟨fn,hf,by rw[hb];rfl,hok.2⟩,λargs w c hd=> ?_⟩
  obtain⟨x,hx,hF⟩:=y5 hd;have hlen:=Mv qc x;rw[←hl]at hF;unfold Ut at hF;rw[hb]at hF;simp only at hF;have hle:qc.length≤fn.ntmps:=Nat.le_of_ble_eq_true hok.1.2;have hsz:args.size≤fn.ntmps:=by
   have:args.toList.length=qc.length:=by rw[hx,hlen]
   rw[Array.length_toList]at this;omega
  refine(callsIn_wide (n:=2)).1 (callsIn_of_wp_marks (F:=uE none) hf hb (Js none f) ?_);have ajd:=ae5 h b 0;have hw:=qA (mask:=mask) hm ho hI (sN h b 0).1 (CW 0 (dB qc x)) w {tmps:=args++Array.replicate (fn.ntmps - args.size) undef,defers:=[]} [] _ (bodyPostM (uE none) 2 P fn λe w'=> ∃v,e= .returned v∧c v w') ?_ ?_ rfl hF ?_
  ·rw[ajd]at hw;exact hw
  ·refine Ik _ 0 _ λi v hv=> ?_;rw[←hx]at hv;have FP:args[i]?=some v:=by simpa using hv
   have hi:i<args.size:=(AL.1 FP).1;simp only[Nat.zero_add];rw[Array.getElem?_append_left hi];exact FP
  ·have:(args++Array.replicate (fn.ntmps - args.size) undef).size=fn.ntmps:=by simp;omega
   rw[this];exact hok.1.1
  ·intro z e' w' ds' a' hk hs hkp apA;have fin:(Ir ds' w' λw=>Jp P fn.results.toList e' w λl=>qJ tT l λx=>c (eV (dB tT x)) w)→LeavesInM (uE none) 2 P fn a'.tmps (λe w'=> ∃v,e= .returned v∧c v w') a'.defers .returning w':=by
    intro ht;rw[apA];refine TH ht λw'' hr=> ?_;obtain⟨l,hc,hrun⟩:=R8 hs hr;obtain⟨y,rfl,Ei⟩:=y5 hc;show LeavesIn (uE none) 2 P fn a'.tmps _ [] .returning w'';refine⟨eV (dB tT y),?_,_,rfl,Ei⟩;have he:results fn a'.tmps=(do
      let vs←fn.results.mapM (P1 a');pure (if h:vs.size=1 then vs[0]else .tuple vs)):=by
     have hfun:(λx=>(match x with| .tmp t=>pure (a'.tmps.getD t undef)| .cell a t=>do loadVar t (←asAddr (a'.tmps.getD a undef)):Sem Value))=P1 a':=by
      funext r;cases r<;>rfl
     unfold results;rw[←hfun];rfl
    rw[he,Array.mapM_eq_mapM_toList];simp only[cL,Sem.run_map,hrun,cF,cK];rw[aaF]
   cases z with
   |normal=>exact fin hk
   |ret=>exact fin hk
   |exit id=>exact hk.elim
   |goto l=>exact hk.elim
def VQ(P:Program)(f:FuncId)(G:(Nat→bn)→bn):Prop:=∀Y,YOK P Y→uG P f (G Y)
def aa1(P:Program):List (Nat×((Nat→bn)→bn))→Prop
 |[]=>True
 |(n,d)::l=>VQ P n d∧aa1 P l
def Cz:List (Nat×((Nat→bn)→bn))→Cy
 |[],_,_,_,_,_=>False
 |(n,d)::l,f,Y,args,w,c=>match Nat.beq n f with|true=>d Y args w c|false=>Cz l f Y args w c
theorem K3:∀{l:List (Nat×((Nat→bn)→bn))},aa1 P l→VO P (Cz l)
 |[],_=>λ_ _ _ _ _ _ h=>h.elim
 |(n,d)::l,hl=>λgf Y args w c hY h=>by
  unfold Cz at h;split at h
  ·rename_i hb;have:=beq_eq hb;subst this;have:=hl.1 Y hY;exact⟨this.1,this.2 args w c h⟩
  ·exact K3 hl.2 gf Y args w c hY h
end
def obj(g:Nat)(o:Obj):HP where
 p F w:=(∀k,F k↔k=g)∧w.heap[g]?=some o
 lt:=fun⟨e,h⟩ hg=>by rw[(e _).1 hg];exact(AL.1 h).1
 keep:=fun⟨e,h⟩ hk=>⟨e,(hk _ ((e _).2 rfl)).trans h⟩
def Iu(ds:List Nat):HP where
 p F w:=ds.Nodup∧(∀k,F k↔k∈ds)∧∀D∈ds,w.heap[D]?=some (.deferred (some []))
 lt:=fun⟨_,e,h⟩ hg=>(AL.1 (h _ ((e _).1 hg))).1
 keep:=fun⟨n,e,h⟩ hk=>⟨n,e,λD hD=>(hk _ ((e _).2 hD)).trans (h D hD)⟩
theorem afa(w:World)(g:Nat)(o:Obj):oU (λk=>k=g) w (w.putObj g o):=
 ⟨rfl,rfl,rfl,by simp[World.putObj],λk _ hn=>World.putObj_heap_other hn⟩
theorem aju(w:World)(o:Obj):Ext w (w.alloc o):=
 ⟨rfl,rfl,rfl,by show w.heap.size≤(w.heap.push o).size;simp,λk hk _=>by show(w.heap.push o)[k]?=_;rw[Array.getElem?_push_lt hk];simp[hk]⟩
section
variable {w0 w:World} {L:List HP} {g:Nat} {f:HP→List HP}
theorem Da{o:Obj}(h:St w0 w L)[a:At L (Ev.obj g) o f]:w.heap[g]?=some o:=by
 obtain⟨F,h1,_⟩:=h.look' a;exact h1.2
theorem Aq{o:Obj}(o':Obj)(h:St w0 w L)[a:At L (Ev.obj g) o f]:St w0 (w.putObj g o') (f (Ev.obj g o')):=by
 have hlt:=(AL.1 (Da (g:=g) (o:=o) h)).1;exact h.Mr a λF1 hF=>⟨(afa w g o').mono λk _ hk=>(hF.1 k).2 hk,λk=>k=g,⟨λ_=>Iff.rfl,World.putObj_heap_same hlt⟩,λk hk=> .inl ((hF.1 k).2 hk)⟩
theorem aa2(o:Obj)(h:St w0 w L):St w0 (w.alloc o) (Ev.obj w.heap.size o::L):=
 h.new (aju w o) (F':=λk=>k=w.heap.size) ⟨λ_=>Iff.rfl,World.alloc_heap_new w o⟩ λk hk=>Nat.le_of_eq hk.symm
theorem P8(h:St w0 w L):St w0 w (Iu []::L):=
 h.new (.refl _ _) (F':=λ_=>False) ⟨.nil,λk=>by simp,λD hD=>by cases hD⟩ λ_ h=>h.elim
theorem K4{D:Nat}{ds:List Nat}(h:St w0 w (Ev.obj D (.deferred (some []))::Iu ds::L)):St w0 w (Iu (D::ds)::L):=by
 obtain⟨h1,F,⟨F1,F2,⟨e1,k1⟩,⟨F3,F4,⟨n3,e3,k3⟩,h4,d34,e34⟩,d12,e12⟩,h3⟩:=h;have hn:D ∉ ds:=λhD=>d12 D ((e1 D).2 rfl) ((e34 D).2 (.inl ((e3 D).2 hD)));refine⟨h1,F,⟨λk=>F1 k∨F3 k,F4,⟨List.nodup_cons.2 ⟨hn,n3⟩,λk=>by simp[e1,e3],λD' hD=> ?_⟩,h4,λk hk h4k=> ?_,λk=> ?_⟩,h3⟩
 ·rcases List.mem_cons.1 hD with rfl|hD
  ·exact k1
  ·exact k3 D' hD
 ·rcases hk with hk|hk
  ·exact d12 k hk ((e34 k).2 (.inr h4k))
  ·exact d34 k hk h4k
 ·rw[e12,e34];exact or_assoc.symm
theorem ag2{D:Nat}{ds:List Nat}(h:St w0 w (Iu (D::ds)::L)):St w0 w (Ev.obj D (.deferred (some []))::Iu ds::L):=by
 obtain⟨h1,F,⟨F1,F4,⟨n,e1,k1⟩,h4,d14,e14⟩,h3⟩:=h;obtain⟨hn,n3⟩:=List.nodup_cons.1 n;refine⟨h1,F,⟨λk=>k=D,λk=>k∈ds∨F4 k,⟨λ_=>Iff.rfl,k1 D bc⟩,⟨λk=>k∈ds,F4,⟨n3,λ_=>Iff.rfl,λD' hD=>k1 D' (by simp[hD])⟩,h4,λk hk h4k=>d14 k ((e1 k).2 (by simp[hk])) h4k,λ_=>Iff.rfl⟩,λk hk hor=> ?_,λk=> ?_⟩,h3⟩
 ·subst hk;rcases hor with h|h
  ·exact hn h
  ·exact d14 k ((e1 k).2 bc) h
 ·rw[e14,e1];simp[or_assoc]
theorem K5:∀{ds:List Nat} {w:World} {c:aq},St w0 w (Iu ds::L)→(∀w',St w0 w' L→c w')→Ir ds w c
 |[],w,c,h,hc=>hc w h.drop
 |D::ds,w,c,h,hc=>by
  have h:=ag2 h;refine⟨Da h,K5 (St.drop (R:=Ev.obj D (.deferred none)) (Aq (g:=D) (o:= .deferred (some [])) (f:=λX=>X::Iu ds::L) (.deferred none) h)) hc⟩
def rY(l:Nat)(R:LoopState→Obj)(kk:List K)(body:KT kk→World→(aq)→Prop):Nat→bn:=λn args w1 c=>
 n=l∧w1.heap[l]?=some (R .ready)∧qJ kk args λy=>body y (w1.putObj l (R .busy)) λw4=>w4.heap[l]?=some (R .busy)∧c (.bool true) (w4.putObj l (R .ready))
theorem Sb{I:Cy}{kk:List K}{gf:FuncId}{first lb:Array Value}{body:KT kk→World→(aq)→Prop}{fin:Nat→aq}(h:St w0 w L)
  (hI:∀(l D:Nat) (R:LoopState→Obj) (w1:World),St w0 w1 (obj l (R .ready)::obj D (.deferred (some []))::L)→
   I gf (rY l R kk body) (first.toList++(.func (.yield l) #[] #[]::lb.toList)) w1 λ_ w5=>w5.heap[l]?=some (R .ready)∧fin D (w5.putObj l (R .exhausted))):
  BQ I kk (.func (.func gf) first lb) w body fin:=by
 intro R hR;have h1:=aa2 (R .ready) (aa2 (.deferred (some [])) h);have e:(w.alloc (.deferred (some []))).heap.size=w.heap.size+1:=by show(w.heap.push _).size=_;simp
 rw[e]at h1;exact hI _ _ R _ h1
theorem alD{l:Nat}{R:LoopState→Obj}{kk:List K}{body:KT kk→World→(aq)→Prop}{args:List Value}{c:Value→aq}(y:KT kk)(hy:∀c:KT kk→Prop,c y→qJ kk args c)
  (h:St w0 w L) [a:At L (Ev.obj l) (R .ready) f]
  (hb:∀w',St w0 w' (f (Ev.obj l (R .busy)))→body y w' λw4=>w4.heap[l]?=some (R .busy)∧c (.bool true) (w4.putObj l (R .ready))):rY l R kk body l args w c:=
 ⟨rfl,Da h,hy _ (hb _ (Aq _ h))⟩
theorem aa3{o o':Obj}{c:aq}(h:St w0 w L)[a:At L (Ev.obj g) o f](hc:∀w',St w0 w' (f (Ev.obj g o'))→c w'):w.heap[g]?=some o∧c (w.putObj g o'):=
 ⟨Da h,hc _ (Aq _ h)⟩
theorem P9{l:List (Nat×bn)}{Y:Nat→bn}{n:Nat}{args:Array Value}{c:Value→aq}(h:Y n args.toList w c):m5 (Jq l Y) (.func (.yield n) #[] #[]) args w c:=by
 show Y n (#[] ++args).toList w c;simpa using h
end
theorem St.join{w0 w w':World}{L M:List HP}(h:St w0 w L)(k:St w w' M):St w0 w' (M++L):=by
 obtain⟨e1,FL,hL,bL⟩:=h;obtain⟨e2,FM,hM,bM⟩:=k;refine⟨e1.trans e2,λg=>FM g∨FL g,y8.1 ⟨FM,FL,hM,E6 hL λg hg=>e2.block g (C0 hL hg) λh=>h,λg hg Mq=> ?_,λ_=>Iff.rfl⟩,λg hg=> ?_⟩
 ·have:=bM g hg;have:=C0 hL Mq;omega
 ·have:=e1.size;rcases hg with hg|hg
  ·have:=bM g hg;omega
  ·exact bL g hg
theorem adJ{w:World}{p:Addr}:∀(n i:Nat) (e:List Value),e.length=i+n→(∀j v,e[j]?=some v→w.cell? (p.add j)=some v)→FC w p i n=some (e.drop i)
 |0,i,e,hl,_=>by rw[List.drop_eq_nil_of_le ah];rfl
 |n+1,i,e,hl,h=>by
  have hi:i<e.length:=ah;have h1:=h i e[i] (j4 hi);have h2:=adJ n (i+1) e ah h;rw[List.drop_eq_getElem_cons hi];simp[FC,rd,h1,h2]
theorem GO{n:Nat}{w:World}{p:Addr}{e:List Value}{c:Array Value→Prop}(hl:e.length=n)(h:∀j v,e[j]?=some v→w.cell? (p.add j)=some v)(hc:c e.toArray):bD n w p c:=by
 unfold bD;rw[adJ n 0 e ah h];exact hc
theorem ajv{L M:List HP}(hp:L.Perm M):∀{F w},uK L F w→uK M F w:=by
 induction hp with
 |nil=>exact id
 |cons x _ ih=>rintro F w ⟨F1,F2,h1,h2,h3,h4⟩;exact⟨F1,F2,h1,ih h2,h3,h4⟩
 |swap x y l=>exact λh=>Ip h
 |trans _ _ ih1 ih2=>exact λh=>ih2 (ih1 h)
theorem St.perm{w0 w:World}{L M:List HP}(h:St w0 w L)(hp:L.Perm M):St w0 w M:=⟨h.ext,by obtain⟨F,h1,h2⟩:=h.sep;exact⟨F,ajv hp h1,h2⟩⟩
theorem YR:∀{L:List HP} {n:Nat} {X:HP},L[n]?=some X→L.Perm (X::L.eraseIdx n)
 |[],n,X,h=>by simp at h
 |R::L,0,X,h=>by simp at h;subst h;exact .refl _
 |R::L,n+1,X,h=>((YR (L:=L) (n:=n) (by simpa using h)).cons R).trans (.swap _ _ _)
theorem bx(n:Nat){L M:List HP}{X:HP}(e:L[n]?=some X)(h:(L.eraseIdx n).Perm M):L.Perm (X::M):=by
 have:=YR e;exact this.trans (h.cons X)
theorem St.fr{w0 w:World}{L L':List HP}{X:HP}(h:St w0 w L)(n:Nat)(e:L[n]?=Option.some X:=by exact rfl)(e2:X::L.eraseIdx n=L':=by simp only[Iw] <;>exact rfl):St w0 w L':=e2▸h.front n e
theorem St.Ek{w0 w:World}{L L':List HP}{X:HP}(h:St w0 w L)(n:Nat)(e:L[n]?=Option.some X:=by exact rfl)(e2:L.eraseIdx n=L':=by simp only[Iw] <;>exact rfl):St w0 w L':=e2▸h.rm n e
theorem GP{L M:List HP}(h:L.Perm M:=by repeat' (first|exact List.Perm.refl _|refine bx 0 rfl ?_|refine bx 1 rfl ?_|refine bx 2 rfl ?_|refine bx 3 rfl ?_|refine bx 4 rfl ?_|refine bx 5 rfl ?_|refine bx 6 rfl ?_|refine bx 7 rfl ?_)):L.Perm M:=h
section
variable {K V:Type} [DecidableEq K]
def gmE(ek:K→Value)(ev:V→Value)(t:List (K×V×Nat)):List MapEntry:=t.map λx=>⟨ek x.1,ev x.2.1,x.2.2⟩
def gmG(t:List (K×V×Nat))(k:K):Option V:=(t.find? λx=>decide (x.1=k)).map (·.2.1)
def gm(ek:K→Value)(ev:V→Value)(g:Nat)(φ:K→Option V):HP:=FV λq:{t:List (K×V×Nat) // gmG t=φ}×Nat=>obj g (.map (gmE ek ev q.1.1).toArray q.2)
end
section
variable {K V:Type} [DecidableEq K] {ek:K→Value} {ev:V→Value} {z:V} {P:Program} {w0 w:World} {L:List HP} {g:Nat} {φ:K→Option V} {f:HP→List HP} {m kt et:TypeId}
end
section
variable {w0 w:World} {L:List HP} {g o n:Nat} {cs:List Value} {f:HP→List HP}
theorem aI{k:IntKind}{x:Int}{c:Int→Prop}(h:St w0 w L)[a:At L (ax g) cs f](hv:cs[o+n]?=some (.int k x))(hc:c x):aN k w (aY ⟨g,o,none⟩ n) c:=by rw[cY];exact cn h hv hc
theorem aB{x:Bool}{c:Bool→Prop}(h:St w0 w L)[a:At L (ax g) cs f](hv:cs[o+n]?=some (.bool x))(hc:c x):Jc w (aY ⟨g,o,none⟩ n) c:=by rw[cY];exact ajl h hv hc
theorem aP{x:Option Addr}{c:Option Addr→Prop}(h:St w0 w L)[a:At L (ax g) cs f](hv:cs[o+n]?=some (.pointer x))(hc:c x):aR w (aY ⟨g,o,none⟩ n) c:=by rw[cY];exact B5 h hv hc
theorem aS{p:Option Addr}{m k:Nat}{c:Sl→Prop}(h:St w0 w L)[a:At L (ax g) cs f](hv:cs[o+n]?=some (.slice p m k))(hc:c ⟨p,m,k⟩):cC w (aY ⟨g,o,none⟩ n) c:=by rw[cY];exact ea h hv hc
theorem aT{x:ByteArray}{c:ByteArray→Prop}(h:St w0 w L)[a:At L (ax g) cs f](hv:cs[o+n]?=some (.string x))(hc:c x):PI w (aY ⟨g,o,none⟩ n) c:=by rw[cY];exact agX h hv hc
theorem aV{x:Value}{c:Value→Prop}(h:St w0 w L)[a:At L (ax g) cs f](hv:cs[o+n]?=some x)(hc:c x):sX w (aY ⟨g,o,none⟩ n) c:=by rw[cY];exact Iq h hv hc
theorem aA{m:Nat}{c:Array Value→Prop}(h:St w0 w L)[a:At L (ax g) cs f](hl:o+n+m≤cs.length)(hc:c ((cs.drop (o+n)).take m).toArray):bD m w (aY ⟨g,o,none⟩ n) c:=by rw[cY];exact qz h hl hc
theorem aC{v:Value}{c:aq}(h:St w0 w L)[a:At L (ax g) cs f](h1:v.oneCell'=true)(ho:o+n<cs.length)(hc:∀w',St w0 w' (f (ax g (cs.set (o+n) v)))→c w'):bJ w (aY ⟨g,o,none⟩ n) v c:=by rw[cY];exact jY h h1 ho hc
theorem aW{m:Nat}{vs:Array Value}{c:aq}(h:St w0 w L)[a:At L (ax g) cs f](hn:vs.size=m)(hl:o+n+m≤cs.length)(h1:∀v∈vs,v.oneCell'=true)
  (hc:∀w',St w0 w' (f (ax g (cs.take (o+n)++(vs.toList++cs.drop (o+n+m)))))→c w'):dZ m w (aY ⟨g,o,none⟩ n) vs c:=by rw[cY];exact Xv h hn hl h1 hc
theorem bA{m:Nat}{c:Array Value→Prop}(h:St w0 w L)[a:At L (ax g) cs f](hl:Nat.ble (o+n+m) cs.length=true)(hc:c ((cs.drop (o+n)).take m).toArray):bD m w (aY ⟨g,o,none⟩ n) c:=aA h (Nat.le_of_ble_eq_true hl) hc
theorem bA0{m:Nat}{c:Array Value→Prop}(h:St w0 w L)[a:At L (ax g) cs f](hl:Nat.ble (o+m) cs.length=true)(hc:c ((cs.drop o).take m).toArray):bD m w ⟨g,o,none⟩ c:=qz h (Nat.le_of_ble_eq_true hl) hc
theorem bC{v:Value}{c:aq}(h:St w0 w L)[a:At L (ax g) cs f](h1:v.oneCell'=true)(ho:Nat.ble (o+n+1) cs.length=true)(hc:∀w',St w0 w' (f (ax g (cs.set (o+n) v)))→c w'):bJ w (aY ⟨g,o,none⟩ n) v c:=aC h h1 (Nat.le_of_ble_eq_true ho) hc
theorem bC0{v:Value}{c:aq}(h:St w0 w L)[a:At L (ax g) cs f](h1:v.oneCell'=true)(ho:Nat.ble (o+1) cs.length=true)(hc:∀w',St w0 w' (f (ax g (cs.set o v)))→c w'):bJ w ⟨g,o,none⟩ v c:=jY h h1 (Nat.le_of_ble_eq_true ho) hc
theorem bW{m:Nat}{vs:Array Value}{c:aq}(h:St w0 w L)[a:At L (ax g) cs f](hn:vs.size=m)(hl:Nat.ble (o+n+m) cs.length=true)(h1:vs.toList.all Value.oneCell'=true)
  (hc:∀w',St w0 w' (f (ax g (cs.take (o+n)++(vs.toList++cs.drop (o+n+m)))))→c w'):dZ m w (aY ⟨g,o,none⟩ n) vs c:=aW h hn (Nat.le_of_ble_eq_true hl) (λv hv=>xz.1 h1 v (by simpa using hv)) hc
theorem bW0{m:Nat}{vs:Array Value}{c:aq}(h:St w0 w L)[a:At L (ax g) cs f](hn:vs.size=m)(hl:cs.length=m)(h1:vs.toList.all Value.oneCell'=true)
  (hc:∀w',St w0 w' (f (ax g vs.toList))→c w'):dZ m w ⟨g,0,none⟩ vs c:=m8 h hl hn (λv hv=>xz.1 h1 v (by simpa using hv)) hc
theorem sq{w0' w':World}{L':List HP}{f':HP→List HP}{cs':List Value}{m:Nat}{c:Prop}(h:St w0 w L)(h':St w0' w' L')[a:At L (ax g) cs f][a':At L' (ax g) cs' f'](e:(cs.drop o).take m=(cs'.drop o).take m)(hc:c):ai m ⟨g,o,none⟩ w w' c:=by
 refine⟨λk hk=> ?_,hc⟩;have h1:=h.ax (g:=g) (cs:=cs);have h2:=h'.ax (g:=g) (cs:=cs');rw[cY,h1.cell,h2.cell,List.getElem?_toArray,List.getElem?_toArray];have:=congrArg (λl=>l[k]?) e;simp only[List.getElem?_take_of_lt hk,List.getElem?_drop]at this;exact this.symm
theorem asq{w0' w':World}{L':List HP}{f':HP→List HP}{cs':List Value}{m:Nat}{c:Prop}(h:St w0 w L)(h':St w0' w' L')[a:At L (ax g) cs f][a':At L' (ax g) cs' f'](e:(cs.drop (o+n)).take m=(cs'.drop (o+n)).take m)(hc:c):ai m (aY ⟨g,o,none⟩ n) w w' c:=by rw[cY];exact sq h h' e hc
theorem cP{m:Nat}{a:Addr}{w:World}{c:Prop}(hc:c):ai m a w w c:=⟨λ_ _=>rfl,hc⟩
theorem fX{x y:Prop}(hx:x)(hy:y):both x y:=⟨hx,hy⟩
theorem ZU{v:Value}{c:Prop}(h1:v.oneCell'=true)(hc:c):rJ v c:=⟨h1,hc⟩
theorem afb{b:Bool}{c:Bool→Prop}(h:c b):HL (.bool b) c:=h
theorem alE{c:Bool→Prop}(h:c true):aac .nilFunc c:=h
theorem My{f:Fn}{a b:Array Value}{c:Bool→Prop}(h:c false):aac (.func f a b) c:=h
end
section
variable {w0 w:World} {L:List HP} {g o n:Nat} {cs:List Value} {f:HP→List HP}
theorem da{x:Option Addr}{c:Option Addr→Prop}(h:St w0 w L)[a:At L (ax g) cs f](hc:c x)(hv:cs[o+n]?=some (.pointer x):=by with_unfolding_all exact rfl):aR w (aY ⟨g,o,none⟩ n) c:=aP h hv hc
theorem lW{x:Option Addr}{c:Option Addr→Prop}(h:St w0 w L)[a:At L (ax g) cs f](hc:c x)(hv:cs[o]?=some (.pointer x):=by with_unfolding_all exact rfl):aR w ⟨g,o,none⟩ c:=B5 h hv hc
theorem cS{k:IntKind}{x:Int}{c:Int→Prop}(h:St w0 w L)[a:At L (ax g) cs f](hc:c x)(hv:cs[o+n]?=some (.int k x):=by with_unfolding_all exact rfl):aN k w (aY ⟨g,o,none⟩ n) c:=aI h hv hc
theorem vt{k:IntKind}{x:Int}{c:Int→Prop}(h:St w0 w L)[a:At L (ax g) cs f](hc:c x)(hv:cs[o]?=some (.int k x):=by with_unfolding_all exact rfl):aN k w ⟨g,o,none⟩ c:=cn h hv hc
theorem uL{x:Bool}{c:Bool→Prop}(h:St w0 w L)[a:At L (ax g) cs f](hc:c x)(hv:cs[o+n]?=some (.bool x):=by with_unfolding_all exact rfl):Jc w (aY ⟨g,o,none⟩ n) c:=aB h hv hc
theorem AO{x:Bool}{c:Bool→Prop}(h:St w0 w L)[a:At L (ax g) cs f](hc:c x)(hv:cs[o]?=some (.bool x):=by with_unfolding_all exact rfl):Jc w ⟨g,o,none⟩ c:=ajl h hv hc
theorem j5{p:Option Addr}{m k:Nat}{c:Sl→Prop}(h:St w0 w L)[a:At L (ax g) cs f](hc:c ⟨p,m,k⟩)(hv:cs[o+n]?=some (.slice p m k):=by with_unfolding_all exact rfl):cC w (aY ⟨g,o,none⟩ n) c:=aS h hv hc
theorem sY{p:Option Addr}{m k:Nat}{c:Sl→Prop}(h:St w0 w L)[a:At L (ax g) cs f](hc:c ⟨p,m,k⟩)(hv:cs[o]?=some (.slice p m k):=by with_unfolding_all exact rfl):cC w ⟨g,o,none⟩ c:=ea h hv hc
theorem pC{x:Value}{c:Value→Prop}(h:St w0 w L)[a:At L (ax g) cs f](hc:c x)(hv:cs[o+n]?=some x:=by with_unfolding_all exact rfl):sX w (aY ⟨g,o,none⟩ n) c:=aV h hv hc
theorem Ar{x:Value}{c:Value→Prop}(h:St w0 w L)[a:At L (ax g) cs f](hc:c x)(hv:cs[o]?=some x:=by with_unfolding_all exact rfl):sX w ⟨g,o,none⟩ c:=Iq h hv hc
theorem zb{x:ByteArray}{c:ByteArray→Prop}(h:St w0 w L)[a:At L (ax g) cs f](hc:c x)(hv:cs[o+n]?=some (.string x):=by with_unfolding_all exact rfl):PI w (aY ⟨g,o,none⟩ n) c:=aT h hv hc
theorem AP{x:ByteArray}{c:ByteArray→Prop}(h:St w0 w L)[a:At L (ax g) cs f](hc:c x)(hv:cs[o]?=some (.string x):=by with_unfolding_all exact rfl):PI w ⟨g,o,none⟩ c:=agX h hv hc
theorem mH{m:Nat}{c:Array Value→Prop}(h:St w0 w L)[a:At L (ax g) cs f](hc:c ((cs.drop (o+n)).take m).toArray)(hl:Nat.ble (o+n+m) cs.length=true:=by with_unfolding_all exact rfl):bD m w (aY ⟨g,o,none⟩ n) c:=bA h hl hc
theorem mI{m:Nat}{c:Array Value→Prop}(h:St w0 w L)[a:At L (ax g) cs f](hc:c ((cs.drop o).take m).toArray)(hl:Nat.ble (o+m) cs.length=true:=by with_unfolding_all exact rfl):bD m w ⟨g,o,none⟩ c:=bA0 h hl hc
theorem dO{v:Value}{c:aq}(h:St w0 w L)[a:At L (ax g) cs f](hc:∀w',St w0 w' (f (ax g (cs.set (o+n) v)))→c w')(h1:v.oneCell'=true:=by first|assumption|with_unfolding_all exact rfl)(ho:Nat.ble (o+n+1) cs.length=true:=by with_unfolding_all exact rfl):bJ w (aY ⟨g,o,none⟩ n) v c:=bC h h1 ho hc
theorem qY{v:Value}{c:aq}(h:St w0 w L)[a:At L (ax g) cs f](hc:∀w',St w0 w' (f (ax g (cs.set o v)))→c w')(h1:v.oneCell'=true:=by first|assumption|with_unfolding_all exact rfl)(ho:Nat.ble (o+1) cs.length=true:=by with_unfolding_all exact rfl):bJ w ⟨g,o,none⟩ v c:=bC0 h h1 ho hc
theorem vC{m:Nat}{vs:Array Value}{c:aq}(h:St w0 w L)[a:At L (ax g) cs f](hc:∀w',St w0 w' (f (ax g (cs.take (o+n)++(vs.toList++cs.drop (o+n+m)))))→c w')(hn:vs.size=m:=by with_unfolding_all exact rfl)(hl:Nat.ble (o+n+m) cs.length=true:=by with_unfolding_all exact rfl)(h1:vs.toList.all Value.oneCell'=true:=by with_unfolding_all exact rfl):dZ m w (aY ⟨g,o,none⟩ n) vs c:=bW h hn hl h1 hc
theorem nW{m:Nat}{vs:Array Value}{c:aq}(h:St w0 w L)[a:At L (ax g) cs f](hc:∀w',St w0 w' (f (ax g vs.toList))→c w')(hn:vs.size=m:=by with_unfolding_all exact rfl)(hl:cs.length=m:=by with_unfolding_all exact rfl)(h1:vs.toList.all Value.oneCell'=true:=by with_unfolding_all exact rfl):dZ m w ⟨g,0,none⟩ vs c:=bW0 h hn hl h1 hc
theorem ja{w0' w':World}{L':List HP}{f':HP→List HP}{cs':List Value}{m:Nat}{c:Prop}(h':St w0' w' L')(hc:c)(h:St w0 w L:=by assumption)[a:At L (ax g) cs f][a':At L' (ax g) cs' f'](e:(cs.drop (o+n)).take m=(cs'.drop (o+n)).take m:=by with_unfolding_all exact rfl):ai m (aY ⟨g,o,none⟩ n) w w' c:=asq h h' e hc
theorem mJ{w0' w':World}{L':List HP}{f':HP→List HP}{cs':List Value}{m:Nat}{c:Prop}(h':St w0' w' L')(hc:c)(h:St w0 w L:=by assumption)[a:At L (ax g) cs f][a':At L' (ax g) cs' f'](e:(cs.drop o).take m=(cs'.drop o).take m:=by with_unfolding_all exact rfl):ai m ⟨g,o,none⟩ w w' c:=sq h h' e hc
theorem fE{b:Bool}{x y:Prop}(h:y)(hb:b=false:=by with_unfolding_all exact rfl):ap b x y:=bh hb h
theorem nJ{b:Bool}{x y:Prop}(h:x)(hb:b=true:=by with_unfolding_all exact rfl):ap b x y:=bO hb h
theorem xB{v:Value}{c:Prop}(hc:c)(h1:v.oneCell'=true:=by first|assumption|with_unfolding_all exact rfl):rJ v c:=ZU h1 hc
end
theorem aa4{A:Type}{sz:Nat}:∀{es:List (List A)},(∀e∈es,e.length=sz)→es.flatten.length=es.length*sz
 |[],_=>by simp
 |e::es,h=>by
  have:=aa4 (es:=es) λx hx=>h x (by simp[hx])
  have he:=h e bc;simp only[List.flatten_cons,tV,List.length_cons,Nat.add_mul,Nat.one_mul];omega
theorem aa5{A:Type}{sz:Nat}:∀{es:List (List A)},(∀e∈es,e.length=sz)→∀{i j:Nat} {e:List A},es[i]?=some e→j<sz→es.flatten[i*sz+j]?=e[j]?
 |[],_,i,j,e,he,_=>by simp at he
 |x::es,h,0,j,e,he,hj=>by
  have hx:=h x bc;simp at he;subst he;rw[List.flatten_cons,Nat.zero_mul,Nat.zero_add,sZ ah]
 |x::es,h,i+1,j,e,he,hj=>by
  have hx:=h x bc;rw[List.flatten_cons,Nat.succ_mul,uI ah,hx];rw[show i*sz+sz+j - sz=i*sz+j by omega,aa5 (λy hy=>h y (by simp[hy])) (by simpa using he) hj]
theorem aa6{A:Type}{sz:Nat}:∀{es:List (List A)},(∀e∈es,e.length=sz)→∀{i j:Nat} {e:List A} {v:A},es[i]?=some e→j<sz→es.flatten.set (i*sz+j) v=(es.set i (e.set j v)).flatten
 |[],_,i,j,e,v,he,_=>by simp at he
 |x::es,h,0,j,e,v,he,hj=>by
  have hx:=h x bc;simp at he;subst he;rw[List.flatten_cons,Nat.zero_mul,Nat.zero_add,List.set_append_left (h:=by omega)];rfl
 |x::es,h,i+1,j,e,v,he,hj=>by
  have hx:=h x bc;rw[List.flatten_cons,Nat.succ_mul,List.set_append_right (h:=by omega),hx]
  rw[show i*sz+sz+j - sz=i*sz+j by omega,aa6 (λy hy=>h y (by simp[hy])) (by simpa using he) hj];rfl
theorem aa7{A:Type}{sz:Nat}:∀{es:List (List A)} (n:Nat),(∀e∈es,e.length=sz)→es.flatten.take (n*sz)=(es.take n).flatten
 |[],n,_=>by simp
 |e::es,0,_=>by simp
 |e::es,n+1,h=>by
  have he:=h e bc;rw[List.flatten_cons,List.take_append,List.take_of_length_le (by rw[he,Nat.succ_mul];omega),he,Nat.succ_mul,Nat.add_sub_cancel,List.take_succ_cons,List.flatten_cons,aa7 n λx hx=>h x (by simp[hx])]
def rws(sz:Nat)(s:Sl)(es:List (List Value)):HP:=Jw (∀e∈es,e.length=sz) (bP sz s es.flatten)
section
variable {w0 w:World} {L:List HP} {sz:Nat} {s:Sl} {es:List (List Value)} {f:HP→List HP}
theorem K6(a:At L (rws sz s) es f)(h:St w0 w L):∃R,(∀e∈es,e.length=sz)∧St w0 w (bP sz s es.flatten::R)∧∀{es' w0' w'},(∀e∈es',e.length=sz)→St w0' w' (bP sz s es'.flatten::R)→St w0' w' (f (rws sz s es')):=by
 obtain⟨R,h1,h2⟩:=a.out;obtain⟨hp,h3⟩:=(h1 h).pure;exact⟨R,hp,h3,λhp' h4=>h2 (St.pur hp' h4)⟩
theorem adK(a:At L (rws sz s) es f)(h:St w0 w L):∃R,(∀e∈es,e.length=sz)∧St w0 w (bP sz s es.flatten::R)∧∀{s' es' w0' w'},(∀e∈es',e.length=sz)→St w0' w' (bP sz s' es'.flatten::R)→St w0' w' (f (rws sz s' es')):=by
 obtain⟨R,h1,h2⟩:=a.out;obtain⟨hp,h3⟩:=(h1 h).pure;exact⟨R,hp,h3,λhp' h4=>h2 (St.pur hp' h4)⟩
theorem tE(h:St w0 w L)[a:At L (rws sz s) es f]:(∀e∈es,e.length=sz)∧(0<sz→es.length=s.n):=by
 obtain⟨R,hp,h1,_⟩:=K6 a h;have:=h1.FU (sz:=sz) (s:=s) (vs:=es.flatten);rw[aa4 hp]at this;exact⟨hp,λhz=>Nat.eq_of_mul_eq_mul_right hz this⟩
theorem ixG{vs:List Value}{i:Int}{c:Addr→Prop}(h:St w0 w L)[a:At L (bP sz s) vs f](hsz:0<sz)(h0:0≤i)(h1:i<s.n)
  (hc:∀g o,(∀{w':World} {L':List HP} {vs':List Value} {f':HP→List HP},St w0 w' L'→At L' (bP sz s) vs' f'→∀j v,j<sz→vs'[i.toNat*sz+j]?=some v→w'.cell? ⟨g,o+j,none⟩=some v)→
   (∀{w':World} {L':List HP} {vs':List Value} {f':HP→List HP} (h':St w0 w' L') (a':At L' (bP sz s) vs' f') (j:Nat) (v:Value) (c':aq),j<sz→v.oneCell'=true→
    (∀w'',St w0 w'' (f' (bP sz s (vs'.set (i.toNat*sz+j) v)))→c' w'')→bJ w' ⟨g,o+j,none⟩ v c')→c ⟨g,o,none⟩):cZ s i sz c:=by
 have ho:qf sz w s vs:=h.own;have hi:i.toNat<s.n:=ah;rcases ho.row with⟨h2,h3⟩|⟨g,off,cs,h2,h3,h4,h5⟩
 ·have:=ho.cap;omega
 ·unfold cZ;rw[h2];refine⟨⟨h0,h1⟩,?_⟩;rw[cY];refine hc g _ ?_ ?_
  ·intro w' L' vs' f' h' a' j v hj hv;obtain⟨p,hp,pB⟩:=(h'.own (sz:=sz) (s:=s) (vs:=vs')).sls.cell _ v hv;rw[h2]at hp;cases hp;rw[cY]at pB;rw[Nat.add_assoc];exact pB
  ·intro w' L' vs' f' h' a' j v c' hj Zp Ei;have yX:qf sz w' s vs':=h'.own;have hlt:i.toNat*sz+sz≤s.n*sz:=by
    rw[←Nat.succ_mul];exact Nat.mul_le_mul_right _ hi
   rcases yX.row with⟨h2',_⟩|⟨g',off',cs',h2',h3',h4',h5'⟩
   ·rw[h2]at h2';cases h2'
   ·rw[h2]at h2';cases h2';have GJ:=yX.cap;have axS:s.n*sz≤s.c*sz:=Nat.mul_le_mul_right _ GJ;refine aaG Zp h3' ah λw'' hb hs FR=>Ei w'' (h'.Mr a' λF1 hF=>⟨FR.mono λk _ hk=>(hF.1 k).2 (by simp[Sl.ax,h2,hk]),F1,⟨hF.1,?_⟩,λk hk=> .inl hk⟩)
    refine⟨by rw[List.length_set];exact yX.len,yX.cap,yX.max,λx hx=> ?_,.inr ⟨g,off,_,h2,hb,by simpa using h4',λk u hk=> ?_⟩⟩
    ·rcases List.mem_or_eq_of_mem_set hx with hx|rfl
     ·exact yX.one x hx
     ·exact Zp
    ·by_cases Zn:i.toNat*sz+j=k
     ·subst Zn;have adD:i.toNat*sz+j<vs'.length:=by rw[yX.len];omega
      rw[uu adD]at hk;cases hk
      rw[show off+i.toNat*sz+j=off+(i.toNat*sz+j) by omega,Array.getElem?_setIfInBounds_self,if_pos (by rw[yX.len]at adD;omega)]
     ·rw[rK Zn]at hk;rw[Array.getElem?_setIfInBounds_ne ah];exact h5' k u hk
theorem rix{i:Int}{e:List Value}{c:Addr→Prop}(h:St w0 w L)[a:At L (rws sz s) es f](h0:0≤i)(he:es[i.toNat]?=some e)(hsz:0<sz)
  (hc:∀g o,(∀{w' L' es' f' e'},St w0 w' L'→[a':At L' (rws sz s) es' f']→es'[i.toNat]?=some e'→∀j v,e'[j]?=some v→w'.cell? ⟨g,o+j,none⟩=some v)→
   (∀{w':World} {L':List HP} {es':List (List Value)} {f':HP→List HP} {e':List Value} (h':St w0 w' L') (a':At L' (rws sz s) es' f') (he':es'[i.toNat]?=some e') (j:Nat) (v:Value) (c':aq),j<sz→v.oneCell'=true→
    (∀w'',St w0 w'' (f' (rws sz s (es'.set i.toNat (e'.set j v))))→c' w'')→bJ w' ⟨g,o+j,none⟩ v c')→c ⟨g,o,none⟩):cZ s i sz c:=by
 obtain⟨R,hp,h1,_⟩:=K6 a h;have hl:=(tE (sz:=sz) (s:=s) (es:=es) h).2 hsz;have hlt:=(kJ.1 he).1;refine ixG (sz:=sz) (s:=s) (vs:=es.flatten) h1 hsz h0 ah λg o hr hs=>hc g o ?_ ?_
 ·intro w' L' es' f' e' h' a' he' j v hv;obtain⟨R',hp',h1',_⟩:=K6 a' h';have hj:j<sz:=by rw[←hp' _ (q6 he')];exact(kJ.1 hv).1
  exact hr h1' .here j v hj (by rw[aa5 hp' he' hj];exact hv)
 ·intro w' L' es' f' e' h' a' he' j v c' hj Zp Ei;obtain⟨R',hp',h1',hb'⟩:=K6 a' h';refine hs h1' .here j v c' hj Zp λw'' h''=>Ei w'' (hb' (λx hx=> ?_) ?_)
  ·rcases List.mem_or_eq_of_mem_set hx with hx|rfl
   ·exact hp' x hx
   ·rw[List.length_set];exact hp' _ (q6 he')
  ·rw[←aa6 hp' he' hj];exact h''
theorem avb{e:List Value}{i j:Nat}{v:Value}(h:St w0 w L)[a:At L (rws sz s) es f](he:es[i]?=some e)(hv:e[j]?=some v):j<sz∧0<sz:=by
 have:=(tE (sz:=sz) (s:=s) (es:=es) h).1 e (q6 he);have:=(kJ.1 hv).1;omega
theorem rD{i:Int}{j:Nat}{e:List Value}{v:Value}{C:Value→Prop}{c:Addr→Prop}(h:St w0 w L)[a:At L (rws sz s) es f](h0:0≤i)(he:es[i.toNat]?=some e)(hv:e[j]?=some v)
  (hC:∀p,w.cell? (aY p j)=some v→c p):cZ s i sz c:=by
 have hj:=avb (sz:=sz) (s:=s) h he hv;refine rix h h0 he hj.2 λg o hr _=>hC _ ?_;rw[cY];exact hr h he j v hv
theorem rI{i:Int}{j:Nat}{e:List Value}{k:IntKind}{x:Int}{c:Int→Prop}(h:St w0 w L)[a:At L (rws sz s) es f](h0:0≤i)(he:es[i.toNat]?=some e)(hv:e[j]?=some (.int k x))(hc:c x):cZ s i sz λa=>aN k w (aY a j) c:=
 rD (C:=λ_=>True) h h0 he hv λp hp=>uH hp hc
theorem rI2{i:Int}{j:Nat}{e:List Value}{k:IntKind}{x:Int}{c:Addr→Int→Prop}(h:St w0 w L)[a:At L (rws sz s) es f](h0:0≤i)(he:es[i.toNat]?=some e)(hv:e[j]?=some (.int k x))(hc:∀p,c p x):cZ s i sz λa=>aN k w (aY a j) (c a):=
 rD (C:=λ_=>True) h h0 he hv λp hp=>uH hp (hc p)
theorem rB{i:Int}{j:Nat}{e:List Value}{x:Bool}{c:Bool→Prop}(h:St w0 w L)[a:At L (rws sz s) es f](h0:0≤i)(he:es[i.toNat]?=some e)(hv:e[j]?=some (.bool x))(hc:c x):cZ s i sz λa=>Jc w (aY a j) c:=
 rD (C:=λ_=>True) h h0 he hv λp hp=>aje hp hc
theorem rS{i:Int}{j:Nat}{e:List Value}{p:Option Addr}{m k:Nat}{c:Sl→Prop}(h:St w0 w L)[a:At L (rws sz s) es f](h0:0≤i)(he:es[i.toNat]?=some e)(hv:e[j]?=some (.slice p m k))(hc:c ⟨p,m,k⟩):cZ s i sz λa=>cC w (aY a j) c:=
 rD (C:=λ_=>True) h h0 he hv λq hp=>Il (s:=⟨p,m,k⟩) hp hc
theorem rSt{i:Int}{j:Nat}{e:List Value}{v:Value}{c:aq}(h:St w0 w L)[a:At L (rws sz s) es f](h0:0≤i)(he:es[i.toNat]?=some e)(hj:j<sz)(h1:v.oneCell'=true)
  (hc:∀w',St w0 w' (f (rws sz s (es.set i.toNat (e.set j v))))→c w'):cZ s i sz λa=>bJ w (aY a j) v c:=
 rix h h0 he ah λg o _ hs=>by rw[cY];exact hs h a he j v c hj h1 hc
theorem rW{i:Int}{e:List Value}{x:Array Value}{c:aq}(h:St w0 w L)[a:At L (rws sz s) es f](h0:0≤i)(he:es[i.toNat]?=some e)(hsz:0<sz)(hx:x.size=sz)(h1:∀v∈x,v.oneCell'=true)
  (hc:∀w',St w0 w' (f (rws sz s (es.set i.toNat x.toList)))→c w'):cZ s i sz λa=>dZ sz w a x c:=by
 refine rix h h0 he hsz λg o _ hs=>⟨hx,?_⟩;have key:∀(l:List Value) (w:World) (L:List HP) (es:List (List Value)) (f:HP→List HP) (h:St w0 w L) (a:At L (rws sz s) es f) (k:Nat) (e:List Value) (he:es[i.toNat]?=some e),k+l.length=sz→(∀v∈l,v.oneCell'=true)→
   (∀w',St w0 w' (f (rws sz s (es.set i.toNat (e.take k++l))))→c w')→Jk w ⟨g,o,none⟩ k l c:=by
  intro l;induction l with
  |nil=>
   intro w L es f h a k e he hk _ hc;refine hc w ?_;have hle:=(tE (sz:=sz) (s:=s) (es:=es) h).1 e (q6 he);simp only[List.length_nil]at hk;rw[List.append_nil,List.take_of_length_le ah];have:es.set i.toNat e=es:=by
    apply List.ext_getElem?;intro j;by_cases hj:i.toNat=j
    ·subst hj;rw[uu (kJ.1 he).1,he]
    ·rw[rK hj]
   rw[this];exact h.same a
  |cons v l ih=>
   intro w L es f h a k e he hk h1 hc;simp only[List.length_cons]at hk;unfold Jk;rw[cY];obtain⟨R,ho,hb⟩:=a.out;refine hs (ho h) .here he k v _ ah (h1 v bc) λw2 h2=> ?_;have uM:(es.set i.toNat (e.set k v))[i.toNat]?=some (e.set k v):=uu (kJ.1 he).1;refine ih w2 _ _ _ h2 .here (k+1) _ uM ah (λx hx=>h1 x (by simp[hx])) λw3 h3=>hc w3 (hb ?_)
   have hle:=(tE (sz:=sz) (s:=s) (es:=es) h).1 e (q6 he);have e1:(e.set k v).take (k+1)++l=e.take k++v::l:=by
    rw[List.take_add_one,uu ah,List.take_set_of_le ah];simp
   rw[List.set_set,e1]at h3;exact h3
 exact key x.toList w L es f h a 0 e he (by simpa using hx) (λv hv=>h1 v (by simpa using hv)) (by simpa using hc)
theorem rA{i:Int}{e:List Value}{c:Array Value→Prop}(h:St w0 w L)[a:At L (rws sz s) es f](h0:0≤i)(he:es[i.toNat]?=some e)(hsz:0<sz)(hc:c e.toArray):cZ s i sz λa=>bD sz w a c:=by
 refine rix h h0 he hsz λg o hr _=> ?_;refine GO ((tE (sz:=sz) (s:=s) (es:=es) h).1 e (q6 he)) (λj v hv=> ?_) hc;rw[cY];exact hr h he j v hv
theorem adL{P:Program}{t tx ty:TypeId}{b g:Nat}{z:Value}{e:List Value}{c:Sl→aq}{fr:HP→List HP}(h:St w0 w L)[a:At L (rws sz s) es f][a2:At L (ax g) e fr](ht:GM P t sz b z)(hk:adE P tx=true)
  (hl:e.length=sz) (hsz:0<sz) (h1:∀v∈e,v.oneCell'=true) (hn:es.length≤1000000) (hb:b≤1000000)
  (hc:∀s' w',St w0 w' (f (rws sz s' (es++[e])))→s'.n=es.length+1→c s' w'):qd P #[t,tx] ty [.slice s.a s.n s.c,.slice (some ⟨g,0,none⟩) 1 1] w c:=by
 obtain⟨R,hp,h2,hb'⟩:=adK a h;have hle:=(tE (sz:=sz) (s:=s) (es:=es) h).2 hsz;have hm:(s.n+1)*b≤1000001*1000000:=Nat.mul_le_mul ah hb;refine Sa (sz:=sz) (s:=s) (vs:=es.flatten) (x:=⟨some ⟨g,0,none⟩,1,1⟩) (ys:=e) h2 ht hk (GK.alA h ah) h1 (by simp only;omega) (by simp only;omega) λs' w' h3 hn'=>hc s' w' (hb' (λx hx=> ?_) ?_) (by simp only at hn';omega)
 ·rcases y7.1 hx with hx|hx
  ·exact hp x hx
  ·simp at hx;subst hx;exact hl
 ·rw[List.flatten_append];simpa using h3
theorem aBr{hi:Int}{c:Sl→Prop}(h:St w0 w L)[a:At L (rws sz s) es f](hsz:0<sz)(h1:0≤hi)(h2:hi≤es.length)
  (hc:∀d:Sl,d.n=hi.toNat→St w0 w (f (rws sz d (es.take hi.toNat)))→c d):Sw s sz 0 hi c:=by
 obtain⟨R,hp,h3,hb⟩:=adK a h;have hle:=(tE (sz:=sz) (s:=s) (es:=es) h).2 hsz;refine ajm (sz:=sz) (s:=s) (vs:=es.flatten) h3 (Int.le_refl _) h1 ah λd hd h4=>hc d (by simpa using hd) (hb (λe he=>hp e (List.mem_of_mem_take he)) ?_)
 simp only[Int.toNat_zero,Nat.zero_mul,List.drop_zero,Nat.sub_zero]at h4;rwa[aa7 _ hp]at h4
end
section
variable {w0 w:World} {L:List HP} {s:Sl} {vs:List Value} {f:HP→List HP}
theorem vD{i:Int}{v:Value}{c:Addr→Prop}(h:St w0 w L)[a:At L (bP 1 s) vs f](h0:0≤i)(hv:vs[i.toNat]?=some v)(hC:∀p,w.cell? p=some v→c p):cZ s i 1 c:=by
 have hl:=h.FU (sz:=1) (s:=s) (vs:=vs);have hlt:=(kJ.1 hv).1;refine Kf h ah h0 ah λg o _ hr _=>hC _ ?_;have:=hr h 0 v ah (by simpa using hv)
 simpa using this
theorem vI{i:Int}{k:IntKind}{x:Int}{c:Int→Prop}(h:St w0 w L)[a:At L (bP 1 s) vs f](h0:0≤i)(hv:vs[i.toNat]?=some (.int k x))(hc:c x):cZ s i 1 λa=>aN k w a c:=vD h h0 hv λp hp=>uH hp hc
theorem vP{i:Int}{x:Option Addr}{c:Option Addr→Prop}(h:St w0 w L)[a:At L (bP 1 s) vs f](h0:0≤i)(hv:vs[i.toNat]?=some (.pointer x))(hc:c x):cZ s i 1 λa=>aR w a c:=vD h h0 hv λp hp=>apB hp hc
theorem vV{i:Int}{x:Value}{c:Value→Prop}(h:St w0 w L)[a:At L (bP 1 s) vs f](h0:0≤i)(hv:vs[i.toNat]?=some x)(hc:c x):cZ s i 1 λa=>sX w a c:=vD h h0 hv λp hp=>ajh hp hc
theorem K7{P:Program}{t tx ty:TypeId}{b g:Nat}{z v:Value}{c:Sl→aq}{fr:HP→List HP}(h:St w0 w L)[a:At L (bP 1 s) vs f][a2:At L (ax g) [v] fr](ht:GM P t 1 b z)(hk:adE P tx=true)
  (h1:v.oneCell'=true) (hn:vs.length≤1000000) (hb:b≤1000000)
  (hc:∀s' w',St w0 w' (f (bP 1 s' (vs++[v])))→s'.n=vs.length+1→c s' w'):qd P #[t,tx] ty [.slice s.a s.n s.c,.slice (some ⟨g,0,none⟩) 1 1] w c:=by
 have hl:=h.FU (sz:=1) (s:=s) (vs:=vs);have hm:(s.n+1)*b≤1000001*1000000:=Nat.mul_le_mul ah hb;exact Sa (sz:=1) (s:=s) (vs:=vs) (x:=⟨some ⟨g,0,none⟩,1,1⟩) (ys:=[v]) h ht hk (GK.alA h bc) (by simpa using h1) (by simp only;omega) (by simp only;omega) λs' w' h3 hn'=>hc s' w' h3 (by simp only at hn';omega)
theorem alF{hi:Int}{c:Sl→Prop}(h:St w0 w L)[a:At L (bP 1 s) vs f](h1:0≤hi)(h2:hi≤vs.length)
  (hc:∀d:Sl,d.n=hi.toNat→St w0 w (f (bP 1 d (vs.take hi.toNat)))→c d):Sw s 1 0 hi c:=by
 have hl:=h.FU (sz:=1) (s:=s) (vs:=vs);refine ajm (sz:=1) (s:=s) (vs:=vs) h (Int.le_refl _) h1 ah λd hd h4=>hc d (by simpa using hd) ?_
 simpa using h4
theorem uN(h:St w0 w L)[a:At L (bP 1 s) vs f]:s.n=vs.length:=by
 have:=h.FU (sz:=1) (s:=s) (vs:=vs);omega
end
def lZ{α:Type}(X:α→HP)(l:List α):HP:=mG (l.map X)
section
variable {α:Type} {X:α→HP} {l:List α} {w0 w:World} {R:List HP}
theorem St.ayV{Y:HP}{A:List HP}(h:St w0 w (Y::(A++R))):St w0 w (Y::mG A::R):=by
 obtain⟨h1,F,⟨F1,F2,h2,h4,h5,e⟩,h3⟩:=h;exact⟨h1,F,⟨F1,F2,h2,y8.2 h4,h5,e⟩,h3⟩
theorem St.apT{Y:HP}{A:List HP}(h:St w0 w (Y::mG A::R)):St w0 w (Y::(A++R)):=by
 obtain⟨h1,F,⟨F1,F2,h2,h4,h5,e⟩,h3⟩:=h;exact⟨h1,F,⟨F1,F2,h2,y8.1 h4,h5,e⟩,h3⟩
theorem Iy{i:Nat}{a:α}(h:St w0 w (lZ X l::R))(e:l[i]?=some a):St w0 w (X a::lZ X (l.eraseIdx i)::R):=by
 have hlt:=(kJ.1 e).1;have h2:=(St.open h).front i (X:=X a) (by rw[sZ (by simpa using hlt),pz,e];rfl)
 rw[List.eraseIdx_append_of_lt_length (by simpa using hlt)]at h2
 refine St.ayV ?_;have e2:(l.map X).eraseIdx i=(l.eraseIdx i).map X:=by rw[List.eraseIdx_eq_take_drop_succ,List.eraseIdx_eq_take_drop_succ];simp
 rwa[e2]at h2
theorem ZV{i:Nat}{b:α}(h:St w0 w (X b::lZ X (l.eraseIdx i)::R))(hi:i<l.length):St w0 w (lZ X (l.set i b)::R):=by
 have h2:=St.apT h;refine St.shut (h2.perm ?_);have e1:l.eraseIdx i=l.take i++l.drop (i+1):=List.eraseIdx_eq_take_drop_succ ..;have e2:l.set i b=l.take i++b::l.drop (i+1):=List.set_eq_take_append_cons_drop .. |>.trans (by rw[if_pos hi])
 rw[e1,e2];simp only[List.map_append,List.map_cons,List.append_assoc,List.cons_append];exact List.perm_middle.symm
theorem VR{b:α}(h:St w0 w (X b::lZ X l::R)):St w0 w (lZ X (l++[b])::R):=by
 refine St.shut ((St.apT h).perm ?_);simp only[List.map_append,List.map_cons,List.map_nil,List.append_assoc,List.cons_append,List.nil_append];exact List.perm_middle.symm
theorem VS(h:St w0 w R):St w0 w (lZ X []::R):=St.shut (A:=[]) h
end
theorem St.under{w0 w:World}{Y:HP}{A B:List HP}(hAB:∀{F w},uK A F w→uK B F w)(h:St w0 w (Y::A)):St w0 w (Y::B):=by
 obtain⟨h1,F,⟨F1,F2,h2,h4,h5,e⟩,h3⟩:=h;exact⟨h1,F,⟨F1,F2,h2,hAB h4,h5,e⟩,h3⟩
theorem St.apU{w0 w:World}{A B:List HP}(hAB:∀{F w},uK A F w→uK B F w)(h:St w0 w A):St w0 w B:=by
 obtain⟨h1,F,h2,h3⟩:=h;exact⟨h1,F,hAB h2,h3⟩
theorem Qa{G S:Type}{f:(S→aq)→S→aq}(I:G→S→aq)(μ:G→Nat){g:G}{s:S}{w:World}(h0:I g s w)
  (h:∀g s w,I g s w→∀C:S→aq,(∀g' s' w',I g' s' w'→μ g'<μ g→C s' w')→f C s w):kH f s w:=by
 have key:∀n g s w,μ g≤n→I g s w→jP f (n+1) s w:=by
  intro n;induction n with
  |zero=>intro g s w hn hI;exact h g s w hI _ λg' s' w' _ hlt=>by omega
  |succ n ih=>intro g s w hn hI;exact h g s w hI _ λg' s' w' hI' hlt=>ih g' s' w' ah hI'
 exact⟨_,key _ g s w (iv _) h0⟩
end Go.Ev
namespace Go.Ev
open Go
section
variable {P:Program}
def exN:Ex→Bool| .normal=>true|_=>false
theorem Qb{bX:eb}{mask:Nat}{ro:Option Nat}{n0:Nat}{q:Uk}(hm:P.follows .mixedOrders=true)(ho:td P bX q){c:Code}:∀(pre:List AC) (e:Env) (w:World) (a:Act) (k:Ex→Env→aq) (Q:Exit→Act→aq),
  (∀ch a' w',a'.defers=a.defers→q ch w'→Q (.panic ch) a' w')→Sub e a→(pre.all λx=>x.fits a.tmps.size)=true→Vt P bX mask pre e w k→
  (∀x e' w' a',exN x=false→k x e' w'→Sub e' a'→a'.defers=a.defers→Q (apv x) a' w')→
  (∀e' w' a',k .normal e' w'→Sub e' a'→a'.tmps.size=a.tmps.size→a'.defers=a.defers→c.wpIn (uE ro) n0 P Q a' w')→(spine pre c).wpIn (uE ro) n0 P Q a w
 |[],e,w,a,k,Q,hq,hs,_,h,_,hN=>hN e w a h hs rfl rfl
 |x::pre,e,w,a,k,Q,hq,hs,hf,h,hX,hN=>by
  unfold Vt at h;simp only[List.all_cons,iZ]at hf;unfold spine;refine wpIn_seq (q5 hm ho x e w a _ _ (by exact λch a' w' hd h=>hq ch a' w' hd.2.1 h) hs hf.1 h λz e' w' a' hk hs' hkp=> ?_)
  cases z with
  |normal=>
   exact Qb hm ho pre e' w' a' k Q (λch a2 w2 hd h=>hq ch a2 w2 (hd.trans hkp.2.1) h) hs' (by rw[hkp.1];exact hf.2) hk
    (λz e2 w2 a2 hz h1 h2 h3=>hX z e2 w2 a2 hz h1 h2 (h3.trans hkp.2.1)) λe2 w2 a2 h1 h2 h3 h4=>hN e2 w2 a2 h1 h2 (h3.trans hkp.1) (h4.trans hkp.2.1)
  |exit id=>exact hX (.exit id) e' w' a' rfl hk hs' hkp.2.1
  |ret=>exact hX .ret e' w' a' rfl hk hs' hkp.2.1
theorem VT{fn:Func}{e:Env}{w:World}{a:Act}{tT:List K}{c:KT tT→aq}(hs:Sub e a)(h:Jp P fn.results.toList e w λl=>qJ tT l λx=>c x w):
  ∃x,(results fn a.tmps).run P w= .ok (eV (dB tT x)) w∧c x w:=by
 obtain⟨l,hc,hrun⟩:=R8 hs h;obtain⟨y,rfl,Ei⟩:=y5 hc;refine⟨y,?_,Ei⟩;have he:results fn a.tmps=(do
   let vs←fn.results.mapM (P1 a);pure (if h:vs.size=1 then vs[0]else .tuple vs)):=by
  have hfun:(λx=>(match x with| .tmp t=>pure (a.tmps.getD t undef)| .cell p t=>do loadVar t (←asAddr (a.tmps.getD p undef)):Sem Value))=P1 a:=by
   funext r;cases r<;>rfl
  unfold results;rw[←hfun];rfl
 rw[he,Array.mapM_eq_mapM_toList];simp only[cL,Sem.run_map,hrun,cF,cK];rw[aaF]
structure avc (mk df:Oper) (d:Nat) (g:FuncId) (aai:List Operand):Prop where
 mko:mk.op= .makeFunc (.func g) #[] aai.toArray
 mkd:mk.dst=some d
 mkg:mk.guard=none
 dfo:df.op= .defer {callee:= .value (.tmp d),args:=#[],argTypes:=#[]}
 dfd:df.dst=none
 dfg:df.guard=none
def DR(P:Program)(g:FuncId)(dR:List Value→World→(aq)→Prop):Prop:=
 ∀l w k,dR l w k→(∃fn,P.funcs[g]?=some fn∧fn.body.isSome=true∧(fn.name== "runtime.NumGoroutine")=false)∧CallsD P g l.toArray .returning w fun e u w'=>(∃v,e= .returned v)∧u= .returning∧k w'
def DP(P:Program)(g:FuncId)(dP:List Value→Value→World→(aq)→Prop):Prop:=
 ∀l v w k,dP l v w k→(∃fn,P.funcs[g]?=some fn∧fn.body.isSome=true∧(fn.name== "runtime.NumGoroutine")=false)∧CallsD P g l.toArray (.panicking [{v:=v,recovered:=false}]) w fun e u w'=>(∃v,e= .returned v)∧settle u= .returning∧k w'
theorem apV{f:FuncId}{fn:Func}{mask:Nat}{bX:eb}{alj:(Value→aq)→eb}{dR:List Value→World→(aq)→Prop}{dP:List Value→Value→World→(aq)→Prop}
  {pre:List AC} {rid d:Nat} {g:FuncId} {aai:List Operand} {mk df:Oper} {post:AC} (hm:P.follows .mixedOrders=true) (hf:P.funcs[f]?=some fn)
  (hbody:fn.body=some (spine pre (.seq (.region rid #[mk,df] false) post.code))) (adM:avc mk df d g aai) (hname:(fn.name== "runtime.NumGoroutine")=false)
  (hfit:((pre.all fun x=>x.fits fn.ntmps)&&post.fits fn.ntmps&&Nat.blt d fn.ntmps)=true)
  (ho:td P bX PV) (hq:∀q,td P (alj q) (alv q)) (hR:DR P g dR) (hP:DP P g dP) (qc tT:List K) (hle:Nat.ble qc.length fn.ntmps=true)
  (F:KT qc→World→(KT tT→aq)→Prop) (hl:∀x w c,ai1 P bX alj dR dP mask pre d g aai post fn tT (dB qc x) w c=F x w c):
  uG P f fun args w c=>qJ qc args fun x=>F x w fun r w=>c (eV (dB tT r)) w:=by
 refine⟨⟨fn,hf,by rw[hbody];rfl,hname⟩,fun args w c hd=> ?_⟩
 obtain⟨x,hx,hF⟩:=y5 hd;have hlen:(dB qc x).length=qc.length:=by
  have:∀(ks:List K) (x:KT ks),(dB ks x).length=ks.length:=by
   intro ks;induction ks with
   |nil=>intro x;rfl
   |cons k r ih=>
    intro x;cases r with
    |nil=>rfl
    |cons y r=>show(dB (y::r) x.2).length+1=_;rw[ih];rfl
  exact this qc x
 rw[←hl]at hF;unfold ai1 at hF;have hle:=Nat.le_of_ble_eq_true hle;have hsz:args.size≤fn.ntmps:=by
  have:args.toList.length=qc.length:=by rw[hx,hlen]
  rw[Array.length_toList]at this;omega
 simp only[Bool.and_eq_true]at hfit;obtain⟨⟨ayX,ayY⟩,ayZ⟩:=hfit;have aBt:d<fn.ntmps:=by simpa[Nat.blt_eq]using ayZ
 refine calls_of_wp_defers hf hbody ?_;have alC:(args++Array.replicate (fn.ntmps - args.size) undef).size=fn.ntmps:=by simp;omega
 have hsub:Sub (CW 0 (dB qc x)) {tmps:=args++Array.replicate (fn.ntmps - args.size) undef,defers:=[]}:=by
  refine Ik _ 0 _ fun i v hv=> ?_;rw[←hx]at hv;have FP:args[i]?=some v:=by simpa using hv
  have hi:i<args.size:=(Array.getElem?_eq_some_iff.1 FP).1;simp only[Nat.zero_add];rw[Array.getElem?_append_left hi];exact FP
 refine wpIn_wide.1 (Qb (ro:=none) (n0:=0) (mask:=mask) hm ho pre _ w _ _ _ (fun _ _ _ _ h=>h.elim) hsub (by rw[alC];exact ayX) hF (fun z e' w' a' hz hk hs' oD=> ?_) fun e' w' a' hk hs' aBu oD=> ?_)
 ·have VH:a'.defers=[]:=oD;have fin:(Jp P fn.results.toList e' w' fun l=>qJ tT l fun x=>c (eV (dB tT x)) w')→Leaves P fn a'.tmps (fun e w'=> ∃v,e= .returned v∧c v w') a'.defers .returning w':=by
   intro hr;obtain⟨y,hrun,hc⟩:=VT (c:=fun x w=>c (eV (dB tT x)) w) hs' hr;rw[VH];exact⟨_,hrun,_,rfl,hc⟩
  cases z with
  |normal=>cases hz
  |ret=>exact fin hk
  |exit id=>exact hk.elim
 ·have VH:a'.defers=[]:=oD;have axU:a'.tmps.size=fn.ntmps:=by rw[aBu,alC]
  dsimp only at hk;split at hk
  ·rename_i l ay0;rw[kQ]at hk;have pB:=tu (pZ hs') ay0;refine wpIn_seq (wpIn_region_list ?_);unfold wpListIn;rw[if_pos (Am adM.mkg _)];have adN:aai.toArray.map a'.eval=l.toArray:=pB;have hv:(execOp a'.eval mk).run P w'= .ok (.value (.func (.func g) #[] l.toArray)) w':=by
    have h0:(#[]:Array Operand).map a'.eval=#[]:=by simp
    simp only[execOp,adM.mko,Instr.makeFunc,adN,h0,Sem.run_bind,Sem.run_pure,Result.andThen_ok]
   refine jy hv ?_;have oD:d<a'.tmps.size:=by rw[axU];exact aBt
   have aaX:Sub (e'.put d (.func (.func g) #[] l.toArray)) (a'.put mk.dst (.func (.func g) #[] l.toArray)):=by
    rw[adM.mkd];exact y4 (d:=some d) (v:= .func (.func g) #[] l.toArray) hs' (fun x hx=>by cases hx;exact oD)
   have hev:(a'.put mk.dst (.func (.func g) #[] l.toArray)).eval (.tmp d)= .func (.func g) #[] l.toArray:=by
    refine pZ aaX (.tmp d) _ ?_;simp[Env.op,Env.put,Env.find]
   generalize ha2:a'.put mk.dst (.func (.func g) #[] l.toArray)=a2 at*
   have hd2:a2.defers=[]:=by rw[←ha2,put_defers];exact VH
   have aBw:a2.tmps.size=fn.ntmps:=by rw[←ha2,E2];exact axU
   unfold wpListIn;rw[if_pos (Am adM.dfg _)];refine⟨fun f _=>Js none f,?_⟩;have hrun:(df.semAt (uE none).round a2.eval).run P w'= .ok (.defer {target:= .fn (.func g) l.toArray,args:=#[]}) w':=by
    show(execOp a2.eval df).run P w'=_;have h0:(#[]:Array Operand).map a2.eval=#[]:=by simp
    simp only[execOp,adM.dfo,resolve,h0,hev,Deferred.ofValue,Sem.run_bind,Sem.run_pure,Result.andThen_ok];rfl
   rw[hrun];simp only[Oper.uponIn,adM.dfd,Act.put,hd2];unfold wpListIn;show post.code.wpIn _ _ _ _ _ _;have res:∀{e3 w3} {a3:Act},Sub e3 a3→(Jp P fn.results.toList e3 w3 fun l=>qJ tT l fun x=>c (eV (dB tT x)) w3)→Leaves P fn a3.tmps (fun e w'=> ∃v,e= .returned v∧c v w') [] .returning w3:=by
    intro e3 w3 a3 Uu hr;obtain⟨y,hrun,hc⟩:=VT (c:=fun x w=>c (eV (dB tT x)) w) Uu hr;exact⟨_,hrun,_,rfl,hc⟩
   have hinv:∀w3,(∃fn,P.funcs[g]?=some fn∧fn.body.isSome=true∧(fn.name== "runtime.NumGoroutine")=false)→(invoke (.fn (.func g) l.toArray) #[]).run P w3= .ok (.enter g l.toArray) w3:=by
    intro w3 hg;have:(#[]:Array Value)++l.toArray=l.toArray:=by simp
    simp only[invoke,this];exact FD hg
   refine q5 hm (hq _) post _ w' {tmps:=a2.tmps,defers:=[{target:= .fn (.func g) l.toArray,args:=#[]}]} _ _ (fun ch a3 w3 hk3 hp=> ?_) aaX (by rw[aBw];exact ayY) hk fun z e3 w3 a3 hk3 Uu aBx=> ?_
   ·obtain⟨v,rfl,hdp⟩:=hp;obtain⟨hg,Xw⟩:=hP _ _ _ _ hdp;show Leaves P fn a3.tmps _ a3.defers (.panicking [{v:=v,recovered:=false}]) w3;rw[hk3.2.1];refine⟨by simp,.func g,l.toArray,g,l.toArray,rfl,hinv _ hg,Xw.mono fun e u w4 he=> ?_⟩
    obtain⟨⟨v',rfl⟩,hu,hr⟩:=he;dsimp only;rw[hu];have ay1:Sub (e'.put d (.func (.func g) #[] l.toArray)) {tmps:=a2.tmps,defers:=[{target:= .fn (.func g) l.toArray,args:=#[]}]}:=aaX;exact res (aeX ay1 hk3) hr
   ·have fin:(dR l w3 fun w=>Jp P fn.results.toList e3 w fun l=>qJ tT l fun x=>c (eV (dB tT x)) w)→Leaves P fn a3.tmps (fun e w'=> ∃v,e= .returned v∧c v w') a3.defers .returning w3:=by
     intro hdr;obtain⟨hg,Xw⟩:=hR _ _ _ hdr;rw[aBx.2.1];refine⟨by simp,.func g,l.toArray,g,l.toArray,rfl,hinv _ hg,Xw.mono fun e u w4 he=> ?_⟩
     obtain⟨⟨v',rfl⟩,hu,hr⟩:=he;dsimp only;rw[hu];exact res Uu hr
    cases z with
    |normal=>exact fin hk3
    |ret=>exact fin hk3
    |exit id=>exact hk3.elim
  ·exact hk.elim
theorem avd{g:FuncId}{fn:Func}{mask:Nat}{bX:eb}{c:AC}{n:Nat}(hm:P.follows .mixedOrders=true)(hf:P.funcs[g]?=some fn)(hb:fn.body=some c.code)(hname:(fn.name== "runtime.NumGoroutine")=false)
  (hres:fn.results=#[]) (hfit:c.fits fn.ntmps=true) (hle:Nat.ble n fn.ntmps=true) (ho:td P bX PV):
  DR P g fun l w k=>l.length=n∧ai2 P bX mask c l w k:=fun l w k ⟨hl,h⟩=>by
 refine⟨⟨fn,hf,by rw[hb];rfl,hname⟩,?_⟩
 have hle:=Nat.le_of_ble_eq_true hle;have hsz:l.toArray.size≤fn.ntmps:=by simp;omega
 refine(callsD_of_wp (R:=fun e w'=>(∃v,e= .returned v)∧k w') hf hb ?_).mono fun e u w' ⟨h1,h2,h3⟩=>⟨h2,h1,h3⟩;refine wpIn_wide.1 (q5 (ro:=none) (n0:=0) (mask:=mask) hm ho c (CW 0 l) w _ _ _ (fun _ _ _ _ h=>h.elim) ?_ ?_ h fun z e' w' a' hk hs hkp=> ?_)
 ·refine Ik _ 0 _ fun i v hv=> ?_;have hi:i<l.length:=(List.getElem?_eq_some_iff.1 hv).1;simp only[Nat.zero_add];rw[Array.getElem?_append_left (by simpa using hi)]
  simpa using hv
 ·have:(l.toArray++Array.replicate (fn.ntmps - l.toArray.size) undef).size=fn.ntmps:=by simp;omega
  rw[this];exact hfit
 ·have hr:(results fn a'.tmps).run P w'= .ok (.tuple #[]) w':=by
   unfold results;rw[hres];simp
  cases z with
  |normal=>exact⟨hkp.2.1,_,hr,⟨_,rfl⟩,hk⟩
  |ret=>exact⟨hkp.2.1,_,hr,⟨_,rfl⟩,hk⟩
  |exit id=>exact hk.elim
theorem ave{g:FuncId}{fn:Func}{mask:Nat}{h:sv}{bX:eb}(hm:P.follows .mixedOrders=true)(hf:P.funcs[g]?=some fn)(ho:td P bX PV)(qc:List K)
  (hok:Vs h fn qc.length=true) (hres:fn.results=#[]) (F:KT qc→World→(Unit→aq)→Prop) (hl:∀x w c,N3 P bX mask h fn [] (dB qc x) w c=F x w c):
  DR P g λl w k=>qJ qc l λx=>F x w λ_ w=>k w:=by
 intro l w k hd;obtain⟨x,hx,hF⟩:=y5 hd;have hF:N3 P bX mask h fn [] (dB qc x) w (λ_ w=>k w):=by rw[hl x w λ_ w=>k w];exact hF
 unfold Vs at hok;unfold N3 at hF;cases hb:fn.body with
 |none=>rw[hb]at hok;cases hok
 |some b=>
  rw[hb]at hok hF;simp only[iZ,Bool.not_eq_true']at hok;have hlen:∀(ks:List K) (x:KT ks),(dB ks x).length=ks.length:=by
   intro ks;induction ks with
   |nil=>intro x;rfl
   |cons y r ih=>cases r with
    |nil=>intro x;rfl
    |cons z r=>intro x;exact congrArg (·+1) (ih x.2)
  refine avd (mask:=mask) (c:=(m6 h b 0).1) (n:=qc.length) hm hf (by rw[hb,tC]) hok.2 hres hok.1.1 hok.1.2 ho l w k ⟨by rw[hx,hlen],?_⟩
  rw[hx];have e:ai2 P bX mask (m6 h b 0).1 (dB qc x) w k=ev P bX mask (m6 h b 0).1 (CW 0 (dB qc x)) w (ali P fn.results.toList λl w=>qJ [] l fun(_:Unit)=>k w):=by
   unfold ai2;congr 1;funext x e w;rw[hres];cases x<;>rfl
  rw[e];exact hF
end
end Go.Ev
namespace Go.Proofs.YthidhjhkmjjckaaGreatDoor
open Go Go.Ev Tryz
theorem mixed:Tryz.prog.follows .mixedOrders=true:=by kernel_rfl
abbrev Kh:Nat:=5
abbrev Ep:Nat:=20
abbrev JA:Nat:=22
abbrev FW:Nat:=23
abbrev Mz:Nat:=26
abbrev Db:Nat:=28
abbrev He:Nat:=30
abbrev B6:Nat:=31
abbrev FX:Nat:=32
abbrev FY:Nat:=33
abbrev Hf:Nat:=34
abbrev Iz:Nat:=35
abbrev Er:Nat:=36
abbrev As:Nat:=37
abbrev Dc:Nat:=38
abbrev Es:Nat:=43
abbrev zc:Nat:=46
abbrev Hg:Nat:=57
abbrev Hh:Nat:=58
abbrev JB:Nat:=59
abbrev Hi:Nat:=60
abbrev AQ:Nat:=61
abbrev xa:Nat:=62
abbrev sO:Nat:=63
abbrev GQ:Nat:=65
abbrev MA:Nat:=66
abbrev Uv:Nat:=67
abbrev MB:Nat:=68
abbrev Qc:Nat:=69
abbrev m3:Nat:=70
abbrev lG:Nat:=71
abbrev nK:Nat:=72
abbrev xC:Nat:=73
abbrev K8:Nat:=74
abbrev Et:Nat:=75
abbrev vE:Nat:=78
abbrev tF:Nat:=79
abbrev Qd:Nat:=81
abbrev Ki:Nat:=91
abbrev Dd:Nat:=97
abbrev B7:Nat:=98
abbrev De:Nat:=99
abbrev mV:Nat:=100
abbrev tv:Nat:=101
abbrev oa:Nat:=102
abbrev sP:Nat:=103
abbrev JC:Nat:=108
abbrev VU:Nat:=109
abbrev YS:Nat:=110
abbrev VV:Nat:=111
abbrev VW:Nat:=112
abbrev VX:Nat:=113
abbrev Hj:Nat:=114
abbrev fZ:Nat:=115
abbrev vF:Nat:=116
abbrev B8:Nat:=117
abbrev AR:Nat:=118
abbrev AT:Nat:=119
abbrev Au:Nat:=120
abbrev BR:Nat:=121
abbrev Qe:Nat:=122
abbrev JD:Nat:=123
abbrev pH:Nat:=124
abbrev ze:Nat:=125
abbrev Eu:Nat:=126
abbrev aa8:Nat:=127
abbrev uy:Nat:=128
abbrev qB:Nat:=129
abbrev kK:Nat:=130
abbrev yL:Nat:=131
abbrev qC:Nat:=132
abbrev uO:Nat:=133
abbrev Hl:Nat:=134
abbrev TI:Nat:=135
abbrev FZ:Nat:=139
abbrev Ew:Nat:=151
abbrev Df:Nat:=152
abbrev bf:Nat:=153
abbrev AU:Nat:=154
abbrev jd:Nat:=155
abbrev jg:Nat:=156
abbrev jh:Nat:=159
abbrev qn:Nat:=160
abbrev lI:Nat:=161
abbrev Dg:Nat:=162
abbrev uz:Nat:=163
abbrev mK:Nat:=164
abbrev vG:Nat:=165
abbrev pI:Nat:=166
abbrev oY:Nat:=167
abbrev qg:Nat:=168
abbrev vH:Nat:=169
abbrev kz:Nat:=170
abbrev oE:Nat:=171
abbrev qo:Nat:=172
abbrev TJ:Nat:=173
abbrev Ob:Nat:=174
abbrev j6:Nat:=175
abbrev nL:Nat:=176
abbrev Bv:Nat:=177
abbrev GR:Nat:=178
abbrev Kj:Nat:=179
abbrev oh:Nat:=180
abbrev qa:Nat:=181
abbrev ol:Nat:=182
abbrev nM:Nat:=183
abbrev yM:Nat:=184
abbrev zf:Nat:=185
abbrev qD:Nat:=186
abbrev tG:Nat:=187
abbrev iQ:Nat:=188
abbrev AV:Nat:=189
abbrev F0:Nat:=190
abbrev Ey:Nat:=191
abbrev Ez:Nat:=192
abbrev EA:Nat:=193
abbrev fF:Nat:=199
abbrev m9:Nat:=200
abbrev ji:Nat:=209
abbrev Bw:Nat:=210
abbrev Ho:Nat:=211
abbrev kT:Nat:=212
abbrev om:Nat:=213
abbrev lJ:Nat:=214
abbrev lK:Nat:=215
abbrev Dh:Nat:=216
abbrev lM:Nat:=217
abbrev my:Nat:=218
abbrev vJ:Nat:=219
abbrev nN:Nat:=220
abbrev rL:Nat:=221
abbrev K9:Nat:=222
abbrev VY:Nat:=223
abbrev B9:Nat:=224
abbrev GS:Nat:=225
abbrev rZ:Nat:=226
abbrev r0:Nat:=227
abbrev ot:Nat:=228
abbrev ou:Nat:=229
abbrev ov:Nat:=230
abbrev ow:Nat:=231
abbrev ox:Nat:=232
abbrev oy:Nat:=233
abbrev MC:Nat:=234
abbrev Di:Nat:=235
abbrev dI:Nat:=240
abbrev rM:Nat:=241
abbrev Dj:Nat:=242
abbrev mL:Nat:=243
abbrev La:Nat:=244
abbrev TK:Nat:=245
abbrev IA:Nat:=246
abbrev nO:Nat:=247
abbrev uP:Nat:=248
abbrev uQ:Nat:=249
abbrev JE:Nat:=250
abbrev JF:Nat:=251
abbrev Ca:Nat:=252
abbrev ng:Nat:=253
abbrev qM:Nat:=254
abbrev q8:Nat:=255
abbrev rN:Nat:=263
abbrev Av:Nat:=264
abbrev qp:Nat:=265
abbrev sQ:Nat:=266
abbrev oZ:Nat:=267
abbrev j1:Nat:=268
abbrev gu:Nat:=269
abbrev zg:Nat:=270
abbrev rO:Nat:=271
abbrev uR:Nat:=272
abbrev E8:Nat:=273
abbrev uA:Nat:=274
abbrev JG:Nat:=275
abbrev oz:Nat:=276
abbrev rP:Nat:=277
abbrev yN:Nat:=282
abbrev sy:Nat:=283
abbrev IB:Nat:=284
abbrev kU:Nat:=285
abbrev tH:Nat:=286
abbrev kL:Nat:=287
abbrev zh:Nat:=288
abbrev bV:Nat:=289
abbrev pJ:Nat:=290
abbrev o3:Nat:=291
abbrev qq:Nat:=292
abbrev Kk:Nat:=293
abbrev r9:Nat:=294
abbrev qN:Nat:=295
abbrev YT:Nat:=296
abbrev JH:Nat:=297
abbrev qO:Nat:=298
abbrev qP:Nat:=302
abbrev qb:Nat:=303
abbrev Cb:Nat:=304
abbrev vK:Nat:=305
abbrev jM:Nat:=306
abbrev lA:Nat:=307
abbrev jm:Nat:=308
abbrev lB:Nat:=309
abbrev kM:Nat:=310
abbrev j7:Nat:=311
abbrev lC:Nat:=312
abbrev iR:Nat:=313
abbrev o4:Nat:=314
abbrev GU:Nat:=315
abbrev q9:Nat:=316
abbrev JI:Nat:=317
abbrev qQ:Nat:=318
abbrev rQ:Nat:=323
abbrev AW:Nat:=324
abbrev F5:Nat:=325
abbrev nX:Nat:=326
abbrev tI:Nat:=327
abbrev oF:Nat:=328
abbrev zi:Nat:=329
abbrev gE:Nat:=330
abbrev mM:Nat:=331
abbrev vL:Nat:=332
abbrev mN:Nat:=333
abbrev o5:Nat:=334
abbrev lN:Nat:=335
abbrev lD:Nat:=336
abbrev sR:Nat:=337
abbrev qt:Nat:=338
abbrev tJ:Nat:=339
abbrev l5:Nat:=340
abbrev sA:Nat:=341
abbrev F6:Nat:=343
abbrev nY:Nat:=344
abbrev fG:Nat:=345
abbrev xE:Nat:=346
abbrev j8:Nat:=347
abbrev kV:Nat:=348
abbrev Hp:Nat:=349
abbrev lO:Nat:=350
abbrev eJ:Nat:=351
abbrev oG:Nat:=352
abbrev qR:Nat:=353
abbrev mO:Nat:=354
abbrev IC:Nat:=355
abbrev ni:Nat:=356
abbrev pK:Nat:=357
abbrev F7:Nat:=359
abbrev nj:Nat:=360
abbrev lP:Nat:=361
abbrev kW:Nat:=362
abbrev By:Nat:=363
abbrev qh:Nat:=364
abbrev oH:Nat:=365
abbrev mP:Nat:=366
abbrev Dk:Nat:=367
abbrev o6:Nat:=368
abbrev j9:Nat:=369
abbrev o7:Nat:=370
abbrev lQ:Nat:=371
abbrev Dl:Nat:=372
abbrev oA:Nat:=373
abbrev Bz:Nat:=374
abbrev nk:Nat:=375
abbrev oI:Nat:=376
abbrev mQ:Nat:=377
abbrev ID:Nat:=378
abbrev jo:Nat:=379
abbrev vM:Nat:=380
abbrev vN:Nat:=381
abbrev lR:Nat:=382
abbrev F8:Nat:=383
abbrev o8:Nat:=384
abbrev Dm:Nat:=385
abbrev Hq:Nat:=386
abbrev o9:Nat:=387
abbrev uS:Nat:=388
abbrev xF:Nat:=389
abbrev kA:Nat:=390
abbrev EB:Nat:=391
abbrev mR:Nat:=392
abbrev nl:Nat:=393
abbrev EC:Nat:=394
abbrev uT:Nat:=395
abbrev uU:Nat:=396
abbrev TM:Nat:=397
abbrev fI:Nat:=420
abbrev k7:Nat:=421
abbrev dx:Nat:=422
abbrev iC:Nat:=423
abbrev rf:Nat:=424
abbrev Iv(n:Int):Value:= .int .i64 n
abbrev SA:Array Value:=#[Iv 0,Iv 0,Iv 0]
abbrev zr4:Array Value:=#[Iv 0,Iv 0,Iv 0,Iv 0]
abbrev Jd:Array Value:=#[Iv 0,Iv 0,Iv 0,Iv 0,Iv 0]
abbrev zr6:Array Value:=#[Iv 0,Iv 0,Iv 0,Iv 0,Iv 0,Iv 0]
abbrev Dn:Array Value:=#[Iv 0,Iv 0,Iv 0,Iv 0,Iv 0,Iv 0,Iv 0,Iv 0,Iv 0,Iv 0,Iv 0,Iv 0,Iv 0,Iv 0,Iv 0,Iv 0,Iv 0,Iv 0,Iv 0]
abbrev axV:Array Value:=#[Iv 0,Iv 0,Iv 0,Iv 0,Iv 0,Iv 0,Iv 0,Iv 0,Iv 0,Iv 0,Iv 0,Iv 0,Iv 0,Iv 0,Iv 0,Iv 0,Iv 0,Iv 0,Iv 0,Iv 0,Iv 0,Iv 0,Iv 0,Iv 0,Iv 0,Iv 0,Iv 0,Iv 0,Iv 0,Iv 0,Iv 0,Iv 0,Iv 0,Iv 0,Iv 0,Iv 0,Iv 0,Iv 0,Iv 0,Iv 0,Iv 0,Iv 0,Iv 0,Iv 0,Iv 0,Iv 0,Iv 0,Iv 0,Iv 0,Iv 0,Iv 0,Iv 0,Iv 0,Iv 0,Iv 0,Iv 0,Iv 0,Iv 0,Iv 0,Iv 0,Iv 0,Iv 0,Iv 0,Iv 0,Iv 0,Iv 0,Iv 0,Iv 0]
abbrev DD(A R:List K)(f:KT A→World→(KT R→aq)→Prop):bn:=λargs w c=>qJ A args λx=>f x w λr w=>c (eV (dB R r)) w
abbrev E(A R:List K)(ds:List (Nat×bn))(m:Nat)(h:sv)(fn:Func)(x:KT A)(w:World)(k:KT R→aq):Prop:=N3 Tryz.prog (kw ds) m h fn R (dB A x) w k
abbrev SS(n:Nat)(d:bn):Prop:=uG Tryz.prog n d
inductive AS:List (Nat×bn)→Prop
 |z:AS []
 |c {n:Nat} {d:bn} {l:List (Nat×bn)}:SS n d→AS l→AS ((n,d)::l)
theorem AS.all{l:List (Nat×bn)}(h:AS l):E3 Tryz.prog l:=by
 induction h with
 |z=>trivial
 |c h _ ih=>exact⟨h,ih⟩
theorem so{A R:List K}{m:Nat}{h:sv}{ds:List (Nat×bn)}{n:Nat}{fn:Func}{f:KT A→World→(KT R→aq)→Prop}(hf:Tryz.prog.funcs[n]?=some fn)(hs:AS ds)(e:E A R ds m h fn=f)(hok:Vs h fn A.length=true:=by kernel_rfl):SS n (DD A R f):=
 adx mixed hf hs.all A R hok f λx w k=>congrFun (congrFun (congrFun e x) w) k
theorem sl{A R:List K}{n:Nat}{fn:Func}{f:KT A→World→(KT R→aq)→Prop}(m:Nat)(h:sv)(hf:Tryz.prog.funcs[n]?=some fn)(e:E A R [] m h fn=f:=by kernel_rfl)(hok:Vs h fn A.length=true:=by kernel_rfl):SS n (DD A R f):=
 so hf .z e hok
abbrev T0:=Option Addr→World→(Unit→aq)→Prop
abbrev bY(f:T0):bn:=DD [.p] [] λx=>f x
abbrev T1:=Option Addr→Int→World→(Bool→aq)→Prop
abbrev qu(f:T1):bn:=DD [.p,.i .i64] [.b] λx=>f x.1 x.2
abbrev T2:=Array Value→World→(Bool→aq)→Prop
abbrev Je(f:T2):bn:=DD [.ag] [.b] λx=>f x
abbrev T3:=Option Addr→World→(Int→aq)→Prop
abbrev E9(f:T3):bn:=DD [.p] [.i .i64] λx=>f x
abbrev T4:=Option Addr→Option Addr→Int→World→((Int×Int)→aq)→Prop
abbrev lE(f:T4):bn:=DD [.p,.p,.i .i64] [.i .i64,.i .i64] λx=>f x.1 x.2.1 x.2.2
abbrev T5:=Option Addr→World→(Sl→aq)→Prop
abbrev dc5(f:T5):bn:=DD [.p] [.s] λx=>f x
abbrev T6:=Option Addr→Option Addr→Int→World→(Int→aq)→Prop
abbrev ry(f:T6):bn:=DD [.p,.p,.i .i64] [.i .i64] λx=>f x.1 x.2.1 x.2.2
abbrev T7:=Array Value→World→(Int→aq)→Prop
abbrev AX(f:T7):bn:=DD [.ag] [.i .i64] λx=>f x
abbrev T8:=Option Addr→World→((Option Addr)→aq)→Prop
abbrev F9(f:T8):bn:=DD [.p] [.p] λx=>f x
abbrev T9:=Option Addr→Int→World→(Int→aq)→Prop
abbrev Aw(f:T9):bn:=DD [.p,.i .i64] [.i .i64] λx=>f x.1 x.2
abbrev GV:=Option Addr→Int→Int→World→((Int×Int)→aq)→Prop
abbrev yO(f:GV):bn:=DD [.p,.i .i64,.i .i64] [.i .i64,.i .i64] λx=>f x.1 x.2.1 x.2.2
abbrev Zr:=Array Value→World→((Option Addr)→aq)→Prop
abbrev JJ(f:Zr):bn:=DD [.ag] [.p] λx=>f x
abbrev Xx:=Option Addr→World→(Bool→aq)→Prop
abbrev Oc(f:Xx):bn:=DD [.p] [.b] λx=>f x
abbrev T13:=Sl→Int→Int→World→(Unit→aq)→Prop
abbrev Dp(f:T13):bn:=DD [.s,.i .i64,.i .i64] [] λx=>f x.1 x.2.1 x.2.2
abbrev MD:=Option Addr→World→((Array Value)→aq)→Prop
abbrev ED(f:MD):bn:=DD [.p] [.ag] λx=>f x
abbrev Zs:=Array Value→World→((Array Value)→aq)→Prop
abbrev Od(f:Zs):bn:=DD [.ag] [.ag] λx=>f x
abbrev T16:=Option Addr→Array Value→World→(Bool→aq)→Prop
abbrev axW(f:T16):bn:=DD [.p,.ag] [.b] λx=>f x.1 x.2
abbrev T17:=Sl→World→(Int→aq)→Prop
abbrev IE(f:T17):bn:=DD [.s] [.i .i64] λx=>f x
abbrev Uw:=Int→World→(Bool→aq)→Prop
abbrev AF(f:Uw):bn:=DD [.i .i64] [.b] λx=>f x
abbrev SB:=Option Addr→Value→World→(Unit→aq)→Prop
abbrev EE(f:SB):bn:=DD [.p,.raw] [] λx=>f x.1 x.2
abbrev T20:=Option Addr→World→(Value→aq)→Prop
abbrev Hr(f:T20):bn:=DD [.p] [.raw] λx=>f x
abbrev VZ:=Option Addr→Int→Value→World→(Unit→aq)→Prop
abbrev Lb(f:VZ):bn:=DD [.p,.i .i64,.raw] [] λx=>f x.1 x.2.1 x.2.2
abbrev T22:=Addr→World→(Unit→aq)→Prop
abbrev EF(f:T22):bn:=DD [.a] [] λx=>f x
abbrev T23:=Sl→Sl→World→(Bool→aq)→Prop
abbrev axX(f:T23):bn:=DD [.s,.s] [.b] λx=>f x.1 x.2
abbrev T24:=Value→Int→Int→World→(Bool→aq)→Prop
abbrev Qf(f:T24):bn:=DD [.raw,.i .i64,.i .i64] [.b] λx=>f x.1 x.2.1 x.2.2
abbrev Ux:=Array Value→Option Addr→Int→World→((Int×Int)→aq)→Prop
abbrev IF(f:Ux):bn:=DD [.ag,.p,.i .i64] [.i .i64,.i .i64] λx=>f x.1 x.2.1 x.2.2
abbrev T26:=Value→Int→World→(Unit→aq)→Prop
abbrev TN(f:T26):bn:=DD [.raw,.i .i64] [] λx=>f x.1 x.2
abbrev T27:=Int→Addr→World→(Unit→aq)→Prop
abbrev Hs(f:T27):bn:=DD [.i .i64,.a] [] λx=>f x.1 x.2
abbrev T28:=Option Addr→Int→World→(Unit→aq)→Prop
abbrev JK(f:T28):bn:=DD [.p,.i .i64] [] λx=>f x.1 x.2
abbrev T29:=Addr→Addr→World→(Unit→aq)→Prop
abbrev JL(f:T29):bn:=DD [.a,.a] [] λx=>f x.1 x.2
abbrev T30:=Array Value→Int→World→(Int→aq)→Prop
abbrev YU(f:T30):bn:=DD [.ag,.i .i64] [.i .i64] λx=>f x.1 x.2
abbrev T31:=Sl→Int→Int→World→(Bool→aq)→Prop
abbrev V0(f:T31):bn:=DD [.s,.i .i64,.i .i64] [.b] λx=>f x.1 x.2.1 x.2.2
abbrev T32:=Addr→Addr→World→(Int→aq)→Prop
abbrev Oe(f:T32):bn:=DD [.a,.a] [.i .i64] λx=>f x.1 x.2
abbrev T33:=Option Addr→Option Addr→Int→Int→Option Addr→Value→World→((Int×Int)→aq)→Prop
abbrev V1(f:T33):bn:=DD [.p,.p,.i .i64,.i .i64,.p,.raw] [.i .i64,.i .i64] λx=>f x.1 x.2.1 x.2.2.1 x.2.2.2.1 x.2.2.2.2.1 x.2.2.2.2.2
abbrev Zt:=Array Value→Option Addr→Int→World→(Int→aq)→Prop
abbrev Of(f:Zt):bn:=DD [.ag,.p,.i .i64] [.i .i64] λx=>f x.1 x.2.1 x.2.2
abbrev T35:=Option Addr→Sl→World→(Bool→aq)→Prop
abbrev TP(f:T35):bn:=DD [.p,.s] [.b] λx=>f x.1 x.2
abbrev T36:=Option Addr→Int→Int→Int→World→((Int×Int)→aq)→Prop
abbrev YV(f:T36):bn:=DD [.p,.i .i64,.i .i64,.i .i64] [.i .i64,.i .i64] λx=>f x.1 x.2.1 x.2.2.1 x.2.2.2
abbrev T37:=Array Value→Array Value→World→((Option Addr×Int)→aq)→Prop
abbrev apX(f:T37):bn:=DD [.ag,.ag] [.p,.i .i64] λx=>f x.1 x.2
abbrev T38:=Int→Int→Int→World→(Int→aq)→Prop
abbrev ag4(f:T38):bn:=DD [.i .i64,.i .i64,.i .i64] [.i .i64] λx=>f x.1 x.2.1 x.2.2
abbrev T39:=Option Addr→Option Addr→Value→World→(Unit→aq)→Prop
abbrev aa9(f:T39):bn:=DD [.p,.p,.raw] [] λx=>f x.1 x.2.1 x.2.2
abbrev T40:=Option Addr→Option Addr→Int→World→((Bool×Int)→aq)→Prop
abbrev aba(f:T40):bn:=DD [.p,.p,.i .i64] [.b,.i .i64] λx=>f x.1 x.2.1 x.2.2
abbrev T41:=Option Addr→Int→Int→World→(Unit→aq)→Prop
abbrev abb(f:T41):bn:=DD [.p,.i .i64,.i .i64] [] λx=>f x.1 x.2.1 x.2.2
abbrev T42:=Option Addr→Int→Int→Int→Int→World→((Bool×Int)→aq)→Prop
abbrev abc(f:T42):bn:=DD [.p,.i .i64,.i .i64,.i .i64,.i .i64] [.b,.i .i64] λx=>f x.1 x.2.1 x.2.2.1 x.2.2.2.1 x.2.2.2.2
abbrev T43:=Option Addr→Int→Int→Int→World→(Int→aq)→Prop
abbrev abd(f:T43):bn:=DD [.p,.i .i64,.i .i64,.i .i64] [.i .i64] λx=>f x.1 x.2.1 x.2.2.1 x.2.2.2
abbrev T44:=Option Addr→Sl→World→(Unit→aq)→Prop
abbrev apY(f:T44):bn:=DD [.p,.s] [] λx=>f x.1 x.2
abbrev T45:=Option Addr→Int→Int→Value→World→(Int→aq)→Prop
abbrev abe(f:T45):bn:=DD [.p,.i .i64,.i .i64,.raw] [.i .i64] λx=>f x.1 x.2.1 x.2.2.1 x.2.2.2
abbrev T46:=Option Addr→Option Addr→Int→Int→World→((Bool×Int)→aq)→Prop
abbrev YW(f:T46):bn:=DD [.p,.p,.i .i64,.i .i64] [.b,.i .i64] λx=>f x.1 x.2.1 x.2.2.1 x.2.2.2
abbrev T47:=Array Value→Option Addr→Int→Int→World→(Int→aq)→Prop
abbrev YX(f:T47):bn:=DD [.ag,.p,.i .i64,.i .i64] [.i .i64] λx=>f x.1 x.2.1 x.2.2.1 x.2.2.2
abbrev T48:=Option Addr→Int→Int→World→(Int→aq)→Prop
abbrev alG(f:T48):bn:=DD [.p,.i .i64,.i .i64] [.i .i64] λx=>f x.1 x.2.1 x.2.2
abbrev T49:=Array Value→Int→World→((Array Value)→aq)→Prop
abbrev abf(f:T49):bn:=DD [.ag,.i .i64] [.ag] λx=>f x.1 x.2
abbrev T50:=Bool→Addr→World→(Unit→aq)→Prop
abbrev YY(f:T50):bn:=DD [.b,.a] [] λx=>f x.1 x.2
abbrev T51:=Option Addr→Option Addr→Int→Int→World→((Int×Int)→aq)→Prop
abbrev adO(f:T51):bn:=DD [.p,.p,.i .i64,.i .i64] [.i .i64,.i .i64] λx=>f x.1 x.2.1 x.2.2.1 x.2.2.2
abbrev T52:=Addr→Addr→Addr→World→(Unit→aq)→Prop
abbrev YZ(f:T52):bn:=DD [.a,.a,.a] [] λx=>f x.1 x.2.1 x.2.2
abbrev T53:=Array Value→Option Addr→Int→World→(Bool→aq)→Prop
abbrev adP(f:T53):bn:=DD [.ag,.p,.i .i64] [.b] λx=>f x.1 x.2.1 x.2.2
abbrev T54:=Int→Int→World→((Array Value)→aq)→Prop
abbrev axY(f:T54):bn:=DD [.i .i64,.i .i64] [.ag] λx=>f x.1 x.2
abbrev T56:=Addr→World→(Int→aq)→Prop
abbrev adQ(f:T56):bn:=DD [.a] [.i .i64] λx=>f x
abbrev T57:=Array Value→Int→World→(Bool→aq)→Prop
abbrev ag8(f:T57):bn:=DD [.ag,.i .i64] [.b] λx=>f x.1 x.2
abbrev T58:=Array Value→Int→World→((Option Addr)→aq)→Prop
abbrev ag9(f:T58):bn:=DD [.ag,.i .i64] [.p] λx=>f x.1 x.2
abbrev T59:=Int→Int→World→(Bool→aq)→Prop
abbrev ap3(f:T59):bn:=DD [.i .i64,.i .i64] [.b] λx=>f x.1 x.2
abbrev T60:=Int→World→(Int→aq)→Prop
abbrev alH(f:T60):bn:=DD [.i .u64] [.i .i64] λx=>f x
abbrev T62:=Int→World→((Array Value)→aq)→Prop
abbrev axZ(f:T62):bn:=DD [.i .i64] [.ag] λx=>f x
abbrev T64:=Option Addr→Option Addr→World→(Bool→aq)→Prop
abbrev alI(f:T64):bn:=DD [.p,.p] [.b] λx=>f x.1 x.2
abbrev T65:=Option Addr→Int→World→((Array Value×Int)→aq)→Prop
abbrev adR(f:T65):bn:=DD [.p,.i .i64] [.ag,.i .i64] λx=>f x.1 x.2
abbrev T67:=Option Addr→Option Addr→Int→Int→Int→Value→World→((Int×Int)→aq)→Prop
abbrev alJ(f:T67):bn:=DD [.p,.p,.i .i64,.i .i64,.i .i64,.raw] [.i .i64,.i .i64] λx=>f x.1 x.2.1 x.2.2.1 x.2.2.2.1 x.2.2.2.2.1 x.2.2.2.2.2
abbrev T68:=Option Addr→Value→Value→Value→World→(Unit→aq)→Prop
abbrev ap5(f:T68):bn:=DD [.p,.raw,.raw,.raw] [] λx=>f x.1 x.2.1 x.2.2.1 x.2.2.2
abbrev T69:=Array Value→Option Addr→World→(Int→aq)→Prop
abbrev ap6(f:T69):bn:=DD [.ag,.p] [.i .i64] λx=>f x.1 x.2
abbrev T70:=Option Addr→Int→World→((Option Addr×Int)→aq)→Prop
abbrev alK(f:T70):bn:=DD [.p,.i .i64] [.p,.i .i64] λx=>f x.1 x.2
abbrev T71:=Option Addr→Array Value→World→(Unit→aq)→Prop
abbrev ap8(f:T71):bn:=DD [.p,.ag] [] λx=>f x.1 x.2
abbrev T72:=Int→Addr→Addr→Addr→World→(Bool→aq)→Prop
abbrev alL(f:T72):bn:=DD [.i .i64,.a,.a,.a] [.b] λx=>f x.1 x.2.1 x.2.2.1 x.2.2.2
abbrev T73:=Option Addr→Option Addr→Int→World→((Bool×Bool×Int)→aq)→Prop
abbrev ap9(f:T73):bn:=DD [.p,.p,.i .i64] [.b,.b,.i .i64] λx=>f x.1 x.2.1 x.2.2
abbrev T74:=Bool→Addr→Addr→World→(Unit→aq)→Prop
abbrev alM(f:T74):bn:=DD [.b,.a,.a] [] λx=>f x.1 x.2.1 x.2.2
abbrev T75:=Option Addr→Option Addr→World→(Unit→aq)→Prop
abbrev aqa(f:T75):bn:=DD [.p,.p] [] λx=>f x.1 x.2
abbrev T76:=Option Addr→Int→Int→Int→Int→Array Value→World→(Int→aq)→Prop
abbrev aqb(f:T76):bn:=DD [.p,.i .i64,.i .i64,.i .i64,.i .i64,.ag] [.i .i64] λx=>f x.1 x.2.1 x.2.2.1 x.2.2.2.1 x.2.2.2.2.1 x.2.2.2.2.2
abbrev T77:=Option Addr→Option Addr→Int→Int→World→(Int→aq)→Prop
abbrev aqc(f:T77):bn:=DD [.p,.p,.i .i64,.i .i64] [.i .i64] λx=>f x.1 x.2.1 x.2.2.1 x.2.2.2
abbrev T78:=Sl→World→(Value→aq)→Prop
abbrev alN(f:T78):bn:=DD [.s] [.raw] λx=>f x
abbrev aqd(f:T60):bn:=DD [.i .i64] [.i .i64] λx=>f x
abbrev T81:=Array Value→Option Addr→World→((Int×Int×Int)→aq)→Prop
abbrev alO(f:T81):bn:=DD [.ag,.p] [.i .i64,.i .i64,.i .i64] λx=>f x.1 x.2
abbrev T82:=Int→Int→World→((Option Addr×Int)→aq)→Prop
abbrev aqf(f:T82):bn:=DD [.i .i64,.i .i64] [.p,.i .i64] λx=>f x.1 x.2
abbrev T85:=Option Addr→Int→Int→Int→World→((Array Value×Int)→aq)→Prop
abbrev alP(f:T85):bn:=DD [.p,.i .i64,.i .i64,.i .i64] [.ag,.i .i64] λx=>f x.1 x.2.1 x.2.2.1 x.2.2.2
abbrev T92:=Int→World→((Array Value×Int)→aq)→Prop
abbrev ax0(f:T92):bn:=DD [.i .i64] [.ag,.i .i64] λx=>f x
abbrev T93:=Sl→World→(Sl→aq)→Prop
abbrev aqh(f:T93):bn:=DD [.s] [.s] λx=>f x
abbrev T94:=Array Value→World→(Sl→aq)→Prop
abbrev aqi(f:T94):bn:=DD [.ag] [.s] λx=>f x
abbrev T95:=Array Value→Array Value→World→(Sl→aq)→Prop
abbrev aqj(f:T95):bn:=DD [.ag,.ag] [.s] λx=>f x.1 x.2
abbrev T96:=Bool→World→(Int→aq)→Prop
abbrev aqk(f:T96):bn:=DD [.b] [.i .i64] λx=>f x
abbrev T97:=Array Value→Option Addr→Int→World→((Bool×Int)→aq)→Prop
abbrev ax1(f:T97):bn:=DD [.ag,.p,.i .i64] [.b,.i .i64] λx=>f x.1 x.2.1 x.2.2
abbrev T98:=Int→Int→Int→Int→Int→World→((Sl×Int)→aq)→Prop
abbrev ax2(f:T98):bn:=DD [.i .i64,.i .i64,.i .i64,.i .i64,.i .i64] [.s,.i .i64] λx=>f x.1 x.2.1 x.2.2.1 x.2.2.2.1 x.2.2.2.2
abbrev T99:=Array Value→Array Value→World→((Array Value×Int)→aq)→Prop
abbrev ax3(f:T99):bn:=DD [.ag,.ag] [.ag,.i .i64] λx=>f x.1 x.2
abbrev aql:=Array Value→Array Value→World→((Array Value×Bool)→aq)→Prop
abbrev aqm(f:aql):bn:=DD [.ag,.ag] [.ag,.b] λx=>f x.1 x.2
abbrev ax4:=Array Value→Array Value→Array Value→World→((Array Value×Int)→aq)→Prop
abbrev aqn(f:ax4):bn:=DD [.ag,.ag,.ag] [.ag,.i .i64] λx=>f x.1 x.2.1 x.2.2
abbrev aqo:=Array Value→Array Value→Int→World→((Array Value)→aq)→Prop
abbrev aqp(f:aqo):bn:=DD [.ag,.ag,.i .i64] [.ag] λx=>f x.1 x.2.1 x.2.2
abbrev aqq:=Array Value→Array Value→Bool→World→((Array Value)→aq)→Prop
abbrev aqr(f:aqq):bn:=DD [.ag,.ag,.b] [.ag] λx=>f x.1 x.2.1 x.2.2
abbrev aqs:=Array Value→Option Addr→Int→Int→World→((Bool×Int)→aq)→Prop
abbrev aqt(f:aqs):bn:=DD [.ag,.p,.i .i64,.i .i64] [.b,.i .i64] λx=>f x.1 x.2.1 x.2.2.1 x.2.2.2
abbrev aqu:=Array Value→Array Value→Int→Int→World→((Array Value×Int×Bool)→aq)→Prop
abbrev aqv(f:aqu):bn:=DD [.ag,.ag,.i .i64,.i .i64] [.ag,.i .i64,.b] λx=>f x.1 x.2.1 x.2.2.1 x.2.2.2
abbrev aqw:=Option Addr→Int→Int→World→(Bool→aq)→Prop
abbrev aqx(f:aqw):bn:=DD [.p,.i .i64,.i .i64] [.b] λx=>f x.1 x.2.1 x.2.2
abbrev alQ:=Int→World→(Value→aq)→Prop
abbrev ajB(f:alQ):bn:=DD [.i .i64] [.raw] λx=>f x
abbrev aqy:=Int→Int→World→(Int→aq)→Prop
abbrev aqz(f:aqy):bn:=DD [.i .i64,.i .i64] [.i .i64] λx=>f x.1 x.2
abbrev aqA:=Option Addr→Sl→World→(Int→aq)→Prop
abbrev aqB(f:aqA):bn:=DD [.p,.s] [.i .i64] λx=>f x.1 x.2
abbrev aqC:=Option Addr→Int→World→((Sl×Int)→aq)→Prop
abbrev aqD(f:aqC):bn:=DD [.p,.i .i64] [.s,.i .i64] λx=>f x.1 x.2
abbrev aqE:=Int→Int→Int→World→(Bool→aq)→Prop
abbrev aqF(f:aqE):bn:=DD [.i .i64,.i .i64,.i .i64] [.b] λx=>f x.1 x.2.1 x.2.2
abbrev aqG:=Value→World→(Value→aq)→Prop
abbrev aqH(f:aqG):bn:=DD [.raw] [.raw] λx=>f x
abbrev aqI:=Option Addr→Int→World→((Int×Int)→aq)→Prop
abbrev aqJ(f:aqI):bn:=DD [.p,.i .i64] [.i .i64,.i .i64] λx=>f x.1 x.2
abbrev aqK:=Sl→Array Value→World→(Int→aq)→Prop
abbrev aqL(f:aqK):bn:=DD [.s,.ag] [.i .i64] λx=>f x.1 x.2
abbrev aqM:=Value→Int→World→(Value→aq)→Prop
abbrev aqN(f:aqM):bn:=DD [.raw,.i .i64] [.raw] λx=>f x.1 x.2
abbrev aqO:=Value→Value→World→(Unit→aq)→Prop
abbrev aqP(f:aqO):bn:=DD [.raw,.raw] [] λx=>f x.1 x.2
abbrev aqQ:=Array Value→World→((Int×Int)→aq)→Prop
abbrev aqR(f:aqQ):bn:=DD [.ag] [.i .i64,.i .i64] λx=>f x
abbrev aqS:=Int→World→((Int×Int)→aq)→Prop
abbrev aqT(f:aqS):bn:=DD [.i .i64] [.i .i64,.i .i64] λx=>f x
abbrev alR:=Sl→Int→World→(Value→aq)→Prop
abbrev ajC(f:alR):bn:=DD [.s,.i .i64] [.raw] λx=>f x.1 x.2
abbrev aqU:=Option Addr→Int→Int→World→((Array Value×Int)→aq)→Prop
abbrev aqV(f:aqU):bn:=DD [.p,.i .i64,.i .i64] [.ag,.i .i64] λx=>f x.1 x.2.1 x.2.2
abbrev aqW:=Array Value→Array Value→Int→Int→World→((Option Addr×Int)→aq)→Prop
abbrev aqX(f:aqW):bn:=DD [.ag,.ag,.i .i64,.i .i64] [.p,.i .i64] λx=>f x.1 x.2.1 x.2.2.1 x.2.2.2
abbrev aBy:=World→((Option Addr)→aq)→Prop
abbrev Xy(f:aBy):bn:=DD [] [.p] λx=>f
abbrev aBz:=World→((Array Value)→aq)→Prop
abbrev ajD(f:aBz):bn:=DD [] [.ag] λx=>f
def k8:T2:=λc w k=>aL w c 24 λd f=>kH (S:=Int) (λg b a=>cC a (d.add 0) λh=>ap ((decide (b<((h.n:Nat):Int)))&&(decide (b<41))) (cC a (d.add 0) λi=>cZ i b 2 λj=>cC a (j.add 1) λl=>ap (decide (((l.n:Nat):Int)>140)) (k false a) (g (aG .i64 (b+1)) a)) (cC a (d.add 0) λe=>(k (decide (((e.n:Nat):Int)≤40)) a))) 0 f
theorem SC:SS Hf (Je k8):=sl 4198414 [(3,[(3,(.i .i64))])] func34
def g9:T54:=λavu aqY w k=>aL w zr6 43 λb d=>dZ 6 d b #[Iv avu,Iv aqY,Iv 65536,Iv 1048576,Iv 1000,Iv 3] λc=>bD 6 c b λa=>k a c
theorem Ot:SS Es (axY g9):=sl 19 [] func43
def l6:T62:=λzj w k=>aL w zr4 326 λA B=>lz axV 0 4 #[Iv 1,Iv 0,Iv 0,Iv 5] λq=>lz q 4 4 #[Iv 1,Iv 1,Iv 0,Iv 0] λr=>lz r 8 4 #[Iv 1,Iv 1,Iv 1,Iv 0] λs=>lz s 12 4 #[Iv 1,Iv 1,Iv 1,Iv 0] λt=>lz t 16 4 #[Iv 1,Iv 1,Iv 1,Iv 0] λu=>lz u 20 4 #[Iv 1,Iv 1,Iv 1,Iv 0] λv=>lz v 24 4 #[Iv 0,Iv 0,Iv 0,Iv 2] λx=>lz x 28 4 #[Iv 1,Iv 0,Iv 0,Iv 2] λa=>lz a 32 4 #[Iv 1,Iv 0,Iv 0,Iv 3] λb=>lz b 36 4 #[Iv 1,Iv 1,Iv 0,Iv 0] λc=>lz c 40 4 #[Iv 1,Iv 1,Iv 1,Iv 0] λd=>lz d 44 4 #[Iv 0,Iv 0,Iv 0,Iv 4] λe=>lz e 48 4 #[Iv 1,Iv 0,Iv 0,Iv 0] λf=>lz f 52 4 zr4 λg=>lz g 56 4 zr4 λh=>lz h 60 4 #[Iv 1,Iv 0,Iv 0,Iv 0] λi=>lz i 64 4 #[Iv 1,Iv 0,Iv 0,Iv 0] λj=>aL B axV 347 λl y=>dZ 68 y l j λm=>GG l 17 zj 4 λz=>bD 4 m z λn=>dZ 4 m A n λo=>bD 4 o A λp=>k p o
theorem Xz:SS K9 (axZ l6):=sl 13 [] func222
def rz:aqS:=λV2 w k=>ap (V2==1) (k (0,7) w) (ap (V2==2) (k (0,127) w) (ap (V2==3) (k (0,31) w) (ap (V2==4) (k (0,65535) w) (ap (V2==5) (k ((-2147483648),2147483647) w) (k (0,0) w)))))
theorem afl:SS VY (aqT rz):=sl 10941 [] func223
def FF(F:T62)(rz:aqS):T7:=λl w k=>aL w l 75 λe j=>cE (S:=Bool) (λz=>aN .i64 j (e.add 0) λA=>ap (decide (A<0)) (z true j) (aN .i64 j (e.add 0) λB=>z (decide (B≥17)) j)) λC m=>ap C (k 13 m) (aN .i64 m (e.add 0) λD=>F D m λn o=>aL o zr4 326 λg p=>dZ 4 p g n λc=>aN .i64 c (e.add 1) λq=>aN .i64 c (e.add 2) λr=>aN .i64 c (e.add 3) λs=>aN .i64 c (e.add 4) λt=>kH (S:=(Int×Int)) (λu b f=>ap (decide (b.2<4)) (ixA #[Iv q,Iv r,Iv s,Iv t] 4 b.2 λv=>xy .i64 v λh=>GG g 4 b.2 1 λx=>aN .i64 f x λy=>rz y f λd i=>ap ((decide (h<(d.1,d.2).1))||(decide (h>(d.1,d.2).2))) (k 10 i) (u (b.1,(aG .i64 (b.2+1))) i)) (k b.1 f)) (0,0) c)
theorem acL a c:E [.ag] [.i .i64] [(K9,axZ a),(VY,aqT c)] 140739367469566 [(1,[(16,.b)]),(8,[(4,(.i .i64)),(29,(.i .i64))])] f177=λx=>FF a c x:=be
def eW:=FF l6 rz
theorem Kl:SS Bv (AX eW):=so func177 (.c Xz (.c afl .z)) (acL l6 rz)
def IG(C:T7):aqQ:=λtW w k=>aL w tW 78 λd p=>cE (S:=Bool) (λv=>aN .i64 p (d.add 0) λy=>ap (decide (y<0)) (v true p) (aN .i64 p (d.add 0) λz=>v (decide (z>255)) p)) λA f=>ap A (k ((-1),10) f) (cE (S:=Bool) (λx=>cC f (d.add 1) λB=>ap (decide (((B.n:Nat):Int)<1)) (x true f) (cC f (d.add 1) λq=>(x (decide (((q.n:Nat):Int)>128)) f))) λr b=>ap r (k ((-1),12) b) (cC b (d.add 1) λg=>kH (S:=Int) (λs a c=>ap (decide (a<((g.n:Nat):Int))) (cZ g a 5 λt=>bD 5 c t λh=>aL c Jd 75 λi u=>dZ 5 u i h λj=>bD 5 j i λl=>C l j λm o=>ap (m !=0) (k (a,m) o) (s (aG .i64 (a+1)) o)) (k (0,0) c)) 0 b))
theorem abg a:E [.ag] [.i .i64,.i .i64] [(Bv,AX a)] 69742903422 [(1,[(14,.b)]),(4,[(24,.b)]),(9,[(28,(.i .i64))])] f122=λx=>IG a x:=be
def qH:=IG eW
theorem abh:SS Qe (aqR qH):=so func122 (.c Kl .z) (abg eW)
def oJ:T93:=λZW w k=>Bt Tryz.prog 69 (Iv ((ZW.n:Nat):Int)) (Iv ((ZW.n:Nat):Int)) w λs1 l=>kH (S:=(Int×Int)) (λe b f=>ap (decide (b.2<((ZW.n:Nat):Int))) (cZ ZW b.2 5 λm=>bD 5 f m λg=>aL f Jd 75 λj o=>dZ 5 o j g λh=>cZ s1 b.2 1 λi=>bJ h i (Iv b.1) λc=>aN .i64 c (j.add 0) λd=>ap (d==11) (e ((aG .i64 (b.1+1)),(aG .i64 (b.2+1))) c) (ap (d==12) (e ((aG .i64 (b.1 - 1)),(aG .i64 (b.2+1))) c) (e (b.1,(aG .i64 (b.2+1))) c))) (k s1 f)) (0,0) l
theorem Zu:SS GR (aqh oJ):=sl 146816125 [(5,[(4,(.i .i64)),(12,(.i .i64))])] func178
def jz:T41:=λb d alS w k=>nn b λI=>cC w (I.add 1) λJ=>cZ J d 1 λL=>aN .i64 w L λG=>cE (S:=Bool) (λH=>nn b λM=>cC w (M.add 2) λN=>cZ N d 1 λO=>Jc w O λP=>ap P (nn b λl=>cC w (l.add 1) λm=>cZ m d 1 λo=>aN .i64 w o λp=>H ((oC .i64 G alS)==p) w) (H false w)) λq i=>ap q (k () i) (drew i λf=>nn b λr=>cC f (r.add 2) λs=>nn b λt=>cC f (t.add 1) λu=>cZ s d 1 λv=>bJ f v (.bool true) λx=>cZ u d 1 λy=>bJ x y (Iv (oC .i64 G alS)) λj=>nn b λz=>cC j (z.add 3) λg=>aL j #[Iv d] 3 λA B=>qd Tryz.prog #[69,69] 69 [.slice g.a g.n g.c,(.slice (some A) 1 1)] B λh C=>nn b λD=>bJ C (D.add 3) (.slice h.a h.n h.c) λF=>k () F)
abbrev Uy:bn:=abb jz
theorem Uz:SS B9 (abb jz):=sl 8589934659 [(1,[(33,.b)])] func224
def oK:alR:=λHS b w k=>aL w #[.slice HS.a HS.n HS.c] 76 λd e=>aL e #[Iv b] 3 λf g=>k (.func (.func q8) #[] #[.pointer (some d),.pointer (some f)]) g
abbrev Zv:bn:=ajC oK
theorem Zw:SS GS (ajC oK):=sl 28 [] func225
def jO:Uw:=λzj w k=>k ((zj==6)||(zj==7)) w
abbrev acM:bn:=AF jO
theorem TQ:SS rZ (AF jO):=sl 5 [] func226
def jq:Uw:=λzj w k=>k ((zj==16)||(zj==15)) w
abbrev acN:bn:=AF jq
theorem TR:SS r0 (AF jq):=sl 5 [] func227
def Dq(Y:Nat→bn)(jO:Uw)(jq:Uw)(rR:Value)(i:Addr)(j:Addr)(w:World)(k:Unit→aq):Prop:= cC w i λs1=>aN .i64 w j λI=>cZ s1 I 5 λJ=>bD 5 w J λl=>aL w Jd 75 λe L=>dZ 5 L e l λH=>cE (S:=Bool) (λh=>aN .i64 H (e.add 0) λM=>jO M H λm b=>ap m (aN .i64 b (e.add 4) λo=>ap (decide (o≥0)) (aN .i64 b (e.add 4) λp=>cC b i λq=>ap (decide (p<((q.n:Nat):Int))) (aN .i64 b (e.add 4) λr=>m5 (Jq [(rZ,(AF jO)),(r0,(AF jq))] Y) rR #[Iv r] b λs t=>HL s λu=>h (!u) t) (h false b)) (h false b)) (h false b)) λv c=>ap v (k () c) (cE (S:=Bool) (λf=>aN .i64 c (e.add 0) λx=>ap (x !=6) (aN .i64 c (e.add 0) λy=>jq y c λz d=>ap (!z) (aN .i64 d j λA=>cC d i λB=>(f (decide ((aG .i64 (A+1))<((B.n:Nat):Int))) d)) (f false d)) (f false c)) λC g=>ap C (aN .i64 g j λD=>m5 (Jq [(rZ,(AF jO)),(r0,(AF jq))] Y) rR #[(Iv (aG .i64 (D+1)))] g λF G=>HL F λN=>k () G) (k () g))
theorem V3(Y:Nat→bn)(jO:Uw)(jq:Uw)(x:KT [.raw,.a,.a])(w:World)(k:KT []→aq):N3 Tryz.prog (Jq [(rZ,(AF jO)),(r0,(AF jq))] Y) 70369817919511 [(1,[(30,.b)]),(3,[(46,.b)])] f255 [] (dB [.raw,.a,.a] x) w k=Dq Y jO jq x.1 x.2.1 x.2.2 w k:=be
def xb(Y:Nat→bn)(rR:Value)(a:Addr)(b:Addr)(w:World)(k:Unit→aq):Prop:=Dq Y jO jq rR a b w k
def rh(Y:Nat→bn):bn:=λargs w c=>qJ [.raw,.a,.a] args λx=>xb Y x.1 x.2.1 x.2.2 w λr w=>c (eV (dB [] r)) w
theorem V4:VQ Tryz.prog q8 rh:=λY hY=>
 Mo (mask:=70369817919511) (h:=[(1,[(30,.b)]),(3,[(46,.b)])]) mixed func255 (VG (l:=[(rZ,acM),(r0,acN)]) ⟨TQ,TR,trivial⟩ hY)
 [.raw,.a,.a] [] be (λx w k=>xb Y x.1 x.2.1 x.2.2 w k) (λx w k=>V3 Y jO jq x w k)
def Km(I:Cy)(jz:T41)(oK:alR)(tW:Array Value)(w:World)(k:(Sl)→aq):Prop:= aL w tW 78 λf w2=>cC w2 (f.add 1) λj=>cE (S:=Addr) (λC=>drew w2 λg=>cC g (f.add 1) λb=>both (Bt Tryz.prog 69 (Iv ((j.n:Nat):Int)) (Iv ((j.n:Nat):Int)) g λu w8=>ai 1 (f.add 1) g w8 (both (Bt Tryz.prog 331 (Iv ((j.n:Nat):Int)) (Iv ((j.n:Nat):Int)) w8 λD F=>ai 1 (f.add 1) g F (both (both (aL F #[.slice b.a b.n b.c,.slice u.a u.n u.c,.slice D.a D.n D.c,.slice none 0 0] 333 λg7 g8=>aL g8 #[.pointer none] 330 λa0 a2=>ai 1 (f.add 1) g a2 (bJ a2 a0 (.pointer (some g7)) λg9=>C a0 g9)) (aL F #[.pointer none] 330 λa3 a4=>ai 1 (f.add 1) g a4 (aL a4 #[.slice b.a b.n b.c,.slice u.a u.n u.c,.slice D.a D.n D.c,.slice none 0 0] 333 λh0 h1=>bJ h1 a3 (.pointer (some h0)) λh2=>C a3 h2))) (aL F #[.pointer none] 330 λa5 a6=>ai 1 (f.add 1) g a6 (aL a6 #[.slice b.a b.n b.c,.slice u.a u.n u.c,.slice D.a D.n D.c,.slice none 0 0] 333 λh3 h4=>bJ h4 a5 (.pointer (some h3)) λh5=>C a5 h5)))) (aL w8 #[.pointer none] 330 λa7 a8=>ai 1 (f.add 1) g a8 (Bt Tryz.prog 331 (Iv ((j.n:Nat):Int)) (Iv ((j.n:Nat):Int)) a8 λO a9=>ai 1 (f.add 1) g a9 (aL a9 #[.slice b.a b.n b.c,.slice u.a u.n u.c,.slice O.a O.n O.c,.slice none 0 0] 333 λh6 h7=>bJ h7 a7 (.pointer (some h6)) λh8=>C a7 h8))))) (both (Bt Tryz.prog 331 (Iv ((j.n:Nat):Int)) (Iv ((j.n:Nat):Int)) g λe P=>ai 1 (f.add 1) g P (both (Bt Tryz.prog 69 (Iv ((j.n:Nat):Int)) (Iv ((j.n:Nat):Int)) P λm G=>ai 1 (f.add 1) g G (both (both (aL G #[.slice b.a b.n b.c,.slice m.a m.n m.c,.slice e.a e.n e.c,.slice none 0 0] 333 λh9 i0=>aL i0 #[.pointer none] 330 λb0 b1=>ai 1 (f.add 1) g b1 (bJ b1 b0 (.pointer (some h9)) λi1=>C b0 i1)) (aL G #[.pointer none] 330 λb2 b3=>ai 1 (f.add 1) g b3 (aL b3 #[.slice b.a b.n b.c,.slice m.a m.n m.c,.slice e.a e.n e.c,.slice none 0 0] 333 λi2 i3=>bJ i3 b2 (.pointer (some i2)) λi4=>C b2 i4))) (aL G #[.pointer none] 330 λb4 b5=>ai 1 (f.add 1) g b5 (aL b5 #[.slice b.a b.n b.c,.slice m.a m.n m.c,.slice e.a e.n e.c,.slice none 0 0] 333 λi5 i6=>bJ i6 b4 (.pointer (some i5)) λi7=>C b4 i7)))) (aL P #[.pointer none] 330 λb6 b7=>ai 1 (f.add 1) g b7 (Bt Tryz.prog 69 (Iv ((j.n:Nat):Int)) (Iv ((j.n:Nat):Int)) b7 λQ b8=>ai 1 (f.add 1) g b8 (aL b8 #[.slice b.a b.n b.c,.slice Q.a Q.n Q.c,.slice e.a e.n e.c,.slice none 0 0] 333 λi8 i9=>bJ i9 b6 (.pointer (some i8)) λj0=>C b6 j0))))) (aL g #[.pointer none] 330 λH R=>ai 1 (f.add 1) g R (both (Bt Tryz.prog 69 (Iv ((j.n:Nat):Int)) (Iv ((j.n:Nat):Int)) R λT b9=>ai 1 (f.add 1) g b9 (Bt Tryz.prog 331 (Iv ((j.n:Nat):Int)) (Iv ((j.n:Nat):Int)) b9 λU c0=>ai 1 (f.add 1) g c0 (aL c0 #[.slice b.a b.n b.c,.slice T.a T.n T.c,.slice U.a U.n U.c,.slice none 0 0] 333 λj1 j2=>bJ j2 H (.pointer (some j1)) λj3=>C H j3))) (Bt Tryz.prog 331 (Iv ((j.n:Nat):Int)) (Iv ((j.n:Nat):Int)) R λV c1=>ai 1 (f.add 1) g c1 (Bt Tryz.prog 69 (Iv ((j.n:Nat):Int)) (Iv ((j.n:Nat):Int)) c1 λW c2=>ai 1 (f.add 1) g c2 (aL c2 #[.slice b.a b.n b.c,.slice W.a W.n W.c,.slice V.a V.n V.c,.slice none 0 0] 333 λj4 j5=>bJ j5 H (.pointer (some j4)) λj6=>C H j6))))))) λh X=>aR X h λj7=>nn j7 λj8=>cC X (j8.add 1) λj9=>cE (S:=Unit) (λk0=>kH (S:=Int) (λk1 Y J=>ap (decide (Y<((j9.n:Nat):Int))) (aR J h λk2=>nn k2 λk3=>cC J (k3.add 1) λk4=>cZ k4 Y 1 λk5=>bJ J k5 (Iv 255) λk6=>k1 (aG .i64 (Y+1)) k6) (k0 () J)) 0 X) λl5 t=>ap (((j.n:Nat):Int)==0) (aR t h λk7=>nn k7 λk8=>cC t (k8.add 1) λk9=>k k9 t) (aR t h λl0=>aN .i64 t (f.add 0) λl1=>jz l0 0 (oC .i64 l1 255) t λ_u l2=>kH (S:=(Unit×List Nat)) (λl3 c3 o=>aR o h λc4=>nn c4 λc5=>cC o (c5.add 3) λc6=>ap (((c6.n:Nat):Int)==0) (aR o h λc7=>nn c7 λc8=>cC o (c8.add 1) λc9=>Ir c3.2 o λd0=>k c9 d0) (aR o h λd1=>nn d1 λd2=>cC o (d2.add 3) λd3=>cZ d3 0 1 λd4=>aN .i64 o d4 λv=>drew o λq=>aR q h λd5=>aR q h λd6=>nn d6 λd7=>cC q (d7.add 3) λd8=>slL d8 1 1 λx=>nn d5 λd9=>bJ q (d9.add 3) (.slice x.a x.n x.c) λr=>aR r h λe0=>nn e0 λe1=>cC r (e1.add 1) λe2=>cZ e2 v 1 λe3=>aN .i64 r e3 λe4=>aL r #[Iv 0] 3 λs e5=>bJ e5 s (Iv e4) λy=>cC y (f.add 1) λe6=>cZ e6 v 5 λe7=>bD 5 y e7 λZ=>aL y Jd 75 λp e8=>dZ 5 e8 p Z λl=>cE (S:=Bool) (λz=>aN .i64 l (p.add 0) λe9=>ap (e9==8) (aN .i64 l (p.add 1) λf0=>ap (decide (f0≥0)) (aN .i64 l (p.add 1) λf1=>z (decide (f1<8)) l) (z false l)) (z false l)) λf2 L=>cE (S:=Unit) (λM=>ap f2 (drew L λA=>aN .i64 A s λf3=>aN .i64 A (p.add 1) λf4=>G9 .i64 1 f4 λf5=>bJ A s (Iv (Sx .i64 f3 f5)) λf6=>M () f6) (M () L)) λaFD N=>cC N (f.add 1) λf7=>oK f7 v N λf8 f9=>BQ I [(.i .i64)] f8 f9 (fun(g0:Int) B g1=>aR B h λg2=>aN .i64 B s λg3=>jz g2 g0 g3 B λ_u g4=>g1 g4) λaqZ g5=>l3 ((),(aqZ::c3.2)) g5)) ((),[]) l2)
theorem acO(I:Cy)(jz:T41)(oK:alR)(x:KT [.ag])(w:World)(k:KT [.s]→aq):Ut Tryz.prog (kw [(B9,(abb jz)),(GS,(ajC oK))]) I 60886842892212147944375827038718 [(1,[]),(3,[(4,.a)]),(5,[]),(6,[(26,(.i .i64))]),(24,[(95,.b)]),(25,[]),(29,[(105,(.i .i64))])] f179 [.s] (dB [.ag] x) w k=Km I jz oK x w k:=be
def pb:T94:=λtW w k=>Km (Cz [(q8,rh)]) jz oK tW w k
abbrev acP:bn:=aqi pb
theorem acQ:uG Tryz.prog Kj acP:=
 It (mask:=60886842892212147944375827038718) (h:=[(1,[]),(3,[(4,.a)]),(5,[]),(6,[(26,(.i .i64))]),(24,[(95,.b)]),(25,[]),(29,[(105,(.i .i64))])]) mixed func179 (Mm (l:=[(B9,Uy),(GS,Zv)]) ⟨Uz,Zw,trivial⟩) (K3 (l:=[(q8,rh)]) ⟨V4,trivial⟩)
 [.ag] [.s] be (λx w k=>pb x w k) (λx w k=>acO (Cz [(q8,rh)]) jz oK x w k)
def xH(jO:Uw):T9:=λc g w k=>nn c λA=>cC w (A.add 1) λB=>cZ B g 5 λC=>bD 5 w C λh=>aL w Jd 75 λd D=>dZ 5 D d h λF=>cE (S:=Bool) (λe=>drew F λz=>aN .i64 z (d.add 0) λi=>jO i z λj a=>ap j (aN .i64 a (d.add 4) λl=>nn c λm=>cC a (m.add 1) λo=>ap (decide (l≥((o.n:Nat):Int))) (e true a) (aN .i64 a (d.add 0) λp=>ap (p==8) (aN .i64 a (d.add 4) λq=>nn c λr=>cC a (aY (r.add 0) 0) λs=>(e (decide (q≥((s.n:Nat):Int))) a)) (e false a))) (aN .i64 a (d.add 0) λt=>ap (t==8) (aN .i64 a (d.add 4) λu=>nn c λv=>cC a (aY (v.add 0) 0) λx=>(e (decide (u≥((x.n:Nat):Int))) a)) (e false a))) λy f=>ap y (k 10 f) (k 0 f)
theorem Ou a:E [.p,.i .i64] [.i .i64] [(rZ,AF a)] 2199023255603 [(2,[(41,.b)])] f180=λx=>xH a x.1 x.2:=be
def ia:=xH jO
abbrev EG:bn:=Aw ia
theorem Ov:SS oh (Aw ia):=so func180 (.c TQ .z) (Ou jO)
def AY(jq:Uw):T9:=λa b w k=>nn a λh=>cC w (h.add 1) λi=>cZ i b 5 λj=>aN .i64 w (j.add 0) λf=>cE (S:=Bool) (λg=>nn a λl=>cC w (l.add 1) λm=>ap ((b==(aG .i64 (((m.n:Nat):Int) - 1)))&&(f !=6)) (jq f w λo p=>g (!o) p) (g false w)) λe c=>ap e (k 11 c) (k 0 c)
theorem SD a:E [.p,.i .i64] [.i .i64] [(r0,AF a)] 1073741875 [(2,[(30,.b)])] f181=λx=>AY a x.1 x.2:=be
def jE:=AY jq
abbrev Ht:bn:=Aw jE
theorem SE:SS qa (Aw jE):=so func181 (.c TR .z) (SD jq)
def ie:T9:=λh l w k=>drew w λb=>nn h λD=>cC b (D.add 1) λG=>cZ G l 5 λF=>bD 5 b F λq=>nn h λr=>cC b (r.add 2) λH=>cZ H l 1 λs=>aN .i64 b s λt=>aL b Jd 75 λj c=>ai 1 s b c (ai 1 (r.add 2) b c (ai 5 F b c (ai 1 (D.add 1) b c (dZ 5 c j q λd=>ai 1 s b d (ai 1 (r.add 2) b d (aN .i64 d (j.add 0) λa=>cE (S:=Bool) (λm=>ap (a==12) (m (a==12) d) (m (a==13) d)) λu e=>cE (S:=Bool) (λf=>ap u (f (decide (t≥1)) e) (ap (a==16) (f (t==0) e) (cE (S:=Bool) (λn=>ap (a==6) (n (a==6) e) (n (a==7) e)) λv o=>ap v (drew o λg=>nn h λx=>cC g (x.add 2) λy=>aN .i64 g (j.add 4) λz=>cZ y z 1 λA=>aN .i64 g A λB=>f (B==t) g) (f true o)))) λC p=>ap (!C) (k 15 p) (k 0 p)))))))
abbrev EH:bn:=Aw ie
theorem Ow:SS ol (Aw ie):=sl 140746640326899 [(6,[(24,.b)]),(8,[(7,.b)]),(14,[(33,.b)])] func182
def gv:T9:=λd f w k=>nn d λA=>cC w (A.add 1) λB=>cZ B f 5 λC=>bD 5 w C λi=>aL w Jd 75 λg D=>dZ 5 D g i λe=>aN .i64 e (g.add 0) λj=>cE (S:=Int) (λh=>ap (j==9) (aN .i64 e (g.add 2) λl=>G9 .i64 1 l λm=>h m e) (ap (j==10) (aN .i64 e (g.add 3) λn=>G9 .i64 1 n λo=>h o e) (ap (j==8) (drew e λb=>nn d λp=>cC b (aY (p.add 0) 0) λq=>aN .i64 b (g.add 4) λr=>cZ q r 2 λs=>aN .i64 b (s.add 0) λt=>h t b) (h 0 e)))) λu c=>nn d λv=>cC c (v.add 3) λx=>cZ x f 1 λy=>aN .i64 c y λz=>ap ((tB .i64 u z) !=0) (k 16 c) (k 0 c)
abbrev Ds:bn:=Aw gv
theorem ME:SS nM (Aw gv):=sl 140737557659763 [(6,[(6,(.i .i64))])] func183
def Dt(V:T93)(W:T94)(ia:T9)(jE:T9)(ie:T9)(gv:T9):T49:=λG p w k=>aL w G 24 λD X=>aL X SA 136 λF H=>cC H (D.add 0) λY=>cZ Y p 2 λZ=>bD 2 H Z λI=>aL H #[Iv 0,.slice none 0 0] 78 λg w9=>dZ 2 w9 g I λJ=>drew J λb=>bD 1 b D λq=>cC b (g.add 1) λh=>cC b (g.add 1) λL=>bD 2 b g λr=>V L b λi e=>ai 2 g b e (ai 1 (g.add 1) b e (ai 1 D b e (W r e λj l=>ai 1 (g.add 1) b l (ai 1 D b l (lz #[.slice none 0 0,.slice none 0 0,.slice none 0 0,.slice none 0 0] 0 1 q λs=>aL l (eM (eM (eM s 1 (.slice h.a h.n h.c)) 2 (.slice i.a i.n i.c)) 3 (.slice j.a j.n j.c)) 295 λd M=>rJ (.func (.func oh) #[.pointer (some d)] #[]) (rJ (.func (.func qa) #[.pointer (some d)] #[]) (rJ (.func (.func ol) #[.pointer (some d)] #[]) (rJ (.func (.func nM) #[.pointer (some d)] #[]) (aL M #[(.func (.func oh) #[.pointer (some d)] #[]),(.func (.func qa) #[.pointer (some d)] #[]),(.func (.func ol) #[.pointer (some d)] #[]),(.func (.func nM) #[.pointer (some d)] #[])] 132 λN t=>cC t (g.add 1) λO=>kH (S:=Int) (λP f u=>ap (decide (f<((O.n:Nat):Int))) (kH (S:=Int) (λQ m o=>ap (decide (m<((4:Nat):Int))) (cZ (Sl.mk (some N) 4 4) m 1 λR=>sX o R λT=>m5 (kw [(GR,(aqh V)),(Kj,(aqi W)),(oh,(Aw ia)),(qa,(Aw jE)),(ol,(Aw ie)),(nM,(Aw gv))]) T #[Iv f] o λU v=>xy .i64 U λy=>ap (y !=0) (dZ 3 v F #[Iv p,Iv f,Iv y] λz=>bD 3 z F λA=>k A z) (Q (aG .i64 (m+1)) v)) (P (aG .i64 (f+1)) o)) 0 u) (dZ 3 u F SA λB=>bD 3 B F λC=>k C B)) 0 t)))))))))
theorem V5 a b c d e f:E [.ag,.i .i64] [.ag] [(GR,aqh a),(Kj,aqi b),(oh,Aw c),(qa,Aw d),(ol,Aw e),(nM,Aw f)] 4571494470389238 [(6,[(39,(.i .i64))]),(13,[(44,(.i .i64))])] f123=λx=>Dt a b c d e f x.1 x.2:=be
def nw:=Dt oJ pb ia jE ie gv
theorem V6:SS JD (abf nw):=so func123 (.c Zu (.c acQ (.c Ov (.c SE (.c Ow (.c ME .z)))))) (V5 oJ pb ia jE ie gv)
def Fa(qH:aqQ)(nw:T49):Zs:=λL w k=>aL w L 24 λj w2=>aL w2 SA 136 λc J=>cE (S:=Bool) (λJ5=>cC J (j.add 0) λs6=>ap (decide (((s6.n:Nat):Int)<1)) (J5 true J) (cC J (j.add 0) λs7=>(J5 (decide (((s7.n:Nat):Int)>32)) J))) λb8 M=>ap b8 (dZ 3 M c #[(Iv (-1)),(Iv (-1)),Iv 12] λl=>bD 3 l c λm=>k m l) (cC M (j.add 0) λo=>cE (S:=Unit) (λN=>kH (S:=Int) (λO d f=>ap (decide (d<((o.n:Nat):Int))) (cZ o d 2 λP=>bD 2 f P λp=>aL f #[Iv 0,.slice none 0 0] 78 λq Q=>dZ 2 Q q p λr=>bD 2 r q λs=>qH s r λa t=>ap ((a.1,a.2).2 !=0) (dZ 3 t c #[Iv d,(Iv (a.1,a.2).1),(Iv (a.1,a.2).2)] λu=>bD 3 u c λv=>k v u) (O (aG .i64 (d+1)) t)) (N () f)) 0 M) λa7 b=>cC b (j.add 0) λR=>cZ R 0 2 λT=>aN .i64 b (T.add 0) λU=>ap (U !=0) (dZ 3 b c #[Iv 0,(Iv (-1)),Iv 16] λy=>bD 3 y c λz=>k z y) (cC b (j.add 0) λV=>kH (S:=Int) (λW g h=>ap (decide (g<((V.n:Nat):Int))) (bD 1 h j λA=>nw A g h λB X=>aL X SA 136 λi Y=>dZ 3 Y i B λe=>bD 3 e i λC=>Zl ([(0,0)] ++([(1,0)] ++([(2,0)] ++[]))) C SA λZ=>ap (!Z) (bD 3 e i λD=>dZ 3 e c D λF=>bD 3 F c λG=>k G F) (W (aG .i64 (g+1)) e)) (dZ 3 h c SA λH=>bD 3 H c λI=>k I H)) 0 b))
theorem XA a c:E [.ag] [.ag] [(Qe,aqR a),(JD,abf c)] 292206227409338878 [(1,[(18,.b)]),(5,[]),(6,[(23,(.i .i64))]),(21,[(50,(.i .i64))])] f74=λx=>Fa a c x:=be
def oL:=Fa qH nw
theorem XB:SS K8 (Od oL):=so func74 (.c abh (.c V6 .z)) (XA qH nw)
def Fb(oL:Zs):T2:=λa w k=>aL w a 24 λe d=>bD 1 d e λb=>oL b d λc f=>Zl ([(0,0)] ++([(1,0)] ++([(2,0)] ++[]))) c SA λg=>k g f
theorem XC a:E [.ag] [.b] [(K8,Od a)] 6 [] f37=λx=>Fb a x:=be
def gG:=Fb oL
theorem Ld:SS As (Je gG):=so func37 (.c XB .z) (XC oL)
def iU:aqE:=λa aBA aBB w k=>k ((decide (a≥aBA))&&(decide (a≤aBB))) w
theorem V7:SS JC (aqF iU):=sl 71 [] func108
def GW(iU:aqE):T2:=λHS w k=>aL w HS 43 λb r=>aN .i64 r (b.add 0) λs=>iU s 1 16 r λt f=>ap t (aN .i64 f (b.add 1) λu=>aN .i64 f (b.add 0) λv=>iU u 0 (aG .i64 (16 - v)) f λx g=>ap x (aN .i64 g (b.add 2) λh=>iU h 1 1048576 g λi c=>ap i (aN .i64 c (b.add 3) λj=>iU j 0 1048576 c λl d=>ap l (aN .i64 d (b.add 4) λm=>iU m 1 1000 d λn e=>ap n (aN .i64 e (b.add 5) λo=>iU o 0 8 e λp q=>k p q) (k false e)) (k false d)) (k false c)) (k false g)) (k false f)
theorem Zx a:E [.ag] [.b] [(JC,aqF a)] 14 [] f65=λx=>GW a x:=be
def oM:=GW iU
theorem Zy:SS GQ (Je oM):=so func65 (.c V7 .z) (Zx iU)
def sB:T82:=λafm pL w k=>ap ((((decide (afm<1))||(decide (afm>1048576)))||(decide (pL<1)))||(decide (pL>16))) (k (none,10) w) (Bt Tryz.prog 69 (Iv (aG .i64 (pL+1))) (Iv (aG .i64 (pL+1))) w λs1 d=>aL d #[.slice none 0 0,Iv afm,.slice s1.a s1.n s1.c] 206 λe f=>k ((some e),0) f)
theorem afn:SS MA (aqf sB):=sl 524339 [] func66
def uV(w:World)(k:(Option Addr)→aq):Prop:= aL w #[.slice none 0 0] 190 λa b=>k (some a) b
theorem ajE:SS Uv (Xy uV):=sl 1 [] func67
def nZ(w:World)(k:(Option Addr)→aq):Prop:= mkMap Tryz.prog 207 none w λp1 a=>aL a #[Iv 0,.slice none 0 0,(.map p1)] 211 λb c=>k (some b) c
theorem afo:SS MB (Xy nZ):=sl 1 [] func68
def m4(w:World)(k:(Option Addr)→aq):Prop:= aL w #[.slice none 0 0] 184 λa b=>k (some a) b
theorem aha:SS Qc (Xy m4):=sl 1 [] func69
def gH:T1:=λb a w k=>ap (decide (a≥0)) (nn b λc=>cC w (c.add 2) λd=>(k (decide (a<((d.n:Nat):Int))) w)) (k false w)
theorem Le:SS uO (qu gH):=sl 19 [] func133
def cU:T1:=λa ahb w k=>ap (decide (ahb≥0)) (nn a λb=>cC w (b.add 0) λc=>(k (decide (ahb<((c.n:Nat):Int))) w)) (k false w)
abbrev Du:bn:=qu cU
theorem Dv:SS jg (qu cU):=sl 19 [] func156
def r4:Uw:=λa w k=>k (decide (a≥1)) w
abbrev TS:bn:=AF r4
theorem acR:SS Bw (AF r4):=sl 5 [] func210
def vO(g:T1)(n:T1)(r4:Uw):T45:=λa b c aq0 w k=>cE (S:=Bool) (λd=>g a b w λh e=>ap (!h) (d true e) (m5 (kw [(uO,(qu g)),(jg,(qu n)),(Bw,(AF r4))]) aq0 #[Iv c] e λi j=>HL i λl=>d (!l) j)) λm f=>ap m (k 10 f) (k 0 f)
theorem MF a c d:E [.p,.i .i64,.i .i64,.raw] [.i .i64] [(uO,qu a),(jg,qu c),(Bw,AF d)] 262415 [(1,[(18,.b)])] f209=λx=>vO a c d x.1 x.2.1 x.2.2.1 x.2.2.2:=be
def aQ:=vO gH cU r4
theorem nP:SS ji (abe aQ):=so func209 (.c Le (.c Dv (.c acR .z))) (MF gH cU r4)
def vQ(C:T45):GV:=λb d e w k=>ap (eL b) (k (0,2) w) (C b d e (.func (.func Bw) #[] #[]) w λu f=>ap (u !=0) (k (0,u) f) (nn b λx=>cC f (x.add 0) λl=>nn b λy=>aN .i64 f (y.add 1) λz=>ap (decide (e>(aG .i64 (z - ((l.n:Nat):Int))))) (k (0,21) f) (nn b λA=>cC f (A.add 2) λv=>cZ v d 1 λB=>aN .i64 f B λm=>cZ v d 1 λo=>bJ f o (Iv (aG .i64 (m+1))) λj=>nn b λp=>cC j (p.add 0) λq=>ao9 q 1 0 ((l.n:Nat):Int) ((l.n:Nat):Int) λh=>qd Tryz.prog #[156,3] 156 [.slice h.a h.n h.c,Iv e] j λi r=>nn b λs=>bJ r (s.add 0) (.slice i.a i.n i.c) λt=>k (((l.n:Nat):Int),0) t)))
theorem MG a:E [.p,.i .i64,.i .i64] [.i .i64,.i .i64] [(ji,abe a)] 2147617735 [] f159=λx=>vQ a x.1 x.2.1 x.2.2:=be
def aD:=vQ aQ
theorem kf:SS jh (yO aD):=so func159 (.c nP .z) (MG aQ)
def MH(aD:GV):T65:=λc e w k=>aL w #[Iv 0] 99 λa h=>ap (eL c) (dZ 1 h a #[Iv 0] λi=>bD 1 i a λf=>k (f,2) i) (aD c e 1 h λb j=>ap ((b.1,b.2).2 !=0) (dZ 1 j a #[Iv 0] λl=>bD 1 l a λg=>k (g,(b.1,b.2).2) l) (dZ 1 j a #[(Iv (b.1,b.2).1)] λm=>bD 1 m a λd=>k (d,0) m))
theorem afp a:E [.p,.i .i64] [.ag,.i .i64] [(jh,yO a)] 262899 [] f109=λx=>MH a x.1 x.2:=be
def tX:=MH aD
theorem afq:SS VU (adR tX):=so func109 (.c kf .z) (afp aD)
def Qg(aD:GV):T65:=λc e w k=>aL w #[Iv 0] 100 λa h=>ap (eL c) (dZ 1 h a #[Iv 0] λi=>bD 1 i a λf=>k (f,2) i) (aD c e 1 h λb j=>ap ((b.1,b.2).2 !=0) (dZ 1 j a #[Iv 0] λl=>bD 1 l a λg=>k (g,(b.1,b.2).2) l) (dZ 1 j a #[(Iv (b.1,b.2).1)] λm=>bD 1 m a λd=>k (d,0) m))
theorem ahc a:E [.p,.i .i64] [.ag,.i .i64] [(jh,yO a)] 262899 [] f110=λx=>Qg a x.1 x.2:=be
def xo:=Qg aD
theorem ahd:SS YS (adR xo):=so func110 (.c kf .z) (ahc aD)
def MI(aD:GV):T70:=λb c w k=>ap (eL b) (k (none,2) w) (aD b c 2 w λa e=>ap ((a.1,a.2).2 !=0) (k (none,(a.1,a.2).2) e) (lz SA 0 3 #[(Iv (-1)),Iv 0,(Iv (a.1,a.2).1)] λd=>aL e d 232 λf g=>aL g #[(.slice (some f) 1 1)] 235 λh i=>k ((some h),0) i))
theorem afr a:E [.p,.i .i64] [.p,.i .i64] [(jh,yO a)] 131827 [] f111=λx=>MI a x.1 x.2:=be
def tY:=MI aD
theorem afs:SS VV (alK tY):=so func111 (.c kf .z) (afr aD)
def bZ:T2:=λd w k=>aL w d 102 λc b=>aN .i64 b (c.add 1) λe=>ap (decide (e≥1)) (aN .i64 b (c.add 1) λf=>ap (decide (f≤16)) (aN .i64 b (c.add 2) λg=>ap (decide (g≥0)) (aN .i64 b (c.add 2) λh=>aN .i64 b (c.add 1) λi=>(k (decide (h≤(aG .i64 (16 - i)))) b)) (k false b)) (k false b)) (k false b)
theorem xI:SS qn (Je bZ):=sl 6 [] func160
def MJ(y:T2)(aD:GV):T85:=λc p avv V8 w k=>aL w SA 102 λb u=>aL u SA 102 λo v=>dZ 3 v o #[Iv 0,Iv avv,Iv V8] λq=>ap (eL c) (dZ 3 q b SA λt=>bD 3 t b λr=>k (r,2) t) (bD 3 q o λs=>y s q λx d=>ap (!x) (dZ 3 d b SA λe=>bD 3 e b λf=>k (f,10) e) (aD c p 2 d λa g=>ap ((a.1,a.2).2 !=0) (dZ 3 g b SA λh=>bD 3 h b λi=>k (i,(a.1,a.2).2) h) (bJ g (o.add 0) (Iv (a.1,a.2).1) λj=>bD 3 j o λl=>dZ 3 j b l λm=>bD 3 m b λn=>k (n,0) m)))
theorem aft a b:E [.p,.i .i64,.i .i64,.i .i64] [.ag,.i .i64] [(qn,Je a),(jh,yO b)] 4296089359 [] f112=λx=>MJ a b x.1 x.2.1 x.2.2.1 x.2.2.2:=be
def tZ:=MJ bZ aD
theorem afu:SS VW (alP tZ):=so func112 (.c xI (.c kf .z)) (aft bZ aD)
def uW(F:T65)(G:T65)(H:T70)(I:T85):T9:=λa sg w k=>nn a λA=>aR w (A.add 7) λp2=>F p2 sg w λf B=>nn a λC=>dZ 1 B (C.add 12) (f.1,f.2).1 λi=>ap ((f.1,f.2).2 !=0) (k (f.1,f.2).2 i) (nn a λD=>aR i (D.add 7) λp8=>G p8 sg i λg j=>nn a λl=>dZ 1 j (l.add 13) (g.1,g.2).1 λe=>ap ((g.1,g.2).2 !=0) (k (g.1,g.2).2 e) (nn a λm=>aR e (m.add 7) λp14=>H p14 sg e λb n=>nn a λo=>bJ n (o.add 9) (.pointer (b.1,b.2).1) λh=>ap ((b.1,b.2).2 !=0) (k (b.1,b.2).2 h) (drew h λc=>nn a λp=>aR c (p.add 7) λq=>nn a λr=>aN .i64 c (aY (r.add 1) 0) λt=>nn a λu=>aN .i64 c (aY (u.add 1) 1) λv=>I q sg t v c λd x=>nn a λy=>dZ 3 x (y.add 14) (d.1,d.2).1 λz=>k (d.1,d.2).2 z)))
theorem Lf a b c d:E [.p,.i .i64] [.i .i64] [(VU,adR a),(YS,adR b),(VV,alK c),(VW,alP d)] 281483566907411 [] f70=λx=>uW a b c d x.1 x.2:=be
def fp:=uW tX xo tY tZ
abbrev CA:bn:=Aw fp
theorem Lg:SS m3 (Aw fp):=so func70 (.c afq (.c ahd (.c afs (.c afu .z)))) (Lf tX xo tY tZ)
def cH:T7:=λa w k=>aL w a 144 λd c=>aN .i64 c (d.add 0) λe=>k (aG .i64 (e+2)) c
theorem AZ:SS uy (AX cH):=sl 6 [] func128
def bz:T2:=λd w k=>aL w d 241 λc e=>drew e λb=>aN .i64 b (c.add 1) λf=>ap (decide (f≥0)) (aN .i64 b (c.add 1) λg=>ap (decide (g≤8)) (aN .i64 b (c.add 0) λh=>ap (decide (h≥0)) (aN .i64 b (c.add 0) λi=>aN .i64 b (c.add 1) λj=>G9 .i64 1 j λl=>(k (decide (i≤(aG .i64 (1048576 - l)))) b)) (k false b)) (k false b)) (k false b)
theorem sC:SS qD (Je bz):=sl 6 [] func186
def Dw(j:T2):T7:=λc w k=>aL w c 241 λd f=>bD 2 f d λe=>j e f λg b=>ap (!g) (k (-1) b) (aN .i64 b (d.add 0) λh=>aN .i64 b (d.add 1) λi=>k (Sx .i64 (rX .i64 h 4) i) b)
theorem V9 a:E [.ag] [.i .i64] [(qD,Je a)] 38 [] f162=λx=>Dw a x:=be
def fq:=Dw bz
theorem JM:SS Dg (AX fq):=so func162 (.c sC .z) (V9 bz)
def vR(r:T45):T43:=λa b Lh d w k=>ap (eL a) (k 2 w) (r a b Lh (.func (.func jg) #[.pointer a] #[]) w λi c=>ap (i !=0) (k i c) (nn a λm=>cC c (m.add 2) λj=>cZ j b 1 λn=>aN .i64 c n λo=>cZ j b 1 λp=>bJ c p (Iv (aG .i64 (o+1))) λl=>nn a λq=>cC l (q.add 0) λf=>cZ f Lh 1 λg=>bJ l g (Iv d) λh=>k 0 h))
theorem MK a:E [.p,.i .i64,.i .i64,.i .i64] [.i .i64] [(ji,abe a)] 527119 [] f161=λx=>vR a x.1 x.2.1 x.2.2.1 x.2.2.2:=be
def aM:=vR aQ
theorem nQ:SS lI (abd aM):=so func161 (.c nP .z) (MK aQ)
def ML(aD:GV)(cH:T7)(fq:T7)(aM:T43):T85:=λd h MM V8 w k=>aL w #[Iv 0,Iv 0] 144 λa v=>ap (eL d) (dZ 2 v a #[Iv 0,Iv 0] λH=>bD 2 H a λx=>k (x,2) H) (ap (((decide (MM<0))||(decide (V8<MM)))||(decide (V8>8))) (dZ 2 v a #[Iv 0,Iv 0] λI=>bD 2 I a λy=>k (y,10) I) (G9 .i64 1 MM λL=>aD d h (aG .i64 (3+L)) v λc J=>ap ((c.1,c.2).2 !=0) (dZ 2 J a #[Iv 0,Iv 0] λj=>bD 2 j a λl=>k (l,(c.1,c.2).2) j) (aL J #[Iv 0,Iv 0] 144 λe z=>dZ 2 z e #[(Iv (c.1,c.2).1),Iv V8] λA=>aL A #[Iv 0,Iv 0] 241 λf B=>dZ 2 B f #[(Iv (aG .i64 ((c.1,c.2).1+3))),Iv MM] λC=>drew C λb=>bD 2 b e λm=>bD 2 b f λn=>cH m b λD o=>ai 2 f b o (fq n o λF G=>aM d h D F G λp g=>ap (p !=0) (dZ 2 g a #[Iv 0,Iv 0] λq=>bD 2 q a λr=>k (r,p) q) (bD 2 g e λs=>dZ 2 g a s λt=>bD 2 t a λu=>k (u,0) t)))))
theorem afv a b c d:E [.p,.i .i64,.i .i64,.i .i64] [.ag,.i .i64] [(jh,yO a),(uy,AX b),(Dg,AX c),(lI,abd d)] 1152925902653947663 [] f113=λx=>ML a b c d x.1 x.2.1 x.2.2.1 x.2.2.2:=be
def sD:=ML aD cH fq aM
theorem afw:SS VX (alP sD):=so func113 (.c kf (.c AZ (.c JM (.c nQ .z)))) (afv aD cH fq aM)
def k9:Zr:=λa w k=>aL w a 99 λe d=>bD 1 d e λb=>lz SA 0 1 b λc=>aL d c 238 λf g=>k (some f) g
theorem SF:SS Hj (JJ k9):=sl 6 [] func114
def th(X:T85)(k9:Zr):T9:=λb sg w k=>kH (S:=Int) (λY B U=>ap (decide (B<sg)) (cE (S:=(Addr×Int)) (λV=>drew U λd=>nn b λC=>aR d (C.add 7) λp7=>nn b λD=>aN .i64 d (aY (D.add 1) 5) λW=>nn b λl=>aN .i64 d (aY (l.add 1) 5) λr=>both (X p7 sg (Vn 2 W) r d λe F=>aL F #[Iv 0,Iv 0] 144 λs f=>ai 1 (aY (l.add 1) 5) d f (ai 1 (aY (D.add 1) 5) d f (ai 1 (C.add 7) d f (dZ 2 f s (e.1,e.2).1 λG=>V (s,(e.1,e.2).2) G)))) (aL d #[Iv 0,Iv 0] 144 λt g=>ai 1 (aY (l.add 1) 5) d g (ai 1 (aY (D.add 1) 5) d g (ai 1 (C.add 7) d g (X p7 sg (Vn 2 W) r g λh H=>dZ 2 H t (h.1,h.2).1 λI=>V (t,(h.1,h.2).2) I))))) λi u=>ap (i.2 !=0) (k i.2 u) (drew u λj=>bD 2 j i.1 λv=>nn b λJ=>bD 1 j (J.add 12) λx=>k9 x j λL y=>ai 2 i.1 j y (lz #[.pointer b,Iv B,Iv 0,Iv 0,.pointer none,.slice none 0 0,.slice none 0 0,.nilFunc,.pointer none,.nilFunc,.pointer none,.nilFunc,.pointer none,.slice none 0 0,.bool false,.nilFunc,.nilFunc,.nilFunc,Iv 0,.nilFunc,.pointer none,Iv 0,.bool false,.bool false,.nilFunc,.nilFunc,Iv 0,.nilFunc,Iv 0,.nilFunc,Iv 0,.nilFunc] 2 2 v λz=>aL y (eM z 4 (.pointer L)) 154 λm M=>bJ M (m.add 7) (.func (.func fZ) #[.pointer (some m)] #[]) λA=>nn b λN=>cC A (N.add 19) λo=>aL A #[.pointer (some m)] 141 λO P=>qd Tryz.prog #[105,105] 105 [.slice o.a o.n o.c,(.slice (some O) 1 1)] P λp Q=>nn b λR=>bJ Q (R.add 19) (.slice p.a p.n p.c) λT=>Y (aG .i64 (B+1)) T))) (k 0 U)) 0 w
theorem Jf b c:E [.p,.i .i64] [.i .i64] [(VX,alP b),(Hj,JJ c)] 17179873267 [(3,[(10,(.i .i64))]),(8,[(6,.a),(7,(.i .i64))])] f71=λx=>th b c x.1 x.2:=be
def eo:=th sD k9
abbrev AG:bn:=Aw eo
theorem Jg:SS lG (Aw eo):=so func71 (.c afw (.c SF .z)) (Jf sD k9)
def de:T35:=λa b w k=>kH (S:=Int) (λi e c=>ap (decide (e<((b.n:Nat):Int))) (cZ b e 1 λj=>aN .i64 c j λg=>cE (S:=Bool) (λh=>ap ((eL a)||(decide (g<0))) (h true c) (nn a λl=>cC c (l.add 0) λm=>(h (decide (g≥((m.n:Nat):Int))) c))) λo d=>ap o (k false d) (i (aG .i64 (e+1)) d)) (k true c)) 0 w
theorem Dx:SS yM (TP de):=sl 134219731 [(3,[(9,(.i .i64))]),(8,[(27,.b)])] func184
def Dy(h:T35):T6:=λa b c w k=>ap ((eL a)||(eL b)) (k 2 w) (aL w #[Iv c] 3 λe f=>h a (Sl.mk (some e) 1 1) f λg d=>ap (!g) (k 17 d) (k 0 d))
theorem Wa a:E [.p,.p,.i .i64] [.i .i64] [(yM,TP a)] 16583 [] f124=λx=>Dy a x.1 x.2.1 x.2.2:=be
def bq:=Dy de
theorem ri:SS pH (ry bq):=so func124 (.c Dx .z) (Wa de)
def Cc(C:T6)(aD:GV):T51:=λb h m XD w k=>C b h XD w λv i=>ap (v !=0) (k (0,v) i) (nn b λy=>cC i (y.add 0) λz=>cZ z XD 3 λA=>aN .i64 i (A.add 1) λx=>ap (decide ((aG .i64 (x+1))>32)) (k (0,23) i) (aD h m 2 i λg o=>ap ((g.1,g.2).2 !=0) (k (0,(g.1,g.2).2) o) (nn b λB=>cC o (B.add 0) λe=>lz SA 0 3 #[Iv XD,(Iv (aG .i64 (x+1))),(Iv (g.1,g.2).1)] λj=>aL o j 232 λp q=>qd Tryz.prog #[233,233] 233 [.slice e.a e.n e.c,(.slice (some p) 1 1)] q λf r=>nn b λs=>bJ r (s.add 0) (.slice f.a f.n f.c) λl=>nn b λt=>cC l (t.add 0) λu=>(k ((aG .i64 (((u.n:Nat):Int) - 1)),0) l))))
theorem UA a b:E [.p,.p,.i .i64,.i .i64] [.i .i64,.i .i64] [(pH,ry a),(jh,yO b)] 551903837967 [] f116=λx=>Cc a b x.1 x.2.1 x.2.2.1 x.2.2.2:=be
def cQ:=Cc bq aD
theorem Cd:SS vF (adO cQ):=so func116 (.c ri (.c kf .z)) (UA bq aD)
def lF(w:World)(k:(Array Value)→aq):Prop:= aL w Dn 119 λf h=>aL h Dn 119 λg i=>kH (S:=Int) (λj d e=>ap (decide (d<8)) (GG (g.add 10) 8 d 1 λl=>bJ e l (Iv (-1)) λm=>j (aG .i64 (d+1)) m) (bD 19 e g λa=>dZ 19 e f a λb=>bD 19 b f λc=>k c b)) 0 i
theorem TU:SS Ki (ajD lF):=sl 31 [(4,[(3,(.i .i64))])] func91
def Kq(aD:GV):T65:=λc e w k=>aL w #[Iv 0] 116 λa h=>ap (eL c) (dZ 1 h a #[Iv 0] λi=>bD 1 i a λf=>k (f,2) i) (aD c e 3 h λb j=>ap ((b.1,b.2).2 !=0) (dZ 1 j a #[Iv 0] λl=>bD 1 l a λg=>k (g,(b.1,b.2).2) l) (dZ 1 j a #[(Iv (b.1,b.2).1)] λm=>bD 1 m a λd=>k (d,0) m))
theorem acS a:E [.p,.i .i64] [.ag,.i .i64] [(jh,yO a)] 262899 [] f173=λx=>Kq a x.1 x.2:=be
def r5:=Kq aD
theorem acT:SS TJ (adR r5):=so func173 (.c kf .z) (acS aD)
def dw:T35:=λa b w k=>kH (S:=Int) (λi e c=>ap (decide (e<((b.n:Nat):Int))) (cZ b e 1 λj=>aN .i64 c j λg=>cE (S:=Bool) (λh=>ap ((eL a)||(decide (g<0))) (h true c) (nn a λl=>cC c (l.add 0) λm=>(h (decide (g≥((m.n:Nat):Int))) c))) λo d=>ap o (k false d) (i (aG .i64 (e+1)) d)) (k true c)) 0 w
abbrev Zz:bn:=TP dw
theorem GX:SS tv (TP dw):=sl 134219731 [(3,[(9,(.i .i64))]),(8,[(27,.b)])] func101
def GY(Z:T35):aqI:=λb H9 w k=>ap (eL b) (k (0,2) w) (cE (S:=Bool) (λP=>ap (H9 !=(-1)) (aL w #[Iv H9] 3 λR T=>Z b (Sl.mk (some R) 1 1) T λU V=>P (!U) V) (P false w)) λW v=>ap W (k (0,17) v) (cE (S:=Bool) (λQ=>ap (H9==(-1)) (nn b λX=>cC v (X.add 0) λx=>(Q (decide (((x.n:Nat):Int)>0)) v)) (Q false v)) λy f=>ap y (k (0,18) f) (nn b λz=>cC f (z.add 0) λo=>aL f #[Iv 0,Iv 0,.slice none 0 0] 187 λg A=>dZ 3 A g #[Iv H9,Iv 0,.slice none 0 0] λd=>cE (S:=Unit) (λp=>ap (H9 !=(-1)) (nn b λB=>cC d (B.add 0) λC=>cZ C H9 3 λh=>cC d (h.add 2) λD=>bJ d (g.add 1) (Iv ((D.n:Nat):Int)) λq=>cC q (h.add 2) λi=>aL q #[(Iv ((o.n:Nat):Int))] 3 λF G=>qd Tryz.prog #[69,69] 69 [.slice i.a i.n i.c,(.slice (some F) 1 1)] G λj H=>bJ H (h.add 2) (.slice j.a j.n j.c) λI=>p () I) (p () d)) λY J=>drew J λe=>nn b λr=>cC e (r.add 0) λl=>bD 3 e g λs=>lz #[Iv 0,Iv 0,.slice none 0 0] 0 3 s λt=>aL e t 187 λL u=>ai 1 (r.add 0) e u (qd Tryz.prog #[188,188] 188 [.slice l.a l.n l.c,(.slice (some L) 1 1)] u λm M=>nn b λN=>bJ M (N.add 0) (.slice m.a m.n m.c) λO=>k (((o.n:Nat):Int),0) O))))
theorem ZA a:E [.p,.i .i64] [.i .i64,.i .i64] [(tv,TP a)] 2199027454963 [(5,[(12,.b)]),(8,[(22,.b)]),(14,[])] f174=λx=>GY a x.1 x.2:=be
def pD:=GY dw
theorem ZB:SS Ob (aqJ pD):=so func174 (.c GX .z) (ZA dw)
def Ce(Q:T65)(pD:aqI):T76:=λe u ann aBC ajG v w k=>aL w v 119 λL M=>nn e λN=>aR M (N.add 7) λp4=>Q p4 u M λj O=>aL O #[Iv 0] 116 λx P=>dZ 1 P x (j.1,j.2).1 λy=>ap ((j.1,j.2).2 !=0) (k (j.1,j.2).2 y) (nn e λz=>aR y (z.add 8) λp11=>pD p11 ann y λd l=>ap ((d.1,d.2).2 !=0) (k (d.1,d.2).2 l) (drew l λb=>nn e λf=>cC b (f.add 11) λh=>bD 1 b x λm=>bD 19 b L λo=>aL b #[Iv ajG] 3 λA g=>ai 19 L b g (ai 1 x b g (ai 1 (f.add 11) b g (lz #[(Iv (d.1,d.2).1),Iv aBC,Iv ajG,Iv 0,Iv 0,Iv 0,Iv 0,Iv 0,Iv 0,Iv 0,Iv 0,Iv 0,Iv 0,Iv 0,Iv 0,Iv 0,Iv 0,Iv 0,Iv 0,Iv 0,Iv 0,Iv 0,Iv 0,(.string (ByteArray.mk #[])),.slice none 0 0,.slice none 0 0,Iv 0,Iv 0] 3 1 m λp=>lz p 4 19 o λq=>ai 1 (f.add 11) b g (aL g (eM q 25 (.slice (some A) 1 1)) 122 λB r=>ai 1 (f.add 11) b r (aL r #[.pointer (some B)] 114 λC s=>ai 1 (f.add 11) b s (qd Tryz.prog #[97,97] 97 [.slice h.a h.n h.c,(.slice (some C) 1 1)] s λi D=>nn e λF=>bJ D (F.add 11) (.slice i.a i.n i.c) λt=>nn e λG=>cC t (G.add 10) λH=>cZ H ajG 4 λI=>dZ 4 t I #[(Iv (d.1,d.2).1),Iv 0,Iv 0,.bool false] λJ=>k 0 J))))))))
theorem UB a b:E [.p,.i .i64,.i .i64,.i .i64,.i .i64,.ag] [.i .i64] [(TJ,adR a),(Ob,aqJ b)] 274945079327 [] f117=λx=>Ce a b x.1 x.2.1 x.2.2.1 x.2.2.2.1 x.2.2.2.2.1 x.2.2.2.2.2:=be
def eX:=Ce r5 pD
theorem II:SS B8 (aqb eX):=so func117 (.c acT (.c ZB .z)) (UB r5 pD)
def tK:T52:=λf g h w k=>drew w λb=>aR b f λp2=>nn p2 λi=>cC b (i.add 0) λd=>aN .i64 b g λe=>cZ d e 1 λj=>aN .i64 b j λl=>aN .i64 b h λm=>cZ d e 1 λn=>bJ b n (Iv (aG .i64 (l+m))) λc=>k () c
def qS(C:T45)(R:Addr→Addr→Addr→World→(aq)→Prop)(Q:Addr→Addr→Addr→Value→World→(aq)→Prop)(i:Option Addr)(d:Int)(Lh:Int)(aq1:Int)(w:World)(k:(Int×Int)→aq):Prop:= aL w #[.pointer i] 93 λe y=>aL y #[Iv Lh] 3 λj z=>aL z #[Iv aq1] 2 λA f=>aR f e λp7=>ap (eL p7) (k (0,2) f) (aR f e λp8=>aN .i64 f j λB=>aR f e λp10=>C p8 d B (.func (.func jg) #[.pointer p10] #[]) f λg a=>ap (g !=0) (k (0,g) a) (aR a e λp13=>nn p13 λl=>cC a (l.add 2) λh=>cZ h d 1 λm=>aN .i64 a m λn=>cZ h d 1 λo=>bJ a o (Iv (aG .i64 (n+1))) λp=>drew p λb=>aR b e λq=>nn q λr=>cC b (r.add 0) λs=>aN .i64 b j λt=>cZ s t 1 λu=>aN .i64 b u λv=>R e j A b λx=>k (v,0) x))
theorem Qh(aQ:T45)(R:Addr→Addr→Addr→World→(aq)→Prop)(Q:Addr→Addr→Addr→Value→World→(aq)→Prop)(x:KT [.p,(.i .i64),(.i .i64),(.i .i64)])(w:World)(k:KT [(.i .i64),(.i .i64)]→aq):ai1 Tryz.prog (kw [(ji,(abe aQ))]) (λq=>apy [(ji,(λargs w c _=>qJ [.p,(.i .i64),(.i .i64),.raw] args λx=>aQ x.1 x.2.1 x.2.2.1 x.2.2.2 w λr w=>c (eV (dB [(.i .i64)] r)) w))] q) (λl w k=>qJ [.a,.a,.a] l λx=>R x.1 x.2.1 x.2.2 w k) (λl v w k=>qJ [.a,.a,.a] l λx=>Q x.1 x.2.1 x.2.2 v w k) 549755813887 (aA2 f175) (xD f175) (xG f175) (ayx f175) (ayw f175) f175 [(.i .i64),(.i .i64)] (dB [.p,(.i .i64),(.i .i64),(.i .i64)] x) w k=qS aQ R Q x.1 x.2.1 x.2.2.1 x.2.2.2 w k:=be
theorem MN(aQ:T45)(R:Addr→Addr→Addr→World→(aq)→Prop)(Q:Addr→Addr→Addr→Value→World→(aq)→Prop)(hpre:E3 Tryz.prog [(ji,(abe aQ))])(hpost:Mn Tryz.prog [(ji,(λargs w c _=>qJ [.p,(.i .i64),(.i .i64),.raw] args λx=>aQ x.1 x.2.1 x.2.2.1 x.2.2.2 w λr w=>c (eV (dB [(.i .i64)] r)) w))])(hR:DR Tryz.prog vJ λl w k=>qJ [.a,.a,.a] l λx=>R x.1 x.2.1 x.2.2 w k)(hP:DP Tryz.prog vJ λl v w k=>qJ [.a,.a,.a] l λx=>Q x.1 x.2.1 x.2.2 v w k):uG Tryz.prog j6 λargs w c=>qJ [.p,(.i .i64),(.i .i64),(.i .i64)] args λx=>qS aQ R Q x.1 x.2.1 x.2.2.1 x.2.2.2 w λr w=>c (eV (dB [(.i .i64),(.i .i64)] r)) w:=
 apV (mask:=549755813887) (rid:=aA3 f175) (mk:=xMk f175) (df:=xDf f175) mixed func175 be ⟨be,be,be,be,be,be⟩ be be (Mm hpre) (λq=>apz hpost) hR hP [.p,(.i .i64),(.i .i64),(.i .i64)] [(.i .i64),(.i .i64)] be (λx w k=>qS aQ R Q x.1 x.2.1 x.2.2.1 x.2.2.2 w k) (λx w k=>Qh aQ R Q x w k)
theorem Li:DR Tryz.prog vJ λl w k=>qJ [.a,.a,.a] l λx=>tK x.1 x.2.1 x.2.2 w λ_ w=>k w:=
 ave (mask:=0) (h:=[]) mixed func219 (Mm (l:=[]) trivial) [.a,.a,.a] be be (λx w k=>tK x.1 x.2.1 x.2.2 w k) (λx w k=>by kernel_rfl)
def aO:T36:=λa b Lh aq1 w k=>qS aQ (λc d e w k=>tK c d e w λ_ w=>k w) (λ_ _ _ _ _ _=>False) a b Lh aq1 w k
abbrev Qi:bn:=YV aO
theorem nq:uG Tryz.prog j6 Qi:=MN aQ _ _ ⟨nP,trivial⟩ ⟨uG.p nP,trivial⟩ Li (λl v w k h=>by
 obtain⟨x,_,h⟩:=y5 h;exact h.elim)
def A0(o:T6)(p:T36):T77:=λa b e c w k=>o a b c w λg d=>ap (g !=0) (k g d) (nn a λi=>cC d (i.add 0) λj=>cZ j c 3 λl=>aN .i64 d (l.add 2) λm=>p b e (aG .i64 (m+1)) 1 d λh n=>k (h.1,h.2).2 n)
theorem SG a b:E [.p,.p,.i .i64,.i .i64] [.i .i64] [(pH,ry a),(j6,YV b)] 133903 [] f118=λx=>A0 a b x.1 x.2.1 x.2.2.1 x.2.2.2:=be
def eu:=A0 bq aO
theorem Hu:SS AR (aqc eu):=so func118 (.c ri (.c nq .z)) (SG bq aO)
def ey:T58:=λa b w k=>aL w a 144 λg f=>bD 2 f g λc=>lz zr6 0 2 c λd=>lz #[Iv 0,Iv 0,Iv 0,Iv 0,Iv 0,Iv 0,Iv 0,.bool false,Iv 0,Iv 0,.pointer none,.nilFunc,Iv 0,Iv 0,Iv 0] 0 6 d λe=>rJ (.func (.func nL) #[] #[]) (aL f (eM (eM e 6 (Iv b)) 11 (.func (.func nL) #[] #[])) 289 λh i=>k (some h) i)
theorem Hv:SS AT (ag9 ey):=sl 22 [] func119
def aJ:T7:=λa w k=>aL w a 144 λd c=>aN .i64 c (d.add 0) λe=>k (aG .i64 (e+1)) c
theorem mS:SS kK (AX aJ):=sl 6 [] func130
def xJ(q:T45):GV:=λa b Lh w k=>ap (eL a) (k (0,2) w) (q a b Lh (.func (.func jg) #[.pointer a] #[]) w λi d=>ap (i !=0) (k (0,i) d) (nn a λl=>cC d (l.add 2) λj=>cZ j b 1 λm=>aN .i64 d m λn=>cZ j b 1 λo=>bJ d o (Iv (aG .i64 (n+1))) λe=>nn a λp=>cC e (p.add 0) λf=>cZ f Lh 1 λg=>aN .i64 e g λh=>k (h,0) e))
theorem Ox a:E [.p,.i .i64,.i .i64] [.i .i64,.i .i64] [(ji,abe a)] 263623 [] f240=λx=>xJ a x.1 x.2.1 x.2.2:=be
def aj:=xJ aQ
theorem dX:SS dI (yO aj):=so func240 (.c nP .z) (Ox aQ)
def Fc(aj:GV):T33:=λcR b c aq2 aBD afx w k=>aj b c aq2 w λa d=>nn aBD λe=>bJ d e (Iv (a.1,a.2).1) λf=>nn cR λg=>bJ f (g.add 11) afx λh=>k (0,(a.1,a.2).2) h
theorem XE a:E [.p,.p,.i .i64,.i .i64,.p,.raw] [.i .i64,.i .i64] [(dI,yO a)] 61503 [] f220=λx=>Fc a x.1 x.2.1 x.2.2.1 x.2.2.2.1 x.2.2.2.2.1 x.2.2.2.2.2:=be
def aZ:=Fc aj
theorem pe:SS nN (V1 aZ):=so func220 (.c dX .z) (XE aj)
def vS(l:T7)(m:T33):T4:=λcR b c w k=>drew w λe=>nn cR λf=>bD 2 e (aY (f.add 0) 0) λd=>nn cR λg=>l d e λh i=>m cR b c h (some (aY (g.add 0) 2)) (.func (.func rL) #[] #[]) i λa j=>k ((a.1,a.2).1,(a.1,a.2).2) j
theorem MO a b:E [.p,.p,.i .i64] [.i .i64,.i .i64] [(kK,AX a),(nN,V1 b)] 199 [] f176=λx=>vS a b x.1 x.2.1 x.2.2:=be
def eY:=vS aJ aZ
abbrev Dz:bn:=lE eY
theorem MP:SS nL (lE eY):=so func176 (.c mS (.c pe .z)) (MO aJ aZ)
def bE:T7:=λa w k=>aL w a 144 λc b=>aN .i64 b (c.add 0) λe=>k e b
theorem sE:SS qB (AX bE):=sl 6 [] func129
def A1(l:T7)(m:T33):T4:=λcR b c w k=>drew w λe=>nn cR λf=>bD 2 e (aY (f.add 0) 0) λd=>nn cR λg=>l d e λh i=>m cR b c h (some (aY (g.add 0) 3)) (.func (.func qM) #[] #[]) i λa j=>k ((a.1,a.2).1,(a.1,a.2).2) j
theorem SH a b:E [.p,.p,.i .i64] [.i .i64,.i .i64] [(qB,AX a),(nN,V1 b)] 199 [] f221=λx=>A1 a b x.1 x.2.1 x.2.2:=be
def iD:=A1 bE aZ
abbrev Hw:bn:=lE iD
theorem SI:SS rL (lE iD):=so func221 (.c sE (.c pe .z)) (SH bE aZ)
def UC(p:T2):T92:=λalT w k=>aL w #[Iv 0,Iv 0] 241 λe m=>aL m #[Iv 0,Iv 0] 241 λf n=>dZ 2 n f #[(Iv (If .i64 alT 4)),(Iv (oC .i64 alT 15))] λj=>bD 2 j f λh=>p h j λo i=>ap (!o) (dZ 2 i e #[Iv 0,Iv 0] λl=>bD 2 l e λa=>k (a,11) l) (bD 2 i f λb=>dZ 2 i e b λc=>bD 2 c e λd=>k (d,0) c)
theorem ajH a:E [.i .i64] [.ag,.i .i64] [(qD,Je a)] 4125 [] f127=λx=>UC a x:=be
def BA:=UC bz
theorem ajI:SS aa8 (ax0 BA):=so func127 (.c sC .z) (ajH bz)
def Fe(n:T7)(aj:GV)(BA:T92):T6:=λcR c d w k=>nn cR λh=>bD 2 w (aY (h.add 0) 0) λe=>n e w λi j=>aj c d i j λa g=>ap ((a.1,a.2).2 !=0) (k (a.1,a.2).2 g) (BA (a.1,a.2).1 g λb l=>nn cR λm=>dZ 2 l (aY (m.add 0) 4) (b.1,b.2).1 λf=>k (b.1,b.2).2 f)
theorem XF a b c:E [.p,.p,.i .i64] [.i .i64] [(uy,AX a),(dI,yO b),(aa8,ax0 c)] 4194759 [] f264=λx=>Fe a b c x.1 x.2.1 x.2.2:=be
def dK:=Fe cH aj BA
theorem Ff:SS Av (ry dK):=so func264 (.c AZ (.c dX (.c ajI .z))) (XF cH aj BA)
def DA(j:T2):T7:=λa w k=>aL w a 241 λe f=>bD 2 f e λb=>j b f λg c=>ap (!g) (k 0 c) (aN .i64 c (e.add 1) λh=>G9 .i64 1 h λi=>k i c)
theorem Wb a:E [.ag] [.i .i64] [(qD,Je a)] 38 [] f131=λx=>DA a x:=be
def cW:=DA bz
theorem DB:SS yL (AX cW):=so func131 (.c sC .z) (Wb bz)
def zk(z:T6)(A:T7):T4:=λcR e f w k=>z cR e f w λr s=>ap (r !=0) (k (6,r) s) (drew s λd=>nn cR λt=>aN .i64 d (aY (t.add 0) 2) λv=>nn cR λu=>aN .i64 d (aY (u.add 0) 3) λx=>nn cR λy=>bD 2 d (aY (y.add 0) 4) λg=>A g d λh b=>ai 1 (aY (u.add 0) 3) d b (ai 1 (aY (t.add 0) 2) d b (ap (decide ((aG .i64 (v - x))<h)) (nn cR λi=>bJ b (i.add 11) (.func (.func oz) #[] #[]) λj=>k (0,0) j) (drew b λc=>nn cR λl=>aN .i64 c (aY (aY (l.add 0) 4) 1) λm=>nn cR λn=>aN .i64 c (aY (aY (n.add 0) 0) 1) λo=>ap (decide (m≥o)) (k (4,0) c) (nn cR λp=>bJ c (p.add 11) (.func (.func rP) #[] #[]) λq=>k (0,0) q)))))
theorem Qj a b:E [.p,.p,.i .i64] [.i .i64,.i .i64] [(Av,ry a),(yL,AX b)] 2199023796679 [] f254=λx=>zk a b x.1 x.2.1 x.2.2:=be
def gJ:=zk dK cW
abbrev Ga:bn:=lE gJ
theorem Qk:SS qM (lE gJ):=so func254 (.c Ff (.c DB .z)) (Qj dK cW)
def Ql(aD:GV):aqU:=λc h MM w k=>aL w #[Iv 0,Iv 0] 241 λa i=>ap (eL c) (dZ 2 i a #[Iv 0,Iv 0] λm=>bD 2 m a λj=>k (j,2) m) (ap ((decide (MM<0))||(decide (MM>8))) (dZ 2 i a #[Iv 0,Iv 0] λn=>bD 2 n a λl=>k (l,10) n) (G9 .i64 1 MM λq=>aD c h q i λb o=>ap ((b.1,b.2).2 !=0) (dZ 2 o a #[Iv 0,Iv 0] λd=>bD 2 d a λe=>k (e,(b.1,b.2).2) d) (dZ 2 o a #[(Iv (b.1,b.2).1),Iv MM] λf=>bD 2 f a λg=>k (g,0) f)))
theorem ahe a:E [.p,.i .i64,.i .i64] [.ag,.i .i64] [(jh,yO a)] 2147502023 [] f296=λx=>Ql a x.1 x.2.1 x.2.2:=be
def xp:=Ql aD
theorem ahf:SS YT (aqV xp):=so func296 (.c kf .z) (ahe aD)
def DC(H:T2)(I:T7):aqW:=λp aBE afy abi w k=>aL w p 241 λq J=>aL J aBE 241 λo F=>cE (S:=Bool) (λG=>bD 2 F q λr=>H r F λL s=>ap (!L) (G true s) (bD 2 s o λt=>H t s λu v=>G (!u) v)) λx e=>ap x (k (none,1) e) (cE (S:=Bool) (λf=>drew e λa=>ap (decide (abi<afy)) (f true a) (bD 2 a q λg=>bD 2 a o λh=>I g a λy i=>ai 2 o a i (I h i λz A=>(f (decide ((aG .u64 ((aG .u64 abi) - (aG .u64 afy)))>(aG .u64 (Vn y z)))) A)))) λB b=>ap B (k (none,10) b) (bD 2 b q λj=>bD 2 b o λl=>lz #[Iv 0,Iv 0,Iv 0,Iv 0,Iv 0,Iv 0,Iv 0,.nilFunc] 0 2 j λm=>lz m 2 2 l λn=>aL b (eM (eM n 4 (Iv afy)) 5 (Iv abi)) 380 λd C=>bJ C (d.add 7) (.func (.func q9) #[.pointer (some d)] #[]) λD=>k ((some d),0) D))
theorem Wc a c:E [.ag,.ag,.i .i64,.i .i64] [.p,.i .i64] [(qD,Je a),(yL,AX c)] 1052476 [(2,[(11,.b)]),(5,[(20,.b)])] f297=λx=>DC a c x.1 x.2.1 x.2.2.1 x.2.2.2:=be
def ny:=DC bz cW
theorem Wd:SS JH (aqX ny):=so func297 (.c sC (.c DB .z)) (Wc bz cW)
def A2(xp:aqU)(ny:aqW):T4:=λcR g h w k=>nn cR λy=>aN .i64 w (aY (aY (y.add 0) 4) 1) λz=>xp g h (aG .i64 (z+1)) w λd A=>aL A #[Iv 0,Iv 0] 241 λi B=>dZ 2 B i (d.1,d.2).1 λj=>ap ((d.1,d.2).2 !=0) (k (6,(d.1,d.2).2) j) (bD 2 j i λl=>nn cR λC=>dZ 2 j (C.add 8) l λm=>drew m λa=>nn cR λn=>bD 2 a (aY (n.add 0) 4) λe=>bD 2 a i λf=>nn cR λo=>aN .i64 a (aY (o.add 0) 3) λp=>nn cR λq=>aN .i64 a (aY (q.add 0) 2) λr=>ny e f p r a λb s=>nn cR λt=>bJ s (t.add 10) (.pointer (b.1,b.2).1) λu=>nn cR λv=>bJ u (v.add 11) (.func (.func qO) #[] #[]) λx=>k (0,(b.1,b.2).2) x)
theorem SJ a b:E [.p,.p,.i .i64] [.i .i64,.i .i64] [(YT,aqV a),(JH,aqX b)] 16778183 [] f277=λx=>A2 a b x.1 x.2.1 x.2.2:=be
def jF:=A2 xp ny
abbrev Hx:bn:=lE jF
theorem SK:SS rP (lE jF):=so func277 (.c ahf (.c Wd .z)) (SJ xp ny)
def Cf(o:T2)(p:T7):T30:=λe f w k=>aL w e 241 λc i=>bD 2 i c λg=>o g i λl j=>ap (!l) (k (-1) j) (drew j λd=>aN .i64 d (c.add 0) λm=>bD 2 d c λh=>p h d λn b=>ai 1 (c.add 0) d b ((k (aG .i64 (m+(oC .i64 f (aG .i64 (n - 1))))) b)))
theorem UD a b:E [.ag,.i .i64] [.i .i64] [(qD,Je a),(yL,AX b)] 150 [] f132=λx=>Cf a b x.1 x.2:=be
def bF:=Cf bz cW
theorem sF:SS qC (YU bF):=so func132 (.c sC (.c DB .z)) (UD bz cW)
def DE(s:T30)(aj:GV):T6:=λa c d w k=>drew w λe=>nn a λm=>bD 2 e (m.add 0) λf=>nn a λn=>aN .i64 e (n.add 4) λp=>s f p e λq r=>aj c d q r λb l=>ap ((b.1,b.2).2 !=0) (k (b.1,b.2).2 l) (nn a λg=>bJ l (g.add 6) (Iv (b.1,b.2).1) λh=>nn a λi=>bJ h (i.add 7) (.func (.func sA) #[.pointer a] #[]) λj=>k 0 j)
theorem We a b:E [.p,.p,.i .i64] [.i .i64] [(qC,YU a),(dI,yO b)] 33554887 [] f316=λx=>DE a b x.1 x.2.1 x.2.2:=be
def nA:=DE bF aj
abbrev JN:bn:=ry nA
theorem Wf:SS q9 (ry nA):=so func316 (.c sF (.c dX .z)) (We bF aj)
def Cg(x:T30)(y:T43):T6:=λa f g w k=>drew w λd=>nn a λr=>bD 2 d (r.add 2) λh=>nn a λs=>aN .i64 d (s.add 4) λt=>nn a λp=>aN .i64 d (p.add 6) λu=>x h t d λv q=>ai 1 (p.add 6) d q (y f g v u q λe c=>ap (e !=0) (k e c) (nn a λi=>aN .i64 c (i.add 4) λj=>nn a λl=>bJ c (l.add 4) (Iv (aG .i64 (j+1))) λm=>nn a λn=>bJ m (n.add 7) (.func (.func q9) #[.pointer a] #[]) λo=>k 0 o))
theorem UE a b:E [.p,.p,.i .i64] [.i .i64] [(qC,YU a),(lI,abd b)] 33554631 [] f341=λx=>Cg a b x.1 x.2.1 x.2.2:=be
def mi:=Cg bF aM
abbrev IJ:bn:=ry mi
theorem UF:SS sA (ry mi):=so func341 (.c sF (.c nQ .z)) (UE bF aM)
def DF(u:T6)(v:T6):T40:=λa d g w k=>ap ((eL a)||(eL d)) (k (false,2) w) (drew w λe=>nn a λn=>aN .i64 e (n.add 4) λo=>nn a λp=>aN .i64 e (p.add 5) λq=>ap (o==q) (k (true,0) e) (nn a λr=>sX e (r.add 7) λs=>m5 (kw [(q9,(ry u)),(sA,(ry v))]) s #[.pointer d,Iv g] e λt m=>xy .i64 t λf=>ap (f !=0) (k (false,f) m) (drew m λc=>nn a λh=>aN .i64 c (h.add 4) λi=>nn a λj=>aN .i64 c (j.add 5) λl=>k ((i==l),0) c)))
theorem Wg a c:E [.p,.p,.i .i64] [.b,.i .i64] [(q9,ry a),(sA,ry c)] 17179935687 [] f317=λx=>DF a c x.1 x.2.1 x.2.2:=be
def nB:=DF nA mi
theorem Wh:SS JI (aba nB):=so func317 (.c Wf (.c UF .z)) (Wg nA mi)
def zl(h:T40):T4:=λcR b c w k=>nn cR λe=>aR w (e.add 10) λp2=>h p2 b c w λa d=>ap (a.1,a.2).1 (nn cR λf=>bJ d (f.add 11) (.func (.func qQ) #[] #[]) λg=>k (0,(a.1,a.2).2) g) (k (0,(a.1,a.2).2) d)
theorem Qm a:E [.p,.p,.i .i64] [.i .i64,.i .i64] [(JI,aba a)] 1049543 [] f298=λx=>zl a x.1 x.2.1 x.2.2:=be
def iV:=zl nB
abbrev Gb:bn:=lE iV
theorem Qn:SS qO (lE iV):=so func298 (.c Wh .z) (Qm nB)
def DG(h:T43):T67:=λcR a b aq2 c afx w k=>nn cR λd=>bJ w (d.add 11) afx λe=>h a b aq2 c e λf g=>k (0,f) g
theorem Wl a:E [.p,.p,.i .i64,.i .i64,.i .i64,.raw] [.i .i64,.i .i64] [(lI,abd a)] 12351 [] f282=λx=>DG a x.1 x.2.1 x.2.2.1 x.2.2.2.1 x.2.2.2.2.1 x.2.2.2.2.2:=be
def dg:=DG aM
theorem DH:SS yN (alJ dg):=so func282 (.c nQ .z) (Wl aM)
def zm(s:T7)(t:T7)(u:T67):T4:=λcR d e w k=>nn cR λo=>bD 2 w (o.add 8) λf=>nn cR λp=>dZ 2 w (aY (p.add 0) 4) f λq=>drew q λc=>nn cR λr=>bD 2 c (aY (r.add 0) 0) λg=>nn cR λn=>bD 2 c (aY (n.add 0) 4) λh=>s g c λi b=>ai 2 (aY (n.add 0) 4) c b (t h b λj l=>u cR d e i j (.func (.func oz) #[] #[]) l λa m=>k ((a.1,a.2).1,(a.1,a.2).2) m)
theorem Qo a b c:E [.p,.p,.i .i64] [.i .i64,.i .i64] [(uy,AX a),(Dg,AX b),(yN,alJ c)] 199 [] f318=λx=>zm a b c x.1 x.2.1 x.2.2:=be
def gK:=zm cH fq dg
abbrev Gc:bn:=lE gK
theorem Qp:SS qQ (lE gK):=so func318 (.c AZ (.c JM (.c DH .z))) (Qo cH fq dg)
def xK(p:T30)(q:T67):T4:=λcR c d w k=>drew w λb=>nn cR λj=>bD 2 b (aY (j.add 0) 4) λe=>nn cR λl=>aN .i64 b (aY (l.add 0) 2) λm=>nn cR λh=>aN .i64 b (h.add 6) λn=>p e m b λo i=>ai 1 (h.add 6) b i (q cR c d o n (.func (.func qN) #[] #[]) i λa g=>k ((a.1,a.2).1,(a.1,a.2).2) g)
theorem Oy a b:E [.p,.p,.i .i64] [.i .i64,.i .i64] [(qC,YU a),(yN,alJ b)] 199 [] f276=λx=>xK a b x.1 x.2.1 x.2.2:=be
def fJ:=xK bF dg
abbrev EI:bn:=lE fJ
theorem Oz:SS oz (lE fJ):=so func276 (.c sF (.c DH .z)) (Oy bF dg)
def zn(n:T7)(o:T43):T4:=λcR b c w k=>drew w λa=>nn cR λh=>bD 2 a (aY (h.add 0) 0) λd=>nn cR λf=>aN .i64 a (aY (f.add 0) 2) λi=>n d a λj g=>ai 1 (aY (f.add 0) 2) a g (o b c j (aG .i64 (i+1)) g λl m=>k (1,l) m)
theorem Qq a b:E [.p,.p,.i .i64] [.i .i64,.i .i64] [(kK,AX a),(lI,abd b)] 199 [] f295=λx=>zn a b x.1 x.2.1 x.2.2:=be
def gL:=zn aJ aM
abbrev Gd:bn:=lE gL
theorem Qr:SS qN (lE gL):=so func295 (.c mS (.c nQ .z)) (Qq aJ aM)
def xL(l:T7)(m:T33):T4:=λcR b c w k=>drew w λe=>nn cR λf=>bD 2 e (aY (f.add 0) 0) λd=>nn cR λg=>l d e λh i=>m cR b c h (some (aY (g.add 0) 2)) (.func (.func rM) #[] #[]) i λa j=>k ((a.1,a.2).1,(a.1,a.2).2) j
theorem OA a b:E [.p,.p,.i .i64] [.i .i64,.i .i64] [(kK,AX a),(nN,V1 b)] 199 [] f213=λx=>xL a b x.1 x.2.1 x.2.2:=be
def fK:=xL aJ aZ
abbrev EJ:bn:=lE fK
theorem OB:SS om (lE fK):=so func213 (.c mS (.c pe .z)) (OA aJ aZ)
def A3(g:T6):T4:=λcR a b w k=>nn cR λc=>bJ w (c.add 11) (.func (.func rN) #[] #[]) λd=>g cR a b d λe f=>k (0,e) f
theorem SM a:E [.p,.p,.i .i64] [.i .i64,.i .i64] [(Av,ry a)] 199 [] f241=λx=>A3 a x.1 x.2.1 x.2.2:=be
def iE:=A3 dK
abbrev Hy:bn:=lE iE
theorem SN:SS rM (lE iE):=so func241 (.c Ff .z) (SM dK)
def A4(n:T7)(o:T67):T4:=λcR c d w k=>drew w λa=>nn cR λi=>bD 2 a (aY (i.add 0) 0) λe=>nn cR λg=>aN .i64 a (aY (g.add 0) 2) λj=>n e a λl h=>ai 1 (aY (g.add 0) 2) a h (o cR c d l (aG .i64 (j - 1)) (.func (.func sy) #[] #[]) h λb m=>k ((b.1,b.2).1,(b.1,b.2).2) m)
theorem SO a b:E [.p,.p,.i .i64] [.i .i64,.i .i64] [(kK,AX a),(yN,alJ b)] 199 [] f263=λx=>A4 a b x.1 x.2.1 x.2.2:=be
def iF:=A4 aJ dg
abbrev Hz:bn:=lE iF
theorem SP:SS rN (lE iF):=so func263 (.c mS (.c DH .z)) (SO aJ dg)
def Ch(t:T7)(u:T33):T4:=λcR d e w k=>drew w λn=>nn cR λo=>bD 2 n (aY (o.add 0) 0) λf=>nn cR λp=>t f n λq r=>u cR d e q (some (aY (p.add 0) 3)) (.func (.func qP) #[] #[]) r λa s=>drew s λc=>nn cR λg=>aN .i64 c (aY (g.add 0) 3) λh=>nn cR λi=>aN .i64 c (aY (i.add 0) 2) λj=>ap (decide (h>(aG .i64 (j - 1)))) (nn cR λl=>bJ c (l.add 11) (.func (.func qb) #[] #[]) λm=>k ((a.1,a.2).1,(a.1,a.2).2) m) (k ((a.1,a.2).1,(a.1,a.2).2) c)
theorem UG a b:E [.p,.p,.i .i64] [.i .i64,.i .i64] [(qB,AX a),(nN,V1 b)] 274877907911 [] f283=λx=>Ch a b x.1 x.2.1 x.2.2:=be
def jA:=Ch bE aZ
abbrev IK:bn:=lE jA
theorem UH:SS sy (lE jA):=so func283 (.c sE (.c pe .z)) (UG bE aZ)
def zo(t:T30)(u:T33):T4:=λcR d e w k=>drew w λf=>nn cR λn=>bD 2 f (aY (n.add 0) 4) λg=>nn cR λo=>aN .i64 f (aY (o.add 0) 2) λp=>nn cR λq=>t g (aG .i64 (p - 1)) f λr s=>u cR d e r (some (q.add 13)) (.func (.func rQ) #[] #[]) s λc h=>drew h λb=>nn cR λi=>aN .i64 b (aY (i.add 0) 3) λj=>nn cR λl=>aN .i64 b (aY (l.add 0) 2) λm=>ap (decide (j<(aG .i64 (m - 1)))) (k (1,(c.1,c.2).2) b) (k ((c.1,c.2).1,(c.1,c.2).2) b)
theorem Qs a b:E [.p,.p,.i .i64] [.i .i64,.i .i64] [(qC,YU a),(nN,V1 b)] 8796093023175 [] f302=λx=>zo a b x.1 x.2.1 x.2.2:=be
def gM:=zo bF aZ
abbrev Ge:bn:=lE gM
theorem Qt:SS qP (lE gM):=so func302 (.c sF (.c pe .z)) (Qs bF aZ)
def zq(v:T45):T42:=λa b Lh azj f w k=>ap (eL a) (k (false,2) w) (v a b Lh (.func (.func jg) #[.pointer a] #[]) w λo e=>ap (o !=0) (k (false,o) e) (nn a λq=>cC e (q.add 2) λp=>cZ p b 1 λr=>aN .i64 e r λs=>cZ p b 1 λt=>bJ e t (Iv (aG .i64 (s+1))) λd=>nn a λu=>cC d (u.add 0) λg=>cZ g Lh 1 λh=>aN .i64 d h λi=>ap (i !=azj) (k (false,0) d) (nn a λj=>cC d (j.add 0) λl=>cZ l Lh 1 λm=>bJ d m (Iv f) λn=>k (true,0) n)))
theorem Qu a:E [.p,.i .i64,.i .i64,.i .i64,.i .i64] [.b,.i .i64] [(ji,abe a)] 2199027473439 [] f200=λx=>zq a x.1 x.2.1 x.2.2.1 x.2.2.2.1 x.2.2.2.2:=be
def aU:=zq aQ
theorem pg:SS m9 (abc aU):=so func200 (.c nP .z) (Qu aQ)
def A5(t:T7)(u:T42):T4:=λcR d e w k=>drew w λb=>nn cR λp=>bD 2 b (aY (p.add 0) 0) λf=>nn cR λn=>aN .i64 b (aY (n.add 0) 3) λq=>nn cR λo=>aN .i64 b (aY (o.add 0) 3) λr=>t f b λs g=>ai 1 (aY (o.add 0) 3) b g (ai 1 (aY (n.add 0) 3) b g (u d e s q (aG .i64 (r+1)) g λa h=>nn cR λi=>bJ h (i.add 7) (.bool (a.1,a.2).1) λj=>nn cR λl=>bJ j (l.add 11) (.func (.func qb) #[] #[]) λm=>k (0,(a.1,a.2).2) m))
theorem SQ a b:E [.p,.p,.i .i64] [.i .i64,.i .i64] [(qB,AX a),(m9,abc b)] 967 [] f323=λx=>A5 a b x.1 x.2.1 x.2.2:=be
def iG:=A5 bE aU
abbrev HA:bn:=lE iG
theorem SR:SS rQ (lE iG):=so func323 (.c sE (.c pg .z)) (SQ bE aU)
def A6(t:T7)(u:T43):T4:=λcR b c w k=>nn cR λv=>Jc w (v.add 7) λx=>ap x (drew w λg=>nn cR λy=>bD 2 g (aY (y.add 0) 0) λh=>nn cR λr=>aN .i64 g (aY (r.add 0) 2) λz=>t h g λA s=>ai 1 (aY (r.add 0) 2) g s (u b c A z s λj l=>k (1,j) l)) (drew w λa=>nn cR λm=>bD 2 a (aY (m.add 0) 0) λd=>nn cR λe=>aN .i64 a (aY (e.add 0) 2) λn=>t d a λo f=>ai 1 (aY (e.add 0) 2) a f (u b c o n f λp q=>k (3,p) q))
theorem SU a b:E [.p,.p,.i .i64] [.i .i64,.i .i64] [(kK,AX a),(lI,abd b)] 4551 [] f303=λx=>A6 a b x.1 x.2.1 x.2.2:=be
def iH:=A6 aJ aM
abbrev HB:bn:=lE iH
theorem SV:SS qb (lE iH):=so func303 (.c mS (.c nQ .z)) (SU aJ aM)
def zu(l:T7)(m:T33):T4:=λcR b c w k=>drew w λe=>nn cR λf=>bD 2 e (aY (f.add 0) 0) λd=>nn cR λg=>l d e λh i=>m cR b c h (some (aY (g.add 0) 3)) (.func (.func o4) #[] #[]) i λa j=>k ((a.1,a.2).1,(a.1,a.2).2) j
theorem Qv a b:E [.p,.p,.i .i64] [.i .i64,.i .i64] [(qB,AX a),(nN,V1 b)] 199 [] f291=λx=>zu a b x.1 x.2.1 x.2.2:=be
def gN:=zu bE aZ
abbrev Gf:bn:=lE gN
theorem Qw:SS o3 (lE gN):=so func291 (.c sE (.c pe .z)) (Qv bE aZ)
def uX(r:T7)(s:T33):T4:=λcR c d w k=>drew w λl=>nn cR λm=>bD 2 l (aY (m.add 0) 0) λe=>nn cR λn=>r e l λo p=>s cR c d o (some (aY (n.add 0) 2)) (.func (.func qt) #[] #[]) p λa q=>drew q λb=>nn cR λf=>aN .i64 b (aY (f.add 0) 3) λh=>nn cR λi=>aN .i64 b (aY (i.add 0) 2) λj=>ap (decide (h≥j)) (k (3,(a.1,a.2).2) b) (k ((a.1,a.2).1,(a.1,a.2).2) b)
theorem Lj a b:E [.p,.p,.i .i64] [.i .i64,.i .i64] [(kK,AX a),(nN,V1 b)] 137438954439 [] f314=λx=>uX a b x.1 x.2.1 x.2.2:=be
def eC:=uX aJ aZ
abbrev CB:bn:=lE eC
theorem Ll:SS o4 (lE eC):=so func314 (.c mS (.c pe .z)) (Lj aJ aZ)
def xM(g:T6):T4:=λcR a b w k=>nn cR λc=>bJ w (c.add 11) (.func (.func pK) #[] #[]) λd=>g cR a b d λe f=>k (0,e) f
theorem OC a:E [.p,.p,.i .i64] [.i .i64,.i .i64] [(Av,ry a)] 199 [] f338=λx=>xM a x.1 x.2.1 x.2.2:=be
def fL:=xM dK
abbrev EK:bn:=lE fL
theorem OD:SS qt (lE fL):=so func338 (.c Ff .z) (OC dK)
def vT(o:T30)(p:T33):T4:=λcR a b w k=>drew w λc=>nn cR λg=>bD 2 c (aY (g.add 0) 4) λd=>nn cR λh=>aN .i64 c (aY (h.add 0) 3) λj=>nn cR λl=>o d j c λm n=>p cR a b m (some (l.add 13)) (.func (.func oA) #[] #[]) n λf e=>k (2,(f.1,f.2).2) e
theorem MQ a b:E [.p,.p,.i .i64] [.i .i64,.i .i64] [(qC,YU a),(nN,V1 b)] 711 [] f357=λx=>vT a b x.1 x.2.1 x.2.2:=be
def eZ:=vT bF aZ
abbrev DI:bn:=lE eZ
theorem MR:SS pK (lE eZ):=so func357 (.c sF (.c pe .z)) (MQ bF aZ)
def xN(p:T7)(q:T42):T4:=λcR e f w k=>drew w λb=>nn cR λl=>bD 2 b (aY (l.add 0) 0) λg=>nn cR λi=>aN .i64 b (aY (i.add 0) 3) λm=>nn cR λj=>aN .i64 b (aY (j.add 0) 3) λn=>p g b λo h=>ai 1 (aY (j.add 0) 3) b h (ai 1 (aY (i.add 0) 3) b h (q e f o m (aG .i64 (n+1)) h λa d=>ap (!(a.1,a.2).1) (k (5,(a.1,a.2).2) d) (k (1,(a.1,a.2).2) d)))
theorem OE a b:E [.p,.p,.i .i64] [.i .i64,.i .i64] [(qB,AX a),(m9,abc b)] 17179870151 [] f373=λx=>xN a b x.1 x.2.1 x.2.2:=be
def fM:=xN bE aU
abbrev EL:bn:=lE fM
theorem OF:SS oA (lE fM):=so func373 (.c sE (.c pg .z)) (OE bE aU)
def Fg(B:T4)(C:T4)(D:T4)(F:T4)(G:T4)(H:T4)(I:T4)(J:T4)(L:T4)(M:T4)(N:T4)(O:T4)(P:T4)(Q:T4)(R:T4)(T:T4)(U:T4)(V:T4)(W:T4)(X:T4):T6:=λcR g h w k=>ap (eL cR) (k 6 w) (cE (S:=Bool) (λs=>nn cR λt=>aN .i64 w (t.add 12) λu=>ap (u !=0) (nn cR λv=>aN .i64 w (v.add 12) λx=>s (x !=2) w) (s false w)) λy f=>ap y (nn cR λz=>aN .i64 f (z.add 12) λA=>k A f) (nn cR λj=>sX f (j.add 11) λl=>m5 (kw [(nL,(lE B)),(rL,(lE C)),(qM,(lE D)),(rP,(lE F)),(qO,(lE G)),(qQ,(lE H)),(oz,(lE I)),(qN,(lE J)),(om,(lE L)),(rM,(lE M)),(rN,(lE N)),(sy,(lE O)),(qP,(lE P)),(rQ,(lE Q)),(qb,(lE R)),(o3,(lE T)),(o4,(lE U)),(qt,(lE V)),(pK,(lE W)),(oA,(lE X))]) l #[.pointer cR,.pointer g,Iv h] f λm c=>HM [(.i .i64),(.i .i64)] m fun(b:Int×Int)=>cE (S:=Int) (λd=>ap (b.2 !=0) (d 6 c) (d b.1 c)) λe n=>nn cR λo=>bJ n (o.add 12) (Iv e) λp=>nn cR λq=>bJ p (q.add 14) (Iv b.2) λr=>k e r))
theorem XG a c d e f g h j l m n o q r s t u v y z:E [.p,.p,.i .i64] [.i .i64] [(nL,lE a),(rL,lE c),(qM,lE d),(rP,lE e),(qO,lE f),(qQ,lE g),(oz,lE h),(qN,lE j),(om,lE l),(rM,lE m),(rN,lE n),(sy,lE o),(qP,lE q),(rQ,lE r),(qb,lE s),(o3,lE t),(o4,lE u),(qt,lE v),(pK,lE y),(oA,lE z)] 2199023260615 [(5,[(12,.b)]),(10,[(7,(.i .i64))])] f120=λx=>Fg a c d e f g h j l m n o q r s t u v y z x.1 x.2.1 x.2.2:=be
def fH:=Fg eY iD gJ jF iV gK fJ gL fK iE iF jA gM iG iH gN eC fL eZ fM
theorem Ln:SS Au (ry fH):=so func120 (.c MP (.c SI (.c Qk (.c SK (.c Qn (.c Qp (.c Oz (.c Qr (.c OB (.c SN (.c SP (.c UH (.c Qt (.c SR (.c SV (.c Qw (.c Ll (.c OD (.c MR (.c OF .z)))))))))))))))))))) (XG eY iD gJ jF iV gK fJ gL fK iE iF jA gM iG iH gN eC fL eZ fM)
def iS:T3:=λcR w k=>ap (eL cR) (k 2 w) (nn cR λa=>aN .i64 w (a.add 14) λc=>k c w)
theorem Og:SS BR (E9 iS):=sl 21 [] func121
def vU(cQ:T51)(lF:World→((Array Value)→aq)→Prop)(eX:T76)(eu:T77)(ey:T58)(fH:T6)(iS:T3)(b:Option Addr)(sg:Int)(w:World)(k:(Int)→aq):Prop:= drew w λt=>nn b λZ=>aR t (Z.add 9) λp3=>nn b λa4=>aR t (a4.add 7) λp5=>cQ p3 p5 sg 0 t λh u=>ap ((h.1,h.2).2 !=0) (k (h.1,h.2).2 u) (nn b λa8=>cC u (a8.add 10) λv=>lz #[Iv 0,Iv 0,Iv 0,.bool false] 0 4 #[(Iv (-2)),Iv 0,Iv 0,.bool false] λi=>aL u i 125 λx y=>qd Tryz.prog #[96,96] 96 [.slice v.a v.n v.c,(.slice (some x) 1 1)] y λe z=>nn b λA=>bJ z (A.add 10) (.slice e.a e.n e.c) λB=>lF B λj C=>eX b sg (-1) 0 (h.1,h.2).1 j C λl m=>ap (l !=0) (k l m) (drew m λf=>nn b λD=>aR f (D.add 9) λF=>nn b λG=>aR f (G.add 7) λH=>eu F H sg 0 f λo d=>ap (o !=0) (k o d) (nn b λI=>cC d (I.add 19) λJ=>cZ J 0 1 λL=>aR d L λM=>nn M λN=>bD 2 d (N.add 2) λp=>ey p 0 d λq O=>cE (S:=Int) (λP=>kH (S:=Int) (λQ r g=>ap (r==0) (nn b λR=>aR g (R.add 7) λT=>fH q T sg g λU V=>Q U V) (P r g)) 0 O) λW s=>ap (W==6) (iS q s λX Y=>k X Y) (k 0 s))))
theorem MS a b c d e f g:E [.p,.i .i64] [.i .i64] [(vF,adO a),(Ki,ajD b),(B8,aqb c),(AR,aqc d),(AT,ag9 e),(Au,ry f),(BR,E9 g)] 302821822780406163834867 [(16,[(10,(.i .i64))]),(17,[(10,(.i .i64))])] f72=λx=>vU a b c d e f g x.1 x.2:=be
def gy:=vU cQ lF eX eu ey fH iS
abbrev DJ:bn:=Aw gy
theorem MU:SS nK (Aw gy):=so func72 (.c Cd (.c TU (.c II (.c Hu (.c Hv (.c Ln (.c Og .z))))))) (MS cQ lF eX eu ey fH iS)
def MV(gG:T2)(oM:T2)(sB:T82)(uV:World→((Option Addr)→aq)→Prop)(nZ:World→((Option Addr)→aq)→Prop)(m4:World→((Option Addr)→aq)→Prop)(fp:T9)(eo:T9)(gy:T9)(g2:Array Value)(g3:Array Value)(w:World)(k:(Option Addr×Int)→aq):Prop:= aL w g2 24 λe w2=>aL w2 g3 43 λd w4=>bD 1 w4 e λg4=>gG g4 w4 λb6 w7=>ap (!b6) (k (none,24) w7) (bD 6 w7 d λg6=>oM g6 w7 λb9 o=>ap (!b9) (k (none,10) o) (aN .i64 o (d.add 0) λb3=>aN .i64 o (d.add 1) λb4=>aN .i64 o (d.add 2) λg7=>sB g7 (aG .i64 (b3+b4)) o λb b5=>ap ((b.1,b.2).2 !=0) (k (none,(b.1,b.2).2) b5) (cE (S:=(Option Addr)) (λi=>drew b5 λa=>bD 1 a e λf=>bD 6 a d λg=>both (uV a λn j=>ai 6 d a j (ai 1 e a j (both (nZ j λJ l=>ai 6 d a l (ai 1 e a l (both (m4 l λg8 q=>ai 6 d a q (ai 1 e a q (ai 6 d a q (ai 1 e a q (lz #[Iv 0,Iv 0,Iv 0,.bool false] 0 4 #[(Iv (-1)),Iv 0,Iv 0,.bool false] λb7=>aL q b7 125 λg9 L=>ai 6 d a L (ai 1 e a L (lz #[.slice none 0 0,Iv 0,Iv 0,Iv 0,Iv 0,Iv 0,Iv 0,.pointer none,.pointer none,.pointer none,.slice none 0 0,.slice none 0 0,Iv 0,Iv 0,Iv 0,Iv 0,Iv 0,.pointer none,.pointer none,.slice none 0 0,Iv 0,Iv 0] 0 1 f λb8=>lz b8 1 6 g λc0=>aL L (eM (eM (eM (eM (eM c0 7 (.pointer (b.1,b.2).1)) 8 (.pointer n)) 17 (.pointer J)) 18 (.pointer g8)) 10 (.slice (some g9) 1 1)) 107 λh0 h1=>i (some h0) h1))))))) (ai 6 d a l (ai 1 e a l (both (m4 l λh2 M=>ai 6 d a M (ai 1 e a M (lz #[Iv 0,Iv 0,Iv 0,.bool false] 0 4 #[(Iv (-1)),Iv 0,Iv 0,.bool false] λc1=>aL M c1 125 λh3 N=>ai 6 d a N (ai 1 e a N (lz #[.slice none 0 0,Iv 0,Iv 0,Iv 0,Iv 0,Iv 0,Iv 0,.pointer none,.pointer none,.pointer none,.slice none 0 0,.slice none 0 0,Iv 0,Iv 0,Iv 0,Iv 0,Iv 0,.pointer none,.pointer none,.slice none 0 0,Iv 0,Iv 0] 0 1 f λc2=>lz c2 1 6 g λc3=>aL N (eM (eM (eM (eM (eM c3 7 (.pointer (b.1,b.2).1)) 8 (.pointer n)) 17 (.pointer J)) 18 (.pointer h2)) 10 (.slice (some h3) 1 1)) 107 λh4 h5=>i (some h4) h5))))) (lz #[Iv 0,Iv 0,Iv 0,.bool false] 0 4 #[(Iv (-1)),Iv 0,Iv 0,.bool false] λc4=>aL l c4 125 λh6 O=>ai 6 d a O (ai 1 e a O (m4 O λh7 P=>ai 6 d a P (ai 1 e a P (lz #[.slice none 0 0,Iv 0,Iv 0,Iv 0,Iv 0,Iv 0,Iv 0,.pointer none,.pointer none,.pointer none,.slice none 0 0,.slice none 0 0,Iv 0,Iv 0,Iv 0,Iv 0,Iv 0,.pointer none,.pointer none,.slice none 0 0,Iv 0,Iv 0] 0 1 f λc5=>lz c5 1 6 g λc6=>aL P (eM (eM (eM (eM (eM c6 7 (.pointer (b.1,b.2).1)) 8 (.pointer n)) 17 (.pointer J)) 18 (.pointer h7)) 10 (.slice (some h6) 1 1)) 107 λh8 h9=>i (some h8) h9))))))))))) (ai 6 d a j (ai 1 e a j (both (nZ j λc7 D=>ai 6 d a D (ai 1 e a D (both (m4 D λi0 Q=>ai 6 d a Q (ai 1 e a Q (lz #[Iv 0,Iv 0,Iv 0,.bool false] 0 4 #[(Iv (-1)),Iv 0,Iv 0,.bool false] λc8=>aL Q c8 125 λi1 R=>ai 6 d a R (ai 1 e a R (lz #[.slice none 0 0,Iv 0,Iv 0,Iv 0,Iv 0,Iv 0,Iv 0,.pointer none,.pointer none,.pointer none,.slice none 0 0,.slice none 0 0,Iv 0,Iv 0,Iv 0,Iv 0,Iv 0,.pointer none,.pointer none,.slice none 0 0,Iv 0,Iv 0] 0 1 f λc9=>lz c9 1 6 g λd0=>aL R (eM (eM (eM (eM (eM d0 7 (.pointer (b.1,b.2).1)) 8 (.pointer n)) 17 (.pointer c7)) 18 (.pointer i0)) 10 (.slice (some i1) 1 1)) 107 λi2 i3=>i (some i2) i3))))) (lz #[Iv 0,Iv 0,Iv 0,.bool false] 0 4 #[(Iv (-1)),Iv 0,Iv 0,.bool false] λd1=>aL D d1 125 λi4 T=>ai 6 d a T (ai 1 e a T (m4 T λi5 U=>ai 6 d a U (ai 1 e a U (lz #[.slice none 0 0,Iv 0,Iv 0,Iv 0,Iv 0,Iv 0,Iv 0,.pointer none,.pointer none,.pointer none,.slice none 0 0,.slice none 0 0,Iv 0,Iv 0,Iv 0,Iv 0,Iv 0,.pointer none,.pointer none,.slice none 0 0,Iv 0,Iv 0] 0 1 f λd2=>lz d2 1 6 g λd3=>aL U (eM (eM (eM (eM (eM d3 7 (.pointer (b.1,b.2).1)) 8 (.pointer n)) 17 (.pointer c7)) 18 (.pointer i5)) 10 (.slice (some i4) 1 1)) 107 λi6 i7=>i (some i6) i7)))))))) (lz #[Iv 0,Iv 0,Iv 0,.bool false] 0 4 #[(Iv (-1)),Iv 0,Iv 0,.bool false] λd4=>aL j d4 125 λi8 V=>ai 6 d a V (ai 1 e a V (nZ V λi9 W=>ai 6 d a W (ai 1 e a W (m4 W λj0 X=>ai 6 d a X (ai 1 e a X (lz #[.slice none 0 0,Iv 0,Iv 0,Iv 0,Iv 0,Iv 0,Iv 0,.pointer none,.pointer none,.pointer none,.slice none 0 0,.slice none 0 0,Iv 0,Iv 0,Iv 0,Iv 0,Iv 0,.pointer none,.pointer none,.slice none 0 0,Iv 0,Iv 0] 0 1 f λd5=>lz d5 1 6 g λd6=>aL X (eM (eM (eM (eM (eM d6 7 (.pointer (b.1,b.2).1)) 8 (.pointer n)) 17 (.pointer i9)) 18 (.pointer j0)) 10 (.slice (some i8) 1 1)) 107 λj1 j2=>i (some j1) j2))))))))))))) (ai 6 d a a (ai 1 e a a (both (uV a λY F=>ai 6 d a F (ai 1 e a F (both (nZ F λd7 G=>ai 6 d a G (ai 1 e a G (both (m4 G λj3 Z=>ai 6 d a Z (ai 1 e a Z (lz #[Iv 0,Iv 0,Iv 0,.bool false] 0 4 #[(Iv (-1)),Iv 0,Iv 0,.bool false] λd8=>aL Z d8 125 λj4 a0=>ai 6 d a a0 (ai 1 e a a0 (lz #[.slice none 0 0,Iv 0,Iv 0,Iv 0,Iv 0,Iv 0,Iv 0,.pointer none,.pointer none,.pointer none,.slice none 0 0,.slice none 0 0,Iv 0,Iv 0,Iv 0,Iv 0,Iv 0,.pointer none,.pointer none,.slice none 0 0,Iv 0,Iv 0] 0 1 f λd9=>lz d9 1 6 g λe0=>aL a0 (eM (eM (eM (eM (eM e0 7 (.pointer (b.1,b.2).1)) 8 (.pointer Y)) 17 (.pointer d7)) 18 (.pointer j3)) 10 (.slice (some j4) 1 1)) 107 λj5 j6=>i (some j5) j6))))) (lz #[Iv 0,Iv 0,Iv 0,.bool false] 0 4 #[(Iv (-1)),Iv 0,Iv 0,.bool false] λe1=>aL G e1 125 λj7 a2=>ai 6 d a a2 (ai 1 e a a2 (m4 a2 λj8 a4=>ai 6 d a a4 (ai 1 e a a4 (lz #[.slice none 0 0,Iv 0,Iv 0,Iv 0,Iv 0,Iv 0,Iv 0,.pointer none,.pointer none,.pointer none,.slice none 0 0,.slice none 0 0,Iv 0,Iv 0,Iv 0,Iv 0,Iv 0,.pointer none,.pointer none,.slice none 0 0,Iv 0,Iv 0] 0 1 f λa5=>lz a5 1 6 g λa6=>aL a4 (eM (eM (eM (eM (eM a6 7 (.pointer (b.1,b.2).1)) 8 (.pointer Y)) 17 (.pointer d7)) 18 (.pointer j8)) 10 (.slice (some j7) 1 1)) 107 λe2 e3=>i (some e2) e3)))))))) (lz #[Iv 0,Iv 0,Iv 0,.bool false] 0 4 #[(Iv (-1)),Iv 0,Iv 0,.bool false] λa7=>aL F a7 125 λe4 s=>ai 6 d a s (ai 1 e a s (nZ s λe5 t=>ai 6 d a t (ai 1 e a t (m4 t λe6 u=>ai 6 d a u (ai 1 e a u (lz #[.slice none 0 0,Iv 0,Iv 0,Iv 0,Iv 0,Iv 0,Iv 0,.pointer none,.pointer none,.pointer none,.slice none 0 0,.slice none 0 0,Iv 0,Iv 0,Iv 0,Iv 0,Iv 0,.pointer none,.pointer none,.slice none 0 0,Iv 0,Iv 0] 0 1 f λa8=>lz a8 1 6 g λa9=>aL u (eM (eM (eM (eM (eM a9 7 (.pointer (b.1,b.2).1)) 8 (.pointer Y)) 17 (.pointer e5)) 18 (.pointer e6)) 10 (.slice (some e4) 1 1)) 107 λe7 e8=>i (some e7) e8)))))))))) (lz #[Iv 0,Iv 0,Iv 0,.bool false] 0 4 #[(Iv (-1)),Iv 0,Iv 0,.bool false] λb0=>aL a b0 125 λe9 v=>ai 6 d a v (ai 1 e a v (uV v λf0 y=>ai 6 d a y (ai 1 e a y (nZ y λf1 z=>ai 6 d a z (ai 1 e a z (m4 z λf2 A=>ai 6 d a A (ai 1 e a A (lz #[.slice none 0 0,Iv 0,Iv 0,Iv 0,Iv 0,Iv 0,Iv 0,.pointer none,.pointer none,.pointer none,.slice none 0 0,.slice none 0 0,Iv 0,Iv 0,Iv 0,Iv 0,Iv 0,.pointer none,.pointer none,.slice none 0 0,Iv 0,Iv 0] 0 1 f λb1=>lz b1 1 6 g λb2=>aL A (eM (eM (eM (eM (eM b2 7 (.pointer (b.1,b.2).1)) 8 (.pointer f0)) 17 (.pointer f1)) 18 (.pointer f2)) 10 (.slice (some e9) 1 1)) 107 λf3 f4=>i (some f3) f4))))))))))))) λh f5=>rJ (.func (.func m3) #[.pointer h] #[]) (rJ (.func (.func lG) #[.pointer h] #[]) (rJ (.func (.func nK) #[.pointer h] #[]) (aL f5 #[(.func (.func m3) #[.pointer h] #[]),(.func (.func lG) #[.pointer h] #[]),(.func (.func nK) #[.pointer h] #[])] 132 λf6 f7=>kH (S:=Int) (λf8 B C=>ap (decide (B<((3:Nat):Int))) (cZ (Sl.mk (some f6) 3 3) B 1 λf9=>sX C f9 λg0=>m5 (kw [(As,(Je gG)),(GQ,(Je oM)),(MA,(aqf sB)),(Uv,(λargs w c=>qJ [] args λx=>uV w λr w=>c (eV (dB [.p] r)) w)),(MB,(λargs w c=>qJ [] args λx=>nZ w λr w=>c (eV (dB [.p] r)) w)),(Qc,(λargs w c=>qJ [] args λx=>m4 w λr w=>c (eV (dB [.p] r)) w)),(m3,(Aw fp)),(lG,(Aw eo)),(nK,(Aw gy))]) g0 #[(Iv (aG .i64 (b3+b4)))] C λg1 H=>xy .i64 g1 λI=>ap (I !=0) (k (none,I) H) (f8 (aG .i64 (B+1)) H)) (k (h,0) C)) 0 f7))))))
theorem afz a b c d e f g h j:E [.ag,.ag] [.p,.i .i64] [(As,Je a),(GQ,Je b),(MA,aqf c),(Uv,Xy d),(MB,Xy e),(Qc,Xy f),(m3,Aw g),(lG,Aw h),(nK,Aw j)] 4679240021428484092 [(12,[(9,.p)]),(16,[(54,(.i .i64))])] f26=λx=>MV a b c d e f g h j x.1 x.2:=be
def j2:=MV gG oM sB uV nZ m4 fp eo gy
theorem Wm:SS Mz (apX j2):=so func26 (.c Ld (.c Zy (.c afn (.c ajE (.c afo (.c aha (.c Lg (.c Jg (.c MU .z))))))))) (afz gG oM sB uV nZ m4 fp eo gy)
def jN:T38:=λIL pL Fh w k=>ap ((((((decide (IL<0))||(decide (IL>1048576)))||(decide (pL<1)))||(decide (pL>16)))||(decide (Fh<1)))||(decide (Fh>1048576))) (k 0 w) ((k (aG .i64 ((aG .i64 ((aG .i64 (1000*Fh))*(aG .i64 (pL+2))))*(aG .i64 (IL+2)))) w))
theorem Qx:SS Iz (ag4 jN):=sl 268435527 [] func35
def xO(m:T1):T9:=λa ahb w k=>cE (S:=Bool) (λc=>ap (eL a) (c true w) (m a ahb w λd e=>c (!d) e)) λf b=>ap f (k 0 b) (nn a λg=>cC b (g.add 0) λh=>cZ h ahb 1 λi=>aN .i64 b i λl=>k l b)
theorem OG a:E [.p,.i .i64] [.i .i64] [(jg,qu a)] 4115 [(1,[(12,.b)])] f103=λx=>xO a x.1 x.2:=be
def cq:=xO cU
theorem xP:SS sP (Aw cq):=so func103 (.c Dv .z) (OG cU)
def xQ(D:T9):T81:=λtW f w k=>aL w tW 116 λx v=>ap (eL f) (k (0,(0,0)) v) (aL v SA 192 λb y=>cE (S:=Unit) (λz=>kH (S:=Int) (λA g h=>ap (decide (g<3)) (aN .i64 h (x.add 0) λB=>D f (aG .i64 (B+g)) h λi j=>GG b 3 g 1 λl=>bJ j l (Iv i) λm=>A (aG .i64 (g+1)) m) (z () h)) 0 y) λC e=>aN .i64 e (b.add 0) λn=>ap (decide (n<2)) (bJ e (b.add 1) (Iv 0) λo=>drew o λc=>aN .i64 c (b.add 0) λp=>aN .i64 c (b.add 1) λq=>aN .i64 c (b.add 2) λr=>k (p,(q,r)) c) (drew e λd=>aN .i64 d (b.add 0) λs=>aN .i64 d (b.add 1) λt=>aN .i64 d (b.add 2) λu=>k (s,(t,u)) d))
theorem OH a:E [.ag,.p] [.i .i64,.i .i64,.i .i64] [(sP,Aw a)] 33562102 [(6,[]),(7,[(11,(.i .i64))])] f63=λx=>xQ a x.1 x.2:=be
def dm:=xQ cq
abbrev OI:bn:=alO dm
theorem EM:SS sO (alO dm):=so func63 (.c xP .z) (OH cq)
def zv(A:T81):Xx:=λb w k=>ap (eL b) (k false w) (nn b λs=>cC w (s.add 19) λr=>cE (S:=Unit) (λt=>kH (S:=Int) (λu f d=>ap (decide (f<((r.n:Nat):Int))) (cZ r f 1 λv=>aR d v λp8=>nn p8 λx=>cC d (x.add 5) λg=>ap (decide (((g.n:Nat):Int)>0)) (k false d) (u (aG .i64 (f+1)) d)) (t () d)) 0 w) λz h=>drew h λa=>nn b λi=>cC a (i.add 11) λj=>cZ j 0 1 λl=>aR a l λp17=>nn p17 λm=>bD 1 a (m.add 3) λe=>nn b λo=>aR a (o.add 7) λp=>A e p a λc q=>(k (decide ((c.1,(c.2.1,c.2.2)).1≥2)) q))
theorem Qy a:E [.p] [.b] [(sO,alO a)] 16900661 [(5,[]),(6,[(15,(.i .i64))])] f46=λx=>zv a x:=be
def dJ:=zv dm
theorem Gg:SS zc (Oc dJ):=so func46 (.c EM .z) (Qy dm)
def eD:T3:=λa w k=>ap (eL a) (k 2 w) (nn a λb=>aN .i64 w (b.add 21) λd=>k d w)
theorem IM:SS B6 (E9 eD):=sl 21 [] func31
def dS:T7:=λb w k=>aL w b 102 λd c=>aN .i64 c (d.add 1) λe=>G9 .i64 1 e λf=>k (aG .i64 (f - 1)) c
theorem Gh:SS zf (AX dS):=sl 6 [] func185
def zw(t:T2)(u:T7)(v:T9):T69:=λg a w k=>aL w g 102 λe h=>cE (S:=Bool) (λo=>ap (eL a) (o true h) (bD 3 h e λi=>t i h λq r=>o (!q) r)) λs p=>ap s (k 0 p) (drew p λf=>bD 3 f e λb=>aN .i64 f (e.add 0) λj=>u b f λl d=>ai 1 (e.add 0) f d (v a (aG .i64 (j+1)) d λm n=>k (Sx .i64 l m) n))
theorem Qz a c d:E [.ag,.p] [.i .i64] [(qn,Je a),(zf,AX c),(sP,Aw d)] 2070 [(1,[(11,.b)])] f125=λx=>zw a c d x.1 x.2:=be
def dU:=zw bZ dS cq
theorem Gi:SS ze (ap6 dU):=so func125 (.c xI (.c Gh (.c xP .z))) (Qz bZ dS cq)
def ph:T59:=λMW a w k=>ap ((decide (a≥0))&&(decide (a<64))) (alc .i64 MW a λc=>k ((oC .i64 c 1)==1) w) (k false w)
theorem Y0:SS Qd (ap3 ph):=sl 19 [] func81
def Ci(l:T69)(m:T59):T53:=λa b c w k=>aL w a 102 λf e=>bD 3 e f λd=>l d b e λg h=>m g c h λi j=>k i j
theorem UI a c:E [.ag,.p,.i .i64] [.b] [(ze,ap6 a),(Qd,ap3 c)] 78 [] f78=λx=>Ci a c x.1 x.2.1 x.2.2:=be
def jB:=Ci dU ph
theorem UJ:SS vE (adP jB):=so func78 (.c Gi (.c Y0 .z)) (UI dU ph)
def dD:T3:=λa w k=>ap (eL a) (k 0 w) (nn a λb=>cC w (b.add 0) λc=>k ((c.n:Nat):Int) w)
theorem EN:SS xC (E9 dD):=sl 21 [] func73
def xR(o:T3)(p:T9):T53:=λf a afA w k=>aL w f 99 λd h=>drew h λb=>ap (!(eL a)) (aN .i64 b (d.add 0) λi=>ap (decide (i≥0)) (aN .i64 b (d.add 0) λj=>o a b λl e=>ai 1 (d.add 0) b e (ap (decide (j<l)) (aN .i64 e (d.add 0) λm=>p a m e λn g=>k (n==afA) g) (k false e))) (k false b)) (k false b)
theorem OJ a c:E [.ag,.p,.i .i64] [.b] [(xC,E9 a),(sP,Aw c)] 78 [] f126=λx=>xR a c x.1 x.2.1 x.2.2:=be
def jQ:=xR dD cq
theorem OL:SS Eu (adP jQ):=so func126 (.c EN (.c xP .z)) (OJ dD cq)
def zx(n:T53):T64:=λa c w k=>drew w λb=>ap (!(eL a)) (nn a λf=>aN .i64 b (f.add 1) λg=>ap (g==2) (nn a λh=>bD 1 b (h.add 0) λe=>nn a λi=>aN .i64 b (i.add 2) λj=>n e c j b λl m=>k l m) (k false b)) (k false b)
theorem QA a:E [.p,.p] [.b] [(Eu,adP a)] 19 [] f79=λx=>zx a x.1 x.2:=be
def gO:=zx jQ
theorem QB:SS tF (alI gO):=so func79 (.c OL .z) (QA jQ)
def ae:T1:=λb a w k=>cE (S:=Bool) (λc=>ap (a !=0) (nn b λe=>aN .i64 w (e.add 21) λg=>c (g==0) w) (c false w)) λh d=>ap h (nn b λi=>bJ d (i.add 21) (Iv a) λj=>k (a !=0) j) (k (a !=0) d)
theorem bj:SS bf (qu ae):=sl 8211 [(1,[(13,.b)])] func153
def cB:T3:=λcR w k=>cE (S:=Bool) (λb=>ap (eL cR) (b true w) (nn cR λd=>aN .i64 w (d.add 12) λe=>ap (e !=2) (nn cR λf=>aN .i64 w (f.add 12) λg=>b (g !=1) w) (b false w))) λh c=>ap h (k 0 c) (nn cR λi=>aN .i64 c (i.add 13) λj=>k j c)
theorem BS:SS qg (E9 cB):=sl 262149 [(1,[(18,.b)])] func168
def bg:VZ:=λa b avw w k=>nn a λc=>bJ w (c.add 18) (Iv b) λd=>nn a λe=>bJ d (e.add 19) avw λf=>nn a λg=>bJ f (g.add 7) (.func (.func lJ) #[.pointer a] #[]) λh=>k () h
theorem qT:SS oY (Lb bg):=sl 0 [] func167
def di:T68:=λa avx azk avy w k=>nn a λb=>bJ w (b.add 15) avx λc=>nn a λd=>bJ c (d.add 16) azk λe=>nn a λf=>bJ e (f.add 17) avy λg=>nn a λh=>bJ g (h.add 7) (.func (.func lK) #[.pointer a] #[]) λi=>k () i
theorem DK:SS vH (ap5 di):=sl 0 [] func169
def vW(h:T3)(bg:VZ)(di:T68):T27:=λahg a w k=>ap (ahg==1) (drew w λb=>aR b a λp2=>aR b a λp3=>nn p3 λe=>aR b (e.add 8) λp5=>aR b a λp6=>h p5 b λf c=>ai 1 a b c (ai 1 a b c (bg p2 f (.func (.func fZ) #[.pointer p6] #[]) c λ_u g=>k () g))) (aR w a λp10=>aR w a λp11=>di p10 (.func (.func kz) #[] #[]) (.func (.func oE) #[] #[.pointer (some a)]) (.func (.func qo) #[.pointer p11] #[]) w λ_u d=>k () d)
theorem MX b c d:E [.i .i64,.a] [] [(qg,E9 b),(oY,Lb c),(vH,ap5 d)] 18 [] f166=λx=>vW b c d x.1 x.2:=be
def gA:=vW cB bg di
abbrev DM:bn:=Hs gA
theorem MY:SS pI (Hs gA):=so func166 (.c BS (.c qT (.c DK .z))) (MX cB bg di)
def jJ:Zr:=λa w k=>aL w a 144 λf e=>bD 2 e f λb=>lz zr6 0 2 b λc=>lz #[Iv 0,Iv 0,Iv 0,Iv 0,Iv 0,Iv 0,Iv 0,.bool false,Iv 0,Iv 0,.pointer none,.nilFunc,Iv 0,Iv 0,Iv 0] 0 6 c λd=>rJ (.func (.func o3) #[] #[]) (aL e (eM d 11 (.func (.func o3) #[] #[])) 289 λg h=>k (some g) h)
theorem QC:SS zg (JJ jJ):=sl 6 [] func270
def bl:T39:=λa aq3 aq4 w k=>nn a λb=>bJ w (b.add 8) (.pointer aq3) λc=>nn a λd=>bJ c (d.add 9) aq4 λe=>nn a λf=>bJ e (f.add 7) (.func (.func kT) #[.pointer a] #[]) λg=>k () g
theorem sS:SS mK (aa9 bl):=sl 0 [] func164
def jr:T58:=λa Wn w k=>aL w a 102 λf e=>bD 3 e f λb=>lz #[Iv 0,Iv 0,Iv 0,Iv 0,Iv 0,Iv 0,Iv 0,.nilFunc] 0 3 b λc=>aL e (eM (eM c 3 (Iv Wn)) 6 (Iv (-1))) 346 λd g=>bJ g (d.add 7) (.func (.func uP) #[.pointer (some d)] #[]) λh=>k (some d) h
theorem MZ:SS Dh (ag9 jr):=sl 54 [] func216
def xS(B:T58):T0:=λa w k=>nn a λt=>Jc w (t.add 14) λu=>ap u (nn a λv=>bJ w (v.add 7) (.func (.func fZ) #[.pointer a] #[]) λx=>k () x) (drew w λc=>nn a λy=>aN .i64 c (y.add 1) λz=>nn a λA=>aR c (A.add 0) λp9=>nn p9 λf=>aN .i64 c (aY (f.add 1) 0) λg=>ap (decide (z≥g)) (drew c λb=>nn a λh=>aR b (h.add 0) λp14=>nn p14 λi=>bD 3 b (i.add 14) λe=>nn a λj=>aN .i64 b (j.add 1) λl=>B e l b λp19 m=>nn a λn=>bJ m (n.add 12) (.pointer p19) λo=>nn a λp=>bJ o (p.add 7) (.func (.func lM) #[.pointer a] #[]) λq=>k () q) (nn a λr=>bJ c (r.add 7) (.func (.func my) #[.pointer a] #[]) λs=>k () s))
theorem OM a:E [.p] [] [(Dh,ag9 a)] 131201 [] f172=λx=>xS a x:=be
def ig:=xS jr
abbrev EO:bn:=bY ig
theorem ON:SS qo (bY ig):=so func172 (.c MZ .z) (OM jr)
def jR:Zr:=λa w k=>aL w a 102 λf e=>bD 3 e f λb=>lz #[Iv 0,Iv 0,Iv 0,Iv 0,Iv 0,Iv 0,Iv 0,.nilFunc] 0 3 b λc=>aL e (eM c 6 (Iv (-1))) 346 λd g=>bJ g (d.add 7) (.func (.func uT) #[.pointer (some d)] #[]) λh=>k (some d) h
theorem OO:SS EB (JJ jR):=sl 14 [] func391
def e7:T3:=λa w k=>ap (eL a) (k 2 w) (nn a λb=>aN .i64 w (b.add 1) λd=>ap (d !=1) (k 19 w) (nn a λe=>bJ w (e.add 1) (Iv 2) λf=>k 0 f))
theorem IN:SS Ca (E9 e7):=sl 77 [] func252
def uY(jR:Zr)(e7:T3)(ae:T1):T0:=λa w k=>nn a λH=>Jc w (H.add 14) λI=>ap I (nn a λJ=>sX w (J.add 24) λL=>nn a λM=>bJ w (M.add 7) L λN=>k () N) (cE (S:=Bool) (λG=>nn a λO=>aR w (O.add 20) λp9=>ap (!(eL p9)) (nn a λh=>Jc w (h.add 22) λi=>G (!i) w) (G false w)) λj b=>ap j (nn a λl=>bJ b (l.add 7) (.func (.func kA) #[.pointer a] #[]) λm=>k () m) (nn a λn=>Jc b (n.add 23) λo=>ap (!o) (nn a λp=>aR b (p.add 0) λp19=>nn p19 λq=>bD 3 b (q.add 14) λd=>jR d b λr s=>nn a λt=>bJ s (t.add 12) (.pointer r) λu=>nn a λv=>bJ u (v.add 7) (.func (.func mR) #[.pointer a] #[]) λx=>k () x) (drew b λc=>nn a λe=>aR c (e.add 0) λy=>nn a λz=>aR c (z.add 4) λA=>e7 A c λB f=>ai 1 (e.add 0) c f (ae y B f λC g=>ap (!C) (nn a λD=>bJ g (D.add 7) (.func (.func nl) #[.pointer a] #[]) λF=>k () F) (k () g)))))
theorem Lo a c d:E [.p] [] [(EB,JJ a),(Ca,E9 c),(bf,qu d)] 281476050718721 [(4,[(30,.b)])] f384=λx=>uY a c d x:=be
def fu:=uY jR e7 ae
abbrev CC:bn:=bY fu
theorem Lp:SS o8 (bY fu):=so func384 (.c OO (.c IN (.c bj .z))) (Lo jR e7 ae)
def vX(jJ:Zr)(bl:T39)(ig:T0)(fu:T0):T0:=λb w k=>nn b λy=>cC w (y.add 13) λz=>ap (((z.n:Nat):Int)==0) (nn b λA=>sX w (A.add 17) λB=>m5 (kw [(zg,(JJ jJ)),(mK,(aa9 bl)),(qo,(bY ig)),(o8,(bY fu))]) B #[] w λC D=>HM [] C fun(H:Unit)=>k () D) (drew w λd=>nn b λF=>aR d (F.add 0) λp10=>nn p10 λh=>cC d (h.add 19) λi=>nn b λj=>cC d (j.add 13) λl=>cZ l 0 1 λm=>aN .i64 d m λo=>cZ i o 1 λp=>aR d p λp18=>nn b λq=>cC d (q.add 13) λr=>slL r 1 1 λe=>nn b λs=>bJ d (s.add 13) (.slice e.a e.n e.c) λf=>nn p18 λt=>bD 2 f (t.add 2) λg=>jJ g f λu v=>bl b u (.func (.func rO) #[.pointer b] #[]) v λ_u x=>k () x)
theorem M0 a b c d:E [.p] [] [(zg,JJ a),(mK,aa9 b),(qo,bY c),(o8,bY d)] 261 [] f247=λx=>vX a b c d x:=be
def bQ:=vX jJ bl ig fu
theorem vY:SS nO (bY bQ):=so func247 (.c QC (.c sS (.c ON (.c Lp .z)))) (M0 jJ bl ig fu)
def iq:Uw:=λa w k=>k true w
abbrev ua:bn:=AF iq
theorem Kr:SS kz (AF iq):=sl 4 [] func170
def zy(p:T35):aqw:=λa b aq5 w k=>aL w #[Iv b,Iv aq5] 3 λh i=>p a (Sl.mk (some h) 2 2) i λj g=>ap (!j) (k false g) (kH (S:=Int) (λl d c=>ap (decide (d>aq5)) (nn a λm=>cC c (m.add 0) λn=>cZ n d 3 λe=>aN .i64 c (e.add 0) λf=>l f c) (k (d==aq5) c)) b g)
theorem QD a:E [.p,.i .i64,.i .i64] [.b] [(tv,TP a)] 36935 [(5,[(1,(.i .i64))])] f383=λx=>zy a x.1 x.2.1 x.2.2:=be
def jK:=zy dw
theorem QE:SS F8 (aqx jK):=so func383 (.c GX .z) (QD dw)
def vZ(jK:aqw):T72:=λb l n m w k=>drew w λc=>aR c l λp2=>nn p2 λo=>aR c (o.add 0) λp4=>nn p4 λp=>aR c (p.add 8) λp6=>aN .i64 c n λq=>jK p6 b q c λr a=>ap r (k true a) (aR a m λp10=>ap (!(eL p10)) (aR a l λp11=>nn p11 λe=>aR a (e.add 0) λp13=>nn p13 λf=>aR a (f.add 8) λp15=>aR a m λp16=>nn p16 λg=>aN .i64 a (g.add 0) λh=>jK p15 b h a λi j=>k i j) (k false a))
theorem M1 c:E [.i .i64,.a,.a,.a] [.b] [(F8,aqx c)] 47 [] f382=λx=>vZ c x.1 x.2.1 x.2.2.1 x.2.2.2:=be
def gB:=vZ jK
abbrev wc:bn:=alL gB
theorem M2:SS lR (alL gB):=so func382 (.c QE .z) (M1 jK)
def A7(n:T3)(o:T0)(iq:Uw)(gB:T72):T28:=λa aq6 w k=>cE (S:=Bool) (λj=>drew w λb=>ap (aq6 !=2) (j true b) (nn a λl=>sX b (l.add 15) λp=>nn a λq=>aR b (q.add 8) λp6=>n p6 b λr m=>ai 1 (l.add 15) b m (m5 (kw [(qg,(E9 n)),(nO,(bY o)),(kz,(AF iq)),(lR,(alL gB))]) p #[Iv r] m λs d=>HL s λe=>j (!e) d))) λf c=>ap f (o a c λ_u g=>k () g) (nn a λh=>bJ c (h.add 9) (.func (.func qq) #[.pointer a] #[]) λi=>k () i)
theorem SX a c d e:E [.p,.i .i64] [] [(qg,E9 a),(nO,bY c),(kz,AF d),(lR,alL e)] 262145 [(0,[(18,.b)])] f271=λx=>A7 a c d e x.1 x.2:=be
def jG:=A7 cB bQ iq gB
abbrev HC:bn:=JK jG
theorem SY:SS rO (JK jG):=so func271 (.c BS (.c vY (.c Kr (.c M2 .z)))) (SX cB bQ iq gB)
def uc(bg:VZ):T27:=λa b w k=>aR w b λp1=>aR w b λp2=>bg p1 a (.func (.func fZ) #[.pointer p2] #[]) w λ_u c=>k () c
theorem Ks b:E [.i .i64,.a] [] [(oY,Lb b)] 0 [] f171=λx=>uc b x.1 x.2:=be
def eN:=uc bg
abbrev BB:bn:=Hs eN
theorem Ku:SS oE (Hs eN):=so func171 (.c qT .z) (Ks bg)
def bG:SB:=λa Sc w k=>nn a λb=>bJ w (b.add 25) Sc λc=>nn a λd=>bJ c (d.add 12) (.pointer none) λe=>nn a λf=>bJ e (f.add 7) (.func (.func mP) #[.pointer a] #[]) λg=>k () g
theorem tL:SS qR (EE bG):=sl 0 [] func353
def xT(bG:SB):T28:=λb c w k=>aL w #[.pointer b] 141 λd h=>aL h #[Iv c] 3 λi e=>aR e d λp5=>nn p5 λj=>sX e (j.add 24) λl=>aL e #[.nilFunc] 1 λg m=>bJ m g l λa=>aR a d λp11=>bG p11 (.func (.func o9) #[] #[.pointer (some d),.pointer (some i),.pointer (some g)]) a λ_u f=>k () f
theorem OP a:E [.p,.i .i64] [] [(qR,EE a)] 28 [] f377=λx=>xT a x.1 x.2:=be
def cO:=xT bG
abbrev EP:bn:=JK cO
theorem EQ:SS mQ (JK cO):=so func377 (.c tL .z) (OP bG)
def xU(h:T3)(i:T0)(q:T27)(r:T28):T28:=λa aq6 w k=>ap (aq6==1) (drew w λb=>nn a λf=>sX b (f.add 16) λj=>nn a λl=>aR b (l.add 8) λp5=>h p5 b λm g=>ai 1 (f.add 16) b g (m5 (kw [(qg,(E9 h)),(nO,(bY i)),(oE,(Hs q)),(mQ,(JK r))]) j #[Iv m] g λn o=>HM [] n fun(p:Unit)=>k () o)) (nn a λc=>bJ w (c.add 14) (.bool true) λd=>i a d λ_u e=>k () e)
theorem OQ a b c d:E [.p,.i .i64] [] [(qg,E9 a),(nO,bY b),(oE,Hs c),(mQ,JK d)] 33 [] f292=λx=>xU a b c d x.1 x.2:=be
def ij:=xU cB bQ eN cO
abbrev ER:bn:=JK ij
theorem OR:SS qq (JK ij):=so func292 (.c BS (.c vY (.c Ku (.c EQ .z)))) (OQ cB bQ eN cO)
def cf:SB:=λa Sc w k=>nn a λb=>bJ w (b.add 29) Sc λc=>nn a λd=>bJ c (d.add 7) (.func (.func ni) #[.pointer a] #[]) λe=>k () e
theorem xV:SS sR (EE cf):=sl 0 [] func337
def ud(bg:VZ)(cf:SB):T27:=λahg a w k=>ap (ahg==4) (drew w λb=>aR b a λp2=>aR b a λp3=>nn p3 λd=>aN .i64 b (d.add 18) λf=>aR b a λp6=>bg p2 f (.func (.func gu) #[.pointer p6] #[]) b λ_u g=>k () g) (aR w a λp8=>aR w a λp9=>cf p8 (.func (.func gu) #[.pointer p9] #[]) w λ_u c=>k () c)
theorem Kv b c:E [.i .i64,.a] [] [(oY,Lb b),(sR,EE c)] 18 [] f365=λx=>ud b c x.1 x.2:=be
def eO:=ud bg cf
abbrev BC:bn:=Hs eO
theorem Kw:SS oH (Hs eO):=so func365 (.c qT (.c xV .z)) (Kv bg cf)
def af:T8:=λa w k=>drew w λb=>nn a λc=>cC b (c.add 5) λd=>nn a λe=>cC b (e.add 5) λf=>cZ d (aG .i64 (((f.n:Nat):Int) - 1)) 1 λh=>aR b h λp7=>k p7 b
theorem cg:SS bV (F9 af):=sl 5 [] func289
def zA(V:T8)(di:T68):T0:=λW w k=>aL w #[.pointer W] 141 λb w2=>cE (S:=(Addr×Addr)) (λG=>drew w2 λa=>aR a b λp5=>aR a b λp6=>nn p6 λc=>aR a (c.add 20) λp8=>both (V p5 a λp9 d=>ai 1 (c.add 20) a d (ai 1 b a d (nn p9 λe=>aN .i64 d (e.add 0) λH=>both (aL d #[Iv 0] 3 λI f=>ai 1 (e.add 0) d f (ai 1 (c.add 20) a f (ai 1 b a f (ai 1 b a f (aL f #[.pointer none] 114 λJ g=>ai 1 (e.add 0) d g (ai 1 (c.add 20) a g (ai 1 b a g (ai 1 b a g (bJ g I (Iv H) λz=>ai 1 (c.add 20) a z (ai 1 b a z (bJ z J (.pointer p8) λX=>G (I,J) X))))))))))) (aL d #[.pointer none] 114 λL h=>ai 1 (e.add 0) d h (ai 1 (c.add 20) a h (ai 1 b a h (ai 1 b a h (aL h #[Iv 0] 3 λM i=>ai 1 (e.add 0) d i (ai 1 (c.add 20) a i (ai 1 b a i (ai 1 b a i (bJ i M (Iv H) λA=>ai 1 (c.add 20) a A (ai 1 b a A (bJ A L (.pointer p8) λY=>G (M,L) Y)))))))))))))) (both (aL a #[Iv 0] 3 λr j=>ai 1 (c.add 20) a j (ai 1 b a j (ai 1 b a j (both (V p5 j λZ l=>ai 1 (c.add 20) a l (ai 1 b a l (nn Z λN=>aN .i64 l (N.add 0) λa0=>aL l #[.pointer none] 114 λO m=>ai 1 (N.add 0) l m (ai 1 (c.add 20) a m (ai 1 b a m (ai 1 b a m (bJ m r (Iv a0) λB=>ai 1 (c.add 20) a B (ai 1 b a B (bJ B O (.pointer p8) λa2=>G (r,O) a2))))))))) (aL j #[.pointer none] 114 λP s=>ai 1 (c.add 20) a s (ai 1 b a s (ai 1 b a s (V p5 s λa3 t=>ai 1 (c.add 20) a t (ai 1 b a t (nn a3 λa4=>aN .i64 t (a4.add 0) λa5=>bJ t r (Iv a5) λC=>ai 1 (c.add 20) a C (ai 1 b a C (bJ C P (.pointer p8) λa6=>G (r,P) a6)))))))))))) (aL a #[.pointer none] 114 λu n=>ai 1 (c.add 20) a n (ai 1 b a n (ai 1 b a n (both (V p5 n λa8 o=>ai 1 (c.add 20) a o (ai 1 b a o (nn a8 λQ=>aN .i64 o (Q.add 0) λa9=>aL o #[Iv 0] 3 λR p=>ai 1 (Q.add 0) o p (ai 1 (c.add 20) a p (ai 1 b a p (ai 1 b a p (bJ p R (Iv a9) λD=>ai 1 (c.add 20) a D (ai 1 b a D (bJ D u (.pointer p8) λb0=>G (R,u) b0))))))))) (aL n #[Iv 0] 3 λT v=>ai 1 (c.add 20) a v (ai 1 b a v (ai 1 b a v (V p5 v λb1 x=>ai 1 (c.add 20) a x (ai 1 b a x (nn b1 λb2=>aN .i64 x (b2.add 0) λb3=>bJ x T (Iv b3) λF=>ai 1 (c.add 20) a F (ai 1 b a F (bJ F u (.pointer p8) λb4=>G (T,u) b4)))))))))))))) λU y=>aR y b λb5=>aR y b λb6=>aR y b λb7=>di b5 (.func (.func lR) #[] #[.pointer (some b),(.pointer (some U.1)),(.pointer (some U.2))]) (.func (.func mQ) #[.pointer b6] #[]) (.func (.func o8) #[.pointer b7] #[]) y λ_u b8=>k () b8
theorem QF b c:E [.p] [] [(bV,F9 b),(vH,ap5 c)] 14 [(1,[(2,.a),(3,.a)])] f369=λx=>zA b c x:=be
def cm:=zA af di
abbrev zB:bn:=bY cm
theorem zC:SS j9 (bY cm):=so func369 (.c cg (.c DK .z)) (QF af di)
def cN:T22:=λa w k=>aR w a λp1=>aR w a λp2=>nn p1 λb=>bJ w (b.add 7) (.func (.func kV) #[.pointer p2] #[]) λc=>k () c
abbrev we:bn:=EF cN
theorem DN:SS j8 (EF cN):=sl 0 [] func347
def ue(g:T3)(h:T28)(n:T0)(o:T22):T27:=λahg c w k=>ap (ahg !=1) (aR w c λp1=>nn p1 λi=>sX w (i.add 27) λj=>m5 (kw [(qg,(E9 g)),(mQ,(JK h)),(j9,(bY n)),(j8,(EF o))]) j #[] w λl m=>HM [] l fun(p:Unit)=>k () m) (drew w λa=>aR a c λp8=>aR a c λp9=>nn p9 λd=>aR a (d.add 8) λp11=>g p11 a λe b=>ai 1 c a b (h p8 e b λ_u f=>k () f))
theorem Kx b c d e:E [.i .i64,.a] [] [(qg,E9 b),(mQ,JK c),(j9,bY d),(j8,EF e)] 18 [] f376=λx=>ue b c d e x.1 x.2:=be
def eP:=ue cB cO cm cN
abbrev BD:bn:=Hs eP
theorem Ky:SS oI (Hs eP):=so func376 (.c BS (.c EQ (.c zC (.c DN .z)))) (Kx cB cO cm cN)
def uZ(p:T6)(q:T3)(r:T1)(B:T27)(C:T28)(D:T28)(F:T27)(G:T27):T0:=λa w k=>drew w λe=>nn a λs=>aR e (s.add 8) λp3=>nn a λt=>aR e (t.add 0) λp5=>nn p5 λu=>aR e (u.add 7) λp7=>nn a λv=>aN .i64 e (v.add 1) λy=>p p3 p7 y e λd b=>ap (d==0) (k () b) (ap (d==6) (drew b λc=>nn a λf=>aR c (f.add 0) λp14=>nn a λh=>aR c (h.add 8) λp16=>q p16 c λi g=>ai 1 (f.add 0) c g (r p14 i g λz j=>k () j)) (nn a λl=>sX b (l.add 9) λm=>m5 (kw [(Au,(ry p)),(BR,(E9 q)),(bf,(qu r)),(pI,(Hs B)),(rO,(JK C)),(qq,(JK D)),(oH,(Hs F)),(oI,(Hs G))]) m #[Iv d] b λn o=>HM [] n fun(A:Unit)=>k () o))
theorem Lq a b c d e f g h:E [.p] [] [(Au,ry a),(BR,E9 b),(bf,qu c),(pI,Hs d),(rO,JK e),(qq,JK f),(oH,Hs g),(oI,Hs h)] 336068613 [] f212=λx=>uZ a b c d e f g h x:=be
def eE:=uZ fH iS ae gA jG ij eO eP
abbrev u0:bn:=bY eE
theorem Lr:SS kT (bY eE):=so func212 (.c Ln (.c Og (.c bj (.c MY (.c SY (.c OR (.c Kw (.c Ky .z)))))))) (Lq fH iS ae gA jG ij eO eP)
def A8(o:T6)(aj:GV):T46:=λb c f d w k=>o b c d w λg e=>ap (g !=0) (k (false,g) e) (nn b λh=>cC e (h.add 0) λi=>cZ i d 3 λj=>aN .i64 e (j.add 2) λm=>aj c f m e λa n=>(k ((((a.1,a.2).2==0)&&((a.1,a.2).1 !=0)),(a.1,a.2).2) n))
theorem SZ a c:E [.p,.p,.i .i64,.i .i64] [.b,.i .i64] [(pH,ry a),(dI,yO c)] 270095 [] f324=λx=>A8 a c x.1 x.2.1 x.2.2.1 x.2.2.2:=be
def ez:=A8 bq aj
theorem HE:SS AW (YW ez):=so func324 (.c ri (.c dX .z)) (SZ bq aj)
def zD(m:T35):T9:=λa b w k=>aL w #[Iv b] 3 λd e=>m a (Sl.mk (some d) 1 1) e λf c=>ap (!f) (k (-1) c) (nn a λg=>cC c (g.add 0) λh=>cZ h b 3 λi=>aN .i64 c (i.add 0) λl=>k l c)
theorem QG a:E [.p,.i .i64] [.i .i64] [(yM,TP a)] 531 [] f325=λx=>zD a x.1 x.2:=be
def kB:=zD de
theorem QH:SS F5 (Aw kB):=so func325 (.c Dx .z) (QG de)
def Cj(R:T46)(T:T9):T73:=λHS e i w k=>ap ((eL HS)||(eL e)) (k (false,(false,2)) w) (nn HS λJ=>Jc w (J.add 2) λL=>ap L (drew w λI=>nn HS λM=>Jc I (M.add 3) λN=>k (true,(N,0)) I) (drew w λj=>nn HS λO=>aR j (O.add 0) λp8=>nn HS λP=>aN .i64 j (P.add 1) λl=>R p8 e i l j λa g=>ap ((a.1,a.2).2 !=0) (k (false,(false,(a.1,a.2).2)) g) (nn HS λm=>bJ g (m.add 3) (.bool (a.1,a.2).1) λb=>cE (S:=Unit) (λh=>ap (a.1,a.2).1 (nn HS λn=>bJ b (n.add 2) (.bool true) λo=>h () o) (nn HS λp=>aN .i64 b (p.add 1) λq=>nn HS λr=>bJ b (r.add 2) (.bool (q==0)) λs=>h () s)) λQ t=>drew t λc=>nn HS λu=>aR c (u.add 0) λv=>nn HS λx=>aN .i64 c (x.add 1) λy=>T v y c λz A=>nn HS λB=>bJ A (B.add 1) (Iv z) λC=>drew C λd=>nn HS λD=>Jc d (D.add 2) λF=>nn HS λG=>Jc d (G.add 3) λH=>k (F,(H,0)) d)))
theorem UK a c:E [.p,.p,.i .i64] [.b,.b,.i .i64] [(AW,YW a),(F5,Aw c)] 4398046777287 [(13,[])] f304=λx=>Cj a c x.1 x.2.1 x.2.2:=be
def kX:=Cj ez kB
theorem UL:SS Cb (ap9 kX):=so func304 (.c HE (.c QH .z)) (UK ez kB)
def au:MD:=λa w k=>aL w #[Iv 0,Iv 0] 356 λf g=>drew g λd=>nn a λh=>cC d (h.add 24) λi=>nn a λj=>cC d (j.add 24) λl=>cZ i (aG .i64 (((l.n:Nat):Int) - 1)) 2 λo=>bD 2 d o λe=>dZ 2 d f e λb=>bD 2 b f λc=>k c b
theorem iI:SS gE (ED au):=sl 5 [] func330
def dF:VZ:=λa avz avA w k=>nn a λb=>bJ w (b.add 26) (Iv avz) λc=>nn a λd=>bJ c (d.add 27) avA λe=>nn a λf=>bJ e (f.add 7) (.func (.func lP) #[.pointer a] #[]) λg=>k () g
theorem ES:SS xE (Lb dF):=sl 0 [] func346
def zE(x:T8)(au:MD)(dF:VZ):SB:=λi Sc w k=>aL w #[.pointer i] 141 λb r=>rJ Sc (aL r #[Sc] 1 λj s=>drew s λd=>aR d b λp6=>aR d b λp7=>sX d j λt=>nn p6 λu=>bJ d (u.add 20) (.pointer none) λc=>ai 1 j d c (ai 1 b d c (nn p7 λl=>bJ c (l.add 31) t λe=>aR e b λp13=>nn p13 λm=>bJ e (m.add 24) (.func (.func fG) #[] #[.pointer (some b),.pointer (some j)]) λn=>drew n λa=>aR a b λp17=>aR a b λp18=>x p18 a λp19 f=>ai 1 b a f (au p19 f λg h=>ai 1 b a h (PJ g 1 λo=>xy .i64 o λp=>dF p17 p (.func (.func j8) #[] #[.pointer (some b)]) h λ_u q=>k () q)))))
theorem QI a b c:E [.p,.raw] [] [(bV,F9 a),(gE,ED b),(xE,Lb c)] 12 [] f327=λx=>zE a b c x.1 x.2:=be
def cA:=zE af au dF
theorem zF:SS tI (EE cA):=so func327 (.c cg (.c iI (.c ES .z))) (QI af au dF)
def wg(j:T8)(cA:SB):T0:=λc w k=>aL w #[.pointer c] 141 λb g=>aR g b λp3=>j p3 g λp4 a=>nn p4 λh=>cC a (h.add 24) λi=>ap (((i.n:Nat):Int)==0) (aR a b λp8=>aR a b λp9=>nn p8 λd=>bJ a (d.add 7) (.func (.func nX) #[.pointer p9] #[]) λe=>k () e) (aR a b λp12=>cA p12 (.func (.func oF) #[] #[.pointer (some b)]) a λ_u f=>k () f)
theorem M3 a b:E [.p] [] [(bV,F9 a),(tI,EE b)] 258 [] f305=λx=>wg a b x:=be
def dk:=wg af cA
theorem DO:SS vK (bY dk):=so func305 (.c cg (.c zF .z)) (M3 af cA)
def zG(i:T8)(j:T0):T41:=λa avB b w k=>i a w λp1 c=>nn p1 λd=>bJ c (d.add 26) (Iv avB) λe=>nn p1 λf=>bJ e (f.add 27) (Iv b) λg=>j a g λ_u h=>k () h
theorem QJ a b:E [.p,.i .i64,.i .i64] [] [(bV,F9 a),(vK,bY b)] 71 [] f286=λx=>zG a b x.1 x.2.1 x.2.2:=be
def cv:=zG af dk
theorem zH:SS tH (abb cv):=so func286 (.c cg (.c DO .z)) (QJ af dk)
def tj(c:T41):T0:=λa w k=>c a 4 0 w λ_u b=>k () b
theorem Jh a:E [.p] [] [(tH,abb a)] 0 [] f268=λx=>tj a x:=be
def bw:=tj cv
abbrev AH:bn:=bY bw
theorem tq:SS j1 (bY bw):=so func268 (.c zH .z) (Jh cv)
def u4(e:T0):T50:=λabj a w k=>ap abj (aR w a λp1=>e p1 w λ_u b=>k () b) (aR w a λp3=>aR w a λp4=>nn p3 λc=>bJ w (c.add 7) (.func (.func gu) #[.pointer p4] #[]) λd=>k () d)
theorem Ls c:E [.b,.a] [] [(j1,bY c)] 10 [] f267=λx=>u4 c x.1 x.2:=be
def fx:=u4 bw
abbrev CD:bn:=YY fx
theorem Lt:SS oZ (YY fx):=so func267 (.c tq .z) (Ls bw)
def xW(n:T1):Xx:=λa w k=>drew w λb=>nn a λg=>aR b (g.add 0) λp3=>nn p3 λh=>aN .i64 b (h.add 20) λi=>nn a λj=>aR b (j.add 0) λp7=>nn p7 λl=>aN .i64 b (aY (l.add 1) 3) λm=>ap (decide (i≥m)) (nn a λd=>aR b (d.add 0) λp11=>n p11 22 b λe f=>k e f) (k false b)
theorem OS a:E [.p] [.b] [(bf,qu a)] 5 [] f306=λx=>xW a x:=be
def aE:=xW ae
theorem kN:SS jM (Oc aE):=so func306 (.c bj .z) (OS ae)
def cX:T49:=λtW aBF w k=>aL w tW 119 λb i=>aL i Dn 119 λe j=>bJ j (b.add 1) (Iv aBF) λf=>aN .i64 f (b.add 18) λl=>bJ f (b.add 18) (Iv (aG .i64 (l+1))) λg=>bD 19 g b λd=>dZ 19 g e d λh=>bD 19 h e λa=>k a h
theorem DQ:SS tG (abf cX):=sl 22 [] func187
def xX(m:T49):Zs:=λtW w k=>aL w tW 119 λf i=>aL i Dn 119 λg b=>bD 19 b f λc=>aN .i64 b (f.add 1) λj=>m c (aG .i64 (j+1)) b λe l=>dZ 19 l g e λh=>bD 19 h g λa=>k a h
theorem OT a:E [.ag] [.ag] [(tG,abf a)] 6 [] f188=λx=>xX a x:=be
def az:=xX cX
theorem kO:SS iQ (Od az):=so func188 (.c DQ .z) (OT cX)
def kg:T95:=λtW s w k=>aL w tW 119 λA D=>aL D s 75 λd F=>cE (S:=(Addr×Addr)) (λB=>drew F λb=>aN .i64 b (d.add 2) λG=>GG (A.add 2) 8 G 1 λm=>aN .i64 b m λC=>aN .i64 b (d.add 3) λt=>GG (A.add 2) 8 t 1 λc=>aN .i64 b c λn=>both (aL b #[Iv 0] 2 λo e=>ai 1 c b e (ai 1 (d.add 3) b e (ai 1 m b e (ai 1 (d.add 2) b e (aL e #[Iv 0] 2 λp f=>ai 1 c b f (ai 1 (d.add 3) b f (ai 1 m b f (ai 1 (d.add 2) b f (bJ f o (Iv C) λj=>ai 1 c b j (ai 1 (d.add 3) b j (bJ j p (Iv n) λu=>B (o,p) u))))))))))) (aL b #[Iv 0] 2 λq g=>ai 1 c b g (ai 1 (d.add 3) b g (ai 1 m b g (ai 1 (d.add 2) b g (aL g #[Iv 0] 2 λr h=>ai 1 c b h (ai 1 (d.add 3) b h (ai 1 m b h (ai 1 (d.add 2) b h (bJ h r (Iv C) λl=>ai 1 c b l (ai 1 (d.add 3) b l (bJ l q (Iv n) λv=>B (r,q) v)))))))))))) λa x=>rJ (.func (.func ot) #[] #[.pointer (some d)]) (rJ (.func (.func ou) #[] #[(.pointer (some a.1))]) (rJ (.func (.func ov) #[] #[(.pointer (some a.1)),(.pointer (some a.2))]) (rJ (.func (.func ow) #[] #[(.pointer (some a.1)),(.pointer (some a.2))]) (rJ (.func (.func ox) #[] #[(.pointer (some a.1)),(.pointer (some a.2))]) (rJ (.func (.func oy) #[] #[(.pointer (some a.1)),(.pointer (some a.2))]) (aL x #[(.func (.func ot) #[] #[.pointer (some d)]),(.func (.func ou) #[] #[(.pointer (some a.1))]),(.func (.func ov) #[] #[(.pointer (some a.1)),(.pointer (some a.2))]),(.func (.func ow) #[] #[(.pointer (some a.1)),(.pointer (some a.2))]),(.func (.func ox) #[] #[(.pointer (some a.1)),(.pointer (some a.2))]),(.func (.func oy) #[] #[(.pointer (some a.1)),(.pointer (some a.2))])] 86 λy z=>k (Sl.mk (some y) 6 6) z))))))
theorem S0:SS AV (aqj kg):=sl 124 [(1,[(5,.a),(6,.a)])] func189
def mz:T56:=λa w k=>aN .i64 w (a.add 4) λc=>k c w
theorem OU:SS ot (adQ mz):=sl 3 [] func228
def mA:T56:=λa w k=>aN .i64 w a λc=>k c w
theorem OV:SS ou (adQ mA):=sl 3 [] func229
def mB:T32:=λb c w k=>aN .i64 w b λd=>aN .i64 w c λe=>k (aG .i64 (d+e)) w
theorem OW:SS ov (Oe mB):=sl 7 [] func230
def mD:T32:=λb c w k=>aN .i64 w b λd=>aN .i64 w c λe=>k (aG .i64 (d - e)) w
theorem OX:SS ow (Oe mD):=sl 7 [] func231
def mE:T32:=λb c w k=>aN .i64 w b λd=>aN .i64 w c λe=>k (aG .i64 (d*e)) w
theorem OY:SS ox (Oe mE):=sl 7 [] func232
def mT:T96:=λabj w k=>ap abj (k 1 w) (k 0 w)
theorem Wo:SS MC (aqk mT):=sl 13 [] func234
def ET(h:T96):T32:=λb c w k=>aN .i64 w b λd=>aN .i64 w c λe=>h (decide (d<e)) w λf g=>k f g
theorem OZ b:E [.a,.a] [.i .i64] [(MC,aqk b)] 7 [] f233=λx=>ET b x.1 x.2:=be
def mF:=ET mT
theorem O0:SS oy (Oe mF):=so func233 (.c Wo .z) (OZ mT)
def zI(eW:T7)(cX:T49)(az:Zs)(kg:T95)(mz:T56)(mA:T56)(mB:T32)(mD:T32)(mE:T32)(mF:T32):aql:=λtW J w k=>aL w tW 119 λh w2=>aL w2 J 75 λd w4=>aL w4 Dn 119 λe w6=>bD 5 w6 d λL=>eW L w6 λi8 f=>ap (i8 !=0) (bD 19 f h λj=>dZ 19 f e j λl=>bD 19 l e λm=>k (m,false) l) (aN .i64 f (d.add 0) λn=>cE (S:=Bool) (λi=>ap (n==6) (i (n==6) f) (aN .i64 f (d.add 0) λM=>ap (M==7) (aN .i64 f (d.add 1) λN=>GG (h.add 2) 8 N 1 λO=>aN .i64 f O λP=>i (P !=0) f) (i false f))) λQ a=>ap Q (bD 19 a h λo=>aN .i64 a (d.add 4) λR=>cX o R a λp T=>dZ 19 T e p λq=>bD 19 q e λr=>k (r,true) q) (aN .i64 a (d.add 0) λU=>ap (U==7) (bD 19 a h λs=>az s a λt V=>dZ 19 V e t λu=>bD 19 u e λv=>k (v,true) u) (aN .i64 a (d.add 0) λW=>ap (decide (W>5)) (bD 19 a h λx=>dZ 19 a e x λy=>bD 19 y e λz=>k (z,false) y) (drew a λc=>aN .i64 c (d.add 1) λX=>bD 19 c h λA=>bD 5 c d λB=>aN .i64 c (d.add 0) λY=>kg A B c λZ g=>ai 1 (d.add 0) c g (ai 1 (d.add 1) c g (cZ Z Y 1 λa0=>sX g a0 λa2=>m5 (kw [(Bv,(AX eW)),(tG,(abf cX)),(iQ,(Od az)),(AV,(aqj kg)),(ot,(adQ mz)),(ou,(adQ mA)),(ov,(Oe mB)),(ow,(Oe mD)),(ox,(Oe mE)),(oy,(Oe mF))]) a2 #[] g λa4 C=>xy .i64 a4 λa6=>ai 1 (d.add 1) c C (GG (h.add 2) 8 X 1 λa7=>bJ C a7 (Iv a6) λD=>bD 19 D h λF=>az F D λG a8=>dZ 19 a8 e G λH=>bD 19 H e λI=>k (I,true) H)))))))
theorem QK a c d e f g h i j l:E [.ag,.ag] [.ag,.b] [(Bv,AX a),(tG,abf c),(iQ,Od d),(AV,aqj e),(ot,adQ f),(ou,adQ g),(ov,Oe h),(ow,Oe i),(ox,Oe j),(oy,Oe l)] 34896610620 [(6,[(10,.b)])] f139=λx=>zI a c d e f g h i j l x.1 x.2:=be
def iW:=zI eW cX az kg mz mA mB mD mE mF
theorem QL:SS FZ (aqm iW):=so func139 (.c Kl (.c DQ (.c kO (.c S0 (.c OU (.c OV (.c OW (.c OX (.c OY (.c O0 .z)))))))))) (QK eW cX az kg mz mA mB mD mE mF)
def zJ(aE:Xx)(af:T8)(iW:aql):T71:=λa t w k=>aL w t 75 λs T=>aE a T λU Q=>ap U (k () Q) (af a Q λp5 V=>cE (S:=(Addr×Bool)) (λR=>drew V λd=>nn p5 λu=>bD 19 d (u.add 4) λe=>bD 5 d s λf=>both (iW e f d λb v=>aL v Dn 119 λn g=>ai 5 s d g (ai 19 (u.add 4) d g (dZ 19 g n (b.1,b.2).1 λx=>R (n,(b.1,b.2).2) x))) (aL d Dn 119 λo h=>ai 5 s d h (ai 19 (u.add 4) d h (iW e f h λc y=>dZ 19 y o (c.1,c.2).1 λz=>R (o,(c.1,c.2).2) z)))) λp i=>ap p.2 (bD 19 i p.1 λq=>nn p5 λA=>dZ 19 i (A.add 4) q λj=>nn a λB=>aR j (B.add 0) λr=>nn r λC=>aN .i64 j (C.add 20) λD=>nn r λF=>bJ j (F.add 20) (Iv (aG .i64 (D+1))) λG=>nn a λH=>bJ G (H.add 7) (.func (.func gu) #[.pointer a] #[]) λI=>k () I) (rJ (.func (.func lA) #[.pointer a] #[]) (rJ (.func (.func jm) #[.pointer a] #[]) (rJ (.func (.func jm) #[.pointer a] #[]) (rJ (.func (.func lB) #[.pointer a] #[]) (rJ (.func (.func kM) #[.pointer a] #[]) (rJ (.func (.func j7) #[.pointer a] #[]) (rJ (.func (.func lC) #[.pointer a] #[]) (rJ (.func (.func iR) #[.pointer a] #[]) (rJ (.func (.func iR) #[.pointer a] #[]) (aL i #[(.func (.func lA) #[.pointer a] #[]),(.func (.func jm) #[.pointer a] #[]),(.func (.func jm) #[.pointer a] #[]),(.func (.func lB) #[.pointer a] #[]),(.func (.func kM) #[.pointer a] #[]),(.func (.func j7) #[.pointer a] #[]),(.func (.func lC) #[.pointer a] #[]),(.func (.func iR) #[.pointer a] #[]),(.func (.func iR) #[.pointer a] #[])] 1 λJ m=>aN .i64 m (s.add 0) λL=>cZ (Sl.mk (some J) 9 9) (aG .i64 (L - 8)) 1 λM=>sX m M λN=>nn a λO=>bJ m (O.add 7) N λP=>k () P)))))))))))
theorem QM c d e:E [.p,.ag] [] [(jM,Oc c),(bV,F9 d),(FZ,aqm e)] 2097913 [(4,[(5,.a),(6,.b)])] f288=λx=>zJ c d e x.1 x.2:=be
def dV:=zJ aE af iW
theorem Gj:SS zh (ap8 dV):=so func288 (.c kN (.c cg (.c QL .z))) (QM aE af iW)
def wh(f:T0)(g:T71):T74:=λabj b c w k=>ap abj (aR w b λp1=>f p1 w λ_u d=>k () d) (aR w b λp3=>bD 5 w c λa=>g p3 a w λ_u e=>k () e)
theorem M4 c d:E [.b,.a,.a] [] [(j1,bY c),(zh,ap8 d)] 22 [] f290=λx=>wh c d x.1 x.2.1 x.2.2:=be
def gC:=wh bw dV
abbrev DS:bn:=alM gC
theorem M5:SS pJ (alM gC):=so func290 (.c tq (.c Gj .z)) (M4 bw dV)
def uf(bG:SB):T50:=λabj a w k=>ap abj (aR w a λp1=>aR w a λp2=>bG p1 (.func (.func j1) #[.pointer p2] #[]) w λ_u b=>k () b) (aR w a λp4=>aR w a λp5=>nn p4 λc=>bJ w (c.add 7) (.func (.func mO) #[.pointer p5] #[]) λd=>k () d)
theorem Kz c:E [.b,.a] [] [(qR,EE c)] 10 [] f352=λx=>uf c x.1 x.2:=be
def eR:=uf bG
abbrev BE:bn:=YY eR
theorem KA:SS oG (YY eR):=so func352 (.c tL .z) (Kz bG)
def u5(m:T73)(n:T1)(v:T50)(x:T74)(y:T50):T0:=λb w k=>drew w λd=>nn b λo=>aR d (o.add 10) λp3=>nn b λp=>aR d (p.add 0) λp5=>nn p5 λq=>aR d (q.add 7) λp7=>nn b λr=>aN .i64 d (r.add 1) λt=>m p3 p7 t d λa e=>nn b λf=>aR e (f.add 0) λp13=>n p13 (a.1,(a.2.1,a.2.2)).2.2 e λg c=>ap ((!g)&&(a.1,(a.2.1,a.2.2)).1) (nn b λh=>sX c (h.add 11) λi=>m5 (kw [(Cb,(ap9 m)),(bf,(qu n)),(oZ,(YY v)),(pJ,(alM x)),(oG,(YY y))]) i #[(.bool (a.1,(a.2.1,a.2.2)).2.1)] c λj l=>HM [] j fun(u:Unit)=>k () l) (k () c)
theorem Lu a b c d e:E [.p] [] [(Cb,ap9 a),(bf,qu b),(oZ,YY c),(pJ,alM d),(oG,YY e)] 17179869213 [] f285=λx=>u5 a b c d e x:=be
def eF:=u5 kX ae fx gC eR
abbrev u9:bn:=bY eF
theorem Lv:SS kU (bY eF):=so func285 (.c UL (.c bj (.c Lt (.c M5 (.c KA .z))))) (Lu kX ae fx gC eR)
def A9(j:T36):Zt:=λa b c w k=>aL w a 99 λf d=>aN .i64 d (f.add 0) λh=>j b c h 1 d λe i=>k (e.1,e.2).2 i
theorem S1 a:E [.ag,.p,.i .i64] [.i .i64] [(j6,YV a)] 334 [] f154=λx=>A9 a x.1 x.2.1 x.2.2:=be
def eA:=A9 aO
theorem HF:SS AU (Of eA):=so func154 (.c nq .z) (S1 aO)
def zK(eA:Zt)(ae:T1):T0:=λa w k=>drew w λb=>nn a λp=>aR b (p.add 0) λp3=>nn a λq=>aR b (q.add 0) λp5=>nn p5 λr=>bD 1 b (r.add 12) λe=>nn a λs=>aR b (s.add 0) λp9=>nn p9 λf=>aR b (f.add 7) λp11=>nn a λg=>aN .i64 b (g.add 1) λh=>eA e p11 h b λi d=>ai 1 (p.add 0) b d (ae p3 i d λj c=>ap (!j) (nn a λl=>sX c (l.add 29) λm=>nn a λn=>bJ c (n.add 7) m λo=>k () o) (k () c))
theorem QN a b:E [.p] [] [(AU,Of a),(bf,qu b)] 67108865 [] f356=λx=>zK a b x:=be
def gP:=zK eA ae
abbrev zL:bn:=bY gP
theorem QO:SS ni (bY gP):=so func356 (.c HF (.c bj .z)) (QN eA ae)
def Fi(aj:GV):Ux:=λb c d w k=>aL w b 100 λf e=>aN .i64 e (f.add 0) λh=>aj c d h e λa i=>k ((a.1,a.2).1,(a.1,a.2).2) i
theorem XH a:E [.ag,.p,.i .i64] [.i .i64,.i .i64] [(dI,yO a)] 206 [] f244=λx=>Fi a x.1 x.2.1 x.2.2:=be
def oN:=Fi aj
theorem XI:SS La (IF oN):=so func244 (.c dX .z) (XH aj)
def mj:T3:=λb w k=>cE (S:=Bool) (λx=>ap (eL b) (x true w) (nn b λy=>cC w (y.add 0) λz=>x (((z.n:Nat):Int)==0) w)) λA i=>ap A (k 0 i) (nn b λB=>cC i (B.add 0) λC=>cZ C 0 1 λD=>aN .i64 i D λF=>drew i λd=>nn b λl=>cC d (l.add 0) λe=>nn b λm=>cC d (m.add 0) λo=>slL o 1 1 λf=>Ue Tryz.prog #[156,156] 3 [.slice e.a e.n e.c,.slice f.a f.n f.c] d λG p=>drew p λg=>nn b λq=>cC g (q.add 0) λr=>nn b λs=>cC g (s.add 0) λt=>Sw r 1 0 (aG .i64 (((t.n:Nat):Int) - 1)) λh=>nn b λu=>bJ g (u.add 0) (.slice h.a h.n h.c) λv=>k F v)
theorem UM:SS IA (E9 mj):=sl 8205 [(1,[(13,.b)])] func246
def qU:T98:=λl Wn g aBG avC w k=>ap ((((decide (g<1))||(decide (g>16)))||(decide (Wn<0)))||(decide (Wn≥g))) (k ((Sl.mk none 0 0),10) w) (cE (S:=Sl) (λB=>kH (S:=(Sl×Int)) (λy d m=>ap (decide (d.2<g)) (cE (S:=Bool) (λz=>ap (d.2 !=Wn) (alc .i64 (tB .i64 aBG avC) d.2 λC=>z ((oC .i64 C 1)==1) m) (z false m)) λD A=>ap D (aL A #[Iv d.2] 3 λF o=>qd Tryz.prog #[69,69] 69 [.slice d.1.a d.1.n d.1.c,(.slice (some F) 1 1)] o λp q=>y (p,(aG .i64 (d.2+1))) q) (y (d.1,(aG .i64 (d.2+1))) A)) (B d.1 m)) ((Sl.mk none 0 0),0) w) λb j=>ap (((b.n:Nat):Int)==0) (k ((Sl.mk none 0 0),0) j) (alb l ((b.n:Nat):Int) λr=>alb (aG .i64 (r+((b.n:Nat):Int))) ((b.n:Nat):Int) λs=>Bt Tryz.prog 69 (Iv ((b.n:Nat):Int)) (Iv ((b.n:Nat):Int)) j λf t=>slL b 1 s λh=>Ue Tryz.prog #[69,69] 3 [.slice f.a f.n f.c,.slice h.a h.n h.c] t λu v=>slL f 1 u λi=>Ue Tryz.prog #[69,69] 3 [.slice i.a i.n i.c,.slice b.a b.n b.c] v λG x=>k (f,0) x))
theorem acU:SS TK (ax2 qU):=sl 72339133439409183 [(6,[(12,.s)]),(7,[(12,.s),(34,(.i .i64))]),(12,[(48,.b)])] func245
def wi(oN:Ux)(ae:T1)(mj:T3)(dU:T69)(qU:T98)(bQ:T0):T0:=λd w k=>drew w λm=>nn d λY=>aR m (Y.add 0) λp3=>nn p3 λZ=>bD 1 m (Z.add 13) λy=>nn d λa6=>aR m (a6.add 0) λp7=>nn p7 λa8=>aR m (a8.add 7) λp9=>nn d λz=>aN .i64 m (z.add 1) λB=>oN y p9 B m λg o=>nn d λC=>aR o (C.add 0) λp15=>ae p15 (g.1,g.2).2 o λD p=>ap D (k () p) (drew p λb=>nn d λF=>aR b (F.add 0) λG=>nn G λH=>aR b (H.add 18) λI=>nn d λi=>aN .i64 b (i.add 1) λJ=>nn d λj=>aR b (j.add 0) λL=>nn L λl=>cC b (l.add 19) λM=>nn d λq=>aR b (q.add 0) λN=>nn N λr=>bD 3 b (r.add 14) λs=>nn d λt=>aR b (t.add 0) λO=>nn O λu=>aR b (u.add 7) λP=>mj I b λQ e=>ai 1 (u.add 7) b e (ai 1 (t.add 0) b e (ai 3 (r.add 14) b e (ai 1 (q.add 0) b e (ai 1 (l.add 19) b e (ai 1 (j.add 0) b e (ai 1 (i.add 1) b e (dU s P e λR h=>ai 1 (l.add 19) b h (ai 1 (j.add 0) b h (ai 1 (i.add 1) b h (qU Q J ((M.n:Nat):Int) R (g.1,g.2).1 h λf v=>nn d λS=>aR v (S.add 0) λT=>ae T (f.1,f.2).2 v λU x=>ap U (k () x) (nn d λV=>bJ x (V.add 13) (.slice f.1.a f.1.n f.1.c) λW=>bQ d W λ_u X=>k () X))))))))))))
theorem M6 a b c d e f:E [.p] [] [(La,IF a),(bf,qu b),(IA,E9 c),(ze,ap6 d),(TK,ax2 e),(nO,bY f)] 302231454903661588643869 [] f215=λx=>wi a b c d e f x:=be
def e9:=wi oN ae mj dU qU bQ
abbrev wj:bn:=bY e9
theorem M7:SS lK (bY e9):=so func215 (.c XI (.c bj (.c UM (.c Gi (.c acU (.c vY .z)))))) (M6 oN ae mj dU qU bQ)
def Fj(m:T36):T47:=λc b a abk w k=>aL w c 100 λh d=>ap (eL b) (k 2 d) (ap ((decide (a<0))||(decide (a>16))) (k 10 d) (drew d λf=>aN .i64 f (h.add 0) λi=>G9 .i64 abk a λj=>m b a i j f λg l=>k (g.1,g.2).2 l))
theorem XJ a:E [.ag,.p,.i .i64,.i .i64] [.i .i64] [(j6,YV a)] 19742 [] f273=λx=>Fj a x.1 x.2.1 x.2.2.1 x.2.2.2:=be
def ix:=Fj aO
theorem Lw:SS E8 (YX ix):=so func273 (.c nq .z) (XJ aO)
def DT(i:T47):Zt:=λa b c w k=>aL w a 100 λf e=>bD 1 e f λd=>i d b c 1 e λg h=>k g h
theorem Wp a:E [.ag,.p,.i .i64] [.i .i64] [(E8,YX a)] 78 [] f251=λx=>DT a x.1 x.2.1 x.2.2:=be
def nD:=DT ix
theorem Wr:SS JF (Of nD):=so func251 (.c Lw .z) (Wp ix)
def Ba(nD:Zt)(ae:T1)(e7:T3):T0:=λa w k=>cE (S:=Bool) (λy=>drew w λc=>nn a λz=>aR c (z.add 0) λp4=>nn a λA=>aR c (A.add 0) λp6=>nn p6 λB=>bD 1 c (B.add 13) λh=>nn a λC=>aR c (C.add 0) λp10=>nn p10 λi=>aR c (i.add 7) λp12=>nn a λj=>aN .i64 c (j.add 1) λl=>nD h p12 l c λm d=>ai 1 (z.add 0) c d (ae p4 m d λn b=>ap n (y true b) (nn a λe=>aR b (e.add 0) λo=>nn a λp=>aR b (p.add 4) λq=>e7 q b λr f=>ai 1 (e.add 0) b f (ae o r f λs t=>y s t)))) λu g=>ap u (k () g) (nn a λv=>bJ g (v.add 7) (.func (.func ng) #[.pointer a] #[]) λx=>k () x)
theorem S2 a c d:E [.p] [] [(JF,Of a),(bf,qu c),(Ca,E9 d)] 137438953473 [(0,[(37,.b)])] f218=λx=>Ba a c d x:=be
def iJ:=Ba nD ae e7
abbrev Bb:bn:=bY iJ
theorem S3:SS my (bY iJ):=so func218 (.c Wr (.c bj (.c IN .z))) (S2 nD ae e7)
def dY:T0:=λa w k=>ap (!(eL a)) (nn a λb=>bJ w (b.add 1) (Iv 0) λc=>k () c) (k () w)
theorem HG:SS uA (bY dY):=sl 9 [] func274
def DU(i:T47):Zt:=λa b c w k=>aL w a 100 λf e=>bD 1 e f λd=>i d b c (-1) e λg h=>k g h
theorem Wu a:E [.ag,.p,.i .i64] [.i .i64] [(E8,YX a)] 78 [] f275=λx=>DU a x.1 x.2.1 x.2.2:=be
def nE:=DU ix
theorem Wv:SS JG (Of nE):=so func275 (.c Lw .z) (Wu ix)
def zM(u:T0)(nE:Zt)(ae:T1):T0:=λa w k=>nn a λp=>aR w (p.add 4) λp2=>u p2 w λ_u q=>drew q λb=>nn a λo=>aR b (o.add 0) λp6=>nn a λr=>aR b (r.add 0) λp8=>nn p8 λs=>bD 1 b (s.add 13) λc=>nn a λf=>aR b (f.add 0) λp12=>nn p12 λg=>aR b (g.add 7) λp14=>nn a λh=>aN .i64 b (h.add 1) λi=>nE c p14 i b λj d=>ai 1 (o.add 0) b d (ae p6 j d λl e=>ap (!l) (nn a λm=>bJ e (m.add 7) (.func (.func fZ) #[.pointer a] #[]) λn=>k () n) (k () e))
theorem QR a b c:E [.p] [] [(uA,bY a),(JG,Of b),(bf,qu c)] 2147483649 [] f253=λx=>zM a b c x:=be
def gQ:=zM dY nE ae
abbrev zN:bn:=bY gQ
theorem QS:SS ng (bY gQ):=so func253 (.c HG (.c Wv (.c bj .z))) (QR dY nE ae)
def Fk(m:T36):T6:=λcR b c w k=>nn cR λf=>aN .i64 w (aY (f.add 0) 0) λg=>m b c g 1 w λa e=>ap ((a.1,a.2).2==0) (nn cR λh=>bJ e (h.add 4) (Iv (aG .i64 ((a.1,a.2).1+1))) λi=>nn cR λj=>bJ i (j.add 7) (.func (.func uU) #[.pointer cR] #[]) λl=>k (a.1,a.2).2 l) (k (a.1,a.2).2 e)
theorem XK a:E [.p,.p,.i .i64] [.i .i64] [(j6,YV a)] 2097607 [] f395=λx=>Fk a x.1 x.2.1 x.2.2:=be
def l7:=Fk aO
abbrev Lx:bn:=ry l7
theorem XL:SS uT (ry l7):=so func395 (.c nq .z) (XK aO)
def Fm(j:T36):T6:=λcR b c w k=>nn cR λe=>aN .i64 w (aY (e.add 0) 0) λg=>j b c g (-1) w λa d=>ap ((a.1,a.2).2==0) (nn cR λh=>bJ d (h.add 7) .nilFunc λi=>k (a.1,a.2).2 i) (k (a.1,a.2).2 d)
theorem XM a:E [.p,.p,.i .i64] [.i .i64] [(j6,YV a)] 2097479 [] f388=λx=>Fm a x.1 x.2.1 x.2.2:=be
def l8:=Fm aO
abbrev Ly:bn:=ry l8
theorem XN:SS uS (ry l8):=so func388 (.c nq .z) (XM aO)
def Fo(aj:GV):T6:=λcR b c w k=>nn cR λe=>aN .i64 w (aY (e.add 0) 0) λg=>aj b c g w λa d=>ap ((a.1,a.2).2==0) (nn cR λh=>bJ d (h.add 4) (Iv (a.1,a.2).1) λi=>nn cR λj=>bJ i (j.add 7) (.func (.func uR) #[.pointer cR] #[]) λl=>k (a.1,a.2).2 l) (k (a.1,a.2).2 d)
theorem XO a:E [.p,.p,.i .i64] [.i .i64] [(dI,yO a)] 2097607 [] f248=λx=>Fo a x.1 x.2.1 x.2.2:=be
def l9:=Fo aj
abbrev Lz:bn:=ry l9
theorem XP:SS uP (ry l9):=so func248 (.c dX .z) (XO aj)
def pE:alQ:=λMW w k=>aL w #[Iv MW] 2 λa b=>k (.func (.func tJ) #[] #[.pointer (some a)]) b
abbrev ZC:bn:=ajB pE
theorem ZD:SS GU (ajB pE):=sl 6 [] func315
def bR:T60:=λa w k=>N3 Tryz.prog (kw []) 21 [] Tryz.f340 [(.i .i64)] (dB [(.i .u64)] a) w k
abbrev xd:bn:=alH bR
theorem xe:uG Tryz.prog l5 xd:=
 adx (mask:=21) (h:=[]) (ds:=[]) mixed func340 trivial
 [(.i .u64)] [(.i .i64)] be (λx w k=>bR x w k) (λx w k=>rfl)
def DV(Y:Nat→bn)(bR:T60)(rR:Value)(e:Addr)(w:World)(k:Unit→aq):Prop:= aN .i64 w e λg=>kH (S:=Int) (λh b c=>ap (b !=0) (bR b c λi j=>m5 (Jq [(l5,(alH bR))] Y) rR #[Iv i] j λl d=>HL l λm=>ap (!m) (k () d) (h (oC .u64 b (aG .u64 (b - 1))) d)) (k () c)) (aG .u64 g) w
theorem Ww(Y:Nat→bn)(bR:T60)(x:KT [.raw,.a])(w:World)(k:KT []→aq):N3 Tryz.prog (Jq [(l5,(alH bR))] Y) 65673 [(2,[(3,(.i .u64))])] f339 [] (dB [.raw,.a] x) w k=DV Y bR x.1 x.2 w k:=be
def BT(Y:Nat→bn)(rR:Value)(a:Addr)(w:World)(k:Unit→aq):Prop:=DV Y bR rR a w k
def tM(Y:Nat→bn):bn:=λargs w c=>qJ [.raw,.a] args λx=>BT Y x.1 x.2 w λr w=>c (eV (dB [] r)) w
theorem Wx:VQ Tryz.prog tJ tM:=λY hY=>
 Mo (mask:=65673) (h:=[(2,[(3,(.i .u64))])]) mixed func339 (VG (l:=[(l5,xd)]) ⟨xe,trivial⟩ hY)
 [.raw,.a] [] be (λx w k=>BT Y x.1 x.2 w k) (λx w k=>Ww Y bR x w k)
def KB(I:Cy)(pE:alQ)(MW:Int)(w:World)(k:(Int)→aq):Prop:= aL w #[Iv 0] 3 λc j=>bJ j c (Iv 0) λl=>pE MW l λm n=>BQ I [(.i .i64)] m n (fun(p:Int) h o=>aN .i64 h c λd=>bJ h c (Iv (aG .i64 (d+1))) λe=>o e) λD9 b=>aN .i64 b c λf=>Ir [D9] b λg=>k f g
theorem acV(I:Cy)(pE:alQ)(x:KT [(.i .i64)])(w:World)(k:KT [(.i .i64)]→aq):Ut Tryz.prog (kw [(GU,(ajB pE))]) I 45 [(4,[(6,(.i .i64))])] f293 [(.i .i64)] (dB [(.i .i64)] x) w k=KB I pE x w k:=be
def kP:T60:=λMW w k=>KB (Cz [(tJ,tM)]) pE MW w k
abbrev acW:bn:=aqd kP
theorem TV:uG Tryz.prog Kk acW:=
 It (mask:=45) (h:=[(4,[(6,(.i .i64))])]) mixed func293 (Mm (l:=[(GU,ZC)]) ⟨ZD,trivial⟩) (K3 (l:=[(tJ,tM)]) ⟨Wx,trivial⟩)
 [(.i .i64)] [(.i .i64)] be (λx w k=>kP x w k) (λx w k=>acV (Cz [(tJ,tM)]) pE x w k)
def KC(e:T60):aqy:=λMW a w k=>e (Jl .u64 18446744073709551615 (aG .u64 MW)) w λc d=>ap (decide (c≥(Vn a 64))) (k (-1) d) (k c d)
theorem acX a:E [.i .i64,.i .i64] [.i .i64] [(l5,alH a)] 8243 [] f397=λx=>KC a x.1 x.2:=be
def r6:=KC bR
theorem acY:SS TM (aqz r6):=so func397 (.c xe .z) (acX bR)
def Fp(aj:GV)(kP:T60)(dS:T7)(r6:aqy):T6:=λcR g h w k=>nn cR λA=>aN .i64 w (aY (A.add 0) 0) λB=>aj g h (aG .i64 (B+1)) w λa y=>ap ((a.1,a.2).2 !=0) (k (a.1,a.2).2 y) (nn cR λC=>bJ y (C.add 5) (Iv (a.1,a.2).1) λD=>nn cR λF=>bJ D (F.add 7) .nilFunc λG=>kP (a.1,a.2).1 G λz c=>cE (S:=Bool) (λe=>nn cR λi=>aN .i64 c (aY (i.add 0) 2) λj=>ap (decide (z<j)) (nn cR λl=>aN .i64 c (l.add 4) λm=>e (decide (z<m)) c) (e false c)) λn d=>ap n (nn cR λo=>bD 3 d (o.add 0) λf=>dS f d λp q=>r6 (Sx .i64 (a.1,a.2).1 p) 16 q λr s=>nn cR λt=>bJ s (t.add 3) (Iv r) λu=>nn cR λv=>bJ u (v.add 7) (.func (.func r9) #[.pointer cR] #[]) λx=>k 0 x) (k 0 d))
theorem XQ a c d e:E [.p,.p,.i .i64] [.i .i64] [(dI,yO a),(Kk,aqd c),(zf,AX d),(TM,aqz e)] 281474985100231 [(7,[(48,.b)])] f396=λx=>Fp a c d e x.1 x.2.1 x.2.2:=be
def mb:=Fp aj kP dS r6
abbrev LA:bn:=ry mb
theorem XR:SS uU (ry mb):=so func396 (.c dX (.c TV (.c Gh (.c acY .z)))) (XQ aj kP dS r6)
def Fq(aj:GV)(ph:T59)(kP:T60):T6:=λcR h i w k=>nn cR λu=>aN .i64 w (aY (u.add 0) 0) λv=>aj h i (aG .i64 (v+1)) w λa s=>ap ((a.1,a.2).2 !=0) (k (a.1,a.2).2 s) (nn cR λx=>bJ s (x.add 5) (Iv (a.1,a.2).1) λy=>nn cR λz=>bJ y (z.add 7) .nilFunc λA=>cE (S:=Bool) (λt=>drew A λd=>nn cR λj=>aN .i64 d (j.add 3) λl=>ph (a.1,a.2).1 l d λm b=>ap m (nn cR λe=>aN .i64 b (e.add 4) λn=>kP (a.1,a.2).1 b λo f=>ai 1 (e.add 4) b f (t (decide (o>n)) f)) (t false b)) λp g=>ap p (nn cR λq=>bJ g (q.add 7) (.func (.func r9) #[.pointer cR] #[]) λr=>k 0 r) (k 0 g))
theorem XS a c d:E [.p,.p,.i .i64] [.i .i64] [(dI,yO a),(Qd,ap3 c),(Kk,aqd d)] 35184376283591 [(6,[(45,.b)])] f272=λx=>Fq a c d x.1 x.2.1 x.2.2:=be
def mg:=Fq aj ph kP
abbrev LB:bn:=ry mg
theorem XT:SS uR (ry mg):=so func272 (.c dX (.c Y0 (.c TV .z))) (XS aj ph kP)
def Fs(x:T42):T6:=λcR f g w k=>drew w λd=>nn cR λo=>aN .i64 d (aY (o.add 0) 0) λp=>nn cR λq=>aN .i64 d (q.add 5) λr=>nn cR λs=>aN .i64 d (s.add 5) λt=>nn cR λu=>aN .i64 d (u.add 3) λv=>G9 .i64 1 (YD v 0) λh=>x f g (aG .i64 (p+1)) r (Jl .i64 t h) d λb e=>ap ((b.1,b.2).2 !=0) (k (b.1,b.2).2 e) (nn cR λi=>bJ e (i.add 7) .nilFunc λc=>ap (b.1,b.2).1 (nn cR λj=>aN .i64 c (j.add 3) λl=>nn cR λm=>bJ c (m.add 6) (Iv l) λn=>k 0 n) (k 0 c))
theorem XU a:E [.p,.p,.i .i64] [.i .i64] [(m9,abc a)] 4535485465031 [] f294=λx=>Fs a x.1 x.2.1 x.2.2:=be
def mh:=Fs aU
abbrev LC:bn:=ry mh
theorem XV:SS r9 (ry mh):=so func294 (.c pg .z) (XU aU)
def Ft(l:T2)(u:T6)(v:T6)(x:T6)(y:T6)(z:T6)(A:T6):T40:=λcR b e w k=>ap ((eL cR)||(eL b)) (k (false,2) w) (nn cR λm=>bD 3 w (m.add 0) λf=>l f w λn c=>ap (!n) (k (false,1) c) (nn cR λo=>sX c (o.add 7) λp=>aac p λq=>ap q (k (true,0) c) (nn cR λr=>sX c (r.add 7) λs=>m5 (kw [(qn,(Je l)),(uT,(ry u)),(uS,(ry v)),(uP,(ry x)),(uU,(ry y)),(uR,(ry z)),(r9,(ry A))]) s #[.pointer b,Iv e] c λg a=>xy .i64 g λd=>ap (d !=0) (k (false,d) a) (nn cR λh=>sX a (h.add 7) λi=>aac i λj=>k (j,0) a))))
theorem XW a c d e f g h:E [.p,.p,.i .i64] [.b,.i .i64] [(qn,Je a),(uT,ry c),(uS,ry d),(uP,ry e),(uU,ry f),(uR,ry g),(r9,ry h)] 137447408583 [] f249=λx=>Ft a c d e f g h x.1 x.2.1 x.2.2:=be
def dy:=Ft bZ l7 l8 l9 mb mg mh
theorem Fu:SS uQ (aba dy):=so func249 (.c xI (.c XL (.c XN (.c XP (.c XR (.c XT (.c XV .z))))))) (XW bZ l7 l8 l9 mb mg mh)
def nF:T3:=λcR w k=>ap (eL cR) (k (-1) w) (nn cR λa=>aN .i64 w (a.add 6) λc=>k c w)
theorem Wz:SS JE (E9 nF):=sl 21 [] func250
def wm(A:T40)(B:T1)(C:T3):T0:=λa w k=>drew w λe=>nn a λu=>aR e (u.add 12) λp3=>nn a λv=>aR e (v.add 0) λp5=>nn p5 λx=>aR e (x.add 7) λp7=>nn a λy=>aN .i64 e (y.add 1) λz=>A p3 p7 z e λb f=>nn a λj=>aR f (j.add 0) λp13=>B p13 (b.1,b.2).2 f λl g=>ap (l||(!(b.1,b.2).1)) (k () g) (nn a λm=>bJ g (m.add 7) (.func (.func my) #[.pointer a] #[]) λn=>drew n λc=>nn a λo=>aR c (o.add 12) λp=>nn a λh=>aN .i64 c (h.add 1) λq=>C p c λr d=>ai 1 (h.add 1) c d (ap (r==q) (nn a λs=>bJ d (s.add 7) (.func (.func fZ) #[.pointer a] #[]) λt=>k () t) (k () d)))
theorem M8 a b c:E [.p] [] [(uQ,aba a),(bf,qu b),(JE,E9 c)] 140741783322637 [] f217=λx=>wm a b c x:=be
def fa:=wm dy ae nF
abbrev wo:bn:=bY fa
theorem M9:SS lM (bY fa):=so func217 (.c Fu (.c bj (.c Wz .z))) (M8 dy ae nF)
def wq(i:T42):T97:=λtW b c w k=>aL w tW 116 λf e=>aN .i64 e (f.add 0) λg=>i b c (aG .i64 (g+0)) 0 1 e λa h=>k ((a.1,a.2).1,(a.1,a.2).2) h
theorem Na a:E [.ag,.p,.i .i64] [.b,.i .i64] [(m9,abc a)] 206 [] f242=λx=>wq a x.1 x.2.1 x.2.2:=be
def js:=wq aU
theorem Nb:SS Dj (ax1 js):=so func242 (.c pg .z) (Na aU)
def wu(D:T97)(F:T1):T0:=λa w k=>drew w λb=>nn a λx=>aR b (x.add 0) λp3=>nn p3 λy=>cC b (y.add 11) λz=>nn a λA=>aN .i64 b (A.add 18) λB=>cZ z B 1 λC=>aR b C λp9=>nn p9 λi=>bD 1 b (i.add 3) λe=>nn a λj=>aR b (j.add 0) λp13=>nn p13 λl=>aR b (l.add 7) λp15=>nn a λm=>aN .i64 b (m.add 1) λn=>D e p15 n b λc f=>nn a λo=>aR f (o.add 0) λp=>F p (c.1,c.2).2 f λq d=>ap q (k () d) (nn a λr=>sX d (r.add 19) λs=>nn a λt=>bJ d (t.add 7) s λg=>ap (c.1,c.2).1 (nn a λu=>bJ g (u.add 7) (.func (.func mL) #[.pointer a] #[]) λv=>k () v) (k () g))
theorem Nc a b:E [.p] [] [(Dj,ax1 a),(bf,qu b)] 282574488338445 [] f214=λx=>wu a b x:=be
def fe:=wu js ae
abbrev wv:bn:=bY fe
theorem Nf:SS lJ (bY fe):=so func214 (.c Nb (.c bj .z)) (Nc js ae)
def xY(l:T7)(aj:GV):Ux:=λb c d w k=>aL w b 144 λg f=>bD 2 f g λe=>l e f λh i=>aj c d h i λa j=>k ((a.1,a.2).1,(a.1,a.2).2) j
theorem O1 a b:E [.ag,.p,.i .i64] [.i .i64,.i .i64] [(kK,AX a),(dI,yO b)] 206 [] f265=λx=>xY a b x.1 x.2.1 x.2.2:=be
def cj:=xY aJ aj
theorem xZ:SS qp (IF cj):=so func265 (.c mS (.c dX .z)) (O1 aJ aj)
def Cl(i:T35):T70:=λa b w k=>ap (eL a) (k (none,2) w) (aL w #[Iv b] 3 λd e=>i a (Sl.mk (some d) 1 1) e λf c=>ap (!f) (k (none,17) c) (aL c #[.pointer a,Iv b,.bool false,.bool false] 375 λg h=>k ((some g),0) h))
theorem UN a:E [.p,.i .i64] [.p,.i .i64] [(yM,TP a)] 627 [] f284=λx=>Cl a x.1 x.2:=be
def mo:=Cl de
theorem UO:SS IB (alK mo):=so func284 (.c Dx .z) (UN de)
def ya(q:T70)(r:T1):VZ:=λa d afA w k=>nn a λm=>aR w (m.add 0) λp2=>nn p2 λn=>aR w (n.add 9) λp4=>q p4 d w λc l=>nn a λo=>aR l (o.add 0) λp8=>r p8 (c.1,c.2).2 l λp b=>ap p (k () b) (nn a λe=>bJ b (e.add 10) (.pointer (c.1,c.2).1) λf=>nn a λg=>bJ f (g.add 11) afA λh=>nn a λi=>bJ h (i.add 7) (.func (.func kU) #[.pointer a] #[]) λj=>k () j)
theorem O2 a b:E [.p,.i .i64,.raw] [] [(IB,alK a),(bf,qu b)] 33554629 [] f266=λx=>ya a b x.1 x.2.1 x.2.2:=be
def cr:=ya mo ae
theorem yb:SS sQ (Lb cr):=so func266 (.c UO (.c bj .z)) (O2 mo ae)
def yc(ae:T1)(cj:Ux)(cr:VZ):T0:=λa7 w k=>aL w #[.pointer a7] 141 λd w2=>drew w2 λz=>aR z d λp4=>nn p4 λa5=>cC z (a5.add 5) λs6=>aR z d λp7=>nn p7 λa8=>aR z (a8.add 0) λp9=>nn p9 λa9=>aN .i64 z (aY (a9.add 1) 4) λb0=>ap (decide (((s6.n:Nat):Int)≥b0)) (aR z d λp12=>nn p12 λb1=>aR z (b1.add 0) λp14=>ae p14 23 z λg1 b2=>k () b2) (drew z λj=>aR j d λp18=>nn p18 λb3=>bD 2 j (b3.add 2) λR=>aR j d λb4=>nn b4 λb5=>aR j (b5.add 0) λb6=>nn b6 λb7=>aR j (b7.add 7) λb8=>aR j d λb9=>nn b9 λc0=>aN .i64 j (c0.add 1) λc1=>cj R b8 c1 j λB C=>aR C d λc2=>nn c2 λc3=>aR C (c3.add 0) λc4=>ae c4 (B.1,B.2).2 C λc5 T=>ap c5 (k () T) (drew T λl=>aR l d λc6=>nn c6 λc7=>aR l (c7.add 0) λc8=>nn c8 λc9=>cC l (c9.add 11) λd0=>aR l d λd1=>nn d1 λd2=>aN .i64 l (d2.add 18) λd3=>cZ d0 d3 1 λd4=>aR l d4 λx=>nn x λd5=>aN .i64 l (d5.add 2) λd6=>lz #[Iv 0,Iv 0] 0 2 #[Iv d6,(Iv (B.1,B.2).1)] λU=>aL l U 356 λd7 d8=>nn x λd9=>bJ d8 (d9.add 24) (.slice (some d7) 1 1) λe0=>cE (S:=Unit) (λD=>drew e0 λb=>aR b d λF=>aR b d λG=>aR b d λe1=>nn e1 λt=>cC b (t.add 5) λf=>aR b d λe2=>nn e2 λg=>cC b (g.add 6) λh=>aR b d λe3=>nn e3 λu=>sX b (u.add 19) λv=>both (aL b #[.pointer x] 114 λV e=>ai 1 (u.add 19) b e (ai 1 d b e (ai 1 (g.add 6) b e (ai 1 d b e (ai 1 (t.add 5) b e (ai 1 d b e (ai 1 d b e (ai 1 d b e (both (qd Tryz.prog #[97,97] 97 [.slice f.a f.n f.c,(.slice (some V) 1 1)] e λH m=>ai 1 (u.add 19) b m (ai 1 d b m (ai 1 (g.add 6) b m (ai 1 d b m (ai 1 d b m (ai 1 d b m (rJ v (aL m #[v] 1 λe4 o=>ai 1 (g.add 6) b o (ai 1 d b o (ai 1 (t.add 5) b o (ai 1 d b o (ai 1 d b o (ai 1 d b o (qd Tryz.prog #[146,146] 146 [.slice h.a h.n h.c,(.slice (some e4) 1 1)] o λI J=>ai 1 d b J (ai 1 d b J (nn F λe5=>bJ J (e5.add 5) (.slice H.a H.n H.c) λW=>ai 1 d b W (nn G λe6=>bJ W (e6.add 6) (.slice I.a I.n I.c) λe7=>D () e7))))))))))))))))) (rJ v (aL e #[v] 1 λe8 p=>ai 1 (g.add 6) b p (ai 1 d b p (ai 1 (t.add 5) b p (ai 1 d b p (ai 1 d b p (ai 1 d b p (qd Tryz.prog #[97,97] 97 [.slice f.a f.n f.c,(.slice (some V) 1 1)] p λL q=>ai 1 (u.add 19) b q (ai 1 d b q (ai 1 (g.add 6) b q (ai 1 d b q (ai 1 d b q (ai 1 d b q (qd Tryz.prog #[146,146] 146 [.slice h.a h.n h.c,(.slice (some e8) 1 1)] q λM N=>ai 1 d b N (ai 1 d b N (nn F λe9=>bJ N (e9.add 5) (.slice L.a L.n L.c) λX=>ai 1 d b X (nn G λf0=>bJ X (f0.add 6) (.slice M.a M.n M.c) λf1=>D () f1)))))))))))))))))))))))))) (rJ v (aL b #[v] 1 λf2 r=>ai 1 (g.add 6) b r (ai 1 d b r (ai 1 (t.add 5) b r (ai 1 d b r (ai 1 d b r (ai 1 d b r (aL r #[.pointer x] 114 λf3 i=>ai 1 (u.add 19) b i (ai 1 d b i (ai 1 (g.add 6) b i (ai 1 d b i (ai 1 (t.add 5) b i (ai 1 d b i (ai 1 d b i (ai 1 d b i (qd Tryz.prog #[97,97] 97 [.slice f.a f.n f.c,(.slice (some f3) 1 1)] i λO s=>ai 1 (u.add 19) b s (ai 1 d b s (ai 1 (g.add 6) b s (ai 1 d b s (ai 1 d b s (ai 1 d b s (qd Tryz.prog #[146,146] 146 [.slice h.a h.n h.c,(.slice (some f2) 1 1)] s λP Q=>ai 1 d b Q (ai 1 d b Q (nn F λf4=>bJ Q (f4.add 5) (.slice O.a O.n O.c) λY=>ai 1 d b Y (nn G λf5=>bJ Y (f5.add 6) (.slice P.a P.n P.c) λZ=>D () Z)))))))))))))))))))))))))) λaFE a0=>drew a0 λy=>aR y d λa2=>nn x λa3=>aN .i64 y (a3.add 1) λa4=>cr a2 a4 (.func (.func oZ) #[] #[.pointer (some d)]) y λ_u a6=>k () a6))
theorem O3 a b c:E [.p] [] [(bf,qu a),(qp,IF b),(sQ,Lb c)] 281474976972830 [(9,[])] f243=λx=>yc a b c x:=be
def fN:=yc ae cj cr
abbrev yd:bn:=bY fN
theorem O4:SS mL (bY fN):=so func243 (.c bj (.c xZ (.c yb .z))) (O3 ae cj cr)
def iK:T99:=λtW r w k=>aL w tW 119 λd G=>aL G r 24 λD H=>aL H Jd 75 λe f=>cE (S:=Bool) (λF=>aN .i64 f (d.add 0) λI=>ap (decide (I<0)) (F true f) (aN .i64 f (d.add 0) λJ=>cC f (D.add 0) λs=>(F (decide (J≥((s.n:Nat):Int))) f))) λt a=>ap t (dZ 5 a e Jd λg=>bD 5 g e λh=>k (h,17) g) (cC a (D.add 0) λu=>aN .i64 a (d.add 0) λv=>cZ u v 2 λx=>cC a (x.add 1) λi=>cE (S:=Bool) (λj=>aN .i64 a (d.add 1) λy=>ap (decide (y<0)) (j true a) (aN .i64 a (d.add 1) λz=>(j (decide (z≥((i.n:Nat):Int))) a))) λA c=>ap A (dZ 5 c e Jd λl=>bD 5 l e λm=>k (m,17) l) (aN .i64 c (d.add 1) λB=>cZ i B 5 λC=>bD 5 c C λo=>dZ 5 c e o λp=>bD 5 p e λq=>k (q,0) p))
theorem S4:SS Hl (ax3 iK):=sl 34359869564 [(1,[(17,.b)]),(5,[(35,.b)])] func134
def ye(Q:T8)(O:T99)(U:T1):MD:=λc w k=>aL w Jd 75 λP R=>cE (S:=(Addr×Int)) (λB=>drew R λb=>nn c λo=>aR b (o.add 0) λp6=>nn p6 λp=>bD 1 b (p.add 0) λl=>both (Q c b λp9 a=>ai 1 (p.add 0) b a (ai 1 (o.add 0) b a (nn p9 λm=>bD 19 a (m.add 4) λj=>both (O j l a λd C=>aL C Jd 75 λq e=>ai 19 (m.add 4) a e (ai 1 (p.add 0) b e (ai 1 (o.add 0) b e (dZ 5 e q (d.1,d.2).1 λD=>B (q,(d.1,d.2).2) D)))) (aL a Jd 75 λr f=>ai 19 (m.add 4) a f (ai 1 (p.add 0) b f (ai 1 (o.add 0) b f (O j l f λg F=>dZ 5 F r (g.1,g.2).1 λG=>B (r,(g.1,g.2).2) G))))))) (aL b Jd 75 λs n=>ai 1 (p.add 0) b n (ai 1 (o.add 0) b n (Q c n λH h=>ai 1 (p.add 0) b h (ai 1 (o.add 0) b h (nn H λI=>bD 19 h (I.add 4) λt=>O t l h λi J=>dZ 5 J s (i.1,i.2).1 λL=>B (s,(i.1,i.2).2) L)))))) λu v=>nn c λM=>aR v (M.add 0) λN=>U N u.2 v λT x=>bD 5 x u.1 λy=>dZ 5 x P y λz=>bD 5 z P λA=>k A z
theorem O5 b c d:E [.p] [.ag] [(bV,F9 b),(Hl,ax3 c),(bf,qu d)] 29 [(1,[(3,.a),(4,(.i .i64))])] f287=λx=>ye b c d x:=be
def aK:=ye af iK ae
theorem mU:SS kL (ED aK):=so func287 (.c cg (.c S4 (.c bj .z))) (O5 af iK ae)
def r7:Uw:=λzj w k=>cE (S:=Bool) (λa=>ap (zj==6) (a (zj==6) w) (ap (zj==7) (a (zj==7) w) (ap (zj==8) (a (zj==8) w) (ap (zj==9) (a (zj==9) w) (ap (zj==10) (a (zj==10) w) (ap (zj==11) (a (zj==11) w) (ap (zj==12) (a (zj==12) w) (a (zj==14) w)))))))) λc b=>ap c (k true b) (k false b)
theorem acZ:SS TI (AF r7):=sl 29 [(4,[(4,.b)])] func135
def zO(aK:MD)(r7:Uw)(dV:T71)(af:T8)(cr:VZ):T0:=λg w k=>aL w #[.pointer g] 141 λd p=>aR p d λp3=>aK p3 p λh r=>aL r Jd 75 λf s=>dZ 5 s f h λq=>aN .i64 q (f.add 0) λt=>r7 t q λj a=>ap (!j) (aR a d λp12=>bD 5 a f λe=>dV p12 e a λ_u l=>k () l) (drew a λb=>aR b d λp16=>aR b d λp17=>af p17 b λp18 c=>ai 1 d b c (nn p18 λm=>aN .i64 c (m.add 1) λn=>cr p16 n (.func (.func pJ) #[] #[.pointer (some d),.pointer (some f)]) c λ_u o=>k () o))
theorem QT a b c d e:E [.p] [] [(kL,ED a),(TI,AF b),(zh,ap8 c),(bV,F9 d),(sQ,Lb e)] 262 [] f269=λx=>zO a b c d e x:=be
def gR:=zO aK r7 dV af cr
abbrev zP:bn:=bY gR
theorem QU:SS gu (bY gR):=so func269 (.c mU (.c acZ (.c Gj (.c cg (.c yb .z))))) (QT aK r7 dV af cr)
def Bc(aj:GV):Ux:=λb c d w k=>aL w b 99 λf e=>aN .i64 e (f.add 0) λh=>aj c d h e λa i=>k ((a.1,a.2).1,(a.1,a.2).2) i
theorem S5 a:E [.ag,.p,.i .i64] [.i .i64,.i .i64] [(dI,yO a)] 206 [] f211=λx=>Bc a x.1 x.2.1 x.2.2:=be
def lf:=Bc aj
theorem S6:SS Ho (IF lf):=so func211 (.c dX .z) (S5 aj)
def Bd(lf:Ux):T6:=λa c d w k=>ap ((eL a)||(eL c)) (k 2 w) (nn a λg=>bD 1 w (g.add 0) λe=>lf e c d w λb f=>ap ((b.1,b.2).2 !=0) (k (b.1,b.2).2 f) (nn a λh=>bJ f (h.add 1) (Iv 1) λi=>nn a λj=>bJ i (j.add 2) (Iv (b.1,b.2).1) λl=>k 0 l))
theorem S7 a:E [.p,.p,.i .i64] [.i .i64] [(Ho,IF a)] 67125703 [] f163=λx=>Bd a x.1 x.2.1 x.2.2:=be
def cI:=Bd lf
theorem Be:SS uz (ry cI):=so func163 (.c S6 .z) (S7 lf)
def eG:Zr:=λa w k=>aL w a 144 λf e=>bD 2 e f λb=>lz zr6 0 2 b λc=>lz #[Iv 0,Iv 0,Iv 0,Iv 0,Iv 0,Iv 0,Iv 0,.bool false,Iv 0,Iv 0,.pointer none,.nilFunc,Iv 0,Iv 0,Iv 0] 0 6 c λd=>rJ (.func (.func om) #[] #[]) (aL e (eM d 11 (.func (.func om) #[] #[])) 289 λg h=>k (some g) h)
theorem IP:SS vG (JJ eG):=sl 6 [] func165
def zQ(B:T6)(C:T1)(eG:Zr)(bl:T39):T0:=λh w k=>aL w #[.pointer h] 141 λc v=>aR v c λp3=>nn p3 λy=>bJ v (y.add 14) (.bool false) λz=>drew z λa=>aR a c λp7=>nn p7 λx=>aR a (x.add 0) λp9=>aR a c λp10=>nn p10 λi=>aR a (i.add 4) λp12=>aR a c λp13=>nn p13 λj=>aR a (j.add 0) λp15=>nn p15 λl=>aR a (l.add 7) λp17=>aR a c λp18=>nn p18 λm=>aN .i64 a (m.add 1) λn=>B p12 p17 n a λo d=>ai 1 (x.add 0) a d (ai 1 c a d (C p9 o d λp e=>ap p (k () e) (drew e λb=>aR b c λq=>aR b c λr=>nn r λs=>bD 2 b (s.add 2) λf=>eG f b λt g=>ai 1 c b g (bl q t (.func (.func pI) #[] #[.pointer (some c)]) g λ_u u=>k () u))))
theorem QV a b c d:E [.p] [] [(uz,ry a),(bf,qu b),(vG,JJ c),(mK,aa9 d)] 33554434 [] f115=λx=>zQ a b c d x:=be
def gS:=zQ cI ae eG bl
abbrev zR:bn:=bY gS
theorem QW:SS fZ (bY gS):=so func115 (.c Be (.c bj (.c IP (.c sS .z)))) (QV cI ae eG bl)
def zS(T:T8)(au:MD)(cQ:T51)(ae:T1):T0:=λd w k=>drew w λe=>nn d λx=>aR e (x.add 0) λp3=>nn p3 λy=>aR e (y.add 9) λp5=>nn d λz=>aR e (z.add 0) λp7=>nn p7 λA=>aR e (A.add 7) λp9=>nn d λl=>aN .i64 e (l.add 1) λC=>T d e λp12 f=>ai 1 (l.add 1) e f (ai 1 (A.add 7) e f (ai 1 (z.add 0) e f (ai 1 (y.add 9) e f (ai 1 (x.add 0) e f (au p12 f λr g=>ai 1 (l.add 1) e g (ai 1 (A.add 7) e g (ai 1 (z.add 0) e g (ai 1 (y.add 9) e g (ai 1 (x.add 0) e g (PJ r 0 λD=>xy .i64 D λF=>cQ p5 p9 C F g λh s=>nn d λG=>aR s (G.add 0) λH=>ae H (h.1,h.2).2 s λI t=>ap I (k () t) (drew t λb=>nn d λi=>aR b (i.add 0) λJ=>nn d λm=>aR b (m.add 0) λL=>nn L λo=>cC b (o.add 10) λp=>ai 1 (o.add 10) b b (ai 1 (m.add 0) b b (ai 1 (i.add 0) b b (lz #[Iv 0,Iv 0,Iv 0,.bool false] 0 4 #[(Iv (-2)),Iv 0,Iv 0,.bool false] λu=>aL b u 125 λM j=>ai 1 (o.add 10) b j (ai 1 (m.add 0) b j (ai 1 (i.add 0) b j (qd Tryz.prog #[96,96] 96 [.slice p.a p.n p.c,(.slice (some M) 1 1)] j λq v=>ai 1 (i.add 0) b v (nn J λN=>bJ v (N.add 10) (.slice q.a q.n q.c) λO=>nn d λP=>bJ O (P.add 28) (Iv (h.1,h.2).1) λQ=>nn d λR=>bJ Q (R.add 7) (.func (.func mM) #[.pointer d] #[]) λS=>k () S))))))))))))))))))
theorem QX a b c d:E [.p] [] [(bV,F9 a),(gE,ED b),(vF,adO c),(bf,qu d)] 34359738381 [] f307=λx=>zS a b c d x:=be
def gT:=zS af au cQ ae
abbrev zT:bn:=bY gT
theorem QY:SS lA (bY gT):=so func307 (.c cg (.c iI (.c Cd (.c bj .z)))) (QX af au cQ ae)
def Ng(i:T7):T57:=λb aq3 w k=>aL w b 75 λd a=>aN .i64 a (d.add 0) λf=>ap (f==aq3) (bD 5 a d λc=>i c a λg h=>k (g==0) h) (k false a)
theorem afB a:E [.ag,.i .i64] [.b] [(Bv,AX a)] 22 [] f235=λx=>Ng a x.1 x.2:=be
def eK:=Ng eW
theorem HV:SS Di (ag8 eK):=so func235 (.c Kl .z) (afB eW)
def zU(eK:T57)(lF:World→((Array Value)→aq)→Prop)(tW:Array Value)(x:Array Value)(y:Array Value)(w:World)(k:(Array Value×Int)→aq):Prop:= aL w tW 119 λz X=>aL X x 24 λV Y=>aL Y y 75 λv Z=>aL Z Dn 119 λh W=>bD 5 W v λA=>eK A 8 W λB d=>ap (!B) (dZ 19 d h Dn λi=>bD 19 i h λj=>k (j,1) i) (aN .i64 d (v.add 4) λC=>cC d (V.add 0) λD=>ap (decide (C≥((D.n:Nat):Int))) (dZ 19 d h Dn λl=>bD 19 l h λm=>k (m,17) l) (lF d λo F=>aL F Dn 119 λe G=>dZ 19 G e o λH=>drew H λf=>aN .i64 f (v.add 4) λI=>bD 8 f (z.add 2) λp=>bJ f (e.add 0) (Iv I) λq=>ai 8 (z.add 2) f q (dZ 8 q (e.add 2) p λJ=>kH (S:=Int) (λr b g=>ap (decide (b<8)) (drew g λc=>cC c (V.add 0) λL=>aN .i64 c (v.add 4) λM=>cZ L M 2 λN=>aN .i64 c (N.add 0) λO=>G9 .i64 1 b λP=>ap ((oC .i64 O P) !=0) (GG (z.add 10) 8 b 1 λQ=>aN .i64 c Q λR=>GG (e.add 10) 8 b 1 λT=>bJ c T (Iv R) λU=>r (aG .i64 (b+1)) U) (r (aG .i64 (b+1)) c)) (bD 19 g e λs=>dZ 19 g h s λt=>bD 19 t h λu=>k (u,0) t)) 0 J)))
theorem QZ a b:E [.ag,.ag,.ag] [.ag,.i .i64] [(Di,ag8 a),(Ki,ajD b)] 2199829091320 [(11,[(28,(.i .i64))])] f190=λx=>zU a b x.1 x.2.1 x.2.2:=be
def iX:=zU eK lF
theorem Q0:SS F0 (aqn iX):=so func190 (.c HV (.c TU .z)) (QZ eK lF)
def yf(y:T57)(az:Zs):aqo:=λtW l aBH w k=>aL w tW 119 λm t=>aL t l 75 λr u=>aL u Dn 119 λi s=>bD 5 s r λn=>y n 8 s λv j=>ap (!v) (bD 19 j m λa=>dZ 19 j i a λb=>bD 19 b i λc=>k c b) (aN .i64 j (r.add 1) λo=>GG (m.add 10) 8 o 1 λp=>bJ j p (Iv aBH) λd=>bD 19 d m λe=>az e d λf q=>dZ 19 q i f λg=>bD 19 g i λh=>k h g)
theorem O6 a b:E [.ag,.ag,.i .i64] [.ag] [(Di,ag8 a),(iQ,Od b)] 604 [] f191=λx=>yf a b x.1 x.2.1 x.2.2:=be
def jb:=yf eK az
theorem O7:SS Ey (aqp jb):=so func191 (.c HV (.c kO .z)) (O6 eK az)
def aH:T0:=λa w k=>nn a λc=>aR w (c.add 0) λp2=>nn p2 λd=>aN .i64 w (d.add 20) λe=>nn p2 λf=>bJ w (f.add 20) (Iv (aG .i64 (e+1))) λg=>nn a λh=>bJ g (h.add 7) (.func (.func gu) #[.pointer a] #[]) λi=>k () i
theorem nr:SS lD (bY aH):=sl 1 [] func336
def yg(aE:Xx)(af:T8)(aK:MD)(iX:ax4)(ae:T1)(au:MD)(eX:T76)(jb:aqo)(aH:T0):T0:=λa w k=>aE a w λb1 w2=>ap b1 (k () w2) (af a w2 λp3 w4=>aK a w4 λP w6=>aL w6 Jd 75 λv w8=>dZ 5 w8 v P λw9=>cE (S:=(Addr×Int)) (λx=>drew w9 λc=>nn p3 λp=>bD 19 c (p.add 4) λl=>nn a λq=>aR c (q.add 0) λp15=>nn p15 λr=>bD 1 c (r.add 0) λm=>bD 5 c v λo=>both (iX l m o c λi Q=>aL Q Dn 119 λy e=>ai 5 v c e (ai 1 (r.add 0) c e (ai 1 (q.add 0) c e (ai 19 (p.add 4) c e (dZ 19 e y (i.1,i.2).1 λR=>x (y,(i.1,i.2).2) R))))) (aL c Dn 119 λz f=>ai 5 v c f (ai 1 (r.add 0) c f (ai 1 (q.add 0) c f (ai 19 (p.add 4) c f (iX l m o f λj T=>dZ 19 T z (j.1,j.2).1 λU=>x (z,(j.1,j.2).2) U)))))) λs V=>cE (S:=Bool) (λA=>drew V λB=>nn a λW=>aR B (W.add 0) λX=>ae X s.2 B λY b=>ap Y (A true b) (nn a λt=>aR b (t.add 0) λZ=>nn a λC=>aR b (C.add 0) λa0=>nn a λD=>aN .i64 b (D.add 1) λa1=>nn p3 λF=>aN .i64 b (F.add 0) λa2=>nn a λG=>aN .i64 b (G.add 28) λa3=>bD 19 b s.1 λH=>au p3 b λI d=>ai 19 s.1 b d (ai 1 (G.add 28) b d (ai 1 (F.add 0) b d (ai 1 (D.add 1) b d (ai 1 (C.add 0) b d (ai 1 (t.add 0) b d (PJ I 0 λa4=>xy .i64 a4 λa5=>eX a0 a1 a2 a5 a3 H d λa6 J=>ai 1 (t.add 0) b J (ae Z a6 J λa8 a9=>A a8 a9))))))))) λb0 L=>ap b0 (k () L) (drew L λh=>nn p3 λb2=>bD 19 h (b2.add 4) λM=>bD 5 h v λN=>nn a λb3=>aR h (b3.add 0) λb4=>nn b4 λb5=>cC h (b5.add 11) λb6=>jb M N (aG .i64 (((b6.n:Nat):Int) - 1)) h λO b7=>nn p3 λb8=>dZ 19 b7 (b8.add 4) O λu=>nn a λb9=>aR u (b9.add 0) λc0=>nn c0 λc1=>cC u (c1.add 11) λc2=>nn a λc3=>bJ u (c3.add 18) (Iv (aG .i64 (((c2.n:Nat):Int) - 1))) λc4=>aH a c4 λ_u c5=>nn a λc6=>bJ c5 (c6.add 7) (.func (.func lO) #[.pointer a] #[]) λc7=>k () c7))
theorem O8 c d e f g h j l m:E [.p] [] [(jM,Oc c),(bV,F9 d),(kL,ED e),(F0,aqn f),(bf,qu g),(gE,ED h),(B8,aqb j),(Ey,aqp l),(lD,bY m)] 2305843009213694141 [(3,[(4,.a),(5,(.i .i64))]),(4,[(61,.b)])] f331=λx=>yg c d e f g h j l m x:=be
def fO:=yg aE af aK iX ae au eX jb aH
abbrev yh:bn:=bY fO
theorem O9:SS mM (bY fO):=so func331 (.c kN (.c cg (.c mU (.c Q0 (.c bj (.c iI (.c II (.c O7 (.c nr .z))))))))) (O8 aE af aK iX ae au eX jb aH)
def wz(M:T8)(au:MD)(eu:T77)(ae:T1)(ey:T58)(bl:T39):T0:=λr w k=>aL w #[.pointer r] 141 λd L=>drew L λa=>aR a d λp4=>nn p4 λq=>aR a (q.add 0) λp6=>aR a d λp7=>nn p7 λs=>aR a (s.add 0) λp9=>nn p9 λf=>aR a (f.add 9) λp11=>aR a d λp12=>nn p12 λg=>aR a (g.add 0) λp14=>nn p14 λh=>aR a (h.add 7) λp16=>aR a d λp17=>nn p17 λi=>aN .i64 a (i.add 1) λt=>aR a d λu=>M u a λv b=>ai 1 (i.add 1) a b (ai 1 d a b (ai 1 (h.add 7) a b (ai 1 (g.add 0) a b (ai 1 d a b (ai 1 (f.add 9) a b (ai 1 (s.add 0) a b (ai 1 d a b (ai 1 (q.add 0) a b (ai 1 d a b (au v b λm c=>ai 1 (i.add 1) a c (ai 1 d a c (ai 1 (h.add 7) a c (ai 1 (g.add 0) a c (ai 1 d a c (ai 1 (f.add 9) a c (ai 1 (s.add 0) a c (ai 1 d a c (ai 1 (q.add 0) a c (ai 1 d a c (PJ m 0 λx=>xy .i64 x λy=>eu p11 p16 t y c λz j=>ai 1 (q.add 0) a j (ai 1 d a j (ae p6 z j λA n=>ap A (k () n) (drew n λe=>aR e d λB=>aR e d λC=>nn C λD=>bD 2 e (D.add 2) λo=>aR e d λF=>nn F λG=>aN .i64 e (G.add 18) λH=>ey o H e λI p=>ai 1 d e p (bl B I (.func (.func oH) #[] #[.pointer (some d)]) p λ_u J=>k () J))))))))))))))))))))))))
theorem Nh a b c d e f:E [.p] [] [(bV,F9 a),(gE,ED b),(AR,aqc c),(bf,qu d),(AT,ag9 e),(mK,aa9 f)] 536870914 [] f350=λx=>wz a b c d e f x:=be
def ff:=wz af au eu ae ey bl
abbrev wA:bn:=bY ff
theorem Ni:SS lO (bY ff):=so func350 (.c cg (.c iI (.c Hu (.c bj (.c Hv (.c sS .z)))))) (Nh af au eu ae ey bl)
def wB(Q:T6)(R:T1)(S:T8)(cr:VZ):T75:=λl ano w k=>aL w #[.pointer l] 141 λb N=>aL N #[.pointer ano] 114 λM O=>drew O λf=>aR f b λp6=>aR f b λp7=>aR f M λp8=>nn p6 λP=>bJ f (P.add 20) (.pointer p8) λg=>ai 1 b f g (nn p7 λm=>bJ g (m.add 14) (.bool false) λh=>aR h b λp13=>nn p13 λn=>bJ h (n.add 24) (.func (.func eJ) #[] #[.pointer (some b),.pointer (some M)]) λo=>drew o λa=>aR a b λp17=>nn p17 λi=>aR a (i.add 0) λp19=>aR a b λp=>nn p λq=>aR a (q.add 4) λr=>aR a b λs=>nn s λt=>aR a (t.add 0) λu=>nn u λv=>aR a (v.add 7) λx=>aR a b λy=>nn y λz=>aN .i64 a (z.add 1) λB=>Q r x B a λC d=>ai 1 (i.add 0) a d (ai 1 b a d (R p19 C d λD j=>ap D (k () j) (drew j λc=>aR c b λF=>aR c b λG=>S G c λH e=>ai 1 b c e (nn H λI=>aN .i64 e (I.add 1) λJ=>cr F J (.func (.func oG) #[] #[.pointer (some b)]) e λ_u L=>k () L)))))
theorem Nj a b c d:E [.p,.p] [] [(uz,ry a),(bf,qu b),(bV,F9 c),(sQ,Lb d)] 34359738380 [] f332=λx=>wB a b c d x.1 x.2:=be
def cV:=wB cI ae af cr
theorem DW:SS vL (aqa cV):=so func332 (.c Be (.c bj (.c cg (.c yb .z)))) (Nj cI ae af cr)
def zV(aK:MD)(af:T8)(cV:T75):T0:=λa w k=>aK a w λn G=>aL G Jd 75 λm H=>dZ 5 H m n λf=>aN .i64 f (m.add 2) λI=>aN .i64 f (m.add 0) λJ=>ap (J==10) (aN .i64 f (m.add 3) λL=>drew f λg=>nn a λh=>aR g (h.add 0) λp11=>nn p11 λi=>cC g (i.add 11) λo=>af a g λp14 b=>ai 1 (i.add 11) g b (ai 1 (h.add 0) g b (nn p14 λp=>GG (aY (p.add 4) 10) 8 L 1 λq=>aN .i64 b q λr=>cZ o r 1 λs=>aR b s λt=>cV a t b λ_u u=>k () u))) (drew f λc=>nn a λj=>aR c (j.add 0) λv=>nn v λl=>cC c (l.add 11) λx=>af a c λy d=>ai 1 (l.add 11) c d (ai 1 (j.add 0) c d (nn y λz=>GG (aY (z.add 4) 10) 8 I 1 λA=>aN .i64 d A λB=>cZ x B 1 λC=>aR d C λD=>cV a D d λ_u F=>k () F)))
theorem Q1 a b c:E [.p] [] [(kL,ED a),(bV,F9 b),(vL,aqa c)] 1037 [] f308=λx=>zV a b c x:=be
def gU:=zV aK af cV
abbrev zW:bn:=bY gU
theorem Q2:SS jm (bY gU):=so func308 (.c mU (.c cg (.c DW .z))) (Q1 aK af cV)
end Go.Proofs.YthidhjhkmjjckaaGreatDoor
