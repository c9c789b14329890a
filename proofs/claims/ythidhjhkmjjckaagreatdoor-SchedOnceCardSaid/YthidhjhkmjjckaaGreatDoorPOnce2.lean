/-
  Parts of the proof of LOnce: printed by a program out of longer texts.
-/
import Derived.Test.YthidhjhkmjjckaaGreatDoorPOnce1
import Derived.RangeFuncFrom
import Derived.RangeFuncLeaves
import Derived.ScopeJumps
import Derived.Test.YthidhjhkmjjckaaGreatDoorProg
import Derived.KernelRfl
set_option linter.unusedVariables false
set_option linter.unusedSimpArgs false
set_option maxRecDepth 100000
set_option linter.defProp false
open Go.Value renaming pointer->IB,nilFunc->C_,slice->IC,bool->Iq
open Go.IntKind renaming i64->B_
open Or renaming inl->D_
open Go.Fn renaming func->F_
open Option renaming some->G_,none->H_,isNone_iff_eq_none->J1
open Bool renaming true->J_,false->K_,not_eq_true'->i_
open Decidable renaming decide->L_
open Go renaming Value->M_,World->N_,Addr->P_,Program->R_
open List renaming foldl_cons->q_,zip_cons_cons->Iz
open Nat renaming beq->D2
open List renaming getElem?_eq_some_iff->kB,getElem?_eq_getElem->iH,getD_eq_getElem?_getD->m0,getElem?_append_left->tJ,getElem?_append_right->u0,getElem?_set_ne->r0,getElem?_set_self->uO,mem_of_getElem?->qn,getElem?_map->l8,replicate->dU,mem_append->zw,length_append->uv,all_eq_true->tL
open Go.Sem renaming run_pure->cP,run_bind->cR
open Go.Result renaming andThen_ok->cK
open Bool renaming or_eq_false_iff->kf,and_eq_true->iY
open Option renaming isNone->eA
open Go.IntKind renaming wrap->aF
open Int renaming toNat_natCast->iZ
open Array renaming setIfInBounds->eS,getElem?_eq_some_iff->Bf
open Nat renaming le_refl->iw
open Go.Addr renaming add->aY
namespace Go.Ev
abbrev A_(g:Nat):Option Addr:=G_ ⟨g,0,H_⟩
abbrev S_(s:Sl):Value:=IC s.a s.n s.c
abbrev I_(n:Int):Value:= .int B_ n
end Go.Ev
namespace Go.Ev
open Go Go.RowKit
def rF:Code->Bool
 | .rangeFunc _ _ _ _=>J_
 | .goto _=>J_
 | .seq a b=>rF a||rF b
 | .cond _ a b=>rF a||rF b
 | .block _ a=>rF a
 | .loop a=>rF a
 | .scope a=>rF a
 |_=>K_
def KY:Code->List (Nat×Nat)
 | .region _ ops _=>match ops[0]? with|some o=>(match o.op,o.dst with| .assign (.tmp s),some d=>[(d,s)] |_,_=>[])|none=>[]
 | .seq a b=>KY a++KY b
 |_=>[]
def QO:Code->Bool
 | .skip=>J_
 | .region _ ops false=>match ops.toList with|[o]=>(match o.op,o.dst,o.guard with| .assign (.tmp _),some _,none=>J_|_,_,_=>K_)|_=>K_
 | .seq a b=>QO a&&QO b
 |_=>K_
inductive j5 where
 |base (a:AC)
 |seq (a b:j5)
 |cond (c:Operand) (a b:j5)
 |block (id:Nat) (a:j5)
 |loop (ks:List (Nat×K)) (a:j5)
 |join (ks:List (Nat×K)) (a:j5)
 |scope (a:j5)
 |goto (l:Nat)
 |y7 (ks:List (Nat×K)) (l:Nat) (p q:j5)
 |AU (ks:List (Nat×K)) (l:Nat) (p p2:j5) (l2:Nat) (q:j5)
 |range (ks:List (Nat×K)) (f:Operand) (ps:Array Tmp) (asl:List (Nat×Nat)) (assign:Code) (body:AC)
mutual
def j5.code:j5->Code
 | .base a=>a.code
 | .seq a b=> .seq a.code b.code
 | .cond c a b=> .cond c a.code b.code
 | .block id a=> .block id a.code
 | .loop _ a=> .loop a.code
 | .join _ a=>a.code
 | .scope a=> .scope a.code
 | .range _ f ps _ a b=> .rangeFunc f ps a b.code
 | .goto l=> .goto l
 | .y7 _ l p q=> .scope (qy p (.seq (.label l) q.code))
 | .AU _ l p p2 l2 q=> .scope (qy p (.seq (.label l) (qy p2 (.seq (.label l2) q.code))))
def qy:j5->Code->Code
 | .seq a r,t=> .seq a.code (qy r t)
 |_,t=>t
end
def Na:j5->Bool
 | .seq _ r=>Na r
 | .base .skip=>J_
 |_=>K_
def Nb(l:Nat):j5->Bool
 | .seq a r=>(findLabel a.code l).isNone&&Nb l r
 |_=>J_
def toJ:j5->Option (j5×Nat×j5)
 | .seq a b=>match b with
  | .seq (.base (.label l)) q=>G_ (.seq a (.base .skip),l,q)
  |b=>match toJ b with|some (p,l,q)=>G_ (.seq a p,l,q)|none=>H_
 |_=>H_
def aeT:∀(x:j5) {p q:j5} {l:Nat},toJ x=G_ (p,l,q)->x.code=qy p (.seq (.label l) q.code)
 | .seq a b,p,q,l,h=>by
  unfold toJ at h;split at h
  .cases h;rfl
  .split at h
   .rename_i c;cases h
    have:=aeT b c;simp only[j5.code,qy,this]
   .cases h
 | .base _,_,_,_,h| .cond ..,_,_,_,h| .block ..,_,_,_,h| .loop ..,_,_,_,h| .join ..,_,_,_,h| .scope _,_,_,_,h| .goto _,_,_,_,h| .y7 ..,_,_,_,h| .AU ..,_,_,_,h| .range ..,_,_,_,h=>by cases h
def amX:AC->Option (j5×Nat×AC)
 | .seq a b=>match b with
  | .seq (.label l) q=>G_ (.seq (.base a) (.base .skip),l,q)
  |b=>match amX b with|some (p,l,q)=>G_ (.seq (.base a) p,l,q)|none=>H_
 |_=>H_
def ab0:∀(x:AC) {p:j5} {q:AC} {l:Nat},amX x=G_ (p,l,q)->x.code=qy p (.seq (.label l) q.code)
 | .seq a b,p,q,l,h=>by
  unfold amX at h;split at h
  .cases h;rfl
  .split at h
   .rename_i c;cases h
    have:=ab0 b c;simp only[AC.code,j5.code,qy,this]
   .cases h
 | .skip,_,_,_,h| .region ..,_,_,_,h| .cond ..,_,_,_,h| .block ..,_,_,_,h| .loop ..,_,_,_,h| .exit _,_,_,_,h| .label _,_,_,_,h| .ret,_,_,_,h| .join ..,_,_,_,h| .scope _,_,_,_,h| .bad _,_,_,_,h=>by cases h
def toK:j5->Option (j5×Nat×j5)
 | .seq a b=>match b with
  | .seq (.base (.label l)) q=>G_ (.seq a (.base .skip),l,q)
  | .base (.seq (.label l) q)=>G_ (.seq a (.base .skip),l,.base q)
  |b=>match toK b with|some (p,l,q)=>G_ (.seq a p,l,q)|none=>H_
 | .base x=>match amX x with|some (p,l,q)=>G_ (p,l,.base q)|none=>H_
 |_=>H_
def aeU:∀(x:j5) {p q:j5} {l:Nat},toK x=G_ (p,l,q)->x.code=qy p (.seq (.label l) q.code)
 | .seq a b,p,q,l,h=>by
  unfold toK at h;split at h
  iterate 2 cases h;rfl
  .split at h
   .rename_i c;cases h
    have:=aeU b c;simp only[j5.code,qy,this]
   .cases h
 | .base x,p,q,l,h=>by
  unfold toK at h;split at h
  .rename_i c;cases h
   have:=ab0 x c;simp only[j5.code,this]
  .cases h
 | .cond ..,_,_,_,h| .block ..,_,_,_,h| .loop ..,_,_,_,h| .join ..,_,_,_,h| .scope _,_,_,_,h| .goto _,_,_,_,h| .y7 ..,_,_,_,h| .AU ..,_,_,_,h| .range ..,_,_,_,h=>by cases h
def Kg(l:Nat):j5->Bool
 | .goto l'=>D2 l' l
 | .seq a b=>Kg l a||Kg l b
 | .cond _ a b=>Kg l a||Kg l b
 | .block _ a=>Kg l a
 | .loop _ a=>Kg l a
 | .join _ a=>Kg l a
 |_=>K_
def ab1(ks:List (Nat×K))(l:Nat)(p q:j5):j5:=match toK q with
 |some (p2,l2,q2)=>if Kg l2 p2&& !(D2 l l2)then .AU ks l p p2 l2 q2 else .y7 ks l p q
 |none=> .y7 ks l p q
def ad0(ks:List (Nat×K))(l:Nat)(p q:j5):(ab1 ks l p q).code= .scope (qy p (.seq (.label l) q.code)):=by
 unfold ab1;split
 .rename_i a;split
  .have:=aeU _ a;simp only[j5.code,this]
  .simp only[j5.code]
 .simp only[j5.code]
def WQ(h:sP)(n:Nat)(a:j5):j5:=match h.at n with|some ks=> .join ks a|none=>a
def tv(h:sP):Code->Nat->j5×Nat
 | .seq a b,n=>if rF a||rF b then(match tv h a n with|(x,n)=>match tv h b n with|(y,n)=>(.seq x y,n))else(.base (nk h (.seq a b) n).1,(nk h (.seq a b) n).2)
 | .cond c a b,n=>if rF a||rF b then(match tv h a (n+1)with|(x,m)=>match tv h b m with|(y,m)=>(WQ h n (.cond c x y),m))else(.base (nk h (.cond c a b) n).1,(nk h (.cond c a b) n).2)
 | .block id a,n=>if rF a then(match tv h a (n+1)with|(x,m)=>(WQ h n (.block id x),m))else(.base (nk h (.block id a) n).1,(nk h (.block id a) n).2)
 | .loop a,n=>if rF a then(match tv h a (n+1)with|(x,m)=>(.loop ((h.at n).getD []) x,m))else(.base (nk h (.loop a) n).1,(nk h (.loop a) n).2)
 | .goto l,n=>(.goto l,n)
 | .scope a,n=>if rF a then(match tv h a (n+1)with|(x,m)=>(match toJ x with|some (p,l,q)=>(ab1 ((h.at n).getD []) l p q,m)|none=>(.scope x,m)))else(.base (nk h (.scope a) n).1,(nk h (.scope a) n).2)
 | .rangeFunc f ps a b,n=>match nk h a (n+1)with|(x,m)=>match nk h b m with|(y,m)=>(.range ((h.at n).getD []) f ps (KY a) a y,m)
 |c,n=>(.base (nk h c n).1,(nk h c n).2)
def UE(h:sP)(n:Nat)(a:j5):(WQ h n a).code=a.code:=by
 unfold WQ;split<;>rfl
def agm(h:sP)(c:Code):∀n,(tv h c n).1.code=c:=by
 induction c with
 |seq a b d e=>intro n;unfold tv;split<;>simp[j5.code,d,e,tV]
 |cond c a b d e=>intro n;unfold tv;split<;>simp[UE,j5.code,d,e,tV]
 |block id a ih=>intro n;unfold tv;split<;>simp[UE,j5.code,ih,tV]
 |loop a ih=>intro n;unfold tv;split<;>simp[j5.code,ih,tV]
 |scope a ih=>
  intro n;unfold tv;split
  .simp only;split
   .rename_i g;have:=aeT _ g;simp only[ad0,<-this,ih]
   .simp only[j5.code,ih]
  .simp[j5.code,tV]
 |goto l=>intro n;rfl
 |rangeFunc f ps a b d e=>intro n;simp[tv,j5.code,tV]
 |_=>intro n;simp[tv,j5.code,tV]
def j5.writes:j5->Nat->Bool
 | .base a,s=>a.writes s
 | .seq a b,s=>a.writes s||b.writes s
 | .cond _ a b,s=>a.writes s||b.writes s
 | .block _ a,s=>a.writes s
 | .loop _ a,s=>a.writes s
 | .join _ a,s=>a.writes s
 | .scope a,s=>a.writes s
 | .range _ _ _ _ _ _,_=>K_
 | .goto _,_=>K_
 | .y7 _ _ p q,s=>p.writes s||q.writes s
 | .AU _ _ p p2 _ q,s=>p.writes s||(p2.writes s||q.writes s)
def j5.fits(n:Nat):j5->Bool
 | .base a=>a.fits n
 | .seq a b=>a.fits n&&b.fits n
 | .cond _ a b=>a.fits n&&b.fits n
 | .block _ a=>a.fits n
 | .loop _ a=>a.fits n
 | .join _ a=>a.fits n
 | .scope a=>a.fits n
 | .goto _=>J_
 | .y7 _ l p q=>p.fits n&&q.fits n&&Na p&&Nb l p
 | .AU _ l p p2 l2 q=>p.fits n&&(p2.fits n&&q.fits n)&&Na p&&Nb l p&&Na p2&&Nb l2 p2&&Nb l2 p&& !(D2 l l2)
 | .range ks _ ps asl a b=>b.fits n&&QO a&&L_ (KY a=asl)&&asl.all (λp=>Nat.blt p.1 n)&&L_ (ks.map (·.1)=ps.toList)&&ps.toList.all (λp=>Nat.blt p n)&&L_ (ps.toList.Nodup)
abbrev De:=FuncId->(Nat->bt)->bt
def Cg(I:De)(kk:List K)(v:M_)(w:N_)(body:KT kk->N_->(ap)->Prop)(fin:Nat->ap):Prop:=
 match v with
 | .func (F_ gf) first lb=> ∀R:LoopState->Obj,(∀s,(R s).isCells=K_)->
  I gf (λl args w1 c=>l=w.heap.size+1/\w1.heap[w.heap.size+1]?=G_ (R .ready)/\qW kk args λy=>body y (w1.putObj (w.heap.size+1) (R .busy)) λw4=>w4.heap[w.heap.size+1]?=G_ (R .busy)/\c (Iq J_) (w4.putObj (w.heap.size+1) (R .ready)))
   (first.toList++(.func (.yield (w.heap.size+1)) #[] #[]::lb.toList)) ((w.alloc (.deferred (G_ []))).alloc (R .ready))
   (λ_ w5=>w5.heap[w.heap.size+1]?=G_ (R .ready)/\fin w.heap.size (w5.putObj (w.heap.size+1) (R .exhausted)))
 |_=>False
def aii:(ks:List (Nat×K))->KT (ks.map (·.2))->Env
 |[],_=>[]
 |[(s,k)],x=>[(s,.val (k.v x))]
 |(s,k)::(y::r),x=>(s,.val (k.v x.1))::aii (y::r) x.2
def Env.aij(e:Env)(ps:Array Tmp):Env:=e.filter fun(s,x)=> !(ps.contains s)&&(match x with| .val _=>J_|_=>K_)
def Env.WR(e:Env)(a:j5):Env:=e.filter fun(s,x)=> !(a.writes s)&&(match x with| .val _=>J_|_=>K_)
def WS:List (Nat×Nat)->Env->(Env->Prop)->Prop
 |[],e,c=>c e
 |(d,s)::l,e,c=>match e.find s with|some (.val v)=>lP (e.put d v) λe=>WS l e c|_=>False
inductive Ex2 where
 |normal
 |exit (id:Nat)
 |ret
 |goto (l:Nat)
def Ex2.of:Ex->Ex2
 | .normal=> .normal
 | .exit i=> .exit i
 | .ret=> .ret
def zD(P:R_)(bY:ey)(I:De)(mask:Nat):j5->Env->N_->List Nat->(Ex2->Env->N_->List Nat->Prop)->Prop
 | .base a,e,w,ds,k=>ev P bY mask a e w λx e w=>k (.of x) e w ds
 | .goto l,e,w,ds,k=>k (.goto l) e w ds
 | .y7 ks l p q,e,w,ds,k=>zD P bY I mask p e w ds λx e1 w ds=>match x with
  | .normal=>uo ks e1 λy=>jD (S:=HT ks×List Nat) (λC y w=>lP (Be ks y.1++e1.WR q) λe=>zD P bY I mask q e w y.2 λz e w ds=>match z with| .goto l'=>if D2 l' l then uo ks e λy=>C (y,ds) w else False|z=>k z e w ds) (y,ds) w
  | .goto _=>False
  |x=>k x e1 w ds
 | .AU ks l p p2 l2 q,e,w,ds,k=>zD P bY I mask p e w ds λx e1 w ds=>match x with
  | .normal=>uo ks e1 λy=>jD (S:=HT ks×List Nat) (λC y w=>lP (Be ks y.1++e1.WR (.seq p2 q)) λe=>zD P bY I mask p2 e w y.2 λz e w ds=>match z with
   | .normal=>zD P bY I mask q e w ds λz e w ds=>match z with| .goto l'=>if D2 l' l then uo ks e λy=>C (y,ds) w else False|z=>k z e w ds
   | .goto l'=>if D2 l' l then uo ks e λy=>C (y,ds) w else if D2 l' l2 then zD P bY I mask q e w ds λz e w ds=>match z with| .goto _=>False|z=>k z e w ds else False
   |z=>k z e w ds) (y,ds) w
  | .goto _=>False
  |x=>k x e1 w ds
 | .seq a b,e,w,ds,k=>zD P bY I mask a e w ds λx e w ds=>match x with| .normal=>zD P bY I mask b e w ds k|x=>k x e w ds
 | .cond c a b,e,w,ds,k=>match e.op c with|some (Iq t)=>an t (zD P bY I mask a e w ds k) (zD P bY I mask b e w ds k)|_=>False
 | .block id a,e,w,ds,k=>zD P bY I mask a e w ds λx e w ds=>match x with| .exit i=>if D2 i id then k .normal e w ds else k (.exit i) e w ds|x=>k x e w ds
 | .loop ks a,e,w,ds,k=>
  uo ks e λx=>jD (S:=HT ks×List Nat) (λC x w=>lP (Be ks x.1++e.WR a) λe=>zD P bY I mask a e w x.2 λy e w ds=>match y with| .normal=>uo ks e λx=>C (x,ds) w|y=>k y e w ds) (x,ds) w
 | .join ks a,e,w,ds,k=>
  cz (S:=HT ks×List Nat) (λJ=>zD P bY I mask a e w ds λx e w ds=>match x with| .normal=>uo ks e λx=>J (x,ds) w|x=>k x e w ds) λx w=>lP (Be ks x.1++e.WR a) λe=>k .normal e w x.2
 | .scope a,e,w,ds,k=>zD P bY I mask a e w ds λx e w ds=>match x with| .goto _=>False|x=>k x e w ds
 | .range ks f ps asl _ body,e,w,ds,k=>
  match e.op f with
  |some v=>Cg I (ks.map (·.2)) v w (λy w1 C=>lP (aii ks y++e.aij ps) λe1=>WS asl e1 λe2=>ev P bY mask body e2 w1 λz _ w4=>match z with| .normal=>C w4|_=>False) λD w'=>k .normal e w' (D::ds)
  |none=>False
def I3:List Nat->N_->(ap)->Prop
 |[],w,c=>c w
 |D::ds,w,c=>w.heap[D]?=G_ (.deferred (G_ []))/\I3 ds (w.putObj D (.deferred H_)) c
def aeV{a:Act}:∀(ks:List (Nat×K)) (x:KT (ks.map (·.2))),(∀(i s:Nat),(ks.map (·.1))[i]?=G_ s->a.tmps[s]?=(dL (ks.map (·.2)) x)[i]?)->Sub (aii ks x) a
 |[],_,_=>λp hp=>by cases hp
 |[(s,k)],x,h=>λp hp=>by
  rcases List.mem_cons.1 hp with rfl|hp
  .exact h 0 s rfl
  .cases hp
 |(s,k)::(y::r),x,h=>λp hp=>by
  rcases List.mem_cons.1 hp with rfl|hp
  .exact h 0 s rfl
  .refine aeV (y::r) x.2 (λi s' hs=>?_) _ hp;exact h (i+1) s' (gq hs)
def Nc:∀(ks:List K) (x:KT ks),(dL ks x).length=ks.length
 |[],_=>rfl
 |[_],_=>rfl
 |_::(y::r),x=>by show(dL (y::r) x.2).length+1=_;rw[Nc (y::r)];rfl
def YOK(P:R_)(Y:Nat->bt):Prop:=∀n (args:Array M_) w c,Y n args.toList w c->YieldAt Fence.wide 0 P n args w λe w'=> ∃v,e= .returned v/\c v w'
def WU(P:R_)(I:De):Prop:=∀gf Y (args:Array M_) w c,YOK P Y->I gf Y args.toList w c->
 (∃fn,P.funcs[gf]?=G_ fn/\fn.body.isSome=J_/\(fn.name== "runtime.NumGoroutine")=K_)/\Calls P gf args w fun e w'=> ∃v,e= .returned v/\c v w'
def marks(ds:List Nat):List Deferred:=ds.map λD=> {target:= .collected D,args:=#[]}
def jj(ws:Nat->Bool)(a a':Act):Prop:=a'.tmps.size=a.tmps.size/\∀s,ws s=K_->a'.tmps[s]?=a.tmps[s]?
def jj.refl(ws:Nat->Bool)(a:Act):jj ws a a:=⟨rfl,λ_ _=>rfl⟩
variable{a b:Act}{ws:Nat->Bool}
def jj.trans{c:Act}(h:jj ws a b)(k:jj ws b c):jj ws a c:=⟨k.1.trans h.1,λs hs=>(k.2 s hs).trans (h.2 s hs)⟩
def jj.mono{ws':Nat->Bool}(h:jj ws a b)(c:∀s,ws' s=K_->ws s=K_):jj ws' a b:=⟨h.1,λs hs=>h.2 s (c s hs)⟩
def o8.m(h:o8 ws a b):jj ws a b:=⟨h.1,h.2.2⟩
variable{a':Act}{e:Env}
def WV{c:j5}(h:Sub e a)(f:jj c.writes a a'):Sub (e.WR c) a':=by
 intro p b;unfold Env.WR at b;rw[List.mem_filter]at b;obtain⟨b,d⟩:=b;obtain⟨s,x⟩:=p;simp only[iY,i_]at d;have i:=h _ b;cases x with
 |val v=>show _=_;rw[f.2 s d.1];exact i
 |gd g want v=>exact absurd d.2 bf
def Nf:List (Nat×Nat)->Act->Act
 |[],a=>a
 |(d,s)::l,a=>Nf l (a.put (G_ d) (a.eval (.tmp s)))
def ab2(l l':List (Nat×Nat))(a:Act):Nf (l++l') a=Nf l' (Nf l a):=by
 induction l generalizing a with
 |nil=>rfl
 |cons x l ih=>exact ih _
def Z3:∀(l:List (Nat×Nat)) {e:Env} {a:Act} {c:Env->Prop},Sub e a->(∀p∈l,p.1<a.tmps.size)->WS l e c->∃e',c e'/\Sub e' (Nf l a)/\(Nf l a).tmps.size=a.tmps.size
 |[],e,a,c,hs,_,h=>⟨e,h,hs,rfl⟩
 |(d,s)::l,e,a,c,hs,hl,h=>by
  unfold WS at h;split at h
  .rename_i v hv;rw[kU]at h;have g:a.eval (.tmp s)=v:=qi hs (.tmp s) v (by simp[Env.op,hv])
   have b:(a.put (G_ d) (a.eval (.tmp s))).tmps.size=a.tmps.size:=FA a _ _;have f:Sub (e.put d v) (a.put (G_ d) (a.eval (.tmp s))):=by
    rw[g];exact amK hs (hl (d,s) bf)
   obtain⟨e',i,h2,j⟩:=Z3 l f (λp k=>by rw[b];exact hl p (by simp[k])) h
   exact⟨e',i,h2,j.trans b⟩
  .exact h.elim
variable{P:R_}{n0:Nat}
def aw2{ro:Option Nat}:∀{c:Code} {a:Act} {w:N_} {K:Act->ap} {Q:Exit->Act->ap},QO c=J_->K (Nf (KY c) a) w->c.wpIn (uW ro) n0 P (Exit.then K Q) a w:=by
 intro c;induction c with
 |skip=>intro a w K Q _ h;exact wpIn_skip h
 |region id ops draw=>
  intro a w K Q b h;cases draw with
  |true=>simp[QO]at b
  |false=>
   unfold QO at b;split at b
   .rename_i o j;split at b
    .rename_i s d f k l;have m:ops[0]?=G_ o:=by
      have:=congrArg (·[0]?) j;simpa using this
     refine wpIn_region_list ?_;rw[j];unfold wpListIn;have n:Region.wanted o (yielded ops a.tmps)=true:=AP l _;rw[HK n];refine jE (v:=a.eval (.tmp s)) (w':=w) ?_ ?_
     .simp[execOp,f]
     .unfold wpListIn;have e:KY (.region id ops K_)=[(d,s)]:=by simp[KY,m,f,k]
      rw[e]at h;rw[k];exact h
    .cases b
   .cases b
 |seq x y g i=>
  intro a w K Q b h;simp only[QO,iY]at b;refine wpIn_seq (wpIn_mono (g (K:=λa w=>y.wpIn (uW ro) n0 P (Exit.then K Q) a w) (Q:=Exit.then K Q) b.1 (i b.2 ?_)) λe a w h=>?_)
  .have e:KY (.seq x y)=KY x++KY y:=rfl;rw[e,ab2]at h;exact h
  .cases e<;>exact h
 |_=>intro a w K Q b;simp[QO]at b
def ab3:∀(ps:List Nat) (vs:List M_) (t:Array M_) (s:Nat),s ∉ ps->((ps.zip vs).foldl (λt (x:Nat×M_)=>t.setIfInBounds x.1 x.2) t)[s]?=t[s]?
 |[],_,_,_,_=>by simp
 |p::ps,[],_,_,_=>by simp
 |p::ps,v::vs,t,s,h=>by
  rw[Iz,q_,ab3 ps vs _ s (by simp at h;exact h.2),Array.getElem?_setIfInBounds_ne (by simp at h;omega)]
def aeW:∀(ps:List Nat) (vs:List M_) (t:Array M_),((ps.zip vs).foldl (λt (x:Nat×M_)=>t.setIfInBounds x.1 x.2) t).size=t.size
 |[],_,_=>by simp
 |p::ps,[],_=>by simp
 |p::ps,v::vs,t=>by rw[Iz,q_,aeW ps vs];simp
def ail:∀(ps:List Nat) (vs:List M_) (t:Array M_) (i s:Nat),ps.Nodup->ps[i]?=G_ s->ps.length=vs.length->(∀p∈ps,p<t.size)->((ps.zip vs).foldl (λt (x:Nat×M_)=>t.setIfInBounds x.1 x.2) t)[s]?=vs[i]?
 |[],_,_,_,_,_,h,_,_=>by simp at h
 |p::ps,[],_,_,_,_,_,h,_=>by simp at h
 |p::ps,v::vs,t,0,s,hn,h,hl,hlt=>by
  simp at h;subst h;rw[Iz,q_,ab3 ps vs _ p (List.nodup_cons.1 hn).1,Array.getElem?_setIfInBounds_self,HK (hlt p bf)];rfl
 |p::ps,v::vs,t,i+1,s,hn,h,hl,hlt=>by
  rw[Iz,q_,ail ps vs _ i s (List.nodup_cons.1 hn).2 (gq h) (gq hl) (λq hq=>by simp;exact hlt q (by simp[hq]))]
  rfl
def aDj(ps:Array Tmp)(vs:Array M_)(t:Array M_):(ps.zip vs).foldl (λt (x:Nat×M_)=>t.setIfInBounds x.1 x.2) t=(ps.toList.zip vs.toList).foldl (λt (x:Nat×M_)=>t.setIfInBounds x.1 x.2) t:=by
 rw[<-Array.foldl_toList,Array.toList_zip]
variable{ps:Array Tmp}
def aoE(h:Sub e a)(d:∀s,s ∉ ps.toList->a'.tmps[s]?=a.tmps[s]?):Sub (e.aij ps) a':=by
 intro p b;unfold Env.aij at b;rw[List.mem_filter]at b;obtain⟨b,c⟩:=b;obtain⟨s,x⟩:=p;simp only[iY,i_]at c;have f:=h _ b;cases x with
 |val v=>show _=_;rw[d s (gq c.1)];exact f
 |gd g want v=>exact absurd c.2 bf
variable{I:De}{Q:Exit->Act->ap}{bY:ey}{mask:Nat}{w:N_}
variable{z3:Code}
def agn(W:P.follows .mixedOrders=J_)(X:tK P bY QB)(Y:WU P I){ks:List (Nat×K)}{f:Operand}{asl:List (Nat×Nat)}{body:AC}
     {fin:Nat->ap}  {v:M_} (hs:Sub e a) (S:(j5.range ks f ps asl z3 body).fits a.tmps.size=J_) (hv:e.op f=G_ v)
  (h:Cg I (ks.map (·.2)) v w (λy w1 C=>lP (aii ks y++e.aij ps) λZ=>WS asl Z λe2=>ev P bY mask body e2 w1 λz _ T=>match z with| .normal=>C T|_=>False) fin)
  (hQ:∀D w',fin D w'->Q .normal {a with defers:={target:= .collected D,args:=#[]}::a.defers} w'):(Code.rangeFunc f ps z3 body.code).wpIn (uW H_) 2 P Q a w:=by
 simp only[j5.fits,iY,decide_eq_true_eq,tL]at S;obtain⟨⟨⟨⟨⟨⟨o,q⟩,r⟩,u⟩,j⟩,BU⟩,A⟩:=S;have B:a.eval f=v:=qi hs f v hv;unfold Cg at h;split at h
 .rename_i gf first lb
  refine wpIn_rangeFunc ?_;intro fn hfn;obtain⟨rec,b⟩:∃rec:LoopState->Loop,rec=λst=> {state:=st,pending:=H_,fn,tmps:=a.tmps,params:=ps,assign:=z3,body:=body.code,defers:=w.heap.size}:=⟨_,rfl⟩;have h1:=h (λst=> .loop (rec st)) λ_=>rfl;have U:=Y gf _ (first++(#[.func (.yield (w.heap.size+1)) #[] #[]] ++lb)) _ _ ?_ (by
   have e:(first++(#[Value.func (.yield (w.heap.size+1)) #[] #[]] ++lb)).toList=first.toList++(.func (.yield (w.heap.size+1)) #[] #[]::lb.toList):=by simp
   rw[e];exact h1)
  .refine⟨w.heap.size+1,[{target:= .collected w.heap.size,args:=#[]}],(w.alloc (.deferred (G_ []))).alloc (.loop (rec .ready)),{target:= .fn (.func gf) lb,args:=first++ #[.func (.yield (w.heap.size+1)) #[] #[]]},(w.alloc (.deferred (G_ []))).alloc (.loop (rec .ready)),gf,
    first++ #[.func (.yield (w.heap.size+1)) #[] #[]] ++lb,(w.alloc (.deferred (G_ []))).alloc (.loop (rec .ready)),?_,?_,?_,?_,λ_=>by omega,?_⟩
   .rw[b];exact run_enterLoop_outer _ _ _ _ _
   .simp only[resolve,rangeCall,B];simp[go_sem,Deferred.ofValue]
   .intro f' hf';exact Kb H_ f'
   .simp only[invoke,Ge U.1]
   .have e2:first++ #[Value.func (.yield (w.heap.size+1)) #[] #[]] ++lb=first++(#[.func (.yield (w.heap.size+1)) #[] #[]] ++lb):=by rw[Array.append_assoc]
    rw[e2];refine MZ (U.2.mono λen w5 he=>?_);obtain⟨v,rfl,m,F⟩:=he;refine⟨H_,_,?_,hQ _ _ F⟩;have:=run_endLoop (P:=P) m (by rw[b];simp)
    rw[b]at this ⊢;exact this
  .intro n args w1 c hY;obtain⟨rfl,m,hu⟩:=hY;obtain⟨y,V,hb⟩:=zu hu;rw[kU]at hb;have d:args.size=ps.size:=by
    have:=congrArg List.length V;rw[Nc]at this;have h2:=congrArg List.length j;simp at this h2;omega
   have g:=run_yield (P:=P) (args:=args) m (by rw[b];exact d)
   rw[b]at g;refine⟨fn,_,z3,body.code,g,roundIn_of_wpIn (Kb H_ fn) ?_⟩;dsimp only at g ⊢;rw[aDj];generalize G:(ps.toList.zip args.toList).foldl (λt (x:Nat×M_)=>t.setIfInBounds x.1 x.2) a.tmps=t at*
   have k:t.size=a.tmps.size:=by rw[<-G];exact aeW _ _ _
   have l:Sub (aii ks y++e.aij ps) {tmps:=t,defers:=[]}:=by
    refine Cz (aeV ks y λi s hi=>?_) (aoE hs λs H=>?_)
    .show t[s]?=_;rw[j]at hi;rw[<-G,<-V];exact ail _ _ _ i s A hi (gq d.symm) λp J=>by have:=BU p J;rwa[Nat.blt_eq]at this
    .show t[s]?=_;rw[<-G];exact ab3 _ _ _ _ H
   obtain⟨e2,hb,L,M⟩:=Z3 asl l (λp J=>by show p.1<t.size;rw[k];have:=u p J;rwa[Nat.blt_eq]at this) hb
   refine aw2 (ro:=G_ (w.heap.size+1)) (n0:=0) q ?_;rw[r];refine⟨_,run_beginRound m (by rw[b]),?_⟩
   have N:w1.putObj (w.heap.size+1) (.loop {rec .ready with state:= .busy})=w1.putObj (w.heap.size+1) (.loop (rec .busy)):=by rw[b]
   rw[N];refine rE (ro:=G_ (w.heap.size+1)) (n0:=0) W X body e2 _ _ _ _ (λ_ _ _ _ h=>h.elim) L (by rw[M];show body.fits t.size=J_;rw[k];exact o) hb λz e' T a' O _ _=>?_
   cases z with
   |normal=>
    obtain⟨R,hc⟩:=O;refine⟨_,_,run_endRound H_ R,Iq J_,rfl,?_⟩;have:({rec .busy with state:=if (H_:Option Code).isNone then .ready else .done,pending:=H_}:Loop)=rec .ready:=by rw[b];rfl
    rw[this];exact hc
   |exit id=>exact O.elim
   |ret=>exact O.elim
 .exact h.elim
def akK:Ex2->Exit
 | .normal=> .normal
 | .exit i=> .exit i
 | .ret=> .ret
 | .goto l=> .goto l
def aoF(x:Ex):akK (.of x)=ard x:=by cases x<;>rfl
variable{F:Fence}{c:Code}{l:Nat}
def Ve(u:findLabel c l=G_ z3)(R:Nat->Act->ap)
  (first:c.wpIn F n0 P (Exit.jump l (λa w=> ∃n,R n a w) Q) a w)
  (pass:∀n a w,R n a w->z3.wpIn F n0 P (Exit.jump l (λa' w'=> ∃m,m<n/\R m a' w') Q) a w):(Code.scope c).wpIn F n0 P Q a w:=by
 intro b k cs o hb p;have g:(lone (b.atR a (.code (.scope c)::k)) cs w).fenced P F:=fenced_calm hb p rfl;have hstep:step P (lone (b.atR a (.code (.scope c)::k)) cs w)= .next (lone (b.atR a (.code c:: .inScope c::k)) cs w):=step_lone_go (by simp[stepG,stepG.exec,Frame.atR])
 have t:gotoIn l (.inScope c::k)=G_ (.code z3:: .inScope c::k):=by simp[gotoIn,u]
 have q (id:Nat):exitTo id (.inScope c::k)=exitTo id k:=by simp[exitTo]
 have f (a:Act) (w:N_):StepsIn (λm=>m.fenced P F) P (lone (b.atR a (.inScope c::k)) cs w) (lone (b.atR a k) cs w):= .one (fenced_calm hb p rfl) (step_lone_go (by simp[stepG,stepG.exec,Frame.atR]))
 have key:∀n a w,R n a w->∃e a' w',Q e a' w'/\ArrivesIn (λm=>m.fenced P F) P (lone (b.atR a (.code z3:: .inScope c::k)) cs w) b k cs e a' w':=by
  intro n;induction n using Nat.strongRecOn with
  |_ n ih=>
   intro a w r;obtain⟨e,a₁,w₁,hq,d⟩:=pass n a w r b (.inScope c::k) cs o hb p;cases e with
   |normal=>exact⟨.normal,a₁,w₁,hq,StepsIn.trans d (f _ _)⟩
   |exit id=>exact⟨.exit id,a₁,w₁,hq,λk' i=>d.1 k' (by rw[q];exact i),λj i=>d.2 j (by rw[q];exact i)⟩
   |goto l'=>
    obtain⟨rfl,m,v,x⟩:=hq;obtain⟨e₂,a₂,w₂,hq₂,s⟩:=ih m v a₁ w₁ x;exact⟨e₂,a₂,w₂,hq₂,.of_steps (d.1 _ t) s⟩
   |ret=>exact⟨_,a₁,w₁,hq,d⟩
   |panic ch=>exact⟨_,a₁,w₁,hq,d⟩
   |outgrown=>exact⟨_,a₁,w₁,hq,d⟩
 obtain⟨e,a₁,w₁,hq,d⟩:=first b (.inScope c::k) cs o hb p
 cases e with
 |normal=>exact⟨.normal,a₁,w₁,hq,.head g hstep (StepsIn.trans d (f _ _))⟩
 |exit id=>
  exact⟨.exit id,a₁,w₁,hq,λk' i=> .head g hstep (d.1 k' (by rw[q];exact i)),
   λj i=>let ⟨k₁,h1,h2⟩:=d.2 j (by rw[q];exact i);⟨k₁,h1,.head g hstep h2⟩⟩
 |goto l'=>
  obtain⟨rfl,n,r⟩:=hq;obtain⟨e₂,a₂,w₂,hq₂,s⟩:=key n a₁ w₁ r;exact⟨e₂,a₂,w₂,hq₂,.of_steps (.head g hstep (d.1 _ t)) s⟩
 |ret=>exact⟨_,a₁,w₁,hq,.of_steps (.one g hstep) d⟩
 |panic ch=>exact⟨_,a₁,w₁,hq,.of_steps (.one g hstep) d⟩
 |outgrown=>exact⟨_,a₁,w₁,hq,.of_steps (.one g hstep) d⟩
variable{zd:Nat}
def aaE{agp:Code}(B:findLabel c l=G_ z3)(v:findLabel c zd=G_ agp)(R:Nat->Act->ap)(u:Act->ap)
  (first:c.wpIn F n0 P (λe a w=>match e with| .goto l'=>(l'=l/\∃n,R n a w)\/(l'=zd/\u a w)|e=>Q e a w) a w)
  (pass:∀n a w,R n a w->z3.wpIn F n0 P (λe a' w'=>match e with| .goto l'=>(l'=l/\∃m,m<n/\R m a' w')\/(l'=zd/\u a' w')|e=>Q e a' w') a w)
  (x:∀a w,u a w->agp.wpIn F n0 P (λe a' w'=>match e with| .goto _=>False|e=>Q e a' w') a w):(Code.scope c).wpIn F n0 P Q a w:=by
 intro b k cs o hb s;have j:(lone (b.atR a (.code (.scope c)::k)) cs w).fenced P F:=fenced_calm hb s rfl;have hstep:step P (lone (b.atR a (.code (.scope c)::k)) cs w)= .next (lone (b.atR a (.code c:: .inScope c::k)) cs w):=step_lone_go (by simp[stepG,stepG.exec,Frame.atR])
 have z:gotoIn l (.inScope c::k)=G_ (.code z3:: .inScope c::k):=by simp[gotoIn,B]
 have A:gotoIn zd (.inScope c::k)=G_ (.code agp:: .inScope c::k):=by simp[gotoIn,v]
 have r (id:Nat):exitTo id (.inScope c::k)=exitTo id k:=by simp[exitTo]
 have f (a:Act) (w:N_):StepsIn (λm=>m.fenced P F) P (lone (b.atR a (.inScope c::k)) cs w) (lone (b.atR a k) cs w):= .one (fenced_calm hb s rfl) (step_lone_go (by simp[stepG,stepG.exec,Frame.atR]))
 have t:∀a w,u a w->∃e a' w',Q e a' w'/\ArrivesIn (λm=>m.fenced P F) P (lone (b.atR a (.code agp:: .inScope c::k)) cs w) b k cs e a' w':=by
  intro a w p;obtain⟨e,a₁,w₁,hq,d⟩:=x a w p b (.inScope c::k) cs o hb s;cases e with
  |normal=>exact⟨.normal,a₁,w₁,hq,StepsIn.trans d (f _ _)⟩
  |exit id=>exact⟨.exit id,a₁,w₁,hq,λk' g=>d.1 k' (by rw[r];exact g),λi g=>d.2 i (by rw[r];exact g)⟩
  |goto l'=>exact hq.elim
  |ret=>exact⟨_,a₁,w₁,hq,d⟩
  |panic ch=>exact⟨_,a₁,w₁,hq,d⟩
  |outgrown=>exact⟨_,a₁,w₁,hq,d⟩
 have key:∀n a w,R n a w->∃e a' w',Q e a' w'/\ArrivesIn (λm=>m.fenced P F) P (lone (b.atR a (.code z3:: .inScope c::k)) cs w) b k cs e a' w':=by
  intro n;induction n using Nat.strongRecOn with
  |_ n ih=>
   intro a w p;obtain⟨e,a₁,w₁,hq,d⟩:=pass n a w p b (.inScope c::k) cs o hb s;cases e with
   |normal=>exact⟨.normal,a₁,w₁,hq,StepsIn.trans d (f _ _)⟩
   |exit id=>exact⟨.exit id,a₁,w₁,hq,λk' g=>d.1 k' (by rw[r];exact g),λi g=>d.2 i (by rw[r];exact g)⟩
   |goto l'=>
    rcases hq with⟨rfl,m,C,y⟩|⟨rfl,y⟩
    .obtain⟨e₂,a₂,w₂,hq₂,q⟩:=ih m C a₁ w₁ y;exact⟨e₂,a₂,w₂,hq₂,.of_steps (d.1 _ z) q⟩
    .obtain⟨e₂,a₂,w₂,hq₂,q⟩:=t a₁ w₁ y;exact⟨e₂,a₂,w₂,hq₂,.of_steps (d.1 _ A) q⟩
   |ret=>exact⟨_,a₁,w₁,hq,d⟩
   |panic ch=>exact⟨_,a₁,w₁,hq,d⟩
   |outgrown=>exact⟨_,a₁,w₁,hq,d⟩
 obtain⟨e,a₁,w₁,hq,d⟩:=first b (.inScope c::k) cs o hb s
 cases e with
 |normal=>exact⟨.normal,a₁,w₁,hq,.head j hstep (StepsIn.trans d (f _ _))⟩
 |exit id=>
  exact⟨.exit id,a₁,w₁,hq,λk' g=> .head j hstep (d.1 k' (by rw[r];exact g)),
   λi g=>let ⟨k₁,h1,h2⟩:=d.2 i (by rw[r];exact g);⟨k₁,h1,.head j hstep h2⟩⟩
 |goto l'=>
  rcases hq with⟨rfl,n,p⟩|⟨rfl,p⟩
  .obtain⟨e₂,a₂,w₂,hq₂,q⟩:=key n a₁ w₁ p;exact⟨e₂,a₂,w₂,hq₂,.of_steps (.head j hstep (d.1 _ z)) q⟩
  .obtain⟨e₂,a₂,w₂,hq₂,q⟩:=t a₁ w₁ p;exact⟨e₂,a₂,w₂,hq₂,.of_steps (.head j hstep (d.1 _ A)) q⟩
 |ret=>exact⟨_,a₁,w₁,hq,.of_steps (.one j hstep) d⟩
 |panic ch=>exact⟨_,a₁,w₁,hq,.of_steps (.one j hstep) d⟩
 |outgrown=>exact⟨_,a₁,w₁,hq,.of_steps (.one j hstep) d⟩
def ab7{l:Nat}{t:Code}:∀{p:j5},Nb l p=J_->Na p=J_->findLabel (qy p t) l=findLabel t l
 | .seq a r,h,hl=>by
  simp only[Nb,iY,J1]at h;simp only[qy,findLabel,h.1];exact ab7 h.2 hl
 | .base c,_,_=>by simp[qy]
 | .cond ..,_,hl| .block ..,_,hl| .loop ..,_,hl| .join ..,_,hl| .scope _,_,hl| .goto _,_,hl| .y7 ..,_,hl| .AU ..,_,hl| .range ..,_,hl=>by cases hl
def Kh{l:Nat}{t:Code}:∀{p:j5},Nb l p=J_->Na p=J_->findLabel (qy p (.seq (.label l) t)) l=G_ (.seq .skip t)
 | .seq a r,h,hl=>by
  simp only[Nb,iY,J1]at h;simp only[qy,findLabel,h.1];exact Kh h.2 hl
 | .base c,_,_=>by simp[qy,findLabel]
 | .cond ..,_,hl| .block ..,_,hl| .loop ..,_,hl| .join ..,_,hl| .scope _,_,hl| .goto _,_,hl| .y7 ..,_,hl| .AU ..,_,hl| .range ..,_,hl=>by cases hl
mutual
def qN{bY:ey}{I:De}{mask:Nat}(K:P.follows .mixedOrders=J_)(L:tK P bY QB)(M:WU P I):∀(c:j5) (e:Env) (w:N_) (a:Act) (ds:List Nat) (k:Ex2->Env->N_->List Nat->Prop) (Q:Exit->Act->ap),
  Sub e a->c.fits a.tmps.size=J_->a.defers=marks ds->zD P bY I mask c e w ds k->(∀x e' w' d a',k x e' w' d->Sub e' a'->jj c.writes a a'->a'.defers=marks d->Q (akK x) a' w')->c.code.wpIn (uW H_) 2 P Q a w
 | .base c,e,w,a,ds,k,Q,hs,hf,hd,h,hQ=>by
  unfold zD at h;exact rE K L c e w a _ Q (λ_ _ _ _ h=>h.elim) hs hf h λx e' w' a' S h2 U=>aoF x▸hQ (.of x) e' w' ds a' S h2 U.m (U.2.1.trans hd)
 | .scope x,e,w,a,ds,k,Q,hs,hf,hd,h,hQ=>by
  unfold zD at h;refine Gr (qN K L M x e w a ds _ _ hs hf hd h λz e' w' d a' S h2 U Z=>?_);cases z with
  |normal=>exact hQ .normal e' w' d a' S h2 U Z
  |exit id=>exact hQ (.exit id) e' w' d a' S h2 U Z
  |ret=>exact hQ .ret e' w' d a' S h2 U Z
  |goto l=>exact S.elim
 | .goto l,e,w,a,ds,k,Q,hs,hf,hd,h,hQ=>wpIn_goto (hQ (.goto l) e w ds a h hs (.refl _ _) hd)
 | .y7 ks l p q,e,w,a,ds,k,Q,hs,hf,hd,h,hQ=>by
  unfold zD at h;simp only[j5.fits,iY]at hf;obtain⟨⟨⟨hfp,hfq⟩,hl⟩,hn⟩:=hf;have KZ:∀{a':Act},jj p.writes a a'->jj (j5.y7 ks l p q).writes a a':=λg=>g.mono λs r=>by simp only[j5.writes,kf]at r;exact r.1
  have V:∀{a' a'':Act},jj p.writes a a'->jj q.writes a' a''->jj (j5.y7 ks l p q).writes a a'':=λh h'=>(KZ h).trans (h'.mono λs r=>by simp only[j5.writes,kf]at r;exact r.2)
  let body (J:Env):(HT ks×List Nat->ap)->HT ks×List Nat->ap:=λC y w=>lP (Be ks y.1++J.WR q) λe=>zD P bY I mask q e w y.2 λz e w ds=>match z with| .goto l'=>if D2 l' l then uo ks e λy=>C (y,ds) w else False|z=>k z e w ds
  let R (n:Nat) (b:Act) (w:N_):Prop:=∃J B y,Sub J B/\jj p.writes a B/\jV (body J) n y w/\Sub (Be ks y.1) b/\jj q.writes B b/\b.defers=marks y.2;have pass:∀n b w,R n b w->q.code.wpIn (uW H_) 2 P (Exit.jump l (λa' w'=> ∃m,m<n/\R m a' w') Q) b w:=by
   rintro n b w ⟨J,B,y,A,F,hit,T,hkb,X⟩;cases n with
   |zero=>exact hit.elim
   |succ n=>
    unfold jV at hit;have N:=hit;simp only[body]at N;rw[kU]at N;refine qN K L M q _ w b y.2 _ _ (Cz T (WV A hkb)) (by rw[hkb.1,F.1];exact hfq) X N λz e' w' d a' g hs' G o=>?_
    cases z with
    |normal=>exact hQ .normal e' w' d a' g hs' (V F (hkb.trans G)) o
    |exit id=>exact hQ (.exit id) e' w' d a' g hs' (V F (hkb.trans G)) o
    |ret=>exact hQ .ret e' w' d a' g hs' (V F (hkb.trans G)) o
    |goto l'=>
     simp only at g;split at g
     .rename_i hb;obtain⟨y',O,WH⟩:=rQ hs' g;exact⟨beq_eq hb,n,af,J,B,(y',d),A,F,O,WH,hkb.trans G,o⟩
     .exact g.elim
  refine Ve (Kh hn hl) R ?_ λn b w hR=>wpIn_seq (wpIn_skip (pass n b w hR));refine Iw K L M p e w a ds _ _ _ hs hfp hl hd h (λJ w1 ds1 B g A j hd1=>?_) λx e' w' d a' hx g hs' j o=>?_
  .obtain⟨y,W,T⟩:=rQ A g;obtain⟨n,W⟩:=W;have:=pass n B w1 ⟨J,B,(y,ds1),A,j,W,T,.refl _ _,hd1⟩;refine wpIn_seq (wpIn_label ?_);refine wpIn_mono this λe' a' w' hq=>?_;cases e' with
   |goto l'=>exact⟨hq.1,hq.2.choose,hq.2.choose_spec.2⟩
   |_=>exact hq
  .cases x with
   |normal=>exact(hx rfl).elim
   |exit id=>exact hQ (.exit id) e' w' d a' g hs' (KZ j) o
   |ret=>exact hQ .ret e' w' d a' g hs' (KZ j) o
   |goto l'=>exact g.elim
 | .AU ks l p p2 l2 q,e,w,a,ds,k,Q,hs,hf,hd,h,hQ=>by
  unfold zD at h;simp only[j5.fits,iY,i_]at hf;obtain⟨⟨⟨⟨⟨⟨⟨hfp,aDn,hfq⟩,hl⟩,hn⟩,hl2⟩,CD⟩,hn3⟩,hne⟩:=hf;have KZ:∀{a':Act},jj p.writes a a'->jj (j5.AU ks l p p2 l2 q).writes a a':=λg=>g.mono λs r=>by simp only[j5.writes,kf]at r;exact r.1
  have V:∀{a' a'':Act},jj p.writes a a'->jj (j5.seq p2 q).writes a' a''->jj (j5.AU ks l p p2 l2 q).writes a a'':=λh h'=>(KZ h).trans (h'.mono λs r=>by simp only[j5.writes,kf]at r ⊢;exact r.2)
  have hp2:∀{a' a'':Act},jj p2.writes a' a''->jj (j5.seq p2 q).writes a' a'':=λg=>g.mono λs r=>by simp only[j5.writes,kf]at r;exact r.1
  have hq2:∀{a' a'':Act},jj q.writes a' a''->jj (j5.seq p2 q).writes a' a'':=λg=>g.mono λs r=>by simp only[j5.writes,kf]at r;exact r.2
  let body (J:Env):(HT ks×List Nat->ap)->HT ks×List Nat->ap:=λC y w=>lP (Be ks y.1++J.WR (.seq p2 q)) λe=>zD P bY I mask p2 e w y.2 λz e w ds=>match z with
   | .normal=>zD P bY I mask q e w ds λz e w ds=>match z with| .goto l'=>if D2 l' l then uo ks e λy=>C (y,ds) w else False|z=>k z e w ds
   | .goto l'=>if D2 l' l then uo ks e λy=>C (y,ds) w else if D2 l' l2 then zD P bY I mask q e w ds λz e w ds=>match z with| .goto _=>False|z=>k z e w ds else False
   |z=>k z e w ds
  let R (n:Nat) (b:Act) (w:N_):Prop:=∃J B y,Sub J B/\jj p.writes a B/\jV (body J) n y w/\Sub (Be ks y.1) b/\jj (j5.seq p2 q).writes B b/\b.defers=marks y.2;let R2 (b:Act) (w:N_):Prop:=∃B e ds,jj p.writes a B/\jj (j5.seq p2 q).writes B b/\Sub e b/\b.defers=marks ds/\zD P bY I mask q e w ds λz e w ds=>match z with| .goto _=>False|z=>k z e w ds
  have pass:∀n b w,R n b w->(qy p2 (.seq (.label l2) q.code)).wpIn (uW H_) 2 P (λe a' w'=>match e with| .goto l'=>(l'=l/\∃m,m<n/\R m a' w')\/(l'=l2/\R2 a' w')|e=>Q e a' w') b w:=by
   rintro n b w ⟨J,B,y,A,F,hit,T,hkb,X⟩;cases n with
   |zero=>exact hit.elim
   |succ n=>
    unfold jV at hit;have N:=hit;simp only[body]at N;rw[kU]at N;refine Iw K L M p2 _ w b y.2 _ _ _ (Cz T (WV A hkb)) (by rw[hkb.1,F.1];exact aDn) hl2 X N (λe' w' d a' g hs' G o=>?_) λz e' w' d a' hz g hs' G o=>?_
    .refine wpIn_seq (wpIn_label ?_);refine qN K L M q e' w' a' d _ _ hs' (by rw[G.1,hkb.1,F.1];exact hfq) o g λz QD H Y a'' g Z4 akO Z5=>?_
     have u:=hkb.trans ((hp2 G).trans (hq2 akO));cases z with
     |normal=>exact hQ .normal QD H Y a'' g Z4 (V F u) Z5
     |exit id=>exact hQ (.exit id) QD H Y a'' g Z4 (V F u) Z5
     |ret=>exact hQ .ret QD H Y a'' g Z4 (V F u) Z5
     |goto l'=>
      simp only at g;split at g
      .rename_i hb;obtain⟨y',O,WH⟩:=rQ Z4 g;exact D_ ⟨beq_eq hb,n,af,J,B,(y',Y),A,F,O,WH,u,Z5⟩
      .exact g.elim
    .have u:=hkb.trans (hp2 G);cases z with
     |normal=>exact(hz rfl).elim
     |exit id=>exact hQ (.exit id) e' w' d a' g hs' (V F u) o
     |ret=>exact hQ .ret e' w' d a' g hs' (V F u) o
     |goto l'=>
      simp only at g;split at g
      .rename_i hb;obtain⟨y',O,WH⟩:=rQ hs' g;exact D_ ⟨beq_eq hb,n,af,J,B,(y',d),A,F,O,WH,u,o⟩
      .split at g
       .rename_i hb;exact .inr ⟨beq_eq hb,B,e',d,F,u,hs',o,g⟩
       .exact g.elim
  have akL:∀b w,R2 b w->q.code.wpIn (uW H_) 2 P (λe a' w'=>match e with| .goto _=>False|e=>Q e a' w') b w:=by
   rintro b w ⟨B,e2,ds2,F,hkb,IZ,hd2,hev⟩;refine qN K L M q e2 w b ds2 _ _ IZ (by rw[hkb.1,F.1];exact hfq) hd2 hev λz QD H Y a'' g Z4 akO Z5=>?_
   have u:=hkb.trans (hq2 akO);cases z with
   |normal=>exact hQ .normal QD H Y a'' g Z4 (V F u) Z5
   |exit id=>exact hQ (.exit id) QD H Y a'' g Z4 (V F u) Z5
   |ret=>exact hQ .ret QD H Y a'' g Z4 (V F u) Z5
   |goto l'=>exact g.elim
  have hf2:findLabel (qy p (.seq (.label l) (qy p2 (.seq (.label l2) q.code)))) l2=G_ (.seq .skip q.code):=by
   rw[ab7 hn3 hl];have abG:(l==l2)=false:=by rw[beq_eq_false_iff_ne];exact λh=>by rw[h]at hne;simp at hne
   simp only[findLabel,abG];exact Kh CD hl2
  refine aaE (Kh hn hl) hf2 R R2 ?_ (λn b w hR=>wpIn_seq (wpIn_skip (pass n b w hR))) λb w hR=>wpIn_seq (wpIn_skip (akL b w hR));refine Iw K L M p e w a ds _ _ _ hs hfp hl hd h (λJ w1 ds1 B g A j hd1=>?_) λx e' w' d a' hx g hs' j o=>?_
  .obtain⟨y,W,T⟩:=rQ A g;obtain⟨n,W⟩:=W;have:=pass n B w1 ⟨J,B,(y,ds1),A,j,W,T,.refl _ _,hd1⟩;refine wpIn_seq (wpIn_label ?_);refine wpIn_mono this λe' a' w' hq=>?_;cases e' with
   |goto l'=>
    rcases hq with⟨S,m,K,h2⟩|h2
    .exact D_ ⟨S,m,h2⟩
    .exact .inr h2
   |_=>exact hq
  .cases x with
   |normal=>exact(hx rfl).elim
   |exit id=>exact hQ (.exit id) e' w' d a' g hs' (KZ j) o
   |ret=>exact hQ .ret e' w' d a' g hs' (KZ j) o
   |goto l'=>exact g.elim
 | .seq x y,e,w,a,ds,k,Q,hs,hf,hd,h,hQ=>by
  unfold zD at h;simp only[j5.fits,iY]at hf;refine wpIn_seq (qN K L M x e w a ds _ _ hs hf.1 hd h λz e' w' d a' g hs' j o=>?_);have G:jj (j5.seq x y).writes a a':=j.mono λs r=>by simp only[j5.writes,kf]at r;exact r.1
  cases z with
  |normal=>
   refine qN K L M y e' w' a' d k Q hs' (by rw[j.1];exact hf.2) o g λz QD H Y a'' S h2 U Z=>hQ z QD H Y a'' S h2 (G.trans (U.mono λs r=>?_)) Z
   simp only[j5.writes,kf]at r;exact r.2
  |exit id=>exact hQ (.exit id) e' w' d a' g hs' G o
  |ret=>exact hQ .ret e' w' d a' g hs' G o
  |goto l=>exact hQ (.goto l) e' w' d a' g hs' G o
 | .cond c x y,e,w,a,ds,k,Q,hs,hf,hd,h,hQ=>by
  unfold zD at h;simp only[j5.fits,iY]at hf;split at h
  .rename_i t ht;refine wpIn_cond (ah8 hs ht) ?_;cases t
   .exact qN K L M y e w a ds k Q hs hf.2 hd h λz e' w' d a' S h2 U Z=>hQ z e' w' d a' S h2 (U.mono λs r=>by simp only[j5.writes,kf]at r;exact r.2) Z
   .exact qN K L M x e w a ds k Q hs hf.1 hd h λz e' w' d a' S h2 U Z=>hQ z e' w' d a' S h2 (U.mono λs r=>by simp only[j5.writes,kf]at r;exact r.1) Z
  .exact h.elim
 | .block id x,e,w,a,ds,k,Q,hs,hf,hd,h,hQ=>by
  unfold zD at h;refine wpIn_block (qN K L M x e w a ds _ _ hs hf hd h λz e' w' d a' g hs' j o=>?_);cases z with
  |normal=>exact hQ .normal e' w' d a' g hs' j o
  |ret=>exact hQ .ret e' w' d a' g hs' j o
  |goto l=>exact hQ (.goto l) e' w' d a' g hs' j o
  |exit i=>
   simp only at g;show(if i=id then Q .normal a' w' else Q (.exit i) a' w')
   split at g
   .rename_i hb;rw[HK (beq_eq hb)];exact hQ .normal e' w' d a' g hs' j o
   .rename_i hb;have hb':i≠id:=by simpa using hb
    rw[HQ hb'];exact hQ (.exit i) e' w' d a' g hs' j o
 | .join ks x,e,w,a,ds,k,Q,hs,hf,hd,h,hQ=>by
  unfold zD cz at h;refine qN K L M x e w a ds _ Q hs hf hd h λz e' w' d a' g hs' j o=>?_;cases z with
  |normal=>
   obtain⟨y,W,T⟩:=rQ hs' g;rw[kU]at W;exact hQ .normal _ w' d a' W (Cz T (WV hs j)) j o
  |exit id=>exact hQ (.exit id) e' w' d a' g hs' j o
  |ret=>exact hQ .ret e' w' d a' g hs' j o
  |goto l=>exact hQ (.goto l) e' w' d a' g hs' j o
 | .loop ks x,e,w,a,ds,k,Q,hs,hf,hd,h,hQ=>by
  unfold zD at h;obtain⟨y,W,T⟩:=rQ hs h;obtain⟨n,hn⟩:=W;refine wpIn_loop_rounds n ?_;have key:∀n (y:HT ks×List Nat) w b,jV (λC y w=>lP (Be ks y.1++e.WR x) λe=>zD P bY I mask x e w y.2 λz e w ds=>match z with| .normal=>uo ks e λy=>C (y,ds) w|z=>k z e w ds) n y w->
    Sub (Be ks y.1) b->jj x.writes a b->b.defers=marks y.2->Code.roundsIn (uW H_) 2 P x.code Q n b w:=by
   intro n;induction n with
   |zero=>intro y w b h;exact h.elim
   |succ n ih=>
    intro y w b h T j X;unfold jV at h;rw[kU]at h;rw[roundsIn_succ];refine qN K L M x _ w b y.2 _ _ (Cz T (WV hs j)) (by rw[j.1];exact hf) X h λz e' w' d a' g hs' G o=>?_
    cases z with
    |normal=>
     obtain⟨y',O,WH⟩:=rQ hs' g;exact ih (y',d) w' a' O WH (j.trans G) o
    |exit id=>exact hQ (.exit id) e' w' d a' g hs' (j.trans G) o
    |ret=>exact hQ .ret e' w' d a' g hs' (j.trans G) o
    |goto l=>exact hQ (.goto l) e' w' d a' g hs' (j.trans G) o
  exact key n (y,ds) w a hn T (.refl _ _) hd
 | .range ks f ps asl asg body,e,w,a,ds,k,Q,hs,hf,hd,h,hQ=>by
  unfold zD at h;split at h
  .rename_i v hv;refine agn K L M hs hf hv h λD w' g=>hQ .normal e w' (D::ds) _ g hs ⟨rfl,λ_ _=>rfl⟩ ?_;show _::a.defers=_;rw[hd];rfl
  .exact h.elim
def Iw{bY:ey}{I:De}{mask:Nat}(B:P.follows .mixedOrders=J_)(C:tK P bY QB)(D:WU P I):∀(p:j5) (e:Env) (w:N_) (a:Act) (ds:List Nat) (k:Ex2->Env->N_->List Nat->Prop) (Q:Exit->Act->ap) (t:Code),
  Sub e a->p.fits a.tmps.size=J_->Na p=J_->a.defers=marks ds->zD P bY I mask p e w ds k->
  (∀e' w' b a',k .normal e' w' b->Sub e' a'->jj p.writes a a'->a'.defers=marks b->t.wpIn (uW H_) 2 P Q a' w')->
  (∀x e' w' b a',x≠Ex2.normal->k x e' w' b->Sub e' a'->jj p.writes a a'->a'.defers=marks b->Q (akK x) a' w')->(qy p t).wpIn (uW H_) 2 P Q a w
 | .seq x r,e,w,a,ds,k,Q,t,hs,hf,hl,hd,h,q,hQ=>by
  unfold zD at h;simp only[j5.fits,iY]at hf;unfold qy;refine wpIn_seq (qN B C D x e w a ds _ _ hs hf.1 hd h λz e' w' b a' m hs' f n=>?_);have o:jj (j5.seq x r).writes a a':=f.mono λs g=>by simp only[j5.writes,kf]at g;exact g.1
  have i:∀{a''},jj r.writes a' a''->jj (j5.seq x r).writes a a'':=λj=>o.trans (j.mono λs g=>by simp only[j5.writes,kf]at g;exact g.2)
  cases z with
  |normal=>exact Iw B C D r e' w' a' b k Q t hs' (by rw[f.1];exact hf.2) hl n m (λu d v a'' y h2 j A=>q u d v a'' y h2 (i j) A) λz u d v a'' F y h2 j A=>hQ z u d v a'' F y h2 (i j) A
  |exit id=>exact hQ (.exit id) e' w' b a' bf m hs' o n
  |ret=>exact hQ .ret e' w' b a' bf m hs' o n
  |goto l=>exact hQ (.goto l) e' w' b a' bf m hs' o n
 | .base c,e,w,a,ds,k,Q,t,hs,hf,hl,hd,h,q,hQ=>by
  cases c with
  |skip=>unfold zD ev at h;exact q e w ds a h hs (.refl _ _) hd
  |_=>cases hl
 | .cond ..,_,_,_,_,_,_,_,_,_,hl,_,_,_,_| .block ..,_,_,_,_,_,_,_,_,_,hl,_,_,_,_| .loop ..,_,_,_,_,_,_,_,_,_,hl,_,_,_,_| .join ..,_,_,_,_,_,_,_,_,_,hl,_,_,_,_| .scope _,_,_,_,_,_,_,_,_,_,hl,_,_,_,_| .goto _,_,_,_,_,_,_,_,_,_,hl,_,_,_,_| .y7 ..,_,_,_,_,_,_,_,_,_,hl,_,_,_,_| .AU ..,_,_,_,_,_,_,_,_,_,hl,_,_,_,_| .range ..,_,_,_,_,_,_,_,_,_,hl,_,_,_,_=>by cases hl
end
def aAX(P:R_)(rs:List ResultVar)(c:List M_->ap)(x:Ex2)(e:Env)(w:N_)(ds:List Nat):Prop:=
 match x with
 | .exit _=>False
 | .goto _=>False
 |_=>I3 ds w λw=>JZ P rs e w λl=>c l w
def Vg(P:R_)(bY:ey)(I:De)(mask:Nat)(h:sP)(fn:Func)(ks:List K)(args:List M_)(w:N_)(c:KT ks->ap):Prop:=
 match fn.body with
 |some b=>zD P bY I mask (tv h b 0).1 (DE 0 args) w [] (aAX P fn.results.toList λl w=>qW ks l λx=>c x w)
 |none=>False
def arC(h:sP)(fn:Func)(n:Nat):Bool:=
 match fn.body with
 |some b=>(tv h b 0).1.fits fn.ntmps&&Nat.ble n fn.ntmps&& !(fn.name== "runtime.NumGoroutine")
 |none=>K_
def UF{fn:Func}{tmps:Array M_}{R:Ending->ap}:∀{ds:List Nat} {w:N_} {c:ap},I3 ds w c->(∀w',c w'->LeavesInM (uW H_) 2 P fn tmps R [] .returning w')->LeavesInM (uW H_) 2 P fn tmps R (marks ds) .returning w
 |[],w,c,h,hc=>hc w h
 |D::ds,w,c,h,hc=>⟨bf,D_ ⟨D,_,rfl,run_takeDeferred h.1,UF h.2 hc⟩⟩
def I5{f:FuncId}{fn:Func}{h:sP}(D:P.follows .mixedOrders=J_)(A:P.funcs[f]?=G_ fn)(G:tK P bY QB)(H:WU P I)(qm ur:List K)
  (d:arC h fn qm.length=J_) (F:KT qm->N_->(KT ur->ap)->Prop) (J:∀x w c,Vg P bY I mask h fn ur (dL qm x) w c=F x w c):
  uY P f λargs w c=>qW qm args λx=>F x w λr w=>c (e9 (dL ur r)) w:=by
 unfold arC at d;cases hb:fn.body with
 |none=>rw[hb]at d;cases d
 |some b=>
  rw[hb]at d;simp only[iY,i_]at d;refine⟨⟨fn,A,by rw[hb];rfl,d.2⟩,λargs w c L=>?_⟩
  obtain⟨x,B,g⟩:=zu L;have j:=Nc qm x;rw[<-J]at g;unfold Vg at g;rw[hb]at g;simp only at g;have M:qm.length<=fn.ntmps:=Nat.le_of_ble_eq_true d.1.2;have N:args.size<=fn.ntmps:=by
   have:args.toList.length=qm.length:=by rw[B,j]
   rw[Array.length_toList]at this;omega
  refine(callsIn_wide (n:=2)).1 (callsIn_of_wp_marks (F:=uW H_) A hb (Kb H_ f) ?_);have p:=agm h b 0;have C:=qN (mask:=mask) D G H (tv h b 0).1 (DE 0 (dL qm x)) w {tmps:=args++Array.replicate (fn.ntmps - args.size) undef,defers:=[]} [] _ (bodyPostM (uW H_) 2 P fn λe w'=> ∃v,e= .returned v/\c v w') ?_ ?_ rfl g ?_
  .rw[p]at C;exact C
  .refine IX _ 0 _ λi v hv=>?_;rw[<-B]at hv;have Gq:args[i]?=G_ v:=by simpa using hv
   have hi:i<args.size:=(Bf.1 Gq).1;simp only[Nat.zero_add];rw[Array.getElem?_append_left hi];exact Gq
  .have:(args++Array.replicate (fn.ntmps - args.size) undef).size=fn.ntmps:=by simp;omega
   rw[this];exact d.1.1
  .intro z e' w' q a' o hs O s;have fin:(I3 q w' λw=>JZ P fn.results.toList e' w λl=>qW ur l λx=>c (e9 (dL ur x)) w)->LeavesInM (uW H_) 2 P fn a'.tmps (λe w'=> ∃v,e= .returned v/\c v w') a'.defers .returning w':=by
    intro Q;rw[s];refine UF Q λu R=>?_;obtain⟨l,S,k⟩:=SZ hs R;obtain⟨y,rfl,T⟩:=zu S;show LeavesIn (uW H_) 2 P fn a'.tmps _ [] .returning u;refine⟨e9 (dL ur y),?_,_,rfl,T⟩;have U:results fn a'.tmps=(do
      let vs<-fn.results.mapM (QH a');pure (if h:vs.size=1 then vs[0]else .tuple vs)):=by
     have m:(λx=>(match x with| .tmp t=>pure (a'.tmps.getD t undef)| .cell a t=>do loadVar t (<-asAddr (a'.tmps.getD a undef)):Sem M_))=QH a':=by
      funext r;cases r<;>rfl
     unfold results;rw[<-m];rfl
    rw[U,Array.mapM_eq_mapM_toList];simp only[cR,Sem.run_map,k,cK,cP];rw[abQ]
   cases z with
   |normal=>exact fin o
   |ret=>exact fin o
   |exit id=>exact o.elim
   |goto l=>exact o.elim
def WW(P:R_)(f:FuncId)(G:(Nat->bt)->bt):Prop:=∀Y,YOK P Y->uY P f (G Y)
def ab9(P:R_):List (Nat×((Nat->bt)->bt))->Prop
 |[]=>True
 |(n,d)::l=>WW P n d/\ab9 P l
def Df:List (Nat×((Nat->bt)->bt))->De
 |[],_,_,_,_,_=>False
 |(n,d)::l,f,Y,args,w,c=>match D2 n f with|true=>d Y args w c|false=>Df l f Y args w c
def LJ:∀{l:List (Nat×((Nat->bt)->bt))},ab9 P l->WU P (Df l)
 |[],_=>λ_ _ _ _ _ _ h=>h.elim
 |(n,d)::l,hl=>λgf Y args w c a h=>by
  unfold Df at h;split at h
  .rename_i hb;have:=beq_eq hb;subst this;have:=hl.1 Y a;exact⟨this.1,this.2 args w c h⟩
  .exact LJ hl.2 gf Y args w c a h
end Go.Ev
namespace Go.Proofs.YthidhjhkmjjckaaGreatDoor
open Go Go.Ev Tryz
def mixed:Tryz.prog.follows .mixedOrders=true:=by kernel_rfl
abbrev aAI:Nat:=17
abbrev HJ:Nat:=19
abbrev EY:Nat:=20
abbrev Gu:Nat:=21
abbrev Kj:Nat:=22
abbrev zF:Nat:=23
abbrev Nh:Nat:=26
abbrev DO:Nat:=28
abbrev vX:Nat:=31
abbrev zG:Nat:=33
abbrev HL:Nat:=34
abbrev QY:Nat:=35
abbrev AW:Nat:=37
abbrev xU:Nat:=43
abbrev tX:Nat:=46
abbrev zH:Nat:=49
abbrev aCB:Nat:=55
abbrev HM:Nat:=57
abbrev HN:Nat:=58
abbrev Kk:Nat:=59
abbrev HO:Nat:=60
abbrev r4:Nat:=61
abbrev xA:Nat:=62
abbrev tw:Nat:=63
abbrev Hr:Nat:=65
abbrev Ni:Nat:=66
abbrev Vj:Nat:=67
abbrev Nj:Nat:=68
abbrev QZ:Nat:=69
abbrev m9:Nat:=70
abbrev lO:Nat:=71
abbrev nQ:Nat:=72
abbrev E0:Nat:=73
abbrev LO:Nat:=74
abbrev xV:Nat:=75
abbrev sS:Nat:=78
abbrev qZ:Nat:=79
abbrev Kl:Nat:=81
abbrev K3:Nat:=91
abbrev aCC:Nat:=92
abbrev awi:Nat:=93
abbrev aAV:Nat:=96
abbrev DT:Nat:=97
abbrev CE:Nat:=98
abbrev DU:Nat:=99
abbrev m3:Nat:=100
abbrev tS:Nat:=101
abbrev oh:Nat:=102
abbrev ou:Nat:=103
abbrev Km:Nat:=108
abbrev W2:Nat:=109
abbrev Z9:Nat:=110
abbrev W3:Nat:=111
abbrev W4:Nat:=112
abbrev W5:Nat:=113
abbrev HS:Nat:=114
abbrev gB:Nat:=115
abbrev vY:Nat:=116
abbrev CF:Nat:=117
abbrev Bg:Nat:=118
abbrev Bh:Nat:=119
abbrev AX:Nat:=120
abbrev Ch:Nat:=121
abbrev Q0:Nat:=122
abbrev Kq:Nat:=123
abbrev ol:Nat:=124
abbrev zI:Nat:=125
abbrev E1:Nat:=126
abbrev Vk:Nat:=127
abbrev r5:Nat:=128
abbrev o9:Nat:=129
abbrev jS:Nat:=130
abbrev tY:Nat:=131
abbrev pb:Nat:=132
abbrev rG:Nat:=133
abbrev HV:Nat:=134
abbrev UG:Nat:=135
abbrev Gv:Nat:=139
abbrev aCF:Nat:=147
abbrev aAW:Nat:=148
abbrev axq:Nat:=149
abbrev E2:Nat:=151
abbrev DV:Nat:=152
abbrev bg:Nat:=153
abbrev Bi:Nat:=154
abbrev jh:Nat:=155
abbrev jk:Nat:=156
abbrev jl:Nat:=159
abbrev qB:Nat:=160
abbrev lQ:Nat:=161
abbrev DW:Nat:=162
abbrev uQ:Nat:=163
abbrev mP:Nat:=164
abbrev vZ:Nat:=165
abbrev pT:Nat:=166
abbrev ph:Nat:=167
abbrev qp:Nat:=168
abbrev wc:Nat:=169
abbrev kD:Nat:=170
abbrev oJ:Nat:=171
abbrev qC:Nat:=172
abbrev UH:Nat:=173
abbrev OX:Nat:=174
abbrev ko:Nat:=175
abbrev nR:Nat:=176
abbrev BX:Nat:=177
abbrev Hs:Nat:=178
abbrev K4:Nat:=179
abbrev ov:Nat:=180
abbrev qj:Nat:=181
abbrev ow:Nat:=182
abbrev nS:Nat:=183
abbrev y9:Nat:=184
abbrev zJ:Nat:=185
abbrev qO:Nat:=186
abbrev tZ:Nat:=187
abbrev iU:Nat:=188
abbrev Bj:Nat:=189
abbrev Gw:Nat:=190
abbrev E3:Nat:=191
abbrev E4:Nat:=192
abbrev E5:Nat:=193
abbrev aru:Nat:=194
abbrev arA:Nat:=195
abbrev arB:Nat:=196
abbrev arz:Nat:=197
abbrev axp:Nat:=198
abbrev fM:Nat:=199
abbrev nq:Nat:=200
abbrev jm:Nat:=209
abbrev BY:Nat:=210
abbrev HW:Nat:=211
abbrev kW:Nat:=212
abbrev ox:Nat:=213
abbrev lR:Nat:=214
abbrev lS:Nat:=215
abbrev DX:Nat:=216
abbrev lT:Nat:=217
abbrev mI:Nat:=218
abbrev we:Nat:=219
abbrev nT:Nat:=220
abbrev r6:Nat:=221
abbrev LP:Nat:=222
abbrev W6:Nat:=223
abbrev CG:Nat:=224
abbrev Ht:Nat:=225
abbrev sE:Nat:=226
abbrev sF:Nat:=227
abbrev oy:Nat:=228
abbrev oz:Nat:=229
abbrev oA:Nat:=230
abbrev oB:Nat:=231
abbrev oC:Nat:=232
abbrev oD:Nat:=233
abbrev Nk:Nat:=234
abbrev DY:Nat:=235
abbrev avL:Nat:=236
abbrev aCu:Nat:=237
abbrev aCx:Nat:=238
abbrev avA:Nat:=239
abbrev dS:Nat:=240
abbrev r7:Nat:=241
abbrev DZ:Nat:=242
abbrev mQ:Nat:=243
abbrev LQ:Nat:=244
abbrev UI:Nat:=245
abbrev Jf:Nat:=246
abbrev nU:Nat:=247
abbrev u9:Nat:=248
abbrev vc:Nat:=249
abbrev Kr:Nat:=250
abbrev Ks:Nat:=251
abbrev CH:Nat:=252
abbrev nr:Nat:=253
abbrev q4:Nat:=254
abbrev rH:Nat:=255
abbrev axe:Nat:=256
abbrev aw3:Nat:=257
abbrev axf:Nat:=258
abbrev aw5:Nat:=259
abbrev awW:Nat:=260
abbrev awn:Nat:=261
abbrev av4:Nat:=262
abbrev r8:Nat:=263
abbrev AY:Nat:=264
abbrev qD:Nat:=265
abbrev tA:Nat:=266
abbrev pi:Nat:=267
abbrev j6:Nat:=268
abbrev gC:Nat:=269
abbrev zK:Nat:=270
abbrev r9:Nat:=271
abbrev ve:Nat:=272
abbrev FE:Nat:=273
abbrev uR:Nat:=274
abbrev Ku:Nat:=275
abbrev oE:Nat:=276
abbrev sg:Nat:=277
abbrev atU:Nat:=278
abbrev za:Nat:=282
abbrev sU:Nat:=283
abbrev Jg:Nat:=284
abbrev kX:Nat:=285
abbrev ua:Nat:=286
abbrev kN:Nat:=287
abbrev zL:Nat:=288
abbrev bX:Nat:=289
abbrev pU:Nat:=290
abbrev pn:Nat:=291
abbrev qE:Nat:=292
abbrev K5:Nat:=293
abbrev sL:Nat:=294
abbrev q5:Nat:=295
abbrev aaa:Nat:=296
abbrev Kv:Nat:=297
abbrev q6:Nat:=298
abbrev q7:Nat:=302
abbrev ql:Nat:=303
abbrev CI:Nat:=304
abbrev wg:Nat:=305
abbrev jT:Nat:=306
abbrev lH:Nat:=307
abbrev js:Nat:=308
abbrev lI:Nat:=309
abbrev kO:Nat:=310
abbrev kq:Nat:=311
abbrev lJ:Nat:=312
abbrev iV:Nat:=313
abbrev po:Nat:=314
abbrev Hu:Nat:=315
abbrev rJ:Nat:=316
abbrev Kw:Nat:=317
abbrev q8:Nat:=318
abbrev sj:Nat:=323
abbrev Bk:Nat:=324
abbrev Gx:Nat:=325
abbrev n9:Nat:=326
abbrev uc:Nat:=327
abbrev oK:Nat:=328
abbrev zM:Nat:=329
abbrev gK:Nat:=330
abbrev mR:Nat:=331
abbrev wh:Nat:=332
abbrev mS:Nat:=333
abbrev pq:Nat:=334
abbrev lU:Nat:=335
abbrev lK:Nat:=336
abbrev tB:Nat:=337
abbrev qF:Nat:=338
abbrev ud:Nat:=339
abbrev mb:Nat:=340
abbrev sV:Nat:=341
abbrev Gy:Nat:=343
abbrev oa:Nat:=344
abbrev fN:Nat:=345
abbrev xW:Nat:=346
abbrev kr:Nat:=347
abbrev kY:Nat:=348
abbrev HX:Nat:=349
abbrev lV:Nat:=350
abbrev eP:Nat:=351
abbrev oL:Nat:=352
abbrev q9:Nat:=353
abbrev mT:Nat:=354
abbrev Jh:Nat:=355
abbrev nu:Nat:=356
abbrev pV:Nat:=357
abbrev Gz:Nat:=359
abbrev nw:Nat:=360
abbrev lW:Nat:=361
abbrev kZ:Nat:=362
abbrev BZ:Nat:=363
abbrev qq:Nat:=364
abbrev oM:Nat:=365
abbrev mU:Nat:=366
abbrev D0:Nat:=367
abbrev pu:Nat:=368
abbrev ku:Nat:=369
abbrev px:Nat:=370
abbrev lX:Nat:=371
abbrev D1:Nat:=372
abbrev oF:Nat:=373
abbrev B0:Nat:=374
abbrev ny:Nat:=375
abbrev oN:Nat:=376
abbrev mV:Nat:=377
abbrev Ji:Nat:=378
abbrev jt:Nat:=379
abbrev wi:Nat:=380
abbrev wj:Nat:=381
abbrev lY:Nat:=382
abbrev GA:Nat:=383
abbrev py:Nat:=384
abbrev D3:Nat:=385
abbrev HY:Nat:=386
abbrev pz:Nat:=387
abbrev vf:Nat:=388
abbrev xX:Nat:=389
abbrev kE:Nat:=390
abbrev E6:Nat:=391
abbrev mW:Nat:=392
abbrev nA:Nat:=393
abbrev E7:Nat:=394
abbrev vg:Nat:=395
abbrev vh:Nat:=396
abbrev UJ:Nat:=397
abbrev fP:Nat:=420
abbrev lj:Nat:=421
abbrev dH:Nat:=422
abbrev iI:Nat:=423
abbrev rK:Nat:=424
abbrev Iv(n:Int):Value:= I_ n
abbrev To:Array Value:=#[Iv 0,Iv 0,Iv 0]
abbrev zr4:Array Value:=#[Iv 0,Iv 0,Iv 0,Iv 0]
abbrev JN:Array Value:=#[Iv 0,Iv 0,Iv 0,Iv 0,Iv 0]
abbrev zr6:Array Value:=#[Iv 0,Iv 0,Iv 0,Iv 0,Iv 0,Iv 0]
abbrev D4:Array Value:=#[Iv 0,Iv 0,Iv 0,Iv 0,Iv 0,Iv 0,Iv 0,Iv 0,Iv 0,Iv 0,Iv 0,Iv 0,Iv 0,Iv 0,Iv 0,Iv 0,Iv 0,Iv 0,Iv 0]
abbrev az0:Array Value:=#[Iv 0,Iv 0,Iv 0,Iv 0,Iv 0,Iv 0,Iv 0,Iv 0,Iv 0,Iv 0,Iv 0,Iv 0,Iv 0,Iv 0,Iv 0,Iv 0,Iv 0,Iv 0,Iv 0,Iv 0,Iv 0,Iv 0,Iv 0,Iv 0,Iv 0,Iv 0,Iv 0,Iv 0,Iv 0,Iv 0,Iv 0,Iv 0,Iv 0,Iv 0,Iv 0,Iv 0,Iv 0,Iv 0,Iv 0,Iv 0,Iv 0,Iv 0,Iv 0,Iv 0,Iv 0,Iv 0,Iv 0,Iv 0,Iv 0,Iv 0,Iv 0,Iv 0,Iv 0,Iv 0,Iv 0,Iv 0,Iv 0,Iv 0,Iv 0,Iv 0,Iv 0,Iv 0,Iv 0,Iv 0,Iv 0,Iv 0,Iv 0,Iv 0]
abbrev DD(A R:List K)(f:KT A->N_->(KT R->ap)->Prop):bt:=λargs w c=>qW A args λx=>f x w λr w=>c (e9 (dL R r)) w
abbrev E(A R:List K)(ds:List (Nat×bt))(m:Nat)(h:sP)(fn:Func)(x:KT A)(w:N_)(k:KT R->ap):Prop:=OP Tryz.prog (kC ds) m h fn R (dL A x) w k
abbrev SS(n:Nat)(d:bt):Prop:=uY Tryz.prog n d
inductive AS:List (Nat×bt)->Prop
 |z:AS []
 |c {n:Nat} {d:bt} {l:List (Nat×bt)}:SS n d->AS l->AS ((n,d)::l)
def AS.all{l:List (Nat×bt)}(h:AS l):FB Tryz.prog l:=by
 induction h with
 |z=>trivial
 |c h _ ih=>exact⟨h,ih⟩
variable{A R:List K}{f:KT A->N_->(KT R->ap)->Prop}{fn:Func}{n:Nat}
variable{zd:Nat}
def so{h:sP}{ds:List (Nat×bt)}(b:Tryz.prog.funcs[n]?=G_ fn)(hs:AS ds)(e:E A R ds zd h fn=f)(a:Wo h fn A.length=true:=by kernel_rfl):SS n (DD A R f):=
 aeM mixed b hs.all A R a f λx w k=>congrFun (congrFun (congrFun e x) w) k
def sl(m:Nat)(h:sP)(b:Tryz.prog.funcs[n]?=G_ fn)(e:E A R [] m h fn=f:=by kernel_rfl)(a:Wo h fn A.length=true:=by kernel_rfl):SS n (DD A R f):=
 so b .z e a
abbrev T0:=Option P_->N_->(Unit->ap)->Prop
abbrev bZ(f:T0):bt:=DD [.p] [] λx=>f x
abbrev T1:=Option P_->Int->N_->(Bool->ap)->Prop
abbrev qu(f:T1):bt:=DD [.p,.i B_] [.b] λx=>f x.1 x.2
abbrev T2:=Array M_->N_->(Bool->ap)->Prop
abbrev Jj(f:T2):bt:=DD [.ag] [.b] λx=>f x
abbrev T3:=Option P_->N_->(Int->ap)->Prop
abbrev Bl(f:T3):bt:=DD [.p] [.i B_] λx=>f x
abbrev T4:=Option P_->Option P_->Int->N_->((Int×Int)->ap)->Prop
abbrev lM(f:T4):bt:=DD [.p,.p,.i B_] [.i B_,.i B_] λx=>f x.1 x.2.1 x.2.2
abbrev T5:=Option P_->N_->(Sl->ap)->Prop
abbrev Pa(f:T5):bt:=DD [.p] [.s] λx=>f x
abbrev T6:=Option P_->Option P_->Int->N_->(Int->ap)->Prop
abbrev ry(f:T6):bt:=DD [.p,.p,.i B_] [.i B_] λx=>f x.1 x.2.1 x.2.2
abbrev T7:=Array M_->N_->(Int->ap)->Prop
abbrev xY(f:T7):bt:=DD [.ag] [.i B_] λx=>f x
abbrev T8:=Option P_->N_->((Option P_)->ap)->Prop
abbrev GB(f:T8):bt:=DD [.p] [.p] λx=>f x
abbrev T9:=Option P_->Int->N_->(Int->ap)->Prop
abbrev vN(f:T9):bt:=DD [.p,.i B_] [.i B_] λx=>f x.1 x.2
abbrev Hv:=Option P_->Int->Int->N_->((Int×Int)->ap)->Prop
abbrev zb(f:Hv):bt:=DD [.p,.i B_,.i B_] [.i B_,.i B_] λx=>f x.1 x.2.1 x.2.2
abbrev W7:=Array M_->N_->((Option P_)->ap)->Prop
abbrev HZ(f:W7):bt:=DD [.ag] [.p] λx=>f x
abbrev W8:=Option P_->N_->(Bool->ap)->Prop
abbrev LR(f:W8):bt:=DD [.p] [.b] λx=>f x
abbrev T13:=Sl->Int->Int->N_->(Unit->ap)->Prop
abbrev D5(f:T13):bt:=DD [.s,.i B_,.i B_] [] λx=>f x.1 x.2.1 x.2.2
abbrev Nl:=Option P_->N_->((Array M_)->ap)->Prop
abbrev E8(f:Nl):bt:=DD [.p] [.ag] λx=>f x
abbrev W9:=Array M_->N_->((Array M_)->ap)->Prop
abbrev Kx(f:W9):bt:=DD [.ag] [.ag] λx=>f x
abbrev T16:=Option P_->Array M_->N_->(Bool->ap)->Prop
abbrev az1(f:T16):bt:=DD [.p,.ag] [.b] λx=>f x.1 x.2
abbrev T17:=Sl->N_->(Int->ap)->Prop
abbrev Jk(f:T17):bt:=DD [.s] [.i B_] λx=>f x
abbrev Vl:=Int->N_->(Bool->ap)->Prop
abbrev A8(f:Vl):bt:=DD [.i B_] [.b] λx=>f x
abbrev Tq:=Option P_->M_->N_->(Unit->ap)->Prop
abbrev E9(f:Tq):bt:=DD [.p,.raw] [] λx=>f x.1 x.2
abbrev T20:=Option P_->N_->(M_->ap)->Prop
abbrev H6(f:T20):bt:=DD [.p] [.raw] λx=>f x
abbrev Xa:=Option P_->Int->M_->N_->(Unit->ap)->Prop
abbrev LS(f:Xa):bt:=DD [.p,.i B_,.raw] [] λx=>f x.1 x.2.1 x.2.2
abbrev T22:=P_->N_->(Unit->ap)->Prop
abbrev Fa(f:T22):bt:=DD [.a] [] λx=>f x
abbrev T23:=Sl->Sl->N_->(Bool->ap)->Prop
abbrev arH(f:T23):bt:=DD [.s,.s] [.b] λx=>f x.1 x.2
abbrev T24:=M_->Int->Int->N_->(Bool->ap)->Prop
abbrev Q1(f:T24):bt:=DD [.raw,.i B_,.i B_] [.b] λx=>f x.1 x.2.1 x.2.2
abbrev Vm:=Array M_->Option P_->Int->N_->((Int×Int)->ap)->Prop
abbrev Jl(f:Vm):bt:=DD [.ag,.p,.i B_] [.i B_,.i B_] λx=>f x.1 x.2.1 x.2.2
abbrev T26:=M_->Int->N_->(Unit->ap)->Prop
abbrev UK(f:T26):bt:=DD [.raw,.i B_] [] λx=>f x.1 x.2
abbrev T27:=Int->P_->N_->(Unit->ap)->Prop
abbrev H7(f:T27):bt:=DD [.i B_,.a] [] λx=>f x.1 x.2
abbrev T28:=Option P_->Int->N_->(Unit->ap)->Prop
abbrev Ky(f:T28):bt:=DD [.p,.i B_] [] λx=>f x.1 x.2
abbrev T29:=P_->P_->N_->(Unit->ap)->Prop
abbrev Kz(f:T29):bt:=DD [.a,.a] [] λx=>f x.1 x.2
abbrev T30:=Array M_->Int->N_->(Int->ap)->Prop
abbrev ack(f:T30):bt:=DD [.ag,.i B_] [.i B_] λx=>f x.1 x.2
abbrev T31:=Sl->Int->Int->N_->(Bool->ap)->Prop
abbrev Xb(f:T31):bt:=DD [.s,.i B_,.i B_] [.b] λx=>f x.1 x.2.1 x.2.2
abbrev T32:=P_->P_->N_->(Int->ap)->Prop
abbrev OY(f:T32):bt:=DD [.a,.a] [.i B_] λx=>f x.1 x.2
abbrev T33:=Option P_->Option P_->Int->Int->Option P_->M_->N_->((Int×Int)->ap)->Prop
abbrev Xc(f:T33):bt:=DD [.p,.p,.i B_,.i B_,.p,.raw] [.i B_,.i B_] λx=>f x.1 x.2.1 x.2.2.1 x.2.2.2.1 x.2.2.2.2.1 x.2.2.2.2.2
abbrev T34:=Array M_->Option P_->Int->N_->(Int->ap)->Prop
abbrev OZ(f:T34):bt:=DD [.ag,.p,.i B_] [.i B_] λx=>f x.1 x.2.1 x.2.2
abbrev T35:=Option P_->Sl->N_->(Bool->ap)->Prop
abbrev UL(f:T35):bt:=DD [.p,.s] [.b] λx=>f x.1 x.2
abbrev T36:=Option P_->Int->Int->Int->N_->((Int×Int)->ap)->Prop
abbrev aab(f:T36):bt:=DD [.p,.i B_,.i B_,.i B_] [.i B_,.i B_] λx=>f x.1 x.2.1 x.2.2.1 x.2.2.2
abbrev T37:=Array M_->Array M_->N_->((Option P_×Int)->ap)->Prop
abbrev arI(f:T37):bt:=DD [.ag,.ag] [.p,.i B_] λx=>f x.1 x.2
abbrev T38:=Int->Int->Int->N_->(Int->ap)->Prop
abbrev az2(f:T38):bt:=DD [.i B_,.i B_,.i B_] [.i B_] λx=>f x.1 x.2.1 x.2.2
abbrev T39:=Option P_->Option P_->M_->N_->(Unit->ap)->Prop
abbrev acm(f:T39):bt:=DD [.p,.p,.raw] [] λx=>f x.1 x.2.1 x.2.2
abbrev T40:=Option P_->Option P_->Int->N_->((Bool×Int)->ap)->Prop
abbrev Xd(f:T40):bt:=DD [.p,.p,.i B_] [.b,.i B_] λx=>f x.1 x.2.1 x.2.2
abbrev T41:=Option P_->Int->Int->N_->(Unit->ap)->Prop
abbrev acn(f:T41):bt:=DD [.p,.i B_,.i B_] [] λx=>f x.1 x.2.1 x.2.2
abbrev T42:=Option P_->Int->Int->Int->Int->N_->((Bool×Int)->ap)->Prop
abbrev aco(f:T42):bt:=DD [.p,.i B_,.i B_,.i B_,.i B_] [.b,.i B_] λx=>f x.1 x.2.1 x.2.2.1 x.2.2.2.1 x.2.2.2.2
abbrev T43:=Option P_->Int->Int->Int->N_->(Int->ap)->Prop
abbrev acp(f:T43):bt:=DD [.p,.i B_,.i B_,.i B_] [.i B_] λx=>f x.1 x.2.1 x.2.2.1 x.2.2.2
abbrev T44:=Option P_->Sl->N_->(Unit->ap)->Prop
abbrev arJ(f:T44):bt:=DD [.p,.s] [] λx=>f x.1 x.2
abbrev T45:=Option P_->Int->Int->M_->N_->(Int->ap)->Prop
abbrev acq(f:T45):bt:=DD [.p,.i B_,.i B_,.raw] [.i B_] λx=>f x.1 x.2.1 x.2.2.1 x.2.2.2
abbrev T46:=Option P_->Option P_->Int->Int->N_->((Bool×Int)->ap)->Prop
abbrev aac(f:T46):bt:=DD [.p,.p,.i B_,.i B_] [.b,.i B_] λx=>f x.1 x.2.1 x.2.2.1 x.2.2.2
abbrev T47:=Array M_->Option P_->Int->Int->N_->(Int->ap)->Prop
abbrev aad(f:T47):bt:=DD [.ag,.p,.i B_,.i B_] [.i B_] λx=>f x.1 x.2.1 x.2.2.1 x.2.2.2
abbrev T48:=Option P_->Int->Int->N_->(Int->ap)->Prop
abbrev am2(f:T48):bt:=DD [.p,.i B_,.i B_] [.i B_] λx=>f x.1 x.2.1 x.2.2
abbrev T49:=Array M_->Int->N_->((Array M_)->ap)->Prop
abbrev acr(f:T49):bt:=DD [.ag,.i B_] [.ag] λx=>f x.1 x.2
abbrev T50:=Bool->P_->N_->(Unit->ap)->Prop
abbrev aae(f:T50):bt:=DD [.b,.a] [] λx=>f x.1 x.2
abbrev T51:=Option P_->Option P_->Int->Int->N_->((Int×Int)->ap)->Prop
abbrev ae1(f:T51):bt:=DD [.p,.p,.i B_,.i B_] [.i B_,.i B_] λx=>f x.1 x.2.1 x.2.2.1 x.2.2.2
abbrev T52:=P_->P_->P_->N_->(Unit->ap)->Prop
abbrev aaf(f:T52):bt:=DD [.a,.a,.a] [] λx=>f x.1 x.2.1 x.2.2
abbrev T53:=Array M_->Option P_->Int->N_->(Bool->ap)->Prop
abbrev acs(f:T53):bt:=DD [.ag,.p,.i B_] [.b] λx=>f x.1 x.2.1 x.2.2
abbrev T54:=Int->Int->N_->((Array M_)->ap)->Prop
abbrev arM(f:T54):bt:=DD [.i B_,.i B_] [.ag] λx=>f x.1 x.2
abbrev T56:=P_->N_->(Int->ap)->Prop
abbrev ae2(f:T56):bt:=DD [.a] [.i B_] λx=>f x
abbrev T57:=Array M_->Int->N_->(Bool->ap)->Prop
abbrev ais(f:T57):bt:=DD [.ag,.i B_] [.b] λx=>f x.1 x.2
abbrev T58:=Array M_->Int->N_->((Option P_)->ap)->Prop
abbrev ait(f:T58):bt:=DD [.ag,.i B_] [.p] λx=>f x.1 x.2
abbrev T59:=Int->Int->N_->(Bool->ap)->Prop
abbrev am3(f:T59):bt:=DD [.i B_,.i B_] [.b] λx=>f x.1 x.2
abbrev T60:=Int->N_->(Int->ap)->Prop
abbrev am4(f:T60):bt:=DD [.i .u64] [.i B_] λx=>f x
abbrev T62:=Int->N_->((Array M_)->ap)->Prop
abbrev az3(f:T62):bt:=DD [.i B_] [.ag] λx=>f x
abbrev T64:=Option P_->Option P_->N_->(Bool->ap)->Prop
abbrev aiu(f:T64):bt:=DD [.p,.p] [.b] λx=>f x.1 x.2
abbrev T65:=Option P_->Int->N_->((Array M_×Int)->ap)->Prop
abbrev ae3(f:T65):bt:=DD [.p,.i B_] [.ag,.i B_] λx=>f x.1 x.2
abbrev T66:=ByteArray->ByteArray->N_->(ByteArray->ap)->Prop
abbrev aIm(f:T66):bt:=DD [.str,.str] [.str] λx=>f x.1 x.2
abbrev T67:=Option P_->Option P_->Int->Int->Int->M_->N_->((Int×Int)->ap)->Prop
abbrev am5(f:T67):bt:=DD [.p,.p,.i B_,.i B_,.i B_,.raw] [.i B_,.i B_] λx=>f x.1 x.2.1 x.2.2.1 x.2.2.2.1 x.2.2.2.2.1 x.2.2.2.2.2
abbrev T68:=Option P_->M_->M_->M_->N_->(Unit->ap)->Prop
abbrev arQ(f:T68):bt:=DD [.p,.raw,.raw,.raw] [] λx=>f x.1 x.2.1 x.2.2.1 x.2.2.2
abbrev T69:=Array M_->Option P_->N_->(Int->ap)->Prop
abbrev arR(f:T69):bt:=DD [.ag,.p] [.i B_] λx=>f x.1 x.2
abbrev T70:=Option P_->Int->N_->((Option P_×Int)->ap)->Prop
abbrev am6(f:T70):bt:=DD [.p,.i B_] [.p,.i B_] λx=>f x.1 x.2
abbrev T71:=Option P_->Array M_->N_->(Unit->ap)->Prop
abbrev arT(f:T71):bt:=DD [.p,.ag] [] λx=>f x.1 x.2
abbrev T72:=Int->P_->P_->P_->N_->(Bool->ap)->Prop
abbrev am7(f:T72):bt:=DD [.i B_,.a,.a,.a] [.b] λx=>f x.1 x.2.1 x.2.2.1 x.2.2.2
abbrev T73:=Option P_->Option P_->Int->N_->((Bool×Bool×Int)->ap)->Prop
abbrev arU(f:T73):bt:=DD [.p,.p,.i B_] [.b,.b,.i B_] λx=>f x.1 x.2.1 x.2.2
abbrev T74:=Bool->P_->P_->N_->(Unit->ap)->Prop
abbrev am8(f:T74):bt:=DD [.b,.a,.a] [] λx=>f x.1 x.2.1 x.2.2
abbrev T75:=Option P_->Option P_->N_->(Unit->ap)->Prop
abbrev arV(f:T75):bt:=DD [.p,.p] [] λx=>f x.1 x.2
abbrev T76:=Option P_->Int->Int->Int->Int->Array M_->N_->(Int->ap)->Prop
abbrev arW(f:T76):bt:=DD [.p,.i B_,.i B_,.i B_,.i B_,.ag] [.i B_] λx=>f x.1 x.2.1 x.2.2.1 x.2.2.2.1 x.2.2.2.2.1 x.2.2.2.2.2
abbrev T77:=Option P_->Option P_->Int->Int->N_->(Int->ap)->Prop
abbrev arX(f:T77):bt:=DD [.p,.p,.i B_,.i B_] [.i B_] λx=>f x.1 x.2.1 x.2.2.1 x.2.2.2
abbrev T78:=Sl->N_->(M_->ap)->Prop
abbrev am9(f:T78):bt:=DD [.s] [.raw] λx=>f x
abbrev arY(f:T60):bt:=DD [.i B_] [.i B_] λx=>f x
abbrev T81:=Array M_->Option P_->N_->((Int×Int×Int)->ap)->Prop
abbrev ana(f:T81):bt:=DD [.ag,.p] [.i B_,.i B_,.i B_] λx=>f x.1 x.2
abbrev T82:=Int->Int->N_->((Option P_×Int)->ap)->Prop
abbrev ar0(f:T82):bt:=DD [.i B_,.i B_] [.p,.i B_] λx=>f x.1 x.2
abbrev T83:=Sl->Int->N_->(Int->ap)->Prop
abbrev aI1(f:T83):bt:=DD [.s,.i B_] [.i B_] λx=>f x.1 x.2
abbrev T84:=Sl->Sl->Int->Int->N_->(Bool->ap)->Prop
abbrev aMl(f:T84):bt:=DD [.s,.s,.i B_,.i B_] [.b] λx=>f x.1 x.2.1 x.2.2.1 x.2.2.2
abbrev T85:=Option P_->Int->Int->Int->N_->((Array M_×Int)->ap)->Prop
abbrev anb(f:T85):bt:=DD [.p,.i B_,.i B_,.i B_] [.ag,.i B_] λx=>f x.1 x.2.1 x.2.2.1 x.2.2.2
abbrev T86:=ByteArray->ByteArray->N_->(Bool->ap)->Prop
abbrev aK1(f:T86):bt:=DD [.str,.str] [.b] λx=>f x.1 x.2
abbrev T87:=ByteArray->Int->N_->(ByteArray->ap)->Prop
abbrev aK2(f:T87):bt:=DD [.str,.i .u8] [.str] λx=>f x.1 x.2
abbrev T88:=ByteArray->Option P_->N_->(ByteArray->ap)->Prop
abbrev aK3(f:T88):bt:=DD [.str,.p] [.str] λx=>f x.1 x.2
abbrev aMq(f:T1):bt:=DD [.p,.i .u8] [.b] λx=>f x.1 x.2
abbrev T92:=Int->N_->((Array M_×Int)->ap)->Prop
abbrev ar2(f:T92):bt:=DD [.i B_] [.ag,.i B_] λx=>f x
abbrev T93:=Sl->N_->(Sl->ap)->Prop
abbrev ar3(f:T93):bt:=DD [.s] [.s] λx=>f x
abbrev T94:=Array M_->N_->(Sl->ap)->Prop
abbrev ar4(f:T94):bt:=DD [.ag] [.s] λx=>f x
abbrev T95:=Array M_->Array M_->N_->(Sl->ap)->Prop
abbrev ar5(f:T95):bt:=DD [.ag,.ag] [.s] λx=>f x.1 x.2
abbrev T96:=Bool->N_->(Int->ap)->Prop
abbrev ar6(f:T96):bt:=DD [.b] [.i B_] λx=>f x
abbrev T97:=Array M_->Option P_->Int->N_->((Bool×Int)->ap)->Prop
abbrev az4(f:T97):bt:=DD [.ag,.p,.i B_] [.b,.i B_] λx=>f x.1 x.2.1 x.2.2
abbrev T98:=Int->Int->Int->Int->Int->N_->((Sl×Int)->ap)->Prop
abbrev az5(f:T98):bt:=DD [.i B_,.i B_,.i B_,.i B_,.i B_] [.s,.i B_] λx=>f x.1 x.2.1 x.2.2.1 x.2.2.2.1 x.2.2.2.2
abbrev T99:=Array M_->Array M_->N_->((Array M_×Int)->ap)->Prop
abbrev az6(f:T99):bt:=DD [.ag,.ag] [.ag,.i B_] λx=>f x.1 x.2
abbrev ar7:=Array M_->Array M_->N_->((Array M_×Bool)->ap)->Prop
abbrev ar8(f:ar7):bt:=DD [.ag,.ag] [.ag,.b] λx=>f x.1 x.2
abbrev az7:=Array M_->Array M_->Array M_->N_->((Array M_×Int)->ap)->Prop
abbrev ar9(f:az7):bt:=DD [.ag,.ag,.ag] [.ag,.i B_] λx=>f x.1 x.2.1 x.2.2
abbrev asa:=Array M_->Array M_->Int->N_->((Array M_)->ap)->Prop
abbrev asb(f:asa):bt:=DD [.ag,.ag,.i B_] [.ag] λx=>f x.1 x.2.1 x.2.2
abbrev asc:=Array M_->Array M_->Bool->N_->((Array M_)->ap)->Prop
abbrev asd(f:asc):bt:=DD [.ag,.ag,.b] [.ag] λx=>f x.1 x.2.1 x.2.2
abbrev ase:=Array M_->Option P_->Int->Int->N_->((Bool×Int)->ap)->Prop
abbrev asf(f:ase):bt:=DD [.ag,.p,.i B_,.i B_] [.b,.i B_] λx=>f x.1 x.2.1 x.2.2.1 x.2.2.2
abbrev ash:=Array M_->Array M_->Int->Int->N_->((Array M_×Int×Bool)->ap)->Prop
abbrev asi(f:ash):bt:=DD [.ag,.ag,.i B_,.i B_] [.ag,.i B_,.b] λx=>f x.1 x.2.1 x.2.2.1 x.2.2.2
abbrev asj:=Option P_->Int->Int->N_->(Bool->ap)->Prop
abbrev asm(f:asj):bt:=DD [.p,.i B_,.i B_] [.b] λx=>f x.1 x.2.1 x.2.2
abbrev ane:=Int->N_->(M_->ap)->Prop
abbrev akY(f:ane):bt:=DD [.i B_] [.raw] λx=>f x
abbrev asn:=Int->Int->N_->(Int->ap)->Prop
abbrev aso(f:asn):bt:=DD [.i B_,.i B_] [.i B_] λx=>f x.1 x.2
abbrev asp:=Option P_->Sl->N_->(Int->ap)->Prop
abbrev asr(f:asp):bt:=DD [.p,.s] [.i B_] λx=>f x.1 x.2
abbrev asu:=Option P_->Int->N_->((Sl×Int)->ap)->Prop
abbrev asv(f:asu):bt:=DD [.p,.i B_] [.s,.i B_] λx=>f x.1 x.2
abbrev asw:=Int->Int->Int->N_->(Bool->ap)->Prop
abbrev asx(f:asw):bt:=DD [.i B_,.i B_,.i B_] [.b] λx=>f x.1 x.2.1 x.2.2
abbrev aK4:=Sl->Int->N_->(Sl->ap)->Prop
abbrev aKw(f:aK4):bt:=DD [.s,.i B_] [.s] λx=>f x.1 x.2
abbrev aK5:=Array M_->Array M_->Int->Int->N_->(Bool->ap)->Prop
abbrev aKy(f:aK5):bt:=DD [.ag,.ag,.i B_,.i B_] [.b] λx=>f x.1 x.2.1 x.2.2.1 x.2.2.2
abbrev asy:=M_->N_->(M_->ap)->Prop
abbrev asz(f:asy):bt:=DD [.raw] [.raw] λx=>f x
abbrev asA:=Option P_->Int->N_->((Int×Int)->ap)->Prop
abbrev asB(f:asA):bt:=DD [.p,.i B_] [.i B_,.i B_] λx=>f x.1 x.2
abbrev aMr:=ByteArray->N_->((Array M_×Bool)->ap)->Prop
abbrev aMs(f:aMr):bt:=DD [.str] [.ag,.b] λx=>f x
abbrev asC:=Sl->Array M_->N_->(Int->ap)->Prop
abbrev asD(f:asC):bt:=DD [.s,.ag] [.i B_] λx=>f x.1 x.2
abbrev asE:=M_->Int->N_->(M_->ap)->Prop
abbrev asF(f:asE):bt:=DD [.raw,.i B_] [.raw] λx=>f x.1 x.2
abbrev asG:=M_->M_->N_->(Unit->ap)->Prop
abbrev asH(f:asG):bt:=DD [.raw,.raw] [] λx=>f x.1 x.2
abbrev asI:=Array M_->N_->((Int×Int)->ap)->Prop
abbrev asJ(f:asI):bt:=DD [.ag] [.i B_,.i B_] λx=>f x
abbrev asK:=Int->N_->((Int×Int)->ap)->Prop
abbrev asL(f:asK):bt:=DD [.i B_] [.i B_,.i B_] λx=>f x
abbrev anf:=Sl->Int->N_->(M_->ap)->Prop
abbrev akZ(f:anf):bt:=DD [.s,.i B_] [.raw] λx=>f x.1 x.2
abbrev asM:=Option P_->Int->Int->N_->((Array M_×Int)->ap)->Prop
abbrev asN(f:asM):bt:=DD [.p,.i B_,.i B_] [.ag,.i B_] λx=>f x.1 x.2.1 x.2.2
abbrev asO:=Array M_->Array M_->Int->Int->N_->((Option P_×Int)->ap)->Prop
abbrev asP(f:asO):bt:=DD [.ag,.ag,.i B_,.i B_] [.p,.i B_] λx=>f x.1 x.2.1 x.2.2.1 x.2.2.2
abbrev aDy:=N_->((Option P_)->ap)->Prop
abbrev YC(f:aDy):bt:=DD [] [.p] λx=>f
abbrev aDz:=N_->((Array M_)->ap)->Prop
abbrev ak0(f:aDz):bt:=DD [] [.ag] λx=>f
def lm:T2:=λc w k=>aE w c 24 λd f=>jD (S:=Int) (λg b a=>cy a (d.add 0) λh=>an ((L_ (b<((h.n:Nat):Int)))&&(L_ (b<41))) (cy a (d.add 0) λi=>cN i b 2 λj=>cy a (j.add 1) λl=>an (L_ (((l.n:Nat):Int)>140)) (k K_ a) (g (aF B_ (b+1)) a)) (cy a (d.add 0) λe=>(k (L_ (((e.n:Nat):Int)<=40)) a))) 0 f
def Tr:SS HL (Jj lm):=sl 4198414 [(3,[(3,(.i B_))])] func34
def dc:T54:=λaxs asQ w k=>aE w zr6 43 λb d=>dQ 6 d b #[Iv axs,Iv asQ,Iv 65536,Iv 1048576,Iv 1000,Iv 3] λc=>bx 6 c b λa=>k a c
def Fb:SS xU (arM dc):=sl 19 [] func43
def mg:T62:=λzN w k=>aE w zr4 326 λA B=>kT az0 0 4 #[Iv 1,Iv 0,Iv 0,Iv 5] λq=>kT q 4 4 #[Iv 1,Iv 1,Iv 0,Iv 0] λr=>kT r 8 4 #[Iv 1,Iv 1,Iv 1,Iv 0] λs=>kT s 12 4 #[Iv 1,Iv 1,Iv 1,Iv 0] λt=>kT t 16 4 #[Iv 1,Iv 1,Iv 1,Iv 0] λu=>kT u 20 4 #[Iv 1,Iv 1,Iv 1,Iv 0] λv=>kT v 24 4 #[Iv 0,Iv 0,Iv 0,Iv 2] λx=>kT x 28 4 #[Iv 1,Iv 0,Iv 0,Iv 2] λa=>kT a 32 4 #[Iv 1,Iv 0,Iv 0,Iv 3] λb=>kT b 36 4 #[Iv 1,Iv 1,Iv 0,Iv 0] λc=>kT c 40 4 #[Iv 1,Iv 1,Iv 1,Iv 0] λd=>kT d 44 4 #[Iv 0,Iv 0,Iv 0,Iv 4] λe=>kT e 48 4 #[Iv 1,Iv 0,Iv 0,Iv 0] λf=>kT f 52 4 zr4 λg=>kT g 56 4 zr4 λh=>kT h 60 4 #[Iv 1,Iv 0,Iv 0,Iv 0] λi=>kT i 64 4 #[Iv 1,Iv 0,Iv 0,Iv 0] λj=>aE B az0 347 λl y=>dQ 68 y l j λm=>Hf l 17 zN 4 λz=>bx 4 m z λn=>dQ 4 m A n λo=>bx 4 o A λp=>k p o
def YD:SS LP (az3 mg):=sl 13 [] func222
def rR:asK:=λXe w k=>an (Xe==1) (k (0,7) w) (an (Xe==2) (k (0,127) w) (an (Xe==3) (k (0,31) w) (an (Xe==4) (k (0,65535) w) (an (Xe==5) (k ((-2147483648),2147483647) w) (k (0,0) w)))))
def agD:SS W6 (asL rR):=sl 10941 [] func223
def Gg(F:T62)(rR:asK):T7:=λl w k=>aE w l 75 λe j=>cz (S:=Bool) (λz=>aJ B_ j (e.add 0) λA=>an (L_ (A<0)) (z J_ j) (aJ B_ j (e.add 0) λB=>z (L_ (B>=17)) j)) λC m=>an C (k 13 m) (aJ B_ m (e.add 0) λD=>F D m λn o=>aE o zr4 326 λg p=>dQ 4 p g n λc=>aJ B_ c (e.add 1) λq=>aJ B_ c (e.add 2) λr=>aJ B_ c (e.add 3) λs=>aJ B_ c (e.add 4) λt=>jD (S:=(Int×Int)) (λu b f=>an (L_ (b.2<4)) (ixA #[Iv q,Iv r,Iv s,Iv t] 4 b.2 λv=>xS B_ v λh=>Hf g 4 b.2 1 λx=>aJ B_ f x λy=>rR y f λd i=>an ((L_ (h<(d.1,d.2).1))||(L_ (h>(d.1,d.2).2))) (k 10 i) (u (b.1,(aF B_ (b.2+1))) i)) (k b.1 f)) (0,0) c)
def ad6 a c:E [.ag] [.i B_] [(LP,az3 a),(W6,asL c)] 140739367469566 [(1,[(16,.b)]),(8,[(4,(.i B_)),(29,(.i B_))])] f177=Gg a c:=aZ
def fa:=Gg mg rR
def K6:SS BX (xY fa):=so func177 (.c YD (.c agD .z)) (ad6 mg rR)
def Jm(C:T7):asI:=λuw w k=>aE w uw 78 λd p=>cz (S:=Bool) (λv=>aJ B_ p (d.add 0) λy=>an (L_ (y<0)) (v J_ p) (aJ B_ p (d.add 0) λz=>v (L_ (z>255)) p)) λA f=>an A (k ((-1),10) f) (cz (S:=Bool) (λx=>cy f (d.add 1) λB=>an (L_ (((B.n:Nat):Int)<1)) (x J_ f) (cy f (d.add 1) λq=>(x (L_ (((q.n:Nat):Int)>128)) f))) λr b=>an r (k ((-1),12) b) (cy b (d.add 1) λg=>jD (S:=Int) (λs a c=>an (L_ (a<((g.n:Nat):Int))) (cN g a 5 λt=>bx 5 c t λh=>aE c JN 75 λi u=>dQ 5 u i h λj=>bx 5 j i λl=>C l j λm o=>an (m !=0) (k (a,m) o) (s (aF B_ (a+1)) o)) (k (0,0) c)) 0 b))
def acu a:E [.ag] [.i B_,.i B_] [(BX,xY a)] 69742903422 [(1,[(14,.b)]),(4,[(24,.b)]),(9,[(28,(.i B_))])] f122=Jm a:=aZ
def qU:=Jm fa
def acv:SS Q0 (asJ qU):=so func122 (.c K6 .z) (acu fa)
def oO:T93:=λaa7 w k=>xz Tryz.prog 69 (Iv ((aa7.n:Nat):Int)) (Iv ((aa7.n:Nat):Int)) w λs1 l=>jD (S:=(Int×Int)) (λe b f=>an (L_ (b.2<((aa7.n:Nat):Int))) (cN aa7 b.2 5 λm=>bx 5 f m λg=>aE f JN 75 λj o=>dQ 5 o j g λh=>cN s1 b.2 1 λi=>bN h i (Iv b.1) λc=>aJ B_ c (j.add 0) λd=>an (d==11) (e ((aF B_ (b.1+1)),(aF B_ (b.2+1))) c) (an (d==12) (e ((aF B_ (b.1 - 1)),(aF B_ (b.2+1))) c) (e (b.1,(aF B_ (b.2+1))) c))) (k s1 f)) (0,0) l
def aaI:SS Hs (ar3 oO):=sl 146816125 [(5,[(4,(.i B_)),(12,(.i B_))])] func178
def jF:T41:=λb d ang w k=>en b w 1 λJ=>cN J d 1 λL=>aJ B_ w L λG=>cz (S:=Bool) (λH=>en b w 2 λN=>cN N d 1 λO=>He w O λP=>an P (en b w 1 λm=>cN m d 1 λo=>aJ B_ w o λp=>H ((oH B_ G ang)==p) w) (H K_ w)) λq i=>an q (k () i) (drew i λf=>en b f 2 λs=>en b f 1 λu=>cN s d 1 λv=>bN f v (Iq J_) λx=>cN u d 1 λy=>bN x y (Iv (oH B_ G ang)) λj=>en b j 3 λg=>aE j #[Iv d] 3 λA B=>og Tryz.prog #[69,69] 69 [S_ g,(IC (G_ A) 1 1)] B λh C=>v7 b C 3 (S_ h) λF=>k () F)
abbrev Vn:bt:=acn jF
def Vo:SS CG (acn jF):=sl 8589934659 [(1,[(33,.b)])] func224
def oP:anf:=λLU b w k=>aE w #[S_ LU] 76 λd e=>aE e #[Iv b] 3 λf g=>k (.func (F_ rH) #[] #[IB (G_ d),IB (G_ f)]) g
abbrev aaJ:bt:=akZ oP
def aaK:SS Ht (akZ oP):=sl 28 [] func225
def jU:Vl:=λzN w k=>k ((zN==6)||(zN==7)) w
abbrev ad7:bt:=A8 jU
def UM:SS sE (A8 jU):=sl 5 [] func226
def ju:Vl:=λzN w k=>k ((zN==16)||(zN==15)) w
abbrev ad8:bt:=A8 ju
def UN:SS sF (A8 ju):=sl 5 [] func227
def D6(Y:Nat->bt)(jU:Vl)(ju:Vl)(su:M_)(i:P_)(j:P_)(w:N_)(k:Unit->ap):Prop:= cy w i λs1=>aJ B_ w j λI=>cN s1 I 5 λJ=>bx 5 w J λl=>aE w JN 75 λe L=>dQ 5 L e l λH=>cz (S:=Bool) (λh=>aJ B_ H (e.add 0) λM=>jU M H λm b=>an m (aJ B_ b (e.add 4) λo=>an (L_ (o>=0)) (aJ B_ b (e.add 4) λp=>cy b i λq=>an (L_ (p<((q.n:Nat):Int))) (aJ B_ b (e.add 4) λr=>nj (J0 [(sE,(A8 jU)),(sF,(A8 ju))] Y) su #[Iv r] b λs t=>Ir s λu=>h (!u) t) (h K_ b)) (h K_ b)) (h K_ b)) λv c=>an v (k () c) (cz (S:=Bool) (λf=>aJ B_ c (e.add 0) λx=>an (x !=6) (aJ B_ c (e.add 0) λy=>ju y c λz d=>an (!z) (aJ B_ d j λA=>cy d i λB=>(f (L_ ((aF B_ (A+1))<((B.n:Nat):Int))) d)) (f K_ d)) (f K_ c)) λC g=>an C (aJ B_ g j λD=>nj (J0 [(sE,(A8 jU)),(sF,(A8 ju))] Y) su #[(Iv (aF B_ (D+1)))] g λF G=>Ir F λN=>k () G) (k () g))
def Xf(Y:Nat->bt)(jU:Vl)(ju:Vl)(x:KT [.raw,.a,.a])(w:N_)(k:KT []->ap):OP Tryz.prog (J0 [(sE,(A8 jU)),(sF,(A8 ju))] Y) 70369817919511 [(1,[(30,.b)]),(3,[(46,.b)])] f255 [] (dL [.raw,.a,.a] x) w k=D6 Y jU ju x.1 x.2.1 x.2.2 w k:=aZ
def xB(Y:Nat->bt)(su:M_)(a:P_)(b:P_)(w:N_)(k:Unit->ap):Prop:=D6 Y jU ju su a b w k
def rL(Y:Nat->bt):bt:=λargs w c=>qW [.raw,.a,.a] args λx=>xB Y x.1 x.2.1 x.2.2 w λr w=>c (e9 (dL [] r)) w
def Xg:WW Tryz.prog rH rL:=λY c=>
 M5 (mask:=70369817919511) (h:=[(1,[(30,.b)]),(3,[(46,.b)])]) mixed func255 (WI (l:=[(sE,ad7),(sF,ad8)]) ⟨UM,UN,trivial⟩ c)
 [.raw,.a,.a] [] aZ (λx w k=>xB Y x.1 x.2.1 x.2.2 w k) (λx w k=>Xf Y jU ju x w k)
def K7(I:De)(jF:T41)(oP:anf)(uw:Array M_)(w:N_)(k:(Sl)->ap):Prop:= aE w uw 78 λf w2=>cy w2 (f.add 1) λj=>cz (S:=P_) (λC=>drew w2 λg=>cy g (f.add 1) λb=>both (xz Tryz.prog 69 (Iv ((j.n:Nat):Int)) (Iv ((j.n:Nat):Int)) g λu w8=>ai 1 (f.add 1) g w8 (both (xz Tryz.prog 331 (Iv ((j.n:Nat):Int)) (Iv ((j.n:Nat):Int)) w8 λD F=>ai 1 (f.add 1) g F (both (both (aE F #[S_ b,S_ u,S_ D,IC H_ 0 0] 333 λg7 g8=>aE g8 #[IB H_] 330 λa0 a2=>ai 1 (f.add 1) g a2 (bN a2 a0 (IB (G_ g7)) λg9=>C a0 g9)) (aE F #[IB H_] 330 λa3 a4=>ai 1 (f.add 1) g a4 (aE a4 #[S_ b,S_ u,S_ D,IC H_ 0 0] 333 λh0 h1=>bN h1 a3 (IB (G_ h0)) λh2=>C a3 h2))) (aE F #[IB H_] 330 λa5 a6=>ai 1 (f.add 1) g a6 (aE a6 #[S_ b,S_ u,S_ D,IC H_ 0 0] 333 λh3 h4=>bN h4 a5 (IB (G_ h3)) λh5=>C a5 h5)))) (aE w8 #[IB H_] 330 λa7 a8=>ai 1 (f.add 1) g a8 (xz Tryz.prog 331 (Iv ((j.n:Nat):Int)) (Iv ((j.n:Nat):Int)) a8 λO a9=>ai 1 (f.add 1) g a9 (aE a9 #[S_ b,S_ u,S_ O,IC H_ 0 0] 333 λh6 h7=>bN h7 a7 (IB (G_ h6)) λh8=>C a7 h8))))) (both (xz Tryz.prog 331 (Iv ((j.n:Nat):Int)) (Iv ((j.n:Nat):Int)) g λe P=>ai 1 (f.add 1) g P (both (xz Tryz.prog 69 (Iv ((j.n:Nat):Int)) (Iv ((j.n:Nat):Int)) P λm G=>ai 1 (f.add 1) g G (both (both (aE G #[S_ b,S_ m,S_ e,IC H_ 0 0] 333 λh9 i0=>aE i0 #[IB H_] 330 λb0 b1=>ai 1 (f.add 1) g b1 (bN b1 b0 (IB (G_ h9)) λi1=>C b0 i1)) (aE G #[IB H_] 330 λb2 b3=>ai 1 (f.add 1) g b3 (aE b3 #[S_ b,S_ m,S_ e,IC H_ 0 0] 333 λi2 i3=>bN i3 b2 (IB (G_ i2)) λi4=>C b2 i4))) (aE G #[IB H_] 330 λb4 b5=>ai 1 (f.add 1) g b5 (aE b5 #[S_ b,S_ m,S_ e,IC H_ 0 0] 333 λi5 i6=>bN i6 b4 (IB (G_ i5)) λi7=>C b4 i7)))) (aE P #[IB H_] 330 λb6 b7=>ai 1 (f.add 1) g b7 (xz Tryz.prog 69 (Iv ((j.n:Nat):Int)) (Iv ((j.n:Nat):Int)) b7 λQ b8=>ai 1 (f.add 1) g b8 (aE b8 #[S_ b,S_ Q,S_ e,IC H_ 0 0] 333 λi8 i9=>bN i9 b6 (IB (G_ i8)) λj0=>C b6 j0))))) (aE g #[IB H_] 330 λH R=>ai 1 (f.add 1) g R (both (xz Tryz.prog 69 (Iv ((j.n:Nat):Int)) (Iv ((j.n:Nat):Int)) R λT b9=>ai 1 (f.add 1) g b9 (xz Tryz.prog 331 (Iv ((j.n:Nat):Int)) (Iv ((j.n:Nat):Int)) b9 λU c0=>ai 1 (f.add 1) g c0 (aE c0 #[S_ b,S_ T,S_ U,IC H_ 0 0] 333 λj1 j2=>bN j2 H (IB (G_ j1)) λj3=>C H j3))) (xz Tryz.prog 331 (Iv ((j.n:Nat):Int)) (Iv ((j.n:Nat):Int)) R λV c1=>ai 1 (f.add 1) g c1 (xz Tryz.prog 69 (Iv ((j.n:Nat):Int)) (Iv ((j.n:Nat):Int)) c1 λW c2=>ai 1 (f.add 1) g c2 (aE c2 #[S_ b,S_ W,S_ V,IC H_ 0 0] 333 λj4 j5=>bN j5 H (IB (G_ j4)) λj6=>C H j6))))))) λh X=>aQ X h λj7=>en j7 X 1 λj9=>cz (S:=Unit) (λk0=>jD (S:=Int) (λk1 Y J=>an (L_ (Y<((j9.n:Nat):Int))) (aQ J h λk2=>en k2 J 1 λk4=>cN k4 Y 1 λk5=>bN J k5 (Iv 255) λk6=>k1 (aF B_ (Y+1)) k6) (k0 () J)) 0 X) λl5 t=>an (((j.n:Nat):Int)==0) (aQ t h λk7=>en k7 t 1 λk9=>k k9 t) (aQ t h λl0=>aJ B_ t (f.add 0) λl1=>jF l0 0 (oH B_ l1 255) t λ_u l2=>jD (S:=(Unit×List Nat)) (λl3 c3 o=>aQ o h λc4=>en c4 o 3 λc6=>an (((c6.n:Nat):Int)==0) (aQ o h λc7=>en c7 o 1 λc9=>I3 c3.2 o λd0=>k c9 d0) (aQ o h λd1=>en d1 o 3 λd3=>cN d3 0 1 λd4=>aJ B_ o d4 λv=>drew o λq=>aQ q h λd5=>aQ q h λd6=>en d6 q 3 λd8=>slL d8 1 1 λx=>v7 d5 q 3 (S_ x) λr=>aQ r h λe0=>en e0 r 1 λe2=>cN e2 v 1 λe3=>aJ B_ r e3 λe4=>aE r #[Iv 0] 3 λs e5=>bN e5 s (Iv e4) λy=>cy y (f.add 1) λe6=>cN e6 v 5 λe7=>bx 5 y e7 λZ=>aE y JN 75 λp e8=>dQ 5 e8 p Z λl=>cz (S:=Bool) (λz=>aJ B_ l (p.add 0) λe9=>an (e9==8) (aJ B_ l (p.add 1) λf0=>an (L_ (f0>=0)) (aJ B_ l (p.add 1) λf1=>z (L_ (f1<8)) l) (z K_ l)) (z K_ l)) λf2 L=>cz (S:=Unit) (λM=>an f2 (drew L λA=>aJ B_ A s λf3=>aJ B_ A (p.add 1) λf4=>HI B_ 1 f4 λf5=>bN A s (Iv (Ti B_ f3 f5)) λf6=>M () f6) (M () L)) λaHN N=>cy N (f.add 1) λf7=>oP f7 v N λf8 f9=>Cg I [(.i B_)] f8 f9 (fun(g0:Int) B g1=>aQ B h λg2=>aJ B_ B s λg3=>jF g2 g0 g3 B λ_u g4=>g1 g4) λasR g5=>l3 ((),(asR::c3.2)) g5)) ((),[]) l2)
def ad9(I:De)(jF:T41)(oP:anf)(x:KT [.ag])(w:N_)(k:KT [.s]->ap):Vg Tryz.prog (kC [(CG,(acn jF)),(Ht,(akZ oP))]) I 60886842892212147944375827038718 [(1,[]),(3,[(4,.a)]),(5,[]),(6,[(26,(.i B_))]),(24,[(95,.b)]),(25,[]),(29,[(105,(.i B_))])] f179 [.s] (dL [.ag] x) w k=K7 I jF oP x w k:=aZ
def pA:T94:=λuw w k=>K7 (Df [(rH,rL)]) jF oP uw w k
abbrev aea:bt:=ar4 pA
def aeb:uY Tryz.prog K4 aea:=
 I5 (mask:=60886842892212147944375827038718) (h:=[(1,[]),(3,[(4,.a)]),(5,[]),(6,[(26,(.i B_))]),(24,[(95,.b)]),(25,[]),(29,[(105,(.i B_))])]) mixed func179 (M3 (l:=[(CG,Vn),(Ht,aaJ)]) ⟨Vo,aaK,trivial⟩) (LJ (l:=[(rH,rL)]) ⟨Xg,trivial⟩)
 [.ag] [.s] aZ (λx w k=>pA x w k) (λx w k=>ad9 (Df [(rH,rL)]) jF oP x w k)
def xZ(jU:Vl):T9:=λc g w k=>en c w 1 λB=>cN B g 5 λC=>bx 5 w C λh=>aE w JN 75 λd D=>dQ 5 D d h λF=>cz (S:=Bool) (λe=>drew F λz=>aJ B_ z (d.add 0) λi=>jU i z λj a=>an j (aJ B_ a (d.add 4) λl=>en c a 1 λo=>an (L_ (l>=((o.n:Nat):Int))) (e J_ a) (aJ B_ a (d.add 0) λp=>an (p==8) (aJ B_ a (d.add 4) λq=>nn c λr=>cy a (aY (r.add 0) 0) λs=>(e (L_ (q>=((s.n:Nat):Int))) a)) (e K_ a))) (aJ B_ a (d.add 0) λt=>an (t==8) (aJ B_ a (d.add 4) λu=>nn c λv=>cy a (aY (v.add 0) 0) λx=>(e (L_ (u>=((x.n:Nat):Int))) a)) (e K_ a))) λy f=>an y (k 10 f) (k 0 f)
def Pb a:E [.p,.i B_] [.i B_] [(sE,A8 a)] 2199023255603 [(2,[(41,.b)])] f180=u_2 (xZ a):=aZ
def ij:=xZ jU
abbrev Fc:bt:=vN ij
def Pc:SS ov (vN ij):=so func180 (.c UM .z) (Pb jU)
def Bm(ju:Vl):T9:=λa b w k=>en a w 1 λi=>cN i b 5 λj=>aJ B_ w (j.add 0) λf=>cz (S:=Bool) (λg=>en a w 1 λm=>an ((b==(aF B_ (((m.n:Nat):Int) - 1)))&&(f !=6)) (ju f w λo p=>g (!o) p) (g K_ w)) λe c=>an e (k 11 c) (k 0 c)
def Tt a:E [.p,.i B_] [.i B_] [(sF,A8 a)] 1073741875 [(2,[(30,.b)])] f181=u_2 (Bm a):=aZ
def jK:=Bm ju
abbrev H8:bt:=vN jK
def Tu:SS qj (vN jK):=so func181 (.c UN .z) (Tt ju)
def ik:T9:=λh l w k=>drew w λb=>nn h λD=>cy b (D.add 1) λG=>cN G l 5 λF=>bx 5 b F λq=>nn h λr=>cy b (r.add 2) λH=>cN H l 1 λs=>aJ B_ b s λt=>aE b JN 75 λj c=>ai 1 s b c (ai 1 (r.add 2) b c (ai 5 F b c (ai 1 (D.add 1) b c (dQ 5 c j q λd=>ai 1 s b d (ai 1 (r.add 2) b d (aJ B_ d (j.add 0) λa=>cz (S:=Bool) (λm=>an (a==12) (m (a==12) d) (m (a==13) d)) λu e=>cz (S:=Bool) (λf=>an u (f (L_ (t>=1)) e) (an (a==16) (f (t==0) e) (cz (S:=Bool) (λn=>an (a==6) (n (a==6) e) (n (a==7) e)) λv o=>an v (drew o λg=>en h g 2 λy=>aJ B_ g (j.add 4) λz=>cN y z 1 λA=>aJ B_ g A λB=>f (B==t) g) (f J_ o)))) λC p=>an (!C) (k 15 p) (k 0 p)))))))
abbrev Fe:bt:=vN ik
def Pd:SS ow (vN ik):=sl 140746640326899 [(6,[(24,.b)]),(8,[(7,.b)]),(14,[(33,.b)])] func182
def gD:T9:=λd f w k=>en d w 1 λB=>cN B f 5 λC=>bx 5 w C λi=>aE w JN 75 λg D=>dQ 5 D g i λe=>aJ B_ e (g.add 0) λj=>cz (S:=Int) (λh=>an (j==9) (aJ B_ e (g.add 2) λl=>HI B_ 1 l λm=>h m e) (an (j==10) (aJ B_ e (g.add 3) λn=>HI B_ 1 n λo=>h o e) (an (j==8) (drew e λb=>nn d λp=>cy b (aY (p.add 0) 0) λq=>aJ B_ b (g.add 4) λr=>cN q r 2 λs=>aJ B_ b (s.add 0) λt=>h t b) (h 0 e)))) λu c=>en d c 3 λx=>cN x f 1 λy=>aJ B_ c y λz=>an ((tU B_ u z) !=0) (k 16 c) (k 0 c)
abbrev D7:bt:=vN gD
def Nm:SS nS (vN gD):=sl 140737557659763 [(6,[(6,(.i B_))])] func183
def Ea(V:T93)(W:T94)(ij:T9)(jK:T9)(ik:T9)(gD:T9):T49:=λG p w k=>aE w G 24 λD X=>aE X To 136 λF H=>cy H (D.add 0) λY=>cN Y p 2 λZ=>bx 2 H Z λI=>aE H #[Iv 0,IC H_ 0 0] 78 λg w9=>dQ 2 w9 g I λJ=>drew J λb=>bx 1 b D λq=>cy b (g.add 1) λh=>cy b (g.add 1) λL=>bx 2 b g λr=>V L b λi e=>ai 2 g b e (ai 1 (g.add 1) b e (ai 1 D b e (W r e λj l=>ai 1 (g.add 1) b l (ai 1 D b l (kT #[IC H_ 0 0,IC H_ 0 0,IC H_ 0 0,IC H_ 0 0] 0 1 q λs=>aE l (eS (eS (eS s 1 (S_ h)) 2 (S_ i)) 3 (S_ j)) 295 λd M=>rZ (.func (F_ ov) #[IB (G_ d)] #[]) (rZ (.func (F_ qj) #[IB (G_ d)] #[]) (rZ (.func (F_ ow) #[IB (G_ d)] #[]) (rZ (.func (F_ nS) #[IB (G_ d)] #[]) (aE M #[(.func (F_ ov) #[IB (G_ d)] #[]),(.func (F_ qj) #[IB (G_ d)] #[]),(.func (F_ ow) #[IB (G_ d)] #[]),(.func (F_ nS) #[IB (G_ d)] #[])] 132 λN t=>cy t (g.add 1) λO=>jD (S:=Int) (λP f u=>an (L_ (f<((O.n:Nat):Int))) (jD (S:=Int) (λQ m o=>an (L_ (m<((4:Nat):Int))) (cN (Sl.mk (G_ N) 4 4) m 1 λR=>tH o R λT=>nj (kC [(Hs,(ar3 V)),(K4,(ar4 W)),(ov,(vN ij)),(qj,(vN jK)),(ow,(vN ik)),(nS,(vN gD))]) T #[Iv f] o λU v=>xS B_ U λy=>an (y !=0) (dQ 3 v F #[Iv p,Iv f,Iv y] λz=>bx 3 z F λA=>k A z) (Q (aF B_ (m+1)) v)) (P (aF B_ (f+1)) o)) 0 u) (dQ 3 u F To λB=>bx 3 B F λC=>k C B)) 0 t)))))))))
def Xh a b c d e f:E [.ag,.i B_] [.ag] [(Hs,ar3 a),(K4,ar4 b),(ov,vN c),(qj,vN d),(ow,vN e),(nS,vN f)] 4571494470389238 [(6,[(39,(.i B_))]),(13,[(44,(.i B_))])] f123=u_2 (Ea a b c d e f):=aZ
def nG:=Ea oO pA ij jK ik gD
def Xi:SS Kq (acr nG):=so func123 (.c aaI (.c aeb (.c Pc (.c Tu (.c Pd (.c Nm .z)))))) (Xh oO pA ij jK ik gD)
def FF(qU:asI)(nG:T49):W9:=λL w k=>aE w L 24 λj w2=>aE w2 To 136 λc J=>cz (S:=Bool) (λJ5=>cy J (j.add 0) λs6=>an (L_ (((s6.n:Nat):Int)<1)) (J5 J_ J) (cy J (j.add 0) λs7=>(J5 (L_ (((s7.n:Nat):Int)>32)) J))) λb8 M=>an b8 (dQ 3 M c #[(Iv (-1)),(Iv (-1)),Iv 12] λl=>bx 3 l c λm=>k m l) (cy M (j.add 0) λo=>cz (S:=Unit) (λN=>jD (S:=Int) (λO d f=>an (L_ (d<((o.n:Nat):Int))) (cN o d 2 λP=>bx 2 f P λp=>aE f #[Iv 0,IC H_ 0 0] 78 λq Q=>dQ 2 Q q p λr=>bx 2 r q λs=>qU s r λa t=>an ((a.1,a.2).2 !=0) (dQ 3 t c #[Iv d,(Iv (a.1,a.2).1),(Iv (a.1,a.2).2)] λu=>bx 3 u c λv=>k v u) (O (aF B_ (d+1)) t)) (N () f)) 0 M) λa7 b=>cy b (j.add 0) λR=>cN R 0 2 λT=>aJ B_ b (T.add 0) λU=>an (U !=0) (dQ 3 b c #[Iv 0,(Iv (-1)),Iv 16] λy=>bx 3 y c λz=>k z y) (cy b (j.add 0) λV=>jD (S:=Int) (λW g h=>an (L_ (g<((V.n:Nat):Int))) (bx 1 h j λA=>nG A g h λB X=>aE X To 136 λi Y=>dQ 3 Y i B λe=>bx 3 e i λC=>Tj ([(0,0)] ++([(1,0)] ++([(2,0)] ++[]))) C To λZ=>an (!Z) (bx 3 e i λD=>dQ 3 e c D λF=>bx 3 F c λG=>k G F) (W (aF B_ (g+1)) e)) (dQ 3 h c To λH=>bx 3 H c λI=>k I H)) 0 b))
def YE a c:E [.ag] [.ag] [(Q0,asJ a),(Kq,acr c)] 292206227409338878 [(1,[(18,.b)]),(5,[]),(6,[(23,(.i B_))]),(21,[(50,(.i B_))])] f74=FF a c:=aZ
def oQ:=FF qU nG
def YF:SS LO (Kx oQ):=so func74 (.c acv (.c Xi .z)) (YE qU nG)
def FG(oQ:W9):T2:=λa w k=>aE w a 24 λe d=>bx 1 d e λb=>oQ b d λc f=>Tj ([(0,0)] ++([(1,0)] ++([(2,0)] ++[]))) c To λg=>k g f
def YG a:E [.ag] [.b] [(LO,Kx a)] 6 [] f37=FG a:=aZ
def gM:=FG oQ
def LV:SS AW (Jj gM):=so func37 (.c YF .z) (YG oQ)
def ja:asw:=λa aDA aDB w k=>k ((L_ (a>=aDA))&&(L_ (a<=aDB))) w
def Xj:SS Km (asx ja):=sl 71 [] func108
def Hw(ja:asw):T2:=λLU w k=>aE w LU 43 λb r=>aJ B_ r (b.add 0) λs=>ja s 1 16 r λt f=>an t (aJ B_ f (b.add 1) λu=>aJ B_ f (b.add 0) λv=>ja u 0 (aF B_ (16 - v)) f λx g=>an x (aJ B_ g (b.add 2) λh=>ja h 1 1048576 g λi c=>an i (aJ B_ c (b.add 3) λj=>ja j 0 1048576 c λl d=>an l (aJ B_ d (b.add 4) λm=>ja m 1 1000 d λn e=>an n (aJ B_ e (b.add 5) λo=>ja o 0 8 e λp q=>k p q) (k K_ e)) (k K_ d)) (k K_ c)) (k K_ g)) (k K_ f)
def aaL a:E [.ag] [.b] [(Km,asx a)] 14 [] f65=Hw a:=aZ
def oS:=Hw ja
def aaM:SS Hr (Jj oS):=so func65 (.c Xj .z) (aaL ja)
def sW:T82:=λagE ux w k=>an ((((L_ (agE<1))||(decide (agE>1048576)))||(decide (ux<1)))||(decide (ux>16))) (k (none,10) w) (xz Tryz.prog 69 (Iv (aF B_ (ux+1))) (Iv (aF B_ (ux+1))) w λs1 d=>aE d #[IC H_ 0 0,Iv agE,S_ s1] 206 λe f=>k ((G_ e),0) f)
def agF:SS Ni (ar0 sW):=sl 524339 [] func66
def vj(w:N_)(k:(Option P_)->ap):Prop:= aE w #[IC H_ 0 0] 190 λa b=>k (G_ a) b
def ak1:SS Vj (YC vj):=sl 1 [] func67
def ob(w:N_)(k:(Option P_)->ap):Prop:= mkMap Tryz.prog 207 H_ w λp1 a=>aE a #[Iv 0,IC H_ 0 0,(.map p1)] 211 λb c=>k (G_ b) c
def agG:SS Nj (YC ob):=sl 1 [] func68
def ng(w:N_)(k:(Option P_)->ap):Prop:= aE w #[IC H_ 0 0] 184 λa b=>k (G_ a) b
def aiv:SS QZ (YC ng):=sl 1 [] func69
def cU:T1:=λb a w k=>an (L_ (a>=0)) (en b w 2 λd=>(k (L_ (a<((d.n:Nat):Int))) w)) (k K_ w)
def Dg:SS rG (qu cU):=sl 19 [] func133
def c8:T1:=λa aiw w k=>an (L_ (aiw>=0)) (en a w 0 λc=>(k (L_ (aiw<((c.n:Nat):Int))) w)) (k K_ w)
abbrev Eb:bt:=qu c8
def Ec:SS jk (qu c8):=sl 19 [] func156
def sG:Vl:=λa w k=>k (L_ (a>=1)) w
abbrev UO:bt:=A8 sG
def aec:SS BY (A8 sG):=sl 5 [] func210
def wm(g:T1)(n:T1)(sG:Vl):T45:=λa b c asT w k=>cz (S:=Bool) (λd=>g a b w λh e=>an (!h) (d J_ e) (nj (kC [(rG,(qu g)),(jk,(qu n)),(BY,(A8 sG))]) asT #[Iv c] e λi j=>Ir i λl=>d (!l) j)) λm f=>an m (k 10 f) (k 0 f)
def Nn a c d:E [.p,.i B_,.i B_,.raw] [.i B_] [(rG,qu a),(jk,qu c),(BY,A8 d)] 262415 [(1,[(18,.b)])] f209=u_4 (wm a c d):=aZ
def aN:=wm cU c8 sG
def nV:SS jm (acq aN):=so func209 (.c Dg (.c Ec (.c aec .z))) (Nn cU c8 sG)
def wo(C:T45):Hv:=λb d e w k=>an (eA b) (k (0,2) w) (C b d e (.func (F_ BY) #[] #[]) w λu f=>an (u !=0) (k (0,u) f) (en b f 0 λl=>qJ7 b B_ f 1 λz=>an (L_ (e>(aF B_ (z - ((l.n:Nat):Int))))) (k (0,21) f) (en b f 2 λv=>cN v d 1 λB=>aJ B_ f B λm=>cN v d 1 λo=>bN f o (Iv (aF B_ (m+1))) λj=>en b j 0 λq=>aqT q 1 0 ((l.n:Nat):Int) ((l.n:Nat):Int) λh=>og Tryz.prog #[156,3] 156 [S_ h,Iv e] j λi r=>v7 b r 0 (S_ i) λt=>k (((l.n:Nat):Int),0) t)))
def No a:E [.p,.i B_,.i B_] [.i B_,.i B_] [(jm,acq a)] 2147617735 [] f159=u_3 (wo a):=aZ
def ay:=wo aN
def kw:SS jl (zb ay):=so func159 (.c nV .z) (No aN)
def Np(ay:Hv):T65:=λc e w k=>aE w #[Iv 0] 99 λa h=>an (eA c) (dQ 1 h a #[Iv 0] λi=>bx 1 i a λf=>k (f,2) i) (ay c e 1 h λb j=>an ((b.1,b.2).2 !=0) (dQ 1 j a #[Iv 0] λl=>bx 1 l a λg=>k (g,(b.1,b.2).2) l) (dQ 1 j a #[(Iv (b.1,b.2).1)] λm=>bx 1 m a λd=>k (d,0) m))
def agH a:E [.p,.i B_] [.ag,.i B_] [(jl,zb a)] 262899 [] f109=u_2 (Np a):=aZ
def uy:=Np ay
def agJ:SS W2 (ae3 uy):=so func109 (.c kw .z) (agH ay)
def Q2(ay:Hv):T65:=λc e w k=>aE w #[Iv 0] 100 λa h=>an (eA c) (dQ 1 h a #[Iv 0] λi=>bx 1 i a λf=>k (f,2) i) (ay c e 1 h λb j=>an ((b.1,b.2).2 !=0) (dQ 1 j a #[Iv 0] λl=>bx 1 l a λg=>k (g,(b.1,b.2).2) l) (dQ 1 j a #[(Iv (b.1,b.2).1)] λm=>bx 1 m a λd=>k (d,0) m))
def aix a:E [.p,.i B_] [.ag,.i B_] [(jl,zb a)] 262899 [] f110=u_2 (Q2 a):=aZ
def xN:=Q2 ay
def aiy:SS Z9 (ae3 xN):=so func110 (.c kw .z) (aix ay)
def Nq(ay:Hv):T70:=λb c w k=>an (eA b) (k (H_,2) w) (ay b c 2 w λa e=>an ((a.1,a.2).2 !=0) (k (H_,(a.1,a.2).2) e) (kT To 0 3 #[(Iv (-1)),Iv 0,(Iv (a.1,a.2).1)] λd=>aE e d 232 λf g=>aE g #[(IC (G_ f) 1 1)] 235 λh i=>k ((G_ h),0) i))
def agK a:E [.p,.i B_] [.p,.i B_] [(jl,zb a)] 131827 [] f111=u_2 (Nq a):=aZ
def uz:=Nq ay
def agL:SS W3 (am6 uz):=so func111 (.c kw .z) (agK ay)
def cf:T2:=λd w k=>aE w d 102 λc b=>aJ B_ b (c.add 1) λe=>an (L_ (e>=1)) (aJ B_ b (c.add 1) λf=>an (L_ (f<=16)) (aJ B_ b (c.add 2) λg=>an (L_ (g>=0)) (aJ B_ b (c.add 2) λh=>aJ B_ b (c.add 1) λi=>(k (L_ (h<=(aF B_ (16 - i)))) b)) (k K_ b)) (k K_ b)) (k K_ b)
def ya:SS qB (Jj cf):=sl 6 [] func160
def Nr(y:T2)(ay:Hv):T85:=λc p axt Xk w k=>aE w To 102 λb u=>aE u To 102 λo v=>dQ 3 v o #[Iv 0,Iv axt,Iv Xk] λq=>an (eA c) (dQ 3 q b To λt=>bx 3 t b λr=>k (r,2) t) (bx 3 q o λs=>y s q λx d=>an (!x) (dQ 3 d b To λe=>bx 3 e b λf=>k (f,10) e) (ay c p 2 d λa g=>an ((a.1,a.2).2 !=0) (dQ 3 g b To λh=>bx 3 h b λi=>k (i,(a.1,a.2).2) h) (bN g (o.add 0) (Iv (a.1,a.2).1) λj=>bx 3 j o λl=>dQ 3 j b l λm=>bx 3 m b λn=>k (n,0) m)))
def agM a b:E [.p,.i B_,.i B_,.i B_] [.ag,.i B_] [(qB,Jj a),(jl,zb b)] 4296089359 [] f112=u_4 (Nr a b):=aZ
def uA:=Nr cf ay
def agN:SS W4 (anb uA):=so func112 (.c ya (.c kw .z)) (agM cf ay)
def vl(F:T65)(G:T65)(H:T70)(I:T85):T9:=λa sM w k=>u7 a w 7 λp2=>F p2 sM w λf B=>nn a λC=>dQ 1 B (C.add 12) (f.1,f.2).1 λi=>an ((f.1,f.2).2 !=0) (k (f.1,f.2).2 i) (u7 a i 7 λp8=>G p8 sM i λg j=>nn a λl=>dQ 1 j (l.add 13) (g.1,g.2).1 λe=>an ((g.1,g.2).2 !=0) (k (g.1,g.2).2 e) (u7 a e 7 λp14=>H p14 sM e λb n=>v7 a n 9 (IB (b.1,b.2).1) λh=>an ((b.1,b.2).2 !=0) (k (b.1,b.2).2 h) (drew h λc=>u7 a c 7 λq=>nn a λr=>aJ B_ c (aY (r.add 1) 0) λt=>nn a λu=>aJ B_ c (aY (u.add 1) 1) λv=>I q sM t v c λd x=>nn a λy=>dQ 3 x (y.add 14) (d.1,d.2).1 λz=>k (d.1,d.2).2 z)))
def LX a b c d:E [.p,.i B_] [.i B_] [(W2,ae3 a),(Z9,ae3 b),(W3,am6 c),(W4,anb d)] 281483566907411 [] f70=u_2 (vl a b c d):=aZ
def fC:=vl uy xN uz uA
abbrev Dh:bt:=vN fC
def LY:SS m9 (vN fC):=so func70 (.c agJ (.c aiy (.c agL (.c agN .z)))) (LX uy xN uz uA)
def bS:T7:=λa w k=>aE w a 144 λd c=>aJ B_ c (d.add 0) λe=>k (aF B_ (e+2)) c
def uS:SS r5 (xY bS):=sl 6 [] func128
def bE:T2:=λd w k=>aE w d 241 λc e=>drew e λb=>aJ B_ b (c.add 1) λf=>an (L_ (f>=0)) (aJ B_ b (c.add 1) λg=>an (L_ (g<=8)) (aJ B_ b (c.add 0) λh=>an (L_ (h>=0)) (aJ B_ b (c.add 0) λi=>aJ B_ b (c.add 1) λj=>HI B_ 1 j λl=>(k (L_ (i<=(aF B_ (1048576 - l)))) b)) (k K_ b)) (k K_ b)) (k K_ b)
def sX:SS qO (Jj bE):=sl 6 [] func186
def Ed(j:T2):T7:=λc w k=>aE w c 241 λd f=>bx 2 f d λe=>j e f λg b=>an (!g) (k (-1) b) (aJ B_ b (d.add 0) λh=>aJ B_ b (d.add 1) λi=>k (Ti B_ (sD B_ h 4) i) b)
def Xl a:E [.ag] [.i B_] [(qO,Jj a)] 38 [] f162=Ed a:=aZ
def fD:=Ed bE
def KA:SS DW (xY fD):=so func162 (.c sX .z) (Xl bE)
def wq(r:T45):T43:=λa b LZ d w k=>an (eA a) (k 2 w) (r a b LZ (.func (F_ jk) #[IB a] #[]) w λi c=>an (i !=0) (k i c) (en a c 2 λj=>cN j b 1 λn=>aJ B_ c n λo=>cN j b 1 λp=>bN c p (Iv (aF B_ (o+1))) λl=>en a l 0 λf=>cN f LZ 1 λg=>bN l g (Iv d) λh=>k 0 h))
def Ns a:E [.p,.i B_,.i B_,.i B_] [.i B_] [(jm,acq a)] 527119 [] f161=u_4 (wq a):=aZ
def aK:=wq aN
def nW:SS lQ (acp aK):=so func161 (.c nV .z) (Ns aN)
def Nt(ay:Hv)(bS:T7)(fD:T7)(aK:T43):T85:=λd h Nu Xk w k=>aE w #[Iv 0,Iv 0] 144 λa v=>an (eA d) (dQ 2 v a #[Iv 0,Iv 0] λH=>bx 2 H a λx=>k (x,2) H) (an (((L_ (Nu<0))||(decide (Xk<Nu)))||(decide (Xk>8))) (dQ 2 v a #[Iv 0,Iv 0] λI=>bx 2 I a λy=>k (y,10) I) (HI B_ 1 Nu λL=>ay d h (aF B_ (3+L)) v λc J=>an ((c.1,c.2).2 !=0) (dQ 2 J a #[Iv 0,Iv 0] λj=>bx 2 j a λl=>k (l,(c.1,c.2).2) j) (aE J #[Iv 0,Iv 0] 144 λe z=>dQ 2 z e #[(Iv (c.1,c.2).1),Iv Xk] λA=>aE A #[Iv 0,Iv 0] 241 λf B=>dQ 2 B f #[(Iv (aF B_ ((c.1,c.2).1+3))),Iv Nu] λC=>drew C λb=>bx 2 b e λm=>bx 2 b f λn=>bS m b λD o=>ai 2 f b o (fD n o λF G=>aK d h D F G λp g=>an (p !=0) (dQ 2 g a #[Iv 0,Iv 0] λq=>bx 2 q a λr=>k (r,p) q) (bx 2 g e λs=>dQ 2 g a s λt=>bx 2 t a λu=>k (u,0) t)))))
def agO a b c d:E [.p,.i B_,.i B_,.i B_] [.ag,.i B_] [(jl,zb a),(r5,xY b),(DW,xY c),(lQ,acp d)] 1152925902653947663 [] f113=u_4 (Nt a b c d):=aZ
def sY:=Nt ay bS fD aK
def agP:SS W5 (anb sY):=so func113 (.c kw (.c uS (.c KA (.c nW .z)))) (agO ay bS fD aK)
def lp:W7:=λa w k=>aE w a 99 λe d=>bx 1 d e λb=>kT To 0 1 b λc=>aE d c 238 λf g=>k (G_ f) g
def Tv:SS HS (HZ lp):=sl 6 [] func114
def tM(X:T85)(lp:W7):T9:=λb sM w k=>jD (S:=Int) (λY B U=>an (L_ (B<sM)) (cz (S:=(P_×Int)) (λV=>drew U λd=>nn b λC=>aQ d (C.add 7) λp7=>nn b λD=>aJ B_ d (aY (D.add 1) 5) λW=>nn b λl=>aJ B_ d (aY (l.add 1) 5) λr=>both (X p7 sM (Wg 2 W) r d λe F=>aE F #[Iv 0,Iv 0] 144 λs f=>ai 1 (aY (l.add 1) 5) d f (ai 1 (aY (D.add 1) 5) d f (ai 1 (C.add 7) d f (dQ 2 f s (e.1,e.2).1 λG=>V (s,(e.1,e.2).2) G)))) (aE d #[Iv 0,Iv 0] 144 λt g=>ai 1 (aY (l.add 1) 5) d g (ai 1 (aY (D.add 1) 5) d g (ai 1 (C.add 7) d g (X p7 sM (Wg 2 W) r g λh H=>dQ 2 H t (h.1,h.2).1 λI=>V (t,(h.1,h.2).2) I))))) λi u=>an (i.2 !=0) (k i.2 u) (drew u λj=>bx 2 j i.1 λv=>qA7 b 1 j 12 λx=>lp x j λL y=>ai 2 i.1 j y (kT #[IB b,Iv B,Iv 0,Iv 0,IB H_,IC H_ 0 0,IC H_ 0 0,C_,IB H_,C_,IB H_,C_,IB H_,IC H_ 0 0,Iq K_,C_,C_,C_,Iv 0,C_,IB H_,Iv 0,Iq K_,Iq K_,C_,C_,Iv 0,C_,Iv 0,C_,Iv 0,C_] 2 2 v λz=>aE y (eS z 4 (IB L)) 154 λm M=>bN M (m.add 7) (.func (F_ gB) #[IB (G_ m)] #[]) λA=>en b A 19 λo=>aE A #[IB (G_ m)] 141 λO P=>og Tryz.prog #[105,105] 105 [S_ o,(IC (G_ O) 1 1)] P λp Q=>v7 b Q 19 (S_ p) λT=>Y (aF B_ (B+1)) T))) (k 0 U)) 0 w
def JO b c:E [.p,.i B_] [.i B_] [(W5,anb b),(HS,HZ c)] 17179873267 [(3,[(10,(.i B_))]),(8,[(6,.a),(7,(.i B_))])] f71=u_2 (tM b c):=aZ
def eC:=tM sY lp
abbrev A9:bt:=vN eC
def JP:SS lO (vN eC):=so func71 (.c agP (.c Tv .z)) (JO sY lp)
def dk:T35:=λa b w k=>jD (S:=Int) (λi e c=>an (L_ (e<((b.n:Nat):Int))) (cN b e 1 λj=>aJ B_ c j λg=>cz (S:=Bool) (λh=>an ((eA a)||(decide (g<0))) (h true c) (en a c 0 λm=>(h (L_ (g>=((m.n:Nat):Int))) c))) λo d=>an o (k K_ d) (i (aF B_ (e+1)) d)) (k J_ c)) 0 w
def Ee:SS y9 (UL dk):=sl 134219731 [(3,[(9,(.i B_))]),(8,[(27,.b)])] func184
def Ef(h:T35):T6:=λa b c w k=>an ((eA a)||(eA b)) (k 2 w) (aE w #[Iv c] 3 λe f=>h a (Sl.mk (G_ e) 1 1) f λg d=>an (!g) (k 17 d) (k 0 d))
def Xm a:E [.p,.p,.i B_] [.i B_] [(y9,UL a)] 16583 [] f124=u_3 (Ef a):=aZ
def bh:=Ef dk
def pW:SS ol (ry bh):=so func124 (.c Ee .z) (Xm dk)
def CJ(C:T6)(ay:Hv):T51:=λb h m YH w k=>C b h YH w λv i=>an (v !=0) (k (0,v) i) (en b i 0 λz=>cN z YH 3 λA=>aJ B_ i (A.add 1) λx=>an (L_ ((aF B_ (x+1))>32)) (k (0,23) i) (ay h m 2 i λg o=>an ((g.1,g.2).2 !=0) (k (0,(g.1,g.2).2) o) (en b o 0 λe=>kT To 0 3 #[Iv YH,(Iv (aF B_ (x+1))),(Iv (g.1,g.2).1)] λj=>aE o j 232 λp q=>og Tryz.prog #[233,233] 233 [S_ e,(IC (G_ p) 1 1)] q λf r=>v7 b r 0 (S_ f) λl=>en b l 0 λu=>(k ((aF B_ (((u.n:Nat):Int) - 1)),0) l))))
def Vp a b:E [.p,.p,.i B_,.i B_] [.i B_,.i B_] [(ol,ry a),(jl,zb b)] 551903837967 [] f116=u_4 (CJ a b):=aZ
def cY:=CJ bh ay
def CL:SS vY (ae1 cY):=so func116 (.c pW (.c kw .z)) (Vp bh ay)
def lN(w:N_)(k:(Array M_)->ap):Prop:= aE w D4 119 λf h=>aE h D4 119 λg i=>jD (S:=Int) (λj d e=>an (L_ (d<8)) (Hf (g.add 10) 8 d 1 λl=>bN e l (Iv (-1)) λm=>j (aF B_ (d+1)) m) (bx 19 e g λa=>dQ 19 e f a λb=>bx 19 b f λc=>k c b)) 0 i
def UP:SS K3 (ak0 lN):=sl 31 [(4,[(3,(.i B_))])] func91
def K8(ay:Hv):T65:=λc e w k=>aE w #[Iv 0] 116 λa h=>an (eA c) (dQ 1 h a #[Iv 0] λi=>bx 1 i a λf=>k (f,2) i) (ay c e 3 h λb j=>an ((b.1,b.2).2 !=0) (dQ 1 j a #[Iv 0] λl=>bx 1 l a λg=>k (g,(b.1,b.2).2) l) (dQ 1 j a #[(Iv (b.1,b.2).1)] λm=>bx 1 m a λd=>k (d,0) m))
def aed a:E [.p,.i B_] [.ag,.i B_] [(jl,zb a)] 262899 [] f173=u_2 (K8 a):=aZ
def sH:=K8 ay
def aee:SS UH (ae3 sH):=so func173 (.c kw .z) (aed ay)
def dG:T35:=λa b w k=>jD (S:=Int) (λi e c=>an (L_ (e<((b.n:Nat):Int))) (cN b e 1 λj=>aJ B_ c j λg=>cz (S:=Bool) (λh=>an ((eA a)||(decide (g<0))) (h true c) (en a c 0 λm=>(h (L_ (g>=((m.n:Nat):Int))) c))) λo d=>an o (k K_ d) (i (aF B_ (e+1)) d)) (k J_ c)) 0 w
abbrev aaN:bt:=UL dG
def Hx:SS tS (UL dG):=sl 134219731 [(3,[(9,(.i B_))]),(8,[(27,.b)])] func101
def Hy(Z:T35):asA:=λb IL w k=>an (eA b) (k (0,2) w) (cz (S:=Bool) (λP=>an (IL !=(-1)) (aE w #[Iv IL] 3 λR T=>Z b (Sl.mk (G_ R) 1 1) T λU V=>P (!U) V) (P K_ w)) λW v=>an W (k (0,17) v) (cz (S:=Bool) (λQ=>an (IL==(-1)) (en b v 0 λx=>(Q (L_ (((x.n:Nat):Int)>0)) v)) (Q K_ v)) λy f=>an y (k (0,18) f) (en b f 0 λo=>aE f #[Iv 0,Iv 0,IC H_ 0 0] 187 λg A=>dQ 3 A g #[Iv IL,Iv 0,IC H_ 0 0] λd=>cz (S:=Unit) (λp=>an (IL !=(-1)) (en b d 0 λC=>cN C IL 3 λh=>cy d (h.add 2) λD=>bN d (g.add 1) (Iv ((D.n:Nat):Int)) λq=>cy q (h.add 2) λi=>aE q #[(Iv ((o.n:Nat):Int))] 3 λF G=>og Tryz.prog #[69,69] 69 [S_ i,(IC (G_ F) 1 1)] G λj H=>bN H (h.add 2) (S_ j) λI=>p () I) (p () d)) λY J=>drew J λe=>nn b λr=>cy e (r.add 0) λl=>bx 3 e g λs=>kT #[Iv 0,Iv 0,IC H_ 0 0] 0 3 s λt=>aE e t 187 λL u=>ai 1 (r.add 0) e u (og Tryz.prog #[188,188] 188 [S_ l,(IC (G_ L) 1 1)] u λm M=>v7 b M 0 (S_ m) λO=>k (((o.n:Nat):Int),0) O))))
def aaO a:E [.p,.i B_] [.i B_,.i B_] [(tS,UL a)] 2199027454963 [(5,[(12,.b)]),(8,[(22,.b)]),(14,[])] f174=u_2 (Hy a):=aZ
def pP:=Hy dG
def aaP:SS OX (asB pP):=so func174 (.c Hx .z) (aaO dG)
def CM(Q:T65)(pP:asA):T76:=λe u aoV aDC ak3 v w k=>aE w v 119 λL M=>u7 e M 7 λp4=>Q p4 u M λj O=>aE O #[Iv 0] 116 λx P=>dQ 1 P x (j.1,j.2).1 λy=>an ((j.1,j.2).2 !=0) (k (j.1,j.2).2 y) (u7 e y 8 λp11=>pP p11 aoV y λd l=>an ((d.1,d.2).2 !=0) (k (d.1,d.2).2 l) (drew l λb=>nn e λf=>cy b (f.add 11) λh=>bx 1 b x λm=>bx 19 b L λo=>aE b #[Iv ak3] 3 λA g=>ai 19 L b g (ai 1 x b g (ai 1 (f.add 11) b g (kT #[(Iv (d.1,d.2).1),Iv aDC,Iv ak3,Iv 0,Iv 0,Iv 0,Iv 0,Iv 0,Iv 0,Iv 0,Iv 0,Iv 0,Iv 0,Iv 0,Iv 0,Iv 0,Iv 0,Iv 0,Iv 0,Iv 0,Iv 0,Iv 0,Iv 0,(.string (ByteArray.mk #[])),IC H_ 0 0,IC H_ 0 0,Iv 0,Iv 0] 3 1 m λp=>kT p 4 19 o λq=>ai 1 (f.add 11) b g (aE g (eS q 25 (IC (G_ A) 1 1)) 122 λB r=>ai 1 (f.add 11) b r (aE r #[IB (G_ B)] 114 λC s=>ai 1 (f.add 11) b s (og Tryz.prog #[97,97] 97 [S_ h,(IC (G_ C) 1 1)] s λi D=>v7 e D 11 (S_ i) λt=>en e t 10 λH=>cN H ak3 4 λI=>dQ 4 t I #[(Iv (d.1,d.2).1),Iv 0,Iv 0,Iq K_] λJ=>k 0 J))))))))
def Vq a b:E [.p,.i B_,.i B_,.i B_,.i B_,.ag] [.i B_] [(UH,ae3 a),(OX,asB b)] 274945079327 [] f117=u_6 (CM a b):=aZ
def fe:=CM sH pP
def Jn:SS CF (arW fe):=so func117 (.c aee (.c aaP .z)) (Vq sH pP)
def ue:T52:=λf g h w k=>drew w λb=>aQ b f λp2=>en p2 b 0 λd=>aJ B_ b g λe=>cN d e 1 λj=>aJ B_ b j λl=>aJ B_ b h λm=>cN d e 1 λn=>bN b n (Iv (aF B_ (l+m))) λc=>k () c
def rf(C:T45)(R:P_->P_->P_->N_->(ap)->Prop)(Q:P_->P_->P_->M_->N_->(ap)->Prop)(i:Option P_)(d:Int)(LZ:Int)(asU:Int)(w:N_)(k:(Int×Int)->ap):Prop:= aE w #[IB i] 93 λe y=>aE y #[Iv LZ] 3 λj z=>aE z #[Iv asU] 2 λA f=>aQ f e λp7=>an (eA p7) (k (0,2) f) (aQ f e λp8=>aJ B_ f j λB=>aQ f e λp10=>C p8 d B (.func (F_ jk) #[IB p10] #[]) f λg a=>an (g !=0) (k (0,g) a) (aQ a e λp13=>en p13 a 2 λh=>cN h d 1 λm=>aJ B_ a m λn=>cN h d 1 λo=>bN a o (Iv (aF B_ (n+1))) λp=>drew p λb=>aQ b e λq=>en q b 0 λs=>aJ B_ b j λt=>cN s t 1 λu=>aJ B_ b u λv=>R e j A b λx=>k (v,0) x))
def Q3(aN:T45)(R:P_->P_->P_->N_->(ap)->Prop)(Q:P_->P_->P_->M_->N_->(ap)->Prop)(x:KT [.p,(.i B_),(.i B_),(.i B_)])(w:N_)(k:KT [(.i B_),(.i B_)]->ap):akm Tryz.prog (kC [(jm,(acq aN))]) (λq=>arh [(jm,(λargs w c _=>qW [.p,(.i B_),(.i B_),.raw] args λx=>aN x.1 x.2.1 x.2.2.1 x.2.2.2 w λr w=>c (e9 (dL [(.i B_)] r)) w))] q) (λl w k=>qW [.a,.a,.a] l λx=>R x.1 x.2.1 x.2.2 w k) (λl v w k=>qW [.a,.a,.a] l λx=>Q x.1 x.2.1 x.2.2 v w k) 549755813887 (aC3 f175) (xD f175) (xG f175) (aAC f175) (aAB f175) f175 [(.i B_),(.i B_)] (dL [.p,(.i B_),(.i B_),(.i B_)] x) w k=rf aN R Q x.1 x.2.1 x.2.2.1 x.2.2.2 w k:=aZ
def Nv(aN:T45)(R:P_->P_->P_->N_->(ap)->Prop)(Q:P_->P_->P_->M_->N_->(ap)->Prop)(b:FB Tryz.prog [(jm,(acq aN))])(hpost:M4 Tryz.prog [(jm,(λargs w c _=>qW [.p,(.i B_),(.i B_),.raw] args λx=>aN x.1 x.2.1 x.2.2.1 x.2.2.2 w λr w=>c (e9 (dL [(.i B_)] r)) w))])(d:DR Tryz.prog we λl w k=>qW [.a,.a,.a] l λx=>R x.1 x.2.1 x.2.2 w k)(e:DP Tryz.prog we λl v w k=>qW [.a,.a,.a] l λx=>Q x.1 x.2.1 x.2.2 v w k):uY Tryz.prog ko λargs w c=>qW [.p,(.i B_),(.i B_),(.i B_)] args λx=>rf aN R Q x.1 x.2.1 x.2.2.1 x.2.2.2 w λr w=>c (e9 (dL [(.i B_),(.i B_)] r)) w:=
 arF (mask:=549755813887) (rid:=aC4 f175) (mk:=xMk f175) (df:=xDf f175) mixed func175 aZ ⟨aZ,aZ,aZ,aZ,aZ,aZ⟩ aZ aZ (M3 b) (λq=>ari hpost) d e [.p,(.i B_),(.i B_),(.i B_)] [(.i B_),(.i B_)] aZ (λx w k=>rf aN R Q x.1 x.2.1 x.2.2.1 x.2.2.2 w k) (λx w k=>Q3 aN R Q x w k)
def L0:DR Tryz.prog we λl w k=>qW [.a,.a,.a] l λx=>ue x.1 x.2.1 x.2.2 w λ_ w=>k w:=
 axa (mask:=0) (h:=[]) mixed func219 (M3 (l:=[]) trivial) [.a,.a,.a] aZ aZ (λx w k=>ue x.1 x.2.1 x.2.2 w k) (λx w k=>by kernel_rfl)
def aL:T36:=λa b LZ asU w k=>rf aN (λc d e w k=>ue c d e w λ_ w=>k w) (λ_ _ _ _ _ _=>False) a b LZ asU w k
abbrev Q4:bt:=aab aL
def nB:uY Tryz.prog ko Q4:=Nv aN _ _ ⟨nV,trivial⟩ ⟨uY.p nV,trivial⟩ L0 (λl v w k h=>by
 obtain⟨x,_,h⟩:=zu h;exact h.elim)
def Bn(o:T6)(p:T36):T77:=λa b e c w k=>o a b c w λg d=>an (g !=0) (k g d) (en a d 0 λj=>cN j c 3 λl=>aJ B_ d (l.add 2) λm=>p b e (aF B_ (m+1)) 1 d λh n=>k (h.1,h.2).2 n)
def Tw a b:E [.p,.p,.i B_,.i B_] [.i B_] [(ol,ry a),(ko,aab b)] 133903 [] f118=u_4 (Bn a b):=aZ
def eE:=Bn bh aL
def H9:SS Bg (arX eE):=so func118 (.c pW (.c nB .z)) (Tw bh aL)
def eF:T58:=λa b w k=>aE w a 144 λg f=>bx 2 f g λc=>kT zr6 0 2 c λd=>kT #[Iv 0,Iv 0,Iv 0,Iv 0,Iv 0,Iv 0,Iv 0,Iq K_,Iv 0,Iv 0,IB H_,C_,Iv 0,Iv 0,Iv 0] 0 6 d λe=>rZ (.func (F_ nR) #[] #[]) (aE f (eS (eS e 6 (Iv b)) 11 (.func (F_ nR) #[] #[])) 289 λh i=>k (G_ h) i)
def Ia:SS Bh (ait eF):=sl 22 [] func119
def az:T7:=λa w k=>aE w a 144 λd c=>aJ B_ c (d.add 0) λe=>k (aF B_ (e+1)) c
def kP:SS jS (xY az):=sl 6 [] func130
def yb(q:T45):Hv:=λa b LZ w k=>an (eA a) (k (0,2) w) (q a b LZ (.func (F_ jk) #[IB a] #[]) w λi d=>an (i !=0) (k (0,i) d) (en a d 2 λj=>cN j b 1 λm=>aJ B_ d m λn=>cN j b 1 λo=>bN d o (Iv (aF B_ (n+1))) λe=>en a e 0 λf=>cN f LZ 1 λg=>aJ B_ e g λh=>k (h,0) e))
def Pe a:E [.p,.i B_,.i B_] [.i B_,.i B_] [(jm,acq a)] 263623 [] f240=u_3 (yb a):=aZ
def aj:=yb aN
def er:SS dS (zb aj):=so func240 (.c nV .z) (Pe aN)
def FH(aj:Hv):T33:=λcZ b c asV aDD agQ w k=>aj b c asV w λa d=>nn aDD λe=>bN d e (Iv (a.1,a.2).1) λf=>v7 cZ f 11 agQ λh=>k (0,(a.1,a.2).2) h
def YI a:E [.p,.p,.i B_,.i B_,.p,.raw] [.i B_,.i B_] [(dS,zb a)] 61503 [] f220=u_6 (FH a):=aZ
def be:=FH aj
def pB:SS nT (Xc be):=so func220 (.c er .z) (YI aj)
def wu(l:T7)(m:T33):T4:=λcZ b c w k=>drew w λe=>nn cZ λf=>bx 2 e (aY (f.add 0) 0) λd=>nn cZ λg=>l d e λh i=>m cZ b c h (G_ (aY (g.add 0) 2)) (.func (F_ r6) #[] #[]) i λa j=>k ((a.1,a.2).1,(a.1,a.2).2) j
def Nw a b:E [.p,.p,.i B_] [.i B_,.i B_] [(jS,xY a),(nT,Xc b)] 199 [] f176=u_3 (wu a b):=aZ
def ff:=wu az be
abbrev Eg:bt:=lM ff
def Ny:SS nR (lM ff):=so func176 (.c kP (.c pB .z)) (Nw az be)
def bj:T7:=λa w k=>aE w a 144 λc b=>aJ B_ b (c.add 0) λe=>k e b
def qP:SS o9 (xY bj):=sl 6 [] func129
def Bo(l:T7)(m:T33):T4:=λcZ b c w k=>drew w λe=>nn cZ λf=>bx 2 e (aY (f.add 0) 0) λd=>nn cZ λg=>l d e λh i=>m cZ b c h (G_ (aY (g.add 0) 3)) (.func (F_ q4) #[] #[]) i λa j=>k ((a.1,a.2).1,(a.1,a.2).2) j
def Tx a b:E [.p,.p,.i B_] [.i B_,.i B_] [(o9,xY a),(nT,Xc b)] 199 [] f221=u_3 (Bo a b):=aZ
def iJ:=Bo bj be
abbrev Ib:bt:=lM iJ
def Tz:SS r6 (lM iJ):=so func221 (.c qP (.c pB .z)) (Tx bj be)
def Vr(p:T2):T92:=λanh w k=>aE w #[Iv 0,Iv 0] 241 λe m=>aE m #[Iv 0,Iv 0] 241 λf n=>dQ 2 n f #[(Iv (IR B_ anh 4)),(Iv (oH B_ anh 15))] λj=>bx 2 j f λh=>p h j λo i=>an (!o) (dQ 2 i e #[Iv 0,Iv 0] λl=>bx 2 l e λa=>k (a,11) l) (bx 2 i f λb=>dQ 2 i e b λc=>bx 2 c e λd=>k (d,0) c)
def ak4 a:E [.i B_] [.ag,.i B_] [(qO,Jj a)] 4125 [] f127=Vr a:=aZ
def rh:=Vr bE
def acw:SS Vk (ar2 rh):=so func127 (.c sX .z) (ak4 bE)
def FJ(n:T7)(aj:Hv)(rh:T92):T6:=λcZ c d w k=>nn cZ λh=>bx 2 w (aY (h.add 0) 0) λe=>n e w λi j=>aj c d i j λa g=>an ((a.1,a.2).2 !=0) (k (a.1,a.2).2 g) (rh (a.1,a.2).1 g λb l=>nn cZ λm=>dQ 2 l (aY (m.add 0) 4) (b.1,b.2).1 λf=>k (b.1,b.2).2 f)
def YJ a b c:E [.p,.p,.i B_] [.i B_] [(r5,xY a),(dS,zb b),(Vk,ar2 c)] 4194759 [] f264=u_3 (FJ a b c):=aZ
def dV:=FJ bS aj rh
def FK:SS AY (ry dV):=so func264 (.c uS (.c er (.c acw .z))) (YJ bS aj rh)
def Eh(j:T2):T7:=λa w k=>aE w a 241 λe f=>bx 2 f e λb=>j b f λg c=>an (!g) (k 0 c) (aJ B_ c (e.add 1) λh=>HI B_ 1 h λi=>k i c)
def Xn a:E [.ag] [.i B_] [(qO,Jj a)] 38 [] f131=Eh a:=aZ
def cg:=Eh bE
def zc:SS tY (xY cg):=so func131 (.c sX .z) (Xn bE)
def zO(z:T6)(A:T7):T4:=λcZ e f w k=>z cZ e f w λr s=>an (r !=0) (k (6,r) s) (drew s λd=>nn cZ λt=>aJ B_ d (aY (t.add 0) 2) λv=>nn cZ λu=>aJ B_ d (aY (u.add 0) 3) λx=>nn cZ λy=>bx 2 d (aY (y.add 0) 4) λg=>A g d λh b=>ai 1 (aY (u.add 0) 3) d b (ai 1 (aY (t.add 0) 2) d b (an (L_ ((aF B_ (v - x))<h)) (v7 cZ b 11 (.func (F_ oE) #[] #[]) λj=>k (0,0) j) (drew b λc=>nn cZ λl=>aJ B_ c (aY (aY (l.add 0) 4) 1) λm=>nn cZ λn=>aJ B_ c (aY (aY (n.add 0) 0) 1) λo=>an (L_ (m>=o)) (k (4,0) c) (v7 cZ c 11 (.func (F_ sg) #[] #[]) λq=>k (0,0) q)))))
def Q5 a b:E [.p,.p,.i B_] [.i B_,.i B_] [(AY,ry a),(tY,xY b)] 2199023796679 [] f254=u_3 (zO a b):=aZ
def gO:=zO dV cg
abbrev GC:bt:=lM gO
def Q6:SS q4 (lM gO):=so func254 (.c FK (.c zc .z)) (Q5 dV cg)
def Q7(ay:Hv):asM:=λc h Nu w k=>aE w #[Iv 0,Iv 0] 241 λa i=>an (eA c) (dQ 2 i a #[Iv 0,Iv 0] λm=>bx 2 m a λj=>k (j,2) m) (an ((L_ (Nu<0))||(decide (Nu>8))) (dQ 2 i a #[Iv 0,Iv 0] λn=>bx 2 n a λl=>k (l,10) n) (HI B_ 1 Nu λq=>ay c h q i λb o=>an ((b.1,b.2).2 !=0) (dQ 2 o a #[Iv 0,Iv 0] λd=>bx 2 d a λe=>k (e,(b.1,b.2).2) d) (dQ 2 o a #[(Iv (b.1,b.2).1),Iv Nu] λf=>bx 2 f a λg=>k (g,0) f)))
def aiz a:E [.p,.i B_,.i B_] [.ag,.i B_] [(jl,zb a)] 2147502023 [] f296=u_3 (Q7 a):=aZ
def xO:=Q7 ay
def aiA:SS aaa (asN xO):=so func296 (.c kw .z) (aiz ay)
def Ei(H:T2)(I:T7):asO:=λp aDE agR acy w k=>aE w p 241 λq J=>aE J aDE 241 λo F=>cz (S:=Bool) (λG=>bx 2 F q λr=>H r F λL s=>an (!L) (G J_ s) (bx 2 s o λt=>H t s λu v=>G (!u) v)) λx e=>an x (k (H_,1) e) (cz (S:=Bool) (λf=>drew e λa=>an (L_ (acy<agR)) (f J_ a) (bx 2 a q λg=>bx 2 a o λh=>I g a λy i=>ai 2 o a i (I h i λz A=>(f (L_ ((aF .u64 ((aF .u64 acy) - (aF .u64 agR)))>(aF .u64 (Wg y z)))) A)))) λB b=>an B (k (H_,10) b) (bx 2 b q λj=>bx 2 b o λl=>kT #[Iv 0,Iv 0,Iv 0,Iv 0,Iv 0,Iv 0,Iv 0,C_] 0 2 j λm=>kT m 2 2 l λn=>aE b (eS (eS n 4 (Iv agR)) 5 (Iv acy)) 380 λd C=>bN C (d.add 7) (.func (F_ rJ) #[IB (G_ d)] #[]) λD=>k ((G_ d),0) D))
def Xo a c:E [.ag,.ag,.i B_,.i B_] [.p,.i B_] [(qO,Jj a),(tY,xY c)] 1052476 [(2,[(11,.b)]),(5,[(20,.b)])] f297=u_4 (Ei a c):=aZ
def nH:=Ei bE cg
def Xp:SS Kv (asP nH):=so func297 (.c sX (.c zc .z)) (Xo bE cg)
def Bp(xO:asM)(nH:asO):T4:=λcZ g h w k=>nn cZ λy=>aJ B_ w (aY (aY (y.add 0) 4) 1) λz=>xO g h (aF B_ (z+1)) w λd A=>aE A #[Iv 0,Iv 0] 241 λi B=>dQ 2 B i (d.1,d.2).1 λj=>an ((d.1,d.2).2 !=0) (k (6,(d.1,d.2).2) j) (bx 2 j i λl=>nn cZ λC=>dQ 2 j (C.add 8) l λm=>drew m λa=>nn cZ λn=>bx 2 a (aY (n.add 0) 4) λe=>bx 2 a i λf=>nn cZ λo=>aJ B_ a (aY (o.add 0) 3) λp=>nn cZ λq=>aJ B_ a (aY (q.add 0) 2) λr=>nH e f p r a λb s=>v7 cZ s 10 (IB (b.1,b.2).1) λu=>v7 cZ u 11 (.func (F_ q6) #[] #[]) λx=>k (0,(b.1,b.2).2) x)
def TA a b:E [.p,.p,.i B_] [.i B_,.i B_] [(aaa,asN a),(Kv,asP b)] 16778183 [] f277=u_3 (Bp a b):=aZ
def jL:=Bp xO nH
abbrev Ic:bt:=lM jL
def TB:SS sg (lM jL):=so func277 (.c aiA (.c Xp .z)) (TA xO nH)
def CN(o:T2)(p:T7):T30:=λe f w k=>aE w e 241 λc i=>bx 2 i c λg=>o g i λl j=>an (!l) (k (-1) j) (drew j λd=>aJ B_ d (c.add 0) λm=>bx 2 d c λh=>p h d λn b=>ai 1 (c.add 0) d b ((k (aF B_ (m+(oH B_ f (aF B_ (n - 1))))) b)))
def Vs a b:E [.ag,.i B_] [.i B_] [(qO,Jj a),(tY,xY b)] 150 [] f132=u_2 (CN a b):=aZ
def bl:=CN bE cg
def qQ:SS pb (ack bl):=so func132 (.c sX (.c zc .z)) (Vs bE cg)
def Ej(s:T30)(aj:Hv):T6:=λa c d w k=>drew w λe=>qA7 a 2 e 0 λf=>qJ7 a B_ e 4 λp=>s f p e λq r=>aj c d q r λb l=>an ((b.1,b.2).2 !=0) (k (b.1,b.2).2 l) (v7 a l 6 (Iv (b.1,b.2).1) λh=>v7 a h 7 (.func (F_ sV) #[IB a] #[]) λj=>k 0 j)
def Xq a b:E [.p,.p,.i B_] [.i B_] [(pb,ack a),(dS,zb b)] 33554887 [] f316=u_3 (Ej a b):=aZ
def nI:=Ej bl aj
abbrev KB:bt:=ry nI
def Xr:SS rJ (ry nI):=so func316 (.c qQ (.c er .z)) (Xq bl aj)
def CO(x:T30)(y:T43):T6:=λa f g w k=>drew w λd=>qA7 a 2 d 2 λh=>qJ7 a B_ d 4 λt=>nn a λp=>aJ B_ d (p.add 6) λu=>x h t d λv q=>ai 1 (p.add 6) d q (y f g v u q λe c=>an (e !=0) (k e c) (qJ7 a B_ c 4 λj=>v7 a c 4 (Iv (aF B_ (j+1))) λm=>v7 a m 7 (.func (F_ rJ) #[IB a] #[]) λo=>k 0 o))
def Vt a b:E [.p,.p,.i B_] [.i B_] [(pb,ack a),(lQ,acp b)] 33554631 [] f341=u_3 (CO a b):=aZ
def mz:=CO bl aK
abbrev Jo:bt:=ry mz
def Vu:SS sV (ry mz):=so func341 (.c qQ (.c nW .z)) (Vt bl aK)
def Ek(u:T6)(v:T6):T40:=λa d g w k=>an ((eA a)||(eA d)) (k (false,2) w) (drew w λe=>qJ7 a B_ e 4 λo=>qJ7 a B_ e 5 λq=>an (o==q) (k (J_,0) e) (qV7 a e 7 λs=>nj (kC [(rJ,(ry u)),(sV,(ry v))]) s #[IB d,Iv g] e λt m=>xS B_ t λf=>an (f !=0) (k (K_,f) m) (drew m λc=>qJ7 a B_ c 4 λi=>qJ7 a B_ c 5 λl=>k ((i==l),0) c)))
def Xs a c:E [.p,.p,.i B_] [.b,.i B_] [(rJ,ry a),(sV,ry c)] 17179935687 [] f317=u_3 (Ek a c):=aZ
def nJ:=Ek nI mz
def Xt:SS Kw (Xd nJ):=so func317 (.c Xr (.c Vu .z)) (Xs nI mz)
def zP(h:T40):T4:=λcZ b c w k=>u7 cZ w 10 λp2=>h p2 b c w λa d=>an (a.1,a.2).1 (v7 cZ d 11 (.func (F_ q8) #[] #[]) λg=>k (0,(a.1,a.2).2) g) (k (0,(a.1,a.2).2) d)
def Q8 a:E [.p,.p,.i B_] [.i B_,.i B_] [(Kw,Xd a)] 1049543 [] f298=u_3 (zP a):=aZ
def jb:=zP nJ
abbrev GD:bt:=lM jb
def Q9:SS q6 (lM jb):=so func298 (.c Xt .z) (Q8 nJ)
def El(h:T43):T67:=λcZ a b asV c agQ w k=>v7 cZ w 11 agQ λe=>h a b asV c e λf g=>k (0,f) g
def Xu a:E [.p,.p,.i B_,.i B_,.i B_,.raw] [.i B_,.i B_] [(lQ,acp a)] 12351 [] f282=u_6 (El a):=aZ
def dm:=El aK
def Em:SS za (am5 dm):=so func282 (.c nW .z) (Xu aK)
def zQ(s:T7)(t:T7)(u:T67):T4:=λcZ d e w k=>qA7 cZ 2 w 8 λf=>nn cZ λp=>dQ 2 w (aY (p.add 0) 4) f λq=>drew q λc=>nn cZ λr=>bx 2 c (aY (r.add 0) 0) λg=>nn cZ λn=>bx 2 c (aY (n.add 0) 4) λh=>s g c λi b=>ai 2 (aY (n.add 0) 4) c b (t h b λj l=>u cZ d e i j (.func (F_ oE) #[] #[]) l λa m=>k ((a.1,a.2).1,(a.1,a.2).2) m)
def Ra a b c:E [.p,.p,.i B_] [.i B_,.i B_] [(r5,xY a),(DW,xY b),(za,am5 c)] 199 [] f318=u_3 (zQ a b c):=aZ
def gP:=zQ bS fD dm
abbrev GF:bt:=lM gP
def Rb:SS q8 (lM gP):=so func318 (.c uS (.c KA (.c Em .z))) (Ra bS fD dm)
def yc(p:T30)(q:T67):T4:=λcZ c d w k=>drew w λb=>nn cZ λj=>bx 2 b (aY (j.add 0) 4) λe=>nn cZ λl=>aJ B_ b (aY (l.add 0) 2) λm=>nn cZ λh=>aJ B_ b (h.add 6) λn=>p e m b λo i=>ai 1 (h.add 6) b i (q cZ c d o n (.func (F_ q5) #[] #[]) i λa g=>k ((a.1,a.2).1,(a.1,a.2).2) g)
def Pf a b:E [.p,.p,.i B_] [.i B_,.i B_] [(pb,ack a),(za,am5 b)] 199 [] f276=u_3 (yc a b):=aZ
def fQ:=yc bl dm
abbrev Ff:bt:=lM fQ
def Pg:SS oE (lM fQ):=so func276 (.c qQ (.c Em .z)) (Pf bl dm)
def zR(n:T7)(o:T43):T4:=λcZ b c w k=>drew w λa=>nn cZ λh=>bx 2 a (aY (h.add 0) 0) λd=>nn cZ λf=>aJ B_ a (aY (f.add 0) 2) λi=>n d a λj g=>ai 1 (aY (f.add 0) 2) a g (o b c j (aF B_ (i+1)) g λl m=>k (1,l) m)
def Rd a b:E [.p,.p,.i B_] [.i B_,.i B_] [(jS,xY a),(lQ,acp b)] 199 [] f295=u_3 (zR a b):=aZ
def gQ:=zR az aK
abbrev GG:bt:=lM gQ
def Re:SS q5 (lM gQ):=so func295 (.c kP (.c nW .z)) (Rd az aK)
def yd(l:T7)(m:T33):T4:=λcZ b c w k=>drew w λe=>nn cZ λf=>bx 2 e (aY (f.add 0) 0) λd=>nn cZ λg=>l d e λh i=>m cZ b c h (G_ (aY (g.add 0) 2)) (.func (F_ r7) #[] #[]) i λa j=>k ((a.1,a.2).1,(a.1,a.2).2) j
def Ph a b:E [.p,.p,.i B_] [.i B_,.i B_] [(jS,xY a),(nT,Xc b)] 199 [] f213=u_3 (yd a b):=aZ
def fS:=yd az be
abbrev Fg:bt:=lM fS
def Pj:SS ox (lM fS):=so func213 (.c kP (.c pB .z)) (Ph az be)
def Bq(g:T6):T4:=λcZ a b w k=>v7 cZ w 11 (.func (F_ r8) #[] #[]) λd=>g cZ a b d λe f=>k (0,e) f
def TC a:E [.p,.p,.i B_] [.i B_,.i B_] [(AY,ry a)] 199 [] f241=u_3 (Bq a):=aZ
def iK:=Bq dV
abbrev Ie:bt:=lM iK
def TD:SS r7 (lM iK):=so func241 (.c FK .z) (TC dV)
def Br(n:T7)(o:T67):T4:=λcZ c d w k=>drew w λa=>nn cZ λi=>bx 2 a (aY (i.add 0) 0) λe=>nn cZ λg=>aJ B_ a (aY (g.add 0) 2) λj=>n e a λl h=>ai 1 (aY (g.add 0) 2) a h (o cZ c d l (aF B_ (j - 1)) (.func (F_ sU) #[] #[]) h λb m=>k ((b.1,b.2).1,(b.1,b.2).2) m)
def TE a b:E [.p,.p,.i B_] [.i B_,.i B_] [(jS,xY a),(za,am5 b)] 199 [] f263=u_3 (Br a b):=aZ
def iL:=Br az dm
abbrev If:bt:=lM iL
def TF:SS r8 (lM iL):=so func263 (.c kP (.c Em .z)) (TE az dm)
def CP(t:T7)(u:T33):T4:=λcZ d e w k=>drew w λn=>nn cZ λo=>bx 2 n (aY (o.add 0) 0) λf=>nn cZ λp=>t f n λq r=>u cZ d e q (G_ (aY (p.add 0) 3)) (.func (F_ q7) #[] #[]) r λa s=>drew s λc=>nn cZ λg=>aJ B_ c (aY (g.add 0) 3) λh=>nn cZ λi=>aJ B_ c (aY (i.add 0) 2) λj=>an (L_ (h>(aF B_ (j - 1)))) (v7 cZ c 11 (.func (F_ ql) #[] #[]) λm=>k ((a.1,a.2).1,(a.1,a.2).2) m) (k ((a.1,a.2).1,(a.1,a.2).2) c)
def Vv a b:E [.p,.p,.i B_] [.i B_,.i B_] [(o9,xY a),(nT,Xc b)] 274877907911 [] f283=u_3 (CP a b):=aZ
def jG:=CP bj be
abbrev Jp:bt:=lM jG
def Vw:SS sU (lM jG):=so func283 (.c qP (.c pB .z)) (Vv bj be)
def zS(t:T30)(u:T33):T4:=λcZ d e w k=>drew w λf=>nn cZ λn=>bx 2 f (aY (n.add 0) 4) λg=>nn cZ λo=>aJ B_ f (aY (o.add 0) 2) λp=>nn cZ λq=>t g (aF B_ (p - 1)) f λr s=>u cZ d e r (G_ (q.add 13)) (.func (F_ sj) #[] #[]) s λc h=>drew h λb=>nn cZ λi=>aJ B_ b (aY (i.add 0) 3) λj=>nn cZ λl=>aJ B_ b (aY (l.add 0) 2) λm=>an (L_ (j<(aF B_ (m - 1)))) (k (1,(c.1,c.2).2) b) (k ((c.1,c.2).1,(c.1,c.2).2) b)
def Rf a b:E [.p,.p,.i B_] [.i B_,.i B_] [(pb,ack a),(nT,Xc b)] 8796093023175 [] f302=u_3 (zS a b):=aZ
def gR:=zS bl be
abbrev GH:bt:=lM gR
def Rh:SS q7 (lM gR):=so func302 (.c qQ (.c pB .z)) (Rf bl be)
def zT(v:T45):T42:=λa b LZ aBk f w k=>an (eA a) (k (K_,2) w) (v a b LZ (.func (F_ jk) #[IB a] #[]) w λo e=>an (o !=0) (k (K_,o) e) (en a e 2 λp=>cN p b 1 λr=>aJ B_ e r λs=>cN p b 1 λt=>bN e t (Iv (aF B_ (s+1))) λd=>en a d 0 λg=>cN g LZ 1 λh=>aJ B_ d h λi=>an (i !=aBk) (k (K_,0) d) (en a d 0 λl=>cN l LZ 1 λm=>bN d m (Iv f) λn=>k (J_,0) n)))
def Ri a:E [.p,.i B_,.i B_,.i B_,.i B_] [.b,.i B_] [(jm,acq a)] 2199027473439 [] f200=u_5 (zT a):=aZ
def aR:=zT aN
def pC:SS nq (aco aR):=so func200 (.c nV .z) (Ri aN)
def Bs(t:T7)(u:T42):T4:=λcZ d e w k=>drew w λb=>nn cZ λp=>bx 2 b (aY (p.add 0) 0) λf=>nn cZ λn=>aJ B_ b (aY (n.add 0) 3) λq=>nn cZ λo=>aJ B_ b (aY (o.add 0) 3) λr=>t f b λs g=>ai 1 (aY (o.add 0) 3) b g (ai 1 (aY (n.add 0) 3) b g (u d e s q (aF B_ (r+1)) g λa h=>v7 cZ h 7 (Iq (a.1,a.2).1) λj=>v7 cZ j 11 (.func (F_ ql) #[] #[]) λm=>k (0,(a.1,a.2).2) m))
def TG a b:E [.p,.p,.i B_] [.i B_,.i B_] [(o9,xY a),(nq,aco b)] 967 [] f323=u_3 (Bs a b):=aZ
def iM:=Bs bj aR
abbrev Ig:bt:=lM iM
def TH:SS sj (lM iM):=so func323 (.c qP (.c pC .z)) (TG bj aR)
def Bt(t:T7)(u:T43):T4:=λcZ b c w k=>nn cZ λv=>He w (v.add 7) λx=>an x (drew w λg=>nn cZ λy=>bx 2 g (aY (y.add 0) 0) λh=>nn cZ λr=>aJ B_ g (aY (r.add 0) 2) λz=>t h g λA s=>ai 1 (aY (r.add 0) 2) g s (u b c A z s λj l=>k (1,j) l)) (drew w λa=>nn cZ λm=>bx 2 a (aY (m.add 0) 0) λd=>nn cZ λe=>aJ B_ a (aY (e.add 0) 2) λn=>t d a λo f=>ai 1 (aY (e.add 0) 2) a f (u b c o n f λp q=>k (3,p) q))
def TI a b:E [.p,.p,.i B_] [.i B_,.i B_] [(jS,xY a),(lQ,acp b)] 4551 [] f303=u_3 (Bt a b):=aZ
def iN:=Bt az aK
abbrev Ih:bt:=lM iN
def TJ:SS ql (lM iN):=so func303 (.c kP (.c nW .z)) (TI az aK)
def zU(l:T7)(m:T33):T4:=λcZ b c w k=>drew w λe=>nn cZ λf=>bx 2 e (aY (f.add 0) 0) λd=>nn cZ λg=>l d e λh i=>m cZ b c h (G_ (aY (g.add 0) 3)) (.func (F_ po) #[] #[]) i λa j=>k ((a.1,a.2).1,(a.1,a.2).2) j
def Rj a b:E [.p,.p,.i B_] [.i B_,.i B_] [(o9,xY a),(nT,Xc b)] 199 [] f291=u_3 (zU a b):=aZ
def gS:=zU bj be
abbrev GI:bt:=lM gS
def Rk:SS pn (lM gS):=so func291 (.c qP (.c pB .z)) (Rj bj be)
def vn(r:T7)(s:T33):T4:=λcZ c d w k=>drew w λl=>nn cZ λm=>bx 2 l (aY (m.add 0) 0) λe=>nn cZ λn=>r e l λo p=>s cZ c d o (G_ (aY (n.add 0) 2)) (.func (F_ qF) #[] #[]) p λa q=>drew q λb=>nn cZ λf=>aJ B_ b (aY (f.add 0) 3) λh=>nn cZ λi=>aJ B_ b (aY (i.add 0) 2) λj=>an (L_ (h>=j)) (k (3,(a.1,a.2).2) b) (k ((a.1,a.2).1,(a.1,a.2).2) b)
def L1 a b:E [.p,.p,.i B_] [.i B_,.i B_] [(jS,xY a),(nT,Xc b)] 137438954439 [] f314=u_3 (vn a b):=aZ
def eJ:=vn az be
abbrev Di:bt:=lM eJ
def L2:SS po (lM eJ):=so func314 (.c kP (.c pB .z)) (L1 az be)
def ye(g:T6):T4:=λcZ a b w k=>v7 cZ w 11 (.func (F_ pV) #[] #[]) λd=>g cZ a b d λe f=>k (0,e) f
def Pk a:E [.p,.p,.i B_] [.i B_,.i B_] [(AY,ry a)] 199 [] f338=u_3 (ye a):=aZ
def fT:=ye dV
abbrev Fh:bt:=lM fT
def Pm:SS qF (lM fT):=so func338 (.c FK .z) (Pk dV)
def wv(o:T30)(p:T33):T4:=λcZ a b w k=>drew w λc=>nn cZ λg=>bx 2 c (aY (g.add 0) 4) λd=>nn cZ λh=>aJ B_ c (aY (h.add 0) 3) λj=>nn cZ λl=>o d j c λm n=>p cZ a b m (G_ (l.add 13)) (.func (F_ oF) #[] #[]) n λf e=>k (2,(f.1,f.2).2) e
def Nz a b:E [.p,.p,.i B_] [.i B_,.i B_] [(pb,ack a),(nT,Xc b)] 711 [] f357=u_3 (wv a b):=aZ
def fg:=wv bl be
abbrev En:bt:=lM fg
def NA:SS pV (lM fg):=so func357 (.c qQ (.c pB .z)) (Nz bl be)
def yf(p:T7)(q:T42):T4:=λcZ e f w k=>drew w λb=>nn cZ λl=>bx 2 b (aY (l.add 0) 0) λg=>nn cZ λi=>aJ B_ b (aY (i.add 0) 3) λm=>nn cZ λj=>aJ B_ b (aY (j.add 0) 3) λn=>p g b λo h=>ai 1 (aY (j.add 0) 3) b h (ai 1 (aY (i.add 0) 3) b h (q e f o m (aF B_ (n+1)) h λa d=>an (!(a.1,a.2).1) (k (5,(a.1,a.2).2) d) (k (1,(a.1,a.2).2) d)))
def Pn a b:E [.p,.p,.i B_] [.i B_,.i B_] [(o9,xY a),(nq,aco b)] 17179870151 [] f373=u_3 (yf a b):=aZ
def fU:=yf bj aR
abbrev Fi:bt:=lM fU
def Po:SS oF (lM fU):=so func373 (.c qP (.c pC .z)) (Pn bj aR)
def FN(B:T4)(C:T4)(D:T4)(F:T4)(G:T4)(H:T4)(I:T4)(J:T4)(L:T4)(M:T4)(N:T4)(O:T4)(P:T4)(Q:T4)(R:T4)(T:T4)(U:T4)(V:T4)(W:T4)(X:T4):T6:=λcZ g h w k=>an (eA cZ) (k 6 w) (cz (S:=Bool) (λs=>qJ7 cZ B_ w 12 λu=>an (u !=0) (qJ7 cZ B_ w 12 λx=>s (x !=2) w) (s K_ w)) λy f=>an y (qJ7 cZ B_ f 12 λA=>k A f) (qV7 cZ f 11 λl=>nj (kC [(nR,(lM B)),(r6,(lM C)),(q4,(lM D)),(sg,(lM F)),(q6,(lM G)),(q8,(lM H)),(oE,(lM I)),(q5,(lM J)),(ox,(lM L)),(r7,(lM M)),(r8,(lM N)),(sU,(lM O)),(q7,(lM P)),(sj,(lM Q)),(ql,(lM R)),(pn,(lM T)),(po,(lM U)),(qF,(lM V)),(pV,(lM W)),(oF,(lM X))]) l #[IB cZ,IB g,Iv h] f λm c=>Is [(.i B_),(.i B_)] m fun(b:Int×Int)=>cz (S:=Int) (λd=>an (b.2 !=0) (d 6 c) (d b.1 c)) λe n=>v7 cZ n 12 (Iv e) λp=>v7 cZ p 14 (Iv b.2) λr=>k e r))
def YK a c d e f g h j l m n o q r s t u v y z:E [.p,.p,.i B_] [.i B_] [(nR,lM a),(r6,lM c),(q4,lM d),(sg,lM e),(q6,lM f),(q8,lM g),(oE,lM h),(q5,lM j),(ox,lM l),(r7,lM m),(r8,lM n),(sU,lM o),(q7,lM q),(sj,lM r),(ql,lM s),(pn,lM t),(po,lM u),(qF,lM v),(pV,lM y),(oF,lM z)] 2199023260615 [(5,[(12,.b)]),(10,[(7,(.i B_))])] f120=u_3 (FN a c d e f g h j l m n o q r s t u v y z):=aZ
def fO:=FN ff iJ gO jL jb gP fQ gQ fS iK iL jG gR iM iN gS eJ fT fg fU
def L3:SS AX (ry fO):=so func120 (.c Ny (.c Tz (.c Q6 (.c TB (.c Q9 (.c Rb (.c Pg (.c Re (.c Pj (.c TD (.c TF (.c Vw (.c Rh (.c TH (.c TJ (.c Rk (.c L2 (.c Pm (.c NA (.c Po .z)))))))))))))))))))) (YK ff iJ gO jL jb gP fQ gQ fS iK iL jG gR iM iN gS eJ fT fg fU)
def iW:T3:=λcZ w k=>an (eA cZ) (k 2 w) (qJ7 cZ B_ w 14 λc=>k c w)
def O0:SS Ch (Bl iW):=sl 21 [] func121
def wz(cY:T51)(lN:N_->((Array M_)->ap)->Prop)(fe:T76)(eE:T77)(eF:T58)(fO:T6)(iW:T3)(b:Option P_)(sM:Int)(w:N_)(k:(Int)->ap):Prop:= drew w λt=>u7 b t 9 λp3=>u7 b t 7 λp5=>cY p3 p5 sM 0 t λh u=>an ((h.1,h.2).2 !=0) (k (h.1,h.2).2 u) (en b u 10 λv=>kT #[Iv 0,Iv 0,Iv 0,Iq K_] 0 4 #[(Iv (-2)),Iv 0,Iv 0,Iq K_] λi=>aE u i 125 λx y=>og Tryz.prog #[96,96] 96 [S_ v,(IC (G_ x) 1 1)] y λe z=>v7 b z 10 (S_ e) λB=>lN B λj C=>fe b sM (-1) 0 (h.1,h.2).1 j C λl m=>an (l !=0) (k l m) (drew m λf=>u7 b f 9 λF=>u7 b f 7 λH=>eE F H sM 0 f λo d=>an (o !=0) (k o d) (en b d 19 λJ=>cN J 0 1 λL=>aQ d L λM=>qA7 M 2 d 2 λp=>eF p 0 d λq O=>cz (S:=Int) (λP=>jD (S:=Int) (λQ r g=>an (r==0) (u7 b g 7 λT=>fO q T sM g λU V=>Q U V) (P r g)) 0 O) λW s=>an (W==6) (iW q s λX Y=>k X Y) (k 0 s))))
def NB a b c d e f g:E [.p,.i B_] [.i B_] [(vY,ae1 a),(K3,ak0 b),(CF,arW c),(Bg,arX d),(Bh,ait e),(AX,ry f),(Ch,Bl g)] 302821822780406163834867 [(16,[(10,(.i B_))]),(17,[(10,(.i B_))])] f72=u_2 (wz a b c d e f g):=aZ
def gE:=wz cY lN fe eE eF fO iW
abbrev Eo:bt:=vN gE
def NC:SS nQ (vN gE):=so func72 (.c CL (.c UP (.c Jn (.c H9 (.c Ia (.c L3 (.c O0 .z))))))) (NB cY lN fe eE eF fO iW)
def ND(gM:T2)(oS:T2)(sW:T82)(vj:N_->((Option P_)->ap)->Prop)(ob:N_->((Option P_)->ap)->Prop)(ng:N_->((Option P_)->ap)->Prop)(fC:T9)(eC:T9)(gE:T9)(g3:Array M_)(g4:Array M_)(w:N_)(k:(Option P_×Int)->ap):Prop:= aE w g3 24 λe w2=>aE w2 g4 43 λd w4=>bx 1 w4 e λg5=>gM g5 w4 λb6 w7=>an (!b6) (k (H_,24) w7) (bx 6 w7 d λg7=>oS g7 w7 λb9 o=>an (!b9) (k (H_,10) o) (aJ B_ o (d.add 0) λb3=>aJ B_ o (d.add 1) λb4=>aJ B_ o (d.add 2) λg8=>sW g8 (aF B_ (b3+b4)) o λb b5=>an ((b.1,b.2).2 !=0) (k (H_,(b.1,b.2).2) b5) (cz (S:=(Option P_)) (λi=>drew b5 λa=>bx 1 a e λf=>bx 6 a d λg=>both (vj a λn j=>ai 6 d a j (ai 1 e a j (both (ob j λJ l=>ai 6 d a l (ai 1 e a l (both (ng l λg9 q=>ai 6 d a q (ai 1 e a q (ai 6 d a q (ai 1 e a q (kT #[Iv 0,Iv 0,Iv 0,Iq K_] 0 4 #[(Iv (-1)),Iv 0,Iv 0,Iq K_] λb7=>aE q b7 125 λh0 L=>ai 6 d a L (ai 1 e a L (kT #[IC H_ 0 0,Iv 0,Iv 0,Iv 0,Iv 0,Iv 0,Iv 0,IB H_,IB H_,IB H_,IC H_ 0 0,IC H_ 0 0,Iv 0,Iv 0,Iv 0,Iv 0,Iv 0,IB H_,IB H_,IC H_ 0 0,Iv 0,Iv 0] 0 1 f λb8=>kT b8 1 6 g λc0=>aE L (eS (eS (eS (eS (eS c0 7 (IB (b.1,b.2).1)) 8 (IB n)) 17 (IB J)) 18 (IB g9)) 10 (IC (G_ h0) 1 1)) 107 λh1 h2=>i (G_ h1) h2))))))) (ai 6 d a l (ai 1 e a l (both (ng l λh3 M=>ai 6 d a M (ai 1 e a M (kT #[Iv 0,Iv 0,Iv 0,Iq K_] 0 4 #[(Iv (-1)),Iv 0,Iv 0,Iq K_] λc1=>aE M c1 125 λh4 N=>ai 6 d a N (ai 1 e a N (kT #[IC H_ 0 0,Iv 0,Iv 0,Iv 0,Iv 0,Iv 0,Iv 0,IB H_,IB H_,IB H_,IC H_ 0 0,IC H_ 0 0,Iv 0,Iv 0,Iv 0,Iv 0,Iv 0,IB H_,IB H_,IC H_ 0 0,Iv 0,Iv 0] 0 1 f λc2=>kT c2 1 6 g λc3=>aE N (eS (eS (eS (eS (eS c3 7 (IB (b.1,b.2).1)) 8 (IB n)) 17 (IB J)) 18 (IB h3)) 10 (IC (G_ h4) 1 1)) 107 λh5 h6=>i (G_ h5) h6))))) (kT #[Iv 0,Iv 0,Iv 0,Iq K_] 0 4 #[(Iv (-1)),Iv 0,Iv 0,Iq K_] λc4=>aE l c4 125 λh7 O=>ai 6 d a O (ai 1 e a O (ng O λh8 P=>ai 6 d a P (ai 1 e a P (kT #[IC H_ 0 0,Iv 0,Iv 0,Iv 0,Iv 0,Iv 0,Iv 0,IB H_,IB H_,IB H_,IC H_ 0 0,IC H_ 0 0,Iv 0,Iv 0,Iv 0,Iv 0,Iv 0,IB H_,IB H_,IC H_ 0 0,Iv 0,Iv 0] 0 1 f λc5=>kT c5 1 6 g λc6=>aE P (eS (eS (eS (eS (eS c6 7 (IB (b.1,b.2).1)) 8 (IB n)) 17 (IB J)) 18 (IB h8)) 10 (IC (G_ h7) 1 1)) 107 λh9 i0=>i (G_ h9) i0))))))))))) (ai 6 d a j (ai 1 e a j (both (ob j λc7 D=>ai 6 d a D (ai 1 e a D (both (ng D λi1 Q=>ai 6 d a Q (ai 1 e a Q (kT #[Iv 0,Iv 0,Iv 0,Iq K_] 0 4 #[(Iv (-1)),Iv 0,Iv 0,Iq K_] λc8=>aE Q c8 125 λi2 R=>ai 6 d a R (ai 1 e a R (kT #[IC H_ 0 0,Iv 0,Iv 0,Iv 0,Iv 0,Iv 0,Iv 0,IB H_,IB H_,IB H_,IC H_ 0 0,IC H_ 0 0,Iv 0,Iv 0,Iv 0,Iv 0,Iv 0,IB H_,IB H_,IC H_ 0 0,Iv 0,Iv 0] 0 1 f λc9=>kT c9 1 6 g λd0=>aE R (eS (eS (eS (eS (eS d0 7 (IB (b.1,b.2).1)) 8 (IB n)) 17 (IB c7)) 18 (IB i1)) 10 (IC (G_ i2) 1 1)) 107 λi3 i4=>i (G_ i3) i4))))) (kT #[Iv 0,Iv 0,Iv 0,Iq K_] 0 4 #[(Iv (-1)),Iv 0,Iv 0,Iq K_] λd1=>aE D d1 125 λi5 T=>ai 6 d a T (ai 1 e a T (ng T λi6 U=>ai 6 d a U (ai 1 e a U (kT #[IC H_ 0 0,Iv 0,Iv 0,Iv 0,Iv 0,Iv 0,Iv 0,IB H_,IB H_,IB H_,IC H_ 0 0,IC H_ 0 0,Iv 0,Iv 0,Iv 0,Iv 0,Iv 0,IB H_,IB H_,IC H_ 0 0,Iv 0,Iv 0] 0 1 f λd2=>kT d2 1 6 g λd3=>aE U (eS (eS (eS (eS (eS d3 7 (IB (b.1,b.2).1)) 8 (IB n)) 17 (IB c7)) 18 (IB i6)) 10 (IC (G_ i5) 1 1)) 107 λi7 i8=>i (G_ i7) i8)))))))) (kT #[Iv 0,Iv 0,Iv 0,Iq K_] 0 4 #[(Iv (-1)),Iv 0,Iv 0,Iq K_] λd4=>aE j d4 125 λi9 V=>ai 6 d a V (ai 1 e a V (ob V λj0 W=>ai 6 d a W (ai 1 e a W (ng W λj1 X=>ai 6 d a X (ai 1 e a X (kT #[IC H_ 0 0,Iv 0,Iv 0,Iv 0,Iv 0,Iv 0,Iv 0,IB H_,IB H_,IB H_,IC H_ 0 0,IC H_ 0 0,Iv 0,Iv 0,Iv 0,Iv 0,Iv 0,IB H_,IB H_,IC H_ 0 0,Iv 0,Iv 0] 0 1 f λd5=>kT d5 1 6 g λd6=>aE X (eS (eS (eS (eS (eS d6 7 (IB (b.1,b.2).1)) 8 (IB n)) 17 (IB j0)) 18 (IB j1)) 10 (IC (G_ i9) 1 1)) 107 λj2 j3=>i (G_ j2) j3))))))))))))) (ai 6 d a a (ai 1 e a a (both (vj a λY F=>ai 6 d a F (ai 1 e a F (both (ob F λd7 G=>ai 6 d a G (ai 1 e a G (both (ng G λj4 Z=>ai 6 d a Z (ai 1 e a Z (kT #[Iv 0,Iv 0,Iv 0,Iq K_] 0 4 #[(Iv (-1)),Iv 0,Iv 0,Iq K_] λd8=>aE Z d8 125 λj5 a0=>ai 6 d a a0 (ai 1 e a a0 (kT #[IC H_ 0 0,Iv 0,Iv 0,Iv 0,Iv 0,Iv 0,Iv 0,IB H_,IB H_,IB H_,IC H_ 0 0,IC H_ 0 0,Iv 0,Iv 0,Iv 0,Iv 0,Iv 0,IB H_,IB H_,IC H_ 0 0,Iv 0,Iv 0] 0 1 f λd9=>kT d9 1 6 g λe0=>aE a0 (eS (eS (eS (eS (eS e0 7 (IB (b.1,b.2).1)) 8 (IB Y)) 17 (IB d7)) 18 (IB j4)) 10 (IC (G_ j5) 1 1)) 107 λj6 j7=>i (G_ j6) j7))))) (kT #[Iv 0,Iv 0,Iv 0,Iq K_] 0 4 #[(Iv (-1)),Iv 0,Iv 0,Iq K_] λe1=>aE G e1 125 λj8 a2=>ai 6 d a a2 (ai 1 e a a2 (ng a2 λj9 a4=>ai 6 d a a4 (ai 1 e a a4 (kT #[IC H_ 0 0,Iv 0,Iv 0,Iv 0,Iv 0,Iv 0,Iv 0,IB H_,IB H_,IB H_,IC H_ 0 0,IC H_ 0 0,Iv 0,Iv 0,Iv 0,Iv 0,Iv 0,IB H_,IB H_,IC H_ 0 0,Iv 0,Iv 0] 0 1 f λa5=>kT a5 1 6 g λa6=>aE a4 (eS (eS (eS (eS (eS a6 7 (IB (b.1,b.2).1)) 8 (IB Y)) 17 (IB d7)) 18 (IB j9)) 10 (IC (G_ j8) 1 1)) 107 λe2 e3=>i (G_ e2) e3)))))))) (kT #[Iv 0,Iv 0,Iv 0,Iq K_] 0 4 #[(Iv (-1)),Iv 0,Iv 0,Iq K_] λa7=>aE F a7 125 λe4 s=>ai 6 d a s (ai 1 e a s (ob s λe5 t=>ai 6 d a t (ai 1 e a t (ng t λe6 u=>ai 6 d a u (ai 1 e a u (kT #[IC H_ 0 0,Iv 0,Iv 0,Iv 0,Iv 0,Iv 0,Iv 0,IB H_,IB H_,IB H_,IC H_ 0 0,IC H_ 0 0,Iv 0,Iv 0,Iv 0,Iv 0,Iv 0,IB H_,IB H_,IC H_ 0 0,Iv 0,Iv 0] 0 1 f λa8=>kT a8 1 6 g λa9=>aE u (eS (eS (eS (eS (eS a9 7 (IB (b.1,b.2).1)) 8 (IB Y)) 17 (IB e5)) 18 (IB e6)) 10 (IC (G_ e4) 1 1)) 107 λe7 e8=>i (G_ e7) e8)))))))))) (kT #[Iv 0,Iv 0,Iv 0,Iq K_] 0 4 #[(Iv (-1)),Iv 0,Iv 0,Iq K_] λb0=>aE a b0 125 λf0 v=>ai 6 d a v (ai 1 e a v (vj v λf1 y=>ai 6 d a y (ai 1 e a y (ob y λf2 z=>ai 6 d a z (ai 1 e a z (ng z λf3 A=>ai 6 d a A (ai 1 e a A (kT #[IC H_ 0 0,Iv 0,Iv 0,Iv 0,Iv 0,Iv 0,Iv 0,IB H_,IB H_,IB H_,IC H_ 0 0,IC H_ 0 0,Iv 0,Iv 0,Iv 0,Iv 0,Iv 0,IB H_,IB H_,IC H_ 0 0,Iv 0,Iv 0] 0 1 f λb1=>kT b1 1 6 g λb2=>aE A (eS (eS (eS (eS (eS b2 7 (IB (b.1,b.2).1)) 8 (IB f1)) 17 (IB f2)) 18 (IB f3)) 10 (IC (G_ f0) 1 1)) 107 λf4 f5=>i (G_ f4) f5))))))))))))) λh f6=>rZ (.func (F_ m9) #[IB h] #[]) (rZ (.func (F_ lO) #[IB h] #[]) (rZ (.func (F_ nQ) #[IB h] #[]) (aE f6 #[(.func (F_ m9) #[IB h] #[]),(.func (F_ lO) #[IB h] #[]),(.func (F_ nQ) #[IB h] #[])] 132 λf7 f8=>jD (S:=Int) (λf9 B C=>an (L_ (B<((3:Nat):Int))) (cN (Sl.mk (G_ f7) 3 3) B 1 λg0=>tH C g0 λg1=>nj (kC [(AW,(Jj gM)),(Hr,(Jj oS)),(Ni,(ar0 sW)),(Vj,(λargs w c=>qW [] args λx=>vj w λr w=>c (e9 (dL [.p] r)) w)),(Nj,(λargs w c=>qW [] args λx=>ob w λr w=>c (e9 (dL [.p] r)) w)),(QZ,(λargs w c=>qW [] args λx=>ng w λr w=>c (e9 (dL [.p] r)) w)),(m9,(vN fC)),(lO,(vN eC)),(nQ,(vN gE))]) g1 #[(Iv (aF B_ (b3+b4)))] C λg2 H=>xS B_ g2 λI=>an (I !=0) (k (H_,I) H) (f9 (aF B_ (B+1)) H)) (k (h,0) C)) 0 f8))))))
def agS a b c d e f g h j:E [.ag,.ag] [.p,.i B_] [(AW,Jj a),(Hr,Jj b),(Ni,ar0 c),(Vj,YC d),(Nj,YC e),(QZ,YC f),(m9,vN g),(lO,vN h),(nQ,vN j)] 4679240021428484092 [(12,[(9,.p)]),(16,[(54,(.i B_))])] f26=u_2 (ND a b c d e f g h j):=aZ
def kF:=ND gM oS sW vj ob ng fC eC gE
def Xv:SS Nh (arI kF):=so func26 (.c LV (.c aaM (.c agF (.c ak1 (.c agG (.c aiv (.c LY (.c JP (.c NC .z))))))))) (agS gM oS sW vj ob ng fC eC gE)
def sA:T38:=λacz ux YL w k=>an ((((((L_ (acz<0))||(L_ (acz>1048576)))||(L_ (ux<1)))||(L_ (ux>16)))||(L_ (YL<1)))||(L_ (YL>1048576))) (k 0 w) ((k (aF B_ ((aF B_ ((aF B_ (1000*YL))*(aF B_ (ux+2))))*(aF B_ (acz+2)))) w))
def acA:SS QY (az2 sA):=sl 268435527 [] func35
def yg(m:T1):T9:=λa aiw w k=>cz (S:=Bool) (λc=>an (eA a) (c J_ w) (m a aiw w λd e=>c (!d) e)) λf b=>an f (k 0 b) (en a b 0 λh=>cN h aiw 1 λi=>aJ B_ b i λl=>k l b)
def Pp a:E [.p,.i B_] [.i B_] [(jk,qu a)] 4115 [(1,[(12,.b)])] f103=u_2 (yg a):=aZ
def aO:=yg c8
def qG:SS ou (vN aO):=so func103 (.c Ec .z) (Pp c8)
def yh(D:T9):T81:=λuw f w k=>aE w uw 116 λx v=>an (eA f) (k (0,(0,0)) v) (aE v To 192 λb y=>cz (S:=Unit) (λz=>jD (S:=Int) (λA g h=>an (L_ (g<3)) (aJ B_ h (x.add 0) λB=>D f (aF B_ (B+g)) h λi j=>Hf b 3 g 1 λl=>bN j l (Iv i) λm=>A (aF B_ (g+1)) m) (z () h)) 0 y) λC e=>aJ B_ e (b.add 0) λn=>an (L_ (n<2)) (bN e (b.add 1) (Iv 0) λo=>drew o λc=>aJ B_ c (b.add 0) λp=>aJ B_ c (b.add 1) λq=>aJ B_ c (b.add 2) λr=>k (p,(q,r)) c) (drew e λd=>aJ B_ d (b.add 0) λs=>aJ B_ d (b.add 1) λt=>aJ B_ d (b.add 2) λu=>k (s,(t,u)) d))
def Pq a:E [.ag,.p] [.i B_,.i B_,.i B_] [(ou,vN a)] 33562102 [(6,[]),(7,[(11,(.i B_))])] f63=u_2 (yh a):=aZ
def dz:=yh aO
abbrev Pr:bt:=ana dz
def Fj:SS tw (ana dz):=so func63 (.c qG .z) (Pq aO)
def zV(A:T81):W8:=λb w k=>an (eA b) (k K_ w) (en b w 19 λr=>cz (S:=Unit) (λt=>jD (S:=Int) (λu f d=>an (L_ (f<((r.n:Nat):Int))) (cN r f 1 λv=>aQ d v λp8=>en p8 d 5 λg=>an (L_ (((g.n:Nat):Int)>0)) (k K_ d) (u (aF B_ (f+1)) d)) (t () d)) 0 w) λz h=>drew h λa=>en b a 11 λj=>cN j 0 1 λl=>aQ a l λp17=>qA7 p17 1 a 3 λe=>u7 b a 7 λp=>A e p a λc q=>(k (L_ ((c.1,(c.2.1,c.2.2)).1>=2)) q))
def Rm a:E [.p] [.b] [(tw,ana a)] 16900661 [(5,[]),(6,[(15,(.i B_))])] f46=zV a:=aZ
def cA:=zV dz
def zW:SS tX (LR cA):=so func46 (.c Fj .z) (Rm dz)
def cS:T3:=λa w k=>an (eA a) (k 2 w) (qJ7 a B_ w 21 λd=>k d w)
def CQ:SS vX (Bl cS):=sl 21 [] func31
def eb:T7:=λb w k=>aE w b 102 λd c=>aJ B_ c (d.add 1) λe=>HI B_ 1 e λf=>k (aF B_ (f - 1)) c
def GJ:SS zJ (xY eb):=sl 6 [] func185
def zX(t:T2)(u:T7)(v:T9):T69:=λg a w k=>aE w g 102 λe h=>cz (S:=Bool) (λo=>an (eA a) (o J_ h) (bx 3 h e λi=>t i h λq r=>o (!q) r)) λs p=>an s (k 0 p) (drew p λf=>bx 3 f e λb=>aJ B_ f (e.add 0) λj=>u b f λl d=>ai 1 (e.add 0) f d (v a (aF B_ (j+1)) d λm n=>k (Ti B_ l m) n))
def Rn a c d:E [.ag,.p] [.i B_] [(qB,Jj a),(zJ,xY c),(ou,vN d)] 2070 [(1,[(11,.b)])] f125=u_2 (zX a c d):=aZ
def ec:=zX cf eb aO
def GK:SS zI (arR ec):=so func125 (.c ya (.c GJ (.c qG .z))) (Rn cf eb aO)
def kK:T59:=λNE a w k=>an ((L_ (a>=0))&&(L_ (a<64))) (amA B_ NE a λc=>k ((oH B_ c 1)==1) w) (k K_ w)
def Rq:SS Kl (am3 kK):=sl 19 [] func81
def CR(l:T69)(m:T59):T53:=λa b c w k=>aE w a 102 λf e=>bx 3 e f λd=>l d b e λg h=>m g c h λi j=>k i j
def Vx a c:E [.ag,.p,.i B_] [.b] [(zI,arR a),(Kl,am3 c)] 78 [] f78=u_3 (CR a c):=aZ
def dA:=CR ec kK
def Jq:SS sS (acs dA):=so func78 (.c GK (.c Rq .z)) (Vx ec kK)
def jW:T3:=λa w k=>an (eA a) (k 0 w) (en a w 0 λc=>k ((c.n:Nat):Int) w)
def Ps:SS E0 (Bl jW):=sl 21 [] func73
def yj(o:T3)(p:T9):T53:=λf a agT w k=>aE w f 99 λd h=>drew h λb=>an (!(eA a)) (aJ B_ b (d.add 0) λi=>an (L_ (i>=0)) (aJ B_ b (d.add 0) λj=>o a b λl e=>ai 1 (d.add 0) b e (an (L_ (j<l)) (aJ B_ e (d.add 0) λm=>p a m e λn g=>k (n==agT) g) (k K_ e))) (k K_ b)) (k K_ b)
def Pt a c:E [.ag,.p,.i B_] [.b] [(E0,Bl a),(ou,vN c)] 78 [] f126=u_3 (yj a c):=aZ
def jX:=yj jW aO
def Pu:SS E1 (acs jX):=so func126 (.c Ps (.c qG .z)) (Pt jW aO)
def zY(n:T53):T64:=λa c w k=>drew w λb=>an (!(eA a)) (qJ7 a B_ b 1 λg=>an (g==2) (qA7 a 1 b 0 λe=>qJ7 a B_ b 2 λj=>n e c j b λl m=>k l m) (k K_ b)) (k K_ b)
def Rs a:E [.p,.p] [.b] [(E1,acs a)] 19 [] f79=u_2 (zY a):=aZ
def cQ:=zY jX
def GL:SS qZ (aiu cQ):=so func79 (.c Pu .z) (Rs jX)
def ae:T1:=λb a w k=>cz (S:=Bool) (λc=>an (a !=0) (qJ7 b B_ w 21 λg=>c (g==0) w) (c K_ w)) λh d=>an h (v7 b d 21 (Iv a) λj=>k (a !=0) j) (k (a !=0) d)
def bp:SS bg (qu ae):=sl 8211 [(1,[(13,.b)])] func153
def cG:T3:=λcZ w k=>cz (S:=Bool) (λb=>an (eA cZ) (b J_ w) (qJ7 cZ B_ w 12 λe=>an (e !=2) (qJ7 cZ B_ w 12 λg=>b (g !=1) w) (b K_ w))) λh c=>an h (k 0 c) (qJ7 cZ B_ c 13 λj=>k j c)
def Ci:SS qp (Bl cG):=sl 262149 [(1,[(18,.b)])] func168
def bi:Xa:=λa b axu w k=>v7 a w 18 (Iv b) λd=>v7 a d 19 axu λf=>v7 a f 7 (.func (F_ lR) #[IB a] #[]) λh=>k () h
def ri:SS ph (LS bi):=sl 0 [] func167
def dx:T68:=λa axv aBl axw w k=>v7 a w 15 axv λc=>v7 a c 16 aBl λe=>v7 a e 17 axw λg=>v7 a g 7 (.func (F_ lS) #[IB a] #[]) λi=>k () i
def Ep:SS wc (arQ dx):=sl 0 [] func169
def wA(h:T3)(bi:Xa)(dx:T68):T27:=λaiB a w k=>an (aiB==1) (drew w λb=>aQ b a λp2=>aQ b a λp3=>u7 p3 b 8 λp5=>aQ b a λp6=>h p5 b λf c=>ai 1 a b c (ai 1 a b c (bi p2 f (.func (F_ gB) #[IB p6] #[]) c λ_u g=>k () g))) (aQ w a λp10=>aQ w a λp11=>dx p10 (.func (F_ kD) #[] #[]) (.func (F_ oJ) #[] #[IB (G_ a)]) (.func (F_ qC) #[IB p11] #[]) w λ_u d=>k () d)
def NF b c d:E [.i B_,.a] [] [(qp,Bl b),(ph,LS c),(wc,arQ d)] 18 [] f166=u_2 (wA b c d):=aZ
def gF:=wA cG bi dx
abbrev Er:bt:=H7 gF
def NG:SS pT (H7 gF):=so func166 (.c Ci (.c ri (.c Ep .z))) (NF cG bi dx)
def jP:W7:=λa w k=>aE w a 144 λf e=>bx 2 e f λb=>kT zr6 0 2 b λc=>kT #[Iv 0,Iv 0,Iv 0,Iv 0,Iv 0,Iv 0,Iv 0,Iq K_,Iv 0,Iv 0,IB H_,C_,Iv 0,Iv 0,Iv 0] 0 6 c λd=>rZ (.func (F_ pn) #[] #[]) (aE e (eS d 11 (.func (F_ pn) #[] #[])) 289 λg h=>k (G_ g) h)
def Rt:SS zK (HZ jP):=sl 6 [] func270
def bq:T39:=λa asW asX w k=>v7 a w 8 (IB asW) λc=>v7 a c 9 asX λe=>v7 a e 7 (.func (F_ kW) #[IB a] #[]) λg=>k () g
def tC:SS mP (acm bq):=sl 0 [] func164
def jv:T58:=λa Xw w k=>aE w a 102 λf e=>bx 3 e f λb=>kT #[Iv 0,Iv 0,Iv 0,Iv 0,Iv 0,Iv 0,Iv 0,C_] 0 3 b λc=>aE e (eS (eS c 3 (Iv Xw)) 6 (Iv (-1))) 346 λd g=>bN g (d.add 7) (.func (F_ u9) #[IB (G_ d)] #[]) λh=>k (G_ d) h
def NH:SS DX (ait jv):=sl 54 [] func216
def yl(B:T58):T0:=λa w k=>nn a λt=>He w (t.add 14) λu=>an u (v7 a w 7 (.func (F_ gB) #[IB a] #[]) λx=>k () x) (drew w λc=>qJ7 a B_ c 1 λz=>u7 a c 0 λp9=>nn p9 λf=>aJ B_ c (aY (f.add 1) 0) λg=>an (L_ (z>=g)) (drew c λb=>u7 a b 0 λp14=>qA7 p14 3 b 14 λe=>qJ7 a B_ b 1 λl=>B e l b λp19 m=>v7 a m 12 (IB p19) λo=>v7 a o 7 (.func (F_ lT) #[IB a] #[]) λq=>k () q) (v7 a c 7 (.func (F_ mI) #[IB a] #[]) λs=>k () s))
def Pv a:E [.p] [] [(DX,ait a)] 131201 [] f172=yl a:=aZ
def iq:=yl jv
abbrev Fk:bt:=bZ iq
def Px:SS qC (bZ iq):=so func172 (.c NH .z) (Pv jv)
def jY:W7:=λa w k=>aE w a 102 λf e=>bx 3 e f λb=>kT #[Iv 0,Iv 0,Iv 0,Iv 0,Iv 0,Iv 0,Iv 0,C_] 0 3 b λc=>aE e (eS c 6 (Iv (-1))) 346 λd g=>bN g (d.add 7) (.func (F_ vg) #[IB (G_ d)] #[]) λh=>k (G_ d) h
def Py:SS E6 (HZ jY):=sl 14 [] func391
def fh:T3:=λa w k=>an (eA a) (k 2 w) (qJ7 a B_ w 1 λd=>an (d !=1) (k 19 w) (v7 a w 1 (Iv 2) λf=>k 0 f))
def Jr:SS CH (Bl fh):=sl 77 [] func252
def vo(jY:W7)(fh:T3)(ae:T1):T0:=λa w k=>nn a λH=>He w (H.add 14) λI=>an I (qV7 a w 24 λL=>v7 a w 7 L λN=>k () N) (cz (S:=Bool) (λG=>u7 a w 20 λp9=>an (!(eA p9)) (nn a λh=>He w (h.add 22) λi=>G (!i) w) (G K_ w)) λj b=>an j (v7 a b 7 (.func (F_ kE) #[IB a] #[]) λm=>k () m) (nn a λn=>He b (n.add 23) λo=>an (!o) (u7 a b 0 λp19=>qA7 p19 3 b 14 λd=>jY d b λr s=>v7 a s 12 (IB r) λu=>v7 a u 7 (.func (F_ mW) #[IB a] #[]) λx=>k () x) (drew b λc=>nn a λe=>aQ c (e.add 0) λy=>u7 a c 4 λA=>fh A c λB f=>ai 1 (e.add 0) c f (ae y B f λC g=>an (!C) (v7 a g 7 (.func (F_ nA) #[IB a] #[]) λF=>k () F) (k () g)))))
def L4 a c d:E [.p] [] [(E6,HZ a),(CH,Bl c),(bg,qu d)] 281476050718721 [(4,[(30,.b)])] f384=vo a c d:=aZ
def fE:=vo jY fh ae
abbrev Dj:bt:=bZ fE
def L5:SS py (bZ fE):=so func384 (.c Py (.c Jr (.c bp .z))) (L4 jY fh ae)
def wB(jP:W7)(bq:T39)(iq:T0)(fE:T0):T0:=λb w k=>en b w 13 λz=>an (((z.n:Nat):Int)==0) (qV7 b w 17 λB=>nj (kC [(zK,(HZ jP)),(mP,(acm bq)),(qC,(bZ iq)),(py,(bZ fE))]) B #[] w λC D=>Is [] C fun(H:Unit)=>k () D) (drew w λd=>u7 b d 0 λp10=>en p10 d 19 λi=>en b d 13 λl=>cN l 0 1 λm=>aJ B_ d m λo=>cN i o 1 λp=>aQ d p λp18=>en b d 13 λr=>slL r 1 1 λe=>v7 b d 13 (S_ e) λf=>qA7 p18 2 f 2 λg=>jP g f λu v=>bq b u (.func (F_ r9) #[IB b] #[]) v λ_u x=>k () x)
def NI a b c d:E [.p] [] [(zK,HZ a),(mP,acm b),(qC,bZ c),(py,bZ d)] 261 [] f247=wB a b c d:=aZ
def bR:=wB jP bq iq fE
def wC:SS nU (bZ bR):=so func247 (.c Rt (.c tC (.c Px (.c L5 .z)))) (NI jP bq iq fE)
def ix:Vl:=λa w k=>k J_ w
abbrev uB:bt:=A8 ix
def K9:SS kD (A8 ix):=sl 4 [] func170
def zZ(p:T35):asj:=λa b asY w k=>aE w #[Iv b,Iv asY] 3 λh i=>p a (Sl.mk (G_ h) 2 2) i λj g=>an (!j) (k K_ g) (jD (S:=Int) (λl d c=>an (L_ (d>asY)) (en a c 0 λn=>cN n d 3 λe=>aJ B_ c (e.add 0) λf=>l f c) (k (d==asY) c)) b g)
def Ru a:E [.p,.i B_,.i B_] [.b] [(tS,UL a)] 36935 [(5,[(1,(.i B_))])] f383=u_3 (zZ a):=aZ
def jQ:=zZ dG
def Rv:SS GA (asm jQ):=so func383 (.c Hx .z) (Ru dG)
def wD(jQ:asj):T72:=λb l n m w k=>drew w λc=>aQ c l λp2=>u7 p2 c 0 λp4=>u7 p4 c 8 λp6=>aJ B_ c n λq=>jQ p6 b q c λr a=>an r (k J_ a) (aQ a m λp10=>an (!(eA p10)) (aQ a l λp11=>u7 p11 a 0 λp13=>u7 p13 a 8 λp15=>aQ a m λp16=>qJ7 p16 B_ a 0 λh=>jQ p15 b h a λi j=>k i j) (k K_ a))
def NJ c:E [.i B_,.a,.a,.a] [.b] [(GA,asm c)] 47 [] f382=u_4 (wD c):=aZ
def gG:=wD jQ
abbrev wE:bt:=am7 gG
def NK:SS lY (am7 gG):=so func382 (.c Rv .z) (NJ jQ)
def Bu(n:T3)(o:T0)(ix:Vl)(gG:T72):T28:=λa asZ w k=>cz (S:=Bool) (λj=>drew w λb=>an (asZ !=2) (j J_ b) (nn a λl=>tH b (l.add 15) λp=>u7 a b 8 λp6=>n p6 b λr m=>ai 1 (l.add 15) b m (nj (kC [(qp,(Bl n)),(nU,(bZ o)),(kD,(A8 ix)),(lY,(am7 gG))]) p #[Iv r] m λs d=>Ir s λe=>j (!e) d))) λf c=>an f (o a c λ_u g=>k () g) (v7 a c 9 (.func (F_ qE) #[IB a] #[]) λi=>k () i)
def TK a c d e:E [.p,.i B_] [] [(qp,Bl a),(nU,bZ c),(kD,A8 d),(lY,am7 e)] 262145 [(0,[(18,.b)])] f271=u_2 (Bu a c d e):=aZ
def jM:=Bu cG bR ix gG
abbrev Ii:bt:=Ky jM
def TM:SS r9 (Ky jM):=so func271 (.c Ci (.c wC (.c K9 (.c NK .z)))) (TK cG bR ix gG)
def uC(bi:Xa):T27:=λa b w k=>aQ w b λp1=>aQ w b λp2=>bi p1 a (.func (F_ gB) #[IB p2] #[]) w λ_u c=>k () c
def La b:E [.i B_,.a] [] [(ph,LS b)] 0 [] f171=u_2 (uC b):=aZ
def eT:=uC bi
abbrev B1:bt:=H7 eT
def Lb:SS oJ (H7 eT):=so func171 (.c ri .z) (La bi)
def bI:Tq:=λa S2 w k=>v7 a w 25 S2 λc=>v7 a c 12 (IB H_) λe=>v7 a e 7 (.func (F_ mU) #[IB a] #[]) λg=>k () g
def uf:SS q9 (E9 bI):=sl 0 [] func353
def ym(bI:Tq):T28:=λb c w k=>aE w #[IB b] 141 λd h=>aE h #[Iv c] 3 λi e=>aQ e d λp5=>qV7 p5 e 24 λl=>aE e #[C_] 1 λg m=>bN m g l λa=>aQ a d λp11=>bI p11 (.func (F_ pz) #[] #[IB (G_ d),IB (G_ i),IB (G_ g)]) a λ_u f=>k () f
def Pz a:E [.p,.i B_] [] [(q9,E9 a)] 28 [] f377=u_2 (ym a):=aZ
def cW:=ym bI
abbrev Fm:bt:=Ky cW
def Fo:SS mV (Ky cW):=so func377 (.c uf .z) (Pz bI)
def yn(h:T3)(i:T0)(q:T27)(r:T28):T28:=λa asZ w k=>an (asZ==1) (drew w λb=>nn a λf=>tH b (f.add 16) λj=>u7 a b 8 λp5=>h p5 b λm g=>ai 1 (f.add 16) b g (nj (kC [(qp,(Bl h)),(nU,(bZ i)),(oJ,(H7 q)),(mV,(Ky r))]) j #[Iv m] g λn o=>Is [] n fun(p:Unit)=>k () o)) (v7 a w 14 (Iq J_) λd=>i a d λ_u e=>k () e)
def PA a b c d:E [.p,.i B_] [] [(qp,Bl a),(nU,bZ b),(oJ,H7 c),(mV,Ky d)] 33 [] f292=u_2 (yn a b c d):=aZ
def ir:=yn cG bR eT cW
abbrev Fp:bt:=Ky ir
def PB:SS qE (Ky ir):=so func292 (.c Ci (.c wC (.c Lb (.c Fo .z)))) (PA cG bR eT cW)
def cj:Tq:=λa S2 w k=>v7 a w 29 S2 λc=>v7 a c 7 (.func (F_ nu) #[IB a] #[]) λe=>k () e
def yo:SS tB (E9 cj):=sl 0 [] func337
def uD(bi:Xa)(cj:Tq):T27:=λaiB a w k=>an (aiB==4) (drew w λb=>aQ b a λp2=>aQ b a λp3=>qJ7 p3 B_ b 18 λf=>aQ b a λp6=>bi p2 f (.func (F_ gC) #[IB p6] #[]) b λ_u g=>k () g) (aQ w a λp8=>aQ w a λp9=>cj p8 (.func (F_ gC) #[IB p9] #[]) w λ_u c=>k () c)
def Ld b c:E [.i B_,.a] [] [(ph,LS b),(tB,E9 c)] 18 [] f365=u_2 (uD b c):=aZ
def eU:=uD bi cj
abbrev B2:bt:=H7 eU
def Le:SS oM (H7 eU):=so func365 (.c ri (.c yo .z)) (Ld bi cj)
def ah:T8:=λa w k=>drew w λb=>en a b 5 λd=>en a b 5 λf=>cN d (aF B_ (((f.n:Nat):Int) - 1)) 1 λh=>aQ b h λp7=>k p7 b
def cm:SS bX (GB ah):=sl 5 [] func289
def z0(V:T8)(dx:T68):T0:=λW w k=>aE w #[IB W] 141 λb w2=>cz (S:=(P_×P_)) (λG=>drew w2 λa=>aQ a b λp5=>aQ a b λp6=>nn p6 λc=>aQ a (c.add 20) λp8=>both (V p5 a λp9 d=>ai 1 (c.add 20) a d (ai 1 b a d (nn p9 λe=>aJ B_ d (e.add 0) λH=>both (aE d #[Iv 0] 3 λI f=>ai 1 (e.add 0) d f (ai 1 (c.add 20) a f (ai 1 b a f (ai 1 b a f (aE f #[IB H_] 114 λJ g=>ai 1 (e.add 0) d g (ai 1 (c.add 20) a g (ai 1 b a g (ai 1 b a g (bN g I (Iv H) λz=>ai 1 (c.add 20) a z (ai 1 b a z (bN z J (IB p8) λX=>G (I,J) X))))))))))) (aE d #[IB H_] 114 λL h=>ai 1 (e.add 0) d h (ai 1 (c.add 20) a h (ai 1 b a h (ai 1 b a h (aE h #[Iv 0] 3 λM i=>ai 1 (e.add 0) d i (ai 1 (c.add 20) a i (ai 1 b a i (ai 1 b a i (bN i M (Iv H) λA=>ai 1 (c.add 20) a A (ai 1 b a A (bN A L (IB p8) λY=>G (M,L) Y)))))))))))))) (both (aE a #[Iv 0] 3 λr j=>ai 1 (c.add 20) a j (ai 1 b a j (ai 1 b a j (both (V p5 j λZ l=>ai 1 (c.add 20) a l (ai 1 b a l (nn Z λN=>aJ B_ l (N.add 0) λa0=>aE l #[IB H_] 114 λO m=>ai 1 (N.add 0) l m (ai 1 (c.add 20) a m (ai 1 b a m (ai 1 b a m (bN m r (Iv a0) λB=>ai 1 (c.add 20) a B (ai 1 b a B (bN B O (IB p8) λa2=>G (r,O) a2))))))))) (aE j #[IB H_] 114 λP s=>ai 1 (c.add 20) a s (ai 1 b a s (ai 1 b a s (V p5 s λa3 t=>ai 1 (c.add 20) a t (ai 1 b a t (qJ7 a3 B_ t 0 λa5=>bN t r (Iv a5) λC=>ai 1 (c.add 20) a C (ai 1 b a C (bN C P (IB p8) λa6=>G (r,P) a6)))))))))))) (aE a #[IB H_] 114 λu n=>ai 1 (c.add 20) a n (ai 1 b a n (ai 1 b a n (both (V p5 n λa8 o=>ai 1 (c.add 20) a o (ai 1 b a o (nn a8 λQ=>aJ B_ o (Q.add 0) λa9=>aE o #[Iv 0] 3 λR p=>ai 1 (Q.add 0) o p (ai 1 (c.add 20) a p (ai 1 b a p (ai 1 b a p (bN p R (Iv a9) λD=>ai 1 (c.add 20) a D (ai 1 b a D (bN D u (IB p8) λb0=>G (R,u) b0))))))))) (aE n #[Iv 0] 3 λT v=>ai 1 (c.add 20) a v (ai 1 b a v (ai 1 b a v (V p5 v λb1 x=>ai 1 (c.add 20) a x (ai 1 b a x (qJ7 b1 B_ x 0 λb3=>bN x T (Iv b3) λF=>ai 1 (c.add 20) a F (ai 1 b a F (bN F u (IB p8) λb4=>G (T,u) b4)))))))))))))) λU y=>aQ y b λb5=>aQ y b λb6=>aQ y b λb7=>dx b5 (.func (F_ lY) #[] #[IB (G_ b),(IB (G_ U.1)),(IB (G_ U.2))]) (.func (F_ mV) #[IB b6] #[]) (.func (F_ py) #[IB b7] #[]) y λ_u b8=>k () b8
def Rw b c:E [.p] [] [(bX,GB b),(wc,arQ c)] 14 [(1,[(2,.a),(3,.a)])] f369=z0 b c:=aZ
def cu:=z0 ah dx
abbrev z5:bt:=bZ cu
def z6:SS ku (bZ cu):=so func369 (.c cm (.c Ep .z)) (Rw ah dx)
def cV:T22:=λa w k=>aQ w a λp1=>aQ w a λp2=>v7 p1 w 7 (.func (F_ kY) #[IB p2] #[]) λc=>k () c
abbrev wF:bt:=Fa cV
def Es:SS kr (Fa cV):=sl 0 [] func347
def uE(g:T3)(h:T28)(n:T0)(o:T22):T27:=λaiB c w k=>an (aiB !=1) (aQ w c λp1=>qV7 p1 w 27 λj=>nj (kC [(qp,(Bl g)),(mV,(Ky h)),(ku,(bZ n)),(kr,(Fa o))]) j #[] w λl m=>Is [] l fun(p:Unit)=>k () m) (drew w λa=>aQ a c λp8=>aQ a c λp9=>u7 p9 a 8 λp11=>g p11 a λe b=>ai 1 c a b (h p8 e b λ_u f=>k () f))
def Lf b c d e:E [.i B_,.a] [] [(qp,Bl b),(mV,Ky c),(ku,bZ d),(kr,Fa e)] 18 [] f376=u_2 (uE b c d e):=aZ
def eV:=uE cG cW cu cV
abbrev B3:bt:=H7 eV
def Lg:SS oN (H7 eV):=so func376 (.c Ci (.c Fo (.c z6 (.c Es .z)))) (Lf cG cW cu cV)
def vp(p:T6)(q:T3)(r:T1)(B:T27)(C:T28)(D:T28)(F:T27)(G:T27):T0:=λa w k=>drew w λe=>u7 a e 8 λp3=>u7 a e 0 λp5=>u7 p5 e 7 λp7=>qJ7 a B_ e 1 λy=>p p3 p7 y e λd b=>an (d==0) (k () b) (an (d==6) (drew b λc=>nn a λf=>aQ c (f.add 0) λp14=>u7 a c 8 λp16=>q p16 c λi g=>ai 1 (f.add 0) c g (r p14 i g λz j=>k () j)) (qV7 a b 9 λm=>nj (kC [(AX,(ry p)),(Ch,(Bl q)),(bg,(qu r)),(pT,(H7 B)),(r9,(Ky C)),(qE,(Ky D)),(oM,(H7 F)),(oN,(H7 G))]) m #[Iv d] b λn o=>Is [] n fun(A:Unit)=>k () o))
def L6 a b c d e f g h:E [.p] [] [(AX,ry a),(Ch,Bl b),(bg,qu c),(pT,H7 d),(r9,Ky e),(qE,Ky f),(oM,H7 g),(oN,H7 h)] 336068613 [] f212=vp a b c d e f g h:=aZ
def eK:=vp fO iW ae gF jM ir eU eV
abbrev vq:bt:=bZ eK
def L7:SS kW (bZ eK):=so func212 (.c L3 (.c O0 (.c bp (.c NG (.c TM (.c PB (.c Le (.c Lg .z)))))))) (L6 fO iW ae gF jM ir eU eV)
def Bv(o:T6)(aj:Hv):T46:=λb c f d w k=>o b c d w λg e=>an (g !=0) (k (K_,g) e) (en b e 0 λi=>cN i d 3 λj=>aJ B_ e (j.add 2) λm=>aj c f m e λa n=>(k ((((a.1,a.2).2==0)&&((a.1,a.2).1 !=0)),(a.1,a.2).2) n))
def TN a c:E [.p,.p,.i B_,.i B_] [.b,.i B_] [(ol,ry a),(dS,zb c)] 270095 [] f324=u_4 (Bv a c):=aZ
def eG:=Bv bh aj
def Ij:SS Bk (aac eG):=so func324 (.c pW (.c er .z)) (TN bh aj)
def z7(m:T35):T9:=λa b w k=>aE w #[Iv b] 3 λd e=>m a (Sl.mk (G_ d) 1 1) e λf c=>an (!f) (k (-1) c) (en a c 0 λh=>cN h b 3 λi=>aJ B_ c (i.add 0) λl=>k l c)
def Rx a:E [.p,.i B_] [.i B_] [(y9,UL a)] 531 [] f325=u_2 (z7 a):=aZ
def kG:=z7 dk
def Ry:SS Gx (vN kG):=so func325 (.c Ee .z) (Rx dk)
def CS(R:T46)(T:T9):T73:=λLU e i w k=>an ((eA LU)||(eA e)) (k (false,(false,2)) w) (nn LU λJ=>He w (J.add 2) λL=>an L (drew w λI=>nn LU λM=>He I (M.add 3) λN=>k (J_,(N,0)) I) (drew w λj=>u7 LU j 0 λp8=>qJ7 LU B_ j 1 λl=>R p8 e i l j λa g=>an ((a.1,a.2).2 !=0) (k (K_,(K_,(a.1,a.2).2)) g) (v7 LU g 3 (Iq (a.1,a.2).1) λb=>cz (S:=Unit) (λh=>an (a.1,a.2).1 (v7 LU b 2 (Iq J_) λo=>h () o) (qJ7 LU B_ b 1 λq=>v7 LU b 2 (Iq (q==0)) λs=>h () s)) λQ t=>drew t λc=>u7 LU c 0 λv=>qJ7 LU B_ c 1 λy=>T v y c λz A=>v7 LU A 1 (Iv z) λC=>drew C λd=>nn LU λD=>He d (D.add 2) λF=>nn LU λG=>He d (G.add 3) λH=>k (F,(H,0)) d)))
def Vy a c:E [.p,.p,.i B_] [.b,.b,.i B_] [(Bk,aac a),(Gx,vN c)] 4398046777287 [(13,[])] f304=u_3 (CS a c):=aZ
def k7:=CS eG kG
def Vz:SS CI (arU k7):=so func304 (.c Ij (.c Ry .z)) (Vy eG kG)
def aq:Nl:=λa w k=>aE w #[Iv 0,Iv 0] 356 λf g=>drew g λd=>en a d 24 λi=>en a d 24 λl=>cN i (aF B_ (((l.n:Nat):Int) - 1)) 2 λo=>bx 2 d o λe=>dQ 2 d f e λb=>bx 2 b f λc=>k c b
def iO:SS gK (E8 aq):=sl 5 [] func330
def dM:Xa:=λa axx axy w k=>v7 a w 26 (Iv axx) λc=>v7 a c 27 axy λe=>v7 a e 7 (.func (F_ lW) #[IB a] #[]) λg=>k () g
def Fq:SS xW (LS dM):=sl 0 [] func346
def z8(x:T8)(aq:Nl)(dM:Xa):Tq:=λi S2 w k=>aE w #[IB i] 141 λb r=>rZ S2 (aE r #[S2] 1 λj s=>drew s λd=>aQ d b λp6=>aQ d b λp7=>tH d j λt=>v7 p6 d 20 (IB H_) λc=>ai 1 j d c (ai 1 b d c (v7 p7 c 31 t λe=>aQ e b λp13=>v7 p13 e 24 (.func (F_ fN) #[] #[IB (G_ b),IB (G_ j)]) λn=>drew n λa=>aQ a b λp17=>aQ a b λp18=>x p18 a λp19 f=>ai 1 b a f (aq p19 f λg h=>ai 1 b a h (Qq g 1 λo=>xS B_ o λp=>dM p17 p (.func (F_ kr) #[] #[IB (G_ b)]) h λ_u q=>k () q)))))
def Rz a b c:E [.p,.raw] [] [(bX,GB a),(gK,E8 b),(xW,LS c)] 12 [] f327=u_2 (z8 a b c):=aZ
def cF:=z8 ah aq dM
def z9:SS uc (E9 cF):=so func327 (.c cm (.c iO (.c Fq .z))) (Rz ah aq dM)
def wG(j:T8)(cF:Tq):T0:=λc w k=>aE w #[IB c] 141 λb g=>aQ g b λp3=>j p3 g λp4 a=>en p4 a 24 λi=>an (((i.n:Nat):Int)==0) (aQ a b λp8=>aQ a b λp9=>v7 p8 a 7 (.func (F_ n9) #[IB p9] #[]) λe=>k () e) (aQ a b λp12=>cF p12 (.func (F_ oK) #[] #[IB (G_ b)]) a λ_u f=>k () f)
def NL a b:E [.p] [] [(bX,GB a),(uc,E9 b)] 258 [] f305=wG a b:=aZ
def dy:=wG ah cF
def Et:SS wg (bZ dy):=so func305 (.c cm (.c z9 .z)) (NL ah cF)
def Aa(i:T8)(j:T0):T41:=λa axz b w k=>i a w λp1 c=>v7 p1 c 26 (Iv axz) λe=>v7 p1 e 27 (Iv b) λg=>j a g λ_u h=>k () h
def RA a b:E [.p,.i B_,.i B_] [] [(bX,GB a),(wg,bZ b)] 71 [] f286=u_3 (Aa a b):=aZ
def cB:=Aa ah dy
def Ab:SS ua (acn cB):=so func286 (.c cm (.c Et .z)) (RA ah dy)
def tN(c:T41):T0:=λa w k=>c a 4 0 w λ_u b=>k () b
def JQ a:E [.p] [] [(ua,acn a)] 0 [] f268=tN a:=aZ
def bB:=tN cB
abbrev Ba:bt:=bZ bB
def tO:SS j6 (bZ bB):=so func268 (.c Ab .z) (JQ cB)
def vr(e:T0):T50:=λacB a w k=>an acB (aQ w a λp1=>e p1 w λ_u b=>k () b) (aQ w a λp3=>aQ w a λp4=>v7 p3 w 7 (.func (F_ gC) #[IB p4] #[]) λd=>k () d)
def L8 c:E [.b,.a] [] [(j6,bZ c)] 10 [] f267=u_2 (vr c):=aZ
def fF:=vr bB
abbrev Dk:bt:=aae fF
def L9:SS pi (aae fF):=so func267 (.c tO .z) (L8 bB)
def yp(n:T1):W8:=λa w k=>drew w λb=>u7 a b 0 λp3=>qJ7 p3 B_ b 20 λi=>u7 a b 0 λp7=>nn p7 λl=>aJ B_ b (aY (l.add 1) 3) λm=>an (L_ (i>=m)) (u7 a b 0 λp11=>n p11 22 b λe f=>k e f) (k K_ b)
def PC a:E [.p] [.b] [(bg,qu a)] 5 [] f306=yp a:=aZ
def aD:=yp ae
def kQ:SS jT (LR aD):=so func306 (.c bp .z) (PC ae)
def de:T49:=λuw aDF w k=>aE w uw 119 λb i=>aE i D4 119 λe j=>bN j (b.add 1) (Iv aDF) λf=>aJ B_ f (b.add 18) λl=>bN f (b.add 18) (Iv (aF B_ (l+1))) λg=>bx 19 g b λd=>dQ 19 g e d λh=>bx 19 h e λa=>k a h
def Eu:SS tZ (acr de):=sl 22 [] func187
def yq(m:T49):W9:=λuw w k=>aE w uw 119 λf i=>aE i D4 119 λg b=>bx 19 b f λc=>aJ B_ b (f.add 1) λj=>m c (aF B_ (j+1)) b λe l=>dQ 19 l g e λh=>bx 19 h g λa=>k a h
def PD a:E [.ag] [.ag] [(tZ,acr a)] 6 [] f188=yq a:=aZ
def av:=yq de
def kR:SS iU (Kx av):=so func188 (.c Eu .z) (PD de)
def kx:T95:=λuw s w k=>aE w uw 119 λA D=>aE D s 75 λd F=>cz (S:=(P_×P_)) (λB=>drew F λb=>aJ B_ b (d.add 2) λG=>Hf (A.add 2) 8 G 1 λm=>aJ B_ b m λC=>aJ B_ b (d.add 3) λt=>Hf (A.add 2) 8 t 1 λc=>aJ B_ b c λn=>both (aE b #[Iv 0] 2 λo e=>ai 1 c b e (ai 1 (d.add 3) b e (ai 1 m b e (ai 1 (d.add 2) b e (aE e #[Iv 0] 2 λp f=>ai 1 c b f (ai 1 (d.add 3) b f (ai 1 m b f (ai 1 (d.add 2) b f (bN f o (Iv C) λj=>ai 1 c b j (ai 1 (d.add 3) b j (bN j p (Iv n) λu=>B (o,p) u))))))))))) (aE b #[Iv 0] 2 λq g=>ai 1 c b g (ai 1 (d.add 3) b g (ai 1 m b g (ai 1 (d.add 2) b g (aE g #[Iv 0] 2 λr h=>ai 1 c b h (ai 1 (d.add 3) b h (ai 1 m b h (ai 1 (d.add 2) b h (bN h r (Iv C) λl=>ai 1 c b l (ai 1 (d.add 3) b l (bN l q (Iv n) λv=>B (r,q) v)))))))))))) λa x=>rZ (.func (F_ oy) #[] #[IB (G_ d)]) (rZ (.func (F_ oz) #[] #[(IB (G_ a.1))]) (rZ (.func (F_ oA) #[] #[(IB (G_ a.1)),(IB (G_ a.2))]) (rZ (.func (F_ oB) #[] #[(IB (G_ a.1)),(IB (G_ a.2))]) (rZ (.func (F_ oC) #[] #[(IB (G_ a.1)),(IB (G_ a.2))]) (rZ (.func (F_ oD) #[] #[(IB (G_ a.1)),(IB (G_ a.2))]) (aE x #[(.func (F_ oy) #[] #[IB (G_ d)]),(.func (F_ oz) #[] #[(IB (G_ a.1))]),(.func (F_ oA) #[] #[(IB (G_ a.1)),(IB (G_ a.2))]),(.func (F_ oB) #[] #[(IB (G_ a.1)),(IB (G_ a.2))]),(.func (F_ oC) #[] #[(IB (G_ a.1)),(IB (G_ a.2))]),(.func (F_ oD) #[] #[(IB (G_ a.1)),(IB (G_ a.2))])] 86 λy z=>k (Sl.mk (G_ y) 6 6) z))))))
def TP:SS Bj (ar5 kx):=sl 124 [(1,[(5,.a),(6,.a)])] func189
def mJ:T56:=λa w k=>aJ B_ w (a.add 4) λc=>k c w
def PE:SS oy (ae2 mJ):=sl 3 [] func228
def mK:T56:=λa w k=>aJ B_ w a λc=>k c w
def PF:SS oz (ae2 mK):=sl 3 [] func229
def mL:T32:=λb c w k=>aJ B_ w b λd=>aJ B_ w c λe=>k (aF B_ (d+e)) w
def PG:SS oA (OY mL):=sl 7 [] func230
def mM:T32:=λb c w k=>aJ B_ w b λd=>aJ B_ w c λe=>k (aF B_ (d - e)) w
def PI:SS oB (OY mM):=sl 7 [] func231
def mN:T32:=λb c w k=>aJ B_ w b λd=>aJ B_ w c λe=>k (aF B_ (d*e)) w
def PJ:SS oC (OY mN):=sl 7 [] func232
def mX:T96:=λacB w k=>an acB (k 1 w) (k 0 w)
def Xx:SS Nk (ar6 mX):=sl 13 [] func234
def Fs(h:T96):T32:=λb c w k=>aJ B_ w b λd=>aJ B_ w c λe=>h (L_ (d<e)) w λf g=>k f g
def PK b:E [.a,.a] [.i B_] [(Nk,ar6 b)] 7 [] f233=u_2 (Fs b):=aZ
def mO:=Fs mX
def PL:SS oD (OY mO):=so func233 (.c Xx .z) (PK mX)
def Ac(fa:T7)(de:T49)(av:W9)(kx:T95)(mJ:T56)(mK:T56)(mL:T32)(mM:T32)(mN:T32)(mO:T32):ar7:=λuw J w k=>aE w uw 119 λh w2=>aE w2 J 75 λd w4=>aE w4 D4 119 λe w6=>bx 5 w6 d λL=>fa L w6 λi8 f=>an (i8 !=0) (bx 19 f h λj=>dQ 19 f e j λl=>bx 19 l e λm=>k (m,K_) l) (aJ B_ f (d.add 0) λn=>cz (S:=Bool) (λi=>an (n==6) (i (n==6) f) (aJ B_ f (d.add 0) λM=>an (M==7) (aJ B_ f (d.add 1) λN=>Hf (h.add 2) 8 N 1 λO=>aJ B_ f O λP=>i (P !=0) f) (i K_ f))) λQ a=>an Q (bx 19 a h λo=>aJ B_ a (d.add 4) λR=>de o R a λp T=>dQ 19 T e p λq=>bx 19 q e λr=>k (r,J_) q) (aJ B_ a (d.add 0) λU=>an (U==7) (bx 19 a h λs=>av s a λt V=>dQ 19 V e t λu=>bx 19 u e λv=>k (v,J_) u) (aJ B_ a (d.add 0) λW=>an (L_ (W>5)) (bx 19 a h λx=>dQ 19 a e x λy=>bx 19 y e λz=>k (z,K_) y) (drew a λc=>aJ B_ c (d.add 1) λX=>bx 19 c h λA=>bx 5 c d λB=>aJ B_ c (d.add 0) λY=>kx A B c λZ g=>ai 1 (d.add 0) c g (ai 1 (d.add 1) c g (cN Z Y 1 λa0=>tH g a0 λa2=>nj (kC [(BX,(xY fa)),(tZ,(acr de)),(iU,(Kx av)),(Bj,(ar5 kx)),(oy,(ae2 mJ)),(oz,(ae2 mK)),(oA,(OY mL)),(oB,(OY mM)),(oC,(OY mN)),(oD,(OY mO))]) a2 #[] g λa4 C=>xS B_ a4 λa6=>ai 1 (d.add 1) c C (Hf (h.add 2) 8 X 1 λa7=>bN C a7 (Iv a6) λD=>bx 19 D h λF=>av F D λG a8=>dQ 19 a8 e G λH=>bx 19 H e λI=>k (I,J_) H)))))))
def RB a c d e f g h i j l:E [.ag,.ag] [.ag,.b] [(BX,xY a),(tZ,acr c),(iU,Kx d),(Bj,ar5 e),(oy,ae2 f),(oz,ae2 g),(oA,OY h),(oB,OY i),(oC,OY j),(oD,OY l)] 34896610620 [(6,[(10,.b)])] f139=u_2 (Ac a c d e f g h i j l):=aZ
def jc:=Ac fa de av kx mJ mK mL mM mN mO
def RC:SS Gv (ar8 jc):=so func139 (.c K6 (.c Eu (.c kR (.c TP (.c PE (.c PF (.c PG (.c PI (.c PJ (.c PL .z)))))))))) (RB fa de av kx mJ mK mL mM mN mO)
def Ae(aD:W8)(ah:T8)(jc:ar7):T71:=λa t w k=>aE w t 75 λs T=>aD a T λU Q=>an U (k () Q) (ah a Q λp5 V=>cz (S:=(P_×Bool)) (λR=>drew V λd=>nn p5 λu=>bx 19 d (u.add 4) λe=>bx 5 d s λf=>both (jc e f d λb v=>aE v D4 119 λn g=>ai 5 s d g (ai 19 (u.add 4) d g (dQ 19 g n (b.1,b.2).1 λx=>R (n,(b.1,b.2).2) x))) (aE d D4 119 λo h=>ai 5 s d h (ai 19 (u.add 4) d h (jc e f h λc y=>dQ 19 y o (c.1,c.2).1 λz=>R (o,(c.1,c.2).2) z)))) λp i=>an p.2 (bx 19 i p.1 λq=>nn p5 λA=>dQ 19 i (A.add 4) q λj=>u7 a j 0 λr=>qJ7 r B_ j 20 λD=>v7 r j 20 (Iv (aF B_ (D+1))) λG=>v7 a G 7 (.func (F_ gC) #[IB a] #[]) λI=>k () I) (rZ (.func (F_ lH) #[IB a] #[]) (rZ (.func (F_ js) #[IB a] #[]) (rZ (.func (F_ js) #[IB a] #[]) (rZ (.func (F_ lI) #[IB a] #[]) (rZ (.func (F_ kO) #[IB a] #[]) (rZ (.func (F_ kq) #[IB a] #[]) (rZ (.func (F_ lJ) #[IB a] #[]) (rZ (.func (F_ iV) #[IB a] #[]) (rZ (.func (F_ iV) #[IB a] #[]) (aE i #[(.func (F_ lH) #[IB a] #[]),(.func (F_ js) #[IB a] #[]),(.func (F_ js) #[IB a] #[]),(.func (F_ lI) #[IB a] #[]),(.func (F_ kO) #[IB a] #[]),(.func (F_ kq) #[IB a] #[]),(.func (F_ lJ) #[IB a] #[]),(.func (F_ iV) #[IB a] #[]),(.func (F_ iV) #[IB a] #[])] 1 λJ m=>aJ B_ m (s.add 0) λL=>cN (Sl.mk (G_ J) 9 9) (aF B_ (L - 8)) 1 λM=>tH m M λN=>v7 a m 7 N λP=>k () P)))))))))))
def RD c d e:E [.p,.ag] [] [(jT,LR c),(bX,GB d),(Gv,ar8 e)] 2097913 [(4,[(5,.a),(6,.b)])] f288=u_2 (Ae c d e):=aZ
def ej:=Ae aD ah jc
def GM:SS zL (arT ej):=so func288 (.c kQ (.c cm (.c RC .z))) (RD aD ah jc)
def wH(f:T0)(g:T71):T74:=λacB b c w k=>an acB (aQ w b λp1=>f p1 w λ_u d=>k () d) (aQ w b λp3=>bx 5 w c λa=>g p3 a w λ_u e=>k () e)
def NM c d:E [.b,.a,.a] [] [(j6,bZ c),(zL,arT d)] 22 [] f290=u_3 (wH c d):=aZ
def gH:=wH bB ej
abbrev Ew:bt:=am8 gH
def NN:SS pU (am8 gH):=so func290 (.c tO (.c GM .z)) (NM bB ej)
def uF(bI:Tq):T50:=λacB a w k=>an acB (aQ w a λp1=>aQ w a λp2=>bI p1 (.func (F_ j6) #[IB p2] #[]) w λ_u b=>k () b) (aQ w a λp4=>aQ w a λp5=>v7 p4 w 7 (.func (F_ mT) #[IB p5] #[]) λd=>k () d)
def Lh c:E [.b,.a] [] [(q9,E9 c)] 10 [] f352=u_2 (uF c):=aZ
def eW:=uF bI
abbrev B4:bt:=aae eW
def Li:SS oL (aae eW):=so func352 (.c uf .z) (Lh bI)
def vt(m:T73)(n:T1)(v:T50)(x:T74)(y:T50):T0:=λb w k=>drew w λd=>u7 b d 10 λp3=>u7 b d 0 λp5=>u7 p5 d 7 λp7=>qJ7 b B_ d 1 λt=>m p3 p7 t d λa e=>u7 b e 0 λp13=>n p13 (a.1,(a.2.1,a.2.2)).2.2 e λg c=>an ((!g)&&(a.1,(a.2.1,a.2.2)).1) (qV7 b c 11 λi=>nj (kC [(CI,(arU m)),(bg,(qu n)),(pi,(aae v)),(pU,(am8 x)),(oL,(aae y))]) i #[(Iq (a.1,(a.2.1,a.2.2)).2.1)] c λj l=>Is [] j fun(u:Unit)=>k () l) (k () c)
def Ma a b c d e:E [.p] [] [(CI,arU a),(bg,qu b),(pi,aae c),(pU,am8 d),(oL,aae e)] 17179869213 [] f285=vt a b c d e:=aZ
def eL:=vt k7 ae fF gH eW
abbrev vu:bt:=bZ eL
def Mb:SS kX (bZ eL):=so func285 (.c Vz (.c bp (.c L9 (.c NN (.c Li .z))))) (Ma k7 ae fF gH eW)
def Bw(j:T36):T34:=λa b c w k=>aE w a 99 λf d=>aJ B_ d (f.add 0) λh=>j b c h 1 d λe i=>k (e.1,e.2).2 i
def TQ a:E [.ag,.p,.i B_] [.i B_] [(ko,aab a)] 334 [] f154=u_3 (Bw a):=aZ
def eH:=Bw aL
def Ik:SS Bi (OZ eH):=so func154 (.c nB .z) (TQ aL)
def Af(u:T34)(v:T1):T0:=λa w k=>drew w λb=>nn a λp=>aQ b (p.add 0) λp3=>u7 a b 0 λp5=>qA7 p5 1 b 12 λe=>u7 a b 0 λp9=>u7 p9 b 7 λp11=>qJ7 a B_ b 1 λh=>u e p11 h b λi d=>ai 1 (p.add 0) b d (v p3 i d λj c=>an (!j) (qV7 a c 29 λm=>v7 a c 7 m λo=>k () o) (k () c))
def RE a b:E [.p] [] [(Bi,OZ a),(bg,qu b)] 67108865 [] f356=Af a b:=aZ
def gT:=Af eH ae
abbrev Ag:bt:=bZ gT
def RF:SS nu (bZ gT):=so func356 (.c Ik (.c bp .z)) (RE eH ae)
def FO(aj:Hv):Vm:=λb c d w k=>aE w b 100 λf e=>aJ B_ e (f.add 0) λh=>aj c d h e λa i=>k ((a.1,a.2).1,(a.1,a.2).2) i
def YM a:E [.ag,.p,.i B_] [.i B_,.i B_] [(dS,zb a)] 206 [] f244=u_3 (FO a):=aZ
def oT:=FO aj
def YN:SS LQ (Jl oT):=so func244 (.c er .z) (YM aj)
def mA:T3:=λb w k=>cz (S:=Bool) (λx=>an (eA b) (x J_ w) (en b w 0 λz=>x (((z.n:Nat):Int)==0) w)) λA i=>an A (k 0 i) (en b i 0 λC=>cN C 0 1 λD=>aJ B_ i D λF=>drew i λd=>en b d 0 λe=>en b d 0 λo=>slL o 1 1 λf=>U1 Tryz.prog #[156,156] 3 [S_ e,S_ f] d λG p=>drew p λg=>en b g 0 λr=>en b g 0 λt=>Th r 1 0 (aF B_ (((t.n:Nat):Int) - 1)) λh=>v7 b g 0 (S_ h) λv=>k F v)
def VA:SS Jf (Bl mA):=sl 8205 [(1,[(13,.b)])] func246
def rj:T98:=λl Xw g aDG axA w k=>an ((((L_ (g<1))||(decide (g>16)))||(decide (Xw<0)))||(decide (Xw>=g))) (k ((Sl.mk none 0 0),10) w) (cz (S:=Sl) (λB=>jD (S:=(Sl×Int)) (λy d m=>an (L_ (d.2<g)) (cz (S:=Bool) (λz=>an (d.2 !=Xw) (amA B_ (tU B_ aDG axA) d.2 λC=>z ((oH B_ C 1)==1) m) (z K_ m)) λD A=>an D (aE A #[Iv d.2] 3 λF o=>og Tryz.prog #[69,69] 69 [S_ d.1,(IC (G_ F) 1 1)] o λp q=>y (p,(aF B_ (d.2+1))) q) (y (d.1,(aF B_ (d.2+1))) A)) (B d.1 m)) ((Sl.mk H_ 0 0),0) w) λb j=>an (((b.n:Nat):Int)==0) (k ((Sl.mk H_ 0 0),0) j) (amz l ((b.n:Nat):Int) λr=>amz (aF B_ (r+((b.n:Nat):Int))) ((b.n:Nat):Int) λs=>xz Tryz.prog 69 (Iv ((b.n:Nat):Int)) (Iv ((b.n:Nat):Int)) j λf t=>slL b 1 s λh=>U1 Tryz.prog #[69,69] 3 [S_ f,S_ h] t λu v=>slL f 1 u λi=>U1 Tryz.prog #[69,69] 3 [S_ i,S_ b] v λG x=>k (f,0) x))
def aef:SS UI (az5 rj):=sl 72339133439409183 [(6,[(12,.s)]),(7,[(12,.s),(34,(.i B_))]),(12,[(48,.b)])] func245
def wI(oT:Vm)(ae:T1)(mA:T3)(ec:T69)(rj:T98)(bR:T0):T0:=λd w k=>drew w λm=>u7 d m 0 λp3=>qA7 p3 1 m 13 λy=>u7 d m 0 λp7=>u7 p7 m 7 λp9=>qJ7 d B_ m 1 λB=>oT y p9 B m λg o=>u7 d o 0 λp15=>ae p15 (g.1,g.2).2 o λD p=>an D (k () p) (drew p λb=>u7 d b 0 λG=>u7 G b 18 λI=>nn d λi=>aJ B_ b (i.add 1) λJ=>nn d λj=>aQ b (j.add 0) λL=>nn L λl=>cy b (l.add 19) λM=>nn d λq=>aQ b (q.add 0) λN=>nn N λr=>bx 3 b (r.add 14) λs=>nn d λt=>aQ b (t.add 0) λO=>nn O λu=>aQ b (u.add 7) λP=>mA I b λQ e=>ai 1 (u.add 7) b e (ai 1 (t.add 0) b e (ai 3 (r.add 14) b e (ai 1 (q.add 0) b e (ai 1 (l.add 19) b e (ai 1 (j.add 0) b e (ai 1 (i.add 1) b e (ec s P e λR h=>ai 1 (l.add 19) b h (ai 1 (j.add 0) b h (ai 1 (i.add 1) b h (rj Q J ((M.n:Nat):Int) R (g.1,g.2).1 h λf v=>u7 d v 0 λT=>ae T (f.1,f.2).2 v λU x=>an U (k () x) (v7 d x 13 (S_ f.1) λW=>bR d W λ_u X=>k () X))))))))))))
def NO a b c d e f:E [.p] [] [(LQ,Jl a),(bg,qu b),(Jf,Bl c),(zI,arR d),(UI,az5 e),(nU,bZ f)] 302231454903661588643869 [] f215=wI a b c d e f:=aZ
def fj:=wI oT ae mA ec rj bR
abbrev wJ:bt:=bZ fj
def NP:SS lS (bZ fj):=so func215 (.c YN (.c bp (.c VA (.c GK (.c aef (.c wC .z)))))) (NO oT ae mA ec rj bR)
def FP(m:T36):T47:=λc b a acC w k=>aE w c 100 λh d=>an (eA b) (k 2 d) (an ((L_ (a<0))||(decide (a>16))) (k 10 d) (drew d λf=>aJ B_ f (h.add 0) λi=>HI B_ acC a λj=>m b a i j f λg l=>k (g.1,g.2).2 l))
def YO a:E [.ag,.p,.i B_,.i B_] [.i B_] [(ko,aab a)] 19742 [] f273=u_4 (FP a):=aZ
def iC:=FP aL
def Mc:SS FE (aad iC):=so func273 (.c nB .z) (YO aL)
def Ey(i:T47):T34:=λa b c w k=>aE w a 100 λf e=>bx 1 e f λd=>i d b c 1 e λg h=>k g h
def Xy a:E [.ag,.p,.i B_] [.i B_] [(FE,aad a)] 78 [] f251=u_3 (Ey a):=aZ
def nK:=Ey iC
def Xz:SS Ks (OZ nK):=so func251 (.c Mc .z) (Xy iC)
def By(G:T34)(A:T1)(H:T3):T0:=λa w k=>cz (S:=Bool) (λy=>drew w λc=>nn a λz=>aQ c (z.add 0) λp4=>u7 a c 0 λp6=>qA7 p6 1 c 13 λh=>u7 a c 0 λp10=>u7 p10 c 7 λp12=>qJ7 a B_ c 1 λl=>G h p12 l c λm d=>ai 1 (z.add 0) c d (A p4 m d λn b=>an n (y J_ b) (nn a λe=>aQ b (e.add 0) λo=>u7 a b 4 λq=>H q b λr f=>ai 1 (e.add 0) b f (A o r f λs t=>y s t)))) λu g=>an u (k () g) (v7 a g 7 (.func (F_ nr) #[IB a] #[]) λx=>k () x)
def TR a c d:E [.p] [] [(Ks,OZ a),(bg,qu c),(CH,Bl d)] 137438953473 [(0,[(37,.b)])] f218=By a c d:=aZ
def iP:=By nK ae fh
abbrev Bz:bt:=bZ iP
def TS:SS mI (bZ iP):=so func218 (.c Xz (.c bp (.c Jr .z))) (TR nK ae fh)
def eu:T0:=λa w k=>an (!(eA a)) (v7 a w 1 (Iv 0) λc=>k () c) (k () w)
def Il:SS uR (bZ eu):=sl 9 [] func274
def Ez(i:T47):T34:=λa b c w k=>aE w a 100 λf e=>bx 1 e f λd=>i d b c (-1) e λg h=>k g h
def XA a:E [.ag,.p,.i B_] [.i B_] [(FE,aad a)] 78 [] f275=u_3 (Ez a):=aZ
def nL:=Ez iC
def XB:SS Ku (OZ nL):=so func275 (.c Mc .z) (XA iC)
def Ah(u:T0)(v:T34)(x:T1):T0:=λa w k=>u7 a w 4 λp2=>u p2 w λ_u q=>drew q λb=>nn a λo=>aQ b (o.add 0) λp6=>u7 a b 0 λp8=>qA7 p8 1 b 13 λc=>u7 a b 0 λp12=>u7 p12 b 7 λp14=>qJ7 a B_ b 1 λi=>v c p14 i b λj d=>ai 1 (o.add 0) b d (x p6 j d λl e=>an (!l) (v7 a e 7 (.func (F_ gB) #[IB a] #[]) λn=>k () n) (k () e))
def RG a b c:E [.p] [] [(uR,bZ a),(Ku,OZ b),(bg,qu c)] 2147483649 [] f253=Ah a b c:=aZ
def gU:=Ah eu nL ae
abbrev Ai:bt:=bZ gU
def RH:SS nr (bZ gU):=so func253 (.c Il (.c XB (.c bp .z))) (RG eu nL ae)
def FQ(m:T36):T6:=λcZ b c w k=>nn cZ λf=>aJ B_ w (aY (f.add 0) 0) λg=>m b c g 1 w λa e=>an ((a.1,a.2).2==0) (v7 cZ e 4 (Iv (aF B_ ((a.1,a.2).1+1))) λi=>v7 cZ i 7 (.func (F_ vh) #[IB cZ] #[]) λl=>k (a.1,a.2).2 l) (k (a.1,a.2).2 e)
def YP a:E [.p,.p,.i B_] [.i B_] [(ko,aab a)] 2097607 [] f395=u_3 (FQ a):=aZ
def mh:=FQ aL
abbrev Md:bt:=ry mh
def YQ:SS vg (ry mh):=so func395 (.c nB .z) (YP aL)
def FR(j:T36):T6:=λcZ b c w k=>nn cZ λe=>aJ B_ w (aY (e.add 0) 0) λg=>j b c g (-1) w λa d=>an ((a.1,a.2).2==0) (v7 cZ d 7 C_ λi=>k (a.1,a.2).2 i) (k (a.1,a.2).2 d)
def YR a:E [.p,.p,.i B_] [.i B_] [(ko,aab a)] 2097479 [] f388=u_3 (FR a):=aZ
def mi:=FR aL
abbrev Me:bt:=ry mi
def YS:SS vf (ry mi):=so func388 (.c nB .z) (YR aL)
def FT(aj:Hv):T6:=λcZ b c w k=>nn cZ λe=>aJ B_ w (aY (e.add 0) 0) λg=>aj b c g w λa d=>an ((a.1,a.2).2==0) (v7 cZ d 4 (Iv (a.1,a.2).1) λi=>v7 cZ i 7 (.func (F_ ve) #[IB cZ] #[]) λl=>k (a.1,a.2).2 l) (k (a.1,a.2).2 d)
def YT a:E [.p,.p,.i B_] [.i B_] [(dS,zb a)] 2097607 [] f248=u_3 (FT a):=aZ
def mj:=FT aj
abbrev Mf:bt:=ry mj
def YU:SS u9 (ry mj):=so func248 (.c er .z) (YT aj)
def pQ:ane:=λNE w k=>aE w #[Iv NE] 2 λa b=>k (.func (F_ ud) #[] #[IB (G_ a)]) b
abbrev aaQ:bt:=akY pQ
def aaR:SS Hu (akY pQ):=sl 6 [] func315
def bT:T60:=λa w k=>OP Tryz.prog (kC []) 21 [] Tryz.f340 [(.i B_)] (dL [(.i .u64)] a) w k
abbrev xC:bt:=am4 bT
def xE:uY Tryz.prog mb xC:=
 aeM (mask:=21) (h:=[]) (ds:=[]) mixed func340 trivial
 [(.i .u64)] [(.i B_)] aZ (λx w k=>bT x w k) (λx w k=>rfl)
def EA(Y:Nat->bt)(bT:T60)(su:M_)(e:P_)(w:N_)(k:Unit->ap):Prop:= aJ B_ w e λg=>jD (S:=Int) (λh b c=>an (b !=0) (bT b c λi j=>nj (J0 [(mb,(am4 bT))] Y) su #[Iv i] j λl d=>Ir l λm=>an (!m) (k () d) (h (oH .u64 b (aF .u64 (b - 1))) d)) (k () c)) (aF .u64 g) w
def XC(Y:Nat->bt)(bT:T60)(x:KT [.raw,.a])(w:N_)(k:KT []->ap):OP Tryz.prog (J0 [(mb,(am4 bT))] Y) 65673 [(2,[(3,(.i .u64))])] f339 [] (dL [.raw,.a] x) w k=EA Y bT x.1 x.2 w k:=aZ
def Cj(Y:Nat->bt)(su:M_)(a:P_)(w:N_)(k:Unit->ap):Prop:=EA Y bT su a w k
def ug(Y:Nat->bt):bt:=λargs w c=>qW [.raw,.a] args λx=>Cj Y x.1 x.2 w λr w=>c (e9 (dL [] r)) w
def XD:WW Tryz.prog ud ug:=λY b=>
 M5 (mask:=65673) (h:=[(2,[(3,(.i .u64))])]) mixed func339 (WI (l:=[(mb,xC)]) ⟨xE,trivial⟩ b)
 [.raw,.a] [] aZ (λx w k=>Cj Y x.1 x.2 w k) (λx w k=>XC Y bT x w k)
def Lj(I:De)(pQ:ane)(NE:Int)(w:N_)(k:(Int)->ap):Prop:= aE w #[Iv 0] 3 λc j=>bN j c (Iv 0) λl=>pQ NE l λm n=>Cg I [(.i B_)] m n (fun(p:Int) h o=>aJ B_ h c λd=>bN h c (Iv (aF B_ (d+1))) λe=>o e) λD9 b=>aJ B_ b c λf=>I3 [D9] b λg=>k f g
def aeg(I:De)(pQ:ane)(x:KT [(.i B_)])(w:N_)(k:KT [(.i B_)]->ap):Vg Tryz.prog (kC [(Hu,(akY pQ))]) I 45 [(4,[(6,(.i B_))])] f293 [(.i B_)] (dL [(.i B_)] x) w k=Lj I pQ x w k:=aZ
def kS:T60:=λNE w k=>Lj (Df [(ud,ug)]) pQ NE w k
abbrev aeh:bt:=arY kS
def UQ:uY Tryz.prog K5 aeh:=
 I5 (mask:=45) (h:=[(4,[(6,(.i B_))])]) mixed func293 (M3 (l:=[(Hu,aaQ)]) ⟨aaR,trivial⟩) (LJ (l:=[(ud,ug)]) ⟨XD,trivial⟩)
 [(.i B_)] [(.i B_)] aZ (λx w k=>kS x w k) (λx w k=>aeg (Df [(ud,ug)]) pQ x w k)
def Ll(e:T60):asn:=λNE a w k=>e (JV .u64 18446744073709551615 (aF .u64 NE)) w λc d=>an (L_ (c>=(Wg a 64))) (k (-1) d) (k c d)
def aei a:E [.i B_,.i B_] [.i B_] [(mb,am4 a)] 8243 [] f397=u_2 (Ll a):=aZ
def sI:=Ll bT
def aej:SS UJ (aso sI):=so func397 (.c xE .z) (aei bT)
def FU(aj:Hv)(kS:T60)(eb:T7)(sI:asn):T6:=λcZ g h w k=>nn cZ λA=>aJ B_ w (aY (A.add 0) 0) λB=>aj g h (aF B_ (B+1)) w λa y=>an ((a.1,a.2).2 !=0) (k (a.1,a.2).2 y) (v7 cZ y 5 (Iv (a.1,a.2).1) λD=>v7 cZ D 7 C_ λG=>kS (a.1,a.2).1 G λz c=>cz (S:=Bool) (λe=>nn cZ λi=>aJ B_ c (aY (i.add 0) 2) λj=>an (L_ (z<j)) (qJ7 cZ B_ c 4 λm=>e (L_ (z<m)) c) (e K_ c)) λn d=>an n (qA7 cZ 3 d 0 λf=>eb f d λp q=>sI (Ti B_ (a.1,a.2).1 p) 16 q λr s=>v7 cZ s 3 (Iv r) λu=>v7 cZ u 7 (.func (F_ sL) #[IB cZ] #[]) λx=>k 0 x) (k 0 d))
def YV a c d e:E [.p,.p,.i B_] [.i B_] [(dS,zb a),(K5,arY c),(zJ,xY d),(UJ,aso e)] 281474985100231 [(7,[(48,.b)])] f396=u_3 (FU a c d e):=aZ
def mo:=FU aj kS eb sI
abbrev Mg:bt:=ry mo
def YW:SS vh (ry mo):=so func396 (.c er (.c UQ (.c GJ (.c aej .z)))) (YV aj kS eb sI)
def FV(aj:Hv)(kK:T59)(kS:T60):T6:=λcZ h i w k=>nn cZ λu=>aJ B_ w (aY (u.add 0) 0) λv=>aj h i (aF B_ (v+1)) w λa s=>an ((a.1,a.2).2 !=0) (k (a.1,a.2).2 s) (v7 cZ s 5 (Iv (a.1,a.2).1) λy=>v7 cZ y 7 C_ λA=>cz (S:=Bool) (λt=>drew A λd=>qJ7 cZ B_ d 3 λl=>kK (a.1,a.2).1 l d λm b=>an m (nn cZ λe=>aJ B_ b (e.add 4) λn=>kS (a.1,a.2).1 b λo f=>ai 1 (e.add 4) b f (t (L_ (o>n)) f)) (t K_ b)) λp g=>an p (v7 cZ g 7 (.func (F_ sL) #[IB cZ] #[]) λr=>k 0 r) (k 0 g))
def YX a c d:E [.p,.p,.i B_] [.i B_] [(dS,zb a),(Kl,am3 c),(K5,arY d)] 35184376283591 [(6,[(45,.b)])] f272=u_3 (FV a c d):=aZ
def mq:=FV aj kK kS
abbrev Mh:bt:=ry mq
def YY:SS ve (ry mq):=so func272 (.c er (.c Rq (.c UQ .z))) (YX aj kK kS)
def FW(x:T42):T6:=λcZ f g w k=>drew w λd=>nn cZ λo=>aJ B_ d (aY (o.add 0) 0) λp=>qJ7 cZ B_ d 5 λr=>qJ7 cZ B_ d 5 λt=>qJ7 cZ B_ d 3 λv=>HI B_ 1 (ZR v 0) λh=>x f g (aF B_ (p+1)) r (JV B_ t h) d λb e=>an ((b.1,b.2).2 !=0) (k (b.1,b.2).2 e) (v7 cZ e 7 C_ λc=>an (b.1,b.2).1 (qJ7 cZ B_ c 3 λl=>v7 cZ c 6 (Iv l) λn=>k 0 n) (k 0 c))
def YZ a:E [.p,.p,.i B_] [.i B_] [(nq,aco a)] 4535485465031 [] f294=u_3 (FW a):=aZ
def mr:=FW aR
abbrev Mi:bt:=ry mr
def Y0:SS sL (ry mr):=so func294 (.c pC .z) (YZ aR)
def FX(l:T2)(u:T6)(v:T6)(x:T6)(y:T6)(z:T6)(A:T6):T40:=λcZ b e w k=>an ((eA cZ)||(eA b)) (k (false,2) w) (qA7 cZ 3 w 0 λf=>l f w λn c=>an (!n) (k (K_,1) c) (qV7 cZ c 7 λp=>abm p λq=>an q (k (J_,0) c) (qV7 cZ c 7 λs=>nj (kC [(qB,(Jj l)),(vg,(ry u)),(vf,(ry v)),(u9,(ry x)),(vh,(ry y)),(ve,(ry z)),(sL,(ry A))]) s #[IB b,Iv e] c λg a=>xS B_ g λd=>an (d !=0) (k (K_,d) a) (qV7 cZ a 7 λi=>abm i λj=>k (j,0) a))))
def Y1 a c d e f g h:E [.p,.p,.i B_] [.b,.i B_] [(qB,Jj a),(vg,ry c),(vf,ry d),(u9,ry e),(vh,ry f),(ve,ry g),(sL,ry h)] 137447408583 [] f249=u_3 (FX a c d e f g h):=aZ
def dI:=FX cf mh mi mj mo mq mr
def FY:SS vc (Xd dI):=so func249 (.c ya (.c YQ (.c YS (.c YU (.c YW (.c YY (.c Y0 .z))))))) (Y1 cf mh mi mj mo mq mr)
def nM:T3:=λcZ w k=>an (eA cZ) (k (-1) w) (qJ7 cZ B_ w 6 λc=>k c w)
def XE:SS Kr (Bl nM):=sl 21 [] func250
def wK(A:T40)(B:T1)(C:T3):T0:=λa w k=>drew w λe=>u7 a e 12 λp3=>u7 a e 0 λp5=>u7 p5 e 7 λp7=>qJ7 a B_ e 1 λz=>A p3 p7 z e λb f=>u7 a f 0 λp13=>B p13 (b.1,b.2).2 f λl g=>an (l||(!(b.1,b.2).1)) (k () g) (v7 a g 7 (.func (F_ mI) #[IB a] #[]) λn=>drew n λc=>u7 a c 12 λp=>nn a λh=>aJ B_ c (h.add 1) λq=>C p c λr d=>ai 1 (h.add 1) c d (an (r==q) (v7 a d 7 (.func (F_ gB) #[IB a] #[]) λt=>k () t) (k () d)))
def NQ a b c:E [.p] [] [(vc,Xd a),(bg,qu b),(Kr,Bl c)] 140741783322637 [] f217=wK a b c:=aZ
def fm:=wK dI ae nM
abbrev wL:bt:=bZ fm
def NR:SS lT (bZ fm):=so func217 (.c FY (.c bp (.c XE .z))) (NQ dI ae nM)
def wM(i:T42):T97:=λuw b c w k=>aE w uw 116 λf e=>aJ B_ e (f.add 0) λg=>i b c (aF B_ (g+0)) 0 1 e λa h=>k ((a.1,a.2).1,(a.1,a.2).2) h
def NS a:E [.ag,.p,.i B_] [.b,.i B_] [(nq,aco a)] 206 [] f242=u_3 (wM a):=aZ
def jw:=wM aR
def NT:SS DZ (az4 jw):=so func242 (.c pC .z) (NS aR)
def wN(D:T97)(F:T1):T0:=λa w k=>drew w λb=>u7 a b 0 λp3=>en p3 b 11 λz=>qJ7 a B_ b 18 λB=>cN z B 1 λC=>aQ b C λp9=>qA7 p9 1 b 3 λe=>u7 a b 0 λp13=>u7 p13 b 7 λp15=>qJ7 a B_ b 1 λn=>D e p15 n b λc f=>u7 a f 0 λp=>F p (c.1,c.2).2 f λq d=>an q (k () d) (qV7 a d 19 λs=>v7 a d 7 s λg=>an (c.1,c.2).1 (v7 a g 7 (.func (F_ mQ) #[IB a] #[]) λv=>k () v) (k () g))
def NU a b:E [.p] [] [(DZ,az4 a),(bg,qu b)] 282574488338445 [] f214=wN a b:=aZ
def fo:=wN jw ae
abbrev wO:bt:=bZ fo
def NV:SS lR (bZ fo):=so func214 (.c NT (.c bp .z)) (NU jw ae)
def yu(l:T7)(aj:Hv):Vm:=λb c d w k=>aE w b 144 λg f=>bx 2 f g λe=>l e f λh i=>aj c d h i λa j=>k ((a.1,a.2).1,(a.1,a.2).2) j
def PM a b:E [.ag,.p,.i B_] [.i B_,.i B_] [(jS,xY a),(dS,zb b)] 206 [] f265=u_3 (yu a b):=aZ
def cn:=yu az aj
def yw:SS qD (Jl cn):=so func265 (.c kP (.c er .z)) (PM az aj)
def CT(i:T35):T70:=λa b w k=>an (eA a) (k (H_,2) w) (aE w #[Iv b] 3 λd e=>i a (Sl.mk (G_ d) 1 1) e λf c=>an (!f) (k (H_,17) c) (aE c #[IB a,Iv b,Iq K_,Iq K_] 375 λg h=>k ((G_ g),0) h))
def VB a:E [.p,.i B_] [.p,.i B_] [(y9,UL a)] 627 [] f284=u_2 (CT a):=aZ
def mB:=CT dk
def VC:SS Jg (am6 mB):=so func284 (.c Ee .z) (VB dk)
def yx(q:T70)(r:T1):Xa:=λa d agT w k=>u7 a w 0 λp2=>u7 p2 w 9 λp4=>q p4 d w λc l=>u7 a l 0 λp8=>r p8 (c.1,c.2).2 l λp b=>an p (k () b) (v7 a b 10 (IB (c.1,c.2).1) λf=>v7 a f 11 agT λh=>v7 a h 7 (.func (F_ kX) #[IB a] #[]) λj=>k () j)
def PN a b:E [.p,.i B_,.raw] [] [(Jg,am6 a),(bg,qu b)] 33554629 [] f266=u_3 (yx a b):=aZ
def cv:=yx mB ae
def yy:SS tA (LS cv):=so func266 (.c VC (.c bp .z)) (PN mB ae)
def yz(ae:T1)(cn:Vm)(cv:Xa):T0:=λa7 w k=>aE w #[IB a7] 141 λd w2=>drew w2 λz=>aQ z d λp4=>en p4 z 5 λs6=>aQ z d λp7=>u7 p7 z 0 λp9=>nn p9 λa9=>aJ B_ z (aY (a9.add 1) 4) λb0=>an (L_ (((s6.n:Nat):Int)>=b0)) (aQ z d λp12=>u7 p12 z 0 λp14=>ae p14 23 z λg1 b2=>k () b2) (drew z λj=>aQ j d λp18=>qA7 p18 2 j 2 λR=>aQ j d λb4=>u7 b4 j 0 λb6=>u7 b6 j 7 λb8=>aQ j d λb9=>qJ7 b9 B_ j 1 λc1=>cn R b8 c1 j λB C=>aQ C d λc2=>u7 c2 C 0 λc4=>ae c4 (B.1,B.2).2 C λc5 T=>an c5 (k () T) (drew T λl=>aQ l d λc6=>u7 c6 l 0 λc8=>en c8 l 11 λd0=>aQ l d λd1=>qJ7 d1 B_ l 18 λd3=>cN d0 d3 1 λd4=>aQ l d4 λx=>qJ7 x B_ l 2 λd6=>kT #[Iv 0,Iv 0] 0 2 #[Iv d6,(Iv (B.1,B.2).1)] λU=>aE l U 356 λd7 d8=>v7 x d8 24 (IC (G_ d7) 1 1) λe0=>cz (S:=Unit) (λD=>drew e0 λb=>aQ b d λF=>aQ b d λG=>aQ b d λe1=>nn e1 λt=>cy b (t.add 5) λf=>aQ b d λe2=>nn e2 λg=>cy b (g.add 6) λh=>aQ b d λe3=>nn e3 λu=>tH b (u.add 19) λv=>both (aE b #[IB x] 114 λV e=>ai 1 (u.add 19) b e (ai 1 d b e (ai 1 (g.add 6) b e (ai 1 d b e (ai 1 (t.add 5) b e (ai 1 d b e (ai 1 d b e (ai 1 d b e (both (og Tryz.prog #[97,97] 97 [S_ f,(IC (G_ V) 1 1)] e λH m=>ai 1 (u.add 19) b m (ai 1 d b m (ai 1 (g.add 6) b m (ai 1 d b m (ai 1 d b m (ai 1 d b m (rZ v (aE m #[v] 1 λe4 o=>ai 1 (g.add 6) b o (ai 1 d b o (ai 1 (t.add 5) b o (ai 1 d b o (ai 1 d b o (ai 1 d b o (og Tryz.prog #[146,146] 146 [S_ h,(IC (G_ e4) 1 1)] o λI J=>ai 1 d b J (ai 1 d b J (v7 F J 5 (S_ H) λW=>ai 1 d b W (v7 G W 6 (S_ I) λe7=>D () e7))))))))))))))))) (rZ v (aE e #[v] 1 λe8 p=>ai 1 (g.add 6) b p (ai 1 d b p (ai 1 (t.add 5) b p (ai 1 d b p (ai 1 d b p (ai 1 d b p (og Tryz.prog #[97,97] 97 [S_ f,(IC (G_ V) 1 1)] p λL q=>ai 1 (u.add 19) b q (ai 1 d b q (ai 1 (g.add 6) b q (ai 1 d b q (ai 1 d b q (ai 1 d b q (og Tryz.prog #[146,146] 146 [S_ h,(IC (G_ e8) 1 1)] q λM N=>ai 1 d b N (ai 1 d b N (v7 F N 5 (S_ L) λX=>ai 1 d b X (v7 G X 6 (S_ M) λf1=>D () f1)))))))))))))))))))))))))) (rZ v (aE b #[v] 1 λf2 r=>ai 1 (g.add 6) b r (ai 1 d b r (ai 1 (t.add 5) b r (ai 1 d b r (ai 1 d b r (ai 1 d b r (aE r #[IB x] 114 λf3 i=>ai 1 (u.add 19) b i (ai 1 d b i (ai 1 (g.add 6) b i (ai 1 d b i (ai 1 (t.add 5) b i (ai 1 d b i (ai 1 d b i (ai 1 d b i (og Tryz.prog #[97,97] 97 [S_ f,(IC (G_ f3) 1 1)] i λO s=>ai 1 (u.add 19) b s (ai 1 d b s (ai 1 (g.add 6) b s (ai 1 d b s (ai 1 d b s (ai 1 d b s (og Tryz.prog #[146,146] 146 [S_ h,(IC (G_ f2) 1 1)] s λP Q=>ai 1 d b Q (ai 1 d b Q (v7 F Q 5 (S_ O) λY=>ai 1 d b Y (v7 G Y 6 (S_ P) λZ=>D () Z)))))))))))))))))))))))))) λaHO a0=>drew a0 λy=>aQ y d λa2=>qJ7 x B_ y 1 λa4=>cv a2 a4 (.func (F_ pi) #[] #[IB (G_ d)]) y λ_u a6=>k () a6))
def PO a b c:E [.p] [] [(bg,qu a),(qD,Jl b),(tA,LS c)] 281474976972830 [(9,[])] f243=yz a b c:=aZ
def fV:=yz ae cn cv
abbrev yC:bt:=bZ fV
def PP:SS mQ (bZ fV):=so func243 (.c bp (.c yw (.c yy .z))) (PO ae cn cv)
def iQ:T99:=λuw r w k=>aE w uw 119 λd G=>aE G r 24 λD H=>aE H JN 75 λe f=>cz (S:=Bool) (λF=>aJ B_ f (d.add 0) λI=>an (L_ (I<0)) (F J_ f) (aJ B_ f (d.add 0) λJ=>cy f (D.add 0) λs=>(F (L_ (J>=((s.n:Nat):Int))) f))) λt a=>an t (dQ 5 a e JN λg=>bx 5 g e λh=>k (h,17) g) (cy a (D.add 0) λu=>aJ B_ a (d.add 0) λv=>cN u v 2 λx=>cy a (x.add 1) λi=>cz (S:=Bool) (λj=>aJ B_ a (d.add 1) λy=>an (L_ (y<0)) (j J_ a) (aJ B_ a (d.add 1) λz=>(j (L_ (z>=((i.n:Nat):Int))) a))) λA c=>an A (dQ 5 c e JN λl=>bx 5 l e λm=>k (m,17) l) (aJ B_ c (d.add 1) λB=>cN i B 5 λC=>bx 5 c C λo=>dQ 5 c e o λp=>bx 5 p e λq=>k (q,0) p))
def TU:SS HV (az6 iQ):=sl 34359869564 [(1,[(17,.b)]),(5,[(35,.b)])] func134
def yD(Q:T8)(O:T99)(U:T1):Nl:=λc w k=>aE w JN 75 λP R=>cz (S:=(P_×Int)) (λB=>drew R λb=>nn c λo=>aQ b (o.add 0) λp6=>nn p6 λp=>bx 1 b (p.add 0) λl=>both (Q c b λp9 a=>ai 1 (p.add 0) b a (ai 1 (o.add 0) b a (nn p9 λm=>bx 19 a (m.add 4) λj=>both (O j l a λd C=>aE C JN 75 λq e=>ai 19 (m.add 4) a e (ai 1 (p.add 0) b e (ai 1 (o.add 0) b e (dQ 5 e q (d.1,d.2).1 λD=>B (q,(d.1,d.2).2) D)))) (aE a JN 75 λr f=>ai 19 (m.add 4) a f (ai 1 (p.add 0) b f (ai 1 (o.add 0) b f (O j l f λg F=>dQ 5 F r (g.1,g.2).1 λG=>B (r,(g.1,g.2).2) G))))))) (aE b JN 75 λs n=>ai 1 (p.add 0) b n (ai 1 (o.add 0) b n (Q c n λH h=>ai 1 (p.add 0) b h (ai 1 (o.add 0) b h (qA7 H 19 h 4 λt=>O t l h λi J=>dQ 5 J s (i.1,i.2).1 λL=>B (s,(i.1,i.2).2) L)))))) λu v=>u7 c v 0 λN=>U N u.2 v λT x=>bx 5 x u.1 λy=>dQ 5 x P y λz=>bx 5 z P λA=>k A z
def PR b c d:E [.p] [.ag] [(bX,GB b),(HV,az6 c),(bg,qu d)] 29 [(1,[(3,.a),(4,(.i B_))])] f287=yD b c d:=aZ
def aH:=yD ah iQ ae
def mY:SS kN (E8 aH):=so func287 (.c cm (.c TU (.c bp .z))) (PR ah iQ ae)
def sJ:Vl:=λzN w k=>cz (S:=Bool) (λa=>an (zN==6) (a (zN==6) w) (an (zN==7) (a (zN==7) w) (an (zN==8) (a (zN==8) w) (an (zN==9) (a (zN==9) w) (an (zN==10) (a (zN==10) w) (an (zN==11) (a (zN==11) w) (an (zN==12) (a (zN==12) w) (a (zN==14) w)))))))) λc b=>an c (k J_ b) (k K_ b)
def aek:SS UG (A8 sJ):=sl 29 [(4,[(4,.b)])] func135
def Aj(aH:Nl)(sJ:Vl)(ej:T71)(ah:T8)(cv:Xa):T0:=λg w k=>aE w #[IB g] 141 λd p=>aQ p d λp3=>aH p3 p λh r=>aE r JN 75 λf s=>dQ 5 s f h λq=>aJ B_ q (f.add 0) λt=>sJ t q λj a=>an (!j) (aQ a d λp12=>bx 5 a f λe=>ej p12 e a λ_u l=>k () l) (drew a λb=>aQ b d λp16=>aQ b d λp17=>ah p17 b λp18 c=>ai 1 d b c (qJ7 p18 B_ c 1 λn=>cv p16 n (.func (F_ pU) #[] #[IB (G_ d),IB (G_ f)]) c λ_u o=>k () o))
def RI a b c d e:E [.p] [] [(kN,E8 a),(UG,A8 b),(zL,arT c),(bX,GB d),(tA,LS e)] 262 [] f269=Aj a b c d e:=aZ
def gV:=Aj aH sJ ej ah cv
abbrev Ak:bt:=bZ gV
def RJ:SS gC (bZ gV):=so func269 (.c mY (.c aek (.c GM (.c cm (.c yy .z))))) (RI aH sJ ej ah cv)
def BA(aj:Hv):Vm:=λb c d w k=>aE w b 99 λf e=>aJ B_ e (f.add 0) λh=>aj c d h e λa i=>k ((a.1,a.2).1,(a.1,a.2).2) i
def TV a:E [.ag,.p,.i B_] [.i B_,.i B_] [(dS,zb a)] 206 [] f211=u_3 (BA a):=aZ
def lq:=BA aj
def TW:SS HW (Jl lq):=so func211 (.c er .z) (TV aj)
def BB(lq:Vm):T6:=λa c d w k=>an ((eA a)||(eA c)) (k 2 w) (qA7 a 1 w 0 λe=>lq e c d w λb f=>an ((b.1,b.2).2 !=0) (k (b.1,b.2).2 f) (v7 a f 1 (Iv 1) λi=>v7 a i 2 (Iv (b.1,b.2).1) λl=>k 0 l))
def TX a:E [.p,.p,.i B_] [.i B_] [(HW,Jl a)] 67125703 [] f163=u_3 (BB a):=aZ
def cM:=BB lq
def BC:SS uQ (ry cM):=so func163 (.c TW .z) (TX lq)
def eM:W7:=λa w k=>aE w a 144 λf e=>bx 2 e f λb=>kT zr6 0 2 b λc=>kT #[Iv 0,Iv 0,Iv 0,Iv 0,Iv 0,Iv 0,Iv 0,Iq K_,Iv 0,Iv 0,IB H_,C_,Iv 0,Iv 0,Iv 0] 0 6 c λd=>rZ (.func (F_ ox) #[] #[]) (aE e (eS d 11 (.func (F_ ox) #[] #[])) 289 λg h=>k (G_ g) h)
def Js:SS vZ (HZ eM):=sl 6 [] func165
def Al(B:T6)(C:T1)(eM:W7)(bq:T39):T0:=λh w k=>aE w #[IB h] 141 λc v=>aQ v c λp3=>v7 p3 v 14 (Iq K_) λz=>drew z λa=>aQ a c λp7=>nn p7 λx=>aQ a (x.add 0) λp9=>aQ a c λp10=>u7 p10 a 4 λp12=>aQ a c λp13=>u7 p13 a 0 λp15=>u7 p15 a 7 λp17=>aQ a c λp18=>qJ7 p18 B_ a 1 λn=>B p12 p17 n a λo d=>ai 1 (x.add 0) a d (ai 1 c a d (C p9 o d λp e=>an p (k () e) (drew e λb=>aQ b c λq=>aQ b c λr=>qA7 r 2 b 2 λf=>eM f b λt g=>ai 1 c b g (bq q t (.func (F_ pT) #[] #[IB (G_ c)]) g λ_u u=>k () u))))
def RK a b c d:E [.p] [] [(uQ,ry a),(bg,qu b),(vZ,HZ c),(mP,acm d)] 33554434 [] f115=Al a b c d:=aZ
def gW:=Al cM ae eM bq
abbrev Am:bt:=bZ gW
def RL:SS gB (bZ gW):=so func115 (.c BC (.c bp (.c Js (.c tC .z)))) (RK cM ae eM bq)
def An(T:T8)(aq:Nl)(cY:T51)(ae:T1):T0:=λd w k=>drew w λe=>nn d λx=>aQ e (x.add 0) λp3=>nn p3 λy=>aQ e (y.add 9) λp5=>nn d λz=>aQ e (z.add 0) λp7=>nn p7 λA=>aQ e (A.add 7) λp9=>nn d λl=>aJ B_ e (l.add 1) λC=>T d e λp12 f=>ai 1 (l.add 1) e f (ai 1 (A.add 7) e f (ai 1 (z.add 0) e f (ai 1 (y.add 9) e f (ai 1 (x.add 0) e f (aq p12 f λr g=>ai 1 (l.add 1) e g (ai 1 (A.add 7) e g (ai 1 (z.add 0) e g (ai 1 (y.add 9) e g (ai 1 (x.add 0) e g (Qq r 0 λD=>xS B_ D λF=>cY p5 p9 C F g λh s=>u7 d s 0 λH=>ae H (h.1,h.2).2 s λI t=>an I (k () t) (drew t λb=>nn d λi=>aQ b (i.add 0) λJ=>nn d λm=>aQ b (m.add 0) λL=>nn L λo=>cy b (o.add 10) λp=>ai 1 (o.add 10) b b (ai 1 (m.add 0) b b (ai 1 (i.add 0) b b (kT #[Iv 0,Iv 0,Iv 0,Iq K_] 0 4 #[(Iv (-2)),Iv 0,Iv 0,Iq K_] λu=>aE b u 125 λM j=>ai 1 (o.add 10) b j (ai 1 (m.add 0) b j (ai 1 (i.add 0) b j (og Tryz.prog #[96,96] 96 [S_ p,(IC (G_ M) 1 1)] j λq v=>ai 1 (i.add 0) b v (v7 J v 10 (S_ q) λO=>v7 d O 28 (Iv (h.1,h.2).1) λQ=>v7 d Q 7 (.func (F_ mR) #[IB d] #[]) λS=>k () S))))))))))))))))))
def RM a b c d:E [.p] [] [(bX,GB a),(gK,E8 b),(vY,ae1 c),(bg,qu d)] 34359738381 [] f307=An a b c d:=aZ
def gX:=An ah aq cY ae
abbrev Ao:bt:=bZ gX
def RN:SS lH (bZ gX):=so func307 (.c cm (.c iO (.c CL (.c bp .z)))) (RM ah aq cY ae)
def NW(i:T7):T57:=λb asW w k=>aE w b 75 λd a=>aJ B_ a (d.add 0) λf=>an (f==asW) (bx 5 a d λc=>i c a λg h=>k (g==0) h) (k K_ a)
def agU a:E [.ag,.i B_] [.b] [(BX,xY a)] 22 [] f235=u_2 (NW a):=aZ
def eR:=NW fa
def IA:SS DY (ais eR):=so func235 (.c K6 .z) (agU fa)
def Ap(eR:T57)(lN:N_->((Array M_)->ap)->Prop)(uw:Array M_)(x:Array M_)(y:Array M_)(w:N_)(k:(Array M_×Int)->ap):Prop:= aE w uw 119 λz X=>aE X x 24 λV Y=>aE Y y 75 λv Z=>aE Z D4 119 λh W=>bx 5 W v λA=>eR A 8 W λB d=>an (!B) (dQ 19 d h D4 λi=>bx 19 i h λj=>k (j,1) i) (aJ B_ d (v.add 4) λC=>cy d (V.add 0) λD=>an (L_ (C>=((D.n:Nat):Int))) (dQ 19 d h D4 λl=>bx 19 l h λm=>k (m,17) l) (lN d λo F=>aE F D4 119 λe G=>dQ 19 G e o λH=>drew H λf=>aJ B_ f (v.add 4) λI=>bx 8 f (z.add 2) λp=>bN f (e.add 0) (Iv I) λq=>ai 8 (z.add 2) f q (dQ 8 q (e.add 2) p λJ=>jD (S:=Int) (λr b g=>an (L_ (b<8)) (drew g λc=>cy c (V.add 0) λL=>aJ B_ c (v.add 4) λM=>cN L M 2 λN=>aJ B_ c (N.add 0) λO=>HI B_ 1 b λP=>an ((oH B_ O P) !=0) (Hf (z.add 10) 8 b 1 λQ=>aJ B_ c Q λR=>Hf (e.add 10) 8 b 1 λT=>bN c T (Iv R) λU=>r (aF B_ (b+1)) U) (r (aF B_ (b+1)) c)) (bx 19 g e λs=>dQ 19 g h s λt=>bx 19 t h λu=>k (u,0) t)) 0 J)))
def RO a b:E [.ag,.ag,.ag] [.ag,.i B_] [(DY,ais a),(K3,ak0 b)] 2199829091320 [(11,[(28,(.i B_))])] f190=u_3 (Ap a b):=aZ
def jd:=Ap eR lN
def RP:SS Gw (ar9 jd):=so func190 (.c IA (.c UP .z)) (RO eR lN)
def yE(y:T57)(av:W9):asa:=λuw l aDH w k=>aE w uw 119 λm t=>aE t l 75 λr u=>aE u D4 119 λi s=>bx 5 s r λn=>y n 8 s λv j=>an (!v) (bx 19 j m λa=>dQ 19 j i a λb=>bx 19 b i λc=>k c b) (aJ B_ j (r.add 1) λo=>Hf (m.add 10) 8 o 1 λp=>bN j p (Iv aDH) λd=>bx 19 d m λe=>av e d λf q=>dQ 19 q i f λg=>bx 19 g i λh=>k h g)
def PS a b:E [.ag,.ag,.i B_] [.ag] [(DY,ais a),(iU,Kx b)] 604 [] f191=u_3 (yE a b):=aZ
def jf:=yE eR av
def PT:SS E3 (asb jf):=so func191 (.c IA (.c kR .z)) (PS eR av)
def aG:T0:=λa w k=>u7 a w 0 λp2=>qJ7 p2 B_ w 20 λe=>v7 p2 w 20 (Iv (aF B_ (e+1))) λg=>v7 a g 7 (.func (F_ gC) #[IB a] #[]) λi=>k () i
def nD:SS lK (bZ aG):=sl 1 [] func336
def yF(aD:W8)(ah:T8)(aH:Nl)(jd:az7)(ae:T1)(aq:Nl)(fe:T76)(jf:asa)(aG:T0):T0:=λa w k=>aD a w λb1 w2=>an b1 (k () w2) (ah a w2 λp3 w4=>aH a w4 λP w6=>aE w6 JN 75 λv w8=>dQ 5 w8 v P λw9=>cz (S:=(P_×Int)) (λx=>drew w9 λc=>nn p3 λp=>bx 19 c (p.add 4) λl=>nn a λq=>aQ c (q.add 0) λp15=>nn p15 λr=>bx 1 c (r.add 0) λm=>bx 5 c v λo=>both (jd l m o c λi Q=>aE Q D4 119 λy e=>ai 5 v c e (ai 1 (r.add 0) c e (ai 1 (q.add 0) c e (ai 19 (p.add 4) c e (dQ 19 e y (i.1,i.2).1 λR=>x (y,(i.1,i.2).2) R))))) (aE c D4 119 λz f=>ai 5 v c f (ai 1 (r.add 0) c f (ai 1 (q.add 0) c f (ai 19 (p.add 4) c f (jd l m o f λj T=>dQ 19 T z (j.1,j.2).1 λU=>x (z,(j.1,j.2).2) U)))))) λs V=>cz (S:=Bool) (λA=>drew V λB=>u7 a B 0 λX=>ae X s.2 B λY b=>an Y (A J_ b) (nn a λt=>aQ b (t.add 0) λZ=>nn a λC=>aQ b (C.add 0) λa0=>nn a λD=>aJ B_ b (D.add 1) λa1=>nn p3 λF=>aJ B_ b (F.add 0) λa2=>nn a λG=>aJ B_ b (G.add 28) λa3=>bx 19 b s.1 λH=>aq p3 b λI d=>ai 19 s.1 b d (ai 1 (G.add 28) b d (ai 1 (F.add 0) b d (ai 1 (D.add 1) b d (ai 1 (C.add 0) b d (ai 1 (t.add 0) b d (Qq I 0 λa4=>xS B_ a4 λa5=>fe a0 a1 a2 a5 a3 H d λa6 J=>ai 1 (t.add 0) b J (ae Z a6 J λa8 a9=>A a8 a9))))))))) λb0 L=>an b0 (k () L) (drew L λh=>qA7 p3 19 h 4 λM=>bx 5 h v λN=>u7 a h 0 λb4=>en b4 h 11 λb6=>jf M N (aF B_ (((b6.n:Nat):Int) - 1)) h λO b7=>nn p3 λb8=>dQ 19 b7 (b8.add 4) O λu=>u7 a u 0 λc0=>en c0 u 11 λc2=>v7 a u 18 (Iv (aF B_ (((c2.n:Nat):Int) - 1))) λc4=>aG a c4 λ_u c5=>v7 a c5 7 (.func (F_ lV) #[IB a] #[]) λc7=>k () c7))
def PU c d e f g h j l m:E [.p] [] [(jT,LR c),(bX,GB d),(kN,E8 e),(Gw,ar9 f),(bg,qu g),(gK,E8 h),(CF,arW j),(E3,asb l),(lK,bZ m)] 2305843009213694141 [(3,[(4,.a),(5,(.i B_))]),(4,[(61,.b)])] f331=yF c d e f g h j l m:=aZ
def fW:=yF aD ah aH jd ae aq fe jf aG
abbrev yG:bt:=bZ fW
def PV:SS mR (bZ fW):=so func331 (.c kQ (.c cm (.c mY (.c RP (.c bp (.c iO (.c Jn (.c PT (.c nD .z))))))))) (PU aD ah aH jd ae aq fe jf aG)
def wP(M:T8)(aq:Nl)(eE:T77)(ae:T1)(eF:T58)(bq:T39):T0:=λr w k=>aE w #[IB r] 141 λd L=>drew L λa=>aQ a d λp4=>nn p4 λq=>aQ a (q.add 0) λp6=>aQ a d λp7=>nn p7 λs=>aQ a (s.add 0) λp9=>nn p9 λf=>aQ a (f.add 9) λp11=>aQ a d λp12=>nn p12 λg=>aQ a (g.add 0) λp14=>nn p14 λh=>aQ a (h.add 7) λp16=>aQ a d λp17=>nn p17 λi=>aJ B_ a (i.add 1) λt=>aQ a d λu=>M u a λv b=>ai 1 (i.add 1) a b (ai 1 d a b (ai 1 (h.add 7) a b (ai 1 (g.add 0) a b (ai 1 d a b (ai 1 (f.add 9) a b (ai 1 (s.add 0) a b (ai 1 d a b (ai 1 (q.add 0) a b (ai 1 d a b (aq v b λm c=>ai 1 (i.add 1) a c (ai 1 d a c (ai 1 (h.add 7) a c (ai 1 (g.add 0) a c (ai 1 d a c (ai 1 (f.add 9) a c (ai 1 (s.add 0) a c (ai 1 d a c (ai 1 (q.add 0) a c (ai 1 d a c (Qq m 0 λx=>xS B_ x λy=>eE p11 p16 t y c λz j=>ai 1 (q.add 0) a j (ai 1 d a j (ae p6 z j λA n=>an A (k () n) (drew n λe=>aQ e d λB=>aQ e d λC=>qA7 C 2 e 2 λo=>aQ e d λF=>qJ7 F B_ e 18 λH=>eF o H e λI p=>ai 1 d e p (bq B I (.func (F_ oM) #[] #[IB (G_ d)]) p λ_u J=>k () J))))))))))))))))))))))))
def NX a b c d e f:E [.p] [] [(bX,GB a),(gK,E8 b),(Bg,arX c),(bg,qu d),(Bh,ait e),(mP,acm f)] 536870914 [] f350=wP a b c d e f:=aZ
def fp:=wP ah aq eE ae eF bq
abbrev wQ:bt:=bZ fp
def NY:SS lV (bZ fp):=so func350 (.c cm (.c iO (.c H9 (.c bp (.c Ia (.c tC .z)))))) (NX ah aq eE ae eF bq)
def wR(Q:T6)(R:T1)(S:T8)(cv:Xa):T75:=λl aoW w k=>aE w #[IB l] 141 λb N=>aE N #[IB aoW] 114 λM O=>drew O λf=>aQ f b λp6=>aQ f b λp7=>aQ f M λp8=>v7 p6 f 20 (IB p8) λg=>ai 1 b f g (v7 p7 g 14 (Iq K_) λh=>aQ h b λp13=>v7 p13 h 24 (.func (F_ eP) #[] #[IB (G_ b),IB (G_ M)]) λo=>drew o λa=>aQ a b λp17=>nn p17 λi=>aQ a (i.add 0) λp19=>aQ a b λp=>u7 p a 4 λr=>aQ a b λs=>u7 s a 0 λu=>u7 u a 7 λx=>aQ a b λy=>qJ7 y B_ a 1 λB=>Q r x B a λC d=>ai 1 (i.add 0) a d (ai 1 b a d (R p19 C d λD j=>an D (k () j) (drew j λc=>aQ c b λF=>aQ c b λG=>S G c λH e=>ai 1 b c e (qJ7 H B_ e 1 λJ=>cv F J (.func (F_ oL) #[] #[IB (G_ b)]) e λ_u L=>k () L)))))
def NZ a b c d:E [.p,.p] [] [(uQ,ry a),(bg,qu b),(bX,GB c),(tA,LS d)] 34359738380 [] f332=u_2 (wR a b c d):=aZ
def c9:=wR cM ae ah cv
def EB:SS wh (arV c9):=so func332 (.c BC (.c bp (.c cm (.c yy .z)))) (NZ cM ae ah cv)
def Aq(aH:Nl)(ah:T8)(c9:T75):T0:=λa w k=>aH a w λn G=>aE G JN 75 λm H=>dQ 5 H m n λf=>aJ B_ f (m.add 2) λI=>aJ B_ f (m.add 0) λJ=>an (J==10) (aJ B_ f (m.add 3) λL=>drew f λg=>nn a λh=>aQ g (h.add 0) λp11=>nn p11 λi=>cy g (i.add 11) λo=>ah a g λp14 b=>ai 1 (i.add 11) g b (ai 1 (h.add 0) g b (nn p14 λp=>Hf (aY (p.add 4) 10) 8 L 1 λq=>aJ B_ b q λr=>cN o r 1 λs=>aQ b s λt=>c9 a t b λ_u u=>k () u))) (drew f λc=>nn a λj=>aQ c (j.add 0) λv=>nn v λl=>cy c (l.add 11) λx=>ah a c λy d=>ai 1 (l.add 11) c d (ai 1 (j.add 0) c d (nn y λz=>Hf (aY (z.add 4) 10) 8 I 1 λA=>aJ B_ d A λB=>cN x B 1 λC=>aQ d C λD=>c9 a D d λ_u F=>k () F)))
def RQ a b c:E [.p] [] [(kN,E8 a),(bX,GB b),(wh,arV c)] 1037 [] f308=Aq a b c:=aZ
def gY:=Aq aH ah c9
abbrev Ar:bt:=bZ gY
def RR:SS js (bZ gY):=so func308 (.c mY (.c cm (.c EB .z))) (RQ aH ah c9)
end Go.Proofs.YthidhjhkmjjckaaGreatDoor
