/-
  Parts of the proof of LHolds: printed by a program out of longer texts.
-/
import Derived.Test.YthidhjhkmjjckaaGreatDoorPHolds2
import Derived.MapKept
set_option maxRecDepth 100000
set_option linter.unusedVariables false
set_option linter.unusedSimpArgs false
set_option linter.defProp false
open List renaming getElem?_eq_some_iff->kB,getElem?_eq_getElem->iH,getD_eq_getElem?_getD->m0,getElem?_append_left->tJ,getElem?_append_right->u0,getElem?_set_ne->r0,getElem?_set_self->uO,mem_of_getElem?->qn,getElem?_map->l8,eraseIdx->I7,replicate->dU,mem_append->zw,length_append->uv,all_eq_true->tL
open Go.Sem renaming run_pure->cP,run_bind->cR
open Go.Result renaming andThen_ok->cK
open Bool renaming or_eq_false_iff->kf,and_eq_true->iY
open Option renaming isNone->eA
open Go.IntKind renaming wrap->aF
open Int renaming toNat_natCast->iZ
open Array renaming setIfInBounds->eS,getElem?_eq_some_iff->Bf
open Nat renaming le_refl->iw
open Go.Addr renaming add->aY
namespace Go.Proofs.YthidhjhkmjjckaaGreatDoor
open Go Go.Ev Tryz
abbrev aDI:=World->(Bool->ap)->Prop
abbrev as0(f:aDI):bt:=DD [] [.b] λx=>f
def As(cn:Vm)(ae:T1):T0:=λa w k=>drew w λc=>qA7 a 2 c 2 λf=>u7 a c 0 λp5=>u7 p5 c 7 λp7=>qJ7 a .i64 c 1 λs=>cn f p7 s c λb d=>u7 a d 0 λp13=>ae p13 (b.1,b.2).2 d λh e=>an h (k () e) (v7 a e 26 (Iv (b.1,b.2).1) λj=>v7 a j 7 (.func (.func mS) #[.pointer a] #[]) λm=>k () m)
def RS a b:E [.p] [] [(qD,Jl a),(bg,qu b)] 268435469 [] f309=As a b:=aZ
def gZ:=As cn ae
abbrev Au:bt:=bZ gZ
def RT:SS lI (bZ gZ):=so func309 (.c yw (.c bp .z)) (RS cn ae)
def dW:T31:=λa d e w k=>drew w λc=>cN a d 2 λj=>aJ .i64 c (j.add 0) λl=>cN a e 2 λm=>aJ .i64 c (m.add 0) λn=>an (decide (l<n)) (k true c) (cN a d 2 λo=>aJ .i64 c (o.add 0) λp=>cN a e 2 λq=>aJ .i64 c (q.add 0) λr=>an (p==r) (cN a d 2 λf=>aJ .i64 c (f.add 1) λg=>cN a e 2 λh=>aJ .i64 c (h.add 1) λi=>k (decide (g<i)) c) (k false c))
abbrev XF:bt:=Xb dW
def KC:SS lj (Xb dW):=sl 71 [] func421
def bF:T13:=λa b c w k=>drew w λd=>cN a c 2 λg=>bx 2 d g λe=>cN a b 2 λh=>bx 2 d h λf=>cN a b 2 λi=>dQ 2 d i e λj=>cN a c 2 λl=>dQ 2 j l f λm=>k () m
abbrev XG:bt:=D5 bF
def ze:SS dH (D5 bF):=sl 0 [] func422
def Av(dW:T31)(bF:T13):T26:=fun h_0 j_1 w k=>jD (S:=Int) (fun C1 i2 w3=>cz (S:=Bool) (fun J4=>an ((Wf .i64 (IntKind.wrap .i64 (i2 - 1)) 2)==i2) (J4 true w3) (pR (kC [(lj,(Xb dW)),(dH,(D5 bF))]) Tryz.prog h_0 "Less" #[Iv i2,(Iv (Wf .i64 (IntKind.wrap .i64 (i2 - 1)) 2))] w3 fun v5 w6=>Ir v5 fun b7=>J4 (!b7) w6)) fun b8 w9=>an b8 (k () w9) (pR (kC [(lj,(Xb dW)),(dH,(D5 bF))]) Tryz.prog h_0 "Swap" #[(Iv (Wf .i64 (IntKind.wrap .i64 (i2 - 1)) 2)),Iv i2] w9 fun v10 w11=>Is [] v10 fun(u12:Unit)=>C1 (Wf .i64 (IntKind.wrap .i64 (i2 - 1)) 2) w11)) j_1 w
def RU a c:E [.raw,.i .i64] [] [(lj,Xb a),(dH,D5 c)] 131091 [(1,[(1,(.i .i64))]),(4,[(17,.b)])] f379=u_2 (Av a c):=aZ
def cC:=Av dW bF
def GN:SS jt (UK cC):=so func379 (.c KC (.c ze .z)) (RU dW bF)
def j8:Tq:=λe j w k=>tyA Tryz.prog j 20 259 true w λv x=>Is [.ag,.b] v fun(r:Array Value×Bool)=>aE x #[Iv 0,Iv 0] 259 λs y=>dQ 2 y s r.1 λt=>an r.2 (drew t λi=>nn e λu=>cy i u λl=>bx 2 i s λf=>kT #[Iv 0,Iv 0] 0 2 f λg=>aE i g 259 λm h=>ai 1 u i h (og Tryz.prog #[209,209] 209 [S_ l,(.slice (some m) 1 1)] h λd o=>nn e λp=>bN o p (S_ d) λq=>k () q)) (k () t)
abbrev XH:bt:=E9 j8
def XI:SS rK (E9 j8):=sl 2097 [] func424
def cO:T17:=λa w k=>k ((a.n:Nat):Int) w
abbrev Y2:bt:=Jk cO
def FZ:SS fP (Jk cO):=sl 5 [] func420
def wS(cC:T26)(j8:Tq)(cO:T17):asG:=fun h_0 x_1 w k=>pR (kC [(jt,(UK cC)),(rK,(E9 j8)),(fP,(Jk cO))]) Tryz.prog h_0 "Push" #[x_1] w fun v1 w2=>Is [] v1 fun(u3:Unit)=>pR (kC [(jt,(UK cC)),(rK,(E9 j8)),(fP,(Jk cO))]) Tryz.prog h_0 "Len" #[] w2 fun v4 w5=>xS .i64 v4 fun i6=>cC h_0 (IntKind.wrap .i64 (i6 - 1)) w5 fun _u w7=>k () w7
def N0 a b c:E [.raw,.raw] [] [(jt,UK a),(rK,E9 b),(fP,Jk c)] 1 [] f372=u_2 (wS a b c):=aZ
def jx:=wS cC j8 cO
def N1:SS D1 (asH jx):=so func372 (.c GN (.c XI (.c FZ .z))) (N0 cC j8 cO)
def CU(jx:asG):T48:=λa aag ani w k=>an (eA a) (k 2 w) (an (((decide (aag<0))||(decide (ani<1)))||(decide (ani>1099511627776))) (k 10 w) (nn a λo=>ldM w (o.add 2) λp2=>Go.Ev.look Tryz.prog 207 (.map p2) (Iv aag) true w λp n=>Is [(.i .i64),.b] p fun(q:Int×Bool)=>an q.2 (k 18 n) (drew n λe=>nn a λr=>ldM e (r.add 2) λp8=>qJ7 a .i64 e 0 λf=>MP Tryz.prog 207 (.map p8) (Iv aag) (Iv (aF .i64 (f+ani))) e λg=>drew g λd=>nn a λh=>qJ7 a .i64 d 0 λl=>jx (.iface 261 (.pointer (some (h.add 1)))) (.iface 259 (.agg #[(Iv (aF .i64 (l+ani))),Iv aag])) d λ_u m=>k 0 m)))
def VD a:E [.p,.i .i64,.i .i64] [.i .i64] [(D1,asH a)] 4294972231 [] f355=u_3 (CU a):=aZ
def mD:=CU jx
def VE:SS Jh (am2 mD):=so func355 (.c N1 .z) (VD jx)
def yH(aD:W8)(ah:T8)(aH:Nl)(aq:Nl)(cY:T51)(ae:T1)(mD:T48)(av:W9)(aG:T0):T0:=λd w k=>aD d w λb1 w2=>an b1 (k () w2) (ah d w2 λp3 w4=>aH d w4 λa2 w6=>aE w6 JN 75 λa7 w8=>dQ 5 w8 a7 a2 λw9=>drew w9 λf=>nn d λA=>aQ f (A.add 0) λp12=>nn p12 λB=>aQ f (B.add 9) λp14=>nn d λC=>aQ f (C.add 0) λp16=>nn p16 λD=>aQ f (D.add 7) λp18=>nn d λF=>aJ .i64 f (F.add 1) λa4=>aq p3 f λG j=>ai 1 (F.add 1) f j (ai 1 (D.add 7) f j (ai 1 (C.add 0) f j (ai 1 (B.add 9) f j (ai 1 (A.add 0) f j (Qq G 0 λa5=>xS .i64 a5 λa6=>cY p14 p18 a4 a6 j λg H=>u7 d H 0 λa9=>ae a9 (g.1,g.2).2 H λb0 I=>an b0 (k () I) (drew I λb=>nn d λm=>aQ b (m.add 0) λb2=>nn d λo=>aQ b (o.add 0) λb3=>nn b3 λp=>cy b (p.add 10) λr=>nn p3 λJ=>aJ .i64 b (J.add 0) λb4=>nn p3 λL=>cy b (L.add 25) λb5=>nn d λM=>aQ b (M.add 0) λb6=>nn b6 λN=>cy b (N.add 10) λb7=>aq p3 b λO e=>ai 1 (N.add 10) b e (ai 1 (M.add 0) b e (ai 1 (L.add 25) b e (ai 1 (J.add 0) b e (ai 1 (p.add 10) b e (ai 1 (o.add 0) b e (ai 1 (m.add 0) b e (Qq O 0 λb8=>xS .i64 b8 λb9=>cN b7 b9 4 λc0=>aJ .i64 e (c0.add 1) λc1=>ai 1 (p.add 10) b e (ai 1 (o.add 0) b e (ai 1 (m.add 0) b e (kT #[Iv 0,Iv 0,Iv 0,.bool false] 0 4 #[Iv b4,(Iv ((b5.n:Nat):Int)),Iv c1,.bool false] λP=>aE e P 125 λc2 q=>ai 1 (p.add 10) b q (ai 1 (o.add 0) b q (ai 1 (m.add 0) b q (og Tryz.prog #[96,96] 96 [S_ r,(.slice (some c2) 1 1)] q λs Q=>ai 1 (m.add 0) b Q (v7 b2 Q 10 (S_ s) λR=>en p3 R 25 λt=>aE R #[(Iv (g.1,g.2).1)] 3 λc5 c6=>og Tryz.prog #[69,69] 69 [S_ t,(.slice (some c5) 1 1)] c6 λu c7=>v7 p3 c7 25 (S_ u) λc9=>drew c9 λl=>nn p3 λv=>cy l (v.add 24) λx=>qJ7 d .i64 l 26 λd1=>ai 1 (v.add 24) l l (kT #[Iv 0,Iv 0] 0 2 #[(Iv (g.1,g.2).1),Iv d1] λT=>aE l T 356 λd2 U=>ai 1 (v.add 24) l U (og Tryz.prog #[120,120] 120 [S_ x,(.slice (some d2) 1 1)] U λy d3=>v7 p3 d3 24 (S_ y) λd5=>cz (S:=Bool) (λV=>drew d5 λh=>aJ .i64 h (a7.add 4) λd6=>an (decide (d6>0)) (nn d λW=>aQ h (W.add 0) λd7=>u7 d h 0 λd9=>u7 d9 h 17 λe1=>aJ .i64 h (a7.add 4) λe2=>mD e1 (g.1,g.2).1 e2 h λe3 X=>ai 1 (W.add 0) h X (ae d7 e3 X λe4 e5=>V e4 e5)) (V false h)) λe6 z=>an e6 (k () z) (qA7 p3 19 z 4 λY=>av Y z λZ e8=>nn p3 λe9=>dQ 19 e8 (e9.add 4) Z λa0=>aG d a0 λ_u a1=>k () a1))))))))))))))))))))))))
def PW a c d e f g h i j:E [.p] [] [(jT,LR a),(bX,GB c),(kN,E8 d),(gK,E8 e),(vY,ae1 f),(bg,qu g),(Jh,am2 h),(iU,Kx i),(lK,bZ j)] 85070591730234615865843656255988564157 [(9,[(126,.b)])] f333=yH a c d e f g h i j:=aZ
def fX:=yH aD ah aH aq cY ae mD av aG
abbrev yI:bt:=bZ fX
def PX:SS mS (bZ fX):=so func333 (.c kQ (.c cm (.c mY (.c iO (.c CL (.c bp (.c VE (.c kR (.c nD .z))))))))) (PW aD ah aH aq cY ae mD av aG)
def yJ(cF:Tq):T0:=λa w k=>aE w #[.pointer a] 141 λb c=>aQ c b λp3=>cF p3 (.func (.func pq) #[] #[.pointer (some b)]) c λ_u d=>k () d
def PY a:E [.p] [] [(uc,E9 a)] 2 [] f310=yJ a:=aZ
def fY:=yJ cF
abbrev yK:bt:=bZ fY
def PZ:SS kO (bZ fY):=so func310 (.c z9 .z) (PY cF)
def yL(G:T57)(H:T96)(av:W9):asc:=λuw p as2 w k=>aE w uw 119 λz B=>aE B p 75 λq C=>aE C D4 119 λo A=>bx 19 A z λr=>aE A D4 119 λs D=>dQ 19 D s r λc=>bx 5 c q λd=>G d 12 c λt a=>an t (drew a λb=>aJ .i64 b (q.add 1) λu=>H as2 b λv e=>ai 1 (q.add 1) b e (Hf (s.add 2) 8 u 1 λx=>bN e x (Iv v) λf=>bx 19 f s λg=>av g f λh y=>dQ 19 y o h λi=>bx 19 i o λj=>k j i)) (bx 19 a z λl=>dQ 19 a o l λm=>bx 19 m o λn=>k n m)
def P0 a c d:E [.ag,.ag,.b] [.ag] [(DY,ais a),(Nk,ar6 c),(iU,Kx d)] 1244 [] f193=u_3 (yL a c d):=aZ
def jg:=yL eR mX av
def P1:SS E5 (asd jg):=so func193 (.c IA (.c Xx (.c kR .z))) (P0 eR mX av)
def cE:asC:=λa d w k=>aE w d 259 λi j=>jD (S:=Int) (λl b h=>an (decide (b<((a.n:Nat):Int))) (drew h λc=>bx 2 c i λe=>cN a b 2 λm=>bx 2 c m λf=>Tj ([(0,0)] ++([(1,0)] ++[])) e f λg=>an g (k b c) (l (aF .i64 (b+1)) c)) (k (-1) h)) 0 j
def xF:SS qq (asD cE):=sl 66489 [(3,[(8,(.i .i64))])] func364
def wT(dW:T31)(bF:T13):T24:=fun h_0 as3 n_2 w k=>jD (S:=Int) (fun C1 i2 w3=>an ((decide ((IntKind.wrap .i64 ((IntKind.wrap .i64 (2*i2))+1))>=n_2))||(decide ((IntKind.wrap .i64 ((IntKind.wrap .i64 (2*i2))+1))<0))) (k (decide (i2>as3)) w3) (cz (S:=Bool) (fun J4=>an (decide ((IntKind.wrap .i64 ((IntKind.wrap .i64 ((IntKind.wrap .i64 (2*i2))+1))+1))<n_2)) (pR (kC [(lj,(Xb dW)),(dH,(D5 bF))]) Tryz.prog h_0 "Less" #[(Iv (IntKind.wrap .i64 ((IntKind.wrap .i64 ((IntKind.wrap .i64 (2*i2))+1))+1))),(Iv (IntKind.wrap .i64 ((IntKind.wrap .i64 (2*i2))+1)))] w3 fun v5 w6=>Ir v5 fun b7=>J4 b7 w6) (J4 false w3)) fun b8 w9=>cz (S:=Int) (fun J10=>an b8 ((J10 (IntKind.wrap .i64 ((IntKind.wrap .i64 ((IntKind.wrap .i64 (2*i2))+1))+1)) w9)) ((J10 (IntKind.wrap .i64 ((IntKind.wrap .i64 (2*i2))+1)) w9))) fun i11 w12=>pR (kC [(lj,(Xb dW)),(dH,(D5 bF))]) Tryz.prog h_0 "Less" #[Iv i11,Iv i2] w12 fun v13 w14=>Ir v13 fun b15=>an (!b15) (k (decide (i2>as3)) w14) (pR (kC [(lj,(Xb dW)),(dH,(D5 bF))]) Tryz.prog h_0 "Swap" #[Iv i2,Iv i11] w14 fun v16 w17=>Is [] v16 fun(u18:Unit)=>C1 i11 w17))) as3 w
def N2 a c:E [.raw,.i .i64,.i .i64] [.b] [(lj,Xb a),(dH,D5 c)] 558347847623 [(3,[(7,(.i .i64))]),(10,[(33,.b)]),(11,[(9,(.i .i64))])] f199=u_3 (wT a c):=aZ
def bU:=wT dW bF
def EC:SS fM (Q1 bU):=so func199 (.c KC (.c ze .z)) (N2 dW bF)
def dJ:T20:=λb w k=>nn b λq=>cy w q λm=>nn b λr=>cy w r λs=>cN s (aF .i64 (((m.n:Nat):Int) - 1)) 2 λt=>bx 2 w t λh=>aE w #[Iv 0,Iv 0] 259 λo u=>dQ 2 u o h λp=>nn b λi=>cy p i λj=>Th j 2 0 (aF .i64 (((m.n:Nat):Int) - 1)) λd=>nn b λl=>bN p l (S_ d) λe=>bx 2 e o λf=>k (.iface 259 (.agg f)) e
abbrev Mj:bt:=H6 dJ
def Mk:SS iI (H6 dJ):=sl 29 [] func423
def uG(bU:T24)(cC:T26)(cO:T17)(bF:T13)(dJ:T20):asE:=fun h_0 i_1 w k=>pR (kC [(fM,(Q1 bU)),(jt,(UK cC)),(fP,(Jk cO)),(dH,(D5 bF)),(iI,(H6 dJ))]) Tryz.prog h_0 "Len" #[] w fun v1 w2=>xS .i64 v1 fun i3=>an ((IntKind.wrap .i64 (i3 - 1)) !=i_1) (pR (kC [(fM,(Q1 bU)),(jt,(UK cC)),(fP,(Jk cO)),(dH,(D5 bF)),(iI,(H6 dJ))]) Tryz.prog h_0 "Swap" #[Iv i_1,(Iv (IntKind.wrap .i64 (i3 - 1)))] w2 fun v4 w5=>Is [] v4 fun(u6:Unit)=>bU h_0 i_1 (IntKind.wrap .i64 (i3 - 1)) w5 fun b7 w8=>an (!b7) (cC h_0 i_1 w8 fun _u w9=>pR (kC [(fM,(Q1 bU)),(jt,(UK cC)),(fP,(Jk cO)),(dH,(D5 bF)),(iI,(H6 dJ))]) Tryz.prog h_0 "Pop" #[] w9 fun v10 w11=>k v10 w11) (pR (kC [(fM,(Q1 bU)),(jt,(UK cC)),(fP,(Jk cO)),(dH,(D5 bF)),(iI,(H6 dJ))]) Tryz.prog h_0 "Pop" #[] w8 fun v12 w13=>k v12 w13)) (pR (kC [(fM,(Q1 bU)),(jt,(UK cC)),(fP,(Jk cO)),(dH,(D5 bF)),(iI,(H6 dJ))]) Tryz.prog h_0 "Pop" #[] w2 fun v14 w15=>k v14 w15)
def Ln a b c d e:E [.raw,.i .i64] [.raw] [(fM,Q1 a),(jt,UK b),(fP,Jk c),(dH,D5 d),(iI,H6 e)] 1050675 [] f363=u_2 (uG a b c d e):=aZ
def iy:=uG bU cC cO bF dJ
def Lo:SS BZ (asF iy):=so func363 (.c EC (.c GN (.c FZ (.c ze (.c Mk .z))))) (Ln bU cC cO bF dJ)
def BD(cE:asC)(iy:asE):T1:=λa aag w k=>an (eA a) (k false w) (nn a λn=>ldM w (n.add 2) λp2=>Go.Ev.look Tryz.prog 207 (.map p2) (Iv aag) true w λo f=>Is [(.i .i64),.b] o fun(e:Int×Bool)=>an e.2 (nn a λq=>ldM f (q.add 2) λp7=>ahR Tryz.prog #[207,3] 0 [(.map p7),Iv aag] f λt r=>drew r λc=>nn a λg=>nn a λd=>cy c (d.add 1) λh=>ai 1 (d.add 1) c c (cE h #[Iv e.1,Iv aag] c λj l=>iy (.iface 261 (.pointer (some (g.add 1)))) j l λs m=>k e.2 m)) (k e.2 f))
def TY a c:E [.p,.i .i64] [.b] [(qq,asD a),(BZ,asF c)] 262515 [] f349=u_2 (BD a c):=aZ
def lu:=BD cE iy
def Ua:SS HX (qu lu):=so func349 (.c xF (.c Lo .z)) (TY cE iy)
def Aw(D:T8)(aq:Nl)(lu:T1):T0:=λb w k=>D b w λp1 y=>aq p1 y λg h=>Qq g 0 λz=>xS .i64 z λx=>u7 b h 0 λp8=>u7 p8 h 17 λp10=>lu p10 x h λC d=>u7 b d 0 λp14=>en p14 d 10 λm=>cN m x 4 λo=>bN d (o.add 3) (.bool true) λp=>drew p λe=>en p1 e 24 λr=>en p1 e 24 λt=>Th r 2 0 (aF .i64 (((t.n:Nat):Int) - 1)) λf=>v7 p1 e 24 (S_ f) λv=>k () v
def RV a b c:E [.p] [] [(bX,GB a),(gK,E8 b),(HX,qu c)] 13 [] f329=Aw a b c:=aZ
def eo:=Aw ah aq lu
def GO:SS zM (bZ eo):=so func329 (.c cm (.c iO (.c Ua .z))) (RV ah aq lu)
def wU(aD:W8)(ah:T8)(aH:Nl)(aq:Nl)(eG:T46)(ae:T1)(jg:asc)(eo:T0)(aG:T0):T0:=λb w k=>aD b w λR P=>an R (k () P) (ah b P λp3 T=>aH b T λv U=>aE U JN 75 λQ V=>dQ 5 V Q v λW=>drew W λa=>nn b λg=>aQ a (g.add 0) λp12=>nn p12 λh=>aQ a (h.add 9) λp14=>nn b λi=>aQ a (i.add 0) λp16=>nn p16 λj=>aQ a (j.add 7) λp18=>nn b λl=>aJ .i64 a (l.add 1) λy=>aq p3 a λm c=>ai 1 (l.add 1) a c (ai 1 (j.add 7) a c (ai 1 (i.add 0) a c (ai 1 (h.add 9) a c (ai 1 (g.add 0) a c (Qq m 0 λz=>xS .i64 z λA=>eG p14 p18 y A c λd n=>u7 b n 0 λC=>ae C (d.1,d.2).2 n λD e=>an D (k () e) (cz (S:=ByteArray) (λo=>an (d.1,d.2).1 (o (ByteArray.mk #[49]) e) (o (ByteArray.mk #[48]) e)) λp q=>nn p3 λF=>Qp q (F.add 23) λr=>((((((ByteArray.size r)+(ByteArray.size p)):Nat):Int)<=9223372036854775807))/\(v7 p3 q 23 (.string (r++p)) λH=>drew H λf=>qA7 p3 19 f 4 λs=>bx 5 f Q λt=>jg s t (d.1,d.2).1 f λu J=>nn p3 λL=>dQ 19 J (L.add 4) u λM=>eo b M λ_u N=>aG b N λ_u O=>k () O))))))))
def N3 a b c d e f g h i:E [.p] [] [(jT,LR a),(bX,GB b),(kN,E8 c),(gK,E8 d),(Bk,aac e),(bg,qu f),(E5,asd g),(zM,bZ h),(lK,bZ i)] 26388279067005 [(8,[(6,.str)])] f335=wU a b c d e f g h i:=aZ
def fq:=wU aD ah aH aq eG ae jg eo aG
abbrev wV:bt:=bZ fq
def N4:SS lU (bZ fq):=so func335 (.c kQ (.c cm (.c mY (.c iO (.c Ij (.c bp (.c P1 (.c GO (.c nD .z))))))))) (N3 aD ah aH aq eG ae jg eo aG)
def ED(o:T6)(p:T42):T46:=λa b f c w k=>o a b c w λg d=>an (g !=0) (k (false,g) d) (en a d 0 λi=>cN i c 3 λj=>aJ .i64 d (j.add 2) λm=>p b f m 0 1 d λe n=>k ((e.1,e.2).1,(e.1,e.2).2) n)
def XJ a c:E [.p,.p,.i .i64,.i .i64] [.b,.i .i64] [(ol,ry a),(nq,aco c)] 67343 [] f152=u_4 (ED a c):=aZ
def gI:=ED bh aR
def KD:SS DV (aac gI):=so func152 (.c pW (.c pC .z)) (XJ bh aR)
def wW(aD:W8)(ah:T8)(aq:Nl)(gI:T46)(ae:T1)(av:W9)(aG:T0)(cj:Tq):T0:=λa w k=>aD a w λF B=>an F (k () B) (ah a B λp3 G=>drew G λc=>nn a λC=>aQ c (C.add 0) λp7=>nn p7 λD=>aQ c (D.add 9) λp9=>nn a λe=>aQ c (e.add 0) λp11=>nn p11 λf=>aQ c (f.add 7) λp13=>nn a λg=>aJ .i64 c (g.add 1) λo=>aq p3 c λh b=>ai 1 (g.add 1) c b (ai 1 (f.add 7) c b (ai 1 (e.add 0) c b (ai 1 (D.add 9) c b (ai 1 (C.add 0) c b (Qq h 0 λp=>xS .i64 p λq=>gI p9 p13 o q b λi j=>u7 a j 0 λs=>ae s (i.1,i.2).2 j λt d=>an t (k () d) (qA7 p3 19 d 4 λl=>av l d λm v=>nn p3 λx=>dQ 19 v (x.add 4) m λy=>aG a y λ_u z=>cj a (.func (.func gC) #[.pointer a] #[]) z λ_u A=>k () A)))))))
def N5 a b c d e f g h:E [.p] [] [(jT,LR a),(bX,GB b),(gK,E8 c),(DV,aac d),(bg,qu e),(iU,Kx f),(lK,bZ g),(tB,E9 h)] 549755813973 [] f311=wW a b c d e f g h:=aZ
def fx:=wW aD ah aq gI ae av aG cj
abbrev wX:bt:=bZ fx
def N6:SS kq (bZ fx):=so func311 (.c kQ (.c cm (.c iO (.c KD (.c bp (.c kR (.c nD (.c yo .z)))))))) (N5 aD ah aq gI ae av aG cj)
def Ax(aD:W8)(ah:T8)(av:W9)(aG:T0):T0:=λa w k=>aD a w λj h=>an (!j) (ah a h λp3 l=>ah a l λp5 i=>qA7 p5 19 i 4 λb=>av b i λc d=>nn p3 λe=>dQ 19 d (e.add 4) c λf=>aG a f λ_u g=>k () g) (k () h)
def RW a b c d:E [.p] [] [(jT,LR a),(bX,GB b),(iU,Kx c),(lK,bZ d)] 17 [] f312=Ax a b c d:=aZ
def g9:=Ax aD ah av aG
abbrev Ay:bt:=bZ g9
def RX:SS lJ (bZ g9):=so func312 (.c kQ (.c cm (.c kR (.c nD .z)))) (RW aD ah av aG)
def yM(aD:W8)(ah:T8)(aH:Nl)(av:W9)(aG:T0)(cB:T41):T0:=λa w k=>aD a w λC A=>an C (k () A) (ah a A λp3 D=>aH a D λi F=>aE F JN 75 λh G=>dQ 5 G h i λB=>qA7 p3 19 B 4 λf=>av f B λg l=>nn p3 λm=>dQ 19 l (m.add 4) g λn=>aG a n λ_u c=>aJ .i64 c (h.add 0) λo=>an (o==15) (drew c λd=>aJ .i64 d (h.add 1) λp=>nn p3 λq=>Hf (aY (q.add 4) 2) 8 p 1 λr=>aJ .i64 d r λs=>cB a 3 s d λ_u t=>k () t) (drew c λe=>aJ .i64 e (h.add 1) λu=>nn p3 λv=>Hf (aY (v.add 4) 2) 8 u 1 λx=>aJ .i64 e x λy=>cB a 2 y e λ_u z=>k () z))
def P2 a b c d e f:E [.p] [] [(jT,LR a),(bX,GB b),(kN,E8 c),(iU,Kx d),(lK,bZ e),(ua,acn f)] 8388701 [] f313=yM a b c d e f:=aZ
def fZ:=yM aD ah aH av aG cB
abbrev yN:bt:=bZ fZ
def P3:SS iV (bZ fZ):=so func313 (.c kQ (.c cm (.c mY (.c kR (.c nD (.c Ab .z)))))) (P2 aD ah aH av aG cB)
def Az(j:T43):T47:=λuw a b c w k=>aE w uw 116 λf e=>aJ .i64 e (f.add 0) λg=>j a b (aF .i64 (g+1)) c e λh i=>k h i
def RY a:E [.ag,.p,.i .i64,.i .i64] [.i .i64] [(lQ,acp a)] 286 [] f343=u_4 (Az a):=aZ
def kH:=Az aK
def RZ:SS Gy (aad kH):=so func343 (.c nW .z) (RY aK)
def BE(A:T8)(B:T47)(C:T1):T0:=λa w k=>A a w λp1 v=>cz (S:=Bool) (λt=>drew v λb=>qJ7 p1 .i64 b 26 λy=>an (y==4) (t true b) (nn a λu=>aQ b (u.add 0) λp8=>qA7 p1 1 b 3 λd=>u7 a b 0 λp12=>u7 p12 b 7 λp14=>qJ7 a .i64 b 1 λj=>qJ7 p1 .i64 b 27 λm=>B d p14 j m b λn e=>ai 1 (u.add 0) b e (C p8 n e λo p=>t (!o) p))) λq f=>an q (v7 a f 7 (.func (.func oa) #[.pointer a] #[]) λs=>k () s) (k () f)
def Ub a c d:E [.p] [] [(bX,GB a),(Gy,aad c),(bg,qu d)] 137438953477 [(1,[(37,.b)])] f326=BE a c d:=aZ
def iR:=BE ah kH ae
abbrev BF:bt:=bZ iR
def Uc:SS n9 (bZ iR):=so func326 (.c cm (.c RZ (.c bp .z))) (Ub ah kH ae)
def AA(i:T42):ase:=λuw a d as4 w k=>aE w uw 116 λf b=>an (eA a) (k (false,2) b) (an ((decide (as4<2))||(decide (as4>4))) (k (false,10) b) (aJ .i64 b (f.add 0) λg=>i a d (aF .i64 (g+0)) 1 as4 b λc h=>k ((c.1,c.2).1,(c.1,c.2).2) h))
def R1 a:E [.ag,.p,.i .i64,.i .i64] [.b,.i .i64] [(nq,aco a)] 10014 [] f359=u_4 (AA a):=aZ
def kI:=AA aR
def R3:SS Gz (asf kI):=so func359 (.c pC .z) (R1 aR)
def BG(u:T8)(kI:ase)(ae:T1):T0:=λa w k=>u a w λp1 q=>drew q λb=>qA7 p1 1 b 3 λf=>u7 a b 0 λp7=>u7 p7 b 7 λp9=>qJ7 a .i64 b 1 λi=>qJ7 p1 .i64 b 26 λl=>kI f p9 i l b λc d=>u7 a d 0 λp17=>ae p17 (c.1,c.2).2 d λn e=>an (!n) (v7 a e 7 (.func (.func nw) #[.pointer a] #[]) λp=>k () p) (k () e)
def Ud a b c:E [.p] [] [(bX,GB a),(Gz,asf b),(bg,qu c)] 68719476757 [] f344=BG a b c:=aZ
def iS:=BG ah kI ae
abbrev BH:bt:=bZ iS
def Ue:SS oa (bZ iS):=so func344 (.c cm (.c R3 (.c bp .z))) (Ud ah kI ae)
def uH(aj:Hv):Vm:=λuw b c w k=>aE w uw 116 λf e=>aJ .i64 e (f.add 0) λg=>aj b c (aF .i64 (g+2)) e λa h=>k ((a.1,a.2).1,(a.1,a.2).2) h
def Lp a:E [.ag,.p,.i .i64] [.i .i64,.i .i64] [(dS,zb a)] 206 [] f374=u_3 (uH a):=aZ
def iz:=uH aj
def Lq:SS B0 (Jl iz):=so func374 (.c er .z) (Lp aj)
def AB(u:T8)(iz:Vm)(ae:T1):T0:=λa w k=>drew w λc=>nn a λp=>aQ c (p.add 0) λp3=>nn p3 λq=>aQ c (q.add 7) λp5=>nn a λr=>aJ .i64 c (r.add 1) λt=>u a c λp8 d=>ai 1 (r.add 1) c d (ai 1 (q.add 7) c d (ai 1 (p.add 0) c d (qA7 p8 1 d 3 λe=>iz e p5 t d λb f=>u7 a f 0 λp15=>ae p15 (b.1,b.2).2 f λj g=>an (!j) (v7 a g 30 (Iv (b.1,b.2).1) λm=>v7 a m 7 (.func (.func ny) #[.pointer a] #[]) λo=>k () o) (k () g))))
def R4 a b c:E [.p] [] [(bX,GB a),(B0,Jl b),(bg,qu c)] 1073741837 [] f360=AB a b c:=aZ
def ia:=AB ah iz ae
abbrev AD:bt:=bZ ia
def R5:SS nw (bZ ia):=so func360 (.c cm (.c Lq (.c bp .z))) (R4 ah iz ae)
def BJ(o:T6)(p:T36):T46:=λb c f d w k=>o b c d w λh e=>an (h !=0) (k (false,h) e) (en b e 0 λj=>cN j d 3 λl=>aJ .i64 e (l.add 2) λm=>p c f (aF .i64 (m+1)) (-1) e λa n=>(k ((((a.1,a.2).2==0)&&((a.1,a.2).1==1)),(a.1,a.2).2) n))
def Uf a c:E [.p,.p,.i .i64,.i .i64] [.b,.i .i64] [(ol,ry a),(ko,aab c)] 270095 [] f386=u_4 (BJ a c):=aZ
def lz:=BJ bh aL
def Ug:SS HY (aac lz):=so func386 (.c pW (.c nB .z)) (Uf bh aL)
def AE(U:T8)(V:T46)(W:T1)(cj:Tq):T0:=λb w k=>drew w λe=>nn b λQ=>aQ e (Q.add 0) λp3=>nn p3 λR=>aQ e (R.add 9) λp5=>nn b λS=>aQ e (S.add 0) λp7=>nn p7 λT=>aQ e (T.add 7) λp9=>nn b λp=>aJ .i64 e (p.add 1) λs=>U b e λp12 d=>ai 1 (p.add 1) e d (ai 1 (T.add 7) e d (ai 1 (S.add 0) e d (ai 1 (R.add 9) e d (ai 1 (Q.add 0) e d (qJ7 p12 .i64 d 1 λu=>V p5 p9 s u d λh q=>u7 b q 0 λp19=>W p19 (h.1,h.2).2 q λx g=>an x (k () g) (en b g 5 λi=>en b g 6 λA=>cN A (aF .i64 (((i.n:Nat):Int) - 1)) 1 λB=>tH g B λr=>drew g λj=>en b j 5 λD=>Th D 1 0 (aF .i64 (((i.n:Nat):Int) - 1)) λl=>en b j 6 λG=>Th G 1 0 (aF .i64 (((i.n:Nat):Int) - 1)) λm=>v7 b j 5 (S_ l) λI=>v7 b I 6 (S_ m) λL=>v7 b L 7 r λo=>qJ7 b .i64 o 30 λO=>an ((O !=0)||(h.1,h.2).1) (cj b r o λ_u P=>k () P) (k () o)))))))
def R6 a b c d:E [.p] [] [(bX,GB a),(HY,aac b),(bg,qu c),(tB,E9 d)] 2417851639229533227319357 [] f375=AE a b c d:=aZ
def ie:=AE ah lz ae cj
abbrev AF:bt:=bZ ie
def R7:SS ny (bZ ie):=so func375 (.c cm (.c Ug (.c bp (.c yo .z)))) (R6 ah lz ae cj)
def wY(aj:Hv):Vm:=λuw b c w k=>aE w uw 116 λf e=>aJ .i64 e (f.add 0) λg=>aj b c (aF .i64 (g+0)) e λa h=>k ((a.1,a.2).1,(a.1,a.2).2) h
def N7 a:E [.ag,.p,.i .i64] [.i .i64,.i .i64] [(dS,zb a)] 974 [] f367=u_3 (wY a):=aZ
def jy:=wY aj
def N8:SS D0 (Jl jy):=so func367 (.c er .z) (N7 aj)
def yO(jy:Vm)(ae:T1)(bI:Tq)(ah:T8)(dM:Xa):T0:=λn w k=>aE w #[.pointer n] 141 λb X=>drew X λf=>aQ f b λp4=>u7 p4 f 20 λp6=>qA7 p6 1 f 3 λo=>aQ f b λp9=>u7 p9 f 0 λp11=>u7 p11 f 7 λp13=>aQ f b λp14=>qJ7 p14 .i64 f 1 λt=>jy o p13 t f λa h=>aQ h b λp19=>u7 p19 h 0 λv=>ae v (a.1,a.2).2 h λx g=>an x (k () g) (aQ g b λy=>u7 y g 20 λA=>aE g #[.pointer none] 114 λi B=>bN B i (.pointer A) λc=>an ((a.1,a.2).1==0) (aQ c b λC=>qV7 C c 24 λF=>aE c #[.nilFunc] 1 λj G=>bN G j F λl=>aQ l b λH=>bI H (.func (.func pu) #[] #[.pointer (some b),.pointer (some i),.pointer (some j)]) l λ_u I=>k () I) (an ((a.1,a.2).1==1) (drew c λd=>aQ d b λJ=>aQ d b λL=>aQ d b λM=>ah L d λN e=>ai 1 b d e (ai 1 b d e (en N e 24 λP=>cN P 0 2 λQ=>aJ .i64 e (Q.add 1) λR=>dM J R (.func (.func ku) #[.pointer M] #[]) e λ_u S=>k () S))) (aQ c b λT=>v7 T c 21 (Iv (a.1,a.2).1) λm=>aQ m b λV=>bI V (.func (.func px) #[] #[.pointer (some b)]) m λ_u W=>k () W)))
def P4 a b c d e:E [.p] [] [(D0,Jl a),(bg,qu b),(q9,E9 c),(bX,GB d),(xW,LS e)] 36099449230983230 [] f354=yO a b c d e:=aZ
def gu:=yO jy ae bI ah dM
abbrev yP:bt:=bZ gu
def P5:SS mT (bZ gu):=so func354 (.c N8 (.c bp (.c uf (.c cm (.c Fq .z))))) (P4 jy ae bI ah dM)
def wZ(aj:Hv):Vm:=λuw b c w k=>aE w uw 116 λf e=>aJ .i64 e (f.add 0) λg=>aj b c (aF .i64 (g+1)) e λa h=>k ((a.1,a.2).1,(a.1,a.2).2) h
def N9 a:E [.ag,.p,.i .i64] [.i .i64,.i .i64] [(dS,zb a)] 206 [] f385=u_3 (wZ a):=aZ
def jz:=wZ aj
def Oa:SS D3 (Jl jz):=so func385 (.c er .z) (N9 aj)
def yQ(eR:T57)(av:W9)(de:T49):ash:=λuw H S3 f w k=>aE w uw 119 λd w2=>aE w2 H 75 λg w4=>aE w4 D4 119 λe I=>cz (S:=Bool) (λJ=>an ((decide (S3<2))||(decide (S3>4))) (J true I) (bx 5 I g λL=>eR L 9 I λb9 h=>an (!b9) (bx 5 h g λj=>eR j 10 h λM N=>J (!M) N) (J false h))) λO a=>an O (bx 19 a d λl=>dQ 19 a e l λm=>bx 19 m e λn=>k (n,(0,false)) m) (cz (S:=Int) (λo=>aJ .i64 a (g.add 0) λP=>an (P==10) (cz (S:=Int) (λp=>an (S3==4) (p 0 a) (p f a)) λQ R=>drew R λc=>aJ .i64 c (g.add 1) λT=>aJ .i64 c (g.add 2) λU=>Hf (d.add 2) 8 T 1 λV=>bN c V (Iv Q) λq=>ai 1 (g.add 2) c q (Hf (d.add 2) 8 U 1 λW=>bN q W (Iv (aF .i64 (S3 - 2))) λr=>bx 19 r d λs=>av s r λt X=>dQ 19 X e t λu=>bx 19 u e λv=>k (v,(0,false)) u)) (an (S3==2) (aJ .i64 a (g.add 1) λY=>Hf (d.add 2) 8 Y 1 λZ=>bN a Z (Iv f) λx=>bx 19 x d λy=>av y x λz a0=>dQ 19 a0 e z λA=>bx 19 A e λB=>k (B,(0,false)) A) (an (S3==4) (o (-1) a) (o f a)))) λa2 i=>bx 19 i d λC=>aJ .i64 i (d.add 1) λa4=>de C a4 i λD a6=>dQ 19 a6 e D λF=>bx 19 F e λG=>k (G,(a2,true)) F)
def P6 a c d:E [.ag,.ag,.i .i64,.i .i64] [.ag,.i .i64,.b] [(DY,ais a),(iU,Kx c),(tZ,acr d)] 588746065724 [(1,[(26,.b)]),(5,[(3,(.i .i64))]),(16,[(3,(.i .i64))])] f192=u_4 (yQ a c d):=aZ
def iu:=yQ eR av de
def P7:SS E4 (asi iu):=so func192 (.c IA (.c kR (.c Eu .z))) (P6 eR av de)
def xa(aD:W8)(ah:T8)(aH:Nl)(jz:Vm)(ae:T1)(iu:ash)(aG:T0)(cB:T41):T0:=λa w k=>aD a w λb1 w2=>an b1 (k () w2) (ah a w2 λp3 w4=>aH a w4 λD w6=>aE w6 JN 75 λC w8=>dQ 5 w8 C D λF=>qJ7 a .i64 F 21 λH=>cz (S:=Int) (λp=>an (H !=4) (drew F λe=>u7 a e 20 λp15=>qA7 p15 1 e 3 λq=>u7 a e 0 λp19=>u7 p19 e 7 λN=>qJ7 a .i64 e 1 λP=>jz q N P e λf r=>u7 a r 0 λR=>ae R (f.1,f.2).2 r λT s=>an T (k () s) (p (f.1,f.2).1 s)) (p 0 F)) λt U=>cz (S:=(Addr×(Int×Bool))) (λu=>drew U λb=>nn p3 λl=>bx 19 b (l.add 4) λi=>bx 5 b C λj=>nn a λm=>aJ .i64 b (m.add 21) λv=>both (iu i j v t b λc V=>aE V D4 119 λx g=>ai 1 (m.add 21) b g (ai 5 C b g (ai 19 (l.add 4) b g (dQ 19 g x (c.1,(c.2.1,c.2.2)).1 λW=>(u (x,((c.1,(c.2.1,c.2.2)).2.1,(c.1,(c.2.1,c.2.2)).2.2)) W))))) (aE b D4 119 λy h=>ai 1 (m.add 21) b h (ai 5 C b h (ai 19 (l.add 4) b h (iu i j v t h λd X=>dQ 19 X y (d.1,(d.2.1,d.2.2)).1 λY=>(u (y,((d.1,(d.2.1,d.2.2)).2.1,(d.1,(d.2.1,d.2.2)).2.2)) Y)))))) λn z=>bx 19 z n.1 λA=>nn p3 λZ=>dQ 19 z (Z.add 4) A λa0=>aG a a0 λ_u B=>an n.2.2 (cB a 3 n.2.1 B λ_u a1=>k () a1) (k () B))
def Ob c d e f g h j l:E [.p] [] [(jT,LR c),(bX,GB d),(kN,E8 e),(D3,Jl f),(bg,qu g),(E4,asi h),(lK,bZ j),(ua,acn l)] 2361183522909800369149 [(5,[(4,(.i .i64))]),(10,[(7,.a),(8,(.i .i64)),(9,.b)])] f371=xa c d e f g h j l:=aZ
def fy:=xa aD ah aH jz ae iu aG cB
abbrev xb:bt:=bZ fy
def Oc:SS lX (bZ fy):=so func371 (.c kQ (.c cm (.c mY (.c Oa (.c bp (.c P7 (.c nD (.c Ab .z)))))))) (Ob aD ah aH jz ae iu aG cB)
def xd(cn:Vm)(ae:T1)(eM:W7)(bq:T39)(cu:T0)(cV:T22):T0:=λi w k=>aE w #[.pointer i] 141 λc G=>drew G λe=>aQ e c λp4=>qA7 p4 2 e 2 λj=>aQ e c λp7=>u7 p7 e 0 λp9=>u7 p9 e 7 λp11=>aQ e c λp12=>qJ7 p12 .i64 e 1 λo=>cn j p11 o e λd f=>aQ f c λp17=>u7 p17 f 0 λp19=>ae p19 (d.1,d.2).2 f λq a=>an q (k () a) (aQ a c λr=>qJ7 r .i64 a 26 λt=>an (decide ((d.1,d.2).1<=t)) (aQ a c λu=>qV7 u a 27 λx=>nj (kC [(qD,(Jl cn)),(bg,(qu ae)),(vZ,(HZ eM)),(mP,(acm bq)),(ku,(bZ cu)),(kr,(Fa cV))]) x #[] a λy z=>Is [] y fun(J:Unit)=>k () z) (drew a λb=>aQ b c λA=>aQ b c λB=>qA7 B 2 b 2 λg=>eM g b λD h=>ai 1 c b h (bq A D (.func (.func oN) #[] #[.pointer (some c)]) h λ_u F=>k () F)))
def Od a b c d e f:E [.p] [] [(qD,Jl a),(bg,qu b),(vZ,HZ c),(mP,acm d),(ku,bZ e),(kr,Fa f)] 17448304654 [] f361=xd a b c d e f:=aZ
def fA:=xd cn ae eM bq cu cV
abbrev xe:bt:=bZ fA
def Oe:SS lW (bZ fA):=so func361 (.c yw (.c bp (.c Js (.c tC (.c z6 (.c Es .z)))))) (Od cn ae eM bq cu cV)
def vv(s:T6)(t:T1):T0:=λa w k=>v7 a w 14 (.bool false) λo=>drew o λb=>nn a λm=>aQ b (m.add 0) λp5=>u7 a b 4 λp7=>u7 a b 0 λp9=>u7 p9 b 7 λp11=>qJ7 a .i64 b 1 λg=>s p7 p11 g b λh c=>ai 1 (m.add 0) b c (t p5 h c λi d=>an i (k () d) (v7 a d 7 (.func (.func kZ) #[.pointer a] #[]) λl=>k () l))
def Ml a b:E [.p] [] [(uQ,ry a),(bg,qu b)] 33554433 [] f348=vv a b:=aZ
def eN:=vv cM ae
abbrev vw:bt:=bZ eN
def Mm:SS kY (bZ eN):=so func348 (.c BC (.c bp .z)) (Ml cM ae)
def CV(o:T6)(aj:Hv):T51:=λa b f c w k=>o a b c w λh d=>an (h !=0) (k (0,h) d) (en a d 0 λj=>cN j c 3 λl=>aJ .i64 d (l.add 2) λm=>aj b f (aF .i64 (m+1)) d λe n=>k ((e.1,e.2).1,(e.1,e.2).2) n)
def VF a b:E [.p,.p,.i .i64,.i .i64] [.i .i64,.i .i64] [(ol,ry a),(dS,zb b)] 67343 [] f378=u_4 (CV a b):=aZ
def mE:=CV bh aj
def VG:SS Ji (ae1 mE):=so func378 (.c pW (.c er .z)) (VF bh aj)
def vz(A:T8)(aq:Nl)(mE:T51)(ae:T1)(bI:Tq)(cu:T0):T0:=λa w k=>drew w λb=>nn a λj=>aQ b (j.add 0) λp3=>nn p3 λl=>aQ b (l.add 9) λp5=>nn a λm=>aQ b (m.add 0) λp7=>nn p7 λn=>aQ b (n.add 7) λp9=>nn a λg=>aJ .i64 b (g.add 1) λp=>A a b λp12 c=>ai 1 (g.add 1) b c (ai 1 (n.add 7) b c (ai 1 (m.add 0) b c (ai 1 (l.add 9) b c (ai 1 (j.add 0) b c (aq p12 c λh d=>ai 1 (g.add 1) b d (ai 1 (n.add 7) b d (ai 1 (m.add 0) b d (ai 1 (l.add 9) b d (ai 1 (j.add 0) b d (Qq h 0 λq=>xS .i64 q λr=>mE p5 p9 p r d λe i=>u7 a i 0 λt=>ae t (e.1,e.2).2 i λu f=>an u (k () f) (an ((e.1,e.2).1==0) (qV7 a f 31 λx=>bI a x f λ_u y=>k () y) (cu a f λ_u z=>k () z))))))))))))
def Mn a b c d e f:E [.p] [] [(bX,GB a),(gK,E8 b),(Ji,ae1 c),(bg,qu d),(q9,E9 e),(ku,bZ f)] 171798691853 [] f362=vz a b c d e f:=aZ
def eO:=vz ah aq mE ae bI cu
abbrev vA:bt:=bZ eO
def Mo:SS kZ (bZ eO):=so func362 (.c cm (.c iO (.c VG (.c bp (.c uf (.c z6 .z)))))) (Mn ah aq mE ae bI cu)
def yR(l:T36):T47:=λuw b a acC w k=>aE w uw 116 λg d=>an (eA b) (k 2 d) (an ((decide (a<0))||(decide (a>16))) (k 10 d) (drew d λe=>aJ .i64 e (g.add 0) λh=>HI .i64 acC a λi=>l b a (aF .i64 (h+2)) i e λf j=>k (f.1,f.2).2 j))
def P8 a:E [.ag,.p,.i .i64,.i .i64] [.i .i64] [(ko,aab a)] 19742 [] f389=u_4 (yR a):=aZ
def dN:=yR aL
def Ft:SS xX (aad dN):=so func389 (.c nB .z) (P8 aL)
def yS(h:T47):T34:=λuw a b w k=>aE w uw 116 λe d=>bx 1 d e λc=>h c a b 1 d λf g=>k f g
def P9 a:E [.ag,.p,.i .i64] [.i .i64] [(xX,aad a)] 78 [] f394=u_3 (yS a):=aZ
def jZ:=yS dN
def Qa:SS E7 (OZ jZ):=so func394 (.c Ft .z) (P9 dN)
def uI(x:T34)(y:T1):T0:=λa w k=>drew w λb=>nn a λr=>aQ b (r.add 0) λp3=>u7 a b 20 λp5=>qA7 p5 1 b 3 λe=>u7 a b 0 λp9=>u7 p9 b 7 λp11=>qJ7 a .i64 b 1 λh=>x e p11 h b λi d=>ai 1 (r.add 0) b d (y p3 i d λj c=>an (!j) (qV7 a c 24 λm=>v7 a c 22 (.bool true) λo=>v7 a o 7 m λq=>k () q) (k () c))
def Lr a b:E [.p] [] [(E7,OZ a),(bg,qu b)] 67108865 [] f390=uI a b:=aZ
def ez:=uI jZ ae
abbrev uJ:bt:=bZ ez
def Ls:SS kE (bZ ez):=so func390 (.c Qa (.c bp .z)) (Lr jZ ae)
def yT(u:T40)(v:T1):T0:=λa w k=>drew w λd=>u7 a d 12 λp3=>u7 a d 0 λp5=>u7 p5 d 7 λp7=>qJ7 a .i64 d 1 λt=>u p3 p7 t d λb e=>u7 a e 0 λp13=>v p13 (b.1,b.2).2 e λg c=>an ((!g)&&(b.1,b.2).1) (qV7 a c 24 λi=>v7 a c 23 (.bool true) λl=>v7 a l 7 i λn=>k () n) (k () c)
def Qb a b:E [.p] [] [(vc,Xd a),(bg,qu b)] 4294967309 [] f392=yT a b:=aZ
def gv:=yT dI ae
abbrev yU:bt:=bZ gv
def Qc:SS mW (bZ gv):=so func392 (.c FY (.c bp .z)) (Qb dI ae)
def uK(d:T75):T29:=λa b w k=>aQ w a λp1=>aQ w b λp2=>d p1 p2 w λ_u c=>k () c
def Lt b:E [.a,.a] [] [(wh,arV b)] 0 [] f351=u_2 (uK b):=aZ
def cw:=uK c9
abbrev oU:bt:=Kz cw
def B5:SS eP (Kz cw):=so func351 (.c EB .z) (Lt c9)
def xf(cF:Tq):T29:=λa b w k=>aQ w a λp1=>tH w b λc=>cF p1 c w λ_u d=>k () d
def Of b:E [.a,.a] [] [(uc,E9 b)] 0 [] f345=u_2 (xf b):=aZ
def cL:=xf cF
abbrev pX:bt:=Kz cL
def EE:SS fN (Kz cL):=so func345 (.c z9 .z) (Of cF)
def AG(c:T0)(i:T29)(j:T29):T0:=λa w k=>u7 a w 4 λp2=>c p2 w λ_u b=>qV7 a b 24 λf=>nj (kC [(uR,(bZ c)),(eP,(Kz i)),(fN,(Kz j))]) f #[] b λg h=>Is [] g fun(l:Unit)=>k () h
def R8 a b c:E [.p] [] [(uR,bZ a),(eP,Kz b),(fN,Kz c)] 1 [] f393=AG a b c:=aZ
def ig:=AG eu cw cL
abbrev AH:bt:=bZ ig
def R9:SS nA (bZ ig):=so func393 (.c Il (.c B5 (.c EE .z))) (R8 eu cw cL)
def iD:W7:=λa w k=>aE w a 102 λf e=>bx 3 e f λb=>kT #[Iv 0,Iv 0,Iv 0,Iv 0,Iv 0,Iv 0,Iv 0,.nilFunc] 0 3 b λc=>aE e (eS c 6 (Iv (-1))) 346 λd g=>bN g (d.add 7) (.func (.func vf) #[.pointer (some d)] #[]) λh=>k (some d) h
def Og:SS wi (HZ iD):=sl 14 [] func380
def xg(h:T47):T34:=λuw a b w k=>aE w uw 116 λe d=>bx 1 d e λc=>h c a b (-1) d λf g=>k f g
def Oh a:E [.ag,.p,.i .i64] [.i .i64] [(xX,aad a)] 78 [] f381=u_3 (xg a):=aZ
def iE:=xg dN
def Oi:SS wj (OZ iE):=so func381 (.c Ft .z) (Oh dN)
def vB(bi:Xa):T52:=λb c d w k=>drew w λa=>aQ a b λp2=>aQ a c λp3=>qJ7 p3 .i64 a 0 λg=>tH a d λh=>bi p2 g h a λ_u i=>k () i
def Mp b:E [.a,.a,.a] [] [(ph,LS b)] 0 [] f368=u_3 (vB b):=aZ
def fG:=vB bi
abbrev Dl:bt:=aaf fG
def Mq:SS pu (aaf fG):=so func368 (.c ri .z) (Mp bi)
def fH:T22:=λa w k=>aQ w a λp1=>aQ w a λp2=>v7 p1 w 7 (.func (.func lX) #[.pointer p2] #[]) λc=>k () c
abbrev Dm:bt:=Fa fH
def Mr:SS px (Fa fH):=sl 0 [] func370
def vC(bi:Xa):T52:=λa b c w k=>aQ w a λp1=>aJ .i64 w b λe=>tH w c λf=>bi p1 e f w λ_u g=>k () g
def Ms b:E [.a,.a,.a] [] [(ph,LS b)] 0 [] f387=u_3 (vC b):=aZ
def fI:=vC bi
abbrev Dn:bt:=aaf fI
def Mu:SS pz (aaf fI):=so func387 (.c ri .z) (Ms bi)
def fJ:T22:=λa w k=>aQ w a λp1=>aQ w a λp2=>v7 p1 w 7 (.func (.func lU) #[.pointer p2] #[]) λc=>k () c
abbrev Dp:bt:=Fa fJ
def Mv:SS pq (Fa fJ):=sl 0 [] func334
def uL(d:T0)(e:T0):T22:=λa w k=>aQ w a λp1=>d p1 w λ_u b=>aQ b a λp3=>e p3 b λ_u c=>k () c
def Lu b c:E [.a] [] [(zM,bZ b),(wg,bZ c)] 1 [] f328=uL b c:=aZ
def eX:=uL eo dy
abbrev B6:bt:=Fa eX
def Lv:SS oK (Fa eX):=so func328 (.c GO (.c Et .z)) (Lu eo dy)
def yV(iD:W7)(dI:T40)(ae:T1)(iE:T34)(bB:T0)(fG:T52)(fH:T22)(fI:T52)(fJ:T22)(eX:T22):T0:=λa w k=>nn a λa1=>He w (a1.add 23) λb2=>an b2 (u7 a w 12 λp4=>cz (S:=Unit) (λJ5=>an (eA p4) (u7 a w 0 λp7=>qA7 p7 3 w 14 λl=>iD l w λp10 m=>v7 a m 12 (.pointer p10) λo=>J5 () o) (J5 () w)) λb4 p=>drew p λc=>u7 a c 12 λp18=>u7 a c 0 λs=>u7 s c 7 λu=>qJ7 a .i64 c 1 λy=>dI p18 u y c λd e=>u7 a e 0 λA=>ae A (d.1,d.2).2 e λB f=>an ((!B)&&(d.1,d.2).1) (v7 a f 23 (.bool false) λD=>v7 a D 12 (.pointer none) λG=>k () G) (k () f)) (nn a λH=>He w (H.add 22) λI=>an I (drew w λb=>nn a λg=>aQ b (g.add 0) λJ=>u7 a b 20 λM=>qA7 M 1 b 3 λh=>u7 a b 0 λP=>u7 P b 7 λR=>qJ7 a .i64 b 1 λU=>iE h R U b λV i=>ai 1 (g.add 0) b i (ae J V i λW j=>an (!W) (v7 a j 22 (.bool false) λY=>k () Y) (k () j))) (qV7 a w 25 λa0=>nj (kC [(wi,(HZ iD)),(vc,(Xd dI)),(bg,(qu ae)),(wj,(OZ iE)),(j6,(bZ bB)),(pu,(aaf fG)),(px,(Fa fH)),(pz,(aaf fI)),(pq,(Fa fJ)),(oK,(Fa eX))]) a0 #[] w λa2 a4=>Is [] a2 fun(b5:Unit)=>k () a4))
def Qd a b c d e f g h i j:E [.p] [] [(wi,HZ a),(vc,Xd b),(bg,qu c),(wj,OZ d),(j6,bZ e),(pu,aaf f),(px,Fa g),(pz,aaf h),(pq,Fa i),(oK,Fa j)] 19807040665747802921957065229 [(4,[])] f366=yV a b c d e f g h i j:=aZ
def gy:=yV iD dI ae iE bB fG fH fI fJ eX
abbrev yW:bt:=bZ gy
def Qe:SS mU (bZ gy):=so func366 (.c Og (.c FY (.c bp (.c Oi (.c tO (.c Mq (.c Mr (.c Mu (.c Mv (.c Lv .z)))))))))) (Qd iD dI ae iE bB fG fH fI fJ eX)
def uT(C:T53)(D:T64)(O:T0)(P:T0)(Q:T0)(R:T0)(T:T0)(U:T0)(V:T0)(W:T0)(X:T0)(Y:T0)(Z:T0)(gX:T0)(fW:T0)(fp:T0)(gY:T0)(gZ:T0)(fX:T0)(fY:T0)(fq:T0)(fx:T0)(g9:T0)(fZ:T0)(iR:T0)(iS:T0)(ia:T0)(ie:T0)(gu:T0)(fy:T0)(fA:T0)(eN:T0)(eO:T0)(ez:T0)(gv:T0)(ig:T0)(gy:T0)(cw:T29)(cL:T29):T1:=λa d w k=>cz (S:=Bool) (λB=>an (decide (d<0)) (B true w) (en a w 19 λG=>(B (decide (d>=((G.n:Nat):Int))) w))) λH h=>an H (k false h) (en a h 19 λJ=>cN J d 1 λL=>aQ h L λp9=>cz (S:=Bool) (λf=>drew h λb=>qA7 a 3 b 14 λg=>u7 a b 7 λp15=>qJ7 p9 .i64 b 1 λm=>C g p15 m b λo c=>an (!o) (f true c) (u7 p9 c 4 λq=>u7 a c 7 λs=>D q s c λt u=>f t u)) λv e=>an v (k false e) (qV7 p9 e 7 λy=>nj (kC [(sS,(acs C)),(qZ,(aiu D)),(kW,(bZ O)),(kX,(bZ P)),(nu,(bZ Q)),(lS,(bZ R)),(mI,(bZ T)),(nr,(bZ U)),(lT,(bZ V)),(lR,(bZ W)),(mQ,(bZ X)),(gC,(bZ Y)),(gB,(bZ Z)),(lH,(bZ gX)),(mR,(bZ fW)),(lV,(bZ fp)),(js,(bZ gY)),(lI,(bZ gZ)),(mS,(bZ fX)),(kO,(bZ fY)),(lU,(bZ fq)),(kq,(bZ fx)),(lJ,(bZ g9)),(iV,(bZ fZ)),(n9,(bZ iR)),(oa,(bZ iS)),(nw,(bZ ia)),(ny,(bZ ie)),(mT,(bZ gu)),(lX,(bZ fy)),(lW,(bZ fA)),(kY,(bZ eN)),(kZ,(bZ eO)),(kE,(bZ ez)),(mW,(bZ gv)),(nA,(bZ ig)),(mU,(bZ gy)),(eP,(Kz cw)),(fN,(Kz cL))]) y #[] e λz A=>Is [] z fun(N:Unit)=>k true A))
def Uh a c d e f g h j l m n o q r s t u v y z A B C D F G H I J L M N O P Q R S T U:E [.p,.i .i64] [.b] [(sS,acs a),(qZ,aiu c),(kW,bZ d),(kX,bZ e),(nu,bZ f),(lS,bZ g),(mI,bZ h),(nr,bZ j),(lT,bZ l),(lR,bZ m),(mQ,bZ n),(gC,bZ o),(gB,bZ q),(lH,bZ r),(mR,bZ s),(lV,bZ t),(js,bZ u),(lI,bZ v),(mS,bZ y),(kO,bZ z),(lU,bZ A),(kq,bZ B),(lJ,bZ C),(iV,bZ D),(n9,bZ F),(oa,bZ G),(nw,bZ H),(ny,bZ I),(mT,bZ J),(lX,bZ L),(lW,bZ M),(kY,bZ N),(kZ,bZ O),(kE,bZ P),(mW,bZ Q),(nA,bZ R),(mU,bZ S),(eP,Kz T),(fN,Kz U)] 281474976776243 [(1,[(16,.b)]),(5,[(48,.b)])] f57=u_2 (uT a c d e f g h j l m n o q r s t u v y z A B C D F G H I J L M N O P Q R S T U):=aZ
def jN:=uT dA cQ eK eL gT fj iP gU fm fo fV gV gW gX fW fp gY gZ fX fY fq fx g9 fZ iR iS ia ie gu fy fA eN eO ez gv ig gy cw cL
def Ui:SS HM (qu jN):=so func57 (.c Jq (.c GL (.c L7 (.c Mb (.c RF (.c NP (.c TS (.c RH (.c NR (.c NV (.c PP (.c RJ (.c RL (.c RN (.c PV (.c NY (.c RR (.c RT (.c PX (.c PZ (.c N4 (.c N6 (.c RX (.c P3 (.c Uc (.c Ue (.c R5 (.c R7 (.c P5 (.c Oc (.c Oe (.c Mm (.c Mo (.c Ls (.c Qc (.c R9 (.c Qe (.c B5 (.c EE .z))))))))))))))))))))))))))))))))))))))) (Uh dA cQ eK eL gT fj iP gU fm fo fV gV gW gX fW fp gY gZ fX fY fq fx g9 fZ iR iS ia ie gu fy fA eN eO ez gv ig gy cw cL)
def yX(bU:T24)(cO:T17)(bF:T13)(dJ:T20):asy:=fun h_0 w k=>pR (kC [(fM,(Q1 bU)),(fP,(Jk cO)),(dH,(D5 bF)),(iI,(H6 dJ))]) Tryz.prog h_0 "Len" #[] w fun v1 w2=>xS .i64 v1 fun i3=>pR (kC [(fM,(Q1 bU)),(fP,(Jk cO)),(dH,(D5 bF)),(iI,(H6 dJ))]) Tryz.prog h_0 "Swap" #[Iv 0,(Iv (IntKind.wrap .i64 (i3 - 1)))] w2 fun v4 w5=>Is [] v4 fun(u6:Unit)=>bU h_0 0 (IntKind.wrap .i64 (i3 - 1)) w5 fun b7 w8=>pR (kC [(fM,(Q1 bU)),(fP,(Jk cO)),(dH,(D5 bF)),(iI,(H6 dJ))]) Tryz.prog h_0 "Pop" #[] w8 fun v9 w10=>k v9 w10
def Qf a b c d:E [.raw] [.raw] [(fM,Q1 a),(fP,Jk b),(dH,D5 c),(iI,H6 d)] 13 [] f151=yX a b c d:=aZ
def j0:=yX bU cO bF dJ
def Qg:SS E2 (asz j0):=so func151 (.c EC (.c FZ (.c ze (.c Mk .z)))) (Qf bU cO bF dJ)
def xh(j0:asy):asu:=λb h w k=>an (eA b) (k ((Sl.mk none 0 0),2) w) (cz (S:=Bool) (λN=>an (decide (h<0)) (N true w) (qJ7 b .i64 w 0 λP=>(N (decide (h>(aF .i64 (1099511627776 - P)))) w))) λQ m=>an Q (k ((Sl.mk none 0 0),10) m) (qJ7 b .i64 m 0 λT=>v7 b m 0 (Iv (aF .i64 (T+h))) λV=>jD (S:=Sl) (λo f p=>cz (S:=Bool) (λi=>drew p λe=>en b e 1 λr=>an (decide (((r.n:Nat):Int)>0)) (en b e 1 λt=>cN t 0 2 λu=>aJ .i64 e (u.add 0) λv=>qJ7 b .i64 e 0 λy=>i (decide (v<=y)) e) (i false e)) λz g=>an z (en b g 1 λB=>cN B 0 2 λC=>aJ .i64 g (C.add 1) λj=>nn b λD=>j0 (.iface 261 (.pointer (some (D.add 1)))) g λW l=>nn b λF=>ldM l (F.add 2) λG=>ahR Tryz.prog #[207,3] 0 [(.map G),Iv j] l λX H=>aE H #[Iv j] 3 λI J=>og Tryz.prog #[69,69] 69 [S_ f,(.slice (some I) 1 1)] J λL M=>o L M) (k (f,0) g)) (Sl.mk none 0 0) V))
def Oj a:E [.p,.i .i64] [.s,.i .i64] [(E2,asz a)] 1125899906845171 [(5,[(11,.b)]),(11,[(6,.s)]),(12,[(50,.b)])] f97=u_2 (xh a):=aZ
def jA:=xh j0
def Ol:SS DT (asv jA):=so func97 (.c Qg .z) (Oj j0)
def CW(I:T46)(y:T1)(J:T34):T44:=λa b w k=>en a w 19 λx=>cz (S:=Unit) (λA=>jD (S:=Int) (λB g h=>an (decide (g<((b.n:Nat):Int))) (cN b g 1 λC=>aJ .i64 h C λD=>drew h λj=>u7 a j 9 λp11=>u7 a j 7 λp13=>I p11 p13 ((x.n:Nat):Int) D j λd o=>y a (d.1,d.2).2 o λF p=>B (aF .i64 (g+1)) p) (A () h)) 0 w) λG e=>an (decide (((b.n:Nat):Int)>0)) (drew e λc=>qA7 a 1 c 12 λf=>u7 a c 7 λs=>J f s ((x.n:Nat):Int) c λt u=>y a t u λH v=>k () v) (k () e)
def VH a b c:E [.p,.s] [] [(DV,aac a),(bg,qu b),(Bi,OZ c)] 1099511873875 [(2,[]),(3,[(16,(.i .i64))])] f98=u_2 (CW a b c):=aZ
def fB:=CW gI ae eH
def Jt:SS CE (arJ fB):=so func98 (.c KD (.c bp (.c Ik .z))) (VH gI ae eH)
def BK(jA:asu)(fB:T44):T1:=λa b w k=>u7 a w 17 λp2=>jA p2 b w λc d=>an ((c.1,c.2).2 !=0) (k false d) (fB a c.1 d λ_u f=>k true f)
def Uj a c:E [.p,.i .i64] [.b] [(DT,asv a),(CE,arJ c)] 131187 [] f58=u_2 (BK a c):=aZ
def lA:=BK jA fB
def Uk:SS HN (qu lA):=so func58 (.c Ol (.c Jt .z)) (Uj jA fB)
def nN:asp:=λb d w k=>an (eA b) (k 2 w) (en b w 0 λh=>an (decide (((d.n:Nat):Int)>(aF .i64 (1024 - ((h.n:Nat):Int))))) (k 20 w) (en b w 0 λe=>og Tryz.prog #[156,156] 156 [S_ e,S_ d] w λf l=>v7 b l 0 (S_ f) λo=>k 0 o))
def XK:SS Kk (asr nN):=sl 307 [] func59
def iX:T20:=λa w k=>aE w #[.pointer a] 94 λb c=>k (.func (.func m3) #[] #[.pointer (some b)]) c
abbrev O1:bt:=H6 iX
def O2:SS xA (H6 iX):=sl 6 [] func62
def dw:T78:=λb w k=>aE w #[S_ b] 69 λd e=>k (.func (.func jh) #[] #[.pointer (some d)]) e
abbrev GP:bt:=am9 dw
def GQ:SS oh (am9 dw):=sl 6 [] func102
def qv(Y:Nat->bt)(su:Value)(e:Addr)(w:World)(k:Unit->ap):Prop:= cy w e λs1=>jD (S:=Int) (λg b c=>an (decide (b>=0)) (cy c e λh=>cN h b 1 λi=>aJ .i64 c i λj=>nj (J0 [] Y) su #[Iv b,Iv j] c λl f=>Ir l λd=>an (!d) (k () f) (g (aF .i64 (b - 1)) f)) (k () c)) (aF .i64 (((s1.n:Nat):Int) - 1)) w
def EU(Y:Nat->bt)(x:KT [.raw,.a])(w:World)(k:KT []->ap):OP Tryz.prog (J0 [] Y) 262411 [(2,[(3,(.i .i64))])] f155 [] (dL [.raw,.a] x) w k=qv Y x.1 x.2 w k:=aZ
def om(Y:Nat->bt)(su:Value)(a:Addr)(w:World)(k:Unit->ap):Prop:=qv Y su a w k
def ji(Y:Nat->bt):bt:=λargs w c=>qW [.raw,.a] args λx=>om Y x.1 x.2 w λr w=>c (e9 (dL [] r)) w
def EW:WW Tryz.prog jh ji:=λY b=>
 M5 mixed func155 (WI (l:=[]) trivial b)
 [.raw,.a] [] aZ (λx w k=>om Y x.1 x.2 w k) (λx w k=>EU Y x w k)
def EF(Y:Nat->bt)(I:De)(dG:T35)(dw:T78)(su:Value)(q:Addr)(w:World)(k:Unit->ap):Prop:= aQ w q λp1=>aE w #[Iv 0] 3 λa2 w3=>dG p1 (Sl.mk (some a2) 1 1) w3 λb4 w5=>an (!b4) (k () w5) (aE w5 #[Iv 0] 3 λa6 w7=>aE w7 #[.slice none 0 0] 69 λf w9=>bN w9 f (.slice (some a6) 1 1) λr=>jD (S:=(Unit×List Nat)) (λs h b=>cy b f λt=>an (decide (((t.n:Nat):Int)>0)) (cy b f λu=>cy b f λv=>cN u (aF .i64 (((v.n:Nat):Int) - 1)) 1 λx=>aJ .i64 b x λj=>cy b f λy=>cy b f λz=>Th y 1 0 (aF .i64 (((z.n:Nat):Int) - 1)) λl=>bN b f (S_ l) λg=>aQ g q λA=>en A g 0 λC=>cN C j 3 λD=>aJ .i64 g (D.add 0) λF=>nj (J0 [(tS,(UL dG)),(oh,(am9 dw))] Y) su #[Iv j,Iv F] g λG e=>Ir G λH=>an (!H) (I3 h.2 e λJ=>k () J) (aQ e q λL=>en L e 0 λN=>cN N j 3 λO=>cy e (O.add 2) λP=>dw P e λQ R=>Cg I [(.i .i64),(.i .i64)] Q R (fun(T:Int×Int) p U=>cy p f λm=>aE p #[Iv T.2] 3 λV W=>og Tryz.prog #[69,69] 69 [S_ m,(.slice (some V) 1 1)] W λo X=>bN X f (S_ o) λZ=>U Z) λD42 a0=>s ((),(D42::h.2)) a0)) (I3 h.2 b λa1=>k () a1)) ((),[]) r)
def XL(Y:Nat->bt)(I:De)(dG:T35)(dw:T78)(x:KT [.raw,.a])(w:World)(k:KT []->ap):Vg Tryz.prog (J0 [(tS,(UL dG)),(oh,(am9 dw))] Y) I 351981159859227 [(4,[]),(14,[(47,(.i .i64)),(48,(.i .i64))])] f100 [] (dL [.raw,.a] x) w k=EF Y I dG dw x.1 x.2 w k:=aZ
def Cl(Y:Nat->bt)(su:Value)(a:Addr)(w:World)(k:Unit->ap):Prop:=EF Y (Df [(jh,ji)]) dG dw su a w k
def m4(Y:Nat->bt):bt:=λargs w c=>qW [.raw,.a] args λx=>Cl Y x.1 x.2 w λr w=>c (e9 (dL [] r)) w
def KE:WW Tryz.prog m3 m4:=λY b=>
 I5 mixed func100 (WI (l:=[(tS,aaN),(oh,GP)]) ⟨Hx,GQ,trivial⟩ b) (LJ (l:=[(jh,ji)]) ⟨EW,trivial⟩)
 [.raw,.a] [] aZ (λx w k=>Cl Y x.1 x.2 w k) (λx w k=>XL Y (Df [(jh,ji)]) dG dw x w k)
def EG(I:De)(iX:T20)(e:Option Addr)(w:World)(k:(Sl)->ap):Prop:= aE w #[.slice none 0 0] 69 λf s=>iX e s λt u=>Cg I [(.i .i64),(.i .i64)] t u (fun(v:Int×Int) q x=>cy q f λb=>aE q #[Iv v.1] 3 λh j=>og Tryz.prog #[69,69] 69 [S_ b,(.slice (some h) 1 1)] j λd l=>bN l f (S_ d) λm=>x m) λD8 r=>cy r f λo=>I3 [D8] r λp=>k o p
def XM(I:De)(iX:T20)(x:KT [.p])(w:World)(k:KT [.s]->ap):Vg Tryz.prog (kC [(xA,(H6 iX))]) I 205 [(4,[(7,(.i .i64)),(8,(.i .i64))])] f99 [.s] (dL [.p] x) w k=EG I iX x w k:=aZ
def fK:T5:=λa w k=>EG (Df [(m3,m4)]) iX a w k
abbrev XN:bt:=Pa fK
def KF:uY Tryz.prog DU XN:=
 I5 mixed func99 (M3 (l:=[(xA,O1)]) ⟨O2,trivial⟩) (LJ (l:=[(m3,m4)]) ⟨KE,trivial⟩)
 [.p] [.s] aZ (λx w k=>fK x w k) (λx w k=>XM (Df [(m3,m4)]) iX x w k)
def yY(y:T5):T5:=λf w k=>aE w #[Iv 0] 3 λt r=>u7 f r 8 λp4=>y p4 r λs v=>jD (S:=(Sl×Int)) (λx b e=>an (decide (b.2<((s.n:Nat):Int))) (cN s b.2 1 λg=>aJ .i64 e g λi=>en f e 11 λl=>cN l i 1 λm=>aQ e m λp15=>en p15 e 25 λd=>og Tryz.prog #[69,69] 69 [S_ b.1,S_ d] e λp q=>x (p,(aF .i64 (b.2+1))) q) (k b.1 e)) ((Sl.mk (some t) 1 1),0) v
def Qh a:E [.p] [.s] [(DU,Pa a)] 30765 [(4,[(3,.s),(13,(.i .i64))])] f75=yY a:=aZ
def dO:=yY fK
def Fu:SS xV (Pa dO):=so func75 (.c KF .z) (Qh fK)
def BL(v:T5)(x:T44):T1:=λb a w k=>v b w λs1 p=>cz (S:=Bool) (λo=>drew p λd=>an ((decide (a<0))||(decide (a>=((s1.n:Nat):Int)))) (o true d) (en b d 10 λr=>cN s1 a 1 λs=>aJ .i64 d s λt=>cN r t 4 λu=>He d (u.add 3) λf=>o f d)) λg c=>an g (k false c) (cN s1 a 1 λh=>aJ .i64 c h λi=>aE c #[Iv i] 3 λj l=>x b (Sl.mk (some j) 1 1) l λ_u m=>k true m)
def Ul a c:E [.p,.i .i64] [.b] [(xV,Pa a),(CE,arJ c)] 268435507 [(2,[(28,.b)])] f60=u_2 (BL a c):=aZ
def lB:=BL dO fB
def Um:SS HO (qu lB):=so func60 (.c Fu (.c Jt .z)) (Ul dO fB)
def EH(D:T1)(F:T1)(nN:asp)(lB:T1):T16:=λa i w k=>aE w i 34 λe j=>cz (S:=Bool) (λy=>an (eA a) (y true j) (qJ7 a .i64 j 21 λA=>y (A !=0) j)) λB c=>an B (k false c) (aJ .i64 c (e.add 0) λh=>an (h==0) (aJ .i64 c (e.add 1) λC=>D a C c λl m=>k l m) (an (h==1) (aJ .i64 c (e.add 1) λn=>F a n c λo p=>k o p) (an (h==2) (drew c λd=>nn a λf=>aQ d (f.add 18) λp17=>aJ .i64 d (e.add 1) λq=>aE d #[Iv q] 2 λr g=>ai 1 (f.add 18) d g (nN p17 (Sl.mk (some r) 1 1) g λs t=>k (s==0) t)) (an (h==3) (aJ .i64 c (e.add 1) λu=>lB a u c λv x=>k v x) (k false c)))))
def XO a c d e:E [.p,.ag] [.b] [(HM,qu a),(HN,qu c),(Kk,asr d),(HO,qu e)] 550028550169 [(1,[(13,.b)])] f22=u_2 (EH a c d e):=aZ
def nO:=EH jN lA nN lB
def XP:SS Kj (az1 nO):=so func22 (.c Ui (.c Uk (.c XK (.c Um .z)))) (XO jN lA nN lB)
def xj(cA:W8)(cS:T3)(nO:T16):T48:=λb ux as5 w k=>jD (S:=(Int×Int)) (λm f j=>cz (S:=Bool) (λg=>an (decide (f.2<as5)) (cA b j λn l=>an (!n) (cS b l λo p=>g (o==0) p) (g false l)) (g false j)) λq c=>an q (jD (S:=(Int×Int)) (λh a d=>an (decide (a.2<ux)) (nO b #[Iv 0,Iv a.2] d λr i=>h ((aF .i64 (a.1+1)),(aF .i64 (a.2+1))) i) (m (a.1,(aF .i64 (f.2+1))) d)) (f.1,0) c) (k f.1 c)) (0,0) w
def Om a c d:E [.p,.i .i64,.i .i64] [.i .i64] [(tX,LR a),(vX,Bl c),(Kj,az1 d)] 138412999 [(4,[(7,(.i .i64)),(8,(.i .i64))]),(5,[(22,.b)]),(10,[(7,(.i .i64)),(9,(.i .i64))])] f28=u_3 (xj a c d):=aZ
def iF:=xj cA cS nO
def On:SS DO (am2 iF):=so func28 (.c zW (.c CQ (.c XP .z))) (Om cA cS nO)
def BM(s:T5):T5:=λc w k=>en c w 11 λi=>xz Tryz.prog 69 (Iv ((i.n:Nat):Int)) (Iv ((i.n:Nat):Int)) w λj l=>u7 c l 8 λp6=>s p6 l λm q=>jD (S:=Int) (λr a b=>an (decide (a<((m.n:Nat):Int))) (cN m a 1 λd=>aJ .i64 b d λf=>cN j f 1 λg=>bN b g (Iv a) λh=>r (aF .i64 (a+1)) h) (k j b)) 0 q
def Un a:E [.p] [.s] [(DU,Pa a)] 983101 [(4,[(18,(.i .i64))])] f61=BM a:=aZ
def cI:=BM fK
abbrev Uo:bt:=Pa cI
def BN:SS r4 (Pa cI):=so func61 (.c KF .z) (Un fK)
def AI(I:De)(cI:T5)(iX:T20)(dz:T81)(W:Option Addr)(w:World)(k:(Sl)->ap):Prop:= aE w #[.pointer W] 30 λs V=>aQ V s λp3=>an (eA p3) (k (Sl.mk none 0 0) V) (aQ V s λp4=>cI p4 V λX w6=>aE w6 #[.slice none 0 0] 69 λD w8=>bN w8 D (S_ X) λw9=>cy w9 D λF=>xz Tryz.prog 35 (Iv ((F.n:Nat):Int)) (Iv ((F.n:Nat):Int)) w9 λt Y=>aE Y #[.slice none 0 0] 35 λo Z=>bN Z o (S_ t) λu=>aQ u s λp16=>u7 p16 u 8 λp18=>iX p18 u λa2 a3=>Cg I [(.i .i64),(.i .i64)] a2 a3 (fun(h:Int×Int) p G=>aQ p s λa4=>en a4 p 11 λa6=>cN a6 h.1 1 λa8=>aQ p a8 λj=>drew p λq=>qA7 j 1 q 3 λH=>aQ q s λb0=>u7 b0 q 7 λb2=>dz H b2 q λd b3=>cz (S:=Addr) (λJ=>drew b3 λb=>aQ b s λb4=>nn b4 λv=>cy b (v.add 10) λb5=>nn j λx=>aJ .i64 b (x.add 1) λb6=>cN b5 b6 4 λy=>aJ .i64 b (y.add 1) λL=>nn j λz=>aJ .i64 b (aY (z.add 4) 0) λM=>nn j λA=>aJ .i64 b (aY (A.add 4) 18) λN=>nn j λB=>Qp b (B.add 23) λO=>both (aE b #[Iv 0,Iv 0,Iv 0,Iv 0,Iv 0,Iv 0,(.string (ByteArray.mk #[]))] 49 λP f=>ai 1 (B.add 23) b f (ai 1 (aY (A.add 4) 18) b f (ai 1 (aY (z.add 4) 0) b f (ai 1 (y.add 1) b f (ai 1 (x.add 1) b f (ai 1 (v.add 10) b f (ai 1 s b f (dQ 7 f P #[(Iv (-1)),Iv L,Iv M,(Iv (d.1,(d.2.1,d.2.2)).1),(Iv (d.1,(d.2.1,d.2.2)).2.1),Iv N,(.string O)] λb7=>J P b7)))))))) (aE b #[Iv 0,Iv 0,Iv 0,Iv 0,Iv 0,Iv 0,(.string (ByteArray.mk #[]))] 49 λQ g=>ai 1 (B.add 23) b g (ai 1 (aY (A.add 4) 18) b g (ai 1 (aY (z.add 4) 0) b g (ai 1 (y.add 1) b g (ai 1 (x.add 1) b g (ai 1 (v.add 10) b g (ai 1 s b g (dQ 7 g Q #[(Iv (-1)),Iv L,Iv M,(Iv (d.1,(d.2.1,d.2.2)).1),(Iv (d.1,(d.2.1,d.2.2)).2.1),Iv N,(.string O)] λb8=>J Q b8))))))))) λC r=>an (decide (h.2>=0)) (cy r D λb9=>cN b9 h.2 1 λc0=>aJ .i64 r c0 λe=>bN r (C.add 0) (Iv e) λc1=>drew c1 λl=>cy l o λc2=>cy l D λc3=>cN c3 h.1 1 λc4=>aJ .i64 l c4 λc5=>bx 7 l C λR=>cN c2 c5 7 λc6=>dQ 7 l c6 R λc7=>G c7) (drew r λm=>cy m o λc8=>cy m D λc9=>cN c9 h.1 1 λd0=>aJ .i64 m d0 λd1=>bx 7 m C λT=>cN c8 d1 7 λd2=>dQ 7 m d2 T λd3=>G d3)) λD24 U=>cy U o λd4=>I3 [D24] U λd5=>k d4 d5)
def Sa(I:De)(cI:T5)(iX:T20)(dz:T81)(x:KT [.p])(w:World)(k:KT [.s]->ap):Vg Tryz.prog (kC [(r4,(Pa cI)),(xA,(H6 iX)),(tw,(ana dz))]) I 37778931862957220441086 [(8,[(24,(.i .i64)),(25,(.i .i64))]),(14,[(11,.a)])] f23 [.s] (dL [.p] x) w k=AI I cI iX dz x w k:=aZ
def dD:T5:=λa w k=>AI (Df [(m3,m4)]) cI iX dz a w k
abbrev Sb:bt:=Pa dD
def GR:uY Tryz.prog zF Sb:=
 I5 mixed func23 (M3 (l:=[(r4,Uo),(xA,O1),(tw,Pr)]) ⟨BN,O2,Fj,trivial⟩) (LJ (l:=[(m3,m4)]) ⟨KE,trivial⟩)
 [.p] [.s] aZ (λx w k=>dD x w k) (λx w k=>Sa (Df [(m3,m4)]) cI iX dz x w k)
def dF:T23:=λa b w k=>an (((a.n:Nat):Int) !=((b.n:Nat):Int)) (k false w) (jD (S:=Int) (λh c g=>an (decide (c<((a.n:Nat):Int))) (drew g λd=>cN a c 7 λi=>bx 7 d i λe=>cN b c 7 λj=>bx 7 d j λf=>Tj ([(0,0)] ++([(1,0)] ++([(2,0)] ++([(3,0)] ++([(4,0)] ++([(5,0)] ++([(6,2)] ++[]))))))) e f λl=>an (!l) (k false d) (h (aF .i64 (c+1)) d)) (k true g)) 0 w)
def GS:SS zG (arH dF):=sl 33571891 [(6,[(5,(.i .i64))])] func33
def yZ(R:T54)(T:T37)(Z:T38)(iF:T48)(cA:W8)(cS:T3)(dD:T5)(dF:T23)(w:World)(k:(Bool)->ap):Prop:= kT JN 0 5 #[Iv 16,Iv 0,Iv 0,Iv 0,Iv 0] λx=>aE w x 75 λU V=>aE V #[Iv 0,.slice none 0 0] 78 λf W=>dQ 2 W f #[Iv 0,(.slice (some U) 1 1)] λX=>cz (S:=((Option Addr)×Int)) (λy=>drew X λe=>bx 2 e f λg=>both (kT #[Iv 0,.slice none 0 0] 0 2 g λh=>aE e h 78 λi j=>both (R 1 0 j λl m=>ai 2 f e m (T #[(.slice (some i) 1 1)] l m λb z=>y ((b.1,b.2).1,(b.1,b.2).2) z)) (R 1 0 j λn o=>ai 2 f e o (T #[(.slice (some i) 1 1)] n o λc A=>y ((c.1,c.2).1,(c.1,c.2).2) A))) (R 1 0 e λp q=>ai 2 f e q (kT #[Iv 0,.slice none 0 0] 0 2 g λr=>aE q r 78 λB C=>T #[(.slice (some B) 1 1)] p C λd D=>y ((d.1,d.2).1,(d.1,d.2).2) D))) λa s=>an ((a.2 !=0)||(eA a.1)) (k false s) (Z 1 1 1 s λF G=>iF a.1 1 F G λY H=>cA a.1 H λI t=>an I (cS a.1 t λJ u=>an (J==0) (dD a.1 u λL M=>kT #[Iv 0,Iv 0,Iv 0,Iv 0,Iv 0,Iv 0,(.string (ByteArray.mk #[]))] 0 7 #[(Iv (-1)),Iv 0,Iv 0,Iv 2,Iv 0,Iv 1,(.string (ByteArray.mk #[]))] λv=>aE M v 49 λN O=>dF L (Sl.mk (some N) 1 1) O λP Q=>k P Q) (k false u)) (k false t))
def Qi a c d e f g h j:E [] [.b] [(xU,arM a),(Nh,arI c),(QY,az2 d),(DO,am2 e),(tX,LR f),(vX,Bl g),(zF,Pa h),(zG,arH j)] 1048591 [(2,[(2,.p),(3,(.i .i64))])] f20=λx=>yZ a c d e f g h j:=aZ
def iv:=yZ dc kF sA iF cA cS dD dF
def Qj:SS EY (as0 iv):=so func20 (.c Fb (.c Xv (.c acA (.c On (.c zW (.c CQ (.c GR (.c GS .z)))))))) (Qi dc kF sA iF cA cS dD dF)
def aaU(e:T3):T3:=λa w k=>an (eA a) (k 0 w) (u7 a w 7 λp2=>e p2 w λc d=>k c d)
def adX a:E [.p] [.i .i64] [(E0,Bl a)] 21 [] f30=aaU a:=aZ
def aaD:=aaU jW
def adY:SS aa0 (Bl aaD):=so func30 (.c Ps .z) (adX jW)
def BO(u:T2)(v:T2):T2:=λe w k=>aE w e 27 λc o=>bx 1 o (c.add 0) λf=>u f o λp a=>an p (aJ .i64 a (c.add 1) λq=>an (decide (q>=1)) (aJ .i64 a (c.add 2) λr=>an (decide (r>=0)) (aJ .i64 a (c.add 1) λs=>an (decide (s<=8)) (aJ .i64 a (c.add 2) λt=>aJ .i64 a (c.add 1) λg=>an (decide (t<=(aF .i64 (8 - g)))) (aJ .i64 a (c.add 3) λh=>an (decide (h>=0)) (aJ .i64 a (c.add 3) λi=>an (decide (i<=5)) (cy a (c.add 4) λj=>an (decide (((j.n:Nat):Int)<=300)) (bx 1 a (c.add 0) λd=>v d a λl m=>k l m) (k false a)) (k false a)) (k false a)) (k false a)) (k false a)) (k false a)) (k false a)) (k false a)
def Up a c:E [.ag] [.b] [(HL,Jj a),(AW,Jj c)] 6 [] f19=BO a c:=aZ
def lC:=BO lm gM
def Uq:SS HJ (Jj lC):=so func19 (.c Tr (.c LV .z)) (Up lm gM)
def sZ(t:T54):W9:=λg w k=>aE w g 27 λh p=>aE p zr6 43 λo i=>aJ .i64 i (h.add 1) λq=>aJ .i64 i (h.add 2) λr=>t q r i λj s=>aE s zr6 43 λl m=>dQ 6 m l j λb=>aJ .i64 b (h.add 3) λn=>bN b (l.add 5) (Iv n) λc=>bx 6 c l λd=>dQ 6 c o d λe=>bx 6 e o λf=>k f e
def Ju a:E [.ag] [.ag] [(xU,arM a)] 14 [] f49=sZ a:=aZ
def fL:=sZ dc
def Jv:SS zH (Kx fL):=so func49 (.c Fb .z) (Ju dc)
def BP(bS:T7)(y:T9)(rh:T92)(bj:T7)(az:T7)(cg:T7)(bl:T30):ass:=λz d w k=>aE w z 144 λm A=>an (eA d) (k (Sl.mk none 0 0) A) (bx 2 A m λB=>bS B A λZ w5=>y d Z w5 λi6 w7=>rh i6 w7 λx w9=>aE w9 #[Iv 0,Iv 0] 241 λh C=>dQ 2 C h (x.1,x.2).1 λD=>drew D λe=>bx 2 e m λo=>bx 2 e m λp=>bj o e λF q=>ai 2 m e q (y d F q λf r=>ai 2 m e r (az p r λG H=>y d G H λg i=>cz (S:=Bool) (λs=>an (((x.1,x.2).2 !=0)||(decide (g<=f))) (s true i) (bx 2 i h λt=>cg t i λI J=>(s (decide ((aF .u64 ((aF .u64 g) - (aF .u64 f)))>(aF .u64 I))) J))) λL u=>an L (k (Sl.mk none 0 0) u) (xz Tryz.prog 156 (Iv 0) (Iv (aF .i64 (g - f))) u λN O=>jD (S:=(Sl×Int)) (λP b l=>an (decide (b.2<g)) (bx 2 l h λv=>bl v b.2 l λQ R=>y d Q R λT U=>aE U #[Iv T] 2 λV W=>og Tryz.prog #[156,156] 156 [S_ b.1,(.slice (some V) 1 1)] W λX Y=>P (X,(aF .i64 (b.2+1))) Y) (k b.1 l)) (N,f) O))))
def Ur a c d e f g h:E [.ag,.p] [.s] [(r5,xY a),(ou,vN c),(Vk,ar2 d),(o9,xY e),(jS,xY f),(tY,xY g),(pb,ack h)] 18084767253665782 [(6,[(46,.b)]),(12,[(9,.s),(10,(.i .i64))])] f80=u_2 (BP a c d e f g h):=aZ
def lD:=BP bS aO rh bj az cg bl
def Us:SS HQ (ast lD):=so func80 (.c uS (.c qG (.c acw (.c qP (.c kP (.c zc (.c qQ .z))))))) (Ur bS aO rh bj az cg bl)
def xk(cI:T5)(dA:T53)(cQ:T64)(lD:ass):T5:=λd w k=>an (eA d) (k (Sl.mk none 0 0) w) (cI d w λs1 w2=>en d w2 19 λs4=>jD (S:=(Sl×Int)) (λC5 x w7=>an (decide (x.2<((s4.n:Nat):Int))) (cN s4 x.2 1 λa8=>aQ w7 a8 λp9=>cz (S:=Addr) (λs=>drew w7 λb=>nn d λo=>bx 3 b (o.add 14) λv=>nn d λp=>aQ b (p.add 7) λp15=>nn p9 λq=>aJ .i64 b (q.add 1) λM=>nn p9 λf=>aQ b (f.add 4) λp19=>nn d λg=>aQ b (g.add 7) λy=>both (dA v p15 M b λz t=>ai 1 (g.add 7) b t (ai 1 (f.add 4) b t (both (cQ p19 y t λN O=>both (aE O #[.bool false,.bool false,.slice none 0 0,.slice none 0 0] 71 λP i=>ai 1 (g.add 7) b i (ai 1 (f.add 4) b i (ai 1 (q.add 1) b i (ai 1 (p.add 7) b i (ai 3 (o.add 14) b i (dQ 4 i P #[.bool z,.bool N,.slice none 0 0,.slice none 0 0] λa5=>s P a5)))))) (aE O #[.bool false,.bool false,.slice none 0 0,.slice none 0 0] 71 λQ j=>ai 1 (g.add 7) b j (ai 1 (f.add 4) b j (ai 1 (q.add 1) b j (ai 1 (p.add 7) b j (ai 3 (o.add 14) b j (dQ 4 j Q #[.bool z,.bool N,.slice none 0 0,.slice none 0 0] λa6=>s Q a6))))))) (aE t #[.bool false,.bool false,.slice none 0 0,.slice none 0 0] 71 λR l=>ai 1 (g.add 7) b l (ai 1 (f.add 4) b l (ai 1 (q.add 1) b l (ai 1 (p.add 7) b l (ai 3 (o.add 14) b l (cQ p19 y l λa7 a9=>dQ 4 a9 R #[.bool z,.bool a7,.slice none 0 0,.slice none 0 0] λb0=>s R b0))))))))) (aE b #[.bool false,.bool false,.slice none 0 0,.slice none 0 0] 71 λT m=>ai 1 (g.add 7) b m (ai 1 (f.add 4) b m (ai 1 (q.add 1) b m (ai 1 (p.add 7) b m (ai 3 (o.add 14) b m (dA v p15 M m λb1 A=>ai 1 (g.add 7) b A (ai 1 (f.add 4) b A (cQ p19 y A λb2 b3=>dQ 4 b3 T #[.bool b1,.bool b2,.slice none 0 0,.slice none 0 0] λb4=>s T b4))))))))) λh U=>en p9 U 5 λV=>cz (S:=Unit) (λb6=>jD (S:=Int) (λb7 B C=>an (decide (B<((V.n:Nat):Int))) (cN V B 1 λb8=>aQ C b8 λb9=>drew C λr=>cy r (h.add 2) λD=>qJ7 b9 .i64 r 0 λc1=>cN s1 c1 1 λc2=>aJ .i64 r c2 λc3=>aE r #[Iv c3] 3 λc4 W=>ai 1 (h.add 2) r W (og Tryz.prog #[69,69] 69 [S_ D,(.slice (some c4) 1 1)] W λF c5=>bN c5 (h.add 2) (S_ F) λc6=>b7 (aF .i64 (B+1)) c6)) (b6 () C)) 0 U) λf2 c7=>drew c7 λG=>qA7 p9 2 G 2 λX=>u7 d G 7 λd0=>lD X d0 G λY d1=>cz (S:=Unit) (λd2=>jD (S:=Int) (λd3 H I=>an (decide (H<((Y.n:Nat):Int))) (cN Y H 1 λd4=>aJ .i64 I d4 λd5=>drew I λu=>cy u (h.add 3) λJ=>cN s1 d5 1 λd6=>aJ .i64 u d6 λd7=>aE u #[Iv d7] 3 λd8 Z=>ai 1 (h.add 3) u Z (og Tryz.prog #[69,69] 69 [S_ J,(.slice (some d8) 1 1)] Z λL d9=>bN d9 (h.add 3) (S_ L) λe0=>d3 (aF .i64 (H+1)) e0)) (d2 () I)) 0 d1) λf3 a0=>bx 4 a0 h λa1=>kT #[.bool false,.bool false,.slice none 0 0,.slice none 0 0] 0 4 a1 λa2=>aE a0 a2 71 λe1 e2=>og Tryz.prog #[67,67] 67 [S_ x.1,(.slice (some e1) 1 1)] e2 λe3 e4=>C5 (e3,(aF .i64 (x.2+1))) e4) (k x.1 w7)) ((Sl.mk none 0 0),0) w2)
def Oo b c d e:E [.p] [.s] [(r4,Pa b),(sS,acs c),(qZ,aiu d),(HQ,ast e)] 4533471857331856618302173 [(8,[(4,.s),(21,(.i .i64))]),(13,[(7,.a)]),(15,[]),(16,[(53,(.i .i64))]),(24,[]),(25,[(80,(.i .i64))])] f44=xk b c d e:=aZ
def jB:=xk cI dA cQ lD
def Oq:SS DQ (Pa jB):=so func44 (.c BN (.c Jq (.c GL (.c Us .z)))) (Oo cI dA cQ lD)
def lE:T3:=λa w k=>an (eA a) (k 0 w) (drew w λc=>nn a λd=>aJ .i64 c (aY (d.add 1) 3) λe=>qJ7 a .i64 c 20 λg=>k (aF .i64 (e - g)) c)
def Ut:SS HK (Bl lE):=sl 21 [] func29
def nX:T3:=λa w k=>en a w 19 λd=>HI .i64 1 ((d.n:Nat):Int) λe=>k (aF .i64 (e - 1)) w
def VK:SS Jd (Bl nX):=sl 5 [] func82
def xl(n:T1):T9:=λa b w k=>cz (S:=Bool) (λd=>an (eA a) (d true w) (n a b w λe f=>d (!e) f)) λg c=>an g (k 0 c) (en a c 2 λi=>cN i b 1 λj=>aJ .i64 c j λm=>k m c)
def Ot a:E [.p,.i .i64] [.i .i64] [(rG,qu a)] 4115 [(1,[(12,.b)])] f83=u_2 (xl a):=aZ
def jC:=xl cU
def Ou:SS DS (vN jC):=so func83 (.c Dg .z) (Ot cU)
def CY(n:T3)(o:T59)(p:T9):T9:=λa b w k=>cz (S:=Bool) (λf=>an (eA a) (f true w) (n a w λg h=>o g b h λi j=>f (!i) j)) λl c=>an l (k 0 c) (u7 a c 7 λp9=>p p9 b c λd e=>k d e)
def VL a c d:E [.p,.i .i64] [.i .i64] [(Jd,Bl a),(Kl,am3 c),(DS,vN d)] 8211 [(1,[(13,.b)])] f47=u_2 (CY a c d):=aZ
def j9:=CY nX kK jC
def VM:SS Ja (vN j9):=so func47 (.c VK (.c Rq (.c Ou .z))) (VL nX kK jC)
def acU:T83:=λLU d w k=>jD (S:=(Int×Int)) (λe a c=>an (decide (a.2<((LU.n:Nat):Int))) (cN LU a.2 1 λf=>aJ .i64 c f λg=>an (g==d) (e ((aF .i64 (a.1+1)),(aF .i64 (a.2+1))) c) (e (a.1,(aF .i64 (a.2+1))) c)) (k a.1 c)) (0,0) w
def ajV:SS agy (aI1 acU):=sl 263283 [(4,[(5,(.i .i64)),(6,(.i .i64))])] func85
def agt(dD:T5)(jB:T5)(b6:T83)(lE:T3):aGw:=λl v aIr w k=>aE w v 27 λt w2=>dD l w2 λp w4=>jB l w4 λg u=>aJ .i64 u (t.add 1) λi7=>aJ .i64 u (t.add 2) λi8=>an (((g.n:Nat):Int) !=(aF .i64 (i7+i8))) (k false u) (cz (S:=Unit) (λJ9=>jD (S:=Int) (λx c q=>an (decide (c<((g.n:Nat):Int))) (cz (S:=Bool) (λe=>drew q λb=>cN g c 4 λy=>cy b (y.add 2) λz=>an (decide (((z.n:Nat):Int)>aIr)) (e true b) (cN g c 4 λA=>cy b (A.add 3) λB=>aJ .i64 b (t.add 3) λC=>HI .i64 1 (aF .u64 C) λD=>an (decide (((B.n:Nat):Int)>D)) (e true b) (aJ .i64 b (t.add 1) λF=>an (decide (c<F)) (cN g c 4 λG=>He b (G.add 0) λH=>an (!H) (e true b) (cN g c 4 λI=>He b (I.add 0) λJ=>an (!J) (cN g c 4 λL=>cy b (L.add 2) λM=>cN g c 4 λN=>cy b (N.add 3) λO=>(e (decide ((aF .i64 (((M.n:Nat):Int)+((O.n:Nat):Int)))>0)) b)) (e false b))) (cN g c 4 λP=>He b (P.add 0) λQ=>an (!Q) (cN g c 4 λR=>cy b (R.add 2) λT=>cN g c 4 λU=>cy b (U.add 3) λV=>(e (decide ((aF .i64 (((T.n:Nat):Int)+((V.n:Nat):Int)))>0)) b)) (e false b))))) λW r=>an W (k false r) (x (aF .i64 (c+1)) r)) (J9 () q)) 0 u) λc3 X=>jD (S:=(Int×Int)) (λY d m=>an (decide (d.2<((p.n:Nat):Int))) (cN p d.2 7 λZ=>aJ .i64 m (Z.add 5) λa0=>cz (S:=Int) (λa2=>jD (S:=(Int×Int)) (λa3 h o=>an (decide (h.2<((g.n:Nat):Int))) (cN g h.2 4 λa4=>cy o (a4.add 2) λa5=>b6 a5 d.2 o λa6 a7=>a3 ((aF .i64 (h.1+a6)),(aF .i64 (h.2+1))) a7) (a2 h.1 o)) (0,0) m) λi f=>cz (S:=Bool) (λj=>an (decide (i>1)) (j true f) (cN p d.2 7 λa8=>aJ .i64 f (a8.add 3) λa9=>an ((a9==0)&&(i !=0)) (j true f) (cN p d.2 7 λb0=>aJ .i64 f (b0.add 3) λb1=>an (b1==1) (cN p d.2 7 λb2=>aJ .i64 f (b2.add 5) λb3=>j ((decide (b3>0))&&(i !=1)) f) (j (false&&(i !=1)) f)))) λb4 s=>an b4 (k false s) (Y ((aF .i64 (d.1+a0)),(aF .i64 (d.2+1))) s)) (lE l m λa b5=>k ((aF .i64 (a+d.1))==1048576) b5)) (0,0) X)
def aj8 c d a e:E [.p,.ag,.i .i64] [.b] [(zF,Pa c),(DQ,Pa d),(agy,aI1 a),(HK,Bl e)] 5708990770824001804554953759012836797396828117 [(7,[]),(8,[(9,(.i .i64))]),(12,[(90,.b)]),(19,[(10,(.i .i64)),(11,(.i .i64))]),(26,[(12,(.i .i64))]),(27,[(12,(.i .i64)),(13,(.i .i64))]),(33,[(152,.b)])] f50=u_3 (agt c d a e):=aZ
def aaS:=agt dD jB acU lE
def akh:SS agA (aGx aaS):=so func50 (.c GR (.c Oq (.c ajV (.c Ut .z)))) (aj8 dD jB acU lE)
def ad3(lC:T2)(iv:World->((Bool)->ap)->Prop)(fL:W9)(kF:T37)(j9:T9)(lE:T3)(nO:T16)(aaD:T3)(aaS:aGw)(T:Array Value)(aoH:Int)(w:World)(k:(Bool)->ap):Prop:= aE w T 27 λi w2=>bx 5 w2 i λU=>lC U w2 λb4 V=>an (((!b4)||(decide (aoH<1)))||(decide (aoH>60))) (iv V λb6 w7=>k b6 w7) (bx 5 V i λW=>fL W V λX Y=>aE Y zr6 43 λe Z=>dQ 6 Z e X λa0=>bN a0 (e.add 4) (Iv aoH) λp=>bx 1 p (i.add 0) λx=>bx 6 p e λy=>kF x y p λa j=>an (((a.1,a.2).2 !=0)||(eA (a.1,a.2).1)) (k false j) (aJ .i64 j (i.add 1) λz=>aJ .i64 j (i.add 2) λA=>jD (S:=Int) (λa2 h q=>cy q (i.add 4) λa3=>an (decide (h<((a3.n:Nat):Int))) (aE q zr8 83 λr a4=>cz (S:=Unit) (λa5=>jD (S:=Int) (λa6 l B=>an (decide (l<(aF .i64 (z+A)))) (j9 (a.1,a.2).1 l B λa7 a8=>Hf r 8 l 1 λa9=>bN a8 a9 (Iv a7) λb0=>a6 (aF .i64 (l+1)) b0) (a5 () B)) 0 a4) λf6 b1=>lE (a.1,a.2).1 b1 λs t=>cy t (i.add 4) λb2=>cN b2 h 2 λb3=>bx 2 t b3 λC=>nO (a.1,a.2).1 C t λf7 b5=>cz (S:=Unit) (λb7=>jD (S:=Int) (λb8 f d=>an (decide (f<(aF .i64 (z+A)))) (Hf r 8 f 1 λb9=>aJ .i64 d b9 λD=>cz (S:=Bool) (λF=>cy d (i.add 4) λc0=>cN c0 h 2 λc1=>aJ .i64 d (c1.add 0) λc2=>an (c2==0) (cy d (i.add 4) λc3=>cN c3 h 2 λc4=>aJ .i64 d (c4.add 1) λc5=>F (c5==f) d) (F false d)) λc6 G=>cz (S:=Int) (λH=>an c6 (H (aF .i64 (D+1)) G) (H D G)) λc7 c8=>cz (S:=Bool) (λI=>drew c8 λu=>Hf r 8 f 1 λJ=>aJ .i64 u J λc9=>j9 (a.1,a.2).1 f u λd0 v=>ai 1 J u v (an (decide (d0<c9)) (I true v) (j9 (a.1,a.2).1 f v λd1 d2=>I (decide (d1>c7)) d2))) λd3 L=>an d3 (k false L) (b8 (aF .i64 (f+1)) L)) (b7 () d)) 0 b5) λf8 d4=>cz (S:=Bool) (λg=>drew d4 λd5=>lE (a.1,a.2).1 d5 λd6 M=>an (decide (d6>s)) (g true M) (lE (a.1,a.2).1 M λd7 N=>an (decide (d7<(aF .i64 (s - 1)))) (g true N) (lE (a.1,a.2).1 N λd8 c=>an (decide (d8<s)) (cy c (i.add 4) λd9=>cN d9 h 2 λe0=>aJ .i64 c (e0.add 0) λe1=>an (e1 !=0) (g true c) (aJ .i64 c (e.add 2) λe2=>aaD (a.1,a.2).1 c λe3 m=>ai 1 (e.add 2) c m (an (decide (e3>e2)) (g true m) (bx 5 m i λO=>aaS (a.1,a.2).1 O aoH m λe4 e5=>g (!e4) e5)))) (aJ .i64 c (e.add 2) λe6=>aaD (a.1,a.2).1 c λe7 o=>ai 1 (e.add 2) c o (an (decide (e7>e6)) (g true o) (bx 5 o i λP=>aaS (a.1,a.2).1 P aoH o λe8 e9=>g (!e8) e9)))))) λf0 Q=>an f0 (k false Q) (a2 (aF .i64 (h+1)) Q)) (iv q λf1 R=>k f1 R)) 0 j))
def ain d e f g h j l a c:E [.ag,.i .i64] [.b] [(HJ,Jj d),(EY,as0 e),(zH,Kx f),(Nh,arI g),(Ja,vN h),(HK,Bl j),(Kj,az1 l),(aa0,Bl a),(agA,aGx c)] 45671926166632255202558880873551487283413155830 [(13,[(9,(.i .i64))]),(19,[]),(20,[(11,(.i .i64))]),(29,[]),(30,[(13,(.i .i64))]),(35,[(99,.b)]),(36,[(14,(.i .i64))]),(38,[(115,.b)]),(42,[(155,.b)])] f10=u_2 (ad3 d e f g h j l a c):=aZ
def ad1:=ad3 lC iv fL kF j9 lE nO aaD aaS
def aip:SS aik (ais ad1):=so func10 (.c Uq (.c Qj (.c Jv (.c Xv (.c VM (.c Ut (.c XP (.c adY (.c akh .z))))))))) (ain lC iv fL kF j9 lE nO aaD aaS)
open Go Go.Ev Go.Proofs
structure bJ where
 cells:List Int
 size:Int
 steps:List Int
 deriving DecidableEq
def bH(g:Nat)(M:bJ):HP:=Gt λp:Sl×Sl=>l9 [au g [S_ p.1,I_ M.size,S_ p.2],bG 1 p.1 (ints M.cells),bG 1 p.2 (ints M.steps)]
variable{M:bJ}{R:List HP}{g:Nat}{w w0:World}
def uM(h:St w0 w (bH g M::R)):∃s1 s2:Sl,St w0 w (au g [S_ s1,I_ M.size,S_ s2]::bG 1 s1 (ints M.cells)::bG 1 s2 (ints M.steps)::R):=by
 obtain⟨p,h⟩:=h.some;exact⟨p.1,p.2,h.open⟩
variable{zd:Sl}
def C0{s1:Sl}(h:St w0 w (au g [S_ s1,I_ M.size,S_ zd]::bG 1 s1 (ints M.cells)::bG 1 zd (ints M.steps)::R)):St w0 w (bH g M::R):=
 St.ex (s1,zd) (St.shut h)
namespace bJ
def caller(M:bJ)(w:Int):Bool:=decide (0<=w/\w<M.steps.length)
def given(M:bJ)(at_:Int):Bool:=decide (0<=at_/\at_<M.cells.length)
def tick(M:bJ)(w:Int):bJ:={M with steps:=M.steps.set w.toNat (IntKind.i64.wrap (M.steps.getD w.toNat 0+1))}
def get(M:bJ)(at_:Int):Int:=M.cells.getD at_.toNat 0
def put(M:bJ)(at_ x:Int):bJ:={M with cells:=M.cells.set at_.toNat x}
def can(M:bJ)(w at_:Int):Bool:=M.caller w&&M.given at_
end bJ
variable{L:List HP}{f':HP->List HP}{s:Sl}{xs:List Int}
def agV(h:St w0 w L)[a:At L (bG 1 s) (ints xs) f']:s.n=xs.length:=by
 have:=h.Gs (sz:=1) (s:=s);simp at this;omega
variable{f:HP->List HP}{k:Bool->ap}{wk:Int}
theorem ae4(h:St w0 w L)[a:At L (bH g) M f](c:k (M.caller wk) w):cU (A_ g) wk w k:=by
 obtain⟨R,d,e⟩:=a.out;obtain⟨s1,s2,b⟩:=uM (d h);have l2:=agV (s:=s2) b;unfold cU;unfold bJ.caller at c;refine ax (λh=>bc (ea b rfl ?_)) λh=>?_
 iterate 2 grind
variable{at_:Int}
theorem aiC(h:St w0 w L)[a:At L (bH g) M f](c:k (M.given at_) w):c8 (A_ g) at_ w k:=by
 obtain⟨R,d,e⟩:=a.out;obtain⟨s1,s2,b⟩:=uM (d h);have i:=agV (s:=s1) b;unfold c8;unfold bJ.given at c;refine ax (λh=>bc (ea b rfl ?_)) λh=>?_
 iterate 2 grind
variable{zh:Int}{zn:Value}{zp:Bool}
theorem Se{k:Int->ap}(h:St w0 w L)[a:At L (bH g) M f]
  (i:(zn= .func (.func jk) #[.pointer (A_ g)] #[]/\zp=M.given zh)\/(zn= .func (.func BY) #[] #[]/\zp=decide (zh>=1)))
  (j:k (if M.caller wk&&zp then 0 else 10) w):aN (A_ g) wk zh zn w k:=by
 unfold aN wm;refine bP (λy w'=>w=w'/\y= !(M.caller wk&&zp)) ?_ ?_
 .intro J e;refine ae4 h (ax (λc=>e _ _ ⟨rfl,?_⟩) λc=>?_)
  .grind
  .simp only[Bool.not_eq_false']at c;rcases i with⟨rfl,rfl⟩|⟨rfl,rfl⟩
   .refine bV (d:=Eb) (λ_ _ _=>rfl) ?_;simp only[Eb,List.append_toArray,List.cons_append,List.nil_append,List.append_nil,qW,unV,toP,xS,if_true,e9,dL,K.v,Ir];refine aiC h (e _ _ ⟨rfl,?_⟩);simp[c]
   .refine bV (d:=UO) (λ_ _ _=>rfl) ?_;simp only[UO,sG,List.append_toArray,List.cons_append,List.nil_append,List.append_nil,qW,unV,toP,xS,if_true,e9,dL,K.v,Ir];grind
 .rintro _ _ ⟨rfl,rfl⟩;refine ax (λc=>?_) λc=>?_
  iterate 2 grind
def agW{k:Int×Int->ap}(h:St w0 w L)[a:At L (bH g) M f](e:M.can wk at_=true->∀w',St w0 w' (f (bH g (M.tick wk)))->k (M.get at_,0) w')(h2:M.can wk at_=false->k (0,10) w):aj (A_ g) wk at_ w k:=by
 unfold aj yb;refine aU rfl (Se h (.inl ⟨rfl,rfl⟩) ?_);by_cases b:M.can wk at_=true
 .have d:=b;unfold bJ.can at b;rw[b];refine aU rfl ?_;obtain⟨R,i,j⟩:=a.out;obtain⟨s1,s2,c⟩:=uM (i h);simp only[iY,bJ.caller,bJ.given,decide_eq_true_eq]at b;refine bc (ea c rfl (zB c b.1.1 b.1.2 (zC c b.1.1 b.1.2 λw' c=>bc (ea c rfl (zB c b.2.1 b.2.2 ?_)))));exact e d w' (j (C0 c))
 .have b:M.can wk at_=false:=by simpa using b
  have:=h2 b;unfold bJ.can at b;rw[b];exact bK rfl this
variable{k:Int->ap}{x:Int}
def aiD(h:St w0 w L)[a:At L (bH g) M f](e:M.can wk at_=true->∀w',St w0 w' (f (bH g ((M.tick wk).put at_ x)))->k 0 w')(h2:M.can wk at_=false->k 10 w):aK (A_ g) wk at_ x w k:=by
 unfold aK wq;refine aU rfl (Se h (.inl ⟨rfl,rfl⟩) ?_);by_cases b:M.can wk at_=true
 .have d:=b;unfold bJ.can at b;rw[b];refine aU rfl ?_;obtain⟨R,i,j⟩:=a.out;obtain⟨s1,s2,c⟩:=uM (i h);simp only[iY,bJ.caller,bJ.given,decide_eq_true_eq]at b;refine bc (ea c rfl (zB c b.1.1 b.1.2 (zC c b.1.1 b.1.2 λw' c=>bc (ea c rfl (zC c b.2.1 b.2.2 λw' c=>?_)))));exact e d w' (j (C0 c))
 .have b:M.can wk at_=false:=by simpa using b
  have:=h2 b;unfold bJ.can at b;rw[b];exact bK rfl this
theorem as6(h:St w0 w L)[a:At L (bH g) M f](c:k (if M.caller wk then M.steps.getD wk.toNat 0 else 0) w):jC (A_ g) wk w k:=by
 unfold jC xl;refine bP (λy w'=>w=w'/\y= !M.caller wk) (λJ e=>aU rfl (ae4 h (e _ _ ⟨rfl,rfl⟩))) ?_;rintro _ _ ⟨rfl,rfl⟩;refine ax (λb=>?_) λb=>?_
 .grind
 .have b:M.caller wk=true:=by simpa using b
  rw[if_pos b]at c;obtain⟨R,i,j⟩:=a.out;obtain⟨s1,s2,d⟩:=uM (i h);simp only[bJ.caller,decide_eq_true_eq]at b;exact bc (ea d rfl (zB d b.1 b.2 c))
theorem KG(h:St w0 w L)[a:At L (bH g) M f](c:k (if M.given at_ then M.get at_ else 0) w):aO (A_ g) at_ w k:=by
 unfold aO yg;refine bP (λy w'=>w=w'/\y= !M.given at_) (λJ e=>aU rfl (aiC h (e _ _ ⟨rfl,rfl⟩))) ?_;rintro _ _ ⟨rfl,rfl⟩;refine ax (λb=>?_) λb=>?_
 .grind
 .have b:M.given at_=true:=by simpa using b
  rw[if_pos b]at c;obtain⟨R,i,j⟩:=a.out;obtain⟨s1,s2,d⟩:=uM (i h);simp only[bJ.given,decide_eq_true_eq]at b;exact bc (ea d rfl (zB d b.1 b.2 c))
def axB(h:St w0 w L)[a:At L (bH g) M f](c:k (M.cells.length:Nat) w):jW (A_ g) w k:=by
 unfold jW;obtain⟨R,d,i⟩:=a.out;obtain⟨s1,s2,b⟩:=uM (d h);have e:=agV (s:=s1) b;refine aU rfl (bc (ea b rfl ?_));rw[e];exact c
variable{P:Program}
variable{zr:TypeId}
def elI(h:S0 P zr=some (1,8,some (I_ 0))):ET P zr 1 8 (I_ 0):=⟨h,rfl⟩
def Y3(n:Nat)(x:Int):dU n (Value.int .i64 x)=ints (dU n x):=by simp[ints]
def bJ.new(size XQ:Int):bJ:=⟨[],size,dU (XQ.toNat+1) 0⟩
def agX(size XQ:Int):Bool:=decide (1<=size/\size<=1048576/\1<=XQ/\XQ<=16)
theorem axC{k:Option Addr×Int->ap}(h:St w0 w L)(b:agX x wk=true->∀g w',St w0 w' (bH g (bJ.new x wk)::L)->k (A_ g,0) w')(h2:agX x wk=false->k (none,10) w):sW x wk w k:=by
 unfold sW;unfold agX at b h2;refine ax (λhb=>?_) λhb=>?_
 .grind
 .simp only[kf,decide_eq_false_iff_not]at hb;have c:IntKind.i64.wrap (wk+1)=((wk.toNat+1:Nat):Int):=by rw[dh ⟨af,af⟩];omega
  rw[c];refine AT h (elI aZ) rfl af af λs w' hS d=>?_;rw[Y3]at hS;have hS:=hS.DJ 1;refine aM hS λg a hS=>b (by rw[decide_eq_true_eq];omega) g a (C0 (s1:=⟨none,0,0⟩) hS)
def bJ.room(M:bJ)(n:Int):Bool:=decide (n<=M.size - M.cells.length)
def bJ.grow(M:bJ)(n:Int):bJ:={M with cells:=M.cells++dU n.toNat 0}
structure bJ.OK (M:bJ):Prop where
 size:1<=M.size/\M.size<=1048576
 fit:(M.cells.length:Int)<=M.size
theorem GU{n:Int}{k:Int×Int->ap}(h:St w0 w L)[a:At L (bH g) M f](o:M.OK)
  (r:M.caller wk=true->1<=n->M.room n=true->∀w',St w0 w' (f (bH g ((M.tick wk).grow n)))->k ((M.cells.length:Nat),0) w')
  (h2:M.caller wk=true->1<=n->M.room n=false->k (0,21) w) (t:¬(M.caller wk=true/\1<=n)->k (0,10) w):ay (A_ g) wk n w k:=by
 unfold ay wo;have u:=o.size;have v:=o.fit;refine aU rfl (Se h (.inr ⟨rfl,rfl⟩) ?_);by_cases b:M.caller wk=true/\1<=n
 .rw[b.1,show(decide (n>=1))=true by simpa using b.2]
  refine aU rfl ?_;obtain⟨R,x,y⟩:=a.out;obtain⟨s1,s2,c⟩:=uM (x h);have p:=agV (s:=s1) c;have e:=b.1;simp only[bJ.caller,decide_eq_true_eq]at e;have i:IntKind.i64.wrap (M.size - ((s1.n:Nat):Int))=M.size - M.cells.length:=by rw[p,dh ⟨af,af⟩]
  refine bc (ea c rfl (bc (cr c rfl ?_)));rw[i];refine ax (λj=>?_) λj=>?_
  .exact h2 b.1 b.2 (by unfold bJ.room;rw[decide_eq_false_iff_not];simp only[decide_eq_true_eq]at j;omega)
  .simp only[decide_eq_false_iff_not]at j;have hroom:M.room n=true:=by unfold bJ.room;rw[decide_eq_true_eq];omega
   refine bc (ea c rfl (zB c e.1 e.2 (zC c e.1 e.2 λw' c=>bc (ea c rfl ?_))));have q:=(c.own (sz:=1) (s:=s1)).cap;refine aw0 c bf bf bf (by simp;omega) λd l m c=>?_
   have z:(ints M.cells).take (((s1.n:Nat):Int).toNat*1)=ints M.cells:=List.take_of_length_le (by simp[ints];omega)
   simp only[z]at c;have A:n=((n.toNat:Nat):Int):=af;rw[A];simp at l m;refine ary c (elI aZ) aZ rfl af af af af λs' B c hs'=>bc (j4 c rfl bf λC c=>?_);have:=r b.1 b.2 hroom C (y (C0 (by
    have e2:ints M.cells++dU n.toNat (Value.int .i64 0)=ints (M.cells++dU n.toNat 0):=by simp[ints]
    rw[e2]at c;exact c)))
   rw[<-p]at this;exact this
 .have hb:(M.caller wk&&decide (n>=1))=false:=by
   grind
  rw[hb];exact bK rfl (t b)
open Go Go.Ev Go.Proofs
variable{n:Nat}
def EI(h:n<=8):(2:Nat) ^ n<=256:=Nat.le_trans (Nat.pow_le_pow_right af h) e7
theorem Y4{m:Nat}(h:m<2 ^ 63):(bv (m:Int)).toNat=m:=by grind
theorem XR{b:BitVec 64}(h:b.toNat<2 ^ 63):b.toInt=b.toNat:=by grind
def ae5(h:n<=62):oH .i64 x (((2 ^ n - 1:Nat)):Int)=x % ((2 ^ n:Nat):Int):=by
 have f:2 ^ n<=2 ^ 62:=Nat.pow_le_pow_right af h;have c:0<2 ^ n:=Nat.pow_pos af;rw[QJ];have b:(bv x&&&bv ((2 ^ n - 1:Nat):Int)).toNat=(bv x).toNat % 2 ^ n:=by
  rw[BitVec.toNat_and,Y4 af,Nat.and_two_pow_sub_one_eq_mod]
 have d:=Nat.mod_lt (bv x).toNat c;rw[XR (by rw[b];omega),b]
 rw[BitVec.toNat_ofInt];have e:((2 ^ n:Nat):Int)∣((2 ^ 64:Nat):Int):=by
  refine⟨((2 ^ (64 - n):Nat):Int),?_⟩;rw[<-Int.natCast_mul,<-Nat.pow_add];congr 2;omega
 have a:0<=x % ((2 ^ 64:Nat):Int):=Int.emod_nonneg _ af;rw[Int.natCast_emod,Int.toNat_of_nonneg a,Int.emod_emod_of_dvd _ e]
theorem aDJ(x:Int):IR .i64 x 4=x / 16:=by
 unfold IR;have e:min (4:Int).toNat IntKind.i64.bits=4:=e7;grind
def aBn(x:Int):oH .i64 x 15=x % 16:=by
 have:=ae5 (x:=x) (n:=4) af;exact this
def aDK(a:0<=x)(b:x<=1048576):sD .i64 x 4=16*x:=by
 unfold sD;have e:min (4:Int).toNat IntKind.i64.bits=4:=e7;rw[e,dh ⟨af,af⟩];omega
theorem aDL{a l:Nat}(b:a<=1048576)(c:l<16):Ti .i64 (16*(a:Int)) (l:Int)=16*a+l:=by
 rw[agi];have d:(bv (16*(a:Int))|||bv (l:Int)).toNat=16*a+l:=by
  rw[BitVec.toNat_or,Y4 af];have:(bv (16*(a:Int))).toNat=16*a:=by
   have:=Y4 (m:=16*a) af;rw[<-this];simp
  rw[this];have h2:=Nat.shiftLeft_add_eq_or_of_lt (i:=4) af a;rw[Nat.shiftLeft_eq]at h2;grind
 grind
def XS(a:0<=x)(b:x<=8):sD .i64 1 x=((2 ^ x.toNat:Nat):Int):=by
 unfold sD;have e:min x.toNat IntKind.i64.bits=x.toNat:=by simp[IntKind.bits];omega
 have:=EI (n:=x.toNat) af;have e2:((2:Int) ^ x.toNat)=((2 ^ x.toNat:Nat):Int):=by simp
 rw[e,Int.one_mul,e2];generalize (2 ^ x.toNat:Nat)=m at*
 exact dh ⟨af,af⟩
structure Rg where
 At:Int
 DA:Int
 deriving DecidableEq
namespace Rg
abbrev ag(r:Rg):Array Value:=#[I_ r.At,I_ r.DA]
def pw(r:Rg):Nat:=2 ^ r.DA.toNat
def right(r:Rg):Bool:=decide (0<=r.DA/\r.DA<=8/\0<=r.At/\r.At<=1048576 - r.pw)
def size(r:Rg):Int:=if r.right then r.pw else 0
def place(r:Rg)(i:Int):Int:=if r.right then r.At+i % r.pw else -1
def word(r:Rg):Int:=if r.right then 16*r.At+r.DA else -1
def of(word:Int):Rg:=⟨word / 16,word % 16⟩
def zero:Rg:=⟨0,0⟩
end Rg
variable{r:Rg}
def Rg.F5(h:r.right=true):0<=r.DA/\r.DA<=8/\0<=r.At/\r.At<=1048576 - r.pw/\1<=r.pw/\r.pw<=256:=by
 unfold Rg.right at h;simp only[decide_eq_true_eq]at h;have a:r.pw<=256:=EI af;have h2:0<r.pw:=Nat.pow_pos af;omega
def Mw{k:Bool->ap}(h:St w0 w L)(d:∀w',St w0 w' L->k r.right w'):bE r.ag w k:=by
 unfold bE;have d:=λw' h'=>d w' h';refine aM h λg w1 a=>cH a λi a=>?_;have fin:∀b,b=r.right->k b i:=λb e=>by rw[e];exact d i a.drop
 unfold Rg.right at fin;refine cr a rfl (ax (λc=>?_) λc=>fin _ (by rw[decide_eq_false_iff_not]at c;exact(decide_eq_false af).symm))
 refine cr a rfl (ax (λh2=>?_) λh2=>fin _ (by rw[decide_eq_false_iff_not]at h2;exact(decide_eq_false af).symm))
 refine cr a rfl (ax (λf=>?_) λf=>fin _ (by rw[decide_eq_false_iff_not]at f;exact(decide_eq_false af).symm))
 simp only[decide_eq_true_eq]at c h2 f;refine cr a rfl (cr a rfl (Gf c (fin _ ?_)));have l:r.pw<=256:=EI af;have j:(2 ^ r.DA.toNat:Nat)=r.pw:=rfl;rw[XS c h2,j,dh ⟨af,af⟩,decide_eq_decide];omega
def XT(h:St w0 w L)(d:∀w',St w0 w' L->k r.size w'):cg r.ag w k:=by
 unfold cg Eh;refine aM h λg w1 a=>je a rfl<|Mw a λe a=>ax (λb=>?_) λb=>?_
 .have:=d e a.drop;unfold Rg.size at this;rwa[if_neg (gq b)]at this
 .have b:r.right=true:=by simpa using b
  have c:=Rg.F5 b;have:=d e a.drop;unfold Rg.size at this;rw[if_pos b]at this;refine cr a rfl (Gf c.1 ?_);rw[XS c.1 c.2.1];exact this
def Mx(h:St w0 w L)(d:∀w',St w0 w' L->k (r.place x) w'):bl r.ag x w k:=by
 unfold bl CN;refine aM h λg w1 a=>je a rfl<|Mw a λj a=>ax (λb=>?_) λb=>?_
 .have:=d j a.drop;unfold Rg.place at this;rwa[if_neg (gq b)]at this
 .have b:r.right=true:=by simpa using b
  have p:=Rg.F5 b;refine cH a λq a=>cr a rfl<|je a rfl<|XT a λl c=>eD a c ?_;have:=d l c.drop;unfold Rg.place at this;rw[if_pos b]at this;have e:r.size=r.pw:=by unfold Rg.size;rw[if_pos b]
  have f:(2 ^ r.DA.toNat:Nat)=r.pw:=rfl;have e2:IntKind.i64.wrap (r.size - 1)=((2 ^ r.DA.toNat - 1:Nat):Int):=by
   rw[e,dh ⟨af,af⟩,f];omega
  have m:(0:Int)<(r.pw:Nat):=af;have n:=Int.emod_nonneg x (show((r.pw:Nat):Int)≠0 by omega)
  have o:=Int.emod_lt_of_pos x m;rw[e2,ae5 af,f];rw[dh ⟨af,af⟩];exact this
def anj(h:St w0 w L)(d:∀w',St w0 w' L->k r.word w'):fD r.ag w k:=by
 unfold fD Ed;refine aM h λg w1 a=>je a rfl<|Mw a λe a=>?_;have:=d e a.drop;unfold Rg.word at this;refine ax (λb=>?_) λb=>?_
 .rwa[if_neg (gq b)]at this
 .have b:r.right=true:=by simpa using b
  have f:=Rg.F5 b;rw[if_pos b]at this;refine cr a rfl (cr a rfl ?_);have c:r.At=((r.At.toNat:Nat):Int):=af;have e2:r.DA=((r.DA.toNat:Nat):Int):=af;rw[aDK f.2.2.1 af];rw[c,e2,aDL af af,<-c,<-e2];exact this
variable{k:Array Value×Int->ap}
def az8(h:St w0 w L)(d:∀w',St w0 w' L->k (if (Rg.of x).right then((Rg.of x).ag,0)else(Rg.zero.ag,11)) w'):rh x w k:=by
 unfold rh Vr;refine aM h λg w1 a=>aM a λg2 e a=>?_;rw[aDJ,aBn];refine m7 a rfl rfl (by simp[Value.oneCell']) λf a=>?_
 refine je a rfl<|Mw (r:=Rg.of x) a λi a=>ax (λb=>?_) λb=>?_
 .refine m7 a rfl rfl (by simp[Value.oneCell']) λc a=>?_
  refine je a rfl ?_;have:=d c a.drop.drop;rwa[if_neg (gq b)]at this
 .refine je a rfl<|m7 a rfl rfl (by simp[Value.oneCell']) λc a=>?_
  refine je a rfl ?_;have:=d c a.drop.drop;rwa[if_pos (gq b)]at this
open Go Go.Ev Go.Proofs
variable{log:Int}
theorem axD(h:St w0 w L)[a:At L (bH g) M f](i:M.OK)
  (h1:0<=log->log<=8->M.caller wk=true->M.room ((2 ^ log.toNat:Nat):Int)=true->∀w',St w0 w' (f (bH g ((M.tick wk).grow ((2 ^ log.toNat:Nat):Int))))->k (Rg.ag ⟨(M.cells.length:Nat),log⟩,0) w')
  (h2:0<=log->log<=8->M.caller wk=true->M.room ((2 ^ log.toNat:Nat):Int)=false->∀w',St w0 w' L->k (Rg.zero.ag,21) w')
  (h3:¬(0<=log/\log<=8/\M.caller wk=true)->∀w',St w0 w' L->k (Rg.zero.ag,10) w'):xO (A_ g) wk log w k:=by
 unfold xO Q7;refine aM h λm w1 b=>aU rfl (ax (λhb=>?_) λhb=>?_)
 .simp only[Bool.or_eq_true,decide_eq_true_eq]at hb;refine m7 b rfl rfl (by simp[Value.oneCell']) λd b=>?_
  refine je b rfl<|h3 af _ b.drop
 .simp only[kf,decide_eq_false_iff_not]at hb;refine Gf af ?_;rw[XS af af];have n:0<2 ^ log.toNat:=Nat.pow_pos af;refine GU b i (λc j e d b=>?_) (λc j e=>?_) λc=>?_
  .refine aU rfl<|m7 b rfl rfl (by simp[Value.oneCell']) λd b=>?_
   refine je b rfl<|h1 af af c e _ b.drop
  .refine bK rfl<|m7 b rfl rfl (by simp[Value.oneCell']) λd b=>?_
   refine je b rfl<|h2 af af c e _ b.drop
  .refine bK rfl<|m7 b rfl rfl (by simp[Value.oneCell']) λd b=>?_
   refine je b rfl<|h3 (λl=>c ⟨l.2.2,?_⟩) _ b.drop;grind
structure Cp where
 a:Rg
 b:Rg
 at_:Int
 j2:Int
 has:Int
 Cm:Bool
def Qm(g:Nat)(c:Cp):HP:=au g [I_ c.a.At,I_ c.a.DA,I_ c.b.At,I_ c.b.DA,I_ c.at_,I_ c.j2,I_ c.has,
 .func (.func (if c.Cm then sV else rJ)) #[.pointer (A_ g)] #[]]
def Cp.begin(a b:Rg)(from_ j2:Int):Cp:=⟨a,b,from_,j2,0,false⟩
def Sf(a b:Rg)(from_ j2:Int):Int:=if a.right=false\/b.right=false then 1 else if j2<from_\/j2 - from_>a.size\/j2 - from_>b.size then 10 else 0
def ak6(a:0<=x)(b:x<18446744073709551616):IntKind.u64.wrap x=x:=by
 simp only[aF,IntKind.bits,IntKind.signed];simp;omega
variable{y:Int}
def acE(a:sy x)(b:sy y)(h:y<=x):IntKind.u64.wrap (IntKind.u64.wrap x - IntKind.u64.wrap y)=x - y:=by
 have:=a.1;have:=a.2;have:=b.1;have:=b.2;simp only[aF,IntKind.bits,IntKind.signed];simp;omega
def size_le(r:Rg):0<=r.size/\r.size<=256:=by
 unfold Rg.size;split
 .rename_i h;have:=Rg.F5 h;omega
 .omega
theorem axE{a b:Rg}{k:Option Addr×Int->ap}(o:sy x)(p:sy wk)(h:St w0 w L)
  (f:Sf a b x wk=0->∀g w',St w0 w' (Qm g (Cp.begin a b x wk)::L)->k (A_ g,0) w') (h2:Sf a b x wk≠0->∀w',St w0 w' L->k (none,Sf a b x wk) w'):nH a.ag b.ag x wk w k:=by
 unfold nH Ei;refine aM h λg1 w1 c=>aM c λg2 s c=>bP (λy w'=>y=(!a.right|| !b.right)/\St w0 w' (au g2 b.ag.toList::au g1 a.ag.toList::L)) ?_ ?_
 .intro J i;refine je c rfl<|Mw c λq c=>ax (λf=>i _ _ ⟨by revert f;cases a.right<;>simp,c⟩) λf=>?_
  refine je c rfl<|Mw c λm c=>i _ _ ⟨by revert f;cases a.right<;>simp,c⟩
 rintro _ q ⟨rfl,c⟩;refine ax (λn=>?_) λn=>?_
 .have e:Sf a b x wk=1:=by
   unfold Sf;grind
  have:=h2 (by rw[e];omega) _ c.drop.drop
  rwa[e]at this
 simp only[kf,Bool.not_eq_false']at n;have t:=size_le a;have sb:=size_le b;have e:Sf a b x wk=if wk<x\/wk - x>a.size\/wk - x>b.size then 10 else 0:=by
  unfold Sf;grind
 refine bP (λy w'=>y=decide (wk<x\/wk - x>a.size\/wk - x>b.size)/\St w0 w' (au g2 b.ag.toList::au g1 a.ag.toList::L)) ?_ ?_
 .intro J i;refine cH c λm c=>ax (λd=>i _ _ ⟨?_,c⟩) λd=>?_
  .grind
  .rw[decide_eq_false_iff_not]at d;refine je c rfl<|je c rfl<|XT c λr j=>eD c j<|XT j λl c=>i _ _ ⟨?_,c⟩;rw[acE p o af];unfold Wg;rw[decide_eq_decide];split
   iterate 2 rw[ak6 af af];omega
 rintro _ m ⟨rfl,c⟩;refine ax (λd=>?_) λd=>?_
 .rw[decide_eq_true_eq]at d;rw[if_pos d]at e;have:=h2 (by rw[e];omega) _ c.drop.drop
  rwa[e]at this
 rw[decide_eq_false_iff_not]at d;rw[if_neg d]at e;refine je c rfl<|je c rfl<|arq _ rfl bf rfl<|arq _ rfl bf rfl<|aM c λg r c=>j4 c rfl bf λl c=>f e g l (show St w0 l (Qm g (Cp.begin a b x wk)::L)from c.swap.drop.swap.drop)
def Cp.spot(c:Cp):Int:=if c.Cm then c.b.place c.at_ else c.a.place c.at_
def Cp.next(c:Cp)(x:Int):Cp:=if c.Cm then{c with at_:=IntKind.i64.wrap (c.at_+1),Cm:=false}else{c with has:=x,Cm:=true}
variable{gc:Nat}
variable{zt:Cp}
theorem axF{c:Cp}{k:Bool×Int->ap}(h:St w0 w (Qm gc c::bH g M::L))
  (p:c.at_=c.j2->∀w',St w0 w' (Qm gc c::bH g M::L)->k (true,0) w')
  (o:c.at_≠c.j2->M.can wk c.spot=false->∀w',St w0 w' (Qm gc c::bH g M::L)->k (false,10) w')
  (h2:c.at_≠c.j2->M.can wk c.spot=true->c.Cm=false->∀w',St w0 w' (Qm gc (c.next (M.get c.spot))::bH g (M.tick wk)::L)->k (false,0) w')
  (q:c.at_≠c.j2->M.can wk c.spot=true->c.Cm=true->∀w',St w0 w' (Qm gc (c.next 0)::bH g ((M.tick wk).put c.spot c.has)::L)->k ((c.next 0).at_==c.j2,0) w'):
  nJ (A_ gc) (A_ g) wk w k:=by
 unfold nJ Ek;refine aU rfl (cH h λw1 f=>?_);unfold Qm at f;refine bc (cr f rfl ?_);refine bc (cr f rfl (ax (λr=>p (gq r) _ f) λl=>?_))
 have l:c.at_≠c.j2:=gq l
 refine bc (I2 f rfl ?_);cases hl:c.Cm with
 |false=>
  have j:c.spot=c.a.place c.at_:=by unfold Cp.spot;rw[hl];rfl
  rw[hl]at f;refine bV (d:=KB) (λ_ _ _=>rfl) ?_;simp only[KB,List.append_toArray,List.cons_append,List.nil_append,List.append_nil,qW,unV,toP,xS,if_true,e9,dL,K.v,Ir];unfold nI Ej;refine cH f λs f=>bc (qM f bf ?_);refine bc (cr f rfl ?_);refine Mx f λt f=>agW f (λi u f=>?_) λi=>?_
  .refine aU rfl (bc (j4 f rfl bf λx f=>bc (j4 f rfl bf λy f=>?_)));refine aU rfl (cH f λn f=>?_);refine bc (cr f rfl ?_);refine bc (cr f rfl ?_);have:=h2 l (by rw[j];exact i) hl n (by
    rw[j];have e:c.next (M.get (c.a.place c.at_))={c with has:=M.get (c.a.place c.at_),Cm:=true}:=by unfold Cp.next;rw[hl];rfl
    rw[e];exact f)
   grind
  .refine bK rfl (bK rfl (o l (by rw[j];exact i) _ ?_))
   unfold Qm;rw[hl];exact f
 |true=>
  have j:c.spot=c.b.place c.at_:=by unfold Cp.spot;rw[hl];rfl
  rw[hl]at f;refine bV (d:=Jo) (λ_ _ _=>rfl) ?_;simp only[Jo,List.append_toArray,List.cons_append,List.nil_append,List.append_nil,qW,unV,toP,xS,if_true,e9,dL,K.v,Ir];unfold mz CO;refine cH f λs f=>bc (qM f bf ?_);refine bc (cr f rfl ?_);refine bc (cr f rfl ?_);refine Mx f λt m=>eD f m<|aiD m (λi u f=>?_) λi=>?_
  .refine aU rfl (bc (cr f rfl ?_));refine bc (j4 f rfl bf λx f=>bc (j4 f rfl bf λy f=>?_));refine aU rfl (cH f λn f=>?_);refine bc (cr f rfl ?_);refine bc (cr f rfl ?_);have e:c.next 0={c with at_:=IntKind.i64.wrap (c.at_+1),Cm:=false}:=by unfold Cp.next;rw[hl];rfl
   have:=q l (by rw[j];exact i) hl n (by
    rw[j,e];exact f)
   rw[e]at this;exact this
  .refine bK rfl (bK rfl (o l (by rw[j];exact i) _ ?_))
   unfold Qm;rw[hl];exact m
def bJ.ld(M:bJ)(wk a:Int):bJ×Int×Int:=if M.can wk a then(M.tick wk,M.get a,0)else(M,0,10)
def bJ.st(M:bJ)(wk a x:Int):bJ×Int:=if M.can wk a then((M.tick wk).put a x,0)else(M,10)
def bJ.VQ(M:bJ)(wk a old x:Int):bJ×Bool×Int:=if M.can wk a then(if M.get a=old then((M.tick wk).put a x,true,0)else(M.tick wk,false,0))else(M,false,10)
def wr(x:Int):Int:=aF .i64 x
variable{a':Int}
theorem aa8{k:Int×Int->ap}(h:St w0 w L)[a:At L (bH g) M f](b:∀w',St w0 w' (f (bH g (M.ld wk a').1))->k ((M.ld wk a').2.1,(M.ld wk a').2.2) w'):aj (A_ g) wk a' w k:=by
 unfold bJ.ld at b;refine agW h (λc w' h=>?_) λc=>?_
 .grind
 .rw[if_neg (by rw[c];simp)]at b;exact b w (h.same a)
theorem Sg{k:Int->ap}(h:St w0 w L)[a:At L (bH g) M f](b:∀w',St w0 w' (f (bH g (M.st wk a' x).1))->k (M.st wk a' x).2 w'):aK (A_ g) wk a' x w k:=by
 unfold bJ.st at b;refine aiD h (λc w' h=>?_) λc=>?_
 .grind
 .rw[if_neg (by rw[c];simp)]at b;exact b w (h.same a)
def ak7{old:Int}{k:Bool×Int->ap}(h:St w0 w L)[a:At L (bH n) M f](d:∀w',St w0 w' (f (bH n (M.VQ wk a' old x).1))->k ((M.VQ wk a' old x).2.1,(M.VQ wk a' old x).2.2) w'):aR (A_ n) wk a' old x w k:=by
 unfold aR zT;unfold bJ.VQ at d;refine aU rfl (Se h (.inl ⟨rfl,rfl⟩) ?_);by_cases b:M.can wk a'=true
 .rw[if_pos b]at d;unfold bJ.can at b;rw[b];refine aU rfl ?_;obtain⟨R,i,g⟩:=a.out;obtain⟨s1,s2,c⟩:=uM (i h);simp only[iY,bJ.caller,bJ.given,decide_eq_true_eq]at b;refine bc (ea c rfl (zB c b.1.1 b.1.2 (zC c b.1.1 b.1.2 λw' c=>bc (ea c rfl (zB c b.2.1 b.2.2 ?_)))));refine ax (λhb=>?_) λhb=>?_
  .have e:M.get a'≠old:=by simpa[bJ.get]using hb
   rw[if_neg e]at d;exact d w' (g (C0 c))
  .have j:M.get a'=old:=by simpa[bJ.get]using hb
   rw[if_pos j]at d;refine bc (ea c rfl (zC c b.2.1 b.2.2 λw' c=>?_));exact d w' (g (C0 c))
 .have b:M.can wk a'=false:=by simpa using b
  rw[if_neg (by rw[b];simp)]at d
  unfold bJ.can at b;rw[b];exact bK rfl (d w (h.same a))
def y4(h:M.can 0 x=true\/M.given x=true)(a:M.OK):aF .i64 x=x:=by
 have b:=a.size;have h2:=a.fit;have:M.given x=true:=by
  rcases h with h|h
  .unfold bJ.can at h;simp at h;exact h.2
  .exact h
 unfold bJ.given at this;simp only[decide_eq_true_eq]at this;exact kg ⟨af,af⟩
def pe(h:M.can wk x=true):M.given x=true:=by unfold bJ.can at h;simp at h;exact h.2
def EJ(h:M.can wk x=true):M.ld wk x=(M.tick wk,M.get x,0):=by unfold bJ.ld;rw[if_pos h]
variable{v:Int}
def S4(h:M.can wk x=true):M.st wk x v=((M.tick wk).put x v,0):=by unfold bJ.st;rw[if_pos h]
def aiF(h:M.can wk x=true):M.VQ wk x y v=if M.get x=y then((M.tick wk).put x v,true,0)else(M.tick wk,false,0):=by unfold bJ.VQ;rw[if_pos h]
def ldc{k:Int×Int->ap}(h:St w0 w L)[a:At L (bH g) M f](b:M.can wk a'=true)(c:∀w',St w0 w' (f (bH g (M.tick wk)))->k (M.get a',0) w'):aj (A_ g) wk a' w k:=by
 refine aa8 h λw h=>?_;rw[EJ b]at h ⊢;exact c w h
def stc{k:Int->ap}(h:St w0 w L)[a:At L (bH g) M f](b:M.can wk a'=true)(c:∀w',St w0 w' (f (bH g ((M.tick wk).put a' x)))->k 0 w'):aK (A_ g) wk a' x w k:=by
 refine Sg h λw h=>?_;rw[S4 b]at h ⊢;exact c w h
def bJ.cs(M:bJ)(wk a old x:Int):bJ×Bool:=if M.get a=old then((M.tick wk).put a x,true)else(M.tick wk,false)
theorem ank{k:Bool×Int->ap}(h:St w0 w L)[a:At L (bH g) M f](b:M.can wk a'=true)(c:∀w',St w0 w' (f (bH g (M.cs wk a' y x).1))->k ((M.cs wk a' y x).2,0) w'):aR (A_ g) wk a' y x w k:=by
 refine ak7 h λw h=>?_;rw[aiF b]at h ⊢;unfold bJ.cs at c;grind
def bJ.ad(M:bJ)(wk x by_:Int):bJ:=(M.tick wk).put x (wr (M.get x+by_))
def VR{k:Int×Int->ap}(h:St w0 w L)[a:At L (bH n) M f](d:M.can wk x=true)(e:∀w',St w0 w' (f (bH n (M.ad wk x y)))->k (M.get x,0) w'):aL (A_ n) wk x y w k:=by
 unfold aL rf;obtain⟨R,g,hb⟩:=a.out;have h:=g h;refine aM h λg1 w h=>aM h λg2 w h=>aM h λg3 w h=>n8<|Se h (.inl ⟨rfl,rfl⟩) ?_;have b:=d;unfold bJ.can at b;rw[b];refine aU rfl ?_;simp only[iY,bJ.caller,bJ.given,decide_eq_true_eq]at b;have c:=h.front 3 rfl;simp only[I7]at c;obtain⟨s1,s2,h⟩:=uM c;refine n8<|zB h b.1.1 b.1.2 (zC h b.1.1 b.1.2 λw h=>?_);refine pS λw h=>zB h b.2.1 b.2.2 ?_;unfold ue;refine pS λw h=>zB h b.2.1 b.2.2 ?_;refine n8<|zC h b.2.1 b.2.2 λw h=>?_;have h:=C0 (M:=M.ad wk x y) h;exact e w (hb (((h.rm 1 rfl).rm 1 rfl).rm 1 rfl))
structure Nd where
 parent:Int
 nest:Int
 at_:Int
 deriving DecidableEq
abbrev Nd.cells(x:Nd):List Value:=[I_ x.parent,I_ x.nest,I_ x.at_]
def scp(g:Nat)(C:List Nd):HP:=Gt λs:Sl=>l9 [au g [S_ s],rws 3 s (C.map Nd.cells)]
variable{C:List Nd}
def Y6(h:St w0 w (scp g C::R)):∃s:Sl,St w0 w (au g [S_ s]::rws 3 s (C.map Nd.cells)::R):=by
 obtain⟨s,h⟩:=h.some;exact⟨s,h.open⟩
def ae6(h:St w0 w (au g [S_ s]::rws 3 s (C.map Nd.cells)::R)):St w0 w (scp g C::R):=
 St.ex s (St.shut h)
def UR(C:List Nd)(s:Int):Bool:=decide (0<=s/\s<C.length)
variable{ga:Nat}{s:Int}
def ak8{k:Bool->ap}(h:St w0 w L)[a:At L (scp g) C f][a':At L (au ga) [I_ s] f'](d:k (UR C s) w):dk (A_ g) ⟨A_ ga,1,1⟩ w k:=by
 unfold dk;refine⟨2,?_⟩;unfold jV;have hb:=h.au (g:=ga);refine bK rfl ?_;refine⟨⟨af,by show(0:Int)<1;decide⟩,uZ (by rw[dg,hb.cell];rfl) (QI ?_)⟩
 obtain⟨R,e,j⟩:=a.out;obtain⟨sl,h2⟩:=Y6 (e h);have i:=(pg (sz:=3) (s:=sl) h2).2 af;simp only[List.length_map]at i;refine ax (λb=>?_) λb=>?_
 .have b:s<0:=by simpa using b
  rw[show UR C s=false by simp[UR];omega]at d
  exact bK rfl d
 .have b:¬s<0:=by simpa using b
  refine bc (aS h2 rfl ?_);refine ax (λc=>?_) λc=>?_
  .have c:s>=((sl.n:Nat):Int):=of_decide_eq_true c;rwa[show UR C s=false by simp[UR];omega]at d
  .have c:¬s>=((sl.n:Nat):Int):=of_decide_eq_false c;unfold jV;refine aU rfl ?_;rwa[show UR C s=true by simp[UR];omega]at d
variable{k:Int->ap}
def F6(h:St w0 w L)[a:At L (scp g) C f](hs:UR C s=true)(b:∀w',St w0 w' L->k 0 w'):bh (A_ g) (A_ n) s w k:=by
 unfold bh Ef;refine aU rfl (aM h λga w' h=>ak8 h ?_);rw[hs];exact aU rfl (b w' h.drop)
def nZ(C:List Nd)(s:Int):Option Nd:=if 0<=s then C[s.toNat]? else none
variable{x:Nd}
def rM(h:nZ C s=some x):UR C s=true/\0<=s/\C[s.toNat]?=some x:=by
 unfold nZ at h;split at h
 .have:=(kB.1 h).1;exact⟨by simp[UR];omega,af,h⟩
 .cases h
def aah{c:Addr->Int->Prop}(h:St w0 w L)[a:At L (scp g) C f](hs:nZ C s=some x)(hv:x.cells[n]?=some (I_ v))(d:∀p,c p v):
  cy w (aY ⟨g,0,none⟩ 0) λe=>cN e s 3 λb=>aJ .i64 w (aY b n) (c b):=by
 obtain⟨R,i,hb⟩:=a.out;obtain⟨sl,h2⟩:=Y6 (i h);obtain⟨_,k,l⟩:=rM hs;exact aS h2 rfl (rI2 h2 k (by rw[l8,l];rfl) hv d)
def aiG(h:St w0 w L)[a:At L (scp g) C f][a2:At L (bH n) M f'](hs:nZ C s=some x)(b:M.can wk (x.at_+1)=true)(c:M.OK)
  (d:∀w',St w0 w' (f' (bH n (M.ad wk (x.at_+1) 1)))->k 0 w'):eE (A_ g) (A_ n) wk s w k:=by
 unfold eE Bn;refine F6 h (rM hs).1 λw h=>?_;with_reducible repeat' (first|refine bc ?_|refine I8 ?_|refine aah (C:=C) h hs rfl λ_=>?_)
 rw[y4 (.inr (pe b)) c];exact VR h b λw h=>d w h
def as8{k:Bool×Int->ap}(h:St w0 w L)[a:At L (scp g) C f][a2:At L (bH n) M f'](hs:nZ C s=some x)(b:M.can wk (x.at_+1)=true)(c:M.OK)
  (d:∀w',St w0 w' (f' (bH n (M.ad wk (x.at_+1) (-1))))->k (M.get (x.at_+1)==1,0) w'):lz (A_ g) (A_ n) wk s w k:=by
 unfold lz BJ;refine F6 h (rM hs).1 λw h=>?_;with_reducible repeat' (first|refine bc ?_|refine I8 ?_|refine aah (C:=C) h hs rfl λ_=>?_)
 rw[y4 (.inr (pe b)) c];exact VR h b λw h=>d w h
def axG{k:Int×Int->ap}(h:St w0 w L)[a:At L (scp g) C f][a2:At L (bH n) M f'](hs:nZ C s=some x)(b:M.can wk (x.at_+1)=true)(c:M.OK)
  (d:∀w',St w0 w' (f' (bH n (M.tick wk)))->k (M.get (x.at_+1),0) w'):mE (A_ g) (A_ n) wk s w k:=by
 unfold mE CV;refine F6 h (rM hs).1 λw h=>?_;with_reducible repeat' (first|refine bc ?_|refine I8 ?_|refine aah (C:=C) h hs rfl λ_=>?_)
 rw[y4 (.inr (pe b)) c];refine aa8 h λw h=>?_;rw[EJ b]at h ⊢;exact d w h
variable{k:Bool×Int->ap}
def as9(h:St w0 w L)[a:At L (scp g) C f][a2:At L (bH n) M f'](hs:nZ C s=some x)(b:M.can wk x.at_=true)
  (c:∀w',St w0 w' (f' (bH n (M.cs wk x.at_ 0 1).1))->k ((M.cs wk x.at_ 0 1).2,0) w'):gI (A_ g) (A_ n) wk s w k:=by
 unfold gI ED;refine F6 h (rM hs).1 λw h=>?_;with_reducible repeat' (first|refine bc ?_|refine I8 ?_|refine aah (C:=C) h hs rfl λ_=>?_)
 exact ank h b λw h=>c w h
def aiH(h:St w0 w L)[a:At L (scp g) C f][a2:At L (bH n) M f'](hs:nZ C s=some x)(b:M.can wk x.at_=true)
  (c:∀w',St w0 w' (f' (bH n (M.tick wk)))->k (M.get x.at_ !=0,0) w'):eG (A_ g) (A_ n) wk s w k:=by
 unfold eG Bv;refine F6 h (rM hs).1 λw h=>?_;with_reducible repeat' (first|refine bc ?_|refine I8 ?_|refine aah (C:=C) h hs rfl λ_=>?_)
 refine aa8 h λw h=>?_;rw[EJ b]at h ⊢;exact c w h
def aoX{k:Int->ap}(h:St w0 w L)[a:At L (scp g) C f](hs:nZ C s=some x)(b:∀w',St w0 w' L->k x.parent w'):kG (A_ g) s w k:=by
 unfold kG z7;refine aM h λga w h=>ak8 h ?_;rw[(rM hs).1];with_reducible repeat' (first|refine bc ?_|refine I8 ?_|refine aah (C:=C) h hs rfl λ_=>?_)
 exact b w h.drop
variable{y0:Array Value}
def Jw{b:Array Value}{c:Array Value->Prop}(f:y0.size=n)(hb:b.size=n)(g:c b):kT y0 0 n b c:=by
 refine⟨hb,?_⟩;have e:b.zipIdx.foldl (λcs (x:Value×Nat)=>cs.setIfInBounds (0+x.2) x.1) y0=b:=by
  apply Array.ext';have key:∀(l:List Value) (k:Nat) (acc:Array Value),acc.size=k+l.length->((l.zipIdx k).foldl (fun(cs:Array Value) (x:Value×Nat)=>cs.setIfInBounds (0+x.2) x.1) acc).toList=acc.toList.take k++l:=by
   intro l;induction l with
   |nil=>intro k acc d;simp at d;simp[List.take_of_length_le,d]
   |cons v l ih=>
    intro k acc d;simp only[List.length_cons]at d;rw[List.zipIdx_cons,List.foldl_cons,ih (k+1) _ (by simp;omega)]
    simp only[Nat.zero_add,Array.toList_setIfInBounds];rw[List.take_add_one,uO (gq (by omega:k<acc.size)),List.take_set_of_le af]
    simp
  have:=key b.toList 0 y0 (by simp[f,hb])
  rw[<-Array.foldl_toList,Array.toList_zipIdx];simpa using this
 rw[e];exact g
def elN:ET Tryz.prog 233 3 24 (.agg #[I_ 0,I_ 0,I_ 0]):=⟨aZ,aZ⟩
variable{y1:HP->List HP}
def agZ{k:Int×Int->ap}(h:St w0 w L)[a:At L (scp g) C f][a2:At L (bH gc) M y1][a3:At (y1 (bH gc ((M.tick wk).grow 2))) (scp g) C f'](hs:nZ C s=some x)(d:M.caller wk=true)(i:M.OK)(j:C.length<=1000000)
  (l:wr (x.nest+1)>32->∀w',St w0 w' L->k (0,23) w') (h2:¬wr (x.nest+1)>32->M.room 2=false->∀w',St w0 w' L->k (0,21) w')
  (m:¬wr (x.nest+1)>32->M.room 2=true->∀w',St w0 w' (f' (scp g (C++[⟨s,wr (x.nest+1),(M.cells.length:Nat)⟩])))->k ((C.length:Nat),0) w'):cY (A_ g) (A_ gc) wk s w k:=by
 unfold cY CJ;refine F6 h (rM hs).1 λw h=>?_;with_reducible repeat' (first|refine bc ?_|refine I8 ?_|refine aah (C:=C) h hs rfl λ_=>?_)
 refine ax (λhb=>?_) λhb=>?_
 .exact l (of_decide_eq_true hb) w h
 .have hb:=of_decide_eq_false hb;refine GU h i (λ_ _ c w h=>?_) (λ_ _ c=>?_) λb=>(b ⟨d,af⟩).elim
  .refine n8 ?_;obtain⟨R,n,o⟩:=a3.out;obtain⟨sl,h⟩:=Y6 (n h);refine n8 ?_;refine Jw rfl rfl<|zE λgx w h=>?_;refine Z8 h elN aZ rfl af (by simp[Nd.cells,Value.oneCell']) (gq j) af λs' w h b=>?_
   refine pS λw h=>?_;rw[List.length_map]at b;rw[b];have e:aF .i64 (((C.length+1:Nat):Int) - 1)=(C.length:Nat):=by rw[kg ⟨af,af⟩];omega
   rw[e];refine m hb c w (o (ae6 (s:=s') ?_));have:=h.rm 0 rfl;simp only[List.map_append,List.map_cons,List.map_nil];exact this
  .refine n8<|h2 hb c w h
structure Lk where
 at_:Int
 done:Bool
 xm:Bool
def Lk.cells(g:Nat)(x:Lk):List Value:=[.pointer (A_ g),I_ x.at_,.bool x.done,.bool x.xm]
def axH{k:Option Addr×Int->ap}(h:St w0 w L)[a:At L (scp g) C f](hs:nZ C s=some x)(b:∀gl w',St w0 w' (au gl (Lk.cells g ⟨s,false,false⟩)::L)->k (A_ gl,0) w'):mB (A_ g) s w k:=by
 unfold mB CT;refine aU rfl (aM h λga w h=>ak8 h ?_);rw[(rM hs).1];refine zE λgx w h=>b _ w (h.rm 1 rfl)
def Lk.go(M:bJ)(l:Lk)(x:Nd):Lk:=⟨x.parent,M.get x.at_ !=0||l.at_==0,M.get x.at_ !=0⟩
def aiI{l:Lk}{k:Bool×Bool×Int->ap}(h:St w0 w (au gc (Lk.cells g l)::scp g C::bH n M::R))
  (b:l.done=false) (hs:nZ C l.at_=some x) (c:M.can wk x.at_=true)
  (d:∀w',St w0 w' (au gc (Lk.cells g (l.go M x))::scp g C::bH n (M.tick wk)::R)->k ((l.go M x).done,(l.go M x).xm,0) w'):k7 (A_ gc) (A_ n) wk w k:=by
 unfold k7 CS;obtain⟨la,ld,e⟩:=l;cases b
 refine pS λw h=>aiH h hs c λw h=>?_;refine pS λw h=>bP (λ_ w=>St w0 w (au gc (Lk.cells g ⟨la,M.get x.at_ !=0||la==0,M.get x.at_ !=0⟩)::scp g C::bH n (M.tick wk)::R)) (λJ a=>?_) ?_
 .refine ax (λhb=>?_) λhb=>?_
  .have hb:(M.get x.at_ !=0)=true:=hb;refine pS λw h=>?_;exact a _ _ (by simp only[hb]at h ⊢;exact h)
  .have hb:(M.get x.at_ !=0)=false:=hb;refine pS λw h=>?_;exact a _ _ (by simp only[hb]at h ⊢;exact h)
 .intro _ w h;refine pS λw h=>aoX h hs λw h=>?_;refine pS λw h=>d _ h
variable{k:Array Value×Int->ap}
def atb(h:St w0 w L)[a2:At L (bH g) M f'](b:M.caller wk=true)(c:M.OK)
  (d:M.room 1=true->∀w',St w0 w' (f' (bH g ((M.tick wk).grow 1)))->k (#[I_ (M.cells.length:Nat)],0) w') (e:M.room 1=false->∀w',St w0 w' L->k (#[I_ 0],21) w'):
  uy (A_ g) wk w k:=by
 unfold uy Np;refine zE λgx w h=>?_;refine GU h c (λ_ _ a w h=>?_) (λ_ _ a=>?_) λf=>(f ⟨b,af⟩).elim
 .refine pS λw h=>d a w h.drop
 .refine pS λw h=>e a w h.drop
def atc(h:St w0 w L)[a2:At L (bH g) M f'](b:M.caller wk=true)(c:M.OK)
  (d:M.room 1=true->∀w',St w0 w' (f' (bH g ((M.tick wk).grow 1)))->k (#[I_ (M.cells.length:Nat)],0) w') (e:M.room 1=false->∀w',St w0 w' L->k (#[I_ 0],21) w'):
  xN (A_ g) wk w k:=by
 unfold xN Q2;refine zE λgx w h=>?_;refine GU h c (λ_ _ a w h=>?_) (λ_ _ a=>?_) λf=>(f ⟨b,af⟩).elim
 .refine pS λw h=>d a w h.drop
 .refine pS λw h=>e a w h.drop
def axI(h:St w0 w L)[a2:At L (bH g) M f'](b:M.caller wk=true)(c:M.OK)
  (d:M.room 3=true->∀w',St w0 w' (f' (bH g ((M.tick wk).grow 3)))->k (#[I_ (M.cells.length:Nat)],0) w') (e:M.room 3=false->∀w',St w0 w' L->k (#[I_ 0],21) w'):
  sH (A_ g) wk w k:=by
 unfold sH K8;refine zE λgx w h=>?_;refine GU h c (λ_ _ a w h=>?_) (λ_ _ a=>?_) λf=>(f ⟨b,af⟩).elim
 .refine pS λw h=>d a w h.drop
 .refine pS λw h=>e a w h.drop
def atd{k:Int×Int->ap}(h:St w0 w L)[a2:At L (bH g) M f](a:M.can wk at_=true)(b:∀w',St w0 w' (f (bH g (M.tick wk)))->k (M.get at_,0) w'):lq #[I_ at_] (A_ g) wk w k:=by
 unfold lq BA;with_reducible repeat' (first|refine Iy h ?_|refine aM h λgx w h=>?_|refine ldc (M:=M) h a λw h=>?_|fail)
 exact b w h.drop
def anl{k:Int->ap}(h:St w0 w L)[a2:At L (bH g) M f](a:M.can wk at_=true)(b:∀w',St w0 w' (f (bH g (M.ad wk at_ 1)))->k 0 w'):eH #[I_ at_] (A_ g) wk w k:=by
 unfold eH Bw;with_reducible repeat' (first|refine Iy h ?_|refine aM h λgx w h=>?_|refine VR (M:=M) h a λw h=>?_|fail)
 exact b w h.drop
def ate{k:Int×Int->ap}(h:St w0 w L)[a2:At L (bH g) M f](a:M.can wk at_=true)(b:∀w',St w0 w' (f (bH g (M.tick wk)))->k (M.get at_,0) w'):oT #[I_ at_] (A_ g) wk w k:=by
 unfold oT FO;with_reducible repeat' (first|refine Iy h ?_|refine aM h λgx w h=>?_|refine ldc (M:=M) h a λw h=>?_|fail)
 exact b w h.drop
def ak9{k:Bool->ap}(h:St w0 w L)[a2:At L (bH g) M f](b:M.given at_=true)(c:∀w',St w0 w' L->k (M.get at_==s) w'):jX #[I_ at_] (A_ g) s w k:=by
 unfold jX yj;have a:=b;unfold bJ.given at a;simp only[decide_eq_true_eq]at a;refine zE λgx w h=>?_;refine bK (gq a.1) ?_
 refine n8<|axB h ?_;refine n8 ?_;refine bK (gq a.2) ?_
 refine n8<|KG h ?_;rw[if_pos b];exact c w h.drop
structure Wt where
 how:Int
 seen:Int
def Wt.cells(at_:Int)(x:Wt):List Value:=[I_ at_,I_ x.how,I_ x.seen]
def axJ{k:Option Addr->ap}(h:St w0 w L)(a:∀ga w',St w0 w' (au ga (Wt.cells at_ ⟨0,0⟩)::L)->k (A_ ga) w'):lp #[I_ at_] w k:=by
 unfold lp;refine zE λgx w h=>?_;refine⟨rfl,?_⟩;refine zE λgx w h=>a _ w (h.rm 1 rfl)
variable{k:Int->ap}{x:Wt}
def acF(h:St w0 w (au g (x.cells at_)::bH n M::R))(a:M.can wk at_=true)(b:∀w',St w0 w' (au g (Wt.cells at_ ⟨1,M.get at_⟩)::bH n (M.tick wk)::R)->k 0 w'):cM (A_ g) (A_ n) wk w k:=by
 unfold cM BB;refine n8 ?_;refine atd h a λw h=>pS λw h=>b w h
def anm(h:St w0 w L)[a:At L (au g) (x.cells at_) f](b:∀w',St w0 w' (f (au g (Wt.cells at_ ⟨if x.how=1 then 2 else x.how,x.seen⟩)))->k (if x.how=1 then 0 else 19) w'):fh (A_ g) w k:=by
 unfold fh;refine n8<|ax (λhb=>?_) λhb=>?_
 .have hb:x.how≠1:=by simpa using hb
  rw[if_neg hb,if_neg hb]at b;exact b w (h.same a)
 .have hb:x.how=1:=by simpa using hb
  rw[if_pos hb,if_pos hb]at b;refine pS λw h=>b w h
def ae7{k:Unit->ap}(h:St w0 w L)[a:At L (au g) (x.cells at_) f](b:∀w',St w0 w' (f (au g (Wt.cells at_ ⟨0,x.seen⟩)))->k () w'):eu (A_ g) w k:=by
 unfold eu;refine pS λw h=>b w h
def Wt.parked(x:Wt)(M:bJ)(at_:Int):Bool:=x.how==2&&M.get at_==x.seen
theorem acG{k:Bool->ap}(h:St w0 w L)[a:At L (au g) (x.cells at_) f][a2:At L (bH n) M f'](c:M.given at_=true)(b:∀w',St w0 w' L->k (x.parked M at_) w'):cQ (A_ g) (A_ n) w k:=by
 unfold cQ zY;refine pS λw h=>?_;unfold Wt.parked at b;refine ax (λhb=>?_) λhb=>?_
 .rw[hb,Bool.true_and]at b;refine n8<|ak9 h c b
 .grind
def bit(wk:Int)(times:Int):Int:=sD .i64 times wk
def aiJ(h:St w0 w L)[a2:At L (bH g) M f](c:0<=wk/\wk<=16)(a:M.can wk at_=true)(b:∀w',St w0 w' (f (bH g (M.ad wk at_ (bit wk y))))->k 0 w'):iC #[I_ at_] (A_ g) wk y w k:=by
 unfold iC FP;refine zE λgx w h=>?_;refine aU (by simp;omega) ?_
 refine pS λw h=>?_;refine Gf af ?_;with_reducible repeat' (first|refine VR (M:=M) h a λw h=>?_|fail)
 exact b w h.drop
def aoZ(h:St w0 w L)[a2:At L (bH g) M f](a:0<=wk/\wk<=16)(b:M.can wk at_=true)(hk:∀w',St w0 w' (f (bH g (M.ad wk at_ (bit wk 1))))->k 0 w'):nK #[I_ at_] (A_ g) wk w k:=by
 unfold nK Ey;refine zE λgx w h=>aiJ h a b λw h=>n8<|hk w h.drop
def ao0(h:St w0 w L)[a2:At L (bH g) M f](a:0<=wk/\wk<=16)(b:M.can wk at_=true)(hk:∀w',St w0 w' (f (bH g (M.ad wk at_ (bit wk (-1)))))->k 0 w'):nL #[I_ at_] (A_ g) wk w k:=by
 unfold nL Ez;refine zE λgx w h=>aiJ h a b λw h=>n8<|hk w h.drop
variable{k:Int×Int->ap}
def ao1(h:St w0 w L)[a2:At L (bH g) M f](b:M.OK)(a:M.can wk (at_+0)=true)(c:∀w',St w0 w' (f (bH g (M.tick wk)))->k (M.get (at_+0),0) w'):jy #[I_ at_] (A_ g) wk w k:=by
 unfold jy wY;refine zE λgx w h=>?_;rw[y4 (.inr (pe a)) b];with_reducible repeat' (first|refine ldc (M:=M) h a λw h=>?_|fail)
 exact c w h.drop
def ao2(h:St w0 w L)[a2:At L (bH g) M f](b:M.OK)(a:M.can wk (at_+1)=true)(c:∀w',St w0 w' (f (bH g (M.tick wk)))->k (M.get (at_+1),0) w'):jz #[I_ at_] (A_ g) wk w k:=by
 unfold jz wZ;refine zE λgx w h=>?_;rw[y4 (.inr (pe a)) b];with_reducible repeat' (first|refine ldc (M:=M) h a λw h=>?_|fail)
 exact c w h.drop
def aiK(h:St w0 w L)[a2:At L (bH g) M f](b:M.OK)(a:M.can wk (at_+2)=true)(c:∀w',St w0 w' (f (bH g (M.tick wk)))->k (M.get (at_+2),0) w'):iz #[I_ at_] (A_ g) wk w k:=by
 unfold iz uH;refine zE λgx w h=>?_;rw[y4 (.inr (pe a)) b];with_reducible repeat' (first|refine ldc (M:=M) h a λw h=>?_|fail)
 exact c w h.drop
def ao3{k:Bool×Int->ap}(h:St w0 w L)[a2:At L (bH g) M f](b:M.OK)(a:M.can wk (at_+0)=true)(c:∀w',St w0 w' (f (bH g (M.cs wk (at_+0) 0 1).1))->k ((M.cs wk (at_+0) 0 1).2,0) w'):jw #[I_ at_] (A_ g) wk w k:=by
 unfold jw wM;refine zE λgx w h=>?_;rw[y4 (.inr (pe a)) b];with_reducible repeat' (first|refine ank (M:=M) h a λw h=>?_|fail)
 exact c w h.drop
def axK{k:Int->ap}(h:St w0 w L)[a2:At L (bH g) M f](b:M.OK)(a:M.can wk (at_+1)=true)(c:∀w',St w0 w' (f (bH g ((M.tick wk).put (at_+1) v)))->k 0 w'):kH #[I_ at_] (A_ g) wk v w k:=by
 unfold kH Az;refine zE λgx w h=>?_;rw[y4 (.inr (pe a)) b];with_reducible repeat' (first|refine stc (M:=M) h a λw h=>?_|fail)
 exact c w h.drop
def axL{k:Bool×Int->ap}(h:St w0 w L)[a2:At L (bH g) M f](b:M.OK)(d:2<=s/\s<=4)(a:M.can wk (at_+0)=true)(c:∀w',St w0 w' (f (bH g (M.cs wk (at_+0) 1 s).1))->k ((M.cs wk (at_+0) 1 s).2,0) w'):kI #[I_ at_] (A_ g) wk s w k:=by
 unfold kI AA;refine zE λgx w h=>?_;refine aU (by simp;omega) ?_
 refine n8 ?_;rw[y4 (.inr (pe a)) b];with_reducible repeat' (first|refine ank (M:=M) h a λw h=>?_|fail)
 exact c w h.drop
variable{k:Int->ap}
def aiL(h:St w0 w L)[a2:At L (bH g) M f](b:M.OK)(d:0<=wk/\wk<=16)(a:M.can wk (at_+2)=true)(c:∀w',St w0 w' (f (bH g (M.ad wk (at_+2) (bit wk y))))->k 0 w'):dN #[I_ at_] (A_ g) wk y w k:=by
 unfold dN yR;refine zE λgx w h=>?_;refine aU (by simp;omega) ?_
 refine pS λw h=>?_;refine Gf af ?_;rw[y4 (.inr (pe a)) b];with_reducible repeat' (first|refine VR (M:=M) h a λw h=>?_|fail)
 exact c w h.drop
def atf(h:St w0 w L)[a2:At L (bH g) M f](a:M.OK)(b:0<=wk/\wk<=16)(c:M.can wk (at_+2)=true)(hk:∀w',St w0 w' (f (bH g (M.ad wk (at_+2) (bit wk 1))))->k 0 w'):jZ #[I_ at_] (A_ g) wk w k:=by
 unfold jZ yS;refine zE λgx w h=>aiL h a b c λw h=>n8<|hk w h.drop
def ao4(h:St w0 w L)[a2:At L (bH g) M f](a:M.OK)(b:0<=wk/\wk<=16)(c:M.can wk (at_+2)=true)(hk:∀w',St w0 w' (f (bH g (M.ad wk (at_+2) (bit wk (-1)))))->k 0 w'):iE #[I_ at_] (A_ g) wk w k:=by
 unfold iE xg;refine zE λgx w h=>aiL h a b c λw h=>n8<|hk w h.drop
def aiM{k:Int×Int×Int->ap}(h:St w0 w L)[a2:At L (bH g) M f](b:M.OK)(c:M.given (at_+0)=true)(d:M.given (at_+1)=true)(h2:M.given (at_+2)=true)
  (a:∀w',St w0 w' L->k (M.get (at_+0),if M.get (at_+0)<2 then 0 else M.get (at_+1),M.get (at_+2)) w'):dz #[I_ at_] (A_ g) w k:=by
 unfold dz yh;with_reducible repeat' (first|refine aM h λgx w h=>?_|refine I8 ?_)
 refine QI ?_;refine⟨4,?_⟩;unfold jV;refine n8 ?_;rw[y4 (.inr c) b];refine KG h ?_;rw[if_pos c];refine uu af e7<|pS λw h=>?_;unfold jV;refine n8 ?_;rw[show(aF .i64 ((0:Int)+1))=1 by decide,y4 (.inr d) b]
 refine KG h ?_;rw[if_pos d];refine uu af e7<|pS λw h=>?_;unfold jV;refine n8 ?_;rw[show(aF .i64 ((1:Int)+1))=2 by decide,y4 (.inr h2) b]
 refine KG h ?_;rw[if_pos h2];refine uu af e7<|pS λw h=>?_;unfold jV;refine n8<|ax (λhb=>?_) λhb=>?_
 .have hb:M.get (at_+0)<2:=of_decide_eq_true hb;rw[if_pos hb]at a;refine pS λw h=>a w h.drop.drop
 .have hb:¬M.get (at_+0)<2:=of_decide_eq_false hb;rw[if_neg hb]at a;refine pS λw h=>a w h.drop.drop
structure Kt where
 parent:Int
 nth:Int
 kids:List Int
 deriving DecidableEq
def oc(p:Kt×Sl):List Value:=[I_ p.1.parent,I_ p.1.nth,S_ p.2]
def zf(p:Kt×Sl):HP:=bG 1 p.2 (ints p.1.kids)
def Da(g:Nat)(T:List Kt):HP:=Gt λq:Sl×List (Kt×Sl)=>Kf (q.2.map (·.1)=T) (l9 [au g [S_ q.1],rws 3 q.1 (q.2.map oc),jO zf q.2])
variable{T:List Kt}
def S5(h:St w0 w (Da g T::R)):∃(s:Sl) (l:List (Kt×Sl)),l.map (·.1)=T/\St w0 w (au g [S_ s]::rws 3 s (l.map oc)::jO zf l::R):=by
 obtain⟨q,h⟩:=h.some;obtain⟨b,h⟩:=h.pure;exact⟨q.1,q.2,b,h.open⟩
variable{l:List (Kt×Sl)}
def Y7{s:Sl}(b:l.map (·.1)=T)(h:St w0 w (au g [S_ s]::rws 3 s (l.map oc)::jO zf l::R)):St w0 w (Da g T::R):=
 St.ex (s,l) (St.YA b (St.shut h))
def Bb(T:List Kt)(s:Int):Bool:=decide (0<=s/\s<T.length)
variable{k:Bool->ap}
variable{y2:Addr}{y3:Int->ap}
def VS(h:St w0 w L)[a:At L (Da g) T f](q:w.cell? y2=some (I_ s))(e:Bb T s=false->k false w)(h2:Bb T s=true->y3 (aF .i64 (wk+1)) w):
  aJ .i64 w y2 λj=>cz (S:=Bool) (λm=>an ((eA (some (⟨g,0,none⟩:Addr)))||(decide (j<(0:Int)))) (m true w) (nn (A_ g) λr=>cy w (aY r 0) λt=>(m (decide (j>=((t.n:Nat):Int))) w))) λu b=>an u (k false b) (y3 (aF .i64 (wk+(1:Int))) b):=by
 refine uZ q (QI ?_);obtain⟨R,v,z⟩:=a.out;obtain⟨sl,l,x,o⟩:=S5 (v h);have c:=(pg (sz:=3) (s:=sl) o).2 af;have y:T.length=l.length:=by rw[<-x];simp
 simp only[List.length_map]at c;refine ax (λhb=>?_) λhb=>?_
 .have hb:s<0:=by simpa using hb
  exact bK rfl (e (by simp[Bb];omega))
 .have hb:¬s<0:=by simpa using hb
  refine bc (aS o rfl ?_);refine ax (λd=>?_) λd=>?_
  .have d:s>=((sl.n:Nat):Int):=of_decide_eq_true d;exact e (by simp[Bb];omega)
  .have d:¬s>=((sl.n:Nat):Int):=of_decide_eq_false d;exact h2 (by simp[Bb];omega)
def ann(h:St w0 w L)[a:At L (Da g) T f][a':At L (au ga) [I_ s] f'](b:k (Bb T s) w):dG (A_ g) ⟨A_ ga,1,1⟩ w k:=by
 unfold dG;refine⟨2,?_⟩;unfold jV;have hb:=h.au (g:=ga);refine bK rfl ⟨⟨af,by show(0:Int)<1;decide⟩,VS h (by rw[dg,hb.cell];rfl) (λe=>?_) λe=>?_⟩
 .rw[e]at b;exact b
 .rw[e]at b;unfold jV;exact aU rfl b
def atg(h:St w0 w L)[a:At L (Da g) T f][a':At L (au ga) [I_ s,I_ y] f'](b:k (Bb T s&&Bb T y) w):dG (A_ g) ⟨A_ ga,2,2⟩ w k:=by
 unfold dG;refine⟨3,?_⟩;unfold jV;have hb:=h.au (g:=ga);refine bK rfl ⟨⟨af,by show(0:Int)<2;decide⟩,VS h (by rw[dg,hb.cell];rfl) (λe=>?_) λe=>?_⟩
 .rw[e]at b;exact b
 .rw[e,Bool.true_and]at b;unfold jV;refine bK rfl ⟨⟨e7,by show(1:Int)<2;decide⟩,VS h (by rw[dg,hb.cell];rfl) (λe=>?_) λe=>?_⟩
  .rw[e]at b;exact b
  .rw[e]at b;unfold jV;exact aU rfl b
def GV(T:List Kt)(x:Int):Option Kt:=if 0<=x then T[x.toNat]? else none
variable{x:Kt}
def xP(h:GV T s=some x):Bb T s=true/\0<=s/\T[s.toNat]?=some x:=by
 unfold GV at h;split at h
 .have:=(kB.1 h).1;exact⟨by simp[Bb];omega,af,h⟩
 .cases h
def acH(h:Bb T s=true):∃x,GV T s=some x:=by
 unfold Bb at h;simp only[decide_eq_true_eq]at h;exact⟨T[s.toNat]' af,by unfold GV;rw[if_pos h.1,iH]⟩
theorem map_fst(a:l.map (·.1)=T)(h:T[g]?=some x):∃s,l[g]?=some (x,s):=by grind
def ath{c:Int->Prop}(h:St w0 w L)[a:At L (Da g) T f](hs:GV T s=some x)(b:c x.parent):
  cy w (aY ⟨g,0,none⟩ 0) λd=>cN d s 3 λe=>aJ .i64 w (aY e 0) c:=by
 obtain⟨R,i,hb⟩:=a.out;obtain⟨sl,l,j,h2⟩:=S5 (i h);obtain⟨_,k,m⟩:=xP hs;obtain⟨n,hi⟩:=map_fst j m;exact aS h2 rfl (rI h2 k (by rw[l8,hi];rfl) rfl b)
def acI(T:List Kt):Prop:=∀(i:Nat) (x:Kt),T[i]?=some x-> -1<=x.parent/\x.parent<i/\(x.parent= -1->i=0)
def kup(T:List Kt)(y:Int):Nat->Int->Int
 |0,x=>x
 |n+1,x=>if x>y then(match GV T x with|some t=>kup T y n t.parent|none=>x)else x
def Sh(T:List Kt)(x y:Int):Bool:=Bb T x&&Bb T y&&(kup T y T.length x==y)
def acJ(o:acI T){y:Int}(p:0<=y){k:Bool->ap}:∀(n:Nat) (x:Int) (w:World),x<n->x<T.length->St w0 w L->[a:At L (Da g) T f]->k (kup T y n x==y) w->
  ∃m,jV (S:=Int) (λq e c=>an (decide (e>y)) (nn (some (⟨g,0,none⟩:Addr)) λr=>cy c (aY r 0) λu=>cN u e 3 λi=>aJ .i64 c (aY i 0) λj=>(q j c)) (k (e==y) c)) m x w
 |0,x,w,h0,_,h,_,b=>by
  refine⟨1,?_⟩;unfold jV;have b:k (x==y) w:=b;exact aU (by simp;omega) b
 |n+1,x,w,h0,hl,h,a,b=>by
  unfold kup at b;by_cases d:x>y
  .rw[if_pos d]at b;obtain⟨t,l⟩:=acH (T:=T) (s:=x) (by simp[Bb];omega)
   rw[l]at b;obtain⟨_,v,z⟩:=xP l;have:=o _ t z;obtain⟨m,A⟩:=acJ o p n t.parent w af af h b;refine⟨m+1,?_⟩;unfold jV;exact bK (gq d) (bc (ath h l A))
  .rw[if_neg d]at b;refine⟨1,?_⟩;unfold jV;exact aU (gq d) b
variable{x:Int}
def aai(h:St w0 w L)[a:At L (Da g) T f](c:acI T)(b:∀w',St w0 w' L->k (Sh T x y) w'):jQ (A_ g) x y w k:=by
 unfold jQ zZ;refine aM h λga w h=>atg h ?_;have b:=b w h.drop;unfold Sh at b;cases hb:Bb T x&&Bb T y with
 |false=>rw[hb]at b;exact bK rfl b
 |true=>
  rw[hb,Bool.true_and]at b;simp only[iY,Bb,decide_eq_true_eq]at hb;exact aU rfl (acJ c hb.2.1 T.length x w hb.1.2 hb.1.2 h b)
def ao5{k:Option Addr->ap}(h:St w0 w L)(a:∀g w',St w0 w' (Da g []::L)->k (A_ g) w'):vj w k:=by
 unfold vj;refine aM h λg w h=>a g w<|Y7 (s:=⟨none,0,0⟩) (l:=[]) rfl ?_;have h2:=h.DJ 3;have b:St w0 w (rws 3 ⟨none,0,0⟩ (([]:List (Kt×Sl)).map oc)::au g [.slice none 0 0]::L):=St.YA (by intro e c;cases c) h2
 exact(QW b).perm Hp
def elK:ET Tryz.prog 188 3 40 (.agg #[I_ 0,I_ 0,.slice none 0 0]):=⟨aZ,aZ⟩
def ati:ET Tryz.prog 69 1 8 (I_ 0):=⟨aZ,aZ⟩
def Hz(T:List Kt)(p:Int):List Kt:=match GV T p with
 |some t=>T.set p.toNat {t with kids:=t.kids++[(T.length:Int)]}++[⟨p,t.kids.length,[]⟩]
 |none=>T++[⟨p,0,[]⟩]
theorem axN{p:Int}{k:Int×Int->ap}(h:St w0 w L)[a:At L (Da g) T f](y:(p= -1/\T=[])\/∃t,GV T p=some t/\t.kids.length<=1000000)(V:T.length<=1000000)
  (D:∀w',St w0 w' (f (Da g (Hz T p)))->k ((T.length:Nat),0) w'):pP (A_ g) p w k:=by
 unfold pP Hy;refine aU rfl ?_;obtain⟨R,F,hb⟩:=a.out;replace h:=F h;refine bP (λb w=>b=false/\St w0 w (Da g T::R)) (λJ e=>?_) ?_
 .rcases y with⟨rfl,rfl⟩|⟨t,j,_⟩
  .exact aU rfl (e _ _ ⟨rfl,h⟩)
  .have B:=xP j;refine bK (by simp;omega) (aM h λga w h=>ann (T:=T) h (e _ _ ⟨by rw[B.1];rfl,h.drop⟩))
 clear h;rintro _ w ⟨rfl,u⟩;obtain⟨s,l,v,h⟩:=S5 u;clear u;have m:=(pg (sz:=3) (s:=s) h).2 af;have G:T.length=l.length:=by rw[<-v];simp
 simp only[List.length_map]at m;refine aU rfl (bP (λb w'=>b=false/\w'=w) (λJ e=>?_) ?_)
 .rcases y with⟨rfl,rfl⟩|⟨t,j,_⟩
  .refine bK rfl (bc (aS h rfl (e _ _ ⟨?_,rfl⟩)));grind
  .have B:=xP j;exact aU (by simp;omega) (e _ _ ⟨rfl,rfl⟩)
 rintro _ _ ⟨rfl,rfl⟩;refine aU rfl<|zE λgx w h=>?_;obtain⟨i,H⟩:∃n,n=gx:=⟨_,rfl⟩;subst H;refine bP (fun(_:Unit) w=> ∃(l':List (Kt×Sl)) (x:Kt),l'.map (·.1)++[x]=Hz T p/\l'.length=l.length/\x.kids=[]/\St w0 w (au i (oc (x,⟨none,0,0⟩))::au g [S_ s]::rws 3 s (l'.map oc)::jO zf l'::R)) (λJ e=>?_) ?_
 .rcases y with⟨rfl,rfl⟩|⟨t,j,z⟩
  .refine aU rfl (e _ _ ⟨l,⟨-1,0,[]⟩,?_,rfl,rfl,h⟩);rw[v];rfl
  .obtain⟨_,u,I⟩:=xP j;obtain⟨q,hi⟩:=map_fst v I;refine bK (by simp;omega) ?_
   have d:(l.map oc)[p.toNat]?=some (oc (t,q)):=by rw[l8,hi];rfl
   have r:=h.front 3 rfl;simp only[I7]at r;have h:St w0 w (bG 1 q (ints t.kids)::jO zf (l.eraseIdx p.toNat)::au i _::au g _::rws 3 s (l.map oc)::R):=BW r hi;have K:=qY (s:=q) h;refine n8 ?_;refine rix (s:=s) h u d af λW o C hs=>IY (by rw[dg];exact C h d 2 _ rfl) ?_
   refine pS λw h=>?_;refine IY (by rw[dg];exact C h d 2 _ rfl) ?_
   refine zE λgx w h=>?_;refine I9 h ati aZ rfl (gq z) af λs' w h N=>?_
   rw[dg];refine hs h inferInstance d 2 _ _ af rfl λw h=>?_;have h:=h.rm 0 rfl;refine e _ _ ⟨l.set p.toNat ({t with kids:=t.kids++[(T.length:Int)]},s'),⟨p,t.kids.length,[]⟩,?_,bf,rfl,?_⟩
   .unfold Hz;rw[j];simp[List.map_set,v]
   .have O:(l.map oc).set p.toNat ((oc (t,q)).set 2 (S_ s'))=(l.set p.toNat ({t with kids:=t.kids++[(T.length:Int)]},s')).map oc:=by
     rw[List.map_set];rfl
    have P:((s.n:Nat):Int)=T.length:=af;have h:St w0 w (zf ({t with kids:=t.kids++[(T.length:Int)]},s')::jO zf (l.eraseIdx p.toNat)::au i (oc (⟨p,t.kids.length,[]⟩,⟨none,0,0⟩))::au g [S_ s]::rws 3 s ((l.set p.toNat ({t with kids:=t.kids++[(T.length:Int)]},s')).map oc)::R):=by
     rw[<-O];have e2:ints (t.kids++[(T.length:Int)])=ints t.kids++[I_ ((s.n:Nat):Int)]:=by rw[P];simp[ints]
     unfold zf;simp only[e2];have Q:((q.n:Nat):Int)=(t.kids.length:Nat):=by simp[ints]at K;omega
     unfold oc;simp only[<-Q];exact h
    exact(WY h (kB.1 hi).1).perm Hp
 rintro _ w ⟨l',x,hl',S,A,h⟩;refine pS λw h=>?_;refine Jw rfl rfl<|zE λgx w h=>?_;refine Z8 (s:=s) h elK aZ rfl af (by simp[oc,Value.oneCell']) (by simp;omega) af λs' w h N=>?_
 refine pS λw h=>?_;have h:=(h.rm 0 rfl).rm 0 rfl;rw[show((s.n:Nat):Int)=T.length by omega]
 refine D w (hb (Y7 (s:=s') (l:=l'++[(x,⟨none,0,0⟩)]) (gq hl') ?_))
 have h2:St w0 w (zf (x,⟨none,0,0⟩)::au g [S_ s']::rws 3 s' (l'.map oc++[oc (x,⟨none,0,0⟩)])::jO zf l'::R):=by
  have:=h.DJ 1;unfold zf;rw[A];exact this
 have U:=QV (h2.perm (M:=zf (x,⟨none,0,0⟩)::jO zf l'::au g [S_ s']::rws 3 s' (l'.map oc++[oc (x,⟨none,0,0⟩)])::R) Hp);rw[List.map_append];exact U.perm Hp
variable{Y:Nat->bt}{c:Value->ap}
variable{yi:List Value}
def My{d:(Nat->bt)->bt}(h:d Y yi w c):Df [(n,d)] n Y yi w c:=by
 unfold Df;rw[Nat.beq_refl];exact h
abbrev bwI:List (Nat×((Nat->bt)->bt)):=[(jh,ji)]
abbrev allI:List (Nat×((Nat->bt)->bt)):=[(m3,m4)]
variable{a:Addr}{v:Value}
def atj(h:om Y v a w λr w=>c (.tuple #[]) w):ji Y [v,.pointer (some a)] w c:=h
def ao6(h:Cl Y v a w λr w=>c (.tuple #[]) w):m4 Y [v,.pointer (some a)] w c:=h
variable{body:Int×Int->World->(ap)->Prop}{s:Sl}
theorem aiN{G:List Int->HP}{fin:Nat->ap}(h:St w0 w (G []::bG 1 s (ints xs)::R))(K:xs.length<=1000000)
  (hb:∀(zs:List Int) (i x:Int) (w1:World) (o:List HP) (C:ap),(∃ys,xs=ys++x::zs)->St w0 w1 (G zs::o)->(∀p,St w0 p (G (x::zs)::o)->C p)->body (i,x) w1 C)
  (t:∀D w',St w0 w' (obj D (.deferred (some []))::G xs::bG 1 s (ints xs)::R)->fin D w'):
  dw s w λv w=>Cg (Df bwI) [.i .i64,.i .i64] v w body fin:=by
 unfold dw;have u:s.n=xs.length:=by have:=qY (s:=s) h;simpa using this
 refine aM h λq w h=>S1 h λb D d w h=>My (atj ?_);unfold om qv;refine n8 ?_;have y:aF .i64 (((s.n:Nat):Int) - 1)=((xs.length:Nat):Int) - 1:=by rw[u,kg ⟨af,af⟩]
 refine⟨xs.length+1,?_⟩;show jV _ _ (aF .i64 (((s.n:Nat):Int) - 1)) _;rw[y];have key:∀(m:Nat) (w:World),m<=xs.length->St w0 w (obj b (d .ready)::obj D (.deferred (some []))::au q #[Value.slice s.a s.n s.c].toList::G (xs.drop m)::bG 1 s (ints xs)::R)->
   jV (λz j e=>an (decide (j>=(0:Int))) (cy e ⟨q,0,none⟩ λA=>cN A j 1 λB=>aJ .i64 e B λF=>nj (J0 [] (rY b d [.i .i64,.i .i64] body)) (.func (.yield b) #[] #[]) #[(I_ j),(I_ F)] e λH k=>Ir H λl=>
    an (!l) (k.heap[b]?=some (d .ready)/\fin D (k.putObj b (d .exhausted))) (z (aF .i64 (j - (1:Int))) k)) (e.heap[b]?=some (d .ready)/\fin D (e.putObj b (d .exhausted)))) (m+1) ((m:Int) - 1) w:=by
  intro m;induction m with
  |zero=>
   intro w _ h;unfold jV;refine aU e7<|ace h λw h=>t D w ?_;have h:=(h.rm 2 rfl).rm 0 rfl;simpa using h
  |succ m ih=>
   intro w L h;have f:m<xs.length:=af;have r:xs.drop m=xs[m]::xs.drop (m+1):=List.drop_eq_getElem_cons f;unfold jV;refine bK bf<|n8 ?_;have I:(((m+1:Nat):Int) - 1)=(m:Int):=af;rw[I];refine vI h af (x:=xs[m]) (by simp[ints,f]) ?_
   refine QS<|amZ ((m:Int),xs[m]) (λc J=>J) h λw h=>?_;have h:=h.front 3 rfl;simp only[I7]at h;refine hb (xs.drop (m+1)) m xs[m] w _ _ ⟨xs.take m,?_⟩ h λw h=>?_
   .rw[<-r,List.take_append_drop]
   refine⟨DM h,?_⟩;replace h:=AV (g:=b) (d .ready) h;generalize w.putObj b (d .ready)=w at h ⊢;refine ags<|n8 ?_;rw[kg ⟨af,af⟩];refine ih w af ?_;rw[r];exact h.perm Hp
 grind
inductive Dfs (T:List Kt):List Int->List (Int×Int)->Prop
 |nil:Dfs T [] []
 |cons {x:Int} {t:Kt} {st:List Int} {l:List (Int×Int)}:GV T x=some t->Dfs T (t.kids++st) l->Dfs T (x::st) ((x,t.parent)::l)
variable{l:List (Int×Int)}
def Dfs.len(h:Dfs T xs l):xs.length<=l.length:=by
 induction h with
 |nil=>simp
 |cons _ _ ih=>simp only[uv,List.length_cons]at*;omega
theorem atk{G:List (Int×Int)->HP}{fin:Nat->ap}(h:St w0 w (G []::Da g T::R))(Y:∀(i:Nat) (x:Kt),T[i]?=some x->x.kids.length<=1000000)(hl:l.length<=100000)
  (H:if T.length=0 then l=[]else Dfs T [0] l)
  (hb:∀(done rest:List (Int×Int)) (p:Int×Int) (w1:World) (J:List HP) (C:ap),l=done++p::rest->St w0 w1 (G done::J)->(∀Q,St w0 Q (G (done++[p])::J)->C Q)->body p w1 C)
  (S:∀D w',St w0 w' (obj D (.deferred (some []))::G l::Da g T::R)->fin D w'):
  iX (A_ g) w λv w=>Cg (Df allI) [.i .i64,.i .i64] v w body fin:=by
 unfold iX;refine aM h λga w h=>?_;refine S1 h λf D d w h=>?_;refine My (ao6 (v:= .func (.yield f) #[] #[]) (a:=⟨ga,0,none⟩) ?_);unfold Cl EF;refine zE λgx w h=>?_;refine ann (g:=g) (T:=T) h ?_;by_cases m:T.length=0
 .rw[if_pos m]at H;subst H;refine bK (by simp[Bb,m]) ?_
  refine ace (g:=f) (o:=d .ready) (o':=d .exhausted) (c:=fin D) h λw h=>S D w ?_;exact((h.rm 0 rfl).rm 2 rfl).rm 0 rfl
 rw[if_neg m]at H;refine aU (by simp[Bb];omega) ?_
 have h:=h.rm 0 rfl;simp only[I7]at h;refine aM h λU w h=>aM h λgl w h=>?_;refine pS λw h=>?_;have h:=h.front 1 rfl;simp only[I7]at h;have h:=St.asS (g:=U) (n:=1) (sz:=1) (cs:=[I_ 0]) h (by rfl) af (by intro x A;simp at A;subst A;rfl)
 have h:=QR h;refine DN (G:=List (Int×Int)×List Int×List (Int×Int)×Sl) (λq x w=>l=q.2.2.1++q.1/\Dfs T q.2.1 q.1/\
   St w0 w (I6 x.2::bG 1 q.2.2.2 (ints q.2.1.reverse)::au gl [S_ q.2.2.2]::obj f (d .ready)::obj D (.deferred (some []))::au ga [Value.pointer (A_ g)]::G q.2.2.1::Da g T::R)) (λq=>q.1.length)
  (g:=(l,[0],[],⟨A_ U,1,1⟩)) ⟨rfl,H,h⟩ ?_
 rintro⟨rest,st,done,s⟩ ⟨_,ds⟩ w ⟨k,j,h⟩ C V;dsimp only at k j h V;have r:=qY (s:=s) (vs:=ints st.reverse) h;have r:s.n=st.length:=by simpa using r
 refine n8 ?_;have B:=j.len;have K:rest.length<=100000:=by grind
 cases j with
 |nil=>
  refine aU (by simp[r]) ?_
  refine LL h λw h=>?_;rw[List.append_nil]at k;subst k;refine ace (g:=f) (o:=d .ready) (o':=d .exhausted) (c:=fin D) h λw h=>S D w ?_;exact(((h.rm 0 rfl).rm 0 rfl).rm 0 rfl).rm 1 rfl
 |@cons x t st rest A j=>
  have r:s.n=st.length+1:=by simpa using r
  have u:=xP A;simp only[List.length_cons]at B K;refine bK (by simp[r]) ?_
  refine n8 ?_;have W:aF .i64 (((s.n:Nat):Int) - 1)=(st.length:Nat):=by rw[r,kg ⟨af,af⟩];omega
  show cN s (aF .i64 (((s.n:Nat):Int) - 1)) 1 _;rw[W];refine vI (s:=s) (vs:=ints (x::st).reverse) h af (x:=x) (by simp[ints]) ?_
  refine n8 ?_;show Th s 1 0 (aF .i64 (((s.n:Nat):Int) - 1)) _;rw[W];refine am1 (s:=s) (vs:=ints (x::st).reverse) h af (by simp;omega) λs2 IZ h=>?_
  have Z:(ints (x::st).reverse).take ((st.length:Nat):Int).toNat=ints st.reverse:=by simp_all
  rw[Z]at h;refine pS λw h=>?_;refine ath (T:=T) h A ?_;refine QS ?_;refine amZ (l:=f) (R:=d) (kk:=[.i .i64,.i .i64]) (x,t.parent) (λc hc=>hc) h λw h=>?_;have h:=h.front 6 rfl;simp only[I7]at h;refine hb done rest (x,t.parent) w _ _ k h λw h=>?_;refine⟨DM (g:=f) (o:=d .busy) h,?_⟩;replace h:=AV (g:=f) (o:=d .busy) (d .ready) h;generalize w.putObj f (d .ready)=w at h ⊢;refine ags ?_;refine n8 ?_;have h:=h.front 7 rfl;simp only[I7]at h;obtain⟨b,lk,F,h⟩:=S5 h;obtain⟨y,hi⟩:=map_fst F u.2.2;refine n8 ?_;refine rS (s:=b) (sz:=3) (es:=lk.map oc) h u.2.1 (e:=oc (t,y)) (by rw[l8,hi];rfl) rfl ?_
  have h:=h.front 2 rfl;simp only[I7]at h;have h:St w0 w (bG 1 y (ints t.kids)::jO zf (lk.eraseIdx x.toNat)::au g [S_ b]::rws 3 b (lk.map oc)::G (done++[(x,t.parent)])::I6 ds::bG 1 s2 (ints st.reverse)::au gl [S_ s2]::obj f (d .ready)::obj D (.deferred (some []))::au ga [Value.pointer (A_ g)]::R):=BW h hi;have L:=Y _ t u.2.2;refine aiN (w0:=w0) (G:=λzs=>Gt λq:Sl=>l9 [bG 1 q (ints (st.reverse++zs.reverse)),au gl [S_ q]]) (s:=y) (xs:=t.kids) (R:=jO zf (lk.eraseIdx x.toNat)::au g [S_ b]::rws 3 b (lk.map oc)::G (done++[(x,t.parent)])::I6 ds::obj f (d .ready)::obj D (.deferred (some []))::au ga [Value.pointer (A_ g)]::R)
   ?_ L (λzs i z w1 J C1 hz h Hi=>?_) λI w h=>?_
  .refine St.ex (X:=λq:Sl=>l9 [bG 1 q (ints (st.reverse++([]:List Int).reverse)),au gl [S_ q]]) s2 (St.shut ?_);simp only[List.reverse_nil,List.append_nil];exact h.perm Hp
  .obtain⟨q,h⟩:=St.some h;have h:=St.open h;simp only[List.cons_append,List.nil_append]at h;refine zE λgx w h=>?_;have N:=j.len;simp only[uv]at N;obtain⟨ys,O⟩:=hz;have hzl:zs.length<=t.kids.length:=by rw[O];simp;omega
   refine I9 (s:=q) (vs:=ints (st.reverse++zs.reverse)) h ati aZ rfl (by simp;omega) af λs' w h hn=>?_
   refine pS λw h=>?_;have h:=h.rm 0 rfl;refine Hi w (St.ex (X:=λq:Sl=>l9 [bG 1 q (ints (st.reverse++(z::zs).reverse)),au gl [S_ q]]) s' (St.shut ?_));grind
  .have h:=h.front 1 rfl;simp only[I7]at h;obtain⟨q,h⟩:=St.some h;have h:=St.open h;simp only[List.cons_append,List.nil_append]at h;have e4:ints (st.reverse++t.kids.reverse)=ints (t.kids++st).reverse:=by simp
   rw[e4]at h;refine V (rest,t.kids++st,done++[(x,t.parent)],q) ((),I::ds) w ⟨by rw[k];simp,j,?_⟩ bf
   have h:=h.perm (M:=obj I (.deferred (some []))::I6 ds::zf (t,y)::jO zf (lk.eraseIdx x.toNat)::au g [S_ b]::rws 3 b (lk.map oc)::bG 1 q (ints (t.kids++st).reverse)::au gl [S_ q]::obj f (d .ready)::obj D (.deferred (some []))::au ga [Value.pointer (A_ g)]::G (done++[(x,t.parent)])::R) (by unfold zf;exact Hp)
   have h:=LK h;have h:=h.perm (M:=zf (t,y)::jO zf (lk.eraseIdx x.toNat)::au g [S_ b]::rws 3 b (lk.map oc)::I6 (I::ds)::bG 1 q (ints (t.kids++st).reverse)::au gl [S_ q]::obj f (d .ready)::obj D (.deferred (some []))::au ga [Value.pointer (A_ g)]::G (done++[(x,t.parent)])::R) Hp;have h:=WY h (kB.1 hi).1;have P:lk.set x.toNat (t,y)=lk:=by
    apply List.ext_getElem?;grind
   rw[P]at h;have h:=Y7 F (h.perm (M:=au g [S_ b]::rws 3 b (lk.map oc)::jO zf lk::I6 (I::ds)::bG 1 q (ints (t.kids++st).reverse)::au gl [S_ q]::obj f (d .ready)::obj D (.deferred (some []))::au ga [Value.pointer (A_ g)]::G (done++[(x,t.parent)])::R) Hp);exact h.perm Hp
theorem aiO{k:Sl->ap}(h:St w0 w L)[a:At L (Da g) T f](b:∀(i:Nat) (x:Kt),T[i]?=some x->x.kids.length<=1000000)(d:l.length<=100000)
  (e:if T.length=0 then l=[]else Dfs T [0] l) (j:∀s w',St w0 w' (bG 1 s (ints (l.map (·.1)))::f (Da g T))->k s w'):fK (A_ g) w k:=by
 unfold fK EG;obtain⟨R,m,hb⟩:=a.split;have h:=h.arE m;refine aM h λg1 w h=>?_;have h:=(h.DJ 1).perm Hp;refine atk (w0:=w0) (G:=λdone=>Gt λq:Sl=>l9 [bG 1 q (ints (done.map (·.1))),au g1 [S_ q]]) (R:=R) ?_ b d e (λdone rest p w t C u h o=>?_) λD w h=>?_
 .exact St.ex ⟨none,0,0⟩ (St.shut h)
 .obtain⟨q,h⟩:=St.some h;have h:=St.open h;simp only[List.cons_append,List.nil_append]at h;refine zE λgx w h=>?_;have r:done.length<=100000:=by grind
  refine I9 h ati aZ rfl (by simp;omega) af λs' w h v=>?_
  refine pS λw h=>?_;have h:=h.rm 0 rfl;refine o w (St.ex s' (St.shut ?_));grind
 .have h:=h.front 1 rfl;simp only[I7]at h;obtain⟨q,h⟩:=St.some h;have h:=St.open h;simp only[List.cons_append,List.nil_append]at h;refine n8 ?_;have h:=LK ((QR h).perm Hp);refine LL h λw h=>j q w ?_;exact(h.rm 1 rfl).under hb
structure bu where
 at_:Int
 most:Int
 b:Int
 t:Int
 ring:Rg
 x:Int
 won:Bool
 to:Rg
 copy:Option Cp
 next:Nat
 how:Int
 got:Int
 err:Int
def phs:List Nat:=[nR,r6,q4,sg,q6,q8,oE,q5,ox,r7,r8,sU,q7,sj,ql,pn,po,qF,pV,oF]
def phF(n:Nat):Value:= .func (.func (phs.getD n oF)) #[] #[]
def bu.cells(O:bu)(p:Option Addr):List Value:=[I_ O.at_,I_ O.most,I_ O.b,I_ O.t,I_ O.ring.At,I_ O.ring.DA,I_ O.x,.bool O.won,I_ O.to.At,I_ O.to.DA,.pointer p,phF O.next,I_ O.how,I_ O.got,I_ O.err]
def uh(g:Nat)(O:bu):HP:=match O.copy with
 |none=>au g (O.cells none)
 |some c=>Gt λgc:Nat=>l9 [au g (O.cells (A_ gc)),Qm gc c]
def bu.read(O:bu)(M:bJ)(wk:Int):bu×bJ×Int:=
 if M.can wk (O.at_+2)then(if (Rg.of (M.get (O.at_+2))).right then({O with ring:=Rg.of (M.get (O.at_+2))},M.tick wk,0)else({O with ring:=Rg.zero},M.tick wk,11))else(O,M,10)
abbrev ID:=bu×bJ×Int×Int
section
variable (O:bu) (M:bJ) (wk:Int)
def bu.f0:ID:=({O with b:=(M.ld wk (O.at_+1)).2.1,next:=1},(M.ld wk (O.at_+1)).1,0,(M.ld wk (O.at_+1)).2.2)
def bu.f1:ID:=({O with t:=(M.ld wk O.at_).2.1,next:=2},(M.ld wk O.at_).1,0,(M.ld wk O.at_).2.2)
def bu.f2:ID:=if (O.read M wk).2.2 !=0 then((O.read M wk).1,(O.read M wk).2.1,6,(O.read M wk).2.2)
  else if decide (wr ((O.read M wk).1.b - (O.read M wk).1.t)<(O.read M wk).1.ring.size)then({(O.read M wk).1 with next:=6},(O.read M wk).2.1,0,0)
  else if decide ((O.read M wk).1.ring.DA>=(O.read M wk).1.most)then((O.read M wk).1,(O.read M wk).2.1,4,0)
  else({(O.read M wk).1 with next:=3},(O.read M wk).2.1,0,0)
def bu.lg:Int:=wr (O.ring.DA+1)
def bu.Mz:Rg:=⟨(M.cells.length:Nat),O.lg⟩
def bu.MA:Int:=((2 ^ O.lg.toNat:Nat):Int)
def bu.f3:ID:=if 0<=O.lg/\O.lg<=8/\M.caller wk=true then
   (if M.room O.MA then
    (if Sf O.ring (O.Mz M) O.t O.b=0 then({O with to:=O.Mz M,copy:=some (Cp.begin O.ring (O.Mz M) O.t O.b),next:=4},(M.tick wk).grow O.MA,0,0)
    else({O with to:=O.Mz M,copy:=none,next:=4},(M.tick wk).grow O.MA,0,Sf O.ring (O.Mz M) O.t O.b))
   else(O,M,6,21))
  else(O,M,6,10)
def bu.f4(c:Cp):ID:=if c.at_=c.j2 then({O with next:=5},M,0,0)
   else if M.can wk c.spot then
    (if c.Cm then({O with copy:=some (c.next 0),next:=if (c.next 0).at_=c.j2 then 5 else O.next},(M.tick wk).put c.spot c.has,0,0)
    else({O with copy:=some (c.next (M.get c.spot))},M.tick wk,0,0))
   else(O,M,0,10)
def bu.f5:ID:=({O with ring:=O.to,next:=6},(M.st wk (O.at_+2) O.to.word).1,0,(M.st wk (O.at_+2) O.to.word).2)
def bu.f6:ID:=({O with next:=7},(M.st wk (O.ring.place O.b) O.x).1,0,(M.st wk (O.ring.place O.b) O.x).2)
def bu.f7:ID:=(O,(M.st wk (O.at_+1) (wr (O.b+1))).1,1,(M.st wk (O.at_+1) (wr (O.b+1))).2)
def bu.f8:ID:=({O with b:=(M.ld wk (O.at_+1)).2.1,next:=9},(M.ld wk (O.at_+1)).1,0,(M.ld wk (O.at_+1)).2.2)
def bu.f9:ID:=((bu.read {O with next:=10} M wk).1,(bu.read {O with next:=10} M wk).2.1,0,(bu.read {O with next:=10} M wk).2.2)
def bu.f10:ID:=({O with next:=11},(M.st wk (O.at_+1) (wr (O.b - 1))).1,0,(M.st wk (O.at_+1) (wr (O.b - 1))).2)
def bu.f11:ID:=({O with t:=(M.ld wk O.at_).2.1,next:=if decide ((M.ld wk O.at_).2.1>wr (O.b - 1))then 14 else 12},(M.ld wk O.at_).1,0,(M.ld wk O.at_).2.2)
def bu.f12:ID:=({O with got:=(M.ld wk (O.ring.place (wr (O.b - 1)))).2.1,next:=13},(M.ld wk (O.ring.place (wr (O.b - 1)))).1,if decide (O.t<wr (O.b - 1))then 1 else 0,(M.ld wk (O.ring.place (wr (O.b - 1)))).2.2)
def bu.f13:ID:=({O with won:=(M.VQ wk O.at_ O.t (wr (O.t+1))).2.1,next:=14},(M.VQ wk O.at_ O.t (wr (O.t+1))).1,0,(M.VQ wk O.at_ O.t (wr (O.t+1))).2.2)
def bu.f14:ID:=(O,(M.st wk (O.at_+1) O.b).1,if O.won then 1 else 3,(M.st wk (O.at_+1) O.b).2)
def bu.f15:ID:=({O with t:=(M.ld wk O.at_).2.1,next:=16},(M.ld wk O.at_).1,0,(M.ld wk O.at_).2.2)
def bu.f16:ID:=({O with b:=(M.ld wk (O.at_+1)).2.1,next:=17},(M.ld wk (O.at_+1)).1,if decide (O.t>=(M.ld wk (O.at_+1)).2.1)then 3 else 0,(M.ld wk (O.at_+1)).2.2)
def bu.f17:ID:=((bu.read {O with next:=18} M wk).1,(bu.read {O with next:=18} M wk).2.1,0,(bu.read {O with next:=18} M wk).2.2)
def bu.f18:ID:=({O with got:=(M.ld wk (O.ring.place O.t)).2.1,next:=19},(M.ld wk (O.ring.place O.t)).1,2,(M.ld wk (O.ring.place O.t)).2.2)
def bu.f19:ID:=(O,(M.VQ wk O.at_ O.t (wr (O.t+1))).1,if !(M.VQ wk O.at_ O.t (wr (O.t+1))).2.1 then 5 else 1,(M.VQ wk O.at_ O.t (wr (O.t+1))).2.2)
def bu.run:ID:=match O.next with
 |0=>O.f0 M wk
 |1=>O.f1 M wk
 |2=>O.f2 M wk
 |3=>O.f3 M wk
 |4=>match O.copy with
  |none=>(O,M,0,2)
  |some c=>O.f4 M wk c
 |5=>O.f5 M wk
 |6=>O.f6 M wk
 |7=>O.f7 M wk
 |8=>O.f8 M wk
 |9=>O.f9 M wk
 |10=>O.f10 M wk
 |11=>O.f11 M wk
 |12=>O.f12 M wk
 |13=>O.f13 M wk
 |14=>O.f14 M wk
 |15=>O.f15 M wk
 |16=>O.f16 M wk
 |17=>O.f17 M wk
 |18=>O.f18 M wk
 |_=>O.f19 M wk
end
def bu.live(O:bu):Bool:=(O.how==0)||(O.how==2)
def bu.step(O:bu)(M:bJ)(wk:Int):bu×bJ:=
 if O.live then({(O.run M wk).1 with how:=if (O.run M wk).2.2.2=0 then(O.run M wk).2.2.1 else 6,err:=(O.run M wk).2.2.2},(O.run M wk).2.1)else(O,M)
def xH(x:Int):Prop:=0<=x/\x<=1048576
variable{k:Int->ap}{most:Int}
def Y9(h:St w0 w L)(a:∀w',St w0 w' L->k at_ w'):bj #[I_ at_,I_ most] w k:=by
 unfold bj;exact aM h λg w' h=>cr h rfl (a w' h.drop)
def AZ(a:xH at_)(h:St w0 w L)(b:∀w',St w0 w' L->k (at_+1) w'):az #[I_ at_,I_ most] w k:=by
 unfold az;unfold xH at a;refine aM h λg w' h=>cr h rfl ?_;rw[kg ⟨af,af⟩];exact b w' h.drop
def XU(a:xH at_)(h:St w0 w L)(b:∀w',St w0 w' L->k (at_+2) w'):bS #[I_ at_,I_ most] w k:=by
 unfold bS;unfold xH at a;refine aM h λg w' h=>cr h rfl ?_;rw[kg ⟨af,af⟩];exact b w' h.drop
variable{cs:List Value}{k:Int×Int->ap}{nx:Value}
def GW(h:St w0 w (au n cs::bH gc M::R))(a:ga<cs.length)(b:11<cs.length)(c:nx.oneCell'=true)
  (d:∀w',St w0 w' (au n ((cs.set ga (I_ (M.ld wk a').2.1)).set 11 nx)::bH gc (M.ld wk a').1::R)->k (0,(M.ld wk a').2.2) w'):be (A_ n) (A_ gc) wk a' (some ⟨n,ga,none⟩) nx w k:=by
 unfold be FH;refine aa8 h λf h=>bc (j4 h rfl a λg h=>bc ?_);refine j4 h c (gq b) λe h=>d e h
def Za(h:St w0 w (au g cs::bH n M::R))(a:11<cs.length)(b:nx.oneCell'=true)
  (c:∀w',St w0 w' (au g (cs.set 11 nx)::bH n (M.st wk a' x).1::R)->k (0,(M.st wk a' x).2) w'):dm (A_ g) (A_ n) wk a' x nx w k:=by
 unfold dm El;refine bc (j4 h b a λe h=>?_);exact Sg h λd h=>c d h
variable{O:bu}{p:Option Addr}
def ag0(d:xH O.at_){k:Int->ap}(h:St w0 w (au n (O.cells p)::bH gc M::R))(a:∀w',St w0 w' (au n ((O.read M wk).1.cells p)::bH gc (O.read M wk).2.1::R)->k (O.read M wk).2.2 w'):dV (A_ n) (A_ gc) wk w k:=by
 unfold dV FJ;refine bc (qM h (by simp[bu.cells]) ?_)
 refine XU d h λe h=>?_;unfold bu.read at a;refine agW h (λc f h=>?_) λc=>?_
 .rw[if_pos c]at a;refine aU rfl (az8 h λi h=>?_);cases hr:(Rg.of (M.get (O.at_+2))).right with
  |true=>
   rw[if_pos hr]at a;rw[if_pos rfl];refine bc (Yz (g:=n) h rfl (by simp[bu.cells]) (by intro v hv;simp[Rg.ag]at hv;rcases hv with rfl|rfl<;>rfl) λb h=>a b h)
  |false=>
   rw[if_neg (by rw[hr];simp)]at a
   rw[if_neg bf];refine bc (Yz (g:=n) h rfl (by simp[bu.cells]) (by intro v hv;simp[Rg.ag,Rg.zero]at hv;rw[hv];rfl) λb h=>a b h)
 .rw[if_neg (by rw[c];simp)]at a
  exact bK rfl (a e h)
abbrev Ov(w0:World)(go gm:Nat)(p:Option Addr)(R:List HP)(k:Int×Int->ap)(r:ID):Prop:=∀w',St w0 w' (au go (r.1.cells p)::bH gm r.2.1::R)->k (r.2.2.1,r.2.2.2) w'
def p0(a:xH O.at_)(h:St w0 w (au g (O.cells p)::bH n M::R))(b:Ov w0 g n p R k (O.f0 M wk)):ff (A_ g) (A_ n) wk w k:=by
 unfold ff wu;refine cH h λw1 h=>bc (qM h (by simp[bu.cells]) (bc ?_))
 refine AZ a h λd h=>GW h (by simp[bu.cells]) (by simp[bu.cells]) rfl λc h=>b c h
def p1(c:xH O.at_)(h:St w0 w (au g (O.cells p)::bH n M::R))(a:Ov w0 g n p R k (O.f1 M wk)):iJ (A_ g) (A_ n) wk w k:=by
 unfold iJ Bo;refine cH h λw1 h=>bc (qM h (by simp[bu.cells]) (bc ?_))
 refine Y9 h λd h=>GW h (by simp[bu.cells]) (by simp[bu.cells]) rfl λb h=>a b h
theorem p2(i:xH O.at_)(h:St w0 w (au gc (O.cells p)::bH ga M::R))(a:Ov w0 gc ga p R k (O.f2 M wk)):gO (A_ gc) (A_ ga) wk w k:=by
 unfold gO zO;refine ag0 i h λm h=>?_;unfold bu.f2 at a;generalize O.read M wk=r at h a;refine ax (λhb=>?_) λhb=>?_
 .grind
 .rw[if_neg (by rw[hb];simp)]at a
  refine cH h λn h=>bc (cr (g:=gc) h rfl (bc (cr (g:=gc) h rfl (bc (qM (g:=gc) h (by simp[bu.cells]) ?_)))))
  have f:=h;refine XT h λj h=>eD (g:=gc) f h (eD (g:=gc) f h ?_);refine ax (λhb=>?_) λhb=>?_
  .have c:decide (wr (r.1.b - r.1.t)<r.1.ring.size)=true:=hb;rw[if_pos c]at a;exact bc (j4 h rfl (by simp[bu.cells]) λd h=>a d h)
  .have c:decide (wr (r.1.b - r.1.t)<r.1.ring.size)=false:=hb;rw[if_neg (by rw[c];simp)]at a
   refine cH h λl h=>bc (cr (g:=gc) h rfl (bc (cr (g:=gc) h rfl ?_)));refine ax (λhb=>?_) λhb=>?_
   .grind
   .rw[if_neg (by rw[hb];simp)]at a
    exact bc (j4 h rfl (by simp[bu.cells]) λe h=>a e h)
def p5(b:xH O.at_)(h:St w0 w (au n (O.cells p)::bH gc M::R))(c:Ov w0 n gc p R k (O.f5 M wk)):gP (A_ n) (A_ gc) wk w k:=by
 unfold gP zQ;refine bc (qM h (by simp[bu.cells]) (bc ?_))
 refine Yz (g:=n) h rfl (by simp[bu.cells]) (by intro v hv;simp[bu.cells]at hv;rcases hv with rfl|rfl<;>rfl) λd h=>?_
 have h:St w0 d (au n (bu.cells {O with ring:=O.to} p)::bH gc M::R):=h;refine cH h λj h=>bc (qM h (by simp[bu.cells]) (bc (qM (g:=n) h (by simp[bu.cells]) ?_)))
 have e:=h;refine XU b h λf h=>eD (g:=n) e h<|anj h λi h=>Za h (by simp[bu.cells]) rfl λa h=>c a h
def p6(d:xH O.at_)(h:St w0 w (au n (O.cells p)::bH gc M::R))(b:Ov w0 n gc p R k (O.f6 M wk)):fQ (A_ n) (A_ gc) wk w k:=by
 unfold fQ yc;refine cH h λw1 h=>bc (qM (g:=n) h (by simp[bu.cells]) (bc (cr (g:=n) h rfl (bc (cr h rfl ?_)))))
 have c:=h;refine Mx h λe h=>eD c h<|Za h (by simp[bu.cells]) rfl λa h=>b a h
def p7(a:xH O.at_)(h:St w0 w (au n (O.cells p)::bH gc M::R))(b:Ov w0 n gc p R k (O.f7 M wk)):gQ (A_ n) (A_ gc) wk w k:=by
 unfold gQ zR;refine cH h λw1 h=>bc (qM h (by simp[bu.cells]) (bc (cr (g:=n) h rfl ?_)))
 have c:=h;refine AZ a h λe h=>eD (g:=n) c h<|Sg h λd h=>b d h
def p8(a:xH O.at_)(h:St w0 w (au g (O.cells p)::bH n M::R))(b:Ov w0 g n p R k (O.f8 M wk)):fS (A_ g) (A_ n) wk w k:=by
 unfold fS yd;refine cH h λw1 h=>bc (qM h (by simp[bu.cells]) (bc ?_))
 refine AZ a h λd h=>GW h (by simp[bu.cells]) (by simp[bu.cells]) rfl λc h=>b c h
def p9(a:xH O.at_)(h:St w0 w (au g (O.cells p)::bH n M::R))(b:Ov w0 g n p R k (O.f9 M wk)):iK (A_ g) (A_ n) wk w k:=by
 unfold iK Bq;refine bc (j4 h rfl (by simp[bu.cells]) λc h=>?_)
 have h:St w0 c (au g (bu.cells {O with next:=10} p)::bH n M::R):=h
 exact ag0 (O:={O with next:=10}) a h λd h=>b d h
def p10(a:xH O.at_)(h:St w0 w (au n (O.cells p)::bH gc M::R))(b:Ov w0 n gc p R k (O.f10 M wk)):iL (A_ n) (A_ gc) wk w k:=by
 unfold iL Br;refine cH h λw1 h=>bc (qM h (by simp[bu.cells]) (bc (cr (g:=n) h rfl ?_)))
 have c:=h;refine AZ a h λe h=>eD (g:=n) c h<|Za h (by simp[bu.cells]) rfl λd h=>b d h
def p11(f:xH O.at_)(h:St w0 w (au n (O.cells p)::bH gc M::R))(c:Ov w0 n gc p R k (O.f11 M wk)):jG (A_ n) (A_ gc) wk w k:=by
 unfold jG CP;refine cH h λw1 h=>bc (qM h (by simp[bu.cells]) (bc ?_))
 refine Y9 h λi h=>?_;unfold bu.f11 at c;refine GW h (by simp[bu.cells]) (by simp[bu.cells]) rfl λj h=>?_
 refine cH h λe h=>bc (cr (g:=n) h rfl (bc (cr (g:=n) h rfl ?_)));refine ax (λhb=>?_) λhb=>?_
 .have a:decide ((M.ld wk O.at_).2.1>wr (O.b - 1))=true:=hb;rw[if_pos a]at c;exact bc (j4 h rfl (by simp[bu.cells]) λd h=>c d h)
 .have a:decide ((M.ld wk O.at_).2.1>wr (O.b - 1))=false:=hb;rw[if_neg (by rw[a];simp)]at c
  exact c e h
def p12(f:xH O.at_)(h:St w0 w (au n (O.cells p)::bH gc M::R))(c:Ov w0 n gc p R k (O.f12 M wk)):gR (A_ n) (A_ gc) wk w k:=by
 unfold gR zS;refine cH h λw1 h=>bc (qM (g:=n) h (by simp[bu.cells]) (bc (cr (g:=n) h rfl (bc ?_))))
 refine Mx h λi h=>?_;unfold bu.f12 at c;refine GW h (by simp[bu.cells]) (by simp[bu.cells]) rfl λe h=>?_
 refine cH h λd h=>bc (cr (g:=n) h rfl (bc (cr (g:=n) h rfl ?_)));refine ax (λhb=>?_) λhb=>?_
 .have a:decide (O.t<wr (O.b - 1))=true:=hb;rw[if_pos a]at c;exact c d h
 .have a:decide (O.t<wr (O.b - 1))=false:=hb;rw[if_neg (by rw[a];simp)]at c
  exact c d h
def p13(f:xH O.at_)(h:St w0 w (au n (O.cells p)::bH gc M::R))(c:Ov w0 n gc p R k (O.f13 M wk)):iM (A_ n) (A_ gc) wk w k:=by
 unfold iM Bs;refine cH h λw1 h=>bc (qM h (by simp[bu.cells]) (bc (cr (g:=n) h rfl (bc (cr (g:=n) h rfl ?_)))))
 have b:=h;refine Y9 h λi h=>eD (g:=n) b h (eD (g:=n) b h ?_);refine ak7 h λd h=>bc (j4 h rfl (by simp[bu.cells]) λe h=>bc (j4 h rfl (by simp[bu.cells]) λa h=>c a h))
def p14(d:xH O.at_)(h:St w0 w (au n (O.cells p)::bH gc M::R))(a:Ov w0 n gc p R k (O.f14 M wk)):iN (A_ n) (A_ gc) wk w k:=by
 unfold iN Bt;refine bc (akI h rfl ?_);unfold bu.f14 at a;refine ax (λhb=>?_) λhb=>?_
 .rw[if_pos hb]at a;refine cH h λw1 h=>bc (qM h (by simp[bu.cells]) (bc (cr (g:=n) h rfl ?_)))
  have b:=h;refine AZ d h λe h=>eD (g:=n) b h<|Sg h λc h=>a c h
 .rw[if_neg (by rw[hb];simp)]at a
  refine cH h λw1 h=>bc (qM h (by simp[bu.cells]) (bc (cr (g:=n) h rfl ?_)))
  have b:=h;refine AZ d h λe h=>eD (g:=n) b h<|Sg h λc h=>a c h
def p15(c:xH O.at_)(h:St w0 w (au g (O.cells p)::bH n M::R))(a:Ov w0 g n p R k (O.f15 M wk)):gS (A_ g) (A_ n) wk w k:=by
 unfold gS zU;refine cH h λw1 h=>bc (qM h (by simp[bu.cells]) (bc ?_))
 refine Y9 h λd h=>GW h (by simp[bu.cells]) (by simp[bu.cells]) rfl λb h=>a b h
def p16(c:xH O.at_)(h:St w0 w (au n (O.cells p)::bH gc M::R))(a:Ov w0 n gc p R k (O.f16 M wk)):eJ (A_ n) (A_ gc) wk w k:=by
 unfold eJ vn;refine cH h λw1 h=>bc (qM h (by simp[bu.cells]) (bc ?_))
 refine AZ c h λd h=>?_;unfold bu.f16 at a;refine GW h (by simp[bu.cells]) (by simp[bu.cells]) rfl λe h=>?_
 refine cH h λb h=>bc (cr (g:=n) h rfl (bc (cr (g:=n) h rfl ?_)));refine ax (λhb=>?_) λhb=>?_
 .rw[if_pos hb]at a;exact a b h
 .rw[if_neg (by rw[hb];simp)]at a;exact a b h
def p17(a:xH O.at_)(h:St w0 w (au g (O.cells p)::bH n M::R))(b:Ov w0 g n p R k (O.f17 M wk)):fT (A_ g) (A_ n) wk w k:=by
 unfold fT ye;refine bc (j4 h rfl (by simp[bu.cells]) λc h=>?_)
 have h:St w0 c (au g (bu.cells {O with next:=18} p)::bH n M::R):=h
 exact ag0 (O:={O with next:=18}) a h λd h=>b d h
def p18(c:xH O.at_)(h:St w0 w (au n (O.cells p)::bH gc M::R))(b:Ov w0 n gc p R k (O.f18 M wk)):fg (A_ n) (A_ gc) wk w k:=by
 unfold fg wv;refine cH h λw1 h=>bc (qM (g:=n) h (by simp[bu.cells]) (bc (cr (g:=n) h rfl (bc ?_))))
 refine Mx h λd h=>GW h (by simp[bu.cells]) (by simp[bu.cells]) rfl λa h=>b a h
def p19(e:xH O.at_)(h:St w0 w (au n (O.cells p)::bH gc M::R))(b:Ov w0 n gc p R k (O.f19 M wk)):fU (A_ n) (A_ gc) wk w k:=by
 unfold fU yf;refine cH h λw1 h=>bc (qM h (by simp[bu.cells]) (bc (cr (g:=n) h rfl (bc (cr (g:=n) h rfl ?_)))))
 have d:=h;refine Y9 h λf h=>eD (g:=n) d h (eD (g:=n) d h ?_);unfold bu.f19 at b;refine ak7 h λc h=>ax (λhb=>?_) λhb=>?_
 .have a:(!(M.VQ wk O.at_ O.t (wr (O.t+1))).2.1)=true:=hb;rw[if_pos a]at b;exact b c h
 .have a:(!(M.VQ wk O.at_ O.t (wr (O.t+1))).2.1)=false:=hb;rw[if_neg (by rw[a];simp)]at b;exact b c h
def rN(a:O.copy=none):uh g O=au g (O.cells none):=by unfold uh;rw[a]
variable{c:Cp}
def ae8(a:O.copy=some c):uh g O=Gt λgc:Nat=>l9 [au g (O.cells (A_ gc)),Qm gc c]:=by unfold uh;rw[a]
def IM(a:O.copy=some c)(h:St w0 w (uh g O::R)):∃gc,St w0 w (au g (O.cells (A_ gc))::Qm gc c::R):=by
 rw[ae8 a]at h;obtain⟨gc,h⟩:=h.some;exact⟨gc,h.open⟩
def Dq(a:O.copy=some c)(h:St w0 w (au g (O.cells (A_ gc))::Qm gc c::R)):St w0 w (uh g O::R):=by
 rw[ae8 a];exact St.ex gc (St.shut h)
def atm{c:ap}(h:St w0 w (uh g O::R))(d:∀w',St w0 w' (uh g {O with how:=x,err:=y}::R)->c w'):
  bN w ⟨g,12,none⟩ (I_ x) λw=>bN w ⟨g,14,none⟩ (I_ y) c:=by
 cases hc:O.copy with
 |none=>
  rw[rN hc]at h;have e:uh g {O with how:=x,err:=y}=au g (bu.cells {O with how:=x,err:=y} none):=rN hc;rw[e]at d;exact j4 h rfl (by simp[bu.cells]) λw1 h=>j4 h rfl (by simp[bu.cells]) λf h=>d f h
 |some c=>
  obtain⟨gc,h⟩:=IM hc h;refine j4 h rfl (by simp[bu.cells]) λw1 h=>j4 h rfl (by simp[bu.cells]) λf h=>d f ?_
  exact Dq hc h
variable{yk:Nat}
def p3(h:St w0 w (au ga (O.cells none)::bH yk M::R))(f:O.copy=none)(x:M.OK)(hb:sy O.b)(y:sy O.t)(a:∀w',St w0 w' (uh ga (O.f3 M wk).1::bH yk (O.f3 M wk).2.1::R)->k ((O.f3 M wk).2.2.1,(O.f3 M wk).2.2.2) w'):jL (A_ ga) (A_ yk) wk w k:=by
 unfold jL Bp;refine bc (cr (g:=ga) h rfl ?_);unfold bu.f3 at a;refine axD (log:=O.lg) h x (λj l c m s h=>?_) (λj l c m s h=>?_) λn s h=>?_
 .have d:M.room O.MA=true:=m;rw[if_pos ⟨j,l,c⟩,if_pos d]at a;refine aM h λg5 u h=>m7 h rfl rfl (by intro v hv;simp[Rg.ag]at hv;rcases hv with rfl|rfl<;>rfl) λi h=>aU rfl ?_
  refine je h rfl (bc ?_);refine Yz h rfl (by simp[bu.cells]) (by intro v hv;simp[Rg.ag]at hv;rcases hv with rfl|rfl<;>rfl) λz h=>cH h λo h=>bc ?_
  have h:St w0 o (au g5 (Rg.ag (O.Mz M)).toList::au ga (bu.cells {O with to:=O.Mz M} none)::bH yk ((M.tick wk).grow O.MA)::R):=h;refine qM (g:=ga) h (by simp[bu.cells]) (je h rfl (bc (cr (g:=ga) h rfl (bc (cr (g:=ga) h rfl ?_)))))
  refine axE y hb h (λp gc q h=>?_) λp q h=>?_
  .rw[if_pos p]at a;refine bc (j4 h rfl (by simp[bu.cells]) λr h=>bc (j4 h rfl (by simp[bu.cells]) λe h=>a e ?_))
   refine Dq (gc:=gc) rfl ?_
   exact(h.rm 1 rfl).swap
  .rw[if_neg p]at a;refine bc (j4 h rfl (by simp[bu.cells]) λr h=>bc (j4 h rfl (by simp[bu.cells]) λe h=>a e ?_))
   rw[rN rfl]
   exact h.drop
 .have d:M.room O.MA=false:=m;rw[if_pos ⟨j,l,c⟩,if_neg (by rw[d];simp)]at a
  refine aM h λg5 u h=>m7 h rfl rfl (by intro v hv;simp[Rg.ag,Rg.zero]at hv;rw[hv];rfl) λi h=>bK rfl (a i ?_)
  rw[rN f];exact h.drop
 .rw[if_neg n]at a;refine aM h λg5 u h=>m7 h rfl rfl (by intro v hv;simp[Rg.ag,Rg.zero]at hv;rw[hv];rfl) λi h=>bK rfl (a i ?_)
  rw[rN f];exact h.drop
def p4(h:St w0 w (au n (O.cells (A_ gc))::Qm gc c::bH ga M::R))(f:O.copy=some c)(a:∀w',St w0 w' (uh n (O.f4 M wk c).1::bH ga (O.f4 M wk c).2.1::R)->k ((O.f4 M wk c).2.2.1,(O.f4 M wk c).2.2.2) w'):jb (A_ n) (A_ ga) wk w k:=by
 unfold jb zP;refine bc (CC h rfl ?_);unfold bu.f4 at a;have h:St w0 w (Qm gc c::bH ga M::au n (O.cells (A_ gc))::R):=h.perm Hp;refine axF h (λl e h=>?_) (λb g e h=>?_) (λb g i e h=>?_) λb g i e h=>?_
 .rw[if_pos l]at a;refine bK rfl (bc (j4 h rfl (by simp[bu.cells]) λj h=>a j ?_))
  exact Dq f (h.perm Hp)
 .rw[if_neg b,if_neg (by rw[g];simp)]at a
  exact aU rfl (a e (Dq f (h.perm Hp)))
 .rw[if_neg b,if_pos g,if_neg (by rw[i];simp)]at a
  exact aU rfl (a e (Dq rfl (h.perm Hp)))
 .rw[if_neg b,if_pos g,if_pos i]at a;refine ax (λhb=>?_) λhb=>?_
  .have d:(c.next 0).at_=c.j2:=by simpa using hb
   rw[if_pos d]at a;refine bc (j4 h rfl (by simp[bu.cells]) λj h=>a j ?_)
   exact Dq rfl (h.perm Hp)
  .have d:¬(c.next 0).at_=c.j2:=by simpa using hb
   rw[if_neg d]at a;exact a e (Dq rfl (h.perm Hp))
structure bu.GX (O:bu):Prop where
 n3:O.next=3->O.copy=none/\sy O.b/\sy O.t
 n4:O.next=4->∃c,O.copy=some c
 n:O.next<=19
 a:xH O.at_
variable{c:Value->ap}
variable{yr:FuncId}
def pD{bY:ey}{d:bt}(e:∀args w c,bY (.func yr) args w c=d args.toList w c)(h:d [v,zn,nx] w c):nj bY (.func (.func yr) #[] #[]) #[v,zn,nx] w c:=
 bV e h
variable{a b:Option Addr}{i:Int}
def aem(h:ff a b i w λr w=>c (e9 (dL [(.i .i64),(.i .i64)] r)) w):Eg [.pointer a,.pointer b,I_ i] w c:=h
def alc(h:iJ a b i w λr w=>c (e9 (dL [(.i .i64),(.i .i64)] r)) w):Ib [.pointer a,.pointer b,I_ i] w c:=h
def aiP(h:gO a b i w λr w=>c (e9 (dL [(.i .i64),(.i .i64)] r)) w):GC [.pointer a,.pointer b,I_ i] w c:=h
def ald(h:jL a b i w λr w=>c (e9 (dL [(.i .i64),(.i .i64)] r)) w):Ic [.pointer a,.pointer b,I_ i] w c:=h
def aiQ(h:jb a b i w λr w=>c (e9 (dL [(.i .i64),(.i .i64)] r)) w):GD [.pointer a,.pointer b,I_ i] w c:=h
def aiR(h:gP a b i w λr w=>c (e9 (dL [(.i .i64),(.i .i64)] r)) w):GF [.pointer a,.pointer b,I_ i] w c:=h
def ag1(h:fQ a b i w λr w=>c (e9 (dL [(.i .i64),(.i .i64)] r)) w):Ff [.pointer a,.pointer b,I_ i] w c:=h
def aiS(h:gQ a b i w λr w=>c (e9 (dL [(.i .i64),(.i .i64)] r)) w):GG [.pointer a,.pointer b,I_ i] w c:=h
def ag2(h:fS a b i w λr w=>c (e9 (dL [(.i .i64),(.i .i64)] r)) w):Fg [.pointer a,.pointer b,I_ i] w c:=h
def ale(h:iK a b i w λr w=>c (e9 (dL [(.i .i64),(.i .i64)] r)) w):Ie [.pointer a,.pointer b,I_ i] w c:=h
def alf(h:iL a b i w λr w=>c (e9 (dL [(.i .i64),(.i .i64)] r)) w):If [.pointer a,.pointer b,I_ i] w c:=h
def apa(h:jG a b i w λr w=>c (e9 (dL [(.i .i64),(.i .i64)] r)) w):Jp [.pointer a,.pointer b,I_ i] w c:=h
def aiT(h:gR a b i w λr w=>c (e9 (dL [(.i .i64),(.i .i64)] r)) w):GH [.pointer a,.pointer b,I_ i] w c:=h
def alg(h:iM a b i w λr w=>c (e9 (dL [(.i .i64),(.i .i64)] r)) w):Ig [.pointer a,.pointer b,I_ i] w c:=h
def alh(h:iN a b i w λr w=>c (e9 (dL [(.i .i64),(.i .i64)] r)) w):Ih [.pointer a,.pointer b,I_ i] w c:=h
def aiU(h:gS a b i w λr w=>c (e9 (dL [(.i .i64),(.i .i64)] r)) w):GI [.pointer a,.pointer b,I_ i] w c:=h
def acL(h:eJ a b i w λr w=>c (e9 (dL [(.i .i64),(.i .i64)] r)) w):Di [.pointer a,.pointer b,I_ i] w c:=h
def ag3(h:fT a b i w λr w=>c (e9 (dL [(.i .i64),(.i .i64)] r)) w):Fh [.pointer a,.pointer b,I_ i] w c:=h
def aen(h:fg a b i w λr w=>c (e9 (dL [(.i .i64),(.i .i64)] r)) w):En [.pointer a,.pointer b,I_ i] w c:=h
def ag4(h:fU a b i w λr w=>c (e9 (dL [(.i .i64),(.i .i64)] r)) w):Fi [.pointer a,.pointer b,I_ i] w c:=h
def Fv{r:ID}{F:Option Addr->Option Addr->Int->World->((Int×Int)->ap)->Prop}(h:St w0 w (uh g O::bH n M::L))(a:r.1.copy=O.copy)
  (b:∀{p R},St w0 w (au g (O.cells p)::bH n M::R)->Ov w0 g n p R k r->F (A_ g) (A_ n) wk w k)
  (d:∀w',St w0 w' (uh g r.1::bH n r.2.1::L)->k (r.2.2.1,r.2.2.2) w'):F (A_ g) (A_ n) wk w k:=by
 cases hc:O.copy with
 |none=>
  rw[rN hc]at h;refine b h λw' h=>d w' ?_;rw[rN (a.trans hc)];exact h
 |some c=>
  obtain⟨gc,h⟩:=IM hc h;refine b (R:=Qm gc c::L) (h.perm Hp) λw' h=>d w'<|Dq (a.trans hc) (h.perm Hp)
def Jx:(O.read M wk).1.copy=O.copy:=by
 unfold bu.read;split
 .split<;>rfl
 .rfl
def atn:(O.f2 M wk).1.copy=O.copy:=by
 unfold bu.f2;split
 .exact Jx
 .split
  .exact Jx
  .split<;>exact Jx
theorem ano{k:Int->ap}(h:St w0 w (uh ga O::bH yk M::L))(g:O.GX)(B:M.OK)(d:∀w',St w0 w' (uh ga (O.step M wk).1::bH yk (O.step M wk).2::L)->k (O.step M wk).1.how w'):fO (A_ ga) (A_ yk) wk w k:=by
 have how:∀{w:World} {c:Int->Prop},St w0 w (uh ga O::bH yk M::L)->c O.how->aJ .i64 w (aY ⟨ga,0,none⟩ 12) c:=by
  intro w c h j;cases q:O.copy with
  |none=>rw[rN q]at h;exact cr h rfl j
  |some c=>obtain⟨gc,h⟩:=IM q h;exact cr h rfl j
 have C:∀{w:World} {c:Value->Prop},St w0 w (uh ga O::bH yk M::L)->c (phF O.next)->tH w (aY ⟨ga,0,none⟩ 11) c:=by
  intro w c h j;cases q:O.copy with
  |none=>rw[rN q]at h;exact I2 h rfl j
  |some c=>obtain⟨gc,h⟩:=IM q h;exact I2 h rfl j
 unfold fO FN;unfold bu.step at d;refine aU rfl (bP (λb w'=>b= !O.live/\w'=w) (λJ x=>?_) ?_)
 .unfold bu.live at x;refine bc (how h (ax (λhb=>?_) λhb=>?_))
  .have y:(O.how==0)=false:=by simpa[bne]using hb
   rw[y]at x;exact bc (how h (x _ _ ⟨by simp[bne],rfl⟩))
  .grind
 rintro G H ⟨rfl,rfl⟩;refine ax (λhb=>?_) λhb=>?_
 .have z:O.live=false:=by simpa using hb
  rw[if_neg (by rw[z];simp)]at d
  exact bc (how h (d _ h))
 .have z:O.live=true:=by simpa using hb
  rw[if_pos z]at d;refine bc (C h ?_);have fin:∀w',St w0 w' (uh ga (O.run M wk).1::bH yk (O.run M wk).2.1::L)->Is [(.i .i64),(.i .i64)] (e9 (dL [(.i .i64),(.i .i64)] ((O.run M wk).2.2.1,(O.run M wk).2.2.2))) fun(s:Int×Int)=>
   cz (λl=>
    an (s.2 !=(0:Int)) (
     (l (6:Int) w')) (
     (l s.1 w'))) λm p=>
   nn (A_ ga) λt=>
   bN p (aY t 12) (I_ m) λu=>
   nn (A_ ga) λv=>
   bN u (aY v 14) (I_ s.2) λo=>
   (k m o):=by
   intro w' h;generalize O.run M wk=r at h d;show cz (λl=>
    an (r.2.2.2 !=(0:Int)) (
     (l (6:Int) w')) (
     (l r.2.2.1 w'))) λm p=>
   nn (A_ ga) λt=>
   bN p (aY t 12) (I_ m) λu=>
   nn (A_ ga) λv=>
   bN u (aY v 14) (I_ r.2.2.2) λo=>
   (k m o);refine bP (λn A=>n=(if r.2.2.2=0 then r.2.2.1 else 6)/\A=w') (λJ x=>?_) ?_
   .refine ax (λhb=>?_) λhb=>?_
    iterate 2 grind
   rintro n p ⟨rfl,rfl⟩;exact bc (atm h λo h=>d o h)
  clear d;have I:=g.n;obtain f|f|f|f|f|f|f|f|f|f|f|f|f|f|f|f|f|f|f|f:O.next=0\/O.next=1\/O.next=2\/O.next=3\/O.next=4\/O.next=5\/O.next=6\/O.next=7\/O.next=8\/O.next=9\/O.next=10\/O.next=11\/O.next=12\/O.next=13\/O.next=14\/O.next=15\/O.next=16\/O.next=17\/O.next=18\/O.next=19:=af;all_goals rw[f]
  .have e:O.run M wk=O.f0 M wk:=by unfold bu.run;simp only[f]
   rw[e]at fin;refine pD (λ_ _ _=>rfl) (aem ?_);exact Fv h rfl (λh d=>p0 g.a h d) fin
  .have e:O.run M wk=O.f1 M wk:=by unfold bu.run;simp only[f]
   rw[e]at fin;refine pD (λ_ _ _=>rfl) (alc ?_);exact Fv h rfl (λh d=>p1 g.a h d) fin
  .have e:O.run M wk=O.f2 M wk:=by unfold bu.run;simp only[f]
   rw[e]at fin;refine pD (λ_ _ _=>rfl) (aiP ?_);exact Fv h atn (λh d=>p2 g.a h d) fin
  .have e:O.run M wk=O.f3 M wk:=by unfold bu.run;simp only[f]
   rw[e]at fin;obtain⟨j,D,F⟩:=g.n3 f;rw[rN j]at h;refine pD (λ_ _ _=>rfl) (ald ?_);exact p3 h j B D F fin
  .obtain⟨c,j⟩:=g.n4 f;have e:O.run M wk=O.f4 M wk c:=by unfold bu.run;simp only[f,j]
   rw[e]at fin;obtain⟨gc,h⟩:=IM j h;refine pD (λ_ _ _=>rfl) (aiQ ?_);exact p4 h j fin
  .have e:O.run M wk=O.f5 M wk:=by unfold bu.run;simp only[f]
   rw[e]at fin;refine pD (λ_ _ _=>rfl) (aiR ?_);exact Fv h rfl (λh d=>p5 g.a h d) fin
  .have e:O.run M wk=O.f6 M wk:=by unfold bu.run;simp only[f]
   rw[e]at fin;refine pD (λ_ _ _=>rfl) (ag1 ?_);exact Fv h rfl (λh d=>p6 g.a h d) fin
  .have e:O.run M wk=O.f7 M wk:=by unfold bu.run;simp only[f]
   rw[e]at fin;refine pD (λ_ _ _=>rfl) (aiS ?_);exact Fv h rfl (λh d=>p7 g.a h d) fin
  .have e:O.run M wk=O.f8 M wk:=by unfold bu.run;simp only[f]
   rw[e]at fin;refine pD (λ_ _ _=>rfl) (ag2 ?_);exact Fv h rfl (λh d=>p8 g.a h d) fin
  .have e:O.run M wk=O.f9 M wk:=by unfold bu.run;simp only[f]
   rw[e]at fin;refine pD (λ_ _ _=>rfl) (ale ?_);exact Fv h (Jx) (λh d=>p9 g.a h d) fin
  .have e:O.run M wk=O.f10 M wk:=by unfold bu.run;simp only[f]
   rw[e]at fin;refine pD (λ_ _ _=>rfl) (alf ?_);exact Fv h rfl (λh d=>p10 g.a h d) fin
  .have e:O.run M wk=O.f11 M wk:=by unfold bu.run;simp only[f]
   rw[e]at fin;refine pD (λ_ _ _=>rfl) (apa ?_);exact Fv h rfl (λh d=>p11 g.a h d) fin
  .have e:O.run M wk=O.f12 M wk:=by unfold bu.run;simp only[f]
   rw[e]at fin;refine pD (λ_ _ _=>rfl) (aiT ?_);exact Fv h rfl (λh d=>p12 g.a h d) fin
  .have e:O.run M wk=O.f13 M wk:=by unfold bu.run;simp only[f]
   rw[e]at fin;refine pD (λ_ _ _=>rfl) (alg ?_);exact Fv h rfl (λh d=>p13 g.a h d) fin
  .have e:O.run M wk=O.f14 M wk:=by unfold bu.run;simp only[f]
   rw[e]at fin;refine pD (λ_ _ _=>rfl) (alh ?_);exact Fv h rfl (λh d=>p14 g.a h d) fin
  .have e:O.run M wk=O.f15 M wk:=by unfold bu.run;simp only[f]
   rw[e]at fin;refine pD (λ_ _ _=>rfl) (aiU ?_);exact Fv h rfl (λh d=>p15 g.a h d) fin
  .have e:O.run M wk=O.f16 M wk:=by unfold bu.run;simp only[f]
   rw[e]at fin;refine pD (λ_ _ _=>rfl) (acL ?_);exact Fv h rfl (λh d=>p16 g.a h d) fin
  .have e:O.run M wk=O.f17 M wk:=by unfold bu.run;simp only[f]
   rw[e]at fin;refine pD (λ_ _ _=>rfl) (ag3 ?_);exact Fv h (Jx) (λh d=>p17 g.a h d) fin
  .have e:O.run M wk=O.f18 M wk:=by unfold bu.run;simp only[f]
   rw[e]at fin;refine pD (λ_ _ _=>rfl) (aen ?_);exact Fv h rfl (λh d=>p18 g.a h d) fin
  .have e:O.run M wk=O.f19 M wk:=by unfold bu.run;simp only[f]
   rw[e]at fin;refine pD (λ_ _ _=>rfl) (ag4 ?_);exact Fv h rfl (λh d=>p19 g.a h d) fin
def Si{M:List HP}(h:St w0 w L)(e:L=M):St w0 w M:=e▸h
def bu.B7(at_ most x:Int)(next:Nat):bu:=⟨at_,most,0,0,Rg.zero,x,false,Rg.zero,none,next,0,0,0⟩
variable{k:Option Addr->ap}
def anp(h:St w0 w L)(a:∀g w',St w0 w' (uh g (bu.B7 at_ most x 0)::L)->k (A_ g) w'):eF #[I_ at_,I_ most] x w k:=by
 unfold eF;refine aM h λg1 d h=>je h rfl ⟨rfl,⟨rfl,aa6 rfl ?_⟩⟩;refine aM h λb c h=>a b c ?_;rw[rN rfl];exact Si (h.rm 1 rfl) aZ
def ato(h:St w0 w L)(a:∀g w',St w0 w' (uh g (bu.B7 at_ most 0 8)::L)->k (A_ g) w'):eM #[I_ at_,I_ most] w k:=by
 unfold eM;refine aM h λg1 d h=>je h rfl ⟨rfl,⟨rfl,aa6 rfl ?_⟩⟩;refine aM h λb c h=>a b c ?_;rw[rN rfl];exact Si (h.rm 1 rfl) aZ
def atp(h:St w0 w L)(a:∀g w',St w0 w' (uh g (bu.B7 at_ most 0 15)::L)->k (A_ g) w'):jP #[I_ at_,I_ most] w k:=by
 unfold jP;refine aM h λg1 d h=>je h rfl ⟨rfl,⟨rfl,aa6 rfl ?_⟩⟩;refine aM h λb c h=>a b c ?_;rw[rN rfl];exact Si (h.rm 1 rfl) aZ
def aa9{c:Int->Prop}(h:St w0 w L)[a:At L (uh ga) O f](d:∀p,(O.cells p)[yk]?=some (I_ x))(e:c x):aJ .i64 w ⟨ga,yk,none⟩ c:=by
 obtain⟨R,b,g⟩:=a.out;have h:=b h;cases q:O.copy with
 |none=>rw[rN q]at h;exact cr h (d _) e
 |some c=>obtain⟨gc,h⟩:=IM q h;exact cr h (d _) e
def bu.tell(O:bu):Int:=if O.how=2\/O.how=1 then O.got else 0
variable{k:Int->ap}
theorem aBs(h:St w0 w L)[a:At L (uh n) O f](c:k O.tell w):cG (A_ n) w k:=by
 unfold cG;unfold bu.tell at c;refine bP (λb w'=>b=decide (¬(O.how=2\/O.how=1))/\w'=w) (λJ d=>?_) ?_
 .refine aU rfl (bc (aa9 h (λ_=>rfl) (ax (λhb=>?_) λhb=>?_)))
  .have e:¬O.how=2:=by simpa using hb
   refine bc (aa9 h (λ_=>rfl) (d _ _ ⟨?_,rfl⟩));grind
  .grind
 rintro b g ⟨rfl,rfl⟩;refine ax (λhb=>?_) λhb=>?_
 .grind
 .rw[if_pos (Classical.byContradiction λq=>of_decide_eq_false hb q)]at c;exact bc (aa9 h (λ_=>rfl) c)
def aBt(h:St w0 w L)[a:At L (uh g) O f](b:k O.err w):iW (A_ g) w k:=by
 unfold iW;exact aU rfl (bc (aa9 h (λ_=>rfl) b))
variable{b:Nat}{t:TypeId}{z:Value}
theorem atq{kl kc:IntKind}{c:Sl->ap}(h:St w0 w L)(j:ET P t 1 b z)(l:z.oneCell'=true)
  (hbytes:b*n<=281474976710656) (a:n<=9223372036854775807)
  (m:∀s w',St w0 w' (bG 1 s []::L)->s.n=0->c s w'):xz P t (.int kl 0) (.int kc (n:Int)) w c:=by
 obtain⟨e,i,d,hi,f,o,p⟩:=j.out;have g:(i.bytes:Int)*(n:Int)<=281474976710656:=by grind
 have q:=Go.run_make w t e i z d hi p kl kc 0 n af af g af;unfold xz;rw[q,f,Nat.mul_one];show c ⟨some ⟨w.heap.size,0,none⟩,0,n⟩ _;refine m _ _ (h.new (CA w _) (F':=λk=>k=w.heap.size) ⟨λk=>?_,⟨rfl,bf,gq a,bf,.inr ⟨w.heap.size,0,_,rfl,pN.new w _ e,?_,bf⟩⟩⟩ λk r=>by rw[r];exact iw _) rfl
 .simp[Sl.au,eq_comm]
 .rw[Cy l];simp[madeCells]
def bJ.k8(M:bJ)(a:Int):Int:=if M.given a then M.get a else 0
def aba(h:St w0 w L)[a:At L (bH g) M f](b:k (M.k8 a') w):aO (A_ g) a' w k:=KG h b
def bJ.Cn(M:bJ)(r:Rg)(t:Int)(n:Nat):List Int:=(List.range n).map fun(i:Nat)=>M.k8 (r.place (t+(i:Int)))
def bJ.list(M:bJ)(at_:Int):List Int:=if (Rg.of (M.k8 (at_+2))).right=true/\M.k8 at_<M.k8 (at_+1)/\M.k8 (at_+1) - M.k8 at_<=(Rg.of (M.k8 (at_+2))).size then M.Cn (Rg.of (M.k8 (at_+2))) (M.k8 at_) (M.k8 (at_+1) - M.k8 at_).toNat else []
def ag5(M:bJ)(r:Rg)(t:Int)(n:Nat):M.Cn r t (n+1)=M.Cn r t n++[M.k8 (r.place (t+(n:Int)))]:=by
 unfold bJ.Cn;rw[List.range_succ,List.map_append];rfl
theorem axO(hA:xH at_){k:Sl->ap}(h:St w0 w (bH gc M::L))(h0:sy (M.k8 at_))(h1:sy (M.k8 (at_+1)))(hk:∀s w',St w0 w' (bG 1 s (ints (M.list at_))::bH gc M::L)->k s w'):lD #[I_ at_,I_ most] (A_ gc) w k:=by
 unfold lD BP;refine aM h λg1 w2 h=>aU rfl (je h rfl ?_);refine XU hA h λw5 h=>aba h<|az8 h λA h=>?_;generalize hr:Rg.of (M.k8 (at_+2))=r;have B:(M.list at_)=if r.right=true/\M.k8 at_<M.k8 (at_+1)/\M.k8 (at_+1) - M.k8 at_<=r.size then M.Cn r (M.k8 at_) (M.k8 (at_+1) - M.k8 at_).toNat else []:=by unfold bJ.list;rw[hr]
 have step:∀(a:Rg) (e:Int),(e=0↔r.right=true)->(e=0->a=r)->∀A,St w0 A (au g1 [I_ at_,I_ most]::bH gc M::L)->aE A #[(I_ (0:Int)),(I_ (0:Int))] 241 λp D=>
  dQ 2 D p a.ag λF=>
  drew F λf=>
  bx 2 f ⟨g1,0,none⟩ λG=>
  bx 2 f ⟨g1,0,none⟩ λH=>
  bj G f λi16 t=>
  ai 2 ⟨g1,0,none⟩ f t (
  aO (A_ gc) i16 t λl I=>
  ai 2 ⟨g1,0,none⟩ f I (
  az H I λi20 K=>
  aO (A_ gc) i20 K λm u=>
  cz (λN=>
   an ((e !=(0:Int))||(decide (m<=l))) (
    (N true u)) (
    bx 2 u p λO=>
    cg O u λi26 P=>
    (N (decide ((aF .u64 ((aF .u64 m) - (aF .u64 l)))>(aF .u64 i26))) P))) λQ y=>
  an Q (
   (k (Sl.mk none 0 0) y)) (
   xz Tryz.prog 156 (I_ (0:Int)) (I_ (aF .i64 (m - l))) y λR S=>
   jD (λC32 g o=>
    an (decide (g.2<m)) (
     bx 2 o p λT=>
     bl T g.2 o λi36 U=>
     aO (A_ gc) i36 U λi38 w39=>
     aE w39 #[(I_ i38)] 2 λa40 V=>
     og Tryz.prog #[156,156] 156 [(S_ g.1),(.slice (some a40) 1 1)] V λW X=>
     (C32 (W,(aF .i64 (g.2+(1:Int)))) X)) (
     (k g.1 o))) (R,l) S))):=by
  intro a e he ha A h;refine aM h λz D h=>m7 h rfl rfl (by intro v hv;simp[Rg.ag]at hv;rcases hv with rfl|rfl<;>rfl) λF h=>cH h λf h=>?_
  have h:St w0 f (au z a.ag.toList::au g1 [I_ at_,I_ most]::bH gc M::L):=h;refine je h rfl (je h rfl ?_);have Y:=h;refine Y9 h λt h=>eD Y h<|aba h (eD Y h ?_);refine AZ hA h λK h=>aba h<|bP (λb w'=>b= !decide (r.right=true/\M.k8 at_<M.k8 (at_+1)/\M.k8 (at_+1) - M.k8 at_<=r.size)/\St w0 w' (au z a.ag.toList::au g1 [I_ at_,I_ most]::bH gc M::L)) (λJ hJ=>?_) ?_
  .refine ax (λhb=>?_) λhb=>?_
   .grind
   .rw[kf]at hb;have he0:e=0:=by simpa using hb.1
    have hlt:=of_decide_eq_false hb.2;obtain rfl:=ha he0;refine je h rfl (XT h λP h=>hJ _ _ ⟨?_,h⟩);have hsz:=size_le a;rw[acE h1 h0 af,ak6 af af,Bool.eq_iff_iff,decide_eq_true_eq,Bool.not_eq_true',decide_eq_false_iff_not];grind
  rintro Q y ⟨rfl,h⟩;refine ax (λhb=>?_) λhb=>?_
  .have hno:=of_decide_eq_false ((Bool.not_eq_true' _).mp hb);rw[if_neg hno]at B;refine hk _ _ ?_;rw[B];exact(h.drop.drop).DJ 1
  .have Z:=of_decide_eq_true ((Bool.not_eq_false' _).mp hb);rw[if_pos Z]at B;obtain⟨hr1,hlt,hle⟩:=Z;have hsz:=size_le r;obtain rfl:=ha (he.2 hr1);have hI0:=h0;have hI1:=h1;unfold sy at hI0 hI1;have hd:aF .i64 (M.k8 (at_+1) - M.k8 at_)=M.k8 (at_+1) - M.k8 at_:=dh ⟨af,af⟩;rw[hd];obtain⟨d,hdn⟩:∃d:Nat,M.k8 (at_+1) - M.k8 at_=(d:Int):=⟨(M.k8 (at_+1) - M.k8 at_).toNat,af⟩;rw[hdn]at B ⊢;rw[iZ]at B;refine atq h (elI aZ) rfl af af λR S h n30=>ot (fun(x:Sl×Int) w'=> ∃j:Nat,x.2=M.k8 at_+j/\j<=d/\x.1.n=j/\St w0 w' (bG 1 x.1 (ints (M.Cn a (M.k8 at_) j))::au z a.ag.toList::au g1 [I_ at_,I_ most]::bH gc M::L)) (λx _=>(M.k8 (at_+1) - x.2).toNat) ⟨0,bf,af,n30,by simpa[bJ.Cn,ints]using h⟩ ?_
   rintro⟨s1,i⟩ o ⟨j,hj,hjd,uj,h⟩ C hC;dsimp only at hj uj h ⊢;subst hj;refine ax (λhb=>?_) λhb=>?_
   .have Z2:j<d:=by grind
    have KZ:aF .i64 (M.k8 at_+(j:Int)+1)=M.k8 at_+((j+1:Nat):Int):=by rw[dh ⟨af,af⟩];omega
    refine je h rfl (Mx h λU h=>?_);refine aba h<|aM h λg40 V h=>M9 (x:=⟨A_ g40,1,1⟩) h (elI aZ) aZ (WJ (n:=1) h.au rfl 1) (by simp[Value.oneCell']) (by simp only;omega) (by simp only;omega) λW X h n42=>?_
    rw[KZ];refine hC _ _ ⟨j+1,rfl,Z2,by simp only at n42;dsimp only;omega,?_⟩ (by dsimp only;omega)
    have e:ints (M.Cn a (M.k8 at_) (j+1))=ints (M.Cn a (M.k8 at_) j)++[I_ (M.k8 (a.place (M.k8 at_+(j:Int))))]:=by rw[ag5];simp[ints]
    rw[e];exact h.drop
   .have hjd:j=d:=by grind
    subst hjd;refine hk _ _ ?_;rw[B];exact(h.rm 1 rfl).rm 1 rfl
 cases hrr:r.right with
 |true=>rw[if_pos rfl];exact step r 0 (by simp[hrr]) (λ_=>rfl) A h
 |false=>rw[if_neg bf];exact step Rg.zero 11 (by simp[hrr]) (λq=>by cases q) A h
def abb(log most:Int):Bool:=decide (0<=log/\log<=most/\most<=8)
def EX(log:Int):Int:=((2 ^ log.toNat:Nat):Int)
def bJ.Jy(M:bJ)(wk log:Int):bJ:=(((M.tick wk).grow (3+EX log)).tick wk).put ((M.cells.length:Nat)+2) (Rg.word ⟨(M.cells.length:Nat)+3,log⟩)
theorem acM(a:0<=log)(b:log<=8):1<=EX log/\EX log<=256:=by
 have c:(2 ^ log.toNat:Nat)<=256:=EI af;have d:0<2 ^ log.toNat:=Nat.pow_pos af;unfold EX;grind
theorem xQ{n:Int}(h:0<=n):(((M.grow n).cells.length:Nat):Int)=(M.cells.length:Nat)+n:=by
 unfold bJ.grow;grind
def anr{k:Array Value×Int->ap}(h:St w0 w L)[a:At L (bH gc) M f](l:M.OK)(g:M.caller wk=true)(i:abb log most=true)
  (o:M.room (3+EX log)=true->∀w',St w0 w' (f (bH gc (M.Jy wk log)))->k (#[I_ ((M.cells.length:Nat):Int),I_ most],0) w')
  (h2:M.room (3+EX log)=false->∀w',St w0 w' (f (bH gc M))->k (#[I_ 0,I_ 0],21) w'):sY (A_ gc) wk log most w k:=by
 unfold sY Nt;unfold abb at i;simp only[decide_eq_true_eq]at i;obtain⟨b,p,q⟩:=i;have m:=acM b af;obtain⟨R,s,hb⟩:=a.out;replace h:=s h;refine zE λgx w h=>?_;refine aU (by simp;omega) ?_
 refine Gf af ?_;rw[XS b af];have t:IntKind.i64.wrap (3+((2 ^ log.toNat:Nat):Int))=3+EX log:=dh ⟨by unfold EX at m;omega,by unfold EX at m;omega⟩
 rw[t];have u:=l.size;refine GU h l (λ_ _ e w h=>?_) (λ_ _ e=>?_) λj=>(j ⟨g,af⟩).elim
 .have c:=e;unfold bJ.room at c;simp only[decide_eq_true_eq]at c;with_reducible repeat' (first|refine cH h λw h=>?_|refine Vh h ?_|refine QU h λw h=>?_|refine aM h λgx w h=>?_|refine I8 ?_)
  have v:xH ((M.cells.length:Nat):Int):=⟨af,af⟩;refine XU v h λw h=>?_;with_reducible repeat' (first|refine sR h ?_|fail)
  have x:aF .i64 (((M.cells.length:Nat):Int)+3)=((M.cells.length:Nat):Int)+3:=dh ⟨af,af⟩;show fD #[I_ (aF .i64 (((M.cells.length:Nat):Int)+3)),I_ log] _ _;rw[x];refine anj (r:=⟨((M.cells.length:Nat):Int)+3,log⟩) h λw h=>?_;have d:((M.tick wk).grow (3+EX log)).can wk ((M.cells.length:Nat)+2)=true:=by
   have y:=xQ (M:=M.tick wk) (n:=3+EX log) af;have z:(M.tick wk).cells.length=M.cells.length:=rfl;unfold bJ.can bJ.given bJ.caller at*
   simp only[decide_eq_true_eq,iY]at*
   refine⟨⟨g.1,?_⟩,?_⟩
   .simpa[bJ.grow,bJ.tick]using g.2
   .rw[y,z];omega
  refine stc h d λw h=>pS λw h=>o e w (hb (((h.rm 0 rfl).rm 0 rfl).rm 0 rfl))
 .refine pS λw h=>h2 e w (hb h.drop)
def VT{k:Int×Int->ap}(h:St w0 w L)[a:At L (bH g) M f](b:xH at_)(c:M.can wk (at_+1)=true)(d:∀w',St w0 w' (f (bH g (M.tick wk)))->k (M.get (at_+1),0) w'):cn #[I_ at_,I_ most] (A_ g) wk w k:=by
 unfold cn yu;refine zE λgx w h=>AZ b h λw h=>ldc h c λw h=>d w h.drop
def elL:ElT Tryz.prog 69 3 8 (I_ 0):=⟨aZ,aZ⟩
def aaj(self on idle:Int)(x:Nat):Bool:=(x:Int) !=self&&(tb on x&& !tb idle x)
def xI(self on idle:Int)(n:Nat):List Int:=((List.range n).filter (aaj self on idle)).map Int.ofNat
def VU(v:Int)(l:List Int):List Int:=l.drop (v % l.length).toNat++l.take (v % l.length).toNat
theorem acO(self on idle:Int)(n:Nat):xI self on idle (n+1)=xI self on idle n++(if aaj self on idle n then [(n:Int)]else []):=by
 unfold xI;rw[List.range_succ,List.filter_append,List.map_append];grind
theorem ae9(self on idle:Int)(n:Nat):(xI self on idle n).length<=n:=by
 unfold xI;grind
def alj{v m:Int}(a:0<m)(b:m<=16):abl (IntKind.i64.wrap (abl v m+m)) m=v % m:=by
 unfold abl;have c:v.tmod m<m:=Int.tmod_lt_of_pos _ a;have h2: -m<v.tmod m:=Int.lt_tmod_of_pos v a;rw[dh ⟨af,af⟩,Int.tmod_eq_emod_of_nonneg af,Int.add_emod_right,Int.tmod_def,Int.sub_emod,Int.mul_emod_right];simp
def aBu{f:Nat}(b:yi.length=n)(c:f<=n)(d:cs.length=n):
  (((cs.take 0++((yi.drop f).take (n - f)++cs.drop (0+(n - f)))).take (n - f))++(yi.take f++(cs.take 0++((yi.drop f).take (n - f)++cs.drop (0+(n - f)))).drop (n - f+f)))=yi.drop f++yi.take f:=by
 have a:(yi.drop f).take (n - f)=yi.drop f:=List.take_of_length_le (by simp;omega)
 have e2:(yi.drop f).length=n - f:=by simp;omega
 rw[a,List.take_zero,List.nil_append,Nat.zero_add,List.take_append_of_le_length af,List.take_of_length_le af];rw[List.drop_of_length_le (i:=n - f+f) (by simp;omega),List.append_nil]
variable{idle n on self:Int}
theorem aeo{v:Int}{k:Sl×Int->ap}(h1:1<=n)(h2:n<=16)(h3:0<=self)(h4:self<n)
  (N:∀s w',Ext w w'->Go.Ev.Own w' w.heap.size s (ints (VU v (xI self on idle n.toNat)))->k (s,0) w'):rj v self n on idle w k:=by
 unfold rj;refine aU (by simp;omega) ?_
 refine bP (λs w'=>Ext w w'/\Go.Ev.Own w' w.heap.size s (ints (xI self on idle n.toNat))) ?_ ?_
 .intro J hJ;refine ot (fun(x:Sl×Int) w'=> ∃i:Nat,x.2=i/\i<=n.toNat/\Ext w w'/\Go.Ev.Own w' w.heap.size x.1 (ints (xI self on idle i))) (λx _=>(n - x.2).toNat) ⟨0,rfl,af,.refl _ _,by simpa[xI,ints]using Own.nil w _⟩ ?_
  rintro⟨s,x⟩ w1 ⟨i,O,hi,f,a⟩ C P;simp only at O;subst O;refine ax (λl=>?_) (λU=>?_)
  .have l:(i:Int)<n:=by simpa using l
   refine bP (λb z=>z=w1/\b=aaj self on idle i) ?_ ?_
   .intro J5 o;refine ax (λj=>?_) (λA=>?_)
    .refine amU bf (o _ _ ⟨rfl,?_⟩);simp only;rw[aDf (aic _ _) af af,iZ,Vc _ _ af];simp only[aaj,j,Bool.true_and]
    .refine o _ _ ⟨rfl,?_⟩;simp only[aaj,A,Bool.false_and]
   .rintro b z ⟨rfl,rfl⟩;have u:IntKind.i64.wrap ((i:Int)+1)=((i+1:Nat):Int):=by rw[dh ⟨af,af⟩];simp
    refine ax (λhb=>?_) (λhb=>?_)
    .refine jJ λg Q q V W R=>?_;have X:=ae9 self on idle i;refine awT (x:=⟨A_ g,1,1⟩) (ys:=ints [(i:Int)]) elL rfl elL.1 (a.ext R) (WJ W rfl 1) IK (by have:=f.size;omega) (by simp;omega) (by simp;omega) λs' Y Z Dz aHP=>?_
     refine P _ _ ⟨i+1,u,af,?_,?_⟩ (by simp only[u];omega)
     .exact(f.trans R).then Dz (a.out (iw _))
     .rw[acO,if_pos hb];simpa[ints]using Z
    .refine P _ _ ⟨i+1,u,af,f,?_⟩ (by simp only[u];omega)
     rw[acO,if_neg (by simp[hb]),List.append_nil]
     exact a
  .grind
 .rintro s w1 ⟨f,a⟩;have X:=ae9 self on idle n.toNat;have c:=a.len;simp only[ints,List.length_map]at c;refine ax (λr=>?_) (λr=>?_)
  .have r:s.n=0:=by simpa using r
   have e:xI self on idle n.toNat=[]:=List.eq_nil_of_length_eq_zero af;refine N _ _ f ?_;rw[e];simpa[VU,ints]using Own.nil w1 _
  .have r:s.n≠0:=by simpa using r
   refine amT af (amT af ?_);have S:=alj (v:=v) (m:=s.n) af af;simp only[abl]at S;rw[S];have B:0<=v % s.n:=Int.emod_nonneg _ af;have hf1:v % s.n<s.n:=Int.emod_lt_of_pos _ af;refine amV elL rfl f.size af af λso z D F T hc2 jR IZ=>abS (a.ext F) B af λd hd G hdb bQ=>?_;have j:∀g,so.au=some g->∀H,s.au=some H->H≠g:=by
    intro g q H LF e;have:=(a.below LF).2;rw[jR]at q;cases q;omega
   refine abT elL D (Part.all so) bQ.sls (λv hv=>IK v (List.mem_of_mem_drop hv)) λQ I t V=>?_;rw[T,G,show min s.n (s.n - (v % s.n).toNat)=s.n - (v % s.n).toNat by omega]at I ⊢
   refine abS I af af λd2 K L aHQ aHR=>?_;have hs':Hj 1 Q s (ints (xI self on idle n.toNat)):=(a.ext F).sls.keep t λp hp q=>j _ q _ (by simp[Sl.au,hp]) rfl
   refine abT elL I K hs' IK λY y M hs4=>N _ _ ?_ ?_
   .exact((f.trans F).then t (D.out (iw _))).then M (D.out (iw _))
   .have e:VU v (xI self on idle n.toNat)=(xI self on idle n.toNat).drop (v % s.n).toNat++(xI self on idle n.toNat).take (v % s.n).toNat:=by rw[VU,c]
    rw[e];rw[L,T,show min (s.n - ((s.n - (v % s.n).toNat:Nat):Int).toNat) s.n=(v % s.n).toNat by omega]at y
    simp only[iZ]at y;rw[aBu (by simp;omega) af bf]at y
    simpa[ints]using y
def Lw(g:Nat)(D:List Int):HP:=Gt λs:Sl=>l9 [au g [S_ s],bG 1 s (ints D)]
variable{D:List Int}
def afa(h:St w0 w (Lw g D::R)):∃s:Sl,St w0 w (au g [S_ s]::bG 1 s (ints D)::R):=by
 obtain⟨s,h⟩:=h.some;exact⟨s,h.open⟩
def MB(h:St w0 w (au g [S_ s]::bG 1 s (ints D)::R)):St w0 w (Lw g D::R):=
 St.ex s (St.shut h)
variable{vs:List Value}
def _root_.Go.Ev.qo.aAb(h:qo 1 w s vs):Go.Ev.Own w 0 s vs:=by
 refine⟨by have:=h.len;omega,h.cap,h.max,h.one,h.row.imp id ?_⟩
 rintro⟨g,off,cs,h1,h2,h3,h4⟩;exact⟨g,off,cs,h1,Nat.zero_le _,h2,af,h4⟩
def _root_.Go.Ev.Own.s1(h:Go.Ev.Own w b s vs):qo 1 w s vs:=by
 refine⟨by have:=h.len;omega,h.cap,h.max,h.one,h.row.imp id ?_⟩
 rintro⟨g,off,cs,h1,_,h2,h3,h4⟩;exact⟨g,off,cs,h1,h2,af,h4⟩
def axP{ty:TypeId}{c:Int->ap}(h:St w0 w L)[a:At L (bG 1 s) (v::vs) f](x:ElT P t zr b z)
  (y:∀w' l,St w0 w' (f (bG 1 s (vs++[l])))->c (vs.length:Nat) w'):slL s 1 (1:Int) λd=>U1 P #[t,t] ty [S_ s,S_ d] w c:=by
 have j:=qY (s:=s) h;have r:qo 1 w s (v::vs):=h.own;refine abS r.aAb af (by simp at j;omega) λd D A _ g=>?_
 have m:d.n=vs.length:=by rw[A,j];simp
 have i:min s.n d.n=vs.length:=by rw[m,j];simp
 refine abT x r.aAb (Part.all s) g.sls g.one λw' o B _=>?_;rw[i]at o ⊢;have p:vs.length<(v::vs).length:=by simp
 have zr:(v::vs).take 0++(((v::vs).drop (1:Int).toNat).take vs.length++(v::vs).drop (0+vs.length))=vs++[(v::vs)[vs.length]]:=by
  rw[List.take_zero,List.nil_append,Nat.zero_add,List.drop_eq_getElem_cons p];simp
 rw[zr]at o;refine y w' _ (h.M8 a λC u=>⟨B.mono λk _ q=>(u.1 k).2 q,C,⟨u.1,o.s1⟩,λk q=> .inl q⟩)
def elD:ElT Tryz.prog 156 2 8 (I_ 0):=⟨aZ,aZ⟩
def att{k:Option Addr->ap}(h:St w0 w L)(a:∀g w',St w0 w' (Lw g []::L)->k (A_ g) w'):ng w k:=by
 unfold ng;refine aM h λg w h=>a g w (MB (s:=⟨none,0,0⟩) ?_);exact(h.DJ 1).swap
def ape(h:St w0 w L)[a:At L (Lw g) D f](e:∀w',St w0 w' (f (Lw g D.tail))->k (D.headD 0) w'):mA (A_ g) w k:=by
 unfold mA;obtain⟨R,i,hb⟩:=a.out;obtain⟨s,h⟩:=afa (i h);have c:=qY (s:=s) h;refine bP (λb w'=>b=D.isEmpty/\w'=w) (λJ j=>?_) ?_
 .refine n8<|j _ _ ⟨?_,rfl⟩;cases D with
  |nil=>simp at c;simp[c]
  |cons x D=>simp at c;simp[c];omega
 rintro _ _ ⟨rfl,rfl⟩;cases D with
 |nil=>exact bK rfl (e _ (hb (MB h)))
 |cons x D=>
  refine aU rfl<|n8 ?_;refine vI h af rfl<|pS λw h=>axP h elD λw l h=>?_;refine pS λw h=>?_;have m:s.n=D.length+1:=gq c
  show Th s 1 0 (aF .i64 (((s.n:Nat):Int) - 1)) _;have o:aF .i64 (((s.n:Nat):Int) - 1)=(D.length:Nat):=by
   have:=(h.own (sz:=1) (s:=s)).max;have:=(h.own (sz:=1) (s:=s)).cap;rw[m,kg ⟨af,af⟩];omega
  rw[o];refine am1 h af (by simp;omega) λd q h=>?_
  have p:(ints D++[l]).take ((D.length:Nat):Int).toNat=ints D:=by simp_all
  rw[p]at h;refine pS λw h=>e w (hb (MB h))
def atu{l:Sl}(h:St w0 w (au gc [I_ x]::Lw g D::R))(c:D.length<1024->∀w',St w0 w' (Lw g (D++[x])::R)->k 0 w')(d:¬D.length<1024->∀w',St w0 w' (Lw g D::R)->k 20 w')(m:D.length<=1024):
  nN (A_ g) ⟨A_ gc,1,1⟩ w k:=by
 unfold nN;obtain⟨s,h⟩:=afa h.swap;have f:=qY (s:=s) h;have i:s.n=D.length:=gq f
 refine n8 ?_;show an (decide (((1:Nat):Int)>aF .i64 ((1024:Int) - ((s.n:Nat):Int)))) _ _;rw[i,kg ⟨af,af⟩];by_cases a:D.length<1024
 .refine aU (by simp;omega) ?_
  refine n8<|I9 (s:=s) h (b:=8) (z:= I_ 0) ⟨aZ,rfl⟩ aZ rfl (by simp;omega) af λs' w h j=>?_
  refine pS λw h=>c a w (MB (s:=s') ?_);have e:ints (D++[x])=ints D++[I_ x]:=by simp[ints]
  rw[e];exact h.rm 2 rfl
 .refine bK (by simp;omega) (d a w (MB (h.rm 2 rfl)))
def atv{k:Sl×Int->ap}(h:St w0 w L)(c:1<=n)(h2:n<=16)(d:0<=self)(e:self<n)
  (a:∀s w',St w0 w' (bG 1 s (ints (VU x (xI self on idle n.toNat)))::L)->k (s,0) w'):rj x self n on idle w k:=by
 refine aeo c h2 d e λs w' f b=>a s w'<|h.new f ⟨λk=>Iff.rfl,b.s1⟩ λk a=>(b.below a).1
def aDZ(b:Option Code):Array Oper:=match b with|some (.seq _ (.seq _ (.seq (.region _ ops _) _)))=>ops|_=> #[]
noncomputable def atw:Array Oper:=aDZ Tryz.f340.body
def ans(e:Env)(w:World)(k:Int->ap):Prop:=
 abq Tryz.prog (kC []) atw (atw.toList.drop 5) e w λe w=>lP (e.keep 21) λe=>amG Tryz.prog Tryz.f340.results.toList (λl w=>qW [.i .i64] l λx=>k x w) .ret e w
def atx(x n a m:Int):Env:=[(9,.val (.int .u64 m)),(8,.val (.int .u64 a)),(7,.val (.int .u64 n)),(6,.val (.int .u64 x)),(5,.val (.int .u64 x)),(4,.val (.bool (x==0))),(2,.val (I_ 0)),(0,.val (.int .u64 x))]
def tzB(x n a m:Int)(w:World)(k:Int->ap):ans (atx x n a m) w k=Hf (Addr.mk 3 0 none) 64 (IR .u64 m 58) 1 λb=>aJ .u8 w b λc=>k (aF .i64 c) w:=by kernel_rfl
def tzA(x:Int)(w:World)(k:Int->ap):bT x w k=an (x==0) (k 64 w)
 (ans (atx x (aF .u64 (0 - x)) (oH .u64 x (aF .u64 (0 - x))) (aF .u64 ((oH .u64 x (aF .u64 (0 - x)))*285870213051353865))) w k):=by kernel_rfl
def alk:List Nat:=[0,1,56,2,57,49,28,3,61,58,42,50,38,29,17,4,62,47,59,36,45,43,51,22,53,39,33,30,24,18,12,5,63,55,48,27,60,41,37,16,46,35,44,21,52,32,23,11,54,26,40,15,34,20,31,10,25,14,19,9,13,8,7,6]
def TZ(w:World):Prop:=∀i,i<64->w.cell? ⟨3,i,none⟩=some (.int .u8 (alk.getD i 0:Nat))
def axQ:∀i,i<64->alk.getD ((2 ^ i*285870213051353865 % 2 ^ 64) / 2 ^ 58) 0=i/\(2 ^ i*285870213051353865 % 2 ^ 64) / 2 ^ 58<64:=e7
def low(x i:Nat):Prop:=x.testBit i=true/\∀j,j<i->x.testBit j=false
variable{x:Nat}
theorem ant(h:0<x):∃i,low x i:=by
 obtain⟨j,a⟩:=Nat.exists_testBit_of_ne_zero (by omega:x≠0)
 induction j using Nat.strongRecOn with
 |_ j ih=>
  by_cases b:∃i,i<j/\x.testBit i=true
  .grind
  .exact⟨j,a,λi hi=>by
    cases hb:x.testBit i with
    |false=>rfl
    |true=>exact(b ⟨i,hi,hb⟩).elim⟩
variable{i:Nat}
def XV(h:low x i)(a:x<2 ^ 64):i<64:=by
 apply Classical.byContradiction;intro b;have:=Nat.testBit_lt_two_pow (Nat.lt_of_lt_of_le a (Nat.pow_le_pow_right af (by omega:64<=i)))
 rw[h.1]at this;cases this
theorem axR(h:low x i)(f:x<2 ^ 64):(BitVec.ofNat 64 x&&& -(BitVec.ofNat 64 x)).toNat=2 ^ i:=by
 have hi:=XV h f;apply Nat.eq_of_testBit_eq;intro j;rw[BitVec.testBit_toNat,BitVec.getLsbD_and,BitVec.getLsbD_neg,Nat.testBit_two_pow];by_cases d:j<64
 .have hb:∀m,m<64->(BitVec.ofNat 64 x).getLsbD m=x.testBit m:=λm b=>by rw[BitVec.getLsbD_ofNat];simp[b]
  rw[hb j d];simp only[d,decide_true,Bool.true_and];by_cases a:i=j
  .subst a;rw[h.1];have:¬∃m<i,(BitVec.ofNat 64 x).getLsbD m=true:=by
    rintro⟨m,b,e⟩;rw[hb m af,h.2 m b]at e;cases e
   simp[this]
  .cases g:x.testBit j with
   |false=>simp[a]
   |true=>
    have c:i<j:=by
     apply Classical.byContradiction;intro k;have:=h.2 j af;rw[g]at this;cases this
    have:∃m<j,(BitVec.ofNat 64 x).getLsbD m=true:=⟨i,c,by rw[hb i hi];exact h.1⟩
    simp[this,a]
 .grind
def Ds:IntKind.u64.wrap n=n % 18446744073709551616:=by
 unfold aF;simp[IntKind.bits,IntKind.signed]
theorem aAc(h:St w0 w L)(g:TZ w0)(d:low x i)(f:x<2 ^ 64)(j:k i w):bT (x:Int) w k:=by
 have hi:=XV d f;have n:x≠0:=by
  intro e;subst e;have:=d.1;simp at this
 rw[tzA,tzB];refine aU (by simp;omega) ?_
 have l:oH .u64 (x:Int) (aF .u64 (0 - (x:Int)))=((2 ^ i:Nat):Int):=by
  have hand:∀a b:Int,oH .u64 a b=IntKind.u64.wrap ((BitVec.ofInt 64 a&&&BitVec.ofInt 64 b).toNat:Nat):=λ_ _=>rfl;have m:aF .u64 (0 - (x:Int))=((2 ^ 64 - x:Nat):Int):=by rw[Ds];omega
  rw[m,hand];simp only[BitVec.ofInt_natCast];have c:BitVec.ofNat 64 (2 ^ 64 - x)= -(BitVec.ofNat 64 x):=by
   apply BitVec.eq_of_toNat_eq;simp[BitVec.toNat_neg];omega
  rw[c,axR d f,Ds];have:2 ^ i<2 ^ 64:=Nat.pow_lt_pow_right af hi;grind
 have e2:IR .u64 (aF .u64 (((2 ^ i:Nat):Int)*285870213051353865)) 58=(((2 ^ i*285870213051353865 % 2 ^ 64) / 2 ^ 58:Nat):Int):=by
  unfold IR;rw[Ds];have o:min (58:Int).toNat IntKind.u64.bits=58:=e7;grind
 rw[l,e2];obtain⟨t1,t2⟩:=axQ i hi;refine⟨⟨af,af⟩,?_⟩;rw[dg,iZ,Nat.zero_add,Nat.mul_one];refine uZ (h.ext.cell (g _ t2)) ?_;rw[t1,kg ⟨af,af⟩];exact j
def bitsOf(x:Nat):List Nat:=(List.range 64).filter x.testBit
theorem aiV{y:Nat}(hi:i<64)(h:low x i)(b:∀j,y.testBit j=(x.testBit j&&decide (j≠i))):bitsOf x=i::bitsOf y:=by
 unfold bitsOf;have e:List.range 64=List.range i++i::(List.range (64 - (i+1))).map (·+(i+1)):=by
  have c:(64:Nat)=i+((64 - (i+1))+1):=af;conv=>lhs;rw[c,List.range_add,List.range_succ_eq_map]
  simp only[List.map_cons,List.map_map,Nat.add_zero];congr 2;apply List.map_congr_left;grind
 have f1:(List.range i).filter x.testBit=[]:=List.filter_eq_nil_iff.2 λj a=>by rw[h.2 j (List.mem_range.1 a)];simp
 have f2:(List.range i).filter y.testBit=[]:=List.filter_eq_nil_iff.2 λj a=>by rw[b,h.2 j (List.mem_range.1 a)];simp
 rw[e,List.filter_append,List.filter_append,f1,f2,List.filter_cons,List.filter_cons,h.1,b i,h.1];simp only[if_true,List.nil_append,ne_eq,not_true_eq_false,decide_false,Bool.and_false,Bool.false_eq_true,if_false];congr 1;apply List.filter_congr;grind
theorem alm(h:low x i)(g:x<2 ^ 64):∀j,(x&&&(x - 1)).testBit j=(x.testBit j&&decide (j≠i)):=by
 have hi:=XV h g;have k:0<x:=by
  apply Classical.byContradiction;intro l;have:x=0:=af;subst this;have:=h.1;simp at this
 have e:x&&&(x - 1)=(BitVec.ofNat 64 x&&&~~~(-(BitVec.ofNat 64 x))).toNat:=by grind
 intro j;rw[e,BitVec.testBit_toNat,BitVec.getLsbD_and,BitVec.getLsbD_not,BitVec.getLsbD_neg];by_cases d:j<64
 .have hb:∀m,m<64->(BitVec.ofNat 64 x).getLsbD m=x.testBit m:=λm b=>by rw[BitVec.getLsbD_ofNat];simp[b]
  rw[hb j d];simp only[d,decide_true,Bool.true_and];by_cases a:j=i
  .subst a;rw[h.1];have:¬∃m<j,(BitVec.ofNat 64 x).getLsbD m=true:=by
    rintro⟨m,b,f⟩;rw[hb m af,h.2 m b]at f;cases f
   simp[this]
  .cases n:x.testBit j with
   |false=>simp
   |true=>
    have c:i<j:=by
     apply Classical.byContradiction;intro l;have:=h.2 j af;rw[n]at this;cases this
    have:∃m<j,(BitVec.ofNat 64 x).getLsbD m=true:=⟨i,c,by rw[hb i hi];exact h.1⟩
    simp[this,a]
 .grind
def aty(c:x<2 ^ 64)(e:0<x):oH .u64 (x:Int) (aF .u64 ((x:Int) - 1))=((x&&&(x - 1):Nat):Int):=by
 have hand:∀a b:Int,oH .u64 a b=IntKind.u64.wrap ((BitVec.ofInt 64 a&&&BitVec.ofInt 64 b).toNat:Nat):=λ_ _=>rfl;have d:aF .u64 ((x:Int) - 1)=((x - 1:Nat):Int):=by rw[Ds];omega
 rw[d,hand];simp only[BitVec.ofInt_natCast,BitVec.toNat_and,BitVec.toNat_ofNat];rw[Nat.mod_eq_of_lt c,Nat.mod_eq_of_lt af,Ds];have:x&&&(x - 1)<=x:=Nat.and_le_left;omega
def apf:bitsOf 0=[]:=e7
def apg(h:Cj Y v y2 w λr w=>c (.tuple #[]) w):ug Y [v,.pointer (some y2)] w c:=h
def afb(h:St w0 w L)(s:TZ w0)(t:x<2 ^ 63)(u:∀w',St w0 w' L->k ((bitsOf x).length:Nat) w'):kS (x:Int) w k:=by
 unfold kS Lj pQ;refine aM h λv w h=>zE λgx w h=>S1 h λa D b w h=>My (apg ?_);unfold Cj EA;refine n8 ?_;have l:x<2 ^ 64:=Nat.lt_trans t e7;have z:aF .u64 (x:Int)=(x:Int):=by rw[Ds];omega
 rw[z];refine DN (λq i w=>i=(q.2:Int)/\q.2<2 ^ 64/\q.1+(bitsOf q.2).length=(bitsOf x).length/\St w0 w (au gx [I_ (x:Int)]::obj a (b .ready)::obj D (.deferred (some []))::au v [I_ (q.1:Nat)]::L)) (λq=>(bitsOf q.2).length)
  (g:=(0,x)) ⟨rfl,l,bf,h.perm Hp⟩ ?_
 rintro⟨m,y⟩ _ w ⟨rfl,d,f,h⟩ C p;dsimp only at d f h p ⊢;have A:(bitsOf x).length<=64:=by unfold bitsOf;exact Nat.le_trans (List.length_filter_le _ _) bf
 by_cases n:y=0
 .subst n;refine aU bf ?_;refine⟨DM h,?_⟩;replace h:=AV (g:=a) (b .exhausted) h;generalize w.putObj a (b .exhausted)=w at h ⊢;refine n8 ?_;have h:=LK ((QR h).perm Hp);refine LL h λw h=>?_;rw[apf]at f;simp only[List.length_nil,Nat.add_zero]at f;rw[f];exact u w (((h.rm 0 rfl).rm 0 rfl).rm 0 rfl)
 .obtain⟨i,j⟩:=ant (by omega:0<y)
  have hi:=XV j d;refine bK (by simp;omega) ?_
  refine aAc h s j d<|QS<|amZ (i:Int) (λc B=>B) h λw h=>pS λw h=>?_;refine⟨DM h,?_⟩;replace h:=AV (g:=a) (b .ready) h;generalize w.putObj a (b .ready)=w at h ⊢;refine ags<|n8 ?_;have o:=aiV hi j (alm j d);have r:(bitsOf y).length=(bitsOf (y&&&(y - 1))).length+1:=by rw[o];rfl
  rw[aty d af];have F:y&&&(y - 1)<=y:=Nat.and_le_left;refine p (m+1,y&&&(y - 1)) _ w ⟨rfl,af,by dsimp only;omega,?_⟩ (by dsimp only;omega)
  have e:aF .i64 ((m:Int)+1)=((m+1:Nat):Int):=by rw[kg ⟨af,af⟩];omega
  rw[<-e];exact h
def XW(x:Nat)(n:Int):Int:=match (List.range 64).find? (λj=> !x.testBit j)with|some j=>if (j:Int)>=Wg n 64 then -1 else j|none=> -1
theorem atz(e:x<2 ^ 64):JV .u64 18446744073709551615 (x:Int)=((2 ^ 64 - 1 - x:Nat):Int):=by
 have c:∀a b:Int,JV .u64 a b=IntKind.u64.wrap ((BitVec.ofInt 64 a ^^^ BitVec.ofInt 64 b).toNat:Nat):=λ_ _=>rfl;rw[c];have d:BitVec.ofInt 64 18446744073709551615=BitVec.allOnes 64:=e7;rw[d,BitVec.allOnes_xor,BitVec.toNat_not,Ds];grind
theorem acP{j:Nat}(a:x<2 ^ 64)(b:j<64):(2 ^ 64 - 1 - x).testBit j= !x.testBit j:=by
 have:=Nat.testBit_two_pow_sub_succ a j;grind
theorem aph(h:St w0 w L)(d:TZ w0)(l:x<2 ^ 63)(a:∀w',St w0 w' L->k (XW x n) w'):sI (x:Int) n w k:=by
 unfold sI Ll;have e:aF .u64 (x:Int)=(x:Int):=by rw[Ds];omega
 rw[e,atz af];have b:0<2 ^ 64 - 1 - x:=af;obtain⟨i,c⟩:=ant b;have hi:=XV c af;have a:=a w h;unfold XW at a;have f:(List.range 64).find? (λj=> !x.testBit j)=some i:=by
  rw[List.find?_range_eq_some];refine⟨by rw[<-acP af hi];exact c.1,gq hi,λj g=>?_⟩
  have:=c.2 j g;rw[acP af af]at this;simpa using this
 rw[f]at a;dsimp only at a;refine aAc h d c af<|ax (λhb=>?_) λhb=>?_
 iterate 2 grind
def tD(x i:Int):Bool:=if 0<=i/\i<64 then oH .i64 (IR .i64 x i) 1==1 else false
variable{i:Int}{k:Bool->ap}
theorem ag6(a:k (tD n i) w):kK n i w k:=by
 unfold kK;unfold tD at a;refine ax (λhb=>?_) λhb=>?_
 .have hb:0<=i/\i<64:=by simpa using hb
  rw[if_pos hb]at a;exact amU hb.1 a
 .grind
structure Sp where
 at_:Int
 base:Int
 most:Int
def Sp.OK(s:Sp):Prop:=1<=s.base/\s.base<=16/\0<=s.most/\s.most<=16 - s.base
abbrev Sp.ag(s:Sp):Array Value:=#[I_ s.at_,I_ s.base,I_ s.most]
def Sp.bb(s:Sp):Int:=wr (sD .i64 1 s.base - 1)
structure jH where
 self:Int
 wait:Int
 on:Int
 ag7:Int
 next:Nat
def spF:Nat->Nat
 |1=>vg
 |2=>vf
 |3=>u9
 |4=>vh
 |5=>ve
 |_=>sL
def aBw(g:Nat):Nat->Value
 |0=> .nilFunc
 |n+1=> .func (.func (spF (n+1))) #[.pointer (A_ g)] #[]
def jH.cells(s:Sp)(g:Nat)(o:jH):List Value:=[I_ s.at_,I_ s.base,I_ s.most,I_ o.self,I_ o.wait,I_ o.on,I_ o.ag7,aBw g o.next]
def aak(x:Int):Int:=((bitsOf x.toNat).length:Nat)
section
variable (s:Sp) (M:bJ) (wk:Int) (o:jH)
def jH.more:jH×bJ:=({o with wait:=wr (M.get s.at_+1),next:=4},M.ad wk s.at_ 1)
def jH.less:jH×bJ:=({o with next:=0},M.ad wk s.at_ (-1))
def jH.look:jH×bJ:=({o with wait:=M.get s.at_,next:=5},M.tick wk)
def jH.need:jH×bJ:=(if aak (M.get (s.at_+1))<s.most/\aak (M.get (s.at_+1))<o.wait then{o with on:=M.get (s.at_+1),self:=XW (Ti .i64 (M.get (s.at_+1)) s.bb).toNat 16,next:=6}else{o with on:=M.get (s.at_+1),next:=0},M.tick wk)
def jH.many:jH×bJ:=(if tD (M.get (s.at_+1)) o.self=true/\aak (M.get (s.at_+1))>o.wait then{o with on:=M.get (s.at_+1),next:=6}else{o with on:=M.get (s.at_+1),next:=0},M.tick wk)
def jH.aeR:jH×bJ:=(let r:=M.cs wk (s.at_+1) o.on (JV .i64 o.on (sD .i64 1 (ZR o.self 0)));(if r.2 then{o with ag7:=o.self,next:=0}else{o with next:=0},r.1))
def jH.go:jH×bJ:=match o.next with
 |0=>(o,M)
 |1=>o.more s M wk
 |2=>o.less s M wk
 |3=>o.look s M wk
 |4=>o.need s M wk
 |5=>o.many s M wk
 |_=>o.aeR s M wk
end
variable{s:Sp}
def VW(h:St w0 w L)(hs:s.OK)(a:∀w',St w0 w' L->k true w'):cf s.ag w k:=by
 obtain⟨b,h2,c,d⟩:=hs;unfold cf;refine zE λgx w h=>?_;refine bK (gq b) ?_
 refine n8 ?_;refine bK (gq h2) ?_
 refine n8 ?_;refine bK (gq c) ?_
 refine n8 ?_;show k (decide (s.most<=aF .i64 (16 - s.base))) w;rw[kg ⟨af,af⟩,decide_eq_true d];exact a w h.drop
variable{k:Int->ap}
def afc(h:St w0 w L)(hs:s.OK)(hk:∀w',St w0 w' L->k s.bb w'):eb s.ag w k:=by
 obtain⟨a,h2,b,c⟩:=hs;unfold eb;refine zE λgx w h=>?_;refine Gf af<|hk w h.drop
def Sp.bits(s:Sp)(M:bJ):Int:=Ti .i64 s.bb (M.get (s.at_+1))
def afd(h:St w0 w L)[a:At L (bH x) M f](hs:s.OK)(d:M.OK)(c:M.given (s.at_+1)=true)(e:∀w',St w0 w' L->k (s.bits M) w'):ec s.ag (A_ x) w k:=by
 unfold ec zX;refine aM h λga w h=>bP (λb w=>b=false/\St w0 w (au ga s.ag.toList::L)) (λJ g=>?_) ?_
 .refine n8 ?_;refine VW h hs λw h=>g _ _ ⟨rfl,h⟩
 rintro _ w ⟨rfl,h⟩;refine pS λw h=>afc h hs λw h=>?_;with_reducible repeat' (first|refine nP h ?_|fail)
 rw[y4 (.inr c) d];refine KG h ?_;rw[if_pos c];exact e w h.drop
def anu{k:Bool->ap}(h:St w0 w L)[a:At L (bH g) M f](hs:s.OK)(b:M.OK)(c:M.given (s.at_+1)=true)(hk:∀w',St w0 w' L->k (tD (s.bits M) i) w'):dA s.ag (A_ g) i w k:=by
 unfold dA CR;refine aM h λga w h=>n8<|afd h hs b c λw h=>ag6<|hk w h.drop
def atB{k:Array Value×Int->ap}(h:St w0 w L)[a2:At L (bH x) M f](hs:Sp.OK ⟨0,n,most⟩)(b:M.caller wk=true)(c:M.OK)
  (d:M.room 2=true->∀w',St w0 w' (f (bH x ((M.tick wk).grow 2)))->k (Sp.ag ⟨(M.cells.length:Nat),n,most⟩,0) w') (e:M.room 2=false->∀w',St w0 w' L->k (Sp.ag ⟨0,0,0⟩,21) w'):
  uA (A_ x) wk n most w k:=by
 unfold uA Nr;with_reducible repeat' (first|refine Vh h ?_|refine QU h λw h=>?_|refine aM h λgx w h=>?_|refine I8 ?_)
 refine VW h hs λw h=>n8 ?_;refine GU h c (λ_ _ a w h=>?_) (λ_ _ a=>?_) λg=>(g ⟨b,af⟩).elim
 .refine pS λw h=>d a w h.drop.drop
 .refine pS λw h=>e a w h.drop.drop
def jH.B7(self:Int)(n:Nat):jH:=⟨self,0,0, -1,n⟩
variable{k:Option Addr->ap}
def atC(h:St w0 w L)(a:∀g w',St w0 w' (au g (jH.cells s g (jH.B7 0 1))::L)->k (A_ g) w'):jY s.ag w k:=by
 unfold jY;refine zE λgx w h=>?_;refine⟨rfl,?_⟩;refine aM h λb w h=>pS λw h=>a b w (h.rm 1 rfl)
def api(h:St w0 w L)(a:∀g w',St w0 w' (au g (jH.cells s g (jH.B7 0 2))::L)->k (A_ g) w'):iD s.ag w k:=by
 unfold iD;refine zE λgx w h=>?_;refine⟨rfl,?_⟩;refine aM h λb w h=>pS λw h=>a b w (h.rm 1 rfl)
def apj(h:St w0 w L)(a:∀g w',St w0 w' (au g (jH.cells s g (jH.B7 self 3))::L)->k (A_ g) w'):jv s.ag self w k:=by
 unfold jv;refine zE λgx w h=>?_;refine⟨rfl,?_⟩;refine aM h λb w h=>?_;with_reducible repeat' (first|refine Hq h λw h=>?_|fail)
 exact a b w (h.rm 1 rfl)
variable{k:Int->ap}{o:jH}
def atD(h:St w0 w L)[a:At L (au g) (jH.cells s g o) f](hk:k o.ag7 w):nM (A_ g) w k:=by
 unfold nM;refine n8<|hk
abbrev afe(w0:World)(s:Sp)(g gm:Nat)(R:List HP)(k:Int->ap)(r:jH×bJ):Prop:=∀w',St w0 w' (au g (jH.cells s g r.1)::bH gm r.2::R)->k 0 w'
def sp1(h:St w0 w (au g (jH.cells s g o)::bH x M::R))(a:M.can wk s.at_=true)(b:afe w0 s g x R k (o.more s M wk)):mh (A_ g) (A_ x) wk w k:=by
 unfold mh FQ;refine n8<|cr h rfl ?_;refine VR h a λw h=>pS λw h=>b w h
def sp2(h:St w0 w (au g (jH.cells s g o)::bH x M::R))(a:M.can wk s.at_=true)(b:afe w0 s g x R k (o.less s M wk)):mi (A_ g) (A_ x) wk w k:=by
 unfold mi FR;refine n8<|cr h rfl ?_;refine VR h a λw h=>pS λw h=>b w h
def sp3(h:St w0 w (au g (jH.cells s g o)::bH x M::R))(a:M.can wk s.at_=true)(b:afe w0 s g x R k (o.look s M wk)):mj (A_ g) (A_ x) wk w k:=by
 unfold mj FT;refine n8<|cr h rfl ?_;refine ldc h a λw h=>pS λw h=>b w h
def axS(d:g<2 ^ 63)(hb:b<2 ^ 63):Ti .i64 (g:Int) (b:Int)=((g|||b:Nat):Int)/\g|||b<2 ^ 63:=by
 have h:g|||b<2 ^ 63:=Nat.or_lt_two_pow d hb;have c:∀g b:Int,Ti .i64 g b=IntKind.i64.wrap ((BitVec.ofInt 64 g|||BitVec.ofInt 64 b).toNat:Nat):=λ_ _=>rfl
 refine⟨?_,h⟩;rw[c];simp only[BitVec.ofInt_natCast,BitVec.toNat_or,BitVec.toNat_ofNat];rw[Nat.mod_eq_of_lt af,Nat.mod_eq_of_lt af,kg ⟨af,af⟩]
theorem axT(hs:s.OK):∃b:Nat,s.bb=b/\b<2 ^ 63:=by
 obtain⟨c,h2,_⟩:=hs;have key:∀n:Nat,n<17->wr (sD .i64 1 (n:Int) - 1)=((2 ^ n - 1:Nat):Int)/\2 ^ n - 1<2 ^ 63:=e7;obtain⟨hb,a⟩:=key s.base.toNat af;refine⟨2 ^ s.base.toNat - 1,?_,a⟩;unfold Sp.bb;grind
theorem sp4(h:St w0 w (au g (jH.cells s g o)::bH gc M::R))(e:TZ w0)(hs:s.OK)(j:M.OK)(f:M.can wk (s.at_+1)=true)(d:∃x:Nat,M.get (s.at_+1)=x/\x<2 ^ 63)(a:afe w0 s g gc R k (o.need s M wk)):mo (A_ g) (A_ gc) wk w k:=by
 unfold mo FU;obtain⟨x,d,c⟩:=d;unfold jH.need at a;rw[d]at a;have l:aak (x:Int)=((bitsOf x).length:Nat):=rfl;refine n8<|cr h rfl ?_;rw[y4 (.inr (pe f)) j];refine ldc h f λw h=>?_;rw[d];refine pS λw h=>afb h e c λw h=>?_;rw[<-l];refine bP (λb w'=>w'=w/\b=decide (aak (x:Int)<s.most/\aak (x:Int)<o.wait)) (λJ m=>?_) ?_
 .refine n8<|cr (g:=g) h rfl<|ax (λhb=>?_) λhb=>?_
  .have hb:=of_decide_eq_true hb;refine n8<|m _ _ ⟨rfl,?_⟩;simp[hb,jH.cells]
  .grind
 rintro _ _ ⟨rfl,rfl⟩;refine ax (λhb=>?_) λhb=>?_
 .rw[if_pos (of_decide_eq_true hb)]at a;refine n8<|afc h hs λw h=>?_;obtain⟨b,n,p⟩:=axT hs;have i:=axS c p;rw[n,i.1]at a ⊢;refine aph h e i.2 λw h=>pS λw h=>a w h
 .rw[if_neg (of_decide_eq_false hb)]at a;exact a _ h
theorem sp5(h:St w0 w (au g (jH.cells s g o)::bH gc M::R))(i:TZ w0)(hs:s.OK)(j:M.OK)(e:M.can wk (s.at_+1)=true)(a:∃x:Nat,M.get (s.at_+1)=x/\x<2 ^ 63)(c:afe w0 s g gc R k (o.many s M wk)):mq (A_ g) (A_ gc) wk w k:=by
 unfold mq FV;obtain⟨x,a,d⟩:=a;unfold jH.many at c;rw[a]at c;have l:aak (x:Int)=((bitsOf x).length:Nat):=rfl;refine n8<|cr h rfl ?_;rw[y4 (.inr (pe e)) j];refine ldc h e λw h=>?_;rw[a];refine pS λw h=>bP (λb w'=>St w0 w' (au g (jH.cells s g {o with on:=(x:Int),next:=0})::bH gc (M.tick wk)::R)/\b=decide (tD (x:Int) o.self=true/\aak (x:Int)>o.wait)) (λJ f=>?_) ?_
 .refine pS λw h=>ag6 (ax (λhb=>?_) λhb=>?_)
  .refine n8<|afb h i d λw h=>?_;with_reducible repeat' (first|refine nP h ?_|fail)
   rw[<-l];refine f _ _ ⟨h,?_⟩;grind
  .refine f _ _ ⟨h,?_⟩;grind
 rintro _ w ⟨h,rfl⟩;refine ax (λhb=>?_) λhb=>?_
 .rw[if_pos (of_decide_eq_true hb)]at c;refine pS λw h=>c w h
 .grind
def sp6(h:St w0 w (au g (jH.cells s g o)::bH x M::R))(c:M.OK)(b:M.can wk (s.at_+1)=true)(a:afe w0 s g x R k (o.aeR s M wk)):mr (A_ g) (A_ x) wk w k:=by
 unfold mr FW;unfold jH.aeR at a;refine pS λw h=>cr h rfl ?_;refine n8 ?_;refine Gf (by unfold ZR;split<;>simp_all) ?_
 rw[y4 (.inr (pe b)) c];refine ank h b λw h=>pS λw h=>ax (λhb=>?_) λhb=>?_
 .have hb:(M.cs wk (s.at_+1) o.on (JV .i64 o.on (sD .i64 1 (ZR o.self 0)))).2=true:=hb;simp only[hb,if_true]at a;refine pS λw h=>a w h
 .have hb:(M.cs wk (s.at_+1) o.on (JV .i64 o.on (sD .i64 1 (ZR o.self 0)))).2=false:=hb;simp only[hb,Bool.false_eq_true,if_false]at a;exact a w h
variable{b:Option Addr}
def atE(h:mh a b i w λr w=>c (I_ r) w):Md [.pointer a,.pointer b,I_ i] w c:=h
def atF(h:mi a b i w λr w=>c (I_ r) w):Me [.pointer a,.pointer b,I_ i] w c:=h
def atG(h:mj a b i w λr w=>c (I_ r) w):Mf [.pointer a,.pointer b,I_ i] w c:=h
def atH(h:mo a b i w λr w=>c (I_ r) w):Mg [.pointer a,.pointer b,I_ i] w c:=h
def atI(h:mq a b i w λr w=>c (I_ r) w):Mh [.pointer a,.pointer b,I_ i] w c:=h
def atJ(h:mr a b i w λr w=>c (I_ r) w):Mi [.pointer a,.pointer b,I_ i] w c:=h
structure jH.GX (s:Sp) (M:bJ) (wk:Int) (o:jH):Prop where
 n:o.next<=6
 c:M.can wk s.at_=true
 c1:M.can wk (s.at_+1)=true
 x:∃x:Nat,M.get (s.at_+1)=x/\x<2 ^ 63
def Ze{k:Bool×Int->ap}(h:St w0 w (au g (jH.cells s g o)::bH x M::R))(f:TZ w0)(hs:s.OK)(a:M.OK)(l:o.GX s M wk)
  (hk:∀w',St w0 w' (au g (jH.cells s g (o.go s M wk).1)::bH x (o.go s M wk).2::R)->k ((o.go s M wk).1.next==0,0) w'):dI (A_ g) (A_ x) wk w k:=by
 obtain⟨i,b,c,j⟩:=l;unfold dI FX;refine n8 ?_;refine VW h hs λw h=>n8 ?_;obtain⟨m,p,on,q,nx⟩:=o;dsimp only at i;have fin:∀(r:jH×bJ) w,(∀w',St w0 w' (au g (jH.cells s g r.1)::bH x r.2::R)->k (r.1.next==0,0) w')->St w0 w (au g (jH.cells s g r.1)::bH x r.2::R)->
   tH w (aY ⟨g,0,none⟩ 7) λd=>abm d λe=>k (e,(0:Int)) w:=by
  intro r w hk h;refine n8 ?_;have hk:=hk w h;cases hr:r.1.next with
  |zero=>
   rw[hr]at hk;exact am0 hk
  |succ n=>
   rw[hr]at hk;exact Ng hk
 match nx,i with
 |0,_=>
  refine am0<|n8<|hk w h
 |1,_=>
  refine Ng<|n8 ?_;refine bV (λ_ _ _=>rfl) (atE ?_);refine sp1 h b λw h=>I0 (aU rfl (fin _ w hk h))
 |2,_=>
  refine Ng<|n8 ?_;refine bV (λ_ _ _=>rfl) (atF ?_);refine sp2 h b λw h=>I0 (aU rfl (fin _ w hk h))
 |3,_=>
  refine Ng<|n8<|bV (λ_ _ _=>rfl) (atG ?_);refine sp3 h b λw h=>I0 (aU rfl (fin _ w hk h))
 |4,_=>
  refine Ng<|n8<|bV (λ_ _ _=>rfl) (atH ?_);refine sp4 h f hs a c j λw h=>I0 (aU rfl (fin _ w hk h))
 |5,_=>
  refine Ng<|n8<|bV (λ_ _ _=>rfl) (atI ?_);refine sp5 h f hs a c j λw h=>I0 (aU rfl (fin _ w hk h))
 |6,_=>
  refine Ng<|n8<|bV (λ_ _ _=>rfl) (atJ ?_);refine sp6 h a c λw h=>I0 (aU rfl (fin _ w hk h))
end Go.Proofs.YthidhjhkmjjckaaGreatDoor
namespace Go.Proofs.YthidhjhkmjjckaaGreatDoor.Fr
open Go Go.Ev Go.Proofs
def A0(f:List Int)(pc:Int):List Int:=(f.set 1 pc).set 18 (IntKind.i64.wrap ((f.set 1 pc).getD 18 0+1))
def nE(f:List Int):List Int:=A0 f (IntKind.i64.wrap (f.getD 1 0+1))
variable{f:List Int}{pc:Int}
def qH:(A0 f pc).length=f.length:=by simp[A0]
def kz:(nE f).length=f.length:=qH
abbrev Z(n:Nat):List Int:=dU n 0
variable{k:Array Value->ap}{w:World}
def atK(a:f.length=19)(m:∀w',Ext w w'->k (eZ (A0 f pc)) w'):de (eZ f) pc w k:=by
 unfold de;refine jJ λg1 w1 n o p c=>jJ λg2 q z A r d=>?_;have s:BI q g1 f:=p.ext d;simp only[dg,Nat.zero_add];refine CB s af λB e C i=>j3 e (by simp;omega) ?_
 refine CB e (by simp;omega) λD t u j=>?_
 refine kV t (by simp[a]) ?_
 have v:=(r.keep i af).keep j af;refine xT v rfl (by simp[a]) λF x y b=>kV x (by simp[a]) ?_
 exact m _ ((((c.trans d).then i λg l=>by omega).then j λg l=>by omega).then b λg l=>by have:=c.size;omega)
def acQ(a:f.length=19)(j:∀w',Ext w w'->k (eZ (nE f)) w'):av (eZ f) w k:=by
 unfold av yq;refine jJ λg1 w1 l m n c=>jJ λg2 o s t p d=>?_;have e:BI o g1 f:=n.ext d;simp only[dg,Nat.zero_add];refine kV e a (j3 e af (atK a λu i=>?_));refine xT (p.ext i) rfl (by simp[qH,a]) λv q r b=>kV q (by simp[qH,a]) ?_
 exact j _ (((c.trans d).trans i).then b λg x=>by have:=c.size;omega)
variable{yv:List Int}
def ag8(h:yv.length=19):∃a b c d e f g h i j k m n o p q r s t,yv=[a,b,c,d,e,f,g,h,i,j,k,m,n,o,p,q,r,s,t]:=by
 match yv,h with
 |[a,b,c,d,e,f,g,h,i,j,k,m,n,o,p,q,r,s,t],_=>exact⟨a,b,c,d,e,f,g,h,i,j,k,m,n,o,p,q,r,s,t,rfl⟩
def nF:List Int:=[0,0,0,0,0,0,0,0,0,0, -1, -1, -1, -1, -1, -1, -1, -1,0]
variable{yk:Nat}
def apl{i:Nat}(h:i<8):(dU 10 (0:Int)++(dU i (-1)++dU (9 - i) 0)).set (10+i) (-1)=dU 10 0++(dU (i+1) (-1)++dU (9 - (i+1)) 0):=by
 match i,h with
 |0,_=>rfl
 |1,_=>rfl
 |2,_=>rfl
 |3,_=>rfl
 |4,_=>rfl
 |5,_=>rfl
 |6,_=>rfl
 |7,_=>rfl
theorem anv(hk:∀w',Ext w w'->k (eZ nF) w'):lN w k:=by
 unfold lN;refine jJ λg1 w1 p q r j=>jJ λg2 l B D s m=>?_;simp only[dg,Nat.zero_add];have c:BI l g2 (dU 10 0++(dU 0 (-1)++dU (9 - 0) 0)):=by
  have e:(dU 10 (0:Int)++(dU 0 (-1)++dU (9 - 0) 0))=Z 19:=e7;rw[e];exact s
 refine ot (fun(x:Int) w'=> ∃i:Nat,x=i/\i<=8/\BI w' g2 (dU 10 0++(dU i (-1)++dU (9 - i) 0))/\o7 (λk=>k=g2) l w') (λx _=>(8 - x).toNat) ⟨0,rfl,af,c,.refl _ _⟩ ?_;rintro _ w3 ⟨i,rfl,hi,n,d⟩ C hC;refine ax (λa=>?_) (λb=>?_)
 .have a:i<8:=by
    grind
  refine uu af af ?_;simp only[iZ,Nat.mul_one];refine CB n (by simp;omega) λF t u v=>?_
  have o:IntKind.i64.wrap ((i:Int)+1)=((i+1:Nat):Int):=by rw[dh ⟨af,af⟩];simp
  exact hC _ _ ⟨i+1,o,af,by rw[<-apl a];exact t,d.trans v (λ_ _ h=>h) λ_ _ h=>h⟩ (by rw[o];omega)
 .have b:i=8:=by
    grind
  subst b;refine kV n rfl<|xT ((r.ext m).keep d af) rfl rfl λG y z f=>kV y rfl<|hk _ (((j.trans m).then d λg A=>by have:=j.size;omega).then f λg A=>by omega)
def nY:List Int:=[1,0,0,5,1,1,0,0,1,1,1,0,1,1,1,0,1,1,1,0,1,1,1,0,0,0,0,2,1,0,0,2,1,0,0,3,1,1,0,0,1,1,1,0,0,0,0,4,1,0,0,0,0,0,0,0,0,0,0,0,1,0,0,0,1,0,0,0]
def VY(k:Int):Int×Int:=if k=1 then(0,7)else if k=2 then(0,127)else if k=3 then(0,31)else if k=4 then(0,65535)else if k=5 then(-2147483648,2147483647)else(0,0)
def pY(op j:Nat):Int×Int:=VY (nY.getD (4*op+j) 0)
def Gh(i:List Int)(j:Nat):Bool:=decide ((pY (i.getD 0 0).toNat j).1<=i.getD (j+1) 0/\i.getD (j+1) 0<=(pY (i.getD 0 0).toNat j).2)
def oV(i:List Int):Int:=if i.getD 0 0<0\/i.getD 0 0>=17 then 13 else if Gh i 0&&Gh i 1&&Gh i 2&&Gh i 3 then 0 else 10
theorem ag9{k:Int×Int->ap}(a:k (VY pc) w):rR pc w k:=by
 unfold rR;unfold VY at a;refine ax (λh=>?_) (λh=>?_)
 .grind
 rw[if_neg (gq h)]at a
 refine ax (λh=>?_) (λh=>?_)
 .grind
 rw[if_neg (gq h)]at a
 refine ax (λh=>?_) (λh=>?_)
 .grind
 rw[if_neg (gq h)]at a
 refine ax (λh=>?_) (λh=>?_)
 .grind
 rw[if_neg (gq h)]at a
 refine ax (λh=>?_) (λh=>?_)
 .grind
 grind
def Sj(e:0<=pc)(t:pc<17)(f:∀w',Ext w w'->k (eZ ((nY.drop (pc.toNat*4)).take 4)) w'):mg pc w k:=by
 unfold mg;refine jJ λg1 w1 i j l a=>qL (eZ (nY.take 4++Z 64)) rfl rfl<|qL (eZ (nY.take 8++Z 60)) rfl rfl<|qL (eZ (nY.take 12++Z 56)) rfl rfl<|qL (eZ (nY.take 16++Z 52)) rfl rfl<|qL (eZ (nY.take 20++Z 48)) rfl rfl<|qL (eZ (nY.take 24++Z 44)) rfl rfl<|qL (eZ (nY.take 28++Z 40)) rfl rfl<|qL (eZ (nY.take 32++Z 36)) rfl rfl<|qL (eZ (nY.take 36++Z 32)) rfl rfl<|qL (eZ (nY.take 40++Z 28)) rfl rfl<|qL (eZ (nY.take 44++Z 24)) rfl rfl<|qL (eZ (nY.take 48++Z 20)) rfl rfl<|qL (eZ (nY.take 52++Z 16)) rfl rfl<|qL (eZ (nY.take 56++Z 12)) rfl rfl<|qL (eZ (nY.take 60++Z 8)) rfl rfl<|qL (eZ (nY.take 64++Z 4)) rfl rfl<|qL (eZ nY) rfl rfl<|jJ λg2 u v x m b=>xT m rfl rfl λy n z c=>?_;have o:=(l.ext b).keep c af;refine uu e af ?_;rw[Nat.zero_add];have d:nY.length=68:=rfl;refine aro n af<|xT o rfl (by simp[d];omega) λA p q r=>kV p (by simp[d];omega) ?_
 exact f _ (((a.trans b).then c λg s=>by have:=a.size;omega).then r λg s=>by omega)
variable{j:Nat}
def four(h:j<4):j=0\/j=1\/j=2\/j=3:=af
variable{i:List Int}
theorem atL(a:¬(i.getD 0 0<0\/i.getD 0 0>=17))(b:j<4)(hb:Gh i j=false):oV i=10:=by
 unfold oV;grind
theorem aff(a:¬(i.getD 0 0<0\/i.getD 0 0>=17))(hb:∀j,j<4->Gh i j=true):oV i=0:=by
 unfold oV;grind
theorem aln(h:yk<17)(a:j<4):((nY.drop (yk*4)).take 4).getD j 0=nY.getD (4*yk+j) 0:=by grind
def aBx(a:j<4):[i.getD 1 0,i.getD 2 0,i.getD 3 0,i.getD 4 0].getD j 0=i.getD (j+1) 0:=by
 rcases four a with rfl|rfl|rfl|rfl<;>rfl
theorem aiY{k:Int->ap}(hi:i.length=5)(n:∀w',Ext w w'->k (oV i) w'):fa (eZ i) w k:=by
 unfold fa Gg;refine jJ λg1 w1 y z A o=>?_;have d:BI w1 g1 i:=A;simp only[dg,Nat.zero_add];refine bP (λb w'=>b=decide (i.getD 0 0<0\/i.getD 0 0>=17)/\w1=w') ?_ ?_
 .intro J r;refine j3 d af (ax (λh=>r _ _ ⟨?_,rfl⟩) λh=>?_)
  .grind
  .simp only[decide_eq_false_iff_not]at h;refine j3 d af (r _ _ ⟨?_,rfl⟩);rw[decide_eq_decide];omega
 rintro _ _ ⟨rfl,rfl⟩;refine ax (λh=>?_) λh=>?_
 .have h:=of_decide_eq_true h;have e:oV i=13:=by unfold oV;rw[if_pos h]
  rw[<-e];exact n _ o
 have h:=of_decide_eq_false h;refine j3 d af (Sj af af λP s=>?_);refine jJ λg3 Q B R D F=>?_;have G:((nY.drop ((i.getD 0 0).toNat*4)).take 4).length=4:=by
  have:nY.length=68:=rfl;grind
 refine xT D rfl G λp H I K=>?_;have q:Ext w1 p:=(s.trans F).then K λg S=>by have:=s.size;omega
 have f:BI p g1 i:=d.ext q;refine j3 f af (j3 f af (j3 f af (j3 f af ?_)));refine ot (fun(x:Int×Int) w'=>p=w'/\x.1=0/\∃j:Nat,x.2=j/\j<=4/\∀m,m<j->Gh i m=true) (λx _=>(4 - x.2).toNat) ⟨rfl,rfl,0,rfl,af,λm L=>by omega⟩ ?_
 rintro⟨out,_⟩ _ ⟨rfl,t,j,u,M,N⟩ C O;simp only at t u;subst t;subst u;refine ax (λa=>?_) λc=>?_
 .have a:j<4:=by
    grind
  refine arp (l:=[i.getD 1 0,i.getD 2 0,i.getD 3 0,i.getD 4 0]) bf (by simp;omega) rfl ?_
  rw[iZ,aBx a];refine I0 (uu af af ?_);rw[iZ,Nat.mul_one,Nat.zero_add];refine j3 H af ?_;rw[aln af a];refine ag9 ?_;have e:((decide (i.getD (j+1) 0<(VY (nY.getD (4*(i.getD 0 0).toNat+j) 0)).1))||(decide (i.getD (j+1) 0>(VY (nY.getD (4*(i.getD 0 0).toNat+j) 0)).2)))= !Gh i j:=by
   unfold Gh pY;grind
  rw[e];refine ax (λhb=>?_) λhb=>?_
  .rw[<-atL h a (gq hb)]
   exact n _ (o.trans q)
  .have v:IntKind.i64.wrap ((j:Int)+1)=((j+1:Nat):Int):=by rw[dh ⟨af,af⟩];simp
   refine O _ _ ⟨rfl,rfl,j+1,v,af,λm L=>?_⟩ (by simp only[v];omega)
   grind
 .have c:j=4:=by
    grind
  subst c;simp only;rw[<-aff h N];exact n _ (o.trans q)
variable{op:Int}
def aD3(a:0<=op)(b:op<17):op=0\/op=1\/op=2\/op=3\/op=4\/op=5\/op=6\/op=7\/op=8\/op=9\/op=10\/op=11\/op=12\/op=13\/op=14\/op=15\/op=16:=af
def o5(i:List Int)(op:Int):Bool:=i.getD 0 0==op&&oV i==0
theorem F6{k:Bool->ap}(hi:i.length=5)(a:∀w',Ext w w'->k (o5 i op) w'):eR (eZ i) op w k:=by
 unfold eR NW;refine jJ λg1 w1 c d e f=>?_;have b:BI w1 g1 i:=e;simp only[dg,Nat.zero_add];unfold o5 at a;refine j3 b af (ax (λh=>?_) λh=>?_)
 .refine kV b hi (aiY hi λj g=>?_);have:=a _ (f.trans g);rwa[h,Bool.true_and]at this
 .grind
variable{zp:Bool}
def atN{k:Int->ap}(a:k (if zp then 1 else 0) w):mX zp w k:=by
 unfold mX;cases zp<;>exact a
def aha(h:oV i=0):0<=i.getD 0 0/\i.getD 0 0<17/\∀j,j<4->(pY (i.getD 0 0).toNat j).1<=i.getD (j+1) 0/\i.getD (j+1) 0<=(pY (i.getD 0 0).toNat j).2:=by
 unfold oV at h;split at h
 .cases h
 .rename_i c;split at h
  .rename_i a;simp only[iY]at a;refine⟨af,af,λj b=>?_⟩;rcases four b with rfl|rfl|rfl|rfl
   .exact of_decide_eq_true a.1.1.1
   .exact of_decide_eq_true a.1.1.2
   .exact of_decide_eq_true a.1.2
   .exact of_decide_eq_true a.2
  .cases h
def Zf:∀op,op<17->∀j,j<3->0<=(pY op j).1/\(pY op j).2<=7:=e7
theorem vG(h:oV i=0):(0<=i.getD 1 0/\i.getD 1 0<8)/\(0<=i.getD 2 0/\i.getD 2 0<8)/\0<=i.getD 3 0/\i.getD 3 0<8:=by
 obtain⟨d,e,hs⟩:=aha h;have a:=hs 0 af;have b:=hs 1 af;have c:=hs 2 af;have a':=Zf (i.getD 0 0).toNat af 0 af;have f:=Zf (i.getD 0 0).toNat af 1 af;have c':=Zf (i.getD 0 0).toNat af 2 af;grind
abbrev fR(f:List Int)(r:Int):Int:=f.getD (2+r.toNat) 0
def Sk(f i:List Int):Int:=
 if i.getD 0 0=0 then i.getD 4 0 else if i.getD 0 0=1 then fR f (i.getD 2 0)else if i.getD 0 0=2 then IntKind.i64.wrap (fR f (i.getD 2 0)+fR f (i.getD 3 0))
 else if i.getD 0 0=3 then IntKind.i64.wrap (fR f (i.getD 2 0) - fR f (i.getD 3 0))else if i.getD 0 0=4 then IntKind.i64.wrap (fR f (i.getD 2 0)*fR f (i.getD 3 0))
 else if fR f (i.getD 2 0)<fR f (i.getD 3 0)then 1 else 0
def dY(f i:List Int):List Int×Bool:=
 if oV i≠0 then(f,false)
 else if i.getD 0 0=6\/(i.getD 0 0=7/\fR f (i.getD 1 0)≠0)then(A0 f (i.getD 4 0),true)
 else if i.getD 0 0=7 then(nE f,true)
 else if i.getD 0 0>5 then(f,false)
 else(nE (f.set (2+(i.getD 1 0).toNat) (Sk f i)),true)
def qt(a:f.length=19):(dY f i).1.length=19:=by
 unfold dY;split
 .exact a
 .split
  .simp only[qH,a]
  .split
   .simp only[kz,a]
   .split
    .exact a
    .simp only[kz,List.length_set,a]
def atO(g3 gb gc:Nat):Array Value:=#[.func (.func oy) #[] #[.pointer (A_ g3)],.func (.func oz) #[] #[.pointer (A_ gb)],.func (.func oA) #[] #[.pointer (A_ gb),.pointer (A_ gc)],
 .func (.func oB) #[] #[.pointer (A_ gb),.pointer (A_ gc)],.func (.func oC) #[] #[.pointer (A_ gb),.pointer (A_ gc)],.func (.func oD) #[] #[.pointer (A_ gb),.pointer (A_ gc)]]
def axU{k:Sl->ap}(hf:f.length=19)(hi:i.length=5)(S:0<=i.getD 2 0/\i.getD 2 0<8)(T:0<=i.getD 3 0/\i.getD 3 0<8)
  (U:∀w' g g3 m gc,Ext w w'->pN w' g (atO g3 m gc)->BI w' g3 i->BI w' m [fR f (i.getD 2 0)]->BI w' gc [fR f (i.getD 3 0)]->k ⟨A_ g,6,6⟩ w'):kx (eZ f) (eZ i) w k:=by
 unfold kx;refine jJ λg1 w1 V W X Y=>jJ λg2 C M7 IZ Z P=>?_;have vF:BI C g1 f:=X.ext P;have Q:BI C g2 i:=Z;simp only[dg,Nat.zero_add];refine bP (λx w'=>Ext C w'/\∃m gc,x=(⟨m,0,none⟩,⟨gc,0,none⟩)/\BI w' m [fR f (i.getD 2 0)]/\BI w' gc [fR f (i.getD 3 0)]) ?_ ?_
 .intro J R;refine M6 λp hh3 q=>?_;have e:BI p g1 f:=vF.ext q;have j:BI p g2 i:=Q.ext q;refine j3 j af (uu S.1 af (j3 e af ?_));refine j3 j af (uu T.1 af (j3 e af ?_));simp only[Nat.mul_one];have st:∀{w':World} {n o:Nat} {c:Prop},Ext p w'->c->ai n ⟨g1,o,none⟩ p w' c:=λD F=>BV e (e.ext D) F;have Zg:∀{w':World} {n o:Nat} {c:Prop},Ext p w'->c->ai n ⟨g2,o,none⟩ p w' c:=λD F=>BV j (j.ext D) F;refine⟨?_,?_⟩
  .refine jJ λu G v y z a=>st a (Zg a (st a (Zg a ?_)));refine jJ λg5 w5 H I K A=>?_;have b:=a.trans A;refine st b (Zg b (st b (Zg b ?_)));refine CB (l:=[0]) (z.ext A) bf λw6 r L d=>?_;have s:=b.then d λg M=>by omega
   refine st s (Zg s ?_);refine CB (l:=[0]) (K.keep d af) bf λw7 t N B=>R _ _ ⟨q.trans (s.then B λg M=>by omega),u,g5,rfl,r.keep B af,t⟩
  .refine jJ λu G v y z a=>st a (Zg a (st a (Zg a ?_)));refine jJ λg5 w5 H I K A=>?_;have b:=a.trans A;refine st b (Zg b (st b (Zg b ?_)));refine CB (l:=[0]) K bf λw6 r L d=>?_;have s:=b.then d λg M=>by omega
   refine st s (Zg s ?_);refine CB (l:=[0]) ((z.ext A).keep d af) bf λw7 t N B=>R _ _ ⟨q.trans (s.then B λg M=>by omega),g5,u,rfl,r.keep B af,t⟩
 .rintro x p ⟨q,m,gc,rfl,O,hbc⟩;refine⟨rfl,⟨rfl,⟨rfl,⟨rfl,⟨rfl,⟨rfl,jJ λu G v y z a=>?_⟩⟩⟩⟩⟩⟩;exact U G u g2 m gc (((Y.trans P).trans q).trans a) z ((Q.ext q).ext a) (O.ext a) (hbc.ext a)
theorem atP{k:Array Value×Bool->ap}(a:f.length=19)(hi:i.length=5)(hk:∀w',Ext w w'->k (eZ (dY f i).1,(dY f i).2) w'):jc (eZ f) (eZ i) w k:=by
 unfold jc Ac;refine jJ λg1 w1 hg1 hs1 AR AK=>jJ λg2 w2 M7 IZ jR u5=>jJ λg3 P hg3 Vi sQ T=>?_;have O4:=(AK.trans u5).trans T;have vF:BI P g1 f:=(AR.ext u5).ext T;have zg:BI P g2 i:=jR.ext T;have hsz:=AK.size;simp only[dg,Nat.zero_add];have fin:∀(l:List Int) (b:Bool) (w':World),Ext P w'->l.length=19->(dY f i)=(l,b)->(dQ 19 w' ⟨g3,0,none⟩ (eZ l) λA=>bx 19 A ⟨g3,0,none⟩ λcs=>k (cs,b) A):=by
  intro l b w' he hl e;refine xT (sQ.ext he) rfl hl λA s U t=>kV s hl ?_;have:=hk A ((O4.trans he).then t λg hg=>by omega)
  rwa[e]at this
 refine kV zg hi (aiY hi λB q=>?_);have C:BI B g1 f:=vF.ext q;have u:BI B g2 i:=zg.ext q;refine ax (λh=>kV C a (fin f false B q a ?_)) λh=>?_
 .unfold dY;rw[if_pos (gq h)]
 have h:oV i=0:=gq h
 obtain⟨hA,hB,hC⟩:=vG h;obtain⟨h0,h17,_⟩:=aha h;refine j3 u af<|bP (λb w'=>b=decide (i.getD 0 0=6\/(i.getD 0 0=7/\fR f (i.getD 1 0)≠0))/\B=w') ?_ ?_
 .intro J hJ;refine ax (λQ=>?_) λQ=>?_
  .grind
  .have Q:i.getD 0 0≠6:=by simpa using Q
   refine j3 u af (ax (λj=>?_) λj=>?_)
   .have j:i.getD 0 0=7:=by simpa using j
    refine j3 u af (uu hA.1 af (j3 C af (hJ _ _ ⟨?_,rfl⟩)));grind
   .grind
 rintro _ _ ⟨rfl,rfl⟩;refine ax (λD=>?_) λD=>?_
 .have D:=of_decide_eq_true D;refine kV C a (j3 u af (atK a λx r=>fin _ true x (q.trans r) (by rw[qH,a]) ?_))
  unfold dY;grind
 have D:=of_decide_eq_false D;refine j3 u af (ax (λj=>?_) λj=>?_)
 .have j:i.getD 0 0=7:=by simpa using j
  refine kV C a (acQ a λx r=>fin _ true x (q.trans r) (by rw[kz,a]) ?_)
  unfold dY;grind
 have j:i.getD 0 0≠7:=gq j
 refine j3 u af (ax (λG=>?_) λG=>?_)
 .have G:i.getD 0 0>5:=by simpa using G
  refine kV C a (fin f false B q a ?_);unfold dY;grind
 have G:¬i.getD 0 0>5:=gq G
 refine M6 λx hh5 r=>?_;have H:BI x g1 f:=C.ext r;have y:BI x g2 i:=u.ext r;refine j3 y af (kV H a (kV y hi (j3 y af ?_)));refine axU a hi hB hC λc g ga F gc m V W d o=>?_;have X:BI c g1 f:=H.ext m;have z:BI c g2 i:=y.ext m;refine BV y z (BV y z ?_);have tail:∀(v:Value),v= I_ (Sk f i)->(xS .i64 v λY=>ai 1 ⟨g2,1,none⟩ x c (Hf ⟨g1,2,none⟩ 8 (i.getD 1 0) 1 λZ=>bN c Z (I_ Y) λI=>bx 19 I ⟨g1,0,none⟩ λK=>
   av K I λL w53=>dQ 19 w53 ⟨g3,0,none⟩ L λM=>bx 19 M ⟨g3,0,none⟩ λN=>k (N,true) M)):=by
  rintro _ rfl;refine I0 (BV y z (uu hA.1 af ?_));rw[Nat.mul_one];refine CB X af λw7 hb7 hs7 Zh=>?_;have he7:Ext P w7\/True:= .inr trivial;refine kV hb7 (by simp[a]) (acQ (by simp[a]) λw8 O=>?_)
  have aD5:=(((((sQ.ext q).ext r).ext m).keep Zh af).ext O);refine xT aD5 rfl (by rw[kz];simp[a]) λA s U t=>kV s (by rw[kz];simp[a]) ?_
  have e:dY f i=(nE (f.set (2+(i.getD 1 0).toNat) (Sk f i)),true):=by
   unfold dY;grind
  have:=hk A ((((((O4.trans q).trans r).trans m).then Zh λg hg=>by omega).trans O).then t λg hg=>by omega)
  rwa[e]at this
 have Q:i.getD 0 0≠6:=λe=>D (.inl e);have hop:i.getD 0 0=0\/i.getD 0 0=1\/i.getD 0 0=2\/i.getD 0 0=3\/i.getD 0 0=4\/i.getD 0 0=5:=af;refine ars h0 af ?_;rw[Nat.mul_one,Nat.zero_add];have hcell:∀n:Nat,c.cell? ⟨g,n,none⟩=(atO ga F gc)[n]?:=λn=>V.cell n;rcases hop with e|e|e|e|e|e;all_goals
  rw[e];refine akE (by rw[hcell];rfl) ?_
 .show aJ .i64 c (aY ⟨ga,0,none⟩ 4) _;rw[dg];refine j3 W af (tail _ ?_);simp only[Sk,e];rfl
 .show aJ .i64 c ⟨F,0,none⟩ _;refine j3 d bf (tail _ ?_);simp only[Sk,e];rfl
 iterate 3 show aJ .i64 c ⟨F,0,none⟩ λR=>aJ .i64 c ⟨gc,0,none⟩ λS=> _;refine j3 d bf (j3 o bf (tail _ ?_));simp only[Sk,e];rfl
 .show aJ .i64 c ⟨F,0,none⟩ λR=>aJ .i64 c ⟨gc,0,none⟩ λS=>mX (decide (R<S)) c λi3 B=> _;refine j3 d bf (j3 o bf (atN (tail _ ?_)));have e1:List.getD [fR f (i.getD 2 0)] 0 0=fR f (i.getD 2 0):=rfl;have e2:List.getD [fR f (i.getD 3 0)] 0 0=fR f (i.getD 3 0):=rfl;rw[e1,e2];simp only[Sk,e];by_cases p:fR f (i.getD 2 0)<fR f (i.getD 3 0)
  .rw[decide_eq_true p,if_pos p];rfl
  .rw[decide_eq_false p,if_neg p];rfl
theorem Zi(a:f.length=19):((f.drop 2).take 8).length=8:=by grind
theorem F8(h:o5 i op=true):i.getD 0 0=op/\oV i=0:=by
 unfold o5 at h;grind
def iG(f i:List Int)(asked:Bool):List Int:=if o5 i 12 then nE (f.set (2+(i.getD 1 0).toNat) (if asked then 1 else 0))else f
def eI(f i:List Int)(id:Int):List Int:=if o5 i 8 then nE (f.set (10+(i.getD 1 0).toNat) id)else f
def di(f i:List Int)(kind v:Int):List Int×Int×Bool:=
 if kind<2\/kind>4\/(o5 i 9=false/\o5 i 10=false)then(f,0,false)
 else if o5 i 10 then(nE ((f.set (2+(i.getD 1 0).toNat) (if kind=4 then 0 else v)).set (2+(i.getD 2 0).toNat) (IntKind.i64.wrap (kind - 2))),0,false)
 else if kind=2 then(nE (f.set (2+(i.getD 1 0).toNat) v),0,false)
 else(A0 f (f.getD 1 0),if kind=4 then -1 else v,true)
def pZ:(iG f i zp).length=f.length:=by
 unfold iG;split
 .rw[kz,List.length_set]
 .rfl
def qa:(eI f i pc).length=f.length:=by
 unfold eI;split
 .rw[kz,List.length_set]
 .rfl
variable{kind v:Int}
def qb:(di f i kind v).1.length=f.length:=by
 unfold di;split
 .rfl
 .split
  .simp only[kz,List.length_set]
  .split
   .simp only[kz,List.length_set]
   .simp only[qH]
theorem apm(a:f.length=19)(hi:i.length=5)(y:∀w',Ext w w'->k (eZ (iG f i zp)) w'):jg (eZ f) (eZ i) zp w k:=by
 unfold jg yL;refine jJ λg1 w1 H I J z=>jJ λg2 Y Z IZ K A=>jJ λg3 p L Vi B q=>?_;have C:=(z.trans A).trans q;have D:BI p g1 f:=(J.ext A).ext q;have F:BI p g2 i:=K.ext q;have M:=z.size;simp only[dg,Nat.zero_add];refine kV D a (jJ λg4 w4 N O P Q=>xT P rfl a λR S T r=>?_);have G:Ext p R:=Q.then r λg s=>by omega
 simp only[dg,Nat.zero_add];refine kV (F.ext G) hi (F6 hi λw6 j=>?_);have o:=G.trans j;refine ax (λh=>?_) λh=>?_
 .obtain⟨U,hB,hC⟩:=vG (F8 h).2;refine M6 λV W l=>?_;have c:=o.trans l;have d:BI V g2 i:=F.ext c;refine j3 d af (atN (BV d d (uu U.1 af ?_)));rw[Nat.mul_one];refine CB ((S.ext j).ext l) af λw8 t X m=>kV t (by simp[a]) (acQ (by simp[a]) λw9 n=>?_)
  refine xT (((B.ext c).keep m af).ext n) rfl (by rw[kz];simp[a]) λe u v x=>kV u (by rw[kz];simp[a]) ?_
  have:=y e ((((C.trans c).then m λg s=>by omega).trans n).then x λg s=>by omega)
  unfold iG at this;rwa[if_pos h]at this
 .refine kV (D.ext o) a (xT (B.ext o) rfl a λe u v x=>kV u a ?_);have:=y e ((C.trans o).then x λg s=>by omega)
  unfold iG at this;grind
def apn(a:f.length=19)(hi:i.length=5)(p:∀w',Ext w w'->k (eZ (eI f i pc)) w'):jf (eZ f) (eZ i) pc w k:=by
 unfold jf yE;refine jJ λg1 w1 A B C q=>jJ λg2 L M N D r=>jJ λg3 s F O t j=>?_;have u:=(q.trans r).trans j;have G:BI s g1 f:=(C.ext r).ext j;have v:BI s g2 i:=D.ext j;have H:=q.size;simp only[dg,Nat.zero_add];refine kV v hi (F6 hi λx c=>?_);have y:BI x g1 f:=G.ext c;have I:BI x g2 i:=v.ext c;refine ax (λh=>?_) λh=>?_
 .refine kV y a (xT (t.ext c) rfl a λb l m n=>kV l a ?_);have:=p b ((u.trans c).then n λg z=>by omega)
  unfold eI at this;rwa[if_neg (gq h)]at this
 .have h:o5 i 8=true:=by simpa using h
  obtain⟨J,P,Q⟩:=vG (F8 h).2;refine j3 I af (uu J.1 af ?_);rw[Nat.mul_one];refine CB y af λR o K d=>kV o (by simp[a]) (acQ (by simp[a]) λS e=>?_)
  refine xT (((t.ext c).keep d af).ext e) rfl (by rw[kz];simp[a]) λb l m n=>kV l (by rw[kz];simp[a]) ?_
  have:=p b ((((u.trans c).then d λg z=>by omega).trans e).then n λg z=>by omega)
  unfold eI at this;rwa[if_pos h]at this
theorem apo{k:Array Value×Int×Bool->ap}(j:f.length=19)(hi:i.length=5)(Y:∀w',Ext w w'->k (eZ (di f i kind v).1,(di f i kind v).2.1,(di f i kind v).2.2) w'):iu (eZ f) (eZ i) kind v w k:=by
 unfold iu yQ;refine jJ λg1 w1 hg1 hs1 AR S=>jJ λg2 w2 M7 IZ jR T=>jJ λg3 C hg3 Vi sQ H=>?_;have O4:=(S.trans T).trans H;have vF:BI C g1 f:=(AR.ext T).ext H;have I:BI C g2 i:=jR.ext H;have hsz:=S.size;simp only[dg,Nat.zero_add];have fin:∀(l:List Int) (a:Int) (b:Bool) (w':World),Ext w w'->pN w' g3 (eZ (Z 19))->l.length=19->di f i kind v=(l,a,b)->(dQ 19 w' ⟨g3,0,none⟩ (eZ l) λD=>bx 19 D ⟨g3,0,none⟩ λcs=>k (cs,(a,b)) D):=by
  intro l a b w' he hb U e;refine xT hb rfl U λD K hs9 L=>kV K U ?_;have:=Y D (he.then L λg M=>by omega)
  rwa[e]at this
 have o:pN C g3 (eZ (Z 19)):=sQ;refine bP (λx w'=>x=decide (kind<2\/kind>4\/(o5 i 9=false/\o5 i 10=false))/\Ext C w') ?_ ?_
 .intro J t;refine ax (λh=>t _ _ ⟨?_,.refl _ _⟩) λh=>?_
  .grind
  .simp only[kf,decide_eq_false_iff_not]at h;refine kV I hi (F6 hi λs n=>?_);refine ax (λq=>?_) λq=>?_
   .have q:o5 i 9=false:=by simpa using q
    refine kV (I.ext n) hi (F6 hi λu p=>t _ _ ⟨?_,n.trans p⟩);grind
   .grind
 rintro _ s ⟨rfl,n⟩;have F:=O4.trans n;have y:BI s g1 f:=vF.ext n;have N:BI s g2 i:=I.ext n;refine ax (λh=>?_) λh=>?_
 .have h:=of_decide_eq_true h;refine kV y j (fin f 0 false s F (o.ext n) j ?_);unfold di;rw[if_pos h]
 have h:=of_decide_eq_false h;have z:oV i=0/\(i.getD 0 0=10↔o5 i 10=true):=by
  cases c:o5 i 10 with
  |true=>exact⟨(F8 c).2,λ_=>rfl,λ_=>(F8 c).1⟩
  |false=>
   cases q:o5 i 9 with
   |true=>exact⟨(F8 q).2,λe=>(by have:=(F8 q).1;omega),λe=>by cases e⟩
   |false=>exact absurd (.inr (.inr ⟨q,c⟩)) h
 obtain⟨V,hB,hC⟩:=vG z.1;refine bP (λx w'=>s=w'/\di f i kind v=(A0 f (f.getD 1 0),x,true)) ?_ ?_
 .intro J t;refine j3 N af (ax (λc=>?_) λc=>?_)
  .have c:o5 i 10=true:=z.2.1 (gq c)
   refine bP (λx w'=>s=w'/\x=if kind=4 then 0 else v) ?_ ?_
   .intro J2 A;refine ax (λB=>A _ _ ⟨rfl,?_⟩) λB=>A _ _ ⟨rfl,?_⟩
    .rw[if_pos (gq B)]
    .rw[if_neg (gq B)]
   rintro _ _ ⟨rfl,rfl⟩;refine M6 λu hh5 p=>?_;have O:BI u g1 f:=y.ext p;have G:BI u g2 i:=N.ext p;refine j3 G af (j3 G af (uu V.1 af ?_));rw[Nat.mul_one];refine CB O af λw6 r P d=>BV G (G.keep d af) (uu hB.1 af ?_);rw[Nat.mul_one];refine CB r (by rw[List.length_set];omega) λw7 Q hs7 W=>kV Q (by simp[j]) (acQ (by simp[j]) λR m=>?_)
   refine fin _ 0 false R (((((F.trans p).then d λg M=>by omega).then W λg M=>by omega).trans m)) (((((o.ext n).ext p).keep d af).keep W af).ext m) (by rw[kz];simp[j]) ?_
   unfold di;rw[if_neg h,if_pos c]
  .have X:o5 i 10=false:=by
    grind
   refine ax (λh2=>?_) λh2=>?_
   .have h2:kind=2:=by simpa using h2
    refine j3 N af (uu V.1 af ?_);rw[Nat.mul_one];refine CB y af λw6 r P d=>kV r (by simp[j]) (acQ (by simp[j]) λR m=>?_)
    refine fin _ 0 false R ((F.then d λg M=>by omega).trans m) (((o.ext n).keep d af).ext m) (by rw[kz];simp[j]) ?_
    unfold di;grind
   .have h2:kind≠2:=by simpa using h2
    refine ax (λB=>t _ _ ⟨rfl,?_⟩) λB=>t _ _ ⟨rfl,?_⟩
    iterate 2 unfold di;grind
 .rintro x _ ⟨rfl,e⟩;exact kV y j (j3 y af (atK j λu p=>fin _ x true u (F.trans p) ((o.ext n).ext p) (by rw[qH,j]) e))
theorem axY{h:Nat}(a:h<63):bv (sD .i64 1 (h:Int))=BitVec.twoPow 64 h:=by
 unfold sD;have e:min ((h:Int).toNat) IntKind.i64.bits=h:=by simp[IntKind.bits];omega
 rw[e,arm,DH,Int.one_mul];apply BitVec.eq_of_toNat_eq;rw[BitVec.toNat_ofInt,BitVec.toNat_twoPow];grind
def atX{h:Nat}(a:h<63):(oH .i64 v (sD .i64 1 (h:Int)) !=0)=tb v h:=by
 rw[QJ,axY a,BitVec.and_twoPow];unfold tb;cases hb:(bv v).getLsbD h with
 |false=>rfl
 |true=>
  simp only[if_true];have:(BitVec.twoPow 64 h).toInt≠0:=by
   intro e;have c:BitVec.twoPow 64 h=0#64:=by
    apply BitVec.eq_of_toInt_eq;rw[e];rfl
   have h2:=congrArg (λb=>b.getLsbD h) c;simp at h2;omega
  simpa using this
def fHs(f:List Int)(aX:Int)(n:Nat):List Int:=(List.range n).map λh=>if tb aX h then f.getD (10+h) 0 else -1
def jo(f:List Int)(n aX:Int):List Int:=[n,0] ++((f.drop 2).take 8++(fHs f aX 8++[0]))
def Lx(f:List Int)(n aX:Int)(j:Nat):List Int:=[n,0] ++((f.drop 2).take 8++(fHs f aX j++(dU (8 - j) (-1)++[0])))
variable{aX:Int}{n:Nat}
def XY:(fHs f aX n).length=n:=by simp[fHs]
def afh:fHs f aX (n+1)=fHs f aX n++[if tb aX n then f.getD (10+n) 0 else -1]:=by
 simp[fHs,List.range_succ]
variable{n:Int}
def acT(a:f.length=19)(b:j<=8):(Lx f n aX j).length=19:=by
 unfold Lx;simp only[uv,List.length_cons,List.length_nil,XY,List.length_replicate,Zi a];omega
def ai0(a:f.length=19):Lx f n aX 0=((nF.set 0 n).take 2++((f.drop 2).take 8++(nF.set 0 n).drop (2+8))):=rfl
def alq(b:f.length=19)(e:j<8)(hb:tb aX j=true):(Lx f n aX j).set (10+j) (f.getD (10+j) 0)=Lx f n aX (j+1):=by
 unfold Lx;have a:=Zi b;have c:8 - j=(8 - (j+1))+1:=af;rw[List.set_append_right _ _ (by simp;omega),List.set_append_right _ _ (by simp[a];omega),List.set_append_right _ _ (by simp[a,XY];omega)]
 rw[afh,hb,c,List.replicate_succ];have d:10+j - 2 - 8 - j=0:=af;simp[a,XY,d]
def apq(b:j<8)(hb:tb aX j=false):Lx f n aX j=Lx f n aX (j+1):=by
 unfold Lx;have a:8 - j=(8 - (j+1))+1:=af;rw[afh,hb,a,List.replicate_succ];simp
def axZ(x:Int×Sl):List Value:=[I_ x.1,S_ x.2]
def Ow(w:World)(s:Sl)(fs:List (Int×Sl)):Prop:=QM 2 w s (fs.map axZ)
variable{fs:List (Int×Sl)}{s:Sl}
def Ow.len(h:Ow w s fs):s.n=fs.length:=by have:=QM.len h;simp at this;omega
variable{x0:World}
def Ow.ext(h:Ow w s fs)(a:Ext w x0):Ow x0 s fs:=QM.ext h a
def ixF{x:Int×Sl}{c:Addr->Prop}(h:Ow w s fs)(d:0<=v)(hi:fs[v.toNat]?=some x)
  (f:∀p:Addr,w.cell? (p.add 0)=some (I_ x.1)->w.cell? (p.add 1)=some (S_ x.2)->c p):cN s v 2 c:=by
 have j:=Ow.len h;have g:=(kB.1 hi).1;refine akF h d af λp e b _ hcell=>?_;rw[l8,hi]at b;cases b
 exact f p (hcell 0 _ rfl) (hcell 1 _ rfl)
def ax0(h:o5 i 8=true):0<=i.getD 4 0/\i.getD 4 0<=31:=by
 obtain⟨a,b⟩:=F8 h;obtain⟨_,_,hs⟩:=aha b;have:=hs 3 af;rw[a]at this;exact this
theorem atY{k:Array Value×Int->ap}(A:f.length=19)(hi:i.length=5)(hp:Ow w s fs)
  (h1:o5 i 8=false->∀w',Ext w w'->k (eZ (Z 19),1) w') (h2:o5 i 8=true->fs.length<=(i.getD 4 0).toNat->∀w',Ext w w'->k (eZ (Z 19),17) w')
  (h3:o5 i 8=true->∀x,fs[(i.getD 4 0).toNat]?=some x->∀w',Ext w w'->k (eZ (jo f (i.getD 4 0) x.1),0) w'):jd (eZ f) #[S_ s] (eZ i) w k:=by
 unfold jd Ap;refine jJ λg1 w1 hg1 hs1 AR AK=>jJ λgp wp hgp hsp O B=>jJ λg2 w2 M7 IZ jR P=>jJ λg3 Q hg3 Vi R K=>?_;have O4:=((AK.trans B).trans P).trans K;have vF:BI Q g1 f:=((AR.ext B).ext P).ext K;have zg:BI Q g2 i:=jR.ext K;have S:pN Q gp #[S_ s]:=(O.ext P).ext K;have hsz:=AK.size;have hln:=hp.len;simp only[dg,Nat.zero_add];refine kV zg hi (F6 hi λD d=>?_);have T:BI D g1 f:=vF.ext d;have U:BI D g2 i:=zg.ext d;have F:=S.ext d;have L:=O4.trans d;refine ax (λh=>?_) λh=>?_
 .refine xT (l:=Z 19) (R.ext d) rfl rfl λw5 V G e=>kV V rfl<|h1 (gq h) _ (L.then e λg v=>by omega)
 have h:o5 i 8=true:=gq h
 obtain⟨W,hN1⟩:=ax0 h;refine j3 U af (IY (F.cell 0) (ax (λm=>?_) λX=>?_))
 .have m:i.getD 4 0>=s.n:=of_decide_eq_true m;refine xT (l:=Z 19) (R.ext d) rfl rfl λw5 V G e=>kV V rfl<|h2 h af _ (L.then e λg v=>by omega)
 have X:i.getD 4 0<s.n:=by grind
 obtain⟨x,hx⟩:∃x,fs[(i.getD 4 0).toNat]?=some x:=⟨_,iH af⟩;refine anv λw5 F7=>jJ λg6 w6 hg6 hs6 Y he6=>?_;simp only[dg,Nat.zero_add];refine xT Y rfl rfl λw7 hb7 hs7 Zh=>?_;have G:=F7.size;have aEa:Ext D w7:=(F7.trans he6).then Zh λg v=>by omega
 refine M6 λw8 hh8 H=>?_;have o:=aEa.trans H;have q:BI w8 g1 f:=T.ext o;have aEb:BI w8 g2 i:=U.ext o;refine j3 aEb af (aro q af ?_);have aEc:g1≠g6:=by have:=T.lt;omega
 refine CB (hb7.ext H) e7 λw9 hb9 hs9 I=>BV q (q.keep I aEc)<|aAR hb9 (Zi A) (by rw[List.length_set];decide) λw10 US anz XX=>?_
 rw[<-ai0 A]at US;have aEd:Ext D w10:=(o.then I λg v=>by omega).then XX λg v=>by omega
 refine ot (fun(y:Int) w'=> ∃j:Nat,y=j/\j<=8/\Ext D w'/\BI w' g6 (Lx f (i.getD 4 0) x.1 j)) (λy _=>(8 - y).toNat) ⟨0,rfl,af,aEd,US⟩ ?_;rintro _ w11 ⟨j,rfl,hj,r,t⟩ C hC;refine ax (λaEe=>?_) λm=>?_
 .have b:j<8:=by
    grind
  have M:IntKind.i64.wrap ((j:Int)+1)=((j+1:Nat):Int):=by rw[dh ⟨af,af⟩];simp
  refine M6 λw12 aHT u=>?_;have z:=r.trans u;refine IY ((F.ext z).cell 0) (j3 (U.ext z) af ?_);refine ixF (hp.ext (L.trans z)) W hx λp hc0 Hi=>uZ hc0 (Gf af ?_);rw[atX af];refine ax (λhb=>?_) λhb=>?_
  .refine uu af af (j3 (T.ext z) (by simp;omega) (uu af af ?_))
   simp only[iZ,Nat.mul_one];have N:=acT (n:=i.getD 4 0) (aX:=x.1) A hj;refine CB (t.ext u) af λw13 J aHU aEf=>?_;rw[alq A b hb]at J;exact hC _ _ ⟨j+1,M,af,z.then aEf λg v=>by omega,J⟩ (by rw[M];omega)
  .refine hC _ _ ⟨j+1,M,af,z,?_⟩ (by rw[M];omega)
   rw[<-apq b hb];exact t.ext u
 .have b:j=8:=by
    grind
  subst b;have N:=acT (n:=i.getD 4 0) (aX:=x.1) A hj;refine kV t N (xT ((R.ext d).ext r) rfl N λw12 aEg aHV aEh=>kV aEg N ?_);exact h3 h x hx _ ((L.trans r).then aEh λg v=>by omega)
end Go.Proofs.YthidhjhkmjjckaaGreatDoor.Fr
namespace Go.Ev
open Go Go.RowKit
def Ly(t:List (Int×Int×Nat)):List MapEntry:=t.map λx=>⟨I_ x.1,I_ x.2.1,x.2.2⟩
def mp(g:Nat)(l:List (Int×Int)):HP:=Gt λq:{t:List (Int×Int×Nat) // t.map (λx=>(x.1,x.2.1))=l}×Nat=>obj g (.map (Ly q.1.1).toArray q.2)
def fnd(k:Int):List (Int×Int×Nat)->Nat->Option (Nat×Value)
 |[],_=>none
 |x::r,i=>if x.1=k then some (i,I_ x.2.1)else fnd k r (i+1)
theorem IE(k:Int):∀(t:List (Int×Int×Nat)) (i:Nat),Instr.findNow (.int .i64) (I_ k) (Ly t) i=some (fnd k t i)
 |[],i=>rfl
 |x::r,i=>by
  unfold Ly;simp only[List.map_cons,Instr.findNow,Instr.sameNow,if_true];by_cases h:x.1=k
  .have:(k==x.1)=true:=by simp[h]
   rw[this];simp[fnd,h]
  .have:(k==x.1)=false:=by grind
   rw[this];have a:=IE k r (i+1);unfold Ly at a;simp only[a,fnd,if_neg h]
def Im(l:List (Int×Int))(k:Int):Option Int:=(l.find? λx=>x.1==k).map (·.2)
theorem Zk{k:Int}:∀{t:List (Int×Int×Nat)} {i:Nat},fnd k t i=none->Im (t.map λx=>(x.1,x.2.1)) k=none
 |[],_,_=>rfl
 |x::r,i,h=>by
  unfold fnd at h;split at h
  .cases h
  .rename_i a;have:=Zk h;unfold Im at this ⊢;grind
theorem S6{k:Int}:∀{t:List (Int×Int×Nat)} {i j:Nat} {v:Value},fnd k t i=some (j,v)->i<=j/\∃n x,v= I_ n/\Im (t.map λx=>(x.1,x.2.1)) k=some n/\t[j - i]?=some x/\x.1=k
 |[],_,_,_,h=>by cases h
 |x::r,i,j,v,h=>by
  unfold fnd at h;split at h
  .rename_i a;cases h
   refine⟨iw _,x.2.1,x,rfl,?_,bf,a⟩;unfold Im;grind
  .rename_i a;obtain⟨d,n,y,h2,b,e,c⟩:=S6 h;refine⟨af,n,y,h2,?_,?_,c⟩
   .unfold Im at b ⊢;grind
   .grind
variable{L:List HP}{f:HP->List HP}{g:Nat}{l:List (Int×Int)}{w w0:World}
def aBA(h:St w0 w L)[a:At L (mp g) l f]:∃(t:List (Int×Int×Nat)) (n:Nat),t.map (λx=>(x.1,x.2.1))=l/\w.heap[g]?=some (.map (Ly t).toArray n):=by
 obtain⟨R,b,d⟩:=a.out;obtain⟨⟨⟨t,c⟩,n⟩,h⟩:=(b h).some;exact⟨t,n,c,DM h⟩
def ai1(h:St w0 w (mp g l::L)):∃(t:List (Int×Int×Nat)) (n:Nat),t.map (λx=>(x.1,x.2.1))=l/\St w0 w (obj g (.map (Ly t).toArray n)::L):=by
 obtain⟨⟨⟨t,a⟩,n⟩,h⟩:=h.some;exact⟨t,n,a,h⟩
variable{n:Nat}
def acV{t:List (Int×Int×Nat)}(h:St w0 w (obj g (.map (Ly t).toArray n)::L)):St w0 w (mp g (t.map λx=>(x.1,x.2.1))::L):=
 St.ex (⟨t,rfl⟩,n) h
structure MpT (P:Program) (m k e:TypeId):Prop where
 m:P.underlying m=some (.map k e)
 k:P.underlying k=some (.int .i64)
 z:zOf P e=some (I_ 0)
def VZ(k:Int):MapKept.IsKey (.int .i64) (I_ k):=by simp[MapKept.IsKey]
variable{P:Program}{m:TypeId}
def at5{c:Option Nat->ap}(h:St w0 w L)(a:∀g w',St w0 w' (mp g []::L)->c (some g) w'):mkMap P m none w c:=by
 have b:(Instr.makeMap m none).run P w= .ok (.map (some w.heap.size)) (w.alloc (.map #[] 0)):=by
  simp only[Instr.makeMap,cR,run_newObj,cK,cP,World.alloc_eq]
 unfold mkMap;rw[b];show c (some w.heap.size) _;refine a _ _ ?_;have h2:=acd (.map #[] 0) h;exact acV (t:=[]) h2
variable{et kt:TypeId}{k:Int}
def anA{c:Value->ap}(b:MpT P m kt et)(h:St w0 w L)[a:At L (mp g) l f](p:c (.tuple #[I_ ((Im l k).getD 0),.bool (Im l k).isSome]) w):look P m (.map (some g)) (I_ k) true w c:=by
 obtain⟨t,n,d,hb⟩:=aBA (g:=g) h;have q:=MapKept.run_findKey (w:=w) b.k (IE k t 0);have i:∀e,(Instr.checkKey e 10000 kt (I_ k)).run P w= .ok () w:=λe=>MapKept.run_checkKey b.k (VZ k) e 9999;have u:(zeroValue et).run P w= .ok (I_ 0) w:=LG b.z;unfold look;cases hq:fnd k t 0 with
 |none=>
  rw[hq]at q;have o:=Zk hq;rw[d]at o;rw[o]at p;have s:(Instr.lookup m (.map (some g)) (I_ k) true).run P w= .ok (.tuple #[I_ 0,.bool false]) w:=by
   simp only[Instr.lookup,cR,jr b.m,cK,MapKept.run_getObj_map hb,cP,i,q,u,if_true]
  rw[s];exact p
 |some r=>
  obtain⟨j,v⟩:=r;rw[hq]at q;obtain⟨_,y,x,rfl,o,_⟩:=S6 hq;rw[d]at o;rw[o]at p;have s:(Instr.lookup m (.map (some g)) (I_ k) true).run P w= .ok (.tuple #[I_ y,.bool true]) w:=by
   simp only[Instr.lookup,cR,jr b.m,cK,MapKept.run_getObj_map hb,cP,i,q,if_true]
  rw[s];exact p
def acX{α β:Type}(f:α->β):∀(l:List α) (i:Nat),(l.eraseIdx i).map f=(l.map f).eraseIdx i
 |[],_=>rfl
 |_::_,0=>rfl
 |_::l,i+1=>by simp[acX f l i]
variable{zh:Int}
theorem apr{x:Int}{c:ap}(b:MpT P m kt et)(h:St w0 w L)[a:At L (mp g) l f](d:Im l k=none)(u:∀w',St w0 w' (f (mp g (l++[(k,x)])))->c w'):MP P m (.map (some g)) (I_ k) (I_ x) w c:=by
 obtain⟨R,y,z⟩:=a.out;obtain⟨t,n,i,h⟩:=ai1 (y h);have hb:=DM (g:=g) h;have q:=MapKept.run_findKey (w:=w) b.k (IE k t 0);have p:(Instr.checkKey false 10000 kt (I_ k)).run P w= .ok () w:=MapKept.run_checkKey b.k (VZ k) false 9999;cases hq:fnd k t 0 with
 |some r=>
  obtain⟨j,v⟩:=r;obtain⟨_,C,x,rfl,s,_⟩:=S6 hq;rw[i,d]at s;cases s
 |none=>
  rw[hq]at q;have A:∀o,(setObj g o).run P w= .ok () (w.putObj g o):=λo=>by
   rw[MapKept.run_setObj_map o hb];rfl
  have B:(Instr.mapUpdate m (.map (some g)) (I_ k) (I_ x)).run P w= .ok () (w.putObj g (.map ((Ly t).toArray.push ⟨I_ k,I_ x,n⟩) (n+1))):=by
   simp only[Instr.mapUpdate,cR,jr b.m,cK,MapKept.run_getObj_map hb,cP,p,q,A]
  unfold MP;rw[B];refine u _ (z ?_);have e:(Ly t).toArray.push ⟨I_ k,I_ x,n⟩=(Ly (t++[(k,x,n)])).toArray:=by simp[Ly]
  rw[e];have h2:=AV (g:=g) (.map (Ly (t++[(k,x,n)])).toArray (n+1)) h;have D:=acV h2;grind
theorem MD{k:Int}:∀{t:List (Int×Int×Nat)} {j:Nat} {x},(t.map (·.1)).Nodup->t[j]?=some x->x.1=k->(t.eraseIdx j).map (λx=>(x.1,x.2.1))=(t.map λx=>(x.1,x.2.1)).filter λx=>x.1≠k
 |[],j,x,_,h,_=>by simp at h
 |y::r,0,x,hn,h,hx=>by
  simp only[List.getElem?_cons_zero,Option.some.injEq]at h;subst h;rw[List.map_cons,List.nodup_cons]at hn;simp only[List.eraseIdx_cons_zero,List.map_cons];rw[List.filter_cons_of_neg (by simp[hx])]
  symm;rw[List.filter_eq_self];grind
 |y::r,j+1,x,hn,h,hx=>by
  simp only[List.getElem?_cons_succ]at h;rw[List.map_cons,List.nodup_cons]at hn;have a:=MD hn.2 h hx;grind
variable{c:Value->ap}{t2:TypeId}
theorem anB(b:MpT P m kt et)(h:St w0 w L)[a:At L (mp g) l f](z:(l.map (·.1)).Nodup)(A:(Im l k).isSome=true)(B:∀w',St w0 w' (f (mp g (l.filter λx=>x.1≠k)))->c (.tuple #[]) w'):ahR P #[m,kt] t2 [.map (some g),I_ k] w c:=by
 obtain⟨R,C,D⟩:=a.out;obtain⟨t,n,d,h⟩:=ai1 (C h);have hb:=DM (g:=g) h;have u:=MapKept.run_findKey (w:=w) b.k (IE k t 0);have i:∀e,(Instr.checkKey e 10000 kt (I_ k)).run P w= .ok () w:=λe=>MapKept.run_checkKey b.k (VZ k) e 9999;have F:∀o,(setObj g o).run P w= .ok () (w.putObj g o):=λo=>by
  rw[MapKept.run_setObj_map o hb];rfl
 cases hq:fnd k t 0 with
 |none=>
  have G:=Zk hq;grind
 |some r=>
  obtain⟨j,v⟩:=r;rw[hq]at u;obtain⟨_,N,x,rfl,G,p,q⟩:=S6 hq;rw[Nat.sub_zero]at p;have H:(Builtin.delete_ #[m,kt] t2 #[.map (some g),I_ k]).run P w= .ok (.tuple #[]) (w.putObj g (.map ((Ly t).toArray.eraseIdxIfInBounds j) n)):=by
   have I:(#[m,kt]:Array TypeId)[0]?=some m:=rfl;have J:(#[Value.map (some g),I_ k]:Array Value)[0]?=some (.map (some g)):=rfl;have e2:(#[Value.map (some g),I_ k]:Array Value)[1]?=some (I_ k):=rfl;simp only[Builtin.delete_,I,J,e2,cR,jr b.m,cK,MapKept.run_getObj_map hb,cP,i,u,F]
  unfold ahR;have K:([Value.map (some g),I_ k]:List Value).toArray=#[.map (some g),I_ k]:=rfl;rw[K,H];refine B _ (D ?_);have M:j<t.length:=(kB.1 p).1;have e:(Ly t).toArray.eraseIdxIfInBounds j=(Ly (t.eraseIdx j)).toArray:=by
   unfold Ly;grind
  rw[e];have h2:=AV (g:=g) (.map (Ly (t.eraseIdx j)).toArray n) h;have y:=acV h2;have s:(t.map (·.1)).Nodup:=by grind
  rw[MD s p q,d]at y;exact y
variable{a:Addr}{e t:TypeId}{f:FuncId}{i:TypeInfo}{m:Method}{name:String}
def aeq(hi:P.info? t=some i)(b:(i.methods.find? λm=>m.name==name)=some m)(c:m.path=#[])(d:m.func=some (f,true))(g:P.underlying t=some (.pointer e)):
  (method (n+1) t (.pointer (some a)) name).run P w= .ok (f,.pointer (some a)) w:=by
 have j:(typeInfo t).run P w= .ok i w:=by simp[typeInfo,hi]
 simp only[method,cR,j,cK,b,c,Array.toList_empty,List.isEmpty_nil,follow,cP,d,receiverAt,jr g,Place.get]
def aps:(#[]:Array FieldStep).isEmpty=true:=rfl
variable{x1:String}
def apt{ts:Array TypeId}{y:String}:(Builtin.ssaWrapNilChk_ ts t2 #[.pointer (some a),strVal x1,strVal y]).run P w= .ok (.pointer (some a)) w:=rfl
variable{e2:TypeId}{s:Sl}
def aer(hi:P.info? t=some i)(b:(i.methods.find? λm=>m.name==name)=some m)(d:m.path=#[])(g:m.func=some (f,false))(j:P.underlying t=some (.pointer e))(k:rX P e= .s)(l:P.underlying e=some (.slice e2))(hcell:w.cell? a=some (S_ s)):
  (method (n+1) t (.pointer (some a)) name).run P w= .ok (f,S_ s) w:=by
 have o:(typeInfo t).run P w= .ok i w:=by simp[typeInfo,hi]
 have p:(loadVar e a).run P w= .ok (S_ s) w:=by
  simp only[cR,loadVar,Yr l (by rw[k];simp),Bool.false_eq_true,if_false,run_load,hcell,cK]
 simp only[method,cR,o,cK,b,d,Array.toList_empty,List.isEmpty_nil,follow,cP,g,receiverAt,jr j,Place.get,aps,if_true,apt,asAddr,p]
variable{args:Array Value}{bY:ey}
def at6(hi:P.info? t=some i)(d:(i.methods.find? λm=>m.name==name)=some m)(g:m.path=#[])(j:m.func=some (f,true))(k:P.underlying t=some (.pointer e))(b:P.types.size≠0)
  (h:bY (.func f) (#[.pointer (some a)] ++args) w c):pR bY P (.iface t (.pointer (some a))) name args w c:=by
 obtain⟨n,b⟩:∃n,P.types.size+Made.depth=n+1:=⟨P.types.size+Made.depth - 1,af⟩;unfold pR;dsimp only;rw[b,aeq hi d g j k];exact h
def at7(hi:P.info? t=some i)(d:(i.methods.find? λm=>m.name==name)=some m)(g:m.path=#[])(j:m.func=some (f,false))(k:P.underlying t=some (.pointer e))(l:rX P e= .s)(o:P.underlying e=some (.slice e2))(b:P.types.size≠0)(hcell:w.cell? a=some (S_ s))
  (h:bY (.func f) (#[S_ s] ++args) w c):pR bY P (.iface t (.pointer (some a))) name args w c:=by
 obtain⟨n,b⟩:∃n,P.types.size+Made.depth=n+1:=⟨P.types.size+Made.depth - 1,af⟩;unfold pR;dsimp only;rw[b,aer hi d g j k l o hcell];exact h
end Go.Ev
namespace Go.Proofs.YthidhjhkmjjckaaGreatDoor.Ko
open Go Go.Ev Go.Proofs
abbrev DL:=List (Int×Int)
def rT(a b:Int×Int):Prop:=a.1<b.1\/(a.1=b.1/\a.2<b.2)
instance (a b:Int×Int):Decidable (rT a b):=by unfold rT;infer_instance
def gd(d:DL)(k:Nat):Int×Int:=d.getD k (0,0)
def rz(k:Nat):Nat:=(k - 1) / 2
def HH(d:DL)(n:Nat):Prop:=∀k,1<=k->k<n->¬rT (gd d k) (gd d (rz k))
structure HU (d:DL) (n j:Nat):Prop where
 a:∀k,1<=k->k<n->k≠j->¬rT (gd d k) (gd d (rz k))
 b:∀k,1<=k->k<n->rz k=j->1<=j->¬rT (gd d k) (gd d (rz j))
structure HD (d:DL) (n i0 i:Nat):Prop where
 a:∀k,1<=k->k<n->rz k≠i->¬(k=i0/\i=i0)->¬rT (gd d k) (gd d (rz k))
 b:∀k,1<=k->k<n->rz k=i->1<=i->¬rT (gd d k) (gd d (rz i))
def Lz(d:DL)(i j:Nat):DL:=(d.set i (gd d j)).set j (gd d i)
def ai2(d:DL)(i j:Nat):(Lz d i j).length=d.length:=by simp[Lz]
variable{d:DL}{i j k:Nat}
theorem S7(hi:i<d.length)(b:j<d.length):gd (Lz d i j) k=if k=j then gd d i else if k=i then gd d j else gd d k:=by
 unfold gd Lz;simp only[m0,List.getElem?_set,List.length_set];by_cases a:k=j
 .subst a;simp[b,gd,m0]
 .by_cases h2:k=i
  .subst h2;rw[if_neg (λq=>a q.symm),if_pos rfl,if_pos hi,if_neg a,if_pos rfl];rfl
  .grind
theorem Zm(hi:i<d.length)(a:j<d.length):(Lz d i j).Perm d:=by
 have b:gd d j=d[j]:=by unfold gd;rw[m0,iH a];rfl
 have e2:gd d i=d[i]:=by unfold gd;rw[m0,iH hi];rfl
 unfold Lz;grind
variable{a b c:Int×Int}
def Ox(d:¬rT a b)(h2:¬rT b c):¬rT a c:=by unfold rT at*;omega
def ax3(d:¬rT a b)(h2:rT c b):¬rT a c:=by unfold rT at*;omega
def V0(h:rT a b):¬rT b a:=by unfold rT at*;omega
def ax4(d:rT a b)(h2:rT b c):rT a c:=by unfold rT at*;omega
def acZ(a:Int×Int):¬rT a a:=by unfold rT;omega
theorem aua(h:¬rT a b)(c:a≠b):rT b a:=by
 obtain⟨d,e⟩:=a;obtain⟨b1,b2⟩:=b;unfold rT at*
 grind
def uk(h:1<=k):rz k<k:=by unfold rz;omega
variable{n:Nat}
theorem aub(h:HU d n j)(u:n<=d.length)(m:1<=j)(v:j<n)(o:rT (gd d j) (gd d (rz j))):HU (Lz d (rz j) j) n (rz j):=by
 have x:=uk m;have g:∀k,gd (Lz d (rz j) j) k=if k=j then gd d (rz j)else if k=rz j then gd d j else gd d k:=λk=>S7 af af
 refine⟨λk e f q=>?_,λk e f r p1=>?_⟩
 .rw[g,g];have i:=uk e;by_cases c:k=j
  .subst c;rw[if_pos rfl,if_neg af,if_pos rfl];exact V0 o
  .rw[if_neg c,if_neg q];by_cases e2:rz k=j
   .rw[if_pos e2];exact h.b k e f e2 m
   .rw[if_neg e2];by_cases l:rz k=rz j
    .rw[if_pos l];have:=h.a k e f c;rw[l]at this;exact ax3 this o
    .rw[if_neg l];exact h.a k e f c
 .have i:=uk e;have s:=uk p1;have p:=h.a (rz j) p1 af af;have t:gd (Lz d (rz j) j) (rz (rz j))=gd d (rz (rz j)):=by grind
  rw[t];by_cases c:k=j
  .rw[g,if_pos c];exact p
  .rw[g,if_neg c,if_neg af];have:=h.a k e f c;rw[r]at this;exact Ox this p
theorem anC(h:HU d n j)(f:j=0\/¬rT (gd d j) (gd d (rz j))):HH d n:=by
 intro k b c;by_cases e:k=j
 .grind
 .exact h.a k b c e
variable{yk:Nat}
theorem auc(h:HD d n yk i)(v:n<=d.length)(x:yk<=i)(o:1<=j)(r:j<n)(e:rz j=i)(y:∀k,1<=k->k<n->rz k=i->¬rT (gd d k) (gd d j))(s:rT (gd d j) (gd d i)):HD (Lz d i j) n yk j:=by
 have f:=uk o;rw[e]at f;have g:∀k,gd (Lz d i j) k=if k=j then gd d i else if k=i then gd d j else gd d k:=λk=>S7 af af
 refine⟨λk c l t _=>?_,λk c l u _=>?_⟩
 .have m:=uk c;rw[g,g];by_cases p:k=j
  .subst p;rw[if_pos rfl,if_neg af,if_pos e];exact V0 s
  .rw[if_neg p,if_neg t];by_cases e2:k=i
   .subst e2;rw[if_pos rfl,if_neg af];exact h.b j o r e c
   .rw[if_neg e2];by_cases q:rz k=i
    .grind
    .rw[if_neg q];exact h.a k c l q af
 .have m:=uk c;rw[g,g,e,if_neg af,if_neg af,if_neg af,if_pos rfl];have:=h.a k c l af af;rw[u]at this;exact this
def ax5(h:HD d n yk i)(g:∀k,1<=k->k<n->rz k=i->¬rT (gd d k) (gd d i)):(i≠yk->HH d n)/\(i=yk->HU d n yk):=by
 refine⟨λhi k c f=>?_,λhi=>⟨λk c f l=>?_,λk c f j p1=>?_⟩⟩
 .by_cases e:rz k=i
  .rw[e];exact g k c f e
  .exact h.a k c f e af
 .by_cases e:rz k=i
  .rw[e];exact g k c f e
  .exact h.a k c f e af
 .subst hi;exact h.b k c f j p1
def aud(h:HH d n):∀k,k<n->¬rT (gd d k) (gd d 0):=by
 intro k;induction k using Nat.strongRecOn with
 |_ k ih=>
  intro a;by_cases e:k=0
  .subst e;exact acZ _
  .have:=uk (k:=k) af;exact Ox (h k af a) (ih (rz k) this af)
variable{x:Int×Int}
def anD(h:k<d.length):gd (d++[x]) k=gd d k:=by
 unfold gd;rw[m0,m0,tJ h]
def aue(h:HH d d.length):HU (d++[x]) (d.length+1) d.length:=by
 refine⟨λk a b c=>?_,λk a b e p1=>?_⟩
 .have:=uk a;rw[anD af,anD af];exact h k a af
 .have:=uk a;omega
variable{m:Nat}
def anE(h:HH d d.length)(f:m+1=d.length)(hi:i<m):HD (Lz d i m) m i i:=by
 have g:∀k,gd (Lz d i m) k=if k=m then gd d i else if k=i then gd d m else gd d k:=λk=>S7 af af
 refine⟨λk a e b kk=>?_,λk a e b p1=>?_⟩
 .have:=uk a;rw[g,g,if_neg af,if_neg af,if_neg af,if_neg b];exact h k a af
 .have j:=uk a;have h2:=uk p1;rw[g,g (rz i),if_neg af,if_neg af,if_neg af,if_neg af];have c:=h k a af;rw[b]at c;exact Ox c (h i p1 af)
theorem ai4(h:k<m):gd (d.take m) k=gd d k:=by
 unfold gd;grind
def ac0(h:HH d m)(c:m<=d.length):HH (d.take m) (d.take m).length:=by
 intro k a b;rw[List.length_take]at b;have:=uk a;rw[ai4 af,ai4 af];exact h k a af
abbrev Srt(S:DL):Prop:=S.Pairwise rT
def ins(x:Int×Int):DL->DL
 |[]=>[x]
 |y::r=>if rT x y then x::y::r else y::ins x r
def IN(x:Int×Int):∀S:DL,(ins x S).Perm (x::S)
 |[]=> .refl _
 |y::r=>by
  unfold ins;split
  .exact .refl _
  .exact((IN x r).cons y).trans (.swap _ _ _)
def ai5{x:Int×Int}:∀{S:DL},Srt S->x ∉ S->Srt (ins x S)
 |[],_,_=>by unfold ins;simp
 |y::r,h,hx=>by
  unfold ins;replace h:=List.pairwise_cons.1 h;split
  .rename_i a;refine List.pairwise_cons.2 ⟨λz hz=>?_,List.pairwise_cons.2 h⟩;rcases List.mem_cons.1 hz with rfl|hz
   .exact a
   .exact ax4 a (h.1 z hz)
  .rename_i a;refine List.pairwise_cons.2 ⟨λz hz=>?_,ai5 h.2 λq=>hx (by simp[q])⟩
   rcases List.mem_cons.1 ((IN x r).subset hz)with rfl|hz
   .exact aua a λq=>hx (by simp[q])
   .exact h.1 z hz
def aal(h:Srt d)(p:Int×Int->Bool):Srt (d.filter p):=h.filter p
end Go.Proofs.YthidhjhkmjjckaaGreatDoor.Ko
