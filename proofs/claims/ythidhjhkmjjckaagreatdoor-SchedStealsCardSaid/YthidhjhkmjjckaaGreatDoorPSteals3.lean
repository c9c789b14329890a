/-
  Parts of the proof of LSteals: printed by a program out of longer texts.
-/
import Derived.Test.YthidhjhkmjjckaaGreatDoorPSteals2
import Derived.MapKept
set_option maxRecDepth 100000
set_option linter.unusedVariables false
set_option linter.unusedSimpArgs false
set_option linter.defProp false
open List renaming getElem?_eq_some_iff→kB,getElem?_eq_getElem→iH,getD_eq_getElem?_getD→m0,getElem?_append_left→tJ,getElem?_append_right→u0,getElem?_set_ne→r0,getElem?_set_self→uO,mem_of_getElem?→qn,getElem?_map→l8,eraseIdx→I7,insertIdx_succ_cons→aBT,insertIdx_zero→aBU,replicate→dU,mem_append→zw,length_append→uv,all_eq_true→tL
open Go.Sem renaming run_pure→cP,run_bind→cR
open Go.Result renaming andThen_ok→cK
open Bool renaming or_eq_false_iff→kf,and_eq_true→iY
open Option renaming isNone→eA
open Go.IntKind renaming wrap→aF
open Int renaming toNat_natCast→iZ
open Array renaming setIfInBounds→eS,getElem?_eq_some_iff→Bf
open Nat renaming le_refl→iw
open Go.Addr renaming add→aY
namespace Go.Proofs.YthidhjhkmjjckaaGreatDoor
open Go Go.Ev Tryz
abbrev aDI:=World→(Bool→ap)→Prop
abbrev as0(f:aDI):bt:=DD [] [.b] λx=>f
def As(cn:Vm)(ae:T1):T0:=λa w k=>drew w λc=>qA7 a 2 c 2 λf=>u7 a c 0 λp5=>u7 p5 c 7 λp7=>qJ7 a .i64 c 1 λs=>cn f p7 s c λb d=>u7 a d 0 λp13=>ae p13 (b.1,b.2).2 d λh e=>an h (k () e) (v7 a e 26 (Iv (b.1,b.2).1) λj=>v7 a j 7 (.func (.func mS) #[.pointer a] #[]) λm=>k () m)
def RS a b:E [.p] [] [(qD,Jl a),(bg,qu b)] 268435469 [] f309=As a b:=aZ
def gZ:=As cn ae
abbrev Au:bt:=bZ gZ
def RT:SS lI (bZ gZ):=so func309 (.c yw (.c bp .z)) (RS cn ae)
def dW:T31:=λa d e w k=>drew w λc=>cN a d 2 λj=>aJ .i64 c (j.add 0) λl=>cN a e 2 λm=>aJ .i64 c (m.add 0) λn=>an (decide (l<n)) (k true c) (cN a d 2 λo=>aJ .i64 c (o.add 0) λp=>cN a e 2 λq=>aJ .i64 c (q.add 0) λr=>an (p==r) (cN a d 2 λf=>aJ .i64 c (f.add 1) λg=>cN a e 2 λh=>aJ .i64 c (h.add 1) λi=>k (decide (g<i)) c) (k false c))
abbrev XF:bt:=Xb dW
def KC:SS lj (Xb dW):=sl 71 [] func421
def bF:T13:=λa b c w k=>drew w λd=>cN a c 2 λg=>bx 2 d g λe=>cN a b 2 λh=>bx 2 d h λf=>cN a b 2 λi=>dQ 2 d i e λj=>cN a c 2 λl=>dQ 2 j l f λm=>k () m
abbrev XG:bt:=D5 bF
def ze:SS dH (D5 bF):=sl 0 [] func422
def Av(dW:T31)(bF:T13):T26:=fun h_0 j_1 w k=>jD (S:=Int) (fun C1 i2 w3=>cz (S:=Bool) (fun J4=>an ((Wf .i64 (IntKind.wrap .i64 (i2 - 1)) 2)==i2) (J4 true w3) (pR (kC [(lj,(Xb dW)),(dH,(D5 bF))]) Tryz.prog h_0 "Less" #[Iv i2,(Iv (Wf .i64 (IntKind.wrap .i64 (i2 - 1)) 2))] w3 fun v5 w6=>Ir v5 fun b7=>J4 (!b7) w6)) fun b8 w9=>an b8 (k () w9) (pR (kC [(lj,(Xb dW)),(dH,(D5 bF))]) Tryz.prog h_0 "Swap" #[(Iv (Wf .i64 (IntKind.wrap .i64 (i2 - 1)) 2)),Iv i2] w9 fun v10 w11=>Is [] v10 fun(u12:Unit)=>C1 (Wf .i64 (IntKind.wrap .i64 (i2 - 1)) 2) w11)) j_1 w
def RU a c:E [.raw,.i .i64] [] [(lj,Xb a),(dH,D5 c)] 131091 [(1,[(1,(.i .i64))]),(4,[(17,.b)])] f379=u_2 (Av a c):=aZ
def cC:=Av dW bF
def GN:SS jt (UK cC):=so func379 (.c KC (.c ze .z)) (RU dW bF)
def j8:Tq:=λe j w k=>tyA Tryz.prog j 20 259 true w λv x=>Is [.ag,.b] v fun(r:Array Value×Bool)=>aE x #[Iv 0,Iv 0] 259 λs y=>dQ 2 y s r.1 λt=>an r.2 (drew t λi=>nn e λu=>cy i u λl=>bx 2 i s λf=>kT #[Iv 0,Iv 0] 0 2 f λg=>aE i g 259 λm h=>ai 1 u i h (og Tryz.prog #[209,209] 209 [.slice l.a l.n l.c,(.slice (some m) 1 1)] h λd o=>nn e λp=>bN o p (.slice d.a d.n d.c) λq=>k () q)) (k () t)
abbrev XH:bt:=E9 j8
def XI:SS rK (E9 j8):=sl 2097 [] func424
def cO:T17:=λa w k=>k ((a.n:Nat):Int) w
abbrev Y2:bt:=Jk cO
def FZ:SS fP (Jk cO):=sl 5 [] func420
def wS(cC:T26)(j8:Tq)(cO:T17):asG:=fun h_0 x_1 w k=>pR (kC [(jt,(UK cC)),(rK,(E9 j8)),(fP,(Jk cO))]) Tryz.prog h_0 "Push" #[x_1] w fun v1 w2=>Is [] v1 fun(u3:Unit)=>pR (kC [(jt,(UK cC)),(rK,(E9 j8)),(fP,(Jk cO))]) Tryz.prog h_0 "Len" #[] w2 fun v4 w5=>xS .i64 v4 fun i6=>cC h_0 (IntKind.wrap .i64 (i6 - 1)) w5 fun _u w7=>k () w7
def N0 a b c:E [.raw,.raw] [] [(jt,UK a),(rK,E9 b),(fP,Jk c)] 1 [] f372=u_2 (wS a b c):=aZ
def jx:=wS cC j8 cO
def N1:SS D1 (asH jx):=so func372 (.c GN (.c XI (.c FZ .z))) (N0 cC j8 cO)
def CU(jx:asG):T48:=λa aag ani w k=>an (eA a) (k 2 w) (an (((decide (aag<0))||(decide (ani<1)))||(decide (ani>1099511627776))) (k 10 w) (nn a λo=>ldM w (o.add 2) λp2=>Go.Ev.look Tryz.prog 207 (.map p2) (Iv aag) true w λp n=>Is [(.i .i64),.b] p fun(q:Int×Bool)=>an q.2 (k 18 n) (drew n λe=>nn a λr=>ldM e (r.add 2) λp8=>qJ7 a .i64 e 0 λf=>MP Tryz.prog 207 (.map p8) (Iv aag) (Iv (aF .i64 (f+ani))) e λg=>drew g λd=>nn a λh=>qJ7 a .i64 d 0 λl=>jx (.iface 261 (.pointer (some (h.add 1)))) (.iface 259 (.agg #[(Iv (aF .i64 (l+ani))),Iv aag])) d λ_u m=>k 0 m)))
def VD a:E [.p,.i .i64,.i .i64] [.i .i64] [(D1,asH a)] 4294972231 [] f355=u_3 (CU a):=aZ
def mD:=CU jx
def VE:SS Jh (am2 mD):=so func355 (.c N1 .z) (VD jx)
def yH(aD:W8)(ah:T8)(aH:Nl)(aq:Nl)(cY:T51)(ae:T1)(mD:T48)(av:W9)(aG:T0):T0:=λd w k=>aD d w λb1 w2=>an b1 (k () w2) (ah d w2 λp3 w4=>aH d w4 λa2 w6=>aE w6 JN 75 λa7 w8=>dQ 5 w8 a7 a2 λw9=>drew w9 λf=>nn d λA=>aQ f (A.add 0) λp12=>nn p12 λB=>aQ f (B.add 9) λp14=>nn d λC=>aQ f (C.add 0) λp16=>nn p16 λD=>aQ f (D.add 7) λp18=>nn d λF=>aJ .i64 f (F.add 1) λa4=>aq p3 f λG j=>ai 1 (F.add 1) f j (ai 1 (D.add 7) f j (ai 1 (C.add 0) f j (ai 1 (B.add 9) f j (ai 1 (A.add 0) f j (Qq G 0 λa5=>xS .i64 a5 λa6=>cY p14 p18 a4 a6 j λg H=>u7 d H 0 λa9=>ae a9 (g.1,g.2).2 H λb0 I=>an b0 (k () I) (drew I λb=>nn d λm=>aQ b (m.add 0) λb2=>nn d λo=>aQ b (o.add 0) λb3=>nn b3 λp=>cy b (p.add 10) λr=>nn p3 λJ=>aJ .i64 b (J.add 0) λb4=>nn p3 λL=>cy b (L.add 25) λb5=>nn d λM=>aQ b (M.add 0) λb6=>nn b6 λN=>cy b (N.add 10) λb7=>aq p3 b λO e=>ai 1 (N.add 10) b e (ai 1 (M.add 0) b e (ai 1 (L.add 25) b e (ai 1 (J.add 0) b e (ai 1 (p.add 10) b e (ai 1 (o.add 0) b e (ai 1 (m.add 0) b e (Qq O 0 λb8=>xS .i64 b8 λb9=>cN b7 b9 4 λc0=>aJ .i64 e (c0.add 1) λc1=>ai 1 (p.add 10) b e (ai 1 (o.add 0) b e (ai 1 (m.add 0) b e (kT #[Iv 0,Iv 0,Iv 0,.bool false] 0 4 #[Iv b4,(Iv ((b5.n:Nat):Int)),Iv c1,.bool false] λP=>aE e P 125 λc2 q=>ai 1 (p.add 10) b q (ai 1 (o.add 0) b q (ai 1 (m.add 0) b q (og Tryz.prog #[96,96] 96 [.slice r.a r.n r.c,(.slice (some c2) 1 1)] q λs Q=>ai 1 (m.add 0) b Q (v7 b2 Q 10 (.slice s.a s.n s.c) λR=>en p3 R 25 λt=>aE R #[(Iv (g.1,g.2).1)] 3 λc5 c6=>og Tryz.prog #[69,69] 69 [.slice t.a t.n t.c,(.slice (some c5) 1 1)] c6 λu c7=>v7 p3 c7 25 (.slice u.a u.n u.c) λc9=>drew c9 λl=>nn p3 λv=>cy l (v.add 24) λx=>qJ7 d .i64 l 26 λd1=>ai 1 (v.add 24) l l (kT #[Iv 0,Iv 0] 0 2 #[(Iv (g.1,g.2).1),Iv d1] λT=>aE l T 356 λd2 U=>ai 1 (v.add 24) l U (og Tryz.prog #[120,120] 120 [.slice x.a x.n x.c,(.slice (some d2) 1 1)] U λy d3=>v7 p3 d3 24 (.slice y.a y.n y.c) λd5=>cz (S:=Bool) (λV=>drew d5 λh=>aJ .i64 h (a7.add 4) λd6=>an (decide (d6>0)) (nn d λW=>aQ h (W.add 0) λd7=>u7 d h 0 λd9=>u7 d9 h 17 λe1=>aJ .i64 h (a7.add 4) λe2=>mD e1 (g.1,g.2).1 e2 h λe3 X=>ai 1 (W.add 0) h X (ae d7 e3 X λe4 e5=>V e4 e5)) (V false h)) λe6 z=>an e6 (k () z) (qA7 p3 19 z 4 λY=>av Y z λZ e8=>nn p3 λe9=>dQ 19 e8 (e9.add 4) Z λa0=>aG d a0 λ_u a1=>k () a1))))))))))))))))))))))))
def PW a c d e f g h i j:E [.p] [] [(jT,LR a),(bX,GB c),(kN,E8 d),(gK,E8 e),(vY,ae1 f),(bg,qu g),(Jh,am2 h),(iU,Kx i),(lK,bZ j)] 85070591730234615865843656255988564157 [(9,[(126,.b)])] f333=yH a c d e f g h i j:=aZ
def fX:=yH aD ah aH aq cY ae mD av aG
abbrev yI:bt:=bZ fX
def PX:SS mS (bZ fX):=so func333 (.c kQ (.c cm (.c mY (.c iO (.c CL (.c bp (.c VE (.c kR (.c nD .z))))))))) (PW aD ah aH aq cY ae mD av aG)
def yJ(cF:Tq):T0:=λa w k=>aE w #[.pointer a] 141 λb c=>aQ c b λp3=>cF p3 (.func (.func pq) #[] #[.pointer (some b)]) c λ_u d=>k () d
def PY a:E [.p] [] [(uc,E9 a)] 2 [] f310=yJ a:=aZ
def fY:=yJ cF
abbrev yK:bt:=bZ fY
def PZ:SS kO (bZ fY):=so func310 (.c z9 .z) (PY cF)
def yL(G:T57)(H:T96)(av:W9):asc:=λuw p as2 w k=>aE w uw 119 λz B=>aE B p 75 λq C=>aE C D4 119 λo A=>bx 19 A z λr=>aE A D4 119 λs D=>dQ 19 D s r λc=>bx 5 c q λd=>G d 12 c λt a=>an t (drew a λb=>aJ .i64 b (q.add 1) λu=>H as2 b λv e=>ai 1 (q.add 1) b e (Hf (s.add 2) 8 u 1 λx=>bN e x (Iv v) λf=>bx 19 f s λg=>av g f λh y=>dQ 19 y o h λi=>bx 19 i o λj=>k j i)) (bx 19 a z λl=>dQ 19 a o l λm=>bx 19 m o λn=>k n m)
def P0 a c d:E [.ag,.ag,.b] [.ag] [(DY,ais a),(Nk,ar6 c),(iU,Kx d)] 1244 [] f193=u_3 (yL a c d):=aZ
def jg:=yL eR mX av
def P1:SS E5 (asd jg):=so func193 (.c IA (.c Xx (.c kR .z))) (P0 eR mX av)
def cE:asC:=λa d w k=>aE w d 259 λi j=>jD (S:=Int) (λl b h=>an (decide (b<((a.n:Nat):Int))) (drew h λc=>bx 2 c i λe=>cN a b 2 λm=>bx 2 c m λf=>Tj ([(0,0)] ++([(1,0)] ++[])) e f λg=>an g (k b c) (l (aF .i64 (b+1)) c)) (k (-1) h)) 0 j
def xF:SS qq (asD cE):=sl 66489 [(3,[(8,(.i .i64))])] func364
def wT(dW:T31)(bF:T13):T24:=fun h_0 as3 n_2 w k=>jD (S:=Int) (fun C1 i2 w3=>an ((decide ((IntKind.wrap .i64 ((IntKind.wrap .i64 (2*i2))+1))≥n_2))||(decide ((IntKind.wrap .i64 ((IntKind.wrap .i64 (2*i2))+1))<0))) (k (decide (i2>as3)) w3) (cz (S:=Bool) (fun J4=>an (decide ((IntKind.wrap .i64 ((IntKind.wrap .i64 ((IntKind.wrap .i64 (2*i2))+1))+1))<n_2)) (pR (kC [(lj,(Xb dW)),(dH,(D5 bF))]) Tryz.prog h_0 "Less" #[(Iv (IntKind.wrap .i64 ((IntKind.wrap .i64 ((IntKind.wrap .i64 (2*i2))+1))+1))),(Iv (IntKind.wrap .i64 ((IntKind.wrap .i64 (2*i2))+1)))] w3 fun v5 w6=>Ir v5 fun b7=>J4 b7 w6) (J4 false w3)) fun b8 w9=>cz (S:=Int) (fun J10=>an b8 ((J10 (IntKind.wrap .i64 ((IntKind.wrap .i64 ((IntKind.wrap .i64 (2*i2))+1))+1)) w9)) ((J10 (IntKind.wrap .i64 ((IntKind.wrap .i64 (2*i2))+1)) w9))) fun i11 w12=>pR (kC [(lj,(Xb dW)),(dH,(D5 bF))]) Tryz.prog h_0 "Less" #[Iv i11,Iv i2] w12 fun v13 w14=>Ir v13 fun b15=>an (!b15) (k (decide (i2>as3)) w14) (pR (kC [(lj,(Xb dW)),(dH,(D5 bF))]) Tryz.prog h_0 "Swap" #[Iv i2,Iv i11] w14 fun v16 w17=>Is [] v16 fun(u18:Unit)=>C1 i11 w17))) as3 w
def N2 a c:E [.raw,.i .i64,.i .i64] [.b] [(lj,Xb a),(dH,D5 c)] 558347847623 [(3,[(7,(.i .i64))]),(10,[(33,.b)]),(11,[(9,(.i .i64))])] f199=u_3 (wT a c):=aZ
def bU:=wT dW bF
def EC:SS fM (Q1 bU):=so func199 (.c KC (.c ze .z)) (N2 dW bF)
def dJ:T20:=λb w k=>nn b λq=>cy w q λm=>nn b λr=>cy w r λs=>cN s (aF .i64 (((m.n:Nat):Int) - 1)) 2 λt=>bx 2 w t λh=>aE w #[Iv 0,Iv 0] 259 λo u=>dQ 2 u o h λp=>nn b λi=>cy p i λj=>Th j 2 0 (aF .i64 (((m.n:Nat):Int) - 1)) λd=>nn b λl=>bN p l (.slice d.a d.n d.c) λe=>bx 2 e o λf=>k (.iface 259 (.agg f)) e
abbrev Mj:bt:=H6 dJ
def Mk:SS iI (H6 dJ):=sl 29 [] func423
def uG(bU:T24)(cC:T26)(cO:T17)(bF:T13)(dJ:T20):asE:=fun h_0 i_1 w k=>pR (kC [(fM,(Q1 bU)),(jt,(UK cC)),(fP,(Jk cO)),(dH,(D5 bF)),(iI,(H6 dJ))]) Tryz.prog h_0 "Len" #[] w fun v1 w2=>xS .i64 v1 fun i3=>an ((IntKind.wrap .i64 (i3 - 1)) !=i_1) (pR (kC [(fM,(Q1 bU)),(jt,(UK cC)),(fP,(Jk cO)),(dH,(D5 bF)),(iI,(H6 dJ))]) Tryz.prog h_0 "Swap" #[Iv i_1,(Iv (IntKind.wrap .i64 (i3 - 1)))] w2 fun v4 w5=>Is [] v4 fun(u6:Unit)=>bU h_0 i_1 (IntKind.wrap .i64 (i3 - 1)) w5 fun b7 w8=>an (!b7) (cC h_0 i_1 w8 fun _u w9=>pR (kC [(fM,(Q1 bU)),(jt,(UK cC)),(fP,(Jk cO)),(dH,(D5 bF)),(iI,(H6 dJ))]) Tryz.prog h_0 "Pop" #[] w9 fun v10 w11=>k v10 w11) (pR (kC [(fM,(Q1 bU)),(jt,(UK cC)),(fP,(Jk cO)),(dH,(D5 bF)),(iI,(H6 dJ))]) Tryz.prog h_0 "Pop" #[] w8 fun v12 w13=>k v12 w13)) (pR (kC [(fM,(Q1 bU)),(jt,(UK cC)),(fP,(Jk cO)),(dH,(D5 bF)),(iI,(H6 dJ))]) Tryz.prog h_0 "Pop" #[] w2 fun v14 w15=>k v14 w15)
def Ln a b c d e:E [.raw,.i .i64] [.raw] [(fM,Q1 a),(jt,UK b),(fP,Jk c),(dH,D5 d),(iI,H6 e)] 1050675 [] f363=u_2 (uG a b c d e):=aZ
def iy:=uG bU cC cO bF dJ
def Lo:SS BZ (asF iy):=so func363 (.c EC (.c GN (.c FZ (.c ze (.c Mk .z))))) (Ln bU cC cO bF dJ)
def BD(cE:asC)(iy:asE):T1:=λa aag w k=>an (eA a) (k false w) (nn a λn=>ldM w (n.add 2) λp2=>Go.Ev.look Tryz.prog 207 (.map p2) (Iv aag) true w λo f=>Is [(.i .i64),.b] o fun(e:Int×Bool)=>an e.2 (nn a λq=>ldM f (q.add 2) λp7=>ahR Tryz.prog #[207,3] 0 [(.map p7),Iv aag] f λt r=>drew r λc=>nn a λg=>nn a λd=>cy c (d.add 1) λh=>ai 1 (d.add 1) c c (cE h #[Iv e.1,Iv aag] c λj l=>iy (.iface 261 (.pointer (some (g.add 1)))) j l λs m=>k e.2 m)) (k e.2 f))
def TY a c:E [.p,.i .i64] [.b] [(qq,asD a),(BZ,asF c)] 262515 [] f349=u_2 (BD a c):=aZ
def lu:=BD cE iy
def Ua:SS HX (qu lu):=so func349 (.c xF (.c Lo .z)) (TY cE iy)
def Aw(D:T8)(aq:Nl)(lu:T1):T0:=λb w k=>D b w λp1 y=>aq p1 y λg h=>Qq g 0 λz=>xS .i64 z λx=>u7 b h 0 λp8=>u7 p8 h 17 λp10=>lu p10 x h λC d=>u7 b d 0 λp14=>en p14 d 10 λm=>cN m x 4 λo=>bN d (o.add 3) (.bool true) λp=>drew p λe=>en p1 e 24 λr=>en p1 e 24 λt=>Th r 2 0 (aF .i64 (((t.n:Nat):Int) - 1)) λf=>v7 p1 e 24 (.slice f.a f.n f.c) λv=>k () v
def RV a b c:E [.p] [] [(bX,GB a),(gK,E8 b),(HX,qu c)] 13 [] f329=Aw a b c:=aZ
def eo:=Aw ah aq lu
def GO:SS zM (bZ eo):=so func329 (.c cm (.c iO (.c Ua .z))) (RV ah aq lu)
def wU(aD:W8)(ah:T8)(aH:Nl)(aq:Nl)(eG:T46)(ae:T1)(jg:asc)(eo:T0)(aG:T0):T0:=λb w k=>aD b w λR P=>an R (k () P) (ah b P λp3 T=>aH b T λv U=>aE U JN 75 λQ V=>dQ 5 V Q v λW=>drew W λa=>nn b λg=>aQ a (g.add 0) λp12=>nn p12 λh=>aQ a (h.add 9) λp14=>nn b λi=>aQ a (i.add 0) λp16=>nn p16 λj=>aQ a (j.add 7) λp18=>nn b λl=>aJ .i64 a (l.add 1) λy=>aq p3 a λm c=>ai 1 (l.add 1) a c (ai 1 (j.add 7) a c (ai 1 (i.add 0) a c (ai 1 (h.add 9) a c (ai 1 (g.add 0) a c (Qq m 0 λz=>xS .i64 z λA=>eG p14 p18 y A c λd n=>u7 b n 0 λC=>ae C (d.1,d.2).2 n λD e=>an D (k () e) (cz (S:=ByteArray) (λo=>an (d.1,d.2).1 (o (ByteArray.mk #[49]) e) (o (ByteArray.mk #[48]) e)) λp q=>nn p3 λF=>Qp q (F.add 23) λr=>((((((ByteArray.size r)+(ByteArray.size p)):Nat):Int)≤9223372036854775807))∧(v7 p3 q 23 (.string (r++p)) λH=>drew H λf=>qA7 p3 19 f 4 λs=>bx 5 f Q λt=>jg s t (d.1,d.2).1 f λu J=>nn p3 λL=>dQ 19 J (L.add 4) u λM=>eo b M λ_u N=>aG b N λ_u O=>k () O))))))))
def N3 a b c d e f g h i:E [.p] [] [(jT,LR a),(bX,GB b),(kN,E8 c),(gK,E8 d),(Bk,aac e),(bg,qu f),(E5,asd g),(zM,bZ h),(lK,bZ i)] 26388279067005 [(8,[(6,.str)])] f335=wU a b c d e f g h i:=aZ
def fq:=wU aD ah aH aq eG ae jg eo aG
abbrev wV:bt:=bZ fq
def N4:SS lU (bZ fq):=so func335 (.c kQ (.c cm (.c mY (.c iO (.c Ij (.c bp (.c P1 (.c GO (.c nD .z))))))))) (N3 aD ah aH aq eG ae jg eo aG)
def ED(o:T6)(p:T42):T46:=λa b f c w k=>o a b c w λg d=>an (g !=0) (k (false,g) d) (en a d 0 λi=>cN i c 3 λj=>aJ .i64 d (j.add 2) λm=>p b f m 0 1 d λe n=>k ((e.1,e.2).1,(e.1,e.2).2) n)
def XJ a c:E [.p,.p,.i .i64,.i .i64] [.b,.i .i64] [(ol,ry a),(nq,aco c)] 67343 [] f152=u_4 (ED a c):=aZ
def gI:=ED bh aR
def KD:SS DV (aac gI):=so func152 (.c pW (.c pC .z)) (XJ bh aR)
def wW(aD:W8)(ah:T8)(aq:Nl)(gI:T46)(ae:T1)(av:W9)(aG:T0)(cj:Tq):T0:=λa w k=>aD a w λF B=>an F (k () B) (ah a B λp3 G=>drew G λc=>nn a λC=>aQ c (C.add 0) λp7=>nn p7 λD=>aQ c (D.add 9) λp9=>nn a λe=>aQ c (e.add 0) λp11=>nn p11 λf=>aQ c (f.add 7) λp13=>nn a λg=>aJ .i64 c (g.add 1) λo=>aq p3 c λh b=>ai 1 (g.add 1) c b (ai 1 (f.add 7) c b (ai 1 (e.add 0) c b (ai 1 (D.add 9) c b (ai 1 (C.add 0) c b (Qq h 0 λp=>xS .i64 p λq=>gI p9 p13 o q b λi j=>u7 a j 0 λs=>ae s (i.1,i.2).2 j λt d=>an t (k () d) (qA7 p3 19 d 4 λl=>av l d λm v=>nn p3 λx=>dQ 19 v (x.add 4) m λy=>aG a y λ_u z=>cj a (.func (.func gC) #[.pointer a] #[]) z λ_u A=>k () A)))))))
def N5 a b c d e f g h:E [.p] [] [(jT,LR a),(bX,GB b),(gK,E8 c),(DV,aac d),(bg,qu e),(iU,Kx f),(lK,bZ g),(tB,E9 h)] 549755813973 [] f311=wW a b c d e f g h:=aZ
def fx:=wW aD ah aq gI ae av aG cj
abbrev wX:bt:=bZ fx
def N6:SS kq (bZ fx):=so func311 (.c kQ (.c cm (.c iO (.c KD (.c bp (.c kR (.c nD (.c yo .z)))))))) (N5 aD ah aq gI ae av aG cj)
def Ax(aD:W8)(ah:T8)(av:W9)(aG:T0):T0:=λa w k=>aD a w λj h=>an (!j) (ah a h λp3 l=>ah a l λp5 i=>qA7 p5 19 i 4 λb=>av b i λc d=>nn p3 λe=>dQ 19 d (e.add 4) c λf=>aG a f λ_u g=>k () g) (k () h)
def RW a b c d:E [.p] [] [(jT,LR a),(bX,GB b),(iU,Kx c),(lK,bZ d)] 17 [] f312=Ax a b c d:=aZ
def g9:=Ax aD ah av aG
abbrev Ay:bt:=bZ g9
def RX:SS lJ (bZ g9):=so func312 (.c kQ (.c cm (.c kR (.c nD .z)))) (RW aD ah av aG)
def yM(aD:W8)(ah:T8)(aH:Nl)(av:W9)(aG:T0)(cB:T41):T0:=λa w k=>aD a w λC A=>an C (k () A) (ah a A λp3 D=>aH a D λi F=>aE F JN 75 λh G=>dQ 5 G h i λB=>qA7 p3 19 B 4 λf=>av f B λg l=>nn p3 λm=>dQ 19 l (m.add 4) g λn=>aG a n λ_u c=>aJ .i64 c (h.add 0) λo=>an (o==15) (drew c λd=>aJ .i64 d (h.add 1) λp=>nn p3 λq=>Hf (aY (q.add 4) 2) 8 p 1 λr=>aJ .i64 d r λs=>cB a 3 s d λ_u t=>k () t) (drew c λe=>aJ .i64 e (h.add 1) λu=>nn p3 λv=>Hf (aY (v.add 4) 2) 8 u 1 λx=>aJ .i64 e x λy=>cB a 2 y e λ_u z=>k () z))
def P2 a b c d e f:E [.p] [] [(jT,LR a),(bX,GB b),(kN,E8 c),(iU,Kx d),(lK,bZ e),(ua,acn f)] 8388701 [] f313=yM a b c d e f:=aZ
def fZ:=yM aD ah aH av aG cB
abbrev yN:bt:=bZ fZ
def P3:SS iV (bZ fZ):=so func313 (.c kQ (.c cm (.c mY (.c kR (.c nD (.c Ab .z)))))) (P2 aD ah aH av aG cB)
def Az(j:T43):T47:=λuw a b c w k=>aE w uw 116 λf e=>aJ .i64 e (f.add 0) λg=>j a b (aF .i64 (g+1)) c e λh i=>k h i
def RY a:E [.ag,.p,.i .i64,.i .i64] [.i .i64] [(lQ,acp a)] 286 [] f343=u_4 (Az a):=aZ
def kH:=Az aK
def RZ:SS Gy (aad kH):=so func343 (.c nW .z) (RY aK)
def BE(A:T8)(B:T47)(C:T1):T0:=λa w k=>A a w λp1 v=>cz (S:=Bool) (λt=>drew v λb=>qJ7 p1 .i64 b 26 λy=>an (y==4) (t true b) (nn a λu=>aQ b (u.add 0) λp8=>qA7 p1 1 b 3 λd=>u7 a b 0 λp12=>u7 p12 b 7 λp14=>qJ7 a .i64 b 1 λj=>qJ7 p1 .i64 b 27 λm=>B d p14 j m b λn e=>ai 1 (u.add 0) b e (C p8 n e λo p=>t (!o) p))) λq f=>an q (v7 a f 7 (.func (.func oa) #[.pointer a] #[]) λs=>k () s) (k () f)
def Ub a c d:E [.p] [] [(bX,GB a),(Gy,aad c),(bg,qu d)] 137438953477 [(1,[(37,.b)])] f326=BE a c d:=aZ
def iR:=BE ah kH ae
abbrev BF:bt:=bZ iR
def Uc:SS n9 (bZ iR):=so func326 (.c cm (.c RZ (.c bp .z))) (Ub ah kH ae)
def AA(i:T42):ase:=λuw a d as4 w k=>aE w uw 116 λf b=>an (eA a) (k (false,2) b) (an ((decide (as4<2))||(decide (as4>4))) (k (false,10) b) (aJ .i64 b (f.add 0) λg=>i a d (aF .i64 (g+0)) 1 as4 b λc h=>k ((c.1,c.2).1,(c.1,c.2).2) h))
def R1 a:E [.ag,.p,.i .i64,.i .i64] [.b,.i .i64] [(nq,aco a)] 10014 [] f359=u_4 (AA a):=aZ
def kI:=AA aR
def R3:SS Gz (asf kI):=so func359 (.c pC .z) (R1 aR)
def BG(u:T8)(kI:ase)(ae:T1):T0:=λa w k=>u a w λp1 q=>drew q λb=>qA7 p1 1 b 3 λf=>u7 a b 0 λp7=>u7 p7 b 7 λp9=>qJ7 a .i64 b 1 λi=>qJ7 p1 .i64 b 26 λl=>kI f p9 i l b λc d=>u7 a d 0 λp17=>ae p17 (c.1,c.2).2 d λn e=>an (!n) (v7 a e 7 (.func (.func nw) #[.pointer a] #[]) λp=>k () p) (k () e)
def Ud a b c:E [.p] [] [(bX,GB a),(Gz,asf b),(bg,qu c)] 68719476757 [] f344=BG a b c:=aZ
def iS:=BG ah kI ae
abbrev BH:bt:=bZ iS
def Ue:SS oa (bZ iS):=so func344 (.c cm (.c R3 (.c bp .z))) (Ud ah kI ae)
def uH(aj:Hv):Vm:=λuw b c w k=>aE w uw 116 λf e=>aJ .i64 e (f.add 0) λg=>aj b c (aF .i64 (g+2)) e λa h=>k ((a.1,a.2).1,(a.1,a.2).2) h
def Lp a:E [.ag,.p,.i .i64] [.i .i64,.i .i64] [(dS,zb a)] 206 [] f374=u_3 (uH a):=aZ
def iz:=uH aj
def Lq:SS B0 (Jl iz):=so func374 (.c er .z) (Lp aj)
def AB(u:T8)(iz:Vm)(ae:T1):T0:=λa w k=>drew w λc=>nn a λp=>aQ c (p.add 0) λp3=>nn p3 λq=>aQ c (q.add 7) λp5=>nn a λr=>aJ .i64 c (r.add 1) λt=>u a c λp8 d=>ai 1 (r.add 1) c d (ai 1 (q.add 7) c d (ai 1 (p.add 0) c d (qA7 p8 1 d 3 λe=>iz e p5 t d λb f=>u7 a f 0 λp15=>ae p15 (b.1,b.2).2 f λj g=>an (!j) (v7 a g 30 (Iv (b.1,b.2).1) λm=>v7 a m 7 (.func (.func ny) #[.pointer a] #[]) λo=>k () o) (k () g))))
def R4 a b c:E [.p] [] [(bX,GB a),(B0,Jl b),(bg,qu c)] 1073741837 [] f360=AB a b c:=aZ
def ia:=AB ah iz ae
abbrev AD:bt:=bZ ia
def R5:SS nw (bZ ia):=so func360 (.c cm (.c Lq (.c bp .z))) (R4 ah iz ae)
def BJ(o:T6)(p:T36):T46:=λb c f d w k=>o b c d w λh e=>an (h !=0) (k (false,h) e) (en b e 0 λj=>cN j d 3 λl=>aJ .i64 e (l.add 2) λm=>p c f (aF .i64 (m+1)) (-1) e λa n=>(k ((((a.1,a.2).2==0)&&((a.1,a.2).1==1)),(a.1,a.2).2) n))
def Uf a c:E [.p,.p,.i .i64,.i .i64] [.b,.i .i64] [(ol,ry a),(ko,aab c)] 270095 [] f386=u_4 (BJ a c):=aZ
def lz:=BJ bh aL
def Ug:SS HY (aac lz):=so func386 (.c pW (.c nB .z)) (Uf bh aL)
def AE(U:T8)(V:T46)(W:T1)(cj:Tq):T0:=λb w k=>drew w λe=>nn b λQ=>aQ e (Q.add 0) λp3=>nn p3 λR=>aQ e (R.add 9) λp5=>nn b λS=>aQ e (S.add 0) λp7=>nn p7 λT=>aQ e (T.add 7) λp9=>nn b λp=>aJ .i64 e (p.add 1) λs=>U b e λp12 d=>ai 1 (p.add 1) e d (ai 1 (T.add 7) e d (ai 1 (S.add 0) e d (ai 1 (R.add 9) e d (ai 1 (Q.add 0) e d (qJ7 p12 .i64 d 1 λu=>V p5 p9 s u d λh q=>u7 b q 0 λp19=>W p19 (h.1,h.2).2 q λx g=>an x (k () g) (en b g 5 λi=>en b g 6 λA=>cN A (aF .i64 (((i.n:Nat):Int) - 1)) 1 λB=>tH g B λr=>drew g λj=>en b j 5 λD=>Th D 1 0 (aF .i64 (((i.n:Nat):Int) - 1)) λl=>en b j 6 λG=>Th G 1 0 (aF .i64 (((i.n:Nat):Int) - 1)) λm=>v7 b j 5 (.slice l.a l.n l.c) λI=>v7 b I 6 (.slice m.a m.n m.c) λL=>v7 b L 7 r λo=>qJ7 b .i64 o 30 λO=>an ((O !=0)||(h.1,h.2).1) (cj b r o λ_u P=>k () P) (k () o)))))))
def R6 a b c d:E [.p] [] [(bX,GB a),(HY,aac b),(bg,qu c),(tB,E9 d)] 2417851639229533227319357 [] f375=AE a b c d:=aZ
def ie:=AE ah lz ae cj
abbrev AF:bt:=bZ ie
def R7:SS ny (bZ ie):=so func375 (.c cm (.c Ug (.c bp (.c yo .z)))) (R6 ah lz ae cj)
def wY(aj:Hv):Vm:=λuw b c w k=>aE w uw 116 λf e=>aJ .i64 e (f.add 0) λg=>aj b c (aF .i64 (g+0)) e λa h=>k ((a.1,a.2).1,(a.1,a.2).2) h
def N7 a:E [.ag,.p,.i .i64] [.i .i64,.i .i64] [(dS,zb a)] 974 [] f367=u_3 (wY a):=aZ
def jy:=wY aj
def N8:SS D0 (Jl jy):=so func367 (.c er .z) (N7 aj)
def yO(jy:Vm)(ae:T1)(bI:Tq)(ah:T8)(dM:Xa):T0:=λn w k=>aE w #[.pointer n] 141 λb X=>drew X λf=>aQ f b λp4=>u7 p4 f 20 λp6=>qA7 p6 1 f 3 λo=>aQ f b λp9=>u7 p9 f 0 λp11=>u7 p11 f 7 λp13=>aQ f b λp14=>qJ7 p14 .i64 f 1 λt=>jy o p13 t f λa h=>aQ h b λp19=>u7 p19 h 0 λv=>ae v (a.1,a.2).2 h λx g=>an x (k () g) (aQ g b λy=>u7 y g 20 λA=>aE g #[.pointer none] 114 λi B=>bN B i (.pointer A) λc=>an ((a.1,a.2).1==0) (aQ c b λC=>qV7 C c 24 λF=>aE c #[.nilFunc] 1 λj G=>bN G j F λl=>aQ l b λH=>bI H (.func (.func pu) #[] #[.pointer (some b),.pointer (some i),.pointer (some j)]) l λ_u I=>k () I) (an ((a.1,a.2).1==1) (drew c λd=>aQ d b λJ=>aQ d b λL=>aQ d b λM=>ah L d λN e=>ai 1 b d e (ai 1 b d e (en N e 24 λP=>cN P 0 2 λQ=>aJ .i64 e (Q.add 1) λR=>dM J R (.func (.func ku) #[.pointer M] #[]) e λ_u S=>k () S))) (aQ c b λT=>v7 T c 21 (Iv (a.1,a.2).1) λm=>aQ m b λV=>bI V (.func (.func px) #[] #[.pointer (some b)]) m λ_u W=>k () W)))
def P4 a b c d e:E [.p] [] [(D0,Jl a),(bg,qu b),(q9,E9 c),(bX,GB d),(xW,LS e)] 36099449230983230 [] f354=yO a b c d e:=aZ
def gu:=yO jy ae bI ah dM
abbrev yP:bt:=bZ gu
def P5:SS mT (bZ gu):=so func354 (.c N8 (.c bp (.c uf (.c cm (.c Fq .z))))) (P4 jy ae bI ah dM)
def wZ(aj:Hv):Vm:=λuw b c w k=>aE w uw 116 λf e=>aJ .i64 e (f.add 0) λg=>aj b c (aF .i64 (g+1)) e λa h=>k ((a.1,a.2).1,(a.1,a.2).2) h
def N9 a:E [.ag,.p,.i .i64] [.i .i64,.i .i64] [(dS,zb a)] 206 [] f385=u_3 (wZ a):=aZ
def jz:=wZ aj
def Oa:SS D3 (Jl jz):=so func385 (.c er .z) (N9 aj)
def yQ(eR:T57)(av:W9)(de:T49):ash:=λuw H S3 f w k=>aE w uw 119 λd w2=>aE w2 H 75 λg w4=>aE w4 D4 119 λe I=>cz (S:=Bool) (λJ=>an ((decide (S3<2))||(decide (S3>4))) (J true I) (bx 5 I g λL=>eR L 9 I λb9 h=>an (!b9) (bx 5 h g λj=>eR j 10 h λM N=>J (!M) N) (J false h))) λO a=>an O (bx 19 a d λl=>dQ 19 a e l λm=>bx 19 m e λn=>k (n,(0,false)) m) (cz (S:=Int) (λo=>aJ .i64 a (g.add 0) λP=>an (P==10) (cz (S:=Int) (λp=>an (S3==4) (p 0 a) (p f a)) λQ R=>drew R λc=>aJ .i64 c (g.add 1) λT=>aJ .i64 c (g.add 2) λU=>Hf (d.add 2) 8 T 1 λV=>bN c V (Iv Q) λq=>ai 1 (g.add 2) c q (Hf (d.add 2) 8 U 1 λW=>bN q W (Iv (aF .i64 (S3 - 2))) λr=>bx 19 r d λs=>av s r λt X=>dQ 19 X e t λu=>bx 19 u e λv=>k (v,(0,false)) u)) (an (S3==2) (aJ .i64 a (g.add 1) λY=>Hf (d.add 2) 8 Y 1 λZ=>bN a Z (Iv f) λx=>bx 19 x d λy=>av y x λz a0=>dQ 19 a0 e z λA=>bx 19 A e λB=>k (B,(0,false)) A) (an (S3==4) (o (-1) a) (o f a)))) λa2 i=>bx 19 i d λC=>aJ .i64 i (d.add 1) λa4=>de C a4 i λD a6=>dQ 19 a6 e D λF=>bx 19 F e λG=>k (G,(a2,true)) F)
def P6 a c d:E [.ag,.ag,.i .i64,.i .i64] [.ag,.i .i64,.b] [(DY,ais a),(iU,Kx c),(tZ,acr d)] 588746065724 [(1,[(26,.b)]),(5,[(3,(.i .i64))]),(16,[(3,(.i .i64))])] f192=u_4 (yQ a c d):=aZ
def iu:=yQ eR av de
def P7:SS E4 (asi iu):=so func192 (.c IA (.c kR (.c Eu .z))) (P6 eR av de)
def xa(aD:W8)(ah:T8)(aH:Nl)(jz:Vm)(ae:T1)(iu:ash)(aG:T0)(cB:T41):T0:=λa w k=>aD a w λb1 w2=>an b1 (k () w2) (ah a w2 λp3 w4=>aH a w4 λD w6=>aE w6 JN 75 λC w8=>dQ 5 w8 C D λF=>qJ7 a .i64 F 21 λH=>cz (S:=Int) (λp=>an (H !=4) (drew F λe=>u7 a e 20 λp15=>qA7 p15 1 e 3 λq=>u7 a e 0 λp19=>u7 p19 e 7 λN=>qJ7 a .i64 e 1 λP=>jz q N P e λf r=>u7 a r 0 λR=>ae R (f.1,f.2).2 r λT s=>an T (k () s) (p (f.1,f.2).1 s)) (p 0 F)) λt U=>cz (S:=(Addr×(Int×Bool))) (λu=>drew U λb=>nn p3 λl=>bx 19 b (l.add 4) λi=>bx 5 b C λj=>nn a λm=>aJ .i64 b (m.add 21) λv=>both (iu i j v t b λc V=>aE V D4 119 λx g=>ai 1 (m.add 21) b g (ai 5 C b g (ai 19 (l.add 4) b g (dQ 19 g x (c.1,(c.2.1,c.2.2)).1 λW=>(u (x,((c.1,(c.2.1,c.2.2)).2.1,(c.1,(c.2.1,c.2.2)).2.2)) W))))) (aE b D4 119 λy h=>ai 1 (m.add 21) b h (ai 5 C b h (ai 19 (l.add 4) b h (iu i j v t h λd X=>dQ 19 X y (d.1,(d.2.1,d.2.2)).1 λY=>(u (y,((d.1,(d.2.1,d.2.2)).2.1,(d.1,(d.2.1,d.2.2)).2.2)) Y)))))) λn z=>bx 19 z n.1 λA=>nn p3 λZ=>dQ 19 z (Z.add 4) A λa0=>aG a a0 λ_u B=>an n.2.2 (cB a 3 n.2.1 B λ_u a1=>k () a1) (k () B))
def Ob c d e f g h j l:E [.p] [] [(jT,LR c),(bX,GB d),(kN,E8 e),(D3,Jl f),(bg,qu g),(E4,asi h),(lK,bZ j),(ua,acn l)] 2361183522909800369149 [(5,[(4,(.i .i64))]),(10,[(7,.a),(8,(.i .i64)),(9,.b)])] f371=xa c d e f g h j l:=aZ
def fy:=xa aD ah aH jz ae iu aG cB
abbrev xb:bt:=bZ fy
def Oc:SS lX (bZ fy):=so func371 (.c kQ (.c cm (.c mY (.c Oa (.c bp (.c P7 (.c nD (.c Ab .z)))))))) (Ob aD ah aH jz ae iu aG cB)
def xd(cn:Vm)(ae:T1)(eM:W7)(bq:T39)(cu:T0)(cV:T22):T0:=λi w k=>aE w #[.pointer i] 141 λc G=>drew G λe=>aQ e c λp4=>qA7 p4 2 e 2 λj=>aQ e c λp7=>u7 p7 e 0 λp9=>u7 p9 e 7 λp11=>aQ e c λp12=>qJ7 p12 .i64 e 1 λo=>cn j p11 o e λd f=>aQ f c λp17=>u7 p17 f 0 λp19=>ae p19 (d.1,d.2).2 f λq a=>an q (k () a) (aQ a c λr=>qJ7 r .i64 a 26 λt=>an (decide ((d.1,d.2).1≤t)) (aQ a c λu=>qV7 u a 27 λx=>nj (kC [(qD,(Jl cn)),(bg,(qu ae)),(vZ,(HZ eM)),(mP,(acm bq)),(ku,(bZ cu)),(kr,(Fa cV))]) x #[] a λy z=>Is [] y fun(J:Unit)=>k () z) (drew a λb=>aQ b c λA=>aQ b c λB=>qA7 B 2 b 2 λg=>eM g b λD h=>ai 1 c b h (bq A D (.func (.func oN) #[] #[.pointer (some c)]) h λ_u F=>k () F)))
def Od a b c d e f:E [.p] [] [(qD,Jl a),(bg,qu b),(vZ,HZ c),(mP,acm d),(ku,bZ e),(kr,Fa f)] 17448304654 [] f361=xd a b c d e f:=aZ
def fA:=xd cn ae eM bq cu cV
abbrev xe:bt:=bZ fA
def Oe:SS lW (bZ fA):=so func361 (.c yw (.c bp (.c Js (.c tC (.c z6 (.c Es .z)))))) (Od cn ae eM bq cu cV)
def vv(s:T6)(t:T1):T0:=λa w k=>v7 a w 14 (.bool false) λo=>drew o λb=>nn a λm=>aQ b (m.add 0) λp5=>u7 a b 4 λp7=>u7 a b 0 λp9=>u7 p9 b 7 λp11=>qJ7 a .i64 b 1 λg=>s p7 p11 g b λh c=>ai 1 (m.add 0) b c (t p5 h c λi d=>an i (k () d) (v7 a d 7 (.func (.func kZ) #[.pointer a] #[]) λl=>k () l))
def Ml a b:E [.p] [] [(uQ,ry a),(bg,qu b)] 33554433 [] f348=vv a b:=aZ
def eN:=vv cM ae
abbrev vw:bt:=bZ eN
def Mm:SS kY (bZ eN):=so func348 (.c BC (.c bp .z)) (Ml cM ae)
def CV(o:T6)(aj:Hv):T51:=λa b f c w k=>o a b c w λh d=>an (h !=0) (k (0,h) d) (en a d 0 λj=>cN j c 3 λl=>aJ .i64 d (l.add 2) λm=>aj b f (aF .i64 (m+1)) d λe n=>k ((e.1,e.2).1,(e.1,e.2).2) n)
def VF a b:E [.p,.p,.i .i64,.i .i64] [.i .i64,.i .i64] [(ol,ry a),(dS,zb b)] 67343 [] f378=u_4 (CV a b):=aZ
def mE:=CV bh aj
def VG:SS Ji (ae1 mE):=so func378 (.c pW (.c er .z)) (VF bh aj)
def vz(A:T8)(aq:Nl)(mE:T51)(ae:T1)(bI:Tq)(cu:T0):T0:=λa w k=>drew w λb=>nn a λj=>aQ b (j.add 0) λp3=>nn p3 λl=>aQ b (l.add 9) λp5=>nn a λm=>aQ b (m.add 0) λp7=>nn p7 λn=>aQ b (n.add 7) λp9=>nn a λg=>aJ .i64 b (g.add 1) λp=>A a b λp12 c=>ai 1 (g.add 1) b c (ai 1 (n.add 7) b c (ai 1 (m.add 0) b c (ai 1 (l.add 9) b c (ai 1 (j.add 0) b c (aq p12 c λh d=>ai 1 (g.add 1) b d (ai 1 (n.add 7) b d (ai 1 (m.add 0) b d (ai 1 (l.add 9) b d (ai 1 (j.add 0) b d (Qq h 0 λq=>xS .i64 q λr=>mE p5 p9 p r d λe i=>u7 a i 0 λt=>ae t (e.1,e.2).2 i λu f=>an u (k () f) (an ((e.1,e.2).1==0) (qV7 a f 31 λx=>bI a x f λ_u y=>k () y) (cu a f λ_u z=>k () z))))))))))))
def Mn a b c d e f:E [.p] [] [(bX,GB a),(gK,E8 b),(Ji,ae1 c),(bg,qu d),(q9,E9 e),(ku,bZ f)] 171798691853 [] f362=vz a b c d e f:=aZ
def eO:=vz ah aq mE ae bI cu
abbrev vA:bt:=bZ eO
def Mo:SS kZ (bZ eO):=so func362 (.c cm (.c iO (.c VG (.c bp (.c uf (.c z6 .z)))))) (Mn ah aq mE ae bI cu)
def yR(l:T36):T47:=λuw b a acC w k=>aE w uw 116 λg d=>an (eA b) (k 2 d) (an ((decide (a<0))||(decide (a>16))) (k 10 d) (drew d λe=>aJ .i64 e (g.add 0) λh=>HI .i64 acC a λi=>l b a (aF .i64 (h+2)) i e λf j=>k (f.1,f.2).2 j))
def P8 a:E [.ag,.p,.i .i64,.i .i64] [.i .i64] [(ko,aab a)] 19742 [] f389=u_4 (yR a):=aZ
def dN:=yR aL
def Ft:SS xX (aad dN):=so func389 (.c nB .z) (P8 aL)
def yS(h:T47):T34:=λuw a b w k=>aE w uw 116 λe d=>bx 1 d e λc=>h c a b 1 d λf g=>k f g
def P9 a:E [.ag,.p,.i .i64] [.i .i64] [(xX,aad a)] 78 [] f394=u_3 (yS a):=aZ
def jZ:=yS dN
def Qa:SS E7 (OZ jZ):=so func394 (.c Ft .z) (P9 dN)
def uI(x:T34)(y:T1):T0:=λa w k=>drew w λb=>nn a λr=>aQ b (r.add 0) λp3=>u7 a b 20 λp5=>qA7 p5 1 b 3 λe=>u7 a b 0 λp9=>u7 p9 b 7 λp11=>qJ7 a .i64 b 1 λh=>x e p11 h b λi d=>ai 1 (r.add 0) b d (y p3 i d λj c=>an (!j) (qV7 a c 24 λm=>v7 a c 22 (.bool true) λo=>v7 a o 7 m λq=>k () q) (k () c))
def Lr a b:E [.p] [] [(E7,OZ a),(bg,qu b)] 67108865 [] f390=uI a b:=aZ
def ez:=uI jZ ae
abbrev uJ:bt:=bZ ez
def Ls:SS kE (bZ ez):=so func390 (.c Qa (.c bp .z)) (Lr jZ ae)
def yT(u:T40)(v:T1):T0:=λa w k=>drew w λd=>u7 a d 12 λp3=>u7 a d 0 λp5=>u7 p5 d 7 λp7=>qJ7 a .i64 d 1 λt=>u p3 p7 t d λb e=>u7 a e 0 λp13=>v p13 (b.1,b.2).2 e λg c=>an ((!g)&&(b.1,b.2).1) (qV7 a c 24 λi=>v7 a c 23 (.bool true) λl=>v7 a l 7 i λn=>k () n) (k () c)
def Qb a b:E [.p] [] [(vc,Xd a),(bg,qu b)] 4294967309 [] f392=yT a b:=aZ
def gv:=yT dI ae
abbrev yU:bt:=bZ gv
def Qc:SS mW (bZ gv):=so func392 (.c FY (.c bp .z)) (Qb dI ae)
def uK(d:T75):T29:=λa b w k=>aQ w a λp1=>aQ w b λp2=>d p1 p2 w λ_u c=>k () c
def Lt b:E [.a,.a] [] [(wh,arV b)] 0 [] f351=u_2 (uK b):=aZ
def cw:=uK c9
abbrev oU:bt:=Kz cw
def B5:SS eP (Kz cw):=so func351 (.c EB .z) (Lt c9)
def xf(cF:Tq):T29:=λa b w k=>aQ w a λp1=>tH w b λc=>cF p1 c w λ_u d=>k () d
def Of b:E [.a,.a] [] [(uc,E9 b)] 0 [] f345=u_2 (xf b):=aZ
def cL:=xf cF
abbrev pX:bt:=Kz cL
def EE:SS fN (Kz cL):=so func345 (.c z9 .z) (Of cF)
def AG(c:T0)(i:T29)(j:T29):T0:=λa w k=>u7 a w 4 λp2=>c p2 w λ_u b=>qV7 a b 24 λf=>nj (kC [(uR,(bZ c)),(eP,(Kz i)),(fN,(Kz j))]) f #[] b λg h=>Is [] g fun(l:Unit)=>k () h
def R8 a b c:E [.p] [] [(uR,bZ a),(eP,Kz b),(fN,Kz c)] 1 [] f393=AG a b c:=aZ
def ig:=AG eu cw cL
abbrev AH:bt:=bZ ig
def R9:SS nA (bZ ig):=so func393 (.c Il (.c B5 (.c EE .z))) (R8 eu cw cL)
def iD:W7:=λa w k=>aE w a 102 λf e=>bx 3 e f λb=>kT #[Iv 0,Iv 0,Iv 0,Iv 0,Iv 0,Iv 0,Iv 0,.nilFunc] 0 3 b λc=>aE e (eS c 6 (Iv (-1))) 346 λd g=>bN g (d.add 7) (.func (.func vf) #[.pointer (some d)] #[]) λh=>k (some d) h
def Og:SS wi (HZ iD):=sl 14 [] func380
def xg(h:T47):T34:=λuw a b w k=>aE w uw 116 λe d=>bx 1 d e λc=>h c a b (-1) d λf g=>k f g
def Oh a:E [.ag,.p,.i .i64] [.i .i64] [(xX,aad a)] 78 [] f381=u_3 (xg a):=aZ
def iE:=xg dN
def Oi:SS wj (OZ iE):=so func381 (.c Ft .z) (Oh dN)
def vB(bi:Xa):T52:=λb c d w k=>drew w λa=>aQ a b λp2=>aQ a c λp3=>qJ7 p3 .i64 a 0 λg=>tH a d λh=>bi p2 g h a λ_u i=>k () i
def Mp b:E [.a,.a,.a] [] [(ph,LS b)] 0 [] f368=u_3 (vB b):=aZ
def fG:=vB bi
abbrev Dl:bt:=aaf fG
def Mq:SS pu (aaf fG):=so func368 (.c ri .z) (Mp bi)
def fH:T22:=λa w k=>aQ w a λp1=>aQ w a λp2=>v7 p1 w 7 (.func (.func lX) #[.pointer p2] #[]) λc=>k () c
abbrev Dm:bt:=Fa fH
def Mr:SS px (Fa fH):=sl 0 [] func370
def vC(bi:Xa):T52:=λa b c w k=>aQ w a λp1=>aJ .i64 w b λe=>tH w c λf=>bi p1 e f w λ_u g=>k () g
def Ms b:E [.a,.a,.a] [] [(ph,LS b)] 0 [] f387=u_3 (vC b):=aZ
def fI:=vC bi
abbrev Dn:bt:=aaf fI
def Mu:SS pz (aaf fI):=so func387 (.c ri .z) (Ms bi)
def fJ:T22:=λa w k=>aQ w a λp1=>aQ w a λp2=>v7 p1 w 7 (.func (.func lU) #[.pointer p2] #[]) λc=>k () c
abbrev Dp:bt:=Fa fJ
def Mv:SS pq (Fa fJ):=sl 0 [] func334
def uL(d:T0)(e:T0):T22:=λa w k=>aQ w a λp1=>d p1 w λ_u b=>aQ b a λp3=>e p3 b λ_u c=>k () c
def Lu b c:E [.a] [] [(zM,bZ b),(wg,bZ c)] 1 [] f328=uL b c:=aZ
def eX:=uL eo dy
abbrev B6:bt:=Fa eX
def Lv:SS oK (Fa eX):=so func328 (.c GO (.c Et .z)) (Lu eo dy)
def yV(iD:W7)(dI:T40)(ae:T1)(iE:T34)(bB:T0)(fG:T52)(fH:T22)(fI:T52)(fJ:T22)(eX:T22):T0:=λa w k=>nn a λa1=>He w (a1.add 23) λb2=>an b2 (u7 a w 12 λp4=>cz (S:=Unit) (λJ5=>an (eA p4) (u7 a w 0 λp7=>qA7 p7 3 w 14 λl=>iD l w λp10 m=>v7 a m 12 (.pointer p10) λo=>J5 () o) (J5 () w)) λb4 p=>drew p λc=>u7 a c 12 λp18=>u7 a c 0 λs=>u7 s c 7 λu=>qJ7 a .i64 c 1 λy=>dI p18 u y c λd e=>u7 a e 0 λA=>ae A (d.1,d.2).2 e λB f=>an ((!B)&&(d.1,d.2).1) (v7 a f 23 (.bool false) λD=>v7 a D 12 (.pointer none) λG=>k () G) (k () f)) (nn a λH=>He w (H.add 22) λI=>an I (drew w λb=>nn a λg=>aQ b (g.add 0) λJ=>u7 a b 20 λM=>qA7 M 1 b 3 λh=>u7 a b 0 λP=>u7 P b 7 λR=>qJ7 a .i64 b 1 λU=>iE h R U b λV i=>ai 1 (g.add 0) b i (ae J V i λW j=>an (!W) (v7 a j 22 (.bool false) λY=>k () Y) (k () j))) (qV7 a w 25 λa0=>nj (kC [(wi,(HZ iD)),(vc,(Xd dI)),(bg,(qu ae)),(wj,(OZ iE)),(j6,(bZ bB)),(pu,(aaf fG)),(px,(Fa fH)),(pz,(aaf fI)),(pq,(Fa fJ)),(oK,(Fa eX))]) a0 #[] w λa2 a4=>Is [] a2 fun(b5:Unit)=>k () a4))
def Qd a b c d e f g h i j:E [.p] [] [(wi,HZ a),(vc,Xd b),(bg,qu c),(wj,OZ d),(j6,bZ e),(pu,aaf f),(px,Fa g),(pz,aaf h),(pq,Fa i),(oK,Fa j)] 19807040665747802921957065229 [(4,[])] f366=yV a b c d e f g h i j:=aZ
def gy:=yV iD dI ae iE bB fG fH fI fJ eX
abbrev yW:bt:=bZ gy
def Qe:SS mU (bZ gy):=so func366 (.c Og (.c FY (.c bp (.c Oi (.c tO (.c Mq (.c Mr (.c Mu (.c Mv (.c Lv .z)))))))))) (Qd iD dI ae iE bB fG fH fI fJ eX)
def uT(C:T53)(D:T64)(O:T0)(P:T0)(Q:T0)(R:T0)(T:T0)(U:T0)(V:T0)(W:T0)(X:T0)(Y:T0)(Z:T0)(gX:T0)(fW:T0)(fp:T0)(gY:T0)(gZ:T0)(fX:T0)(fY:T0)(fq:T0)(fx:T0)(g9:T0)(fZ:T0)(iR:T0)(iS:T0)(ia:T0)(ie:T0)(gu:T0)(fy:T0)(fA:T0)(eN:T0)(eO:T0)(ez:T0)(gv:T0)(ig:T0)(gy:T0)(cw:T29)(cL:T29):T1:=λa d w k=>cz (S:=Bool) (λB=>an (decide (d<0)) (B true w) (en a w 19 λG=>(B (decide (d≥((G.n:Nat):Int))) w))) λH h=>an H (k false h) (en a h 19 λJ=>cN J d 1 λL=>aQ h L λp9=>cz (S:=Bool) (λf=>drew h λb=>qA7 a 3 b 14 λg=>u7 a b 7 λp15=>qJ7 p9 .i64 b 1 λm=>C g p15 m b λo c=>an (!o) (f true c) (u7 p9 c 4 λq=>u7 a c 7 λs=>D q s c λt u=>f t u)) λv e=>an v (k false e) (qV7 p9 e 7 λy=>nj (kC [(sS,(acs C)),(qZ,(aiu D)),(kW,(bZ O)),(kX,(bZ P)),(nu,(bZ Q)),(lS,(bZ R)),(mI,(bZ T)),(nr,(bZ U)),(lT,(bZ V)),(lR,(bZ W)),(mQ,(bZ X)),(gC,(bZ Y)),(gB,(bZ Z)),(lH,(bZ gX)),(mR,(bZ fW)),(lV,(bZ fp)),(js,(bZ gY)),(lI,(bZ gZ)),(mS,(bZ fX)),(kO,(bZ fY)),(lU,(bZ fq)),(kq,(bZ fx)),(lJ,(bZ g9)),(iV,(bZ fZ)),(n9,(bZ iR)),(oa,(bZ iS)),(nw,(bZ ia)),(ny,(bZ ie)),(mT,(bZ gu)),(lX,(bZ fy)),(lW,(bZ fA)),(kY,(bZ eN)),(kZ,(bZ eO)),(kE,(bZ ez)),(mW,(bZ gv)),(nA,(bZ ig)),(mU,(bZ gy)),(eP,(Kz cw)),(fN,(Kz cL))]) y #[] e λz A=>Is [] z fun(N:Unit)=>k true A))
def Uh a c d e f g h j l m n o q r s t u v y z A B C D F G H I J L M N O P Q R S T U:E [.p,.i .i64] [.b] [(sS,acs a),(qZ,aiu c),(kW,bZ d),(kX,bZ e),(nu,bZ f),(lS,bZ g),(mI,bZ h),(nr,bZ j),(lT,bZ l),(lR,bZ m),(mQ,bZ n),(gC,bZ o),(gB,bZ q),(lH,bZ r),(mR,bZ s),(lV,bZ t),(js,bZ u),(lI,bZ v),(mS,bZ y),(kO,bZ z),(lU,bZ A),(kq,bZ B),(lJ,bZ C),(iV,bZ D),(n9,bZ F),(oa,bZ G),(nw,bZ H),(ny,bZ I),(mT,bZ J),(lX,bZ L),(lW,bZ M),(kY,bZ N),(kZ,bZ O),(kE,bZ P),(mW,bZ Q),(nA,bZ R),(mU,bZ S),(eP,Kz T),(fN,Kz U)] 281474976776243 [(1,[(16,.b)]),(5,[(48,.b)])] f57=u_2 (uT a c d e f g h j l m n o q r s t u v y z A B C D F G H I J L M N O P Q R S T U):=aZ
def jN:=uT dA cQ eK eL gT fj iP gU fm fo fV gV gW gX fW fp gY gZ fX fY fq fx g9 fZ iR iS ia ie gu fy fA eN eO ez gv ig gy cw cL
def Ui:SS HM (qu jN):=so func57 (.c Jq (.c GL (.c L7 (.c Mb (.c RF (.c NP (.c TS (.c RH (.c NR (.c NV (.c PP (.c RJ (.c RL (.c RN (.c PV (.c NY (.c RR (.c RT (.c PX (.c PZ (.c N4 (.c N6 (.c RX (.c P3 (.c Uc (.c Ue (.c R5 (.c R7 (.c P5 (.c Oc (.c Oe (.c Mm (.c Mo (.c Ls (.c Qc (.c R9 (.c Qe (.c B5 (.c EE .z))))))))))))))))))))))))))))))))))))))) (Uh dA cQ eK eL gT fj iP gU fm fo fV gV gW gX fW fp gY gZ fX fY fq fx g9 fZ iR iS ia ie gu fy fA eN eO ez gv ig gy cw cL)
def yX(bU:T24)(cO:T17)(bF:T13)(dJ:T20):asy:=fun h_0 w k=>pR (kC [(fM,(Q1 bU)),(fP,(Jk cO)),(dH,(D5 bF)),(iI,(H6 dJ))]) Tryz.prog h_0 "Len" #[] w fun v1 w2=>xS .i64 v1 fun i3=>pR (kC [(fM,(Q1 bU)),(fP,(Jk cO)),(dH,(D5 bF)),(iI,(H6 dJ))]) Tryz.prog h_0 "Swap" #[Iv 0,(Iv (IntKind.wrap .i64 (i3 - 1)))] w2 fun v4 w5=>Is [] v4 fun(u6:Unit)=>bU h_0 0 (IntKind.wrap .i64 (i3 - 1)) w5 fun b7 w8=>pR (kC [(fM,(Q1 bU)),(fP,(Jk cO)),(dH,(D5 bF)),(iI,(H6 dJ))]) Tryz.prog h_0 "Pop" #[] w8 fun v9 w10=>k v9 w10
def Qf a b c d:E [.raw] [.raw] [(fM,Q1 a),(fP,Jk b),(dH,D5 c),(iI,H6 d)] 13 [] f151=yX a b c d:=aZ
def j0:=yX bU cO bF dJ
def Qg:SS E2 (asz j0):=so func151 (.c EC (.c FZ (.c ze (.c Mk .z)))) (Qf bU cO bF dJ)
def xh(j0:asy):asu:=λb h w k=>an (eA b) (k ((Sl.mk none 0 0),2) w) (cz (S:=Bool) (λN=>an (decide (h<0)) (N true w) (qJ7 b .i64 w 0 λP=>(N (decide (h>(aF .i64 (1099511627776 - P)))) w))) λQ m=>an Q (k ((Sl.mk none 0 0),10) m) (qJ7 b .i64 m 0 λT=>v7 b m 0 (Iv (aF .i64 (T+h))) λV=>jD (S:=Sl) (λo f p=>cz (S:=Bool) (λi=>drew p λe=>en b e 1 λr=>an (decide (((r.n:Nat):Int)>0)) (en b e 1 λt=>cN t 0 2 λu=>aJ .i64 e (u.add 0) λv=>qJ7 b .i64 e 0 λy=>i (decide (v≤y)) e) (i false e)) λz g=>an z (en b g 1 λB=>cN B 0 2 λC=>aJ .i64 g (C.add 1) λj=>nn b λD=>j0 (.iface 261 (.pointer (some (D.add 1)))) g λW l=>nn b λF=>ldM l (F.add 2) λG=>ahR Tryz.prog #[207,3] 0 [(.map G),Iv j] l λX H=>aE H #[Iv j] 3 λI J=>og Tryz.prog #[69,69] 69 [.slice f.a f.n f.c,(.slice (some I) 1 1)] J λL M=>o L M) (k (f,0) g)) (Sl.mk none 0 0) V))
def Oj a:E [.p,.i .i64] [.s,.i .i64] [(E2,asz a)] 1125899906845171 [(5,[(11,.b)]),(11,[(6,.s)]),(12,[(50,.b)])] f97=u_2 (xh a):=aZ
def jA:=xh j0
def Ol:SS DT (asv jA):=so func97 (.c Qg .z) (Oj j0)
def CW(I:T46)(y:T1)(J:T34):T44:=λa b w k=>en a w 19 λx=>cz (S:=Unit) (λA=>jD (S:=Int) (λB g h=>an (decide (g<((b.n:Nat):Int))) (cN b g 1 λC=>aJ .i64 h C λD=>drew h λj=>u7 a j 9 λp11=>u7 a j 7 λp13=>I p11 p13 ((x.n:Nat):Int) D j λd o=>y a (d.1,d.2).2 o λF p=>B (aF .i64 (g+1)) p) (A () h)) 0 w) λG e=>an (decide (((b.n:Nat):Int)>0)) (drew e λc=>qA7 a 1 c 12 λf=>u7 a c 7 λs=>J f s ((x.n:Nat):Int) c λt u=>y a t u λH v=>k () v) (k () e)
def VH a b c:E [.p,.s] [] [(DV,aac a),(bg,qu b),(Bi,OZ c)] 1099511873875 [(2,[]),(3,[(16,(.i .i64))])] f98=u_2 (CW a b c):=aZ
def fB:=CW gI ae eH
def Jt:SS CE (arJ fB):=so func98 (.c KD (.c bp (.c Ik .z))) (VH gI ae eH)
def BK(jA:asu)(fB:T44):T1:=λa b w k=>u7 a w 17 λp2=>jA p2 b w λc d=>an ((c.1,c.2).2 !=0) (k false d) (fB a c.1 d λ_u f=>k true f)
def Uj a c:E [.p,.i .i64] [.b] [(DT,asv a),(CE,arJ c)] 131187 [] f58=u_2 (BK a c):=aZ
def lA:=BK jA fB
def Uk:SS HN (qu lA):=so func58 (.c Ol (.c Jt .z)) (Uj jA fB)
def nN:asp:=λb d w k=>an (eA b) (k 2 w) (en b w 0 λh=>an (decide (((d.n:Nat):Int)>(aF .i64 (1024 - ((h.n:Nat):Int))))) (k 20 w) (en b w 0 λe=>og Tryz.prog #[156,156] 156 [.slice e.a e.n e.c,.slice d.a d.n d.c] w λf l=>v7 b l 0 (.slice f.a f.n f.c) λo=>k 0 o))
def XK:SS Kk (asr nN):=sl 307 [] func59
def iX:T20:=λa w k=>aE w #[.pointer a] 94 λb c=>k (.func (.func m3) #[] #[.pointer (some b)]) c
abbrev O1:bt:=H6 iX
def O2:SS xA (H6 iX):=sl 6 [] func62
def dw:T78:=λb w k=>aE w #[.slice b.a b.n b.c] 69 λd e=>k (.func (.func jh) #[] #[.pointer (some d)]) e
abbrev GP:bt:=am9 dw
def GQ:SS oh (am9 dw):=sl 6 [] func102
def qv(Y:Nat→bt)(su:Value)(e:Addr)(w:World)(k:Unit→ap):Prop:= cy w e λs1=>jD (S:=Int) (λg b c=>an (decide (b≥0)) (cy c e λh=>cN h b 1 λi=>aJ .i64 c i λj=>nj (J0 [] Y) su #[Iv b,Iv j] c λl f=>Ir l λd=>an (!d) (k () f) (g (aF .i64 (b - 1)) f)) (k () c)) (aF .i64 (((s1.n:Nat):Int) - 1)) w
def EU(Y:Nat→bt)(x:KT [.raw,.a])(w:World)(k:KT []→ap):OP Tryz.prog (J0 [] Y) 262411 [(2,[(3,(.i .i64))])] f155 [] (dL [.raw,.a] x) w k=qv Y x.1 x.2 w k:=aZ
def om(Y:Nat→bt)(su:Value)(a:Addr)(w:World)(k:Unit→ap):Prop:=qv Y su a w k
def ji(Y:Nat→bt):bt:=λargs w c=>qW [.raw,.a] args λx=>om Y x.1 x.2 w λr w=>c (e9 (dL [] r)) w
def EW:WW Tryz.prog jh ji:=λY b=>
 M5 mixed func155 (WI (l:=[]) trivial b)
 [.raw,.a] [] aZ (λx w k=>om Y x.1 x.2 w k) (λx w k=>EU Y x w k)
def EF(Y:Nat→bt)(I:De)(dG:T35)(dw:T78)(su:Value)(q:Addr)(w:World)(k:Unit→ap):Prop:= aQ w q λp1=>aE w #[Iv 0] 3 λa2 w3=>dG p1 (Sl.mk (some a2) 1 1) w3 λb4 w5=>an (!b4) (k () w5) (aE w5 #[Iv 0] 3 λa6 w7=>aE w7 #[.slice none 0 0] 69 λf w9=>bN w9 f (.slice (some a6) 1 1) λr=>jD (S:=(Unit×List Nat)) (λs h b=>cy b f λt=>an (decide (((t.n:Nat):Int)>0)) (cy b f λu=>cy b f λv=>cN u (aF .i64 (((v.n:Nat):Int) - 1)) 1 λx=>aJ .i64 b x λj=>cy b f λy=>cy b f λz=>Th y 1 0 (aF .i64 (((z.n:Nat):Int) - 1)) λl=>bN b f (.slice l.a l.n l.c) λg=>aQ g q λA=>en A g 0 λC=>cN C j 3 λD=>aJ .i64 g (D.add 0) λF=>nj (J0 [(tS,(UL dG)),(oh,(am9 dw))] Y) su #[Iv j,Iv F] g λG e=>Ir G λH=>an (!H) (I3 h.2 e λJ=>k () J) (aQ e q λL=>en L e 0 λN=>cN N j 3 λO=>cy e (O.add 2) λP=>dw P e λQ R=>Cg I [(.i .i64),(.i .i64)] Q R (fun(T:Int×Int) p U=>cy p f λm=>aE p #[Iv T.2] 3 λV W=>og Tryz.prog #[69,69] 69 [.slice m.a m.n m.c,(.slice (some V) 1 1)] W λo X=>bN X f (.slice o.a o.n o.c) λZ=>U Z) λD42 a0=>s ((),(D42::h.2)) a0)) (I3 h.2 b λa1=>k () a1)) ((),[]) r)
def XL(Y:Nat→bt)(I:De)(dG:T35)(dw:T78)(x:KT [.raw,.a])(w:World)(k:KT []→ap):Vg Tryz.prog (J0 [(tS,(UL dG)),(oh,(am9 dw))] Y) I 351981159859227 [(4,[]),(14,[(47,(.i .i64)),(48,(.i .i64))])] f100 [] (dL [.raw,.a] x) w k=EF Y I dG dw x.1 x.2 w k:=aZ
def Cl(Y:Nat→bt)(su:Value)(a:Addr)(w:World)(k:Unit→ap):Prop:=EF Y (Df [(jh,ji)]) dG dw su a w k
def m4(Y:Nat→bt):bt:=λargs w c=>qW [.raw,.a] args λx=>Cl Y x.1 x.2 w λr w=>c (e9 (dL [] r)) w
def KE:WW Tryz.prog m3 m4:=λY b=>
 I5 mixed func100 (WI (l:=[(tS,aaN),(oh,GP)]) ⟨Hx,GQ,trivial⟩ b) (LJ (l:=[(jh,ji)]) ⟨EW,trivial⟩)
 [.raw,.a] [] aZ (λx w k=>Cl Y x.1 x.2 w k) (λx w k=>XL Y (Df [(jh,ji)]) dG dw x w k)
def EG(I:De)(iX:T20)(e:Option Addr)(w:World)(k:(Sl)→ap):Prop:= aE w #[.slice none 0 0] 69 λf s=>iX e s λt u=>Cg I [(.i .i64),(.i .i64)] t u (fun(v:Int×Int) q x=>cy q f λb=>aE q #[Iv v.1] 3 λh j=>og Tryz.prog #[69,69] 69 [.slice b.a b.n b.c,(.slice (some h) 1 1)] j λd l=>bN l f (.slice d.a d.n d.c) λm=>x m) λD8 r=>cy r f λo=>I3 [D8] r λp=>k o p
def XM(I:De)(iX:T20)(x:KT [.p])(w:World)(k:KT [.s]→ap):Vg Tryz.prog (kC [(xA,(H6 iX))]) I 205 [(4,[(7,(.i .i64)),(8,(.i .i64))])] f99 [.s] (dL [.p] x) w k=EG I iX x w k:=aZ
def fK:T5:=λa w k=>EG (Df [(m3,m4)]) iX a w k
abbrev XN:bt:=Pa fK
def KF:uY Tryz.prog DU XN:=
 I5 mixed func99 (M3 (l:=[(xA,O1)]) ⟨O2,trivial⟩) (LJ (l:=[(m3,m4)]) ⟨KE,trivial⟩)
 [.p] [.s] aZ (λx w k=>fK x w k) (λx w k=>XM (Df [(m3,m4)]) iX x w k)
def yY(y:T5):T5:=λf w k=>aE w #[Iv 0] 3 λt r=>u7 f r 8 λp4=>y p4 r λs v=>jD (S:=(Sl×Int)) (λx b e=>an (decide (b.2<((s.n:Nat):Int))) (cN s b.2 1 λg=>aJ .i64 e g λi=>en f e 11 λl=>cN l i 1 λm=>aQ e m λp15=>en p15 e 25 λd=>og Tryz.prog #[69,69] 69 [.slice b.1.a b.1.n b.1.c,.slice d.a d.n d.c] e λp q=>x (p,(aF .i64 (b.2+1))) q) (k b.1 e)) ((Sl.mk (some t) 1 1),0) v
def Qh a:E [.p] [.s] [(DU,Pa a)] 30765 [(4,[(3,.s),(13,(.i .i64))])] f75=yY a:=aZ
def dO:=yY fK
def Fu:SS xV (Pa dO):=so func75 (.c KF .z) (Qh fK)
def BL(v:T5)(x:T44):T1:=λb a w k=>v b w λs1 p=>cz (S:=Bool) (λo=>drew p λd=>an ((decide (a<0))||(decide (a≥((s1.n:Nat):Int)))) (o true d) (en b d 10 λr=>cN s1 a 1 λs=>aJ .i64 d s λt=>cN r t 4 λu=>He d (u.add 3) λf=>o f d)) λg c=>an g (k false c) (cN s1 a 1 λh=>aJ .i64 c h λi=>aE c #[Iv i] 3 λj l=>x b (Sl.mk (some j) 1 1) l λ_u m=>k true m)
def Ul a c:E [.p,.i .i64] [.b] [(xV,Pa a),(CE,arJ c)] 268435507 [(2,[(28,.b)])] f60=u_2 (BL a c):=aZ
def lB:=BL dO fB
def Um:SS HO (qu lB):=so func60 (.c Fu (.c Jt .z)) (Ul dO fB)
def EH(D:T1)(F:T1)(nN:asp)(lB:T1):T16:=λa i w k=>aE w i 34 λe j=>cz (S:=Bool) (λy=>an (eA a) (y true j) (qJ7 a .i64 j 21 λA=>y (A !=0) j)) λB c=>an B (k false c) (aJ .i64 c (e.add 0) λh=>an (h==0) (aJ .i64 c (e.add 1) λC=>D a C c λl m=>k l m) (an (h==1) (aJ .i64 c (e.add 1) λn=>F a n c λo p=>k o p) (an (h==2) (drew c λd=>nn a λf=>aQ d (f.add 18) λp17=>aJ .i64 d (e.add 1) λq=>aE d #[Iv q] 2 λr g=>ai 1 (f.add 18) d g (nN p17 (Sl.mk (some r) 1 1) g λs t=>k (s==0) t)) (an (h==3) (aJ .i64 c (e.add 1) λu=>lB a u c λv x=>k v x) (k false c)))))
def XO a c d e:E [.p,.ag] [.b] [(HM,qu a),(HN,qu c),(Kk,asr d),(HO,qu e)] 550028550169 [(1,[(13,.b)])] f22=u_2 (EH a c d e):=aZ
def nO:=EH jN lA nN lB
def XP:SS Kj (az1 nO):=so func22 (.c Ui (.c Uk (.c XK (.c Um .z)))) (XO jN lA nN lB)
def xj(cA:W8)(cS:T3)(nO:T16):T48:=λb ux as5 w k=>jD (S:=(Int×Int)) (λm f j=>cz (S:=Bool) (λg=>an (decide (f.2<as5)) (cA b j λn l=>an (!n) (cS b l λo p=>g (o==0) p) (g false l)) (g false j)) λq c=>an q (jD (S:=(Int×Int)) (λh a d=>an (decide (a.2<ux)) (nO b #[Iv 0,Iv a.2] d λr i=>h ((aF .i64 (a.1+1)),(aF .i64 (a.2+1))) i) (m (a.1,(aF .i64 (f.2+1))) d)) (f.1,0) c) (k f.1 c)) (0,0) w
def Om a c d:E [.p,.i .i64,.i .i64] [.i .i64] [(tX,LR a),(vX,Bl c),(Kj,az1 d)] 138412999 [(4,[(7,(.i .i64)),(8,(.i .i64))]),(5,[(22,.b)]),(10,[(7,(.i .i64)),(9,(.i .i64))])] f28=u_3 (xj a c d):=aZ
def iF:=xj cA cS nO
def On:SS DO (am2 iF):=so func28 (.c zW (.c CQ (.c XP .z))) (Om cA cS nO)
def BM(s:T5):T5:=λc w k=>en c w 11 λi=>xz Tryz.prog 69 (Iv ((i.n:Nat):Int)) (Iv ((i.n:Nat):Int)) w λj l=>u7 c l 8 λp6=>s p6 l λm q=>jD (S:=Int) (λr a b=>an (decide (a<((m.n:Nat):Int))) (cN m a 1 λd=>aJ .i64 b d λf=>cN j f 1 λg=>bN b g (Iv a) λh=>r (aF .i64 (a+1)) h) (k j b)) 0 q
def Un a:E [.p] [.s] [(DU,Pa a)] 983101 [(4,[(18,(.i .i64))])] f61=BM a:=aZ
def cI:=BM fK
abbrev Uo:bt:=Pa cI
def BN:SS r4 (Pa cI):=so func61 (.c KF .z) (Un fK)
def AI(I:De)(cI:T5)(iX:T20)(dz:T81)(W:Option Addr)(w:World)(k:(Sl)→ap):Prop:= aE w #[.pointer W] 30 λs V=>aQ V s λp3=>an (eA p3) (k (Sl.mk none 0 0) V) (aQ V s λp4=>cI p4 V λX w6=>aE w6 #[.slice none 0 0] 69 λD w8=>bN w8 D (.slice X.a X.n X.c) λw9=>cy w9 D λF=>xz Tryz.prog 35 (Iv ((F.n:Nat):Int)) (Iv ((F.n:Nat):Int)) w9 λt Y=>aE Y #[.slice none 0 0] 35 λo Z=>bN Z o (.slice t.a t.n t.c) λu=>aQ u s λp16=>u7 p16 u 8 λp18=>iX p18 u λa2 a3=>Cg I [(.i .i64),(.i .i64)] a2 a3 (fun(h:Int×Int) p G=>aQ p s λa4=>en a4 p 11 λa6=>cN a6 h.1 1 λa8=>aQ p a8 λj=>drew p λq=>qA7 j 1 q 3 λH=>aQ q s λb0=>u7 b0 q 7 λb2=>dz H b2 q λd b3=>cz (S:=Addr) (λJ=>drew b3 λb=>aQ b s λb4=>nn b4 λv=>cy b (v.add 10) λb5=>nn j λx=>aJ .i64 b (x.add 1) λb6=>cN b5 b6 4 λy=>aJ .i64 b (y.add 1) λL=>nn j λz=>aJ .i64 b (aY (z.add 4) 0) λM=>nn j λA=>aJ .i64 b (aY (A.add 4) 18) λN=>nn j λB=>Qp b (B.add 23) λO=>both (aE b #[Iv 0,Iv 0,Iv 0,Iv 0,Iv 0,Iv 0,(.string (ByteArray.mk #[]))] 49 λP f=>ai 1 (B.add 23) b f (ai 1 (aY (A.add 4) 18) b f (ai 1 (aY (z.add 4) 0) b f (ai 1 (y.add 1) b f (ai 1 (x.add 1) b f (ai 1 (v.add 10) b f (ai 1 s b f (dQ 7 f P #[(Iv (-1)),Iv L,Iv M,(Iv (d.1,(d.2.1,d.2.2)).1),(Iv (d.1,(d.2.1,d.2.2)).2.1),Iv N,(.string O)] λb7=>J P b7)))))))) (aE b #[Iv 0,Iv 0,Iv 0,Iv 0,Iv 0,Iv 0,(.string (ByteArray.mk #[]))] 49 λQ g=>ai 1 (B.add 23) b g (ai 1 (aY (A.add 4) 18) b g (ai 1 (aY (z.add 4) 0) b g (ai 1 (y.add 1) b g (ai 1 (x.add 1) b g (ai 1 (v.add 10) b g (ai 1 s b g (dQ 7 g Q #[(Iv (-1)),Iv L,Iv M,(Iv (d.1,(d.2.1,d.2.2)).1),(Iv (d.1,(d.2.1,d.2.2)).2.1),Iv N,(.string O)] λb8=>J Q b8))))))))) λC r=>an (decide (h.2≥0)) (cy r D λb9=>cN b9 h.2 1 λc0=>aJ .i64 r c0 λe=>bN r (C.add 0) (Iv e) λc1=>drew c1 λl=>cy l o λc2=>cy l D λc3=>cN c3 h.1 1 λc4=>aJ .i64 l c4 λc5=>bx 7 l C λR=>cN c2 c5 7 λc6=>dQ 7 l c6 R λc7=>G c7) (drew r λm=>cy m o λc8=>cy m D λc9=>cN c9 h.1 1 λd0=>aJ .i64 m d0 λd1=>bx 7 m C λT=>cN c8 d1 7 λd2=>dQ 7 m d2 T λd3=>G d3)) λD24 U=>cy U o λd4=>I3 [D24] U λd5=>k d4 d5)
def Sa(I:De)(cI:T5)(iX:T20)(dz:T81)(x:KT [.p])(w:World)(k:KT [.s]→ap):Vg Tryz.prog (kC [(r4,(Pa cI)),(xA,(H6 iX)),(tw,(ana dz))]) I 37778931862957220441086 [(8,[(24,(.i .i64)),(25,(.i .i64))]),(14,[(11,.a)])] f23 [.s] (dL [.p] x) w k=AI I cI iX dz x w k:=aZ
def dD:T5:=λa w k=>AI (Df [(m3,m4)]) cI iX dz a w k
abbrev Sb:bt:=Pa dD
def GR:uY Tryz.prog zF Sb:=
 I5 mixed func23 (M3 (l:=[(r4,Uo),(xA,O1),(tw,Pr)]) ⟨BN,O2,Fj,trivial⟩) (LJ (l:=[(m3,m4)]) ⟨KE,trivial⟩)
 [.p] [.s] aZ (λx w k=>dD x w k) (λx w k=>Sa (Df [(m3,m4)]) cI iX dz x w k)
def dF:T23:=λa b w k=>an (((a.n:Nat):Int) !=((b.n:Nat):Int)) (k false w) (jD (S:=Int) (λh c g=>an (decide (c<((a.n:Nat):Int))) (drew g λd=>cN a c 7 λi=>bx 7 d i λe=>cN b c 7 λj=>bx 7 d j λf=>Tj ([(0,0)] ++([(1,0)] ++([(2,0)] ++([(3,0)] ++([(4,0)] ++([(5,0)] ++([(6,2)] ++[]))))))) e f λl=>an (!l) (k false d) (h (aF .i64 (c+1)) d)) (k true g)) 0 w)
def GS:SS zG (arH dF):=sl 33571891 [(6,[(5,(.i .i64))])] func33
def yZ(R:T54)(T:T37)(Z:T38)(iF:T48)(cA:W8)(cS:T3)(dD:T5)(dF:T23)(w:World)(k:(Bool)→ap):Prop:= kT JN 0 5 #[Iv 16,Iv 0,Iv 0,Iv 0,Iv 0] λx=>aE w x 75 λU V=>aE V #[Iv 0,.slice none 0 0] 78 λf W=>dQ 2 W f #[Iv 0,(.slice (some U) 1 1)] λX=>cz (S:=((Option Addr)×Int)) (λy=>drew X λe=>bx 2 e f λg=>both (kT #[Iv 0,.slice none 0 0] 0 2 g λh=>aE e h 78 λi j=>both (R 1 0 j λl m=>ai 2 f e m (T #[(.slice (some i) 1 1)] l m λb z=>y ((b.1,b.2).1,(b.1,b.2).2) z)) (R 1 0 j λn o=>ai 2 f e o (T #[(.slice (some i) 1 1)] n o λc A=>y ((c.1,c.2).1,(c.1,c.2).2) A))) (R 1 0 e λp q=>ai 2 f e q (kT #[Iv 0,.slice none 0 0] 0 2 g λr=>aE q r 78 λB C=>T #[(.slice (some B) 1 1)] p C λd D=>y ((d.1,d.2).1,(d.1,d.2).2) D))) λa s=>an ((a.2 !=0)||(eA a.1)) (k false s) (Z 1 1 1 s λF G=>iF a.1 1 F G λY H=>cA a.1 H λI t=>an I (cS a.1 t λJ u=>an (J==0) (dD a.1 u λL M=>kT #[Iv 0,Iv 0,Iv 0,Iv 0,Iv 0,Iv 0,(.string (ByteArray.mk #[]))] 0 7 #[(Iv (-1)),Iv 0,Iv 0,Iv 2,Iv 0,Iv 1,(.string (ByteArray.mk #[]))] λv=>aE M v 49 λN O=>dF L (Sl.mk (some N) 1 1) O λP Q=>k P Q) (k false u)) (k false t))
def Qi a c d e f g h j:E [] [.b] [(xU,arM a),(Nh,arI c),(QY,az2 d),(DO,am2 e),(tX,LR f),(vX,Bl g),(zF,Pa h),(zG,arH j)] 1048591 [(2,[(2,.p),(3,(.i .i64))])] f20=λx=>yZ a c d e f g h j:=aZ
def iv:=yZ dc kF sA iF cA cS dD dF
def Qj:SS EY (as0 iv):=so func20 (.c Fb (.c Xv (.c acA (.c On (.c zW (.c CQ (.c GR (.c GS .z)))))))) (Qi dc kF sA iF cA cS dD dF)
def c7:T62:=λo w k=>aE w #[.slice none 0 0] 24 λB D=>cz (S:=Sl) (λF=>jD (S:=(Sl×Int)) (λG b C=>an (decide (b.2<o)) (kT JN 0 5 #[Iv 8,Iv b.2,Iv 0,Iv 0,Iv 1] λp=>aE C p 75 λH I=>og Tryz.prog #[76,76] 76 [.slice b.1.a b.1.n b.1.c,(.slice (some H) 1 1)] I λq r=>G (q,(aF .i64 (b.2+1))) r) (F b.1 C)) ((Sl.mk none 0 0),0) D) λd s=>kT aK0 0 5 #[Iv 9,Iv 0,Iv 0,Iv 0,Iv 0] λf=>kT f 5 5 #[Iv 16,Iv 0,Iv 0,Iv 0,Iv 0] λg=>aE s g 75 λt u=>og Tryz.prog #[76,76] 76 [.slice d.a d.n d.c,(.slice (some t) 2 2)] u λe v=>kT JN 0 5 #[Iv 6,Iv 0,Iv 0,Iv 0,Iv 0] λh=>aE v h 75 λx y=>kT #[Iv 0,.slice none 0 0,Iv 0,.slice none 0 0] 0 2 #[Iv 0,.slice e.a e.n e.c] λi=>kT i 2 2 #[Iv 0,(.slice (some x) 1 1)] λj=>aE y j 78 λz A=>dQ 1 A B #[(.slice (some z) 2 2)] λl=>bx 1 l B λm=>k m l
def amt:SS ah6 (az3 c7):=sl 157 [(3,[(3,.s)]),(4,[(3,.s),(4,(.i .i64))])] func42
def BP(bS:T7)(y:T9)(rh:T92)(bj:T7)(az:T7)(cg:T7)(bl:T30):ass:=λz d w k=>aE w z 144 λm A=>an (eA d) (k (Sl.mk none 0 0) A) (bx 2 A m λB=>bS B A λZ w5=>y d Z w5 λi6 w7=>rh i6 w7 λx w9=>aE w9 #[Iv 0,Iv 0] 241 λh C=>dQ 2 C h (x.1,x.2).1 λD=>drew D λe=>bx 2 e m λo=>bx 2 e m λp=>bj o e λF q=>ai 2 m e q (y d F q λf r=>ai 2 m e r (az p r λG H=>y d G H λg i=>cz (S:=Bool) (λs=>an (((x.1,x.2).2 !=0)||(decide (g≤f))) (s true i) (bx 2 i h λt=>cg t i λI J=>(s (decide ((aF .u64 ((aF .u64 g) - (aF .u64 f)))>(aF .u64 I))) J))) λL u=>an L (k (Sl.mk none 0 0) u) (xz Tryz.prog 156 (Iv 0) (Iv (aF .i64 (g - f))) u λN O=>jD (S:=(Sl×Int)) (λP b l=>an (decide (b.2<g)) (bx 2 l h λv=>bl v b.2 l λQ R=>y d Q R λT U=>aE U #[Iv T] 2 λV W=>og Tryz.prog #[156,156] 156 [.slice b.1.a b.1.n b.1.c,(.slice (some V) 1 1)] W λX Y=>P (X,(aF .i64 (b.2+1))) Y) (k b.1 l)) (N,f) O))))
def Ur a c d e f g h:E [.ag,.p] [.s] [(r5,xY a),(ou,vN c),(Vk,ar2 d),(o9,xY e),(jS,xY f),(tY,xY g),(pb,ack h)] 18084767253665782 [(6,[(46,.b)]),(12,[(9,.s),(10,(.i .i64))])] f80=u_2 (BP a c d e f g h):=aZ
def lD:=BP bS aO rh bj az cg bl
def Us:SS HQ (ast lD):=so func80 (.c uS (.c qG (.c acw (.c qP (.c kP (.c zc (.c qQ .z))))))) (Ur bS aO rh bj az cg bl)
def xk(cI:T5)(dA:T53)(cQ:T64)(lD:ass):T5:=λd w k=>an (eA d) (k (Sl.mk none 0 0) w) (cI d w λs1 w2=>en d w2 19 λs4=>jD (S:=(Sl×Int)) (λC5 x w7=>an (decide (x.2<((s4.n:Nat):Int))) (cN s4 x.2 1 λa8=>aQ w7 a8 λp9=>cz (S:=Addr) (λs=>drew w7 λb=>nn d λo=>bx 3 b (o.add 14) λv=>nn d λp=>aQ b (p.add 7) λp15=>nn p9 λq=>aJ .i64 b (q.add 1) λM=>nn p9 λf=>aQ b (f.add 4) λp19=>nn d λg=>aQ b (g.add 7) λy=>both (dA v p15 M b λz t=>ai 1 (g.add 7) b t (ai 1 (f.add 4) b t (both (cQ p19 y t λN O=>both (aE O #[.bool false,.bool false,.slice none 0 0,.slice none 0 0] 71 λP i=>ai 1 (g.add 7) b i (ai 1 (f.add 4) b i (ai 1 (q.add 1) b i (ai 1 (p.add 7) b i (ai 3 (o.add 14) b i (dQ 4 i P #[.bool z,.bool N,.slice none 0 0,.slice none 0 0] λa5=>s P a5)))))) (aE O #[.bool false,.bool false,.slice none 0 0,.slice none 0 0] 71 λQ j=>ai 1 (g.add 7) b j (ai 1 (f.add 4) b j (ai 1 (q.add 1) b j (ai 1 (p.add 7) b j (ai 3 (o.add 14) b j (dQ 4 j Q #[.bool z,.bool N,.slice none 0 0,.slice none 0 0] λa6=>s Q a6))))))) (aE t #[.bool false,.bool false,.slice none 0 0,.slice none 0 0] 71 λR l=>ai 1 (g.add 7) b l (ai 1 (f.add 4) b l (ai 1 (q.add 1) b l (ai 1 (p.add 7) b l (ai 3 (o.add 14) b l (cQ p19 y l λa7 a9=>dQ 4 a9 R #[.bool z,.bool a7,.slice none 0 0,.slice none 0 0] λb0=>s R b0))))))))) (aE b #[.bool false,.bool false,.slice none 0 0,.slice none 0 0] 71 λT m=>ai 1 (g.add 7) b m (ai 1 (f.add 4) b m (ai 1 (q.add 1) b m (ai 1 (p.add 7) b m (ai 3 (o.add 14) b m (dA v p15 M m λb1 A=>ai 1 (g.add 7) b A (ai 1 (f.add 4) b A (cQ p19 y A λb2 b3=>dQ 4 b3 T #[.bool b1,.bool b2,.slice none 0 0,.slice none 0 0] λb4=>s T b4))))))))) λh U=>en p9 U 5 λV=>cz (S:=Unit) (λb6=>jD (S:=Int) (λb7 B C=>an (decide (B<((V.n:Nat):Int))) (cN V B 1 λb8=>aQ C b8 λb9=>drew C λr=>cy r (h.add 2) λD=>qJ7 b9 .i64 r 0 λc1=>cN s1 c1 1 λc2=>aJ .i64 r c2 λc3=>aE r #[Iv c3] 3 λc4 W=>ai 1 (h.add 2) r W (og Tryz.prog #[69,69] 69 [.slice D.a D.n D.c,(.slice (some c4) 1 1)] W λF c5=>bN c5 (h.add 2) (.slice F.a F.n F.c) λc6=>b7 (aF .i64 (B+1)) c6)) (b6 () C)) 0 U) λf2 c7=>drew c7 λG=>qA7 p9 2 G 2 λX=>u7 d G 7 λd0=>lD X d0 G λY d1=>cz (S:=Unit) (λd2=>jD (S:=Int) (λd3 H I=>an (decide (H<((Y.n:Nat):Int))) (cN Y H 1 λd4=>aJ .i64 I d4 λd5=>drew I λu=>cy u (h.add 3) λJ=>cN s1 d5 1 λd6=>aJ .i64 u d6 λd7=>aE u #[Iv d7] 3 λd8 Z=>ai 1 (h.add 3) u Z (og Tryz.prog #[69,69] 69 [.slice J.a J.n J.c,(.slice (some d8) 1 1)] Z λL d9=>bN d9 (h.add 3) (.slice L.a L.n L.c) λe0=>d3 (aF .i64 (H+1)) e0)) (d2 () I)) 0 d1) λf3 a0=>bx 4 a0 h λa1=>kT #[.bool false,.bool false,.slice none 0 0,.slice none 0 0] 0 4 a1 λa2=>aE a0 a2 71 λe1 e2=>og Tryz.prog #[67,67] 67 [.slice x.1.a x.1.n x.1.c,(.slice (some e1) 1 1)] e2 λe3 e4=>C5 (e3,(aF .i64 (x.2+1))) e4) (k x.1 w7)) ((Sl.mk none 0 0),0) w2)
def Oo b c d e:E [.p] [.s] [(r4,Pa b),(sS,acs c),(qZ,aiu d),(HQ,ast e)] 4533471857331856618302173 [(8,[(4,.s),(21,(.i .i64))]),(13,[(7,.a)]),(15,[]),(16,[(53,(.i .i64))]),(24,[]),(25,[(80,(.i .i64))])] f44=xk b c d e:=aZ
def jB:=xk cI dA cQ lD
def Oq:SS DQ (Pa jB):=so func44 (.c BN (.c Jq (.c GL (.c Us .z)))) (Oo cI dA cQ lD)
def adZ(h:T16):T41:=λa b as5 w k=>jD (S:=Int) (λe c d=>an (decide (c<as5)) (h a #[Iv 0,Iv b] d λi f=>e (aF .i64 (c+1)) f) (k () d)) 0 w
def ali a:E [.p,.i .i64,.i .i64] [] [(Kj,az1 a)] 583 [(2,[(6,(.i .i64))])] f45=u_3 (adZ a):=aZ
def c6:=adZ nO
def alp:SS ah5 (acn c6):=so func45 (.c XP .z) (ali nO)
def nX:T3:=λa w k=>en a w 19 λd=>HI .i64 1 ((d.n:Nat):Int) λe=>k (aF .i64 (e - 1)) w
def VK:SS Jd (Bl nX):=sl 5 [] func82
def xl(n:T1):T9:=λa b w k=>cz (S:=Bool) (λd=>an (eA a) (d true w) (n a b w λe f=>d (!e) f)) λg c=>an g (k 0 c) (en a c 2 λi=>cN i b 1 λj=>aJ .i64 c j λm=>k m c)
def Ot a:E [.p,.i .i64] [.i .i64] [(rG,qu a)] 4115 [(1,[(12,.b)])] f83=u_2 (xl a):=aZ
def jC:=xl cU
def Ou:SS DS (vN jC):=so func83 (.c Dg .z) (Ot cU)
def CY(n:T3)(o:T59)(p:T9):T9:=λa b w k=>cz (S:=Bool) (λf=>an (eA a) (f true w) (n a w λg h=>o g b h λi j=>f (!i) j)) λl c=>an l (k 0 c) (u7 a c 7 λp9=>p p9 b c λd e=>k d e)
def VL a c d:E [.p,.i .i64] [.i .i64] [(Jd,Bl a),(Kl,am3 c),(DS,vN d)] 8211 [(1,[(13,.b)])] f47=u_2 (CY a c d):=aZ
def j9:=CY nX kK jC
def VM:SS Ja (vN j9):=so func47 (.c VK (.c Rq (.c Ou .z))) (VL nX kK jC)
def aoO(iv:World→((Bool)→ap)→Prop)(c7:T62)(dc:T54)(kF:T37)(nO:T16)(dD:T5)(jB:T5)(c6:T41)(j9:T9)(c:Int)(aAx:Int)(avM:Int)(w:World)(k:(Bool)→ap):Prop:= an ((((((decide (c<1))||(decide (c>8)))||(decide (aAx<1)))||(decide (aAx>3)))||(decide (avM<0)))||(decide (avM>20))) (iv w λb1 w2=>k b1 w2) (c7 c w λL w4=>aE w4 #[.slice none 0 0] 24 λJ w6=>dQ 1 w6 J L λw7=>cy w7 (J.add 0) λs8=>kT aK0 0 5 #[Iv 0,Iv 0,Iv 0,Iv 0,Iv 7] λM=>kT M 5 5 #[Iv 16,Iv 0,Iv 0,Iv 0,Iv 0] λm=>aE w7 m 75 λN O=>cN s8 1 2 λP=>dQ 2 O P #[Iv 0,(.slice (some N) 2 2)] λQ=>drew Q λi=>bx 1 i J λo=>dc 4 0 i λp q=>ai 1 J i q (kF o p q λa r=>an (((a.1,a.2).2 !=0)||(eA (a.1,a.2).1)) (k false r) (cz (S:=Unit) (λR=>jD (S:=Int) (λT j s=>an (decide (j<avM)) (nO (a.1,a.2).1 #[Iv 2,(Iv (aF .i64 (j*7)))] s λd9 U=>T (aF .i64 (j+1)) U) (R () s)) 0 r) λe0 V=>cz (S:=Unit) (λW=>jD (S:=Int) (λX t u=>cz (S:=Bool) (λg=>an (decide (t<(aF .i64 (10000*(aF .i64 (c+3)))))) (dD (a.1,a.2).1 u λY v=>an (decide (((Y.n:Nat):Int)<(aF .i64 (c+1)))) (g true v) (jB (a.1,a.2).1 v λZ x=>an (((Z.n:Nat):Int)==0) (g true x) (jB (a.1,a.2).1 x λa0 y=>cN a0 0 4 λa1=>cy y (a1.add 3) λa2=>(g (decide (((a2.n:Nat):Int)<c)) y)))) (g false u)) λa3 z=>an a3 (c6 (a.1,a.2).1 0 1 z λ_u a4=>X (aF .i64 (t+1)) a4) (W () z)) 0 V) λe1 a6=>cz (S:=Int) (λa7=>jD (S:=(Int×Int)) (λa8 h A=>an ((decide (h.2<(aF .i64 ((aF .i64 (40000*c))+10000))))&&(decide (h.1<c))) (c6 (a.1,a.2).1 aAx 1 A λ_u a9=>dD (a.1,a.2).1 a9 λl B=>an (((l.n:Nat):Int) !=(aF .i64 (c+1))) (k false B) (jD (S:=(Int×Int)) (λC d e=>an (decide (d.2≤c)) (cN l d.2 7 λb0=>aJ .i64 e (b0.add 3) λb2=>an (decide (b2≥2)) (cz (S:=Bool) (λD=>an (d.1 !=(aF .i64 (d.2 - 1))) (D true e) (cN l d.2 7 λb3=>aJ .i64 e (b3.add 4) λb4=>D (b4 !=7) e)) λb5 F=>an b5 (k false F) (C (d.2,(aF .i64 (d.2+1))) F)) (C (d.1,(aF .i64 (d.2+1))) e)) (a8 (d.1,(aF .i64 (h.2+1))) e)) (0,1) B)) (a7 h.1 A)) (0,0) a6) λb b6=>jB (a.1,a.2).1 b6 λG b7=>dD (a.1,a.2).1 b7 λH f=>an ((b==c)&&(((G.n:Nat):Int)==4)) (cN G 0 4 λb8=>cy f (b8.add 3) λb9=>an ((((b9.n:Nat):Int)==0)&&(((H.n:Nat):Int)==(aF .i64 (c+1)))) (cN H 0 7 λc0=>aJ .i64 f (c0.add 3) λc1=>an (c1==1) (j9 (a.1,a.2).1 1 f λc2 c3=>j9 (a.1,a.2).1 2 c3 λc4 c5=>j9 (a.1,a.2).1 3 c5 λc8 c9=>j9 (a.1,a.2).1 aAx c9 λd0 I=>an ((aF .i64 ((aF .i64 (c2+c4))+c8))==d0) (iv I λd1 d2=>k d1 d2) (k false I)) (k false f)) (k false f)) (k false f))))
def aql a c d e f g h j l:E [.i .i64,.i .i64,.i .i64] [.b] [(EY,as0 a),(ah6,az3 c),(xU,arM d),(Nh,arI e),(Kj,az1 f),(zF,Pa g),(DQ,Pa h),(ah5,acn j),(Ja,vN l)] 713798836580939488218718584612730469693521863 [(11,[]),(12,[(10,(.i .i64))]),(19,[]),(20,[(11,(.i .i64))]),(21,[(100,.b)]),(28,[(12,(.i .i64))]),(29,[(12,(.i .i64)),(13,(.i .i64))]),(41,[(12,(.i .i64)),(15,(.i .i64))]),(47,[(149,.b)])] f8=u_3 (aoO a c d e f g h j l):=aZ
def aoM:=aoO iv c7 dc kF nO dD jB c6 j9
def aqo:SS apc (asx aoM):=so func8 (.c Qj (.c amt (.c Fb (.c Xv (.c XP (.c GR (.c Oq (.c alp (.c VM .z))))))))) (aql iv c7 dc kF nO dD jB c6 j9)
open Go Go.Ev Go.Proofs
structure bJ where
 cells:List Int
 size:Int
 steps:List Int
 deriving DecidableEq
def bH(g:Nat)(M:bJ):HP:=Gt λp:Sl×Sl=>l9 [au g [.slice p.1.a p.1.n p.1.c,.int .i64 M.size,.slice p.2.a p.2.n p.2.c],bG 1 p.1 (ints M.cells),bG 1 p.2 (ints M.steps)]
variable{w0 w:World}{g:Nat}{M:bJ}
def uM{R:List HP}(h:St w0 w (bH g M::R)):∃s1 s2:Sl,St w0 w (au g [.slice s1.a s1.n s1.c,.int .i64 M.size,.slice s2.a s2.n s2.c]::bG 1 s1 (ints M.cells)::bG 1 s2 (ints M.steps)::R):=by
 obtain⟨p,h⟩:=h.some;exact⟨p.1,p.2,h.open⟩
def C0{R:List HP}{s1 s2:Sl}(h:St w0 w (au g [.slice s1.a s1.n s1.c,.int .i64 M.size,.slice s2.a s2.n s2.c]::bG 1 s1 (ints M.cells)::bG 1 s2 (ints M.steps)::R)):St w0 w (bH g M::R):=
 St.ex (s1,s2) (St.shut h)
namespace bJ
def caller(M:bJ)(w:Int):Bool:=decide (0≤w∧w<M.steps.length)
def given(M:bJ)(at_:Int):Bool:=decide (0≤at_∧at_<M.cells.length)
def tick(M:bJ)(w:Int):bJ:={M with steps:=M.steps.set w.toNat (IntKind.i64.wrap (M.steps.getD w.toNat 0+1))}
def get(M:bJ)(at_:Int):Int:=M.cells.getD at_.toNat 0
def put(M:bJ)(at_ x:Int):bJ:={M with cells:=M.cells.set at_.toNat x}
def can(M:bJ)(w at_:Int):Bool:=M.caller w&&M.given at_
end bJ
variable{f':HP→List HP}{wk at_ n x:Int}{k:Int→ap}{P:Program}{t:TypeId}
section
variable{L:List HP}{f:HP→List HP}
def agV{s:Sl}{xs:List Int}(h:St w0 w L)[a:At L (bG 1 s) (ints xs) f']:s.n=xs.length:=by
 have:=h.Gs (sz:=1) (s:=s);simp at this;omega
def ae4{k:Bool→ap}(h:St w0 w L)[a:At L (bH g) M f](hk:k (M.caller wk) w):cU (some ⟨g,0,none⟩) wk w k:=by
 obtain⟨R,ho,hc⟩:=a.out;obtain⟨s1,s2,hS⟩:=uM (ho h);have l2:=agV (s:=s2) hS;unfold cU;unfold bJ.caller at hk;refine ax (λh=>bc (ea hS rfl ?_)) λh=> ?_
 ·simp only[decide_eq_true_eq]at h;rw[show(decide (wk<((s2.n:Nat):Int)))=decide (0≤wk∧wk<M.steps.length) by rw[l2,decide_eq_decide];omega]
  exact hk
 ·simp only[decide_eq_false_iff_not]at h;rwa[decide_eq_false af]at hk
def aiC{k:Bool→ap}(h:St w0 w L)[a:At L (bH g) M f](hk:k (M.given at_) w):c8 (some ⟨g,0,none⟩) at_ w k:=by
 obtain⟨R,ho,hc⟩:=a.out;obtain⟨s1,s2,hS⟩:=uM (ho h);have l1:=agV (s:=s1) hS;unfold c8;unfold bJ.given at hk;refine ax (λh=>bc (ea hS rfl ?_)) λh=> ?_
 ·simp only[decide_eq_true_eq]at h;rw[show(decide (at_<((s1.n:Nat):Int)))=decide (0≤at_∧at_<M.cells.length) by rw[l1,decide_eq_decide];omega]
  exact hk
 ·simp only[decide_eq_false_iff_not]at h;rwa[decide_eq_false af]at hk
def Se{right:Value}{b:Bool}(h:St w0 w L)[a:At L (bH g) M f]
  (hr:(right= .func (.func jk) #[.pointer (some ⟨g,0,none⟩)] #[]∧b=M.given n)∨(right= .func (.func BY) #[] #[]∧b=decide (n≥1)))
  (hk:k (if M.caller wk&&b then 0 else 10) w):aN (some ⟨g,0,none⟩) wk n right w k:=by
 unfold aN wm;refine bP (λy w'=>w=w'∧y= !(M.caller wk&&b)) ?_ ?_
 ·intro J c;refine ae4 h (ax (λh1=>c _ _ ⟨rfl,?_⟩) λh1=> ?_)
  ·simp only[Bool.not_eq_true']at h1;simp[h1]
  ·simp only[Bool.not_eq_false']at h1;rcases hr with⟨rfl,rfl⟩|⟨rfl,rfl⟩
   ·refine bV (d:=Eb) (λ_ _ _=>rfl) ?_;simp only[Eb,List.append_toArray,List.cons_append,List.nil_append,List.append_nil,qW,unV,toP,xS,if_true,e9,dL,K.v,Ir];refine aiC h (c _ _ ⟨rfl,?_⟩);simp[h1]
   ·refine bV (d:=UO) (λ_ _ _=>rfl) ?_;simp only[UO,sG,List.append_toArray,List.cons_append,List.nil_append,List.append_nil,qW,unV,toP,xS,if_true,e9,dL,K.v,Ir];refine c _ _ ⟨rfl,?_⟩;simp[h1]
 ·rintro _ _ ⟨rfl,rfl⟩;refine ax (λh1=> ?_) λh1=> ?_
  ·simp only[Bool.not_eq_true']at h1;rw[h1]at hk;exact hk
  ·simp only[Bool.not_eq_false']at h1;rw[h1]at hk;exact hk
def agW{k:Int×Int→ap}(h:St w0 w L)[a:At L (bH g) M f](h1:M.can wk at_=true→∀w',St w0 w' (f (bH g (M.tick wk)))→k (M.get at_,0) w')(h2:M.can wk at_=false→k (0,10) w):aj (some ⟨g,0,none⟩) wk at_ w k:=by
 unfold aj yb;refine aU rfl (Se h (.inl ⟨rfl,rfl⟩) ?_);by_cases hcan:M.can wk at_=true
 ·have b:=hcan;unfold bJ.can at hcan;rw[hcan];refine aU rfl ?_;obtain⟨R,ho,hc⟩:=a.out;obtain⟨s1,s2,hS⟩:=uM (ho h);simp only[iY,bJ.caller,bJ.given,decide_eq_true_eq]at hcan;refine bc (ea hS rfl (zB hS hcan.1.1 hcan.1.2 (zC hS hcan.1.1 hcan.1.2 λw' hS=>bc (ea hS rfl (zB hS hcan.2.1 hcan.2.2 ?_)))));exact h1 b w' (hc (C0 hS))
 ·have hcan:M.can wk at_=false:=by simpa using hcan
  have:=h2 hcan;unfold bJ.can at hcan;rw[hcan];exact bK rfl this
def aiD(h:St w0 w L)[a:At L (bH g) M f](h1:M.can wk at_=true→∀w',St w0 w' (f (bH g ((M.tick wk).put at_ x)))→k 0 w')(h2:M.can wk at_=false→k 10 w):aK (some ⟨g,0,none⟩) wk at_ x w k:=by
 unfold aK wq;refine aU rfl (Se h (.inl ⟨rfl,rfl⟩) ?_);by_cases hcan:M.can wk at_=true
 ·have b:=hcan;unfold bJ.can at hcan;rw[hcan];refine aU rfl ?_;obtain⟨R,ho,hc⟩:=a.out;obtain⟨s1,s2,hS⟩:=uM (ho h);simp only[iY,bJ.caller,bJ.given,decide_eq_true_eq]at hcan;refine bc (ea hS rfl (zB hS hcan.1.1 hcan.1.2 (zC hS hcan.1.1 hcan.1.2 λw' hS=>bc (ea hS rfl (zC hS hcan.2.1 hcan.2.2 λw' hS=> ?_)))));exact h1 b w' (hc (C0 hS))
 ·have hcan:M.can wk at_=false:=by simpa using hcan
  have:=h2 hcan;unfold bJ.can at hcan;rw[hcan];exact bK rfl this
def as6(h:St w0 w L)[a:At L (bH g) M f](hk:k (if M.caller wk then M.steps.getD wk.toNat 0 else 0) w):jC (some ⟨g,0,none⟩) wk w k:=by
 unfold jC xl;refine bP (λy w'=>w=w'∧y= !M.caller wk) (λJ b=>aU rfl (ae4 h (b _ _ ⟨rfl,rfl⟩))) ?_;rintro _ _ ⟨rfl,rfl⟩;refine ax (λh1=> ?_) λh1=> ?_
 ·rw[if_neg (gq h1)]at hk;exact hk
 ·have h1:M.caller wk=true:=by simpa using h1
  rw[if_pos h1]at hk;obtain⟨R,ho,hc⟩:=a.out;obtain⟨s1,s2,hS⟩:=uM (ho h);simp only[bJ.caller,decide_eq_true_eq]at h1;exact bc (ea hS rfl (zB hS h1.1 h1.2 hk))
def KG(h:St w0 w L)[a:At L (bH g) M f](hk:k (if M.given at_ then M.get at_ else 0) w):aO (some ⟨g,0,none⟩) at_ w k:=by
 unfold aO yg;refine bP (λy w'=>w=w'∧y= !M.given at_) (λJ b=>aU rfl (aiC h (b _ _ ⟨rfl,rfl⟩))) ?_;rintro _ _ ⟨rfl,rfl⟩;refine ax (λh1=> ?_) λh1=> ?_
 ·rw[if_neg (gq h1)]at hk;exact hk
 ·have h1:M.given at_=true:=by simpa using h1
  rw[if_pos h1]at hk;obtain⟨R,ho,hc⟩:=a.out;obtain⟨s1,s2,hS⟩:=uM (ho h);simp only[bJ.given,decide_eq_true_eq]at h1;exact bc (ea hS rfl (zB hS h1.1 h1.2 hk))
def axB(h:St w0 w L)[a:At L (bH g) M f](hk:k (M.cells.length:Nat) w):jW (some ⟨g,0,none⟩) w k:=by
 unfold jW;obtain⟨R,ho,hc⟩:=a.out;obtain⟨s1,s2,hS⟩:=uM (ho h);have l1:=agV (s:=s1) hS;refine aU rfl (bc (ea hS rfl ?_));rw[l1];exact hk
def elI(h:S0 P t=some (1,8,some (.int .i64 0))):ET P t 1 8 (.int .i64 0):=⟨h,rfl⟩
def Y3(n:Nat)(x:Int):dU n (Value.int .i64 x)=ints (dU n x):=by simp[ints]
def bJ.new(size XQ:Int):bJ:=⟨[],size,dU (XQ.toNat+1) 0⟩
def agX(size XQ:Int):Bool:=decide (1≤size∧size≤1048576∧1≤XQ∧XQ≤16)
def axC{size wks:Int}{k:Option Addr×Int→ap}(h:St w0 w L)(h1:agX size wks=true→∀g w',St w0 w' (bH g (bJ.new size wks)::L)→k (some ⟨g,0,none⟩,0) w')(h2:agX size wks=false→k (none,10) w):sW size wks w k:=by
 unfold sW;unfold agX at h1 h2;refine ax (λhb=> ?_) λhb=> ?_
 ·simp only[Bool.or_eq_true,decide_eq_true_eq]at hb;exact h2 (by rw[decide_eq_false_iff_not];omega)
 ·simp only[kf,decide_eq_false_iff_not]at hb;have hw:IntKind.i64.wrap (wks+1)=((wks.toNat+1:Nat):Int):=by rw[dh ⟨af,af⟩];omega
  rw[hw];refine AT h (elI aZ) rfl af af λs w' hS hn=> ?_;rw[Y3]at hS;have hS:=hS.DJ 1;refine aM hS λg w'' hS=>h1 (by rw[decide_eq_true_eq];omega) g w'' (C0 (s1:=⟨none,0,0⟩) hS)
def bJ.room(M:bJ)(n:Int):Bool:=decide (n≤M.size - M.cells.length)
def bJ.grow(M:bJ)(n:Int):bJ:={M with cells:=M.cells++dU n.toNat 0}
structure bJ.OK (M:bJ):Prop where
 size:1≤M.size∧M.size≤1048576
 fit:(M.cells.length:Int)≤M.size
def GU{k:Int×Int→ap}(h:St w0 w L)[a:At L (bH g) M f](i:M.OK)
  (h1:M.caller wk=true→1≤n→M.room n=true→∀w',St w0 w' (f (bH g ((M.tick wk).grow n)))→k ((M.cells.length:Nat),0) w')
  (h2:M.caller wk=true→1≤n→M.room n=false→k (0,21) w) (h3:¬(M.caller wk=true∧1≤n)→k (0,10) w):ay (some ⟨g,0,none⟩) wk n w k:=by
 unfold ay wo;have j:=i.size;have l:=i.fit;refine aU rfl (Se h (.inr ⟨rfl,rfl⟩) ?_);by_cases hcan:M.caller wk=true∧1≤n
 ·rw[hcan.1,show(decide (n≥1))=true by simpa using hcan.2]
  refine aU rfl ?_;obtain⟨R,ho,hc⟩:=a.out;obtain⟨s1,s2,hS⟩:=uM (ho h);have l1:=agV (s:=s1) hS;have b:=hcan.1;simp only[bJ.caller,decide_eq_true_eq]at b;have hsub:IntKind.i64.wrap (M.size - ((s1.n:Nat):Int))=M.size - M.cells.length:=by rw[l1,dh ⟨af,af⟩]
  refine bc (ea hS rfl (bc (cr hS rfl ?_)));rw[hsub];refine ax (λhr=> ?_) λhr=> ?_
  ·exact h2 hcan.1 hcan.2 (by unfold bJ.room;rw[decide_eq_false_iff_not];simp only[decide_eq_true_eq]at hr;omega)
  ·simp only[decide_eq_false_iff_not]at hr;have hroom:M.room n=true:=by unfold bJ.room;rw[decide_eq_true_eq];omega
   refine bc (ea hS rfl (zB hS b.1 b.2 (zC hS b.1 b.2 λw' hS=>bc (ea hS rfl ?_))));have hcap:=(hS.own (sz:=1) (s:=s1)).cap;refine aw0 hS bf bf bf (by simp;omega) λd c e hS=> ?_
   have e1:(ints M.cells).take (((s1.n:Nat):Int).toNat*1)=ints M.cells:=List.take_of_length_le (by simp[ints];omega)
   simp only[e1]at hS;have hn:n=((n.toNat:Nat):Int):=af;rw[hn];simp at c e;refine ary hS (elI aZ) aZ rfl af af af af λs' w'' hS hs'=>bc (j4 hS rfl bf λw3 hS=> ?_);have:=h1 hcan.1 hcan.2 hroom w3 (hc (C0 (by
    have e2:ints M.cells++dU n.toNat (Value.int .i64 0)=ints (M.cells++dU n.toNat 0):=by simp[ints]
    rw[e2]at hS;exact hS)))
   rw[←l1]at this;exact this
 ·have hb:(M.caller wk&&decide (n≥1))=false:=by
   cases b:M.caller wk with
   |false=>rfl
   |true=>simp only[Bool.true_and,decide_eq_false_iff_not];intro h;exact hcan ⟨b,h⟩
  rw[hb];exact bK rfl (h3 hcan)
end
open Go Go.Ev Go.Proofs
def EI{n:Nat}(h:n≤8):(2:Nat) ^ n≤256:=Nat.le_trans (Nat.pow_le_pow_right af h) e7
def Y4{m:Nat}(h:m<2 ^ 63):(bv (m:Int)).toNat=m:=by
 rw[BitVec.toNat_ofInt];omega
def XR{b:BitVec 64}(h:b.toNat<2 ^ 63):b.toInt=b.toNat:=by
 rw[BitVec.toInt_eq_toNat_cond];split<;>omega
def ae5{n:Nat}(h:n≤62):oH .i64 x (((2 ^ n - 1:Nat)):Int)=x % ((2 ^ n:Nat):Int):=by
 have hp:2 ^ n≤2 ^ 62:=Nat.pow_le_pow_right af h;have a:0<2 ^ n:=Nat.pow_pos af;rw[QJ];have e1:(bv x&&&bv ((2 ^ n - 1:Nat):Int)).toNat=(bv x).toNat % 2 ^ n:=by
  rw[BitVec.toNat_and,Y4 af,Nat.and_two_pow_sub_one_eq_mod]
 have hlt:=Nat.mod_lt (bv x).toNat a;rw[XR (by rw[e1];omega),e1]
 rw[BitVec.toNat_ofInt];have hd:((2 ^ n:Nat):Int)∣((2 ^ 64:Nat):Int):=by
  refine⟨((2 ^ (64 - n):Nat):Int),?_⟩;rw[←Int.natCast_mul,←Nat.pow_add];congr 2;omega
 have hnn:0≤x % ((2 ^ 64:Nat):Int):=Int.emod_nonneg _ af;rw[Int.natCast_emod,Int.toNat_of_nonneg hnn,Int.emod_emod_of_dvd _ hd]
def aDJ(x:Int):IR .i64 x 4=x / 16:=by
 unfold IR;have e:min (4:Int).toNat IntKind.i64.bits=4:=e7;rw[e,Int.fdiv_eq_ediv_of_nonneg _ e7];rfl
def aBn(x:Int):oH .i64 x 15=x % 16:=by
 have:=ae5 (x:=x) (n:=4) af;exact this
def aDK(h0:0≤x)(h1:x≤1048576):sD .i64 x 4=16*x:=by
 unfold sD;have e:min (4:Int).toNat IntKind.i64.bits=4:=e7;rw[e,dh ⟨af,af⟩];omega
def aDL{a l:Nat}(ha:a≤1048576)(hl:l<16):Ti .i64 (16*(a:Int)) (l:Int)=16*a+l:=by
 rw[agi];have e1:(bv (16*(a:Int))|||bv (l:Int)).toNat=16*a+l:=by
  rw[BitVec.toNat_or,Y4 af];have:(bv (16*(a:Int))).toNat=16*a:=by
   have:=Y4 (m:=16*a) af;rw[←this];simp
  rw[this];have h2:=Nat.shiftLeft_add_eq_or_of_lt (i:=4) af a;rw[Nat.shiftLeft_eq]at h2;rw[Nat.mul_comm 16 a];exact h2.symm
 rw[XR (by rw[e1];omega),e1];simp
def XS{l:Int}(h0:0≤l)(h1:l≤8):sD .i64 1 l=((2 ^ l.toNat:Nat):Int):=by
 unfold sD;have e:min l.toNat IntKind.i64.bits=l.toNat:=by simp[IntKind.bits];omega
 have:=EI (n:=l.toNat) af;have e2:((2:Int) ^ l.toNat)=((2 ^ l.toNat:Nat):Int):=by simp
 rw[e,Int.one_mul,e2];generalize (2 ^ l.toNat:Nat)=m at*
 exact dh ⟨af,af⟩
structure Rg where
 At:Int
 DA:Int
 deriving DecidableEq
namespace Rg
abbrev ag(r:Rg):Array Value:=#[.int .i64 r.At,.int .i64 r.DA]
def pw(r:Rg):Nat:=2 ^ r.DA.toNat
def right(r:Rg):Bool:=decide (0≤r.DA∧r.DA≤8∧0≤r.At∧r.At≤1048576 - r.pw)
def size(r:Rg):Int:=if r.right then r.pw else 0
def place(r:Rg)(i:Int):Int:=if r.right then r.At+i % r.pw else -1
def word(r:Rg):Int:=if r.right then 16*r.At+r.DA else -1
def of(word:Int):Rg:=⟨word / 16,word % 16⟩
def zero:Rg:=⟨0,0⟩
end Rg
def Rg.F5{r:Rg}(h:r.right=true):0≤r.DA∧r.DA≤8∧0≤r.At∧r.At≤1048576 - r.pw∧1≤r.pw∧r.pw≤256:=by
 unfold Rg.right at h;simp only[decide_eq_true_eq]at h;have h1:r.pw≤256:=EI af;have h2:0<r.pw:=Nat.pow_pos af;omega
variable{i:Int}
section
variable{L:List HP}{r:Rg}
def Mw{k:Bool→ap}(h:St w0 w L)(hk:∀w',St w0 w' L→k r.right w'):bE r.ag w k:=by
 unfold bE;have hk:=λw' h'=>hk w' h';refine aM h λg w1 hS=>cH hS λw2 hS=> ?_;have fin:∀b,b=r.right→k b w2:=λb e=>by rw[e];exact hk w2 hS.drop
 unfold Rg.right at fin;refine cr hS rfl (ax (λh1=> ?_) λh1=>fin _ (by rw[decide_eq_false_iff_not]at h1;exact(decide_eq_false af).symm))
 refine cr hS rfl (ax (λh2=> ?_) λh2=>fin _ (by rw[decide_eq_false_iff_not]at h2;exact(decide_eq_false af).symm))
 refine cr hS rfl (ax (λh3=> ?_) λh3=>fin _ (by rw[decide_eq_false_iff_not]at h3;exact(decide_eq_false af).symm))
 simp only[decide_eq_true_eq]at h1 h2 h3;refine cr hS rfl (cr hS rfl (Gf h1 (fin _ ?_)));have hp:r.pw≤256:=EI af;have a:(2 ^ r.DA.toNat:Nat)=r.pw:=rfl;rw[XS h1 h2,a,dh ⟨af,af⟩,decide_eq_decide];omega
def XT(h:St w0 w L)(hk:∀w',St w0 w' L→k r.size w'):cg r.ag w k:=by
 unfold cg Eh;refine aM h λg w1 hS=>je hS rfl<|Mw hS λw2 hS=>ax (λh1=> ?_) λh1=> ?_
 ·have:=hk w2 hS.drop;unfold Rg.size at this;rwa[if_neg (gq h1)]at this
 ·have h1:r.right=true:=by simpa using h1
  have hr:=Rg.F5 h1;have:=hk w2 hS.drop;unfold Rg.size at this;rw[if_pos h1]at this;refine cr hS rfl (Gf hr.1 ?_);rw[XS hr.1 hr.2.1];exact this
def Mx(h:St w0 w L)(hk:∀w',St w0 w' L→k (r.place i) w'):bl r.ag i w k:=by
 unfold bl CN;refine aM h λg w1 hS=>je hS rfl<|Mw hS λw2 hS=>ax (λh1=> ?_) λh1=> ?_
 ·have:=hk w2 hS.drop;unfold Rg.place at this;rwa[if_neg (gq h1)]at this
 ·have h1:r.right=true:=by simpa using h1
  have hr:=Rg.F5 h1;refine cH hS λw3 hS=>cr hS rfl<|je hS rfl<|XT hS λc a=>eD hS a ?_;have:=hk c a.drop;unfold Rg.place at this;rw[if_pos h1]at this;have e:r.size=r.pw:=by unfold Rg.size;rw[if_pos h1]
  have b:(2 ^ r.DA.toNat:Nat)=r.pw:=rfl;have e2:IntKind.i64.wrap (r.size - 1)=((2 ^ r.DA.toNat - 1:Nat):Int):=by
   rw[e,dh ⟨af,af⟩,b];omega
  have d:(0:Int)<(r.pw:Nat):=af;have f:=Int.emod_nonneg i (show((r.pw:Nat):Int)≠0 by omega)
  have j:=Int.emod_lt_of_pos i d;rw[e2,ae5 af,b];rw[dh ⟨af,af⟩];exact this
def anj(h:St w0 w L)(hk:∀w',St w0 w' L→k r.word w'):fD r.ag w k:=by
 unfold fD Ed;refine aM h λg w1 hS=>je hS rfl<|Mw hS λw2 hS=> ?_;have:=hk w2 hS.drop;unfold Rg.word at this;refine ax (λh1=> ?_) λh1=> ?_
 ·rwa[if_neg (gq h1)]at this
 ·have h1:r.right=true:=by simpa using h1
  have hr:=Rg.F5 h1;rw[if_pos h1]at this;refine cr hS rfl (cr hS rfl ?_);have e1:r.At=((r.At.toNat:Nat):Int):=af;have e2:r.DA=((r.DA.toNat:Nat):Int):=af;rw[aDK hr.2.2.1 af];rw[e1,e2,aDL af af,←e1,←e2];exact this
def az8{k:Array Value×Int→ap}(h:St w0 w L)(hk:∀w',St w0 w' L→k (if (Rg.of x).right then((Rg.of x).ag,0)else(Rg.zero.ag,11)) w'):rh x w k:=by
 unfold rh Vr;refine aM h λg w1 hS=>aM hS λg2 w2 hS=> ?_;rw[aDJ,aBn];refine m7 hS rfl rfl (by simp[Value.oneCell']) λw3 hS=> ?_
 refine je hS rfl<|Mw (r:=Rg.of x) hS λb hS=>ax (λh1=> ?_) λh1=> ?_
 ·refine m7 hS rfl rfl (by simp[Value.oneCell']) λa hS=> ?_
  refine je hS rfl ?_;have:=hk a hS.drop.drop;rwa[if_neg (gq h1)]at this
 ·refine je hS rfl<|m7 hS rfl rfl (by simp[Value.oneCell']) λa hS=> ?_
  refine je hS rfl ?_;have:=hk a hS.drop.drop;rwa[if_pos (gq h1)]at this
end
open Go Go.Ev Go.Proofs
variable{f:HP→List HP}{log y:Int}
section
variable{L:List HP}{r:Rg}
def axD{k:Array Value×Int→ap}(h:St w0 w L)[a:At L (bH g) M f](d:M.OK)
  (h1:0≤log→log≤8→M.caller wk=true→M.room ((2 ^ log.toNat:Nat):Int)=true→∀w',St w0 w' (f (bH g ((M.tick wk).grow ((2 ^ log.toNat:Nat):Int))))→k (Rg.ag ⟨(M.cells.length:Nat),log⟩,0) w')
  (h2:0≤log→log≤8→M.caller wk=true→M.room ((2 ^ log.toNat:Nat):Int)=false→∀w',St w0 w' L→k (Rg.zero.ag,21) w')
  (h3:¬(0≤log∧log≤8∧M.caller wk=true)→∀w',St w0 w' L→k (Rg.zero.ag,10) w'):xO (some ⟨g,0,none⟩) wk log w k:=by
 unfold xO Q7;refine aM h λgn w1 hS=>aU rfl (ax (λhb=> ?_) λhb=> ?_)
 ·simp only[Bool.or_eq_true,decide_eq_true_eq]at hb;refine m7 hS rfl rfl (by simp[Value.oneCell']) λw2 hS=> ?_
  refine je hS rfl<|h3 af _ hS.drop
 ·simp only[kf,decide_eq_false_iff_not]at hb;refine Gf af ?_;rw[XS af af];have e:0<2 ^ log.toNat:=Nat.pow_pos af;refine GU hS d (λb k2 c w2 hS=> ?_) (λb k2 c=> ?_) λb=> ?_
  ·refine aU rfl<|m7 hS rfl rfl (by simp[Value.oneCell']) λw2 hS=> ?_
   refine je hS rfl<|h1 af af b c _ hS.drop
  ·refine bK rfl<|m7 hS rfl rfl (by simp[Value.oneCell']) λw2 hS=> ?_
   refine je hS rfl<|h2 af af b c _ hS.drop
  ·refine bK rfl<|m7 hS rfl rfl (by simp[Value.oneCell']) λw2 hS=> ?_
   refine je hS rfl<|h3 (λhh=>b ⟨hh.2.2,?_⟩) _ hS.drop;generalize (2 ^ log.toNat:Nat)=m at*
   omega
structure Cp where
 a:Rg
 b:Rg
 at_:Int
 j2:Int
 has:Int
 Cm:Bool
def Qm(g:Nat)(c:Cp):HP:=au g [.int .i64 c.a.At,.int .i64 c.a.DA,.int .i64 c.b.At,.int .i64 c.b.DA,.int .i64 c.at_,.int .i64 c.j2,.int .i64 c.has,
 .func (.func (if c.Cm then sV else rJ)) #[.pointer (some ⟨g,0,none⟩)] #[]]
def Cp.begin(a b:Rg)(from_ j2:Int):Cp:=⟨a,b,from_,j2,0,false⟩
def Sf(a b:Rg)(from_ j2:Int):Int:=if a.right=false∨b.right=false then 1 else if j2<from_∨j2 - from_>a.size∨j2 - from_>b.size then 10 else 0
def ak6(h0:0≤x)(h1:x<18446744073709551616):IntKind.u64.wrap x=x:=by
 simp only[aF,IntKind.bits,IntKind.signed];simp;omega
def acE(hx:sy x)(hy:sy y)(h:y≤x):IntKind.u64.wrap (IntKind.u64.wrap x - IntKind.u64.wrap y)=x - y:=by
 have:=hx.1;have:=hx.2;have:=hy.1;have:=hy.2;simp only[aF,IntKind.bits,IntKind.signed];simp;omega
def size_le(r:Rg):0≤r.size∧r.size≤256:=by
 unfold Rg.size;split
 ·rename_i h;have:=Rg.F5 h;omega
 ·omega
def axE{a b:Rg}{from_ j2:Int}{k:Option Addr×Int→ap}(hf:sy from_)(hu:sy j2)(h:St w0 w L)
  (h1:Sf a b from_ j2=0→∀g w',St w0 w' (Qm g (Cp.begin a b from_ j2)::L)→k (some ⟨g,0,none⟩,0) w') (h2:Sf a b from_ j2≠0→∀w',St w0 w' L→k (none,Sf a b from_ j2) w'):nH a.ag b.ag from_ j2 w k:=by
 unfold nH Ei;refine aM h λg1 w1 hS=>aM hS λg2 w2 hS=>bP (λy w'=>y=(!a.right|| !b.right)∧St w0 w' (au g2 b.ag.toList::au g1 a.ag.toList::L)) ?_ ?_
 ·intro J c;refine je hS rfl<|Mw hS λw3 hS=>ax (λh1=>c _ _ ⟨by revert h1;cases a.right<;>simp,hS⟩) λh1=> ?_
  refine je hS rfl<|Mw hS λi hS=>c _ _ ⟨by revert h1;cases a.right<;>simp,hS⟩
 rintro _ w3 ⟨rfl,hS⟩;refine ax (λh3=> ?_) λh3=> ?_
 ·have e:Sf a b from_ j2=1:=by
   unfold Sf;simp only[Bool.or_eq_true,Bool.not_eq_true']at h3;rw[if_pos h3]
  have:=h2 (by rw[e];omega) _ hS.drop.drop
  rwa[e]at this
 simp only[kf,Bool.not_eq_false']at h3;have sa:=size_le a;have sb:=size_le b;have e:Sf a b from_ j2=if j2<from_∨j2 - from_>a.size∨j2 - from_>b.size then 10 else 0:=by
  unfold Sf;rw[if_neg (by rw[h3.1,h3.2];simp)]
 refine bP (λy w'=>y=decide (j2<from_∨j2 - from_>a.size∨j2 - from_>b.size)∧St w0 w' (au g2 b.ag.toList::au g1 a.ag.toList::L)) ?_ ?_
 ·intro J c;refine cH hS λi hS=>ax (λh4=>c _ _ ⟨?_,hS⟩) λh4=> ?_
  ·rw[decide_eq_true_eq]at h4;rw[decide_eq_true (.inl h4)]
  ·rw[decide_eq_false_iff_not]at h4;refine je hS rfl<|je hS rfl<|XT hS λj d=>eD hS d<|XT d λf hS=>c _ _ ⟨?_,hS⟩;rw[acE hu hf af];unfold Wg;rw[decide_eq_decide];split
   ·rw[ak6 af af];omega
   ·rw[ak6 af af];omega
 rintro _ i ⟨rfl,hS⟩;refine ax (λh4=> ?_) λh4=> ?_
 ·rw[decide_eq_true_eq]at h4;rw[if_pos h4]at e;have:=h2 (by rw[e];omega) _ hS.drop.drop
  rwa[e]at this
 rw[decide_eq_false_iff_not]at h4;rw[if_neg h4]at e;refine je hS rfl<|je hS rfl<|arq _ rfl bf rfl<|arq _ rfl bf rfl<|aM hS λg j hS=>j4 hS rfl bf λf hS=>h1 e g f (show St w0 f (Qm g (Cp.begin a b from_ j2)::L)from hS.swap.drop.swap.drop)
end
variable{gc:Nat}
section
variable{L:List HP}
def Cp.spot(c:Cp):Int:=if c.Cm then c.b.place c.at_ else c.a.place c.at_
def Cp.next(c:Cp)(x:Int):Cp:=if c.Cm then{c with at_:=IntKind.i64.wrap (c.at_+1),Cm:=false}else{c with has:=x,Cm:=true}
def axF{c:Cp}{k:Bool×Int→ap}(h:St w0 w (Qm gc c::bH g M::L))
  (h0:c.at_=c.j2→∀w',St w0 w' (Qm gc c::bH g M::L)→k (true,0) w')
  (h1:c.at_≠c.j2→M.can wk c.spot=false→∀w',St w0 w' (Qm gc c::bH g M::L)→k (false,10) w')
  (h2:c.at_≠c.j2→M.can wk c.spot=true→c.Cm=false→∀w',St w0 w' (Qm gc (c.next (M.get c.spot))::bH g (M.tick wk)::L)→k (false,0) w')
  (h3:c.at_≠c.j2→M.can wk c.spot=true→c.Cm=true→∀w',St w0 w' (Qm gc (c.next 0)::bH g ((M.tick wk).put c.spot c.has)::L)→k ((c.next 0).at_==c.j2,0) w'):
  nJ (some ⟨gc,0,none⟩) (some ⟨g,0,none⟩) wk w k:=by
 unfold nJ Ek;refine aU rfl (cH h λw1 hS=> ?_);unfold Qm at hS;refine bc (cr hS rfl ?_);refine bc (cr hS rfl (ax (λhe=>h0 (gq he) _ hS) λhne=> ?_))
 have hne:c.at_≠c.j2:=gq hne
 refine bc (I2 hS rfl ?_);cases hl:c.Cm with
 |false=>
  have hsp:c.spot=c.a.place c.at_:=by unfold Cp.spot;rw[hl];rfl
  rw[hl]at hS;refine bV (d:=KB) (λ_ _ _=>rfl) ?_;simp only[KB,List.append_toArray,List.cons_append,List.nil_append,List.append_nil,qW,unV,toP,xS,if_true,e9,dL,K.v,Ir];unfold nI Ej;refine cH hS λw2 hS=>bc (qM hS bf ?_);refine bc (cr hS rfl ?_);refine Mx hS λw3 hS=>agW hS (λhcan j hS=> ?_) λhcan=> ?_
  ·refine aU rfl (bc (j4 hS rfl bf λl hS=>bc (j4 hS rfl bf λm hS=> ?_)));refine aU rfl (cH hS λi hS=> ?_);refine bc (cr hS rfl ?_);refine bc (cr hS rfl ?_);have:=h2 hne (by rw[hsp];exact hcan) hl i (by
    rw[hsp];have e:c.next (M.get (c.a.place c.at_))={c with has:=M.get (c.a.place c.at_),Cm:=true}:=by unfold Cp.next;rw[hl];rfl
    rw[e];exact hS)
   rwa[show(c.at_==c.j2)=false by simpa using hne]
  ·refine bK rfl (bK rfl (h1 hne (by rw[hsp];exact hcan) _ ?_))
   unfold Qm;rw[hl];exact hS
 |true=>
  have hsp:c.spot=c.b.place c.at_:=by unfold Cp.spot;rw[hl];rfl
  rw[hl]at hS;refine bV (d:=Jo) (λ_ _ _=>rfl) ?_;simp only[Jo,List.append_toArray,List.cons_append,List.nil_append,List.append_nil,qW,unV,toP,xS,if_true,e9,dL,K.v,Ir];unfold mz CO;refine cH hS λw2 hS=>bc (qM hS bf ?_);refine bc (cr hS rfl ?_);refine bc (cr hS rfl ?_);refine Mx hS λw3 f=>eD hS f<|aiD f (λhcan j hS=> ?_) λhcan=> ?_
  ·refine aU rfl (bc (cr hS rfl ?_));refine bc (j4 hS rfl bf λl hS=>bc (j4 hS rfl bf λm hS=> ?_));refine aU rfl (cH hS λi hS=> ?_);refine bc (cr hS rfl ?_);refine bc (cr hS rfl ?_);have e:c.next 0={c with at_:=IntKind.i64.wrap (c.at_+1),Cm:=false}:=by unfold Cp.next;rw[hl];rfl
   have:=h3 hne (by rw[hsp];exact hcan) hl i (by
    rw[hsp,e];exact hS)
   rw[e]at this;exact this
  ·refine bK rfl (bK rfl (h1 hne (by rw[hsp];exact hcan) _ ?_))
   unfold Qm;rw[hl];exact f
end
def bJ.ld(M:bJ)(wk a:Int):bJ×Int×Int:=if M.can wk a then(M.tick wk,M.get a,0)else(M,0,10)
def bJ.st(M:bJ)(wk a x:Int):bJ×Int:=if M.can wk a then((M.tick wk).put a x,0)else(M,10)
def bJ.VQ(M:bJ)(wk a old x:Int):bJ×Bool×Int:=if M.can wk a then(if M.get a=old then((M.tick wk).put a x,true,0)else(M.tick wk,false,0))else(M,false,10)
def wr(x:Int):Int:=aF .i64 x
variable{a' v:Int}
section
variable{L R:List HP}{gm go:Nat}{p:Option Addr}
def aa8{k:Int×Int→ap}(h:St w0 w L)[a:At L (bH gm) M f](hk:∀w',St w0 w' (f (bH gm (M.ld wk a').1))→k ((M.ld wk a').2.1,(M.ld wk a').2.2) w'):aj (some ⟨gm,0,none⟩) wk a' w k:=by
 unfold bJ.ld at hk;refine agW h (λhc w' h=> ?_) λhc=> ?_
 ·rw[if_pos hc]at hk;exact hk w' h
 ·rw[if_neg (by rw[hc];simp)]at hk;exact hk w (h.same a)
def Sg(h:St w0 w L)[a:At L (bH gm) M f](hk:∀w',St w0 w' (f (bH gm (M.st wk a' x).1))→k (M.st wk a' x).2 w'):aK (some ⟨gm,0,none⟩) wk a' x w k:=by
 unfold bJ.st at hk;refine aiD h (λhc w' h=> ?_) λhc=> ?_
 ·rw[if_pos hc]at hk;exact hk w' h
 ·rw[if_neg (by rw[hc];simp)]at hk;exact hk w (h.same a)
def ak7{old:Int}{k:Bool×Int→ap}(h:St w0 w L)[a:At L (bH gm) M f](hk:∀w',St w0 w' (f (bH gm (M.VQ wk a' old x).1))→k ((M.VQ wk a' old x).2.1,(M.VQ wk a' old x).2.2) w'):aR (some ⟨gm,0,none⟩) wk a' old x w k:=by
 unfold aR zT;unfold bJ.VQ at hk;refine aU rfl (Se h (.inl ⟨rfl,rfl⟩) ?_);by_cases hcan:M.can wk a'=true
 ·rw[if_pos hcan]at hk;unfold bJ.can at hcan;rw[hcan];refine aU rfl ?_;obtain⟨R,ho,hc⟩:=a.out;obtain⟨s1,s2,hS⟩:=uM (ho h);simp only[iY,bJ.caller,bJ.given,decide_eq_true_eq]at hcan;refine bc (ea hS rfl (zB hS hcan.1.1 hcan.1.2 (zC hS hcan.1.1 hcan.1.2 λw' hS=>bc (ea hS rfl (zB hS hcan.2.1 hcan.2.2 ?_)))));refine ax (λhb=> ?_) λhb=> ?_
  ·have hne:M.get a'≠old:=by simpa[bJ.get]using hb
   rw[if_neg hne]at hk;exact hk w' (hc (C0 hS))
  ·have he:M.get a'=old:=by simpa[bJ.get]using hb
   rw[if_pos he]at hk;refine bc (ea hS rfl (zC hS hcan.2.1 hcan.2.2 λw' hS=> ?_));exact hk w' (hc (C0 hS))
 ·have hcan:M.can wk a'=false:=by simpa using hcan
  rw[if_neg (by rw[hcan];simp)]at hk
  unfold bJ.can at hcan;rw[hcan];exact bK rfl (hk w (h.same a))
def y4(h:M.can 0 x=true∨M.given x=true)(a:M.OK):aF .i64 x=x:=by
 have h1:=a.size;have h2:=a.fit;have:M.given x=true:=by
  rcases h with h|h
  ·unfold bJ.can at h;simp at h;exact h.2
  ·exact h
 unfold bJ.given at this;simp only[decide_eq_true_eq]at this;exact kg ⟨af,af⟩
def pe(h:M.can wk x=true):M.given x=true:=by unfold bJ.can at h;simp at h;exact h.2
def EJ(h:M.can wk x=true):M.ld wk x=(M.tick wk,M.get x,0):=by unfold bJ.ld;rw[if_pos h]
def S4(h:M.can wk x=true):M.st wk x v=((M.tick wk).put x v,0):=by unfold bJ.st;rw[if_pos h]
def aiF{o:Int}(h:M.can wk x=true):M.VQ wk x o v=if M.get x=o then((M.tick wk).put x v,true,0)else(M.tick wk,false,0):=by unfold bJ.VQ;rw[if_pos h]
def ldc{k:Int×Int→ap}(h:St w0 w L)[a:At L (bH gm) M f](hc:M.can wk a'=true)(hk:∀w',St w0 w' (f (bH gm (M.tick wk)))→k (M.get a',0) w'):aj (some ⟨gm,0,none⟩) wk a' w k:=by
 refine aa8 h λw h=> ?_;rw[EJ hc]at h ⊢;exact hk w h
def stc(h:St w0 w L)[a:At L (bH gm) M f](hc:M.can wk a'=true)(hk:∀w',St w0 w' (f (bH gm ((M.tick wk).put a' x)))→k 0 w'):aK (some ⟨gm,0,none⟩) wk a' x w k:=by
 refine Sg h λw h=> ?_;rw[S4 hc]at h ⊢;exact hk w h
def bJ.cs(M:bJ)(wk a old x:Int):bJ×Bool:=if M.get a=old then((M.tick wk).put a x,true)else(M.tick wk,false)
def ank{o:Int}{k:Bool×Int→ap}(h:St w0 w L)[a:At L (bH gm) M f](hc:M.can wk a'=true)(hk:∀w',St w0 w' (f (bH gm (M.cs wk a' o x).1))→k ((M.cs wk a' o x).2,0) w'):aR (some ⟨gm,0,none⟩) wk a' o x w k:=by
 refine ak7 h λw h=> ?_;rw[aiF hc]at h ⊢;unfold bJ.cs at hk;split at h
 ·rename_i e;rw[if_pos e]at hk ⊢;exact hk w h
 ·rename_i e;rw[if_neg e]at hk ⊢;exact hk w h
def bJ.ad(M:bJ)(wk x by_:Int):bJ:=(M.tick wk).put x (wr (M.get x+by_))
def VR{k:Int×Int→ap}(h:St w0 w L)[a:At L (bH gm) M f](hc:M.can wk x=true)(hk:∀w',St w0 w' (f (bH gm (M.ad wk x y)))→k (M.get x,0) w'):aL (some ⟨gm,0,none⟩) wk x y w k:=by
 unfold aL rf;obtain⟨R,ho,hb⟩:=a.out;have h:=ho h;refine aM h λg1 w h=>aM h λg2 w h=>aM h λg3 w h=>n8<|Se h (.inl ⟨rfl,rfl⟩) ?_;have hcan:=hc;unfold bJ.can at hcan;rw[hcan];refine aU rfl ?_;simp only[iY,bJ.caller,bJ.given,decide_eq_true_eq]at hcan;have hS:=h.front 3 rfl;simp only[I7]at hS;obtain⟨s1,s2,h⟩:=uM hS;refine n8<|zB h hcan.1.1 hcan.1.2 (zC h hcan.1.1 hcan.1.2 λw h=> ?_);refine pS λw h=>zB h hcan.2.1 hcan.2.2 ?_;unfold ue;refine pS λw h=>zB h hcan.2.1 hcan.2.2 ?_;refine n8<|zC h hcan.2.1 hcan.2.2 λw h=> ?_;have h:=C0 (M:=M.ad wk x y) h;exact hk w (hb (((h.rm 1 rfl).rm 1 rfl).rm 1 rfl))
end
structure Nd where
 parent:Int
 nest:Int
 at_:Int
 deriving DecidableEq
abbrev Nd.cells(x:Nd):List Value:=[.int .i64 x.parent,.int .i64 x.nest,.int .i64 x.at_]
def scp(g:Nat)(C:List Nd):HP:=Gt λs:Sl=>l9 [au g [.slice s.a s.n s.c],rws 3 s (C.map Nd.cells)]
variable{s:Int}{ga:Nat}
section
variable{L R:List HP}{gm:Nat}{C:List Nd}{f2 f3:HP→List HP}
def Y6(h:St w0 w (scp g C::R)):∃s:Sl,St w0 w (au g [.slice s.a s.n s.c]::rws 3 s (C.map Nd.cells)::R):=by
 obtain⟨s,h⟩:=h.some;exact⟨s,h.open⟩
def ae6{s:Sl}(h:St w0 w (au g [.slice s.a s.n s.c]::rws 3 s (C.map Nd.cells)::R)):St w0 w (scp g C::R):=
 St.ex s (St.shut h)
def UR(C:List Nd)(s:Int):Bool:=decide (0≤s∧s<C.length)
def ak8{k:Bool→ap}(h:St w0 w L)[a:At L (scp g) C f][a':At L (au ga) [.int .i64 s] f'](hk:k (UR C s) w):dk (some ⟨g,0,none⟩) ⟨some ⟨ga,0,none⟩,1,1⟩ w k:=by
 unfold dk;refine⟨2,?_⟩;unfold jV;have hb:=h.au (g:=ga);refine bK rfl ?_;refine⟨⟨af,by show(0:Int)<1;decide⟩,uZ (by rw[dg,hb.cell];rfl) (QI ?_)⟩
 obtain⟨R,ho,hc⟩:=a.out;obtain⟨sl,h2⟩:=Y6 (ho h);have hl:=(pg (sz:=3) (s:=sl) h2).2 af;simp only[List.length_map]at hl;refine ax (λh1=> ?_) λh1=> ?_
 ·have h1:s<0:=by simpa using h1
  rw[show UR C s=false by simp[UR];omega]at hk
  exact bK rfl hk
 ·have h1:¬s<0:=by simpa using h1
  refine bc (aS h2 rfl ?_);refine ax (λh3=> ?_) λh3=> ?_
  ·have h3:s≥((sl.n:Nat):Int):=of_decide_eq_true h3;rwa[show UR C s=false by simp[UR];omega]at hk
  ·have h3:¬s≥((sl.n:Nat):Int):=of_decide_eq_false h3;unfold jV;refine aU rfl ?_;rwa[show UR C s=true by simp[UR];omega]at hk
def F6(h:St w0 w L)[a:At L (scp g) C f](hs:UR C s=true)(hk:∀w',St w0 w' L→k 0 w'):bh (some ⟨g,0,none⟩) (some ⟨gm,0,none⟩) s w k:=by
 unfold bh Ef;refine aU rfl (aM h λga w' h=>ak8 h ?_);rw[hs];exact aU rfl (hk w' h.drop)
def nZ(C:List Nd)(s:Int):Option Nd:=if 0≤s then C[s.toNat]? else none
def rM{x:Nd}(h:nZ C s=some x):UR C s=true∧0≤s∧C[s.toNat]?=some x:=by
 unfold nZ at h;split at h
 ·have:=(kB.1 h).1;exact⟨by simp[UR];omega,af,h⟩
 ·cases h
def aah{x:Nd}{j:Nat}{c:Addr→Int→Prop}(h:St w0 w L)[a:At L (scp g) C f](hs:nZ C s=some x)(hv:x.cells[j]?=some (.int .i64 v))(hc:∀p,c p v):
  cy w (aY ⟨g,0,none⟩ 0) λb=>cN b s 3 λa5=>aJ .i64 w (aY a5 j) (c a5):=by
 obtain⟨R,ho,hb⟩:=a.out;obtain⟨sl,h2⟩:=Y6 (ho h);obtain⟨_,h0,h1⟩:=rM hs;exact aS h2 rfl (rI2 h2 h0 (by rw[l8,h1];rfl) hv hc)
def aiG{x:Nd}(h:St w0 w L)[a:At L (scp g) C f][a2:At L (bH gm) M f2](hs:nZ C s=some x)(hc:M.can wk (x.at_+1)=true)(b:M.OK)
  (hk:∀w',St w0 w' (f2 (bH gm (M.ad wk (x.at_+1) 1)))→k 0 w'):eE (some ⟨g,0,none⟩) (some ⟨gm,0,none⟩) wk s w k:=by
 unfold eE Bn;refine F6 h (rM hs).1 λw h=> ?_;with_reducible repeat' (first|refine bc ?_|refine I8 ?_|refine aah (C:=C) h hs rfl λ_=> ?_)
 rw[y4 (.inr (pe hc)) b];exact VR h hc λw h=>hk w h
def as8{x:Nd}{k:Bool×Int→ap}(h:St w0 w L)[a:At L (scp g) C f][a2:At L (bH gm) M f2](hs:nZ C s=some x)(hc:M.can wk (x.at_+1)=true)(b:M.OK)
  (hk:∀w',St w0 w' (f2 (bH gm (M.ad wk (x.at_+1) (-1))))→k (M.get (x.at_+1)==1,0) w'):lz (some ⟨g,0,none⟩) (some ⟨gm,0,none⟩) wk s w k:=by
 unfold lz BJ;refine F6 h (rM hs).1 λw h=> ?_;with_reducible repeat' (first|refine bc ?_|refine I8 ?_|refine aah (C:=C) h hs rfl λ_=> ?_)
 rw[y4 (.inr (pe hc)) b];exact VR h hc λw h=>hk w h
def axG{x:Nd}{k:Int×Int→ap}(h:St w0 w L)[a:At L (scp g) C f][a2:At L (bH gm) M f2](hs:nZ C s=some x)(hc:M.can wk (x.at_+1)=true)(b:M.OK)
  (hk:∀w',St w0 w' (f2 (bH gm (M.tick wk)))→k (M.get (x.at_+1),0) w'):mE (some ⟨g,0,none⟩) (some ⟨gm,0,none⟩) wk s w k:=by
 unfold mE CV;refine F6 h (rM hs).1 λw h=> ?_;with_reducible repeat' (first|refine bc ?_|refine I8 ?_|refine aah (C:=C) h hs rfl λ_=> ?_)
 rw[y4 (.inr (pe hc)) b];refine aa8 h λw h=> ?_;rw[EJ hc]at h ⊢;exact hk w h
def as9{x:Nd}{k:Bool×Int→ap}(h:St w0 w L)[a:At L (scp g) C f][a2:At L (bH gm) M f2](hs:nZ C s=some x)(hc:M.can wk x.at_=true)
  (hk:∀w',St w0 w' (f2 (bH gm (M.cs wk x.at_ 0 1).1))→k ((M.cs wk x.at_ 0 1).2,0) w'):gI (some ⟨g,0,none⟩) (some ⟨gm,0,none⟩) wk s w k:=by
 unfold gI ED;refine F6 h (rM hs).1 λw h=> ?_;with_reducible repeat' (first|refine bc ?_|refine I8 ?_|refine aah (C:=C) h hs rfl λ_=> ?_)
 exact ank h hc λw h=>hk w h
def aiH{x:Nd}{k:Bool×Int→ap}(h:St w0 w L)[a:At L (scp g) C f][a2:At L (bH gm) M f2](hs:nZ C s=some x)(hc:M.can wk x.at_=true)
  (hk:∀w',St w0 w' (f2 (bH gm (M.tick wk)))→k (M.get x.at_ !=0,0) w'):eG (some ⟨g,0,none⟩) (some ⟨gm,0,none⟩) wk s w k:=by
 unfold eG Bv;refine F6 h (rM hs).1 λw h=> ?_;with_reducible repeat' (first|refine bc ?_|refine I8 ?_|refine aah (C:=C) h hs rfl λ_=> ?_)
 refine aa8 h λw h=> ?_;rw[EJ hc]at h ⊢;exact hk w h
def aoX{x:Nd}(h:St w0 w L)[a:At L (scp g) C f](hs:nZ C s=some x)(hk:∀w',St w0 w' L→k x.parent w'):kG (some ⟨g,0,none⟩) s w k:=by
 unfold kG z7;refine aM h λga w h=>ak8 h ?_;rw[(rM hs).1];with_reducible repeat' (first|refine bc ?_|refine I8 ?_|refine aah (C:=C) h hs rfl λ_=> ?_)
 exact hk w h.drop
def Jw{n:Nat}{a b:Array Value}{c:Array Value→Prop}(hn:a.size=n)(hb:b.size=n)(hc:c b):kT a 0 n b c:=by
 refine⟨hb,?_⟩;have e:b.zipIdx.foldl (λcs (x:Value×Nat)=>cs.setIfInBounds (0+x.2) x.1) a=b:=by
  apply Array.ext';have key:∀(l:List Value) (k:Nat) (acc:Array Value),acc.size=k+l.length→((l.zipIdx k).foldl (fun(cs:Array Value) (x:Value×Nat)=>cs.setIfInBounds (0+x.2) x.1) acc).toList=acc.toList.take k++l:=by
   intro l;induction l with
   |nil=>intro k acc hk;simp at hk;simp[List.take_of_length_le,hk]
   |cons v l ih=>
    intro k acc hk;simp only[List.length_cons]at hk;rw[List.zipIdx_cons,List.foldl_cons,ih (k+1) _ (by simp;omega)]
    simp only[Nat.zero_add,Array.toList_setIfInBounds];rw[List.take_add_one,uO (gq (by omega:k<acc.size)),List.take_set_of_le af]
    simp
  have:=key b.toList 0 a (by simp[hn,hb])
  rw[←Array.foldl_toList,Array.toList_zipIdx];simpa using this
 rw[e];exact hc
def elN:ET Tryz.prog 233 3 24 (.agg #[.int .i64 0,.int .i64 0,.int .i64 0]):=⟨aZ,aZ⟩
def agZ{x:Nd}{k:Int×Int→ap}(h:St w0 w L)[a:At L (scp g) C f][a2:At L (bH gm) M f2][a3:At (f2 (bH gm ((M.tick wk).grow 2))) (scp g) C f3](hs:nZ C s=some x)(hw:M.caller wk=true)(b:M.OK)(hC:C.length≤1000000)
  (h1:wr (x.nest+1)>32→∀w',St w0 w' L→k (0,23) w') (h2:¬wr (x.nest+1)>32→M.room 2=false→∀w',St w0 w' L→k (0,21) w')
  (h3:¬wr (x.nest+1)>32→M.room 2=true→∀w',St w0 w' (f3 (scp g (C++[⟨s,wr (x.nest+1),(M.cells.length:Nat)⟩])))→k ((C.length:Nat),0) w'):cY (some ⟨g,0,none⟩) (some ⟨gm,0,none⟩) wk s w k:=by
 unfold cY CJ;refine F6 h (rM hs).1 λw h=> ?_;with_reducible repeat' (first|refine bc ?_|refine I8 ?_|refine aah (C:=C) h hs rfl λ_=> ?_)
 refine ax (λhb=> ?_) λhb=> ?_
 ·exact h1 (of_decide_eq_true hb) w h
 ·have hb:=of_decide_eq_false hb;refine GU h b (λ_ _ hr w h=> ?_) (λ_ _ hr=> ?_) λhn=>(hn ⟨hw,af⟩).elim
  ·refine n8 ?_;obtain⟨R,ho,hc⟩:=a3.out;obtain⟨sl,h⟩:=Y6 (ho h);refine n8 ?_;refine Jw rfl rfl<|zE λgx w h=> ?_;refine Z8 h elN aZ rfl af (by simp[Nd.cells,Value.oneCell']) (gq hC) af λs' w h hn=> ?_
   refine pS λw h=> ?_;rw[List.length_map]at hn;rw[hn];have e:aF .i64 (((C.length+1:Nat):Int) - 1)=(C.length:Nat):=by rw[kg ⟨af,af⟩];omega
   rw[e];refine h3 hb hr w (hc (ae6 (s:=s') ?_));have:=h.rm 0 rfl;simp only[List.map_append,List.map_cons,List.map_nil];exact this
  ·refine n8<|h2 hb hr w h
structure Lk where
 at_:Int
 done:Bool
 xm:Bool
def Lk.cells(g:Nat)(x:Lk):List Value:=[.pointer (some ⟨g,0,none⟩),.int .i64 x.at_,.bool x.done,.bool x.xm]
def axH{x:Nd}{k:Option Addr×Int→ap}(h:St w0 w L)[a:At L (scp g) C f](hs:nZ C s=some x)(hk:∀gl w',St w0 w' (au gl (Lk.cells g ⟨s,false,false⟩)::L)→k (some ⟨gl,0,none⟩,0) w'):mB (some ⟨g,0,none⟩) s w k:=by
 unfold mB CT;refine aU rfl (aM h λga w h=>ak8 h ?_);rw[(rM hs).1];refine zE λgx w h=>hk _ w (h.rm 1 rfl)
def Lk.go(M:bJ)(l:Lk)(x:Nd):Lk:=⟨x.parent,M.get x.at_ !=0||l.at_==0,M.get x.at_ !=0⟩
def aiI{gl:Nat}{x:Nd}{l:Lk}{k:Bool×Bool×Int→ap}(h:St w0 w (au gl (Lk.cells g l)::scp g C::bH gm M::R))
  (hd:l.done=false) (hs:nZ C l.at_=some x) (hc:M.can wk x.at_=true)
  (hk:∀w',St w0 w' (au gl (Lk.cells g (l.go M x))::scp g C::bH gm (M.tick wk)::R)→k ((l.go M x).done,(l.go M x).xm,0) w'):k7 (some ⟨gl,0,none⟩) (some ⟨gm,0,none⟩) wk w k:=by
 unfold k7 CS;obtain⟨la,ld,b⟩:=l;cases hd
 refine pS λw h=>aiH h hs hc λw h=> ?_;refine pS λw h=>bP (λ_ w=>St w0 w (au gl (Lk.cells g ⟨la,M.get x.at_ !=0||la==0,M.get x.at_ !=0⟩)::scp g C::bH gm (M.tick wk)::R)) (λJ a=> ?_) ?_
 ·refine ax (λhb=> ?_) λhb=> ?_
  ·have hb:(M.get x.at_ !=0)=true:=hb;refine pS λw h=> ?_;exact a _ _ (by simp only[hb]at h ⊢;exact h)
  ·have hb:(M.get x.at_ !=0)=false:=hb;refine pS λw h=> ?_;exact a _ _ (by simp only[hb]at h ⊢;exact h)
 ·intro _ w h;refine pS λw h=>aoX h hs λw h=> ?_;refine pS λw h=>hk _ h
end
section
variable{L R:List HP}{gm gx:Nat}{f2 f3:HP→List HP}
def atb{k:Array Value×Int→ap}(h:St w0 w L)[a2:At L (bH gm) M f2](hw:M.caller wk=true)(a:M.OK)
  (hk:M.room 1=true→∀w',St w0 w' (f2 (bH gm ((M.tick wk).grow 1)))→k (#[.int .i64 (M.cells.length:Nat)],0) w') (b:M.room 1=false→∀w',St w0 w' L→k (#[.int .i64 0],21) w'):
  uy (some ⟨gm,0,none⟩) wk w k:=by
 unfold uy Np;refine zE λgx w h=> ?_;refine GU h a (λ_ _ hr w h=> ?_) (λ_ _ hr=> ?_) λhn=>(hn ⟨hw,af⟩).elim
 ·refine pS λw h=>hk hr w h.drop
 ·refine pS λw h=>b hr w h.drop
def atc{k:Array Value×Int→ap}(h:St w0 w L)[a2:At L (bH gm) M f2](hw:M.caller wk=true)(a:M.OK)
  (hk:M.room 1=true→∀w',St w0 w' (f2 (bH gm ((M.tick wk).grow 1)))→k (#[.int .i64 (M.cells.length:Nat)],0) w') (b:M.room 1=false→∀w',St w0 w' L→k (#[.int .i64 0],21) w'):
  xN (some ⟨gm,0,none⟩) wk w k:=by
 unfold xN Q2;refine zE λgx w h=> ?_;refine GU h a (λ_ _ hr w h=> ?_) (λ_ _ hr=> ?_) λhn=>(hn ⟨hw,af⟩).elim
 ·refine pS λw h=>hk hr w h.drop
 ·refine pS λw h=>b hr w h.drop
def axI{k:Array Value×Int→ap}(h:St w0 w L)[a2:At L (bH gm) M f2](hw:M.caller wk=true)(a:M.OK)
  (hk:M.room 3=true→∀w',St w0 w' (f2 (bH gm ((M.tick wk).grow 3)))→k (#[.int .i64 (M.cells.length:Nat)],0) w') (b:M.room 3=false→∀w',St w0 w' L→k (#[.int .i64 0],21) w'):
  sH (some ⟨gm,0,none⟩) wk w k:=by
 unfold sH K8;refine zE λgx w h=> ?_;refine GU h a (λ_ _ hr w h=> ?_) (λ_ _ hr=> ?_) λhn=>(hn ⟨hw,af⟩).elim
 ·refine pS λw h=>hk hr w h.drop
 ·refine pS λw h=>b hr w h.drop
def atd{k:Int×Int→ap}(h:St w0 w L)[a2:At L (bH gm) M f2](hc:M.can wk at_=true)(hk:∀w',St w0 w' (f2 (bH gm (M.tick wk)))→k (M.get at_,0) w'):lq #[.int .i64 at_] (some ⟨gm,0,none⟩) wk w k:=by
 unfold lq BA;with_reducible repeat' (first|refine Iy h ?_|refine aM h λgx w h=> ?_|refine ldc (M:=M) h hc λw h=> ?_|fail)
 exact hk w h.drop
def anl(h:St w0 w L)[a2:At L (bH gm) M f2](hc:M.can wk at_=true)(hk:∀w',St w0 w' (f2 (bH gm (M.ad wk at_ 1)))→k 0 w'):eH #[.int .i64 at_] (some ⟨gm,0,none⟩) wk w k:=by
 unfold eH Bw;with_reducible repeat' (first|refine Iy h ?_|refine aM h λgx w h=> ?_|refine VR (M:=M) h hc λw h=> ?_|fail)
 exact hk w h.drop
def ate{k:Int×Int→ap}(h:St w0 w L)[a2:At L (bH gm) M f2](hc:M.can wk at_=true)(hk:∀w',St w0 w' (f2 (bH gm (M.tick wk)))→k (M.get at_,0) w'):oT #[.int .i64 at_] (some ⟨gm,0,none⟩) wk w k:=by
 unfold oT FO;with_reducible repeat' (first|refine Iy h ?_|refine aM h λgx w h=> ?_|refine ldc (M:=M) h hc λw h=> ?_|fail)
 exact hk w h.drop
def ak9{seen:Int}{k:Bool→ap}(h:St w0 w L)[a2:At L (bH gm) M f2](hc:M.given at_=true)(hk:∀w',St w0 w' L→k (M.get at_==seen) w'):jX #[.int .i64 at_] (some ⟨gm,0,none⟩) seen w k:=by
 unfold jX yj;have hg:=hc;unfold bJ.given at hg;simp only[decide_eq_true_eq]at hg;refine zE λgx w h=> ?_;refine bK (gq hg.1) ?_
 refine n8<|axB h ?_;refine n8 ?_;refine bK (gq hg.2) ?_
 refine n8<|KG h ?_;rw[if_pos hc];exact hk w h.drop
structure Wt where
 how:Int
 seen:Int
def Wt.cells(at_:Int)(x:Wt):List Value:=[.int .i64 at_,.int .i64 x.how,.int .i64 x.seen]
def axJ{k:Option Addr→ap}(h:St w0 w L)(hk:∀ga w',St w0 w' (au ga (Wt.cells at_ ⟨0,0⟩)::L)→k (some ⟨ga,0,none⟩) w'):lp #[.int .i64 at_] w k:=by
 unfold lp;refine zE λgx w h=> ?_;refine⟨rfl,?_⟩;refine zE λgx w h=>hk _ w (h.rm 1 rfl)
def acF{x:Wt}(h:St w0 w (au g (x.cells at_)::bH gm M::R))(hc:M.can wk at_=true)(hk:∀w',St w0 w' (au g (Wt.cells at_ ⟨1,M.get at_⟩)::bH gm (M.tick wk)::R)→k 0 w'):cM (some ⟨g,0,none⟩) (some ⟨gm,0,none⟩) wk w k:=by
 unfold cM BB;refine n8 ?_;refine atd h hc λw h=>pS λw h=>hk w h
def anm{x:Wt}(h:St w0 w L)[a:At L (au g) (x.cells at_) f](hk:∀w',St w0 w' (f (au g (Wt.cells at_ ⟨if x.how=1 then 2 else x.how,x.seen⟩)))→k (if x.how=1 then 0 else 19) w'):fh (some ⟨g,0,none⟩) w k:=by
 unfold fh;refine n8<|ax (λhb=> ?_) λhb=> ?_
 ·have hb:x.how≠1:=by simpa using hb
  rw[if_neg hb,if_neg hb]at hk;exact hk w (h.same a)
 ·have hb:x.how=1:=by simpa using hb
  rw[if_pos hb,if_pos hb]at hk;refine pS λw h=>hk w h
def ae7{x:Wt}{k:Unit→ap}(h:St w0 w L)[a:At L (au g) (x.cells at_) f](hk:∀w',St w0 w' (f (au g (Wt.cells at_ ⟨0,x.seen⟩)))→k () w'):eu (some ⟨g,0,none⟩) w k:=by
 unfold eu;refine pS λw h=>hk w h
def Wt.parked(x:Wt)(M:bJ)(at_:Int):Bool:=x.how==2&&M.get at_==x.seen
def acG{x:Wt}{k:Bool→ap}(h:St w0 w L)[a:At L (au g) (x.cells at_) f][a2:At L (bH gm) M f2](hc:M.given at_=true)(hk:∀w',St w0 w' L→k (x.parked M at_) w'):cQ (some ⟨g,0,none⟩) (some ⟨gm,0,none⟩) w k:=by
 unfold cQ zY;refine pS λw h=> ?_;unfold Wt.parked at hk;refine ax (λhb=> ?_) λhb=> ?_
 ·rw[hb,Bool.true_and]at hk;refine n8<|ak9 h hc hk
 ·rw[hb,Bool.false_and]at hk;exact hk w h
def bit(wk:Int)(times:Int):Int:=sD .i64 times wk
def aiJ(h:St w0 w L)[a2:At L (bH gm) M f2](hw:0≤wk∧wk≤16)(hc:M.can wk at_=true)(hk:∀w',St w0 w' (f2 (bH gm (M.ad wk at_ (bit wk y))))→k 0 w'):iC #[.int .i64 at_] (some ⟨gm,0,none⟩) wk y w k:=by
 unfold iC FP;refine zE λgx w h=> ?_;refine aU (by simp;omega) ?_
 refine pS λw h=> ?_;refine Gf af ?_;with_reducible repeat' (first|refine VR (M:=M) h hc λw h=> ?_|fail)
 exact hk w h.drop
def aoZ(h:St w0 w L)[a2:At L (bH gm) M f2](hw:0≤wk∧wk≤16)(hc:M.can wk at_=true)(hk:∀w',St w0 w' (f2 (bH gm (M.ad wk at_ (bit wk 1))))→k 0 w'):nK #[.int .i64 at_] (some ⟨gm,0,none⟩) wk w k:=by
 unfold nK Ey;refine zE λgx w h=>aiJ h hw hc λw h=>n8<|hk w h.drop
def ao0(h:St w0 w L)[a2:At L (bH gm) M f2](hw:0≤wk∧wk≤16)(hc:M.can wk at_=true)(hk:∀w',St w0 w' (f2 (bH gm (M.ad wk at_ (bit wk (-1)))))→k 0 w'):nL #[.int .i64 at_] (some ⟨gm,0,none⟩) wk w k:=by
 unfold nL Ez;refine zE λgx w h=>aiJ h hw hc λw h=>n8<|hk w h.drop
def ao1{k:Int×Int→ap}(h:St w0 w L)[a2:At L (bH gm) M f2](a:M.OK)(hc:M.can wk (at_+0)=true)(hk:∀w',St w0 w' (f2 (bH gm (M.tick wk)))→k (M.get (at_+0),0) w'):jy #[.int .i64 at_] (some ⟨gm,0,none⟩) wk w k:=by
 unfold jy wY;refine zE λgx w h=> ?_;rw[y4 (.inr (pe hc)) a];with_reducible repeat' (first|refine ldc (M:=M) h hc λw h=> ?_|fail)
 exact hk w h.drop
def ao2{k:Int×Int→ap}(h:St w0 w L)[a2:At L (bH gm) M f2](a:M.OK)(hc:M.can wk (at_+1)=true)(hk:∀w',St w0 w' (f2 (bH gm (M.tick wk)))→k (M.get (at_+1),0) w'):jz #[.int .i64 at_] (some ⟨gm,0,none⟩) wk w k:=by
 unfold jz wZ;refine zE λgx w h=> ?_;rw[y4 (.inr (pe hc)) a];with_reducible repeat' (first|refine ldc (M:=M) h hc λw h=> ?_|fail)
 exact hk w h.drop
def aiK{k:Int×Int→ap}(h:St w0 w L)[a2:At L (bH gm) M f2](a:M.OK)(hc:M.can wk (at_+2)=true)(hk:∀w',St w0 w' (f2 (bH gm (M.tick wk)))→k (M.get (at_+2),0) w'):iz #[.int .i64 at_] (some ⟨gm,0,none⟩) wk w k:=by
 unfold iz uH;refine zE λgx w h=> ?_;rw[y4 (.inr (pe hc)) a];with_reducible repeat' (first|refine ldc (M:=M) h hc λw h=> ?_|fail)
 exact hk w h.drop
def ao3{k:Bool×Int→ap}(h:St w0 w L)[a2:At L (bH gm) M f2](a:M.OK)(hc:M.can wk (at_+0)=true)(hk:∀w',St w0 w' (f2 (bH gm (M.cs wk (at_+0) 0 1).1))→k ((M.cs wk (at_+0) 0 1).2,0) w'):jw #[.int .i64 at_] (some ⟨gm,0,none⟩) wk w k:=by
 unfold jw wM;refine zE λgx w h=> ?_;rw[y4 (.inr (pe hc)) a];with_reducible repeat' (first|refine ank (M:=M) h hc λw h=> ?_|fail)
 exact hk w h.drop
def axK(h:St w0 w L)[a2:At L (bH gm) M f2](a:M.OK)(hc:M.can wk (at_+1)=true)(hk:∀w',St w0 w' (f2 (bH gm ((M.tick wk).put (at_+1) v)))→k 0 w'):kH #[.int .i64 at_] (some ⟨gm,0,none⟩) wk v w k:=by
 unfold kH Az;refine zE λgx w h=> ?_;rw[y4 (.inr (pe hc)) a];with_reducible repeat' (first|refine stc (M:=M) h hc λw h=> ?_|fail)
 exact hk w h.drop
def axL{to:Int}{k:Bool×Int→ap}(h:St w0 w L)[a2:At L (bH gm) M f2](a:M.OK)(ht:2≤to∧to≤4)(hc:M.can wk (at_+0)=true)(hk:∀w',St w0 w' (f2 (bH gm (M.cs wk (at_+0) 1 to).1))→k ((M.cs wk (at_+0) 1 to).2,0) w'):kI #[.int .i64 at_] (some ⟨gm,0,none⟩) wk to w k:=by
 unfold kI AA;refine zE λgx w h=> ?_;refine aU (by simp;omega) ?_
 refine n8 ?_;rw[y4 (.inr (pe hc)) a];with_reducible repeat' (first|refine ank (M:=M) h hc λw h=> ?_|fail)
 exact hk w h.drop
def aiL(h:St w0 w L)[a2:At L (bH gm) M f2](a:M.OK)(hw:0≤wk∧wk≤16)(hc:M.can wk (at_+2)=true)(hk:∀w',St w0 w' (f2 (bH gm (M.ad wk (at_+2) (bit wk y))))→k 0 w'):dN #[.int .i64 at_] (some ⟨gm,0,none⟩) wk y w k:=by
 unfold dN yR;refine zE λgx w h=> ?_;refine aU (by simp;omega) ?_
 refine pS λw h=> ?_;refine Gf af ?_;rw[y4 (.inr (pe hc)) a];with_reducible repeat' (first|refine VR (M:=M) h hc λw h=> ?_|fail)
 exact hk w h.drop
def atf(h:St w0 w L)[a2:At L (bH gm) M f2](a:M.OK)(hw:0≤wk∧wk≤16)(hc:M.can wk (at_+2)=true)(hk:∀w',St w0 w' (f2 (bH gm (M.ad wk (at_+2) (bit wk 1))))→k 0 w'):jZ #[.int .i64 at_] (some ⟨gm,0,none⟩) wk w k:=by
 unfold jZ yS;refine zE λgx w h=>aiL h a hw hc λw h=>n8<|hk w h.drop
def ao4(h:St w0 w L)[a2:At L (bH gm) M f2](a:M.OK)(hw:0≤wk∧wk≤16)(hc:M.can wk (at_+2)=true)(hk:∀w',St w0 w' (f2 (bH gm (M.ad wk (at_+2) (bit wk (-1)))))→k 0 w'):iE #[.int .i64 at_] (some ⟨gm,0,none⟩) wk w k:=by
 unfold iE xg;refine zE λgx w h=>aiL h a hw hc λw h=>n8<|hk w h.drop
def aiM{k:Int×Int×Int→ap}(h:St w0 w L)[a2:At L (bH gm) M f2](a:M.OK)(h0:M.given (at_+0)=true)(h1:M.given (at_+1)=true)(h2:M.given (at_+2)=true)
  (hk:∀w',St w0 w' L→k (M.get (at_+0),if M.get (at_+0)<2 then 0 else M.get (at_+1),M.get (at_+2)) w'):dz #[.int .i64 at_] (some ⟨gm,0,none⟩) w k:=by
 unfold dz yh;with_reducible repeat' (first|refine aM h λgx w h=> ?_|refine I8 ?_)
 refine QI ?_;refine⟨4,?_⟩;unfold jV;refine n8 ?_;rw[y4 (.inr h0) a];refine KG h ?_;rw[if_pos h0];refine uu af e7<|pS λw h=> ?_;unfold jV;refine n8 ?_;rw[show(aF .i64 ((0:Int)+1))=1 by decide,y4 (.inr h1) a]
 refine KG h ?_;rw[if_pos h1];refine uu af e7<|pS λw h=> ?_;unfold jV;refine n8 ?_;rw[show(aF .i64 ((1:Int)+1))=2 by decide,y4 (.inr h2) a]
 refine KG h ?_;rw[if_pos h2];refine uu af e7<|pS λw h=> ?_;unfold jV;refine n8<|ax (λhb=> ?_) λhb=> ?_
 ·have hb:M.get (at_+0)<2:=of_decide_eq_true hb;rw[if_pos hb]at hk;refine pS λw h=>hk w h.drop.drop
 ·have hb:¬M.get (at_+0)<2:=of_decide_eq_false hb;rw[if_neg hb]at hk;refine pS λw h=>hk w h.drop.drop
end
structure Kt where
 parent:Int
 nth:Int
 kids:List Int
 deriving DecidableEq
def oc(p:Kt×Sl):List Value:=[.int .i64 p.1.parent,.int .i64 p.1.nth,.slice p.2.a p.2.n p.2.c]
def zf(p:Kt×Sl):HP:=bG 1 p.2 (ints p.1.kids)
def Da(g:Nat)(T:List Kt):HP:=Gt λq:Sl×List (Kt×Sl)=>Kf (q.2.map (·.1)=T) (l9 [au g [.slice q.1.a q.1.n q.1.c],rws 3 q.1 (q.2.map oc),jO zf q.2])
section
variable{L R:List HP}{T:List Kt}
def S5(h:St w0 w (Da g T::R)):∃(s:Sl) (l:List (Kt×Sl)),l.map (·.1)=T∧St w0 w (au g [.slice s.a s.n s.c]::rws 3 s (l.map oc)::jO zf l::R):=by
 obtain⟨q,h⟩:=h.some;obtain⟨hp,h⟩:=h.pure;exact⟨q.1,q.2,hp,h.open⟩
def Y7{s:Sl}{l:List (Kt×Sl)}(hl:l.map (·.1)=T)(h:St w0 w (au g [.slice s.a s.n s.c]::rws 3 s (l.map oc)::jO zf l::R)):St w0 w (Da g T::R):=
 St.ex (s,l) (St.YA hl (St.shut h))
def Bb(T:List Kt)(s:Int):Bool:=decide (0≤s∧s<T.length)
def VS{p:Addr}{C:Int→ap}{k:Bool→ap}(h:St w0 w L)[a:At L (Da g) T f](hp:w.cell? p=some (.int .i64 s))(h1:Bb T s=false→k false w)(h2:Bb T s=true→C (aF .i64 (i+1)) w):
  aJ .i64 w p λi5=>cz (S:=Bool) (λd=>an ((eA (some (⟨g,0,none⟩:Addr)))||(decide (i5<(0:Int)))) (d true w) (nn (some ⟨g,0,none⟩) λa7=>cy w (aY a7 0) λs8=>(d (decide (i5≥((s8.n:Nat):Int))) w))) λe b=>an e (k false b) (C (aF .i64 (i+(1:Int))) b):=by
 refine uZ hp (QI ?_);obtain⟨R,ho,hc⟩:=a.out;obtain⟨sl,l,hl,h3⟩:=S5 (ho h);have hlen:=(pg (sz:=3) (s:=sl) h3).2 af;have j:T.length=l.length:=by rw[←hl];simp
 simp only[List.length_map]at hlen;refine ax (λhb=> ?_) λhb=> ?_
 ·have hb:s<0:=by simpa using hb
  exact bK rfl (h1 (by simp[Bb];omega))
 ·have hb:¬s<0:=by simpa using hb
  refine bc (aS h3 rfl ?_);refine ax (λc=> ?_) λc=> ?_
  ·have c:s≥((sl.n:Nat):Int):=of_decide_eq_true c;exact h1 (by simp[Bb];omega)
  ·have c:¬s≥((sl.n:Nat):Int):=of_decide_eq_false c;exact h2 (by simp[Bb];omega)
def ann{k:Bool→ap}(h:St w0 w L)[a:At L (Da g) T f][a':At L (au ga) [.int .i64 s] f'](hk:k (Bb T s) w):dG (some ⟨g,0,none⟩) ⟨some ⟨ga,0,none⟩,1,1⟩ w k:=by
 unfold dG;refine⟨2,?_⟩;unfold jV;have hb:=h.au (g:=ga);refine bK rfl ⟨⟨af,by show(0:Int)<1;decide⟩,VS h (by rw[dg,hb.cell];rfl) (λe=> ?_) λe=> ?_⟩
 ·rw[e]at hk;exact hk
 ·rw[e]at hk;unfold jV;exact aU rfl hk
def atg{t:Int}{k:Bool→ap}(h:St w0 w L)[a:At L (Da g) T f][a':At L (au ga) [.int .i64 s,.int .i64 t] f'](hk:k (Bb T s&&Bb T t) w):dG (some ⟨g,0,none⟩) ⟨some ⟨ga,0,none⟩,2,2⟩ w k:=by
 unfold dG;refine⟨3,?_⟩;unfold jV;have hb:=h.au (g:=ga);refine bK rfl ⟨⟨af,by show(0:Int)<2;decide⟩,VS h (by rw[dg,hb.cell];rfl) (λe=> ?_) λe=> ?_⟩
 ·rw[e]at hk;exact hk
 ·rw[e,Bool.true_and]at hk;unfold jV;refine bK rfl ⟨⟨e7,by show(1:Int)<2;decide⟩,VS h (by rw[dg,hb.cell];rfl) (λe=> ?_) λe=> ?_⟩
  ·rw[e]at hk;exact hk
  ·rw[e]at hk;unfold jV;exact aU rfl hk
def GV(T:List Kt)(x:Int):Option Kt:=if 0≤x then T[x.toNat]? else none
def xP{x:Kt}(h:GV T s=some x):Bb T s=true∧0≤s∧T[s.toNat]?=some x:=by
 unfold GV at h;split at h
 ·have:=(kB.1 h).1;exact⟨by simp[Bb];omega,af,h⟩
 ·cases h
def acH(h:Bb T s=true):∃x,GV T s=some x:=by
 unfold Bb at h;simp only[decide_eq_true_eq]at h;exact⟨T[s.toNat]' af,by unfold GV;rw[if_pos h.1,iH]⟩
def map_fst{l:List (Kt×Sl)}{i:Nat}{x:Kt}(hl:l.map (·.1)=T)(h:T[i]?=some x):∃s,l[i]?=some (x,s):=by
 rw[←hl,l8]at h;cases a:l[i]? with
 |none=>rw[a]at h;cases h
 |some p=>rw[a]at h;simp at h;exact⟨p.2,by rw[←h]⟩
def ath{x:Kt}{c:Int→Prop}(h:St w0 w L)[a:At L (Da g) T f](hs:GV T s=some x)(hc:c x.parent):
  cy w (aY ⟨g,0,none⟩ 0) λb=>cN b s 3 λa5=>aJ .i64 w (aY a5 0) c:=by
 obtain⟨R,ho,hb⟩:=a.out;obtain⟨sl,l,hl,h2⟩:=S5 (ho h);obtain⟨_,h0,h1⟩:=xP hs;obtain⟨d,hi⟩:=map_fst hl h1;exact aS h2 rfl (rI h2 h0 (by rw[l8,hi];rfl) rfl hc)
def acI(T:List Kt):Prop:=∀(i:Nat) (x:Kt),T[i]?=some x→ -1≤x.parent∧x.parent<i∧(x.parent= -1→i=0)
def kup(T:List Kt)(y:Int):Nat→Int→Int
 |0,x=>x
 |n+1,x=>if x>y then(match GV T x with|some t=>kup T y n t.parent|none=>x)else x
def Sh(T:List Kt)(x y:Int):Bool:=Bb T x&&Bb T y&&(kup T y T.length x==y)
def acJ(hT:acI T){y:Int}(hy:0≤y){k:Bool→ap}:∀(n:Nat) (x:Int) (w:World),x<n→x<T.length→St w0 w L→[a:At L (Da g) T f]→k (kup T y n x==y) w→
  ∃m,jV (S:=Int) (λd i6 b=>an (decide (i6>y)) (nn (some (⟨g,0,none⟩:Addr)) λa8=>cy b (aY a8 0) λe=>cN e i6 3 λc=>aJ .i64 b (aY c 0) λi11=>(d i11 b)) (k (i6==y) b)) m x w
 |0,x,w,h0,_,h,_,hk=>by
  refine⟨1,?_⟩;unfold jV;have hk:k (x==y) w:=hk;exact aU (by simp;omega) hk
 |n+1,x,w,h0,hl,h,a,hk=>by
  unfold kup at hk;by_cases hx:x>y
  ·rw[if_pos hx]at hk;obtain⟨t,ht⟩:=acH (T:=T) (s:=x) (by simp[Bb];omega)
   rw[ht]at hk;obtain⟨_,hx0,hg⟩:=xP ht;have:=hT _ t hg;obtain⟨m,hm⟩:=acJ hT hy n t.parent w af af h hk;refine⟨m+1,?_⟩;unfold jV;exact bK (gq hx) (bc (ath h ht hm))
  ·rw[if_neg hx]at hk;refine⟨1,?_⟩;unfold jV;exact aU (gq hx) hk
def aai{k:Bool→ap}(h:St w0 w L)[a:At L (Da g) T f](hT:acI T)(hk:∀w',St w0 w' L→k (Sh T x y) w'):jQ (some ⟨g,0,none⟩) x y w k:=by
 unfold jQ zZ;refine aM h λga w h=>atg h ?_;have hk:=hk w h.drop;unfold Sh at hk;cases hb:Bb T x&&Bb T y with
 |false=>rw[hb]at hk;exact bK rfl hk
 |true=>
  rw[hb,Bool.true_and]at hk;simp only[iY,Bb,decide_eq_true_eq]at hb;exact aU rfl (acJ hT hb.2.1 T.length x w hb.1.2 hb.1.2 h hk)
def ao5{k:Option Addr→ap}(h:St w0 w L)(hk:∀g w',St w0 w' (Da g []::L)→k (some ⟨g,0,none⟩) w'):vj w k:=by
 unfold vj;refine aM h λg w h=>hk g w<|Y7 (s:=⟨none,0,0⟩) (l:=[]) rfl ?_;have h2:=h.DJ 3;have h3:St w0 w (rws 3 ⟨none,0,0⟩ (([]:List (Kt×Sl)).map oc)::au g [.slice none 0 0]::L):=St.YA (by intro e he;cases he) h2
 exact(QW h3).perm Hp
def elK:ET Tryz.prog 188 3 40 (.agg #[.int .i64 0,.int .i64 0,.slice none 0 0]):=⟨aZ,aZ⟩
def ati:ET Tryz.prog 69 1 8 (.int .i64 0):=⟨aZ,aZ⟩
def Hz(T:List Kt)(p:Int):List Kt:=match GV T p with
 |some t=>T.set p.toNat {t with kids:=t.kids++[(T.length:Int)]}++[⟨p,t.kids.length,[]⟩]
 |none=>T++[⟨p,0,[]⟩]
def axN{p:Int}{k:Int×Int→ap}(h:St w0 w L)[a:At L (Da g) T f](hp:(p= -1∧T=[])∨∃t,GV T p=some t∧t.kids.length≤1000000)(hT:T.length≤1000000)
  (hk:∀w',St w0 w' (f (Da g (Hz T p)))→k ((T.length:Nat),0) w'):pP (some ⟨g,0,none⟩) p w k:=by
 unfold pP Hy;refine aU rfl ?_;obtain⟨R,ho,hb⟩:=a.out;replace h:=ho h;refine bP (λb w=>b=false∧St w0 w (Da g T::R)) (λJ d=> ?_) ?_
 ·rcases hp with⟨rfl,rfl⟩|⟨t,ht,_⟩
  ·exact aU rfl (d _ _ ⟨rfl,h⟩)
  ·have hh:=xP ht;refine bK (by simp;omega) (aM h λga w h=>ann (T:=T) h (d _ _ ⟨by rw[hh.1];rfl,h.drop⟩))
 clear h;rintro _ w ⟨rfl,h0⟩;obtain⟨s,l,hl,h⟩:=S5 h0;clear h0;have hlen:=(pg (sz:=3) (s:=s) h).2 af;have m:T.length=l.length:=by rw[←hl];simp
 simp only[List.length_map]at hlen;refine aU rfl (bP (λb w'=>b=false∧w'=w) (λJ d=> ?_) ?_)
 ·rcases hp with⟨rfl,rfl⟩|⟨t,ht,_⟩
  ·refine bK rfl (bc (aS h rfl (d _ _ ⟨?_,rfl⟩)));rw[decide_eq_false_iff_not];simp only[List.length_nil]at m;show¬((s.n:Nat):Int)>0;omega
  ·have hh:=xP ht;exact aU (by simp;omega) (d _ _ ⟨rfl,rfl⟩)
 rintro _ _ ⟨rfl,rfl⟩;refine aU rfl<|zE λgx w h=> ?_;obtain⟨e,u⟩:∃n,n=gx:=⟨_,rfl⟩;subst u;refine bP (fun(_:Unit) w=> ∃(l':List (Kt×Sl)) (x:Kt),l'.map (·.1)++[x]=Hz T p∧l'.length=l.length∧x.kids=[]∧St w0 w (au e (oc (x,⟨none,0,0⟩))::au g [.slice s.a s.n s.c]::rws 3 s (l'.map oc)::jO zf l'::R)) (λJ d=> ?_) ?_
 ·rcases hp with⟨rfl,rfl⟩|⟨t,ht,q⟩
  ·refine aU rfl (d _ _ ⟨l,⟨-1,0,[]⟩,?_,rfl,rfl,h⟩);rw[hl];rfl
  ·obtain⟨_,h0,h1⟩:=xP ht;obtain⟨i,hi⟩:=map_fst hl h1;refine bK (by simp;omega) ?_
   have hrow:(l.map oc)[p.toNat]?=some (oc (t,i)):=by rw[l8,hi];rfl
   have j:=h.front 3 rfl;simp only[I7]at j;have h:St w0 w (bG 1 i (ints t.kids)::jO zf (l.eraseIdx p.toNat)::au e _::au g _::rws 3 s (l.map oc)::R):=BW j hi;have v:=qY (s:=i) h;refine n8 ?_;refine rix (s:=s) h h0 hrow af λg' o hr hs=>IY (by rw[dg];exact hr h hrow 2 _ rfl) ?_
   refine pS λw h=> ?_;refine IY (by rw[dg];exact hr h hrow 2 _ rfl) ?_
   refine zE λgx w h=> ?_;refine I9 h ati aZ rfl (gq q) af λs' w h hn=> ?_
   rw[dg];refine hs h inferInstance hrow 2 _ _ af rfl λw h=> ?_;have h:=h.rm 0 rfl;refine d _ _ ⟨l.set p.toNat ({t with kids:=t.kids++[(T.length:Int)]},s'),⟨p,t.kids.length,[]⟩,?_,bf,rfl,?_⟩
   ·unfold Hz;rw[ht];simp[List.map_set,hl]
   ·have e1:(l.map oc).set p.toNat ((oc (t,i)).set 2 (.slice s'.a s'.n s'.c))=(l.set p.toNat ({t with kids:=t.kids++[(T.length:Int)]},s')).map oc:=by
     rw[List.map_set];rfl
    have y:((s.n:Nat):Int)=T.length:=af;have h:St w0 w (zf ({t with kids:=t.kids++[(T.length:Int)]},s')::jO zf (l.eraseIdx p.toNat)::au e (oc (⟨p,t.kids.length,[]⟩,⟨none,0,0⟩))::au g [.slice s.a s.n s.c]::rws 3 s ((l.set p.toNat ({t with kids:=t.kids++[(T.length:Int)]},s')).map oc)::R):=by
     rw[←e1];have e2:ints (t.kids++[(T.length:Int)])=ints t.kids++[.int .i64 ((s.n:Nat):Int)]:=by rw[y];simp[ints]
     unfold zf;simp only[e2];have z:((i.n:Nat):Int)=(t.kids.length:Nat):=by simp[ints]at v;omega
     unfold oc;simp only[←z];exact h
    exact(WY h (kB.1 hi).1).perm Hp
 rintro _ w ⟨l',x,hl',A,r,h⟩;refine pS λw h=> ?_;refine Jw rfl rfl<|zE λgx w h=> ?_;refine Z8 (s:=s) h elK aZ rfl af (by simp[oc,Value.oneCell']) (by simp;omega) af λs' w h hn=> ?_
 refine pS λw h=> ?_;have h:=(h.rm 0 rfl).rm 0 rfl;rw[show((s.n:Nat):Int)=T.length by omega]
 refine hk w (hb (Y7 (s:=s') (l:=l'++[(x,⟨none,0,0⟩)]) (gq hl') ?_))
 have h2:St w0 w (zf (x,⟨none,0,0⟩)::au g [.slice s'.a s'.n s'.c]::rws 3 s' (l'.map oc++[oc (x,⟨none,0,0⟩)])::jO zf l'::R):=by
  have:=h.DJ 1;unfold zf;rw[r];exact this
 have h3:=QV (h2.perm (M:=zf (x,⟨none,0,0⟩)::jO zf l'::au g [.slice s'.a s'.n s'.c]::rws 3 s' (l'.map oc++[oc (x,⟨none,0,0⟩)])::R) Hp);rw[List.map_append];exact h3.perm Hp
end
variable{c:Value→ap}{Y:Nat→bt}
def My{n:Nat}{d:(Nat→bt)→bt}{args:List Value}(h:d Y args w c):Df [(n,d)] n Y args w c:=by
 unfold Df;rw[Nat.beq_refl];exact h
variable{l:List (Int×Int)}
section
variable{L R:List HP}{T:List Kt}
abbrev bwI:List (Nat×((Nat→bt)→bt)):=[(jh,ji)]
abbrev allI:List (Nat×((Nat→bt)→bt)):=[(m3,m4)]
def atj{v:Value}{a:Addr}(h:om Y v a w λr w=>c (.tuple #[]) w):ji Y [v,.pointer (some a)] w c:=h
def ao6{v:Value}{a:Addr}(h:Cl Y v a w λr w=>c (.tuple #[]) w):m4 Y [v,.pointer (some a)] w c:=h
def aiN{G:List Int→HP}{s:Sl}{xs:List Int}{body:Int×Int→World→(ap)→Prop}{fin:Nat→ap}(h:St w0 w (G []::bG 1 s (ints xs)::R))(hx:xs.length≤1000000)
  (hb:∀(zs:List Int) (i x:Int) (w1:World) (j:List HP) (C:ap),(∃ys,xs=ys++x::zs)→St w0 w1 (G zs::j)→(∀w2,St w0 w2 (G (x::zs)::j)→C w2)→body (i,x) w1 C)
  (hf:∀D w',St w0 w' (obj D (.deferred (some []))::G xs::bG 1 s (ints xs)::R)→fin D w'):
  dw s w λv w=>Cg (Df bwI) [.i .i64,.i .i64] v w body fin:=by
 unfold dw;have l:s.n=xs.length:=by have:=qY (s:=s) h;simpa using this
 refine aM h λk w h=>S1 h λlr D b w h=>My (atj ?_);unfold om qv;refine n8 ?_;have e0:aF .i64 (((s.n:Nat):Int) - 1)=((xs.length:Nat):Int) - 1:=by rw[l,kg ⟨af,af⟩]
 refine⟨xs.length+1,?_⟩;show jV _ _ (aF .i64 (((s.n:Nat):Int) - 1)) _;rw[e0];have key:∀(m:Nat) (w:World),m≤xs.length→St w0 w (obj lr (b .ready)::obj D (.deferred (some []))::au k #[Value.slice s.a s.n s.c].toList::G (xs.drop m)::bG 1 s (ints xs)::R)→
   jV (λo i3 d=>an (decide (i3≥(0:Int))) (cy d ⟨k,0,none⟩ λp=>cN p i3 1 λa6=>aJ .i64 d a6 λi7=>nj (J0 [] (rY lr b [.i .i64,.i .i64] body)) (.func (.yield lr) #[] #[]) #[(.int .i64 i3),(.int .i64 i7)] d λq e=>Ir q λf=>
    an (!f) (e.heap[lr]?=some (b .ready)∧fin D (e.putObj lr (b .exhausted))) (o (aF .i64 (i3 - (1:Int))) e)) (d.heap[lr]?=some (b .ready)∧fin D (d.putObj lr (b .exhausted)))) (m+1) ((m:Int) - 1) w:=by
  intro m;induction m with
  |zero=>
   intro w _ h;unfold jV;refine aU e7<|ace h λw h=>hf D w ?_;have h:=(h.rm 2 rfl).rm 0 rfl;simpa using h
  |succ m ih=>
   intro w hm h;have hlt:m<xs.length:=af;have hd:xs.drop m=xs[m]::xs.drop (m+1):=List.drop_eq_getElem_cons hlt;unfold jV;refine bK bf<|n8 ?_;have r:(((m+1:Nat):Int) - 1)=(m:Int):=af;rw[r];refine vI h af (x:=xs[m]) (by simp[ints,hlt]) ?_
   refine QS<|amZ ((m:Int),xs[m]) (λc hc=>hc) h λw h=> ?_;have h:=h.front 3 rfl;simp only[I7]at h;refine hb (xs.drop (m+1)) m xs[m] w _ _ ⟨xs.take m,?_⟩ h λw h=> ?_
   ·rw[←hd,List.take_append_drop]
   refine⟨DM h,?_⟩;replace h:=AV (g:=lr) (b .ready) h;generalize w.putObj lr (b .ready)=w at h ⊢;refine ags<|n8 ?_;rw[kg ⟨af,af⟩];refine ih w af ?_;rw[hd];exact h.perm Hp
 exact key xs.length w (iw _) (gq h)
inductive Dfs (T:List Kt):List Int→List (Int×Int)→Prop
 |nil:Dfs T [] []
 |cons {x:Int} {t:Kt} {st:List Int} {l:List (Int×Int)}:GV T x=some t→Dfs T (t.kids++st) l→Dfs T (x::st) ((x,t.parent)::l)
def Dfs.len{st:List Int}(h:Dfs T st l):st.length≤l.length:=by
 induction h with
 |nil=>simp
 |cons _ _ ih=>simp only[uv,List.length_cons]at*;omega
def atk{G:List (Int×Int)→HP}{body:Int×Int→World→(ap)→Prop}{fin:Nat→ap}(h:St w0 w (G []::Da g T::R))(hT:∀(i:Nat) (x:Kt),T[i]?=some x→x.kids.length≤1000000)(hl:l.length≤100000)
  (hD:if T.length=0 then l=[]else Dfs T [0] l)
  (hb:∀(done rest:List (Int×Int)) (p:Int×Int) (w1:World) (y:List HP) (C:ap),l=done++p::rest→St w0 w1 (G done::y)→(∀w2,St w0 w2 (G (done++[p])::y)→C w2)→body p w1 C)
  (hf:∀D w',St w0 w' (obj D (.deferred (some []))::G l::Da g T::R)→fin D w'):
  iX (some ⟨g,0,none⟩) w λv w=>Cg (Df allI) [.i .i64,.i .i64] v w body fin:=by
 unfold iX;refine aM h λga w h=> ?_;refine S1 h λlr D b w h=> ?_;refine My (ao6 (v:= .func (.yield lr) #[] #[]) (a:=⟨ga,0,none⟩) ?_);unfold Cl EF;refine zE λgx w h=> ?_;refine ann (g:=g) (T:=T) h ?_;by_cases f:T.length=0
 ·rw[if_pos f]at hD;subst hD;refine bK (by simp[Bb,f]) ?_
  refine ace (g:=lr) (o:=b .ready) (o':=b .exhausted) (c:=fin D) h λw h=>hf D w ?_;exact((h.rm 0 rfl).rm 2 rfl).rm 0 rfl
 rw[if_neg f]at hD;refine aU (by simp[Bb];omega) ?_
 have h:=h.rm 0 rfl;simp only[I7]at h;refine aM h λI w h=>aM h λgl w h=> ?_;refine pS λw h=> ?_;have h:=h.front 1 rfl;simp only[I7]at h;have h:=St.asS (g:=I) (n:=1) (sz:=1) (cs:=[.int .i64 0]) h (by rfl) af (by intro x hx;simp at hx;subst hx;rfl)
 have h:=QR h;refine DN (G:=List (Int×Int)×List Int×List (Int×Int)×Sl) (λq x w=>l=q.2.2.1++q.1∧Dfs T q.2.1 q.1∧
   St w0 w (I6 x.2::bG 1 q.2.2.2 (ints q.2.1.reverse)::au gl [.slice q.2.2.2.a q.2.2.2.n q.2.2.2.c]::obj lr (b .ready)::obj D (.deferred (some []))::au ga [Value.pointer (some ⟨g,0,none⟩)]::G q.2.2.1::Da g T::R)) (λq=>q.1.length)
  (g:=(l,[0],[],⟨some ⟨I,0,none⟩,1,1⟩)) ⟨rfl,hD,h⟩ ?_
 rintro⟨rest,st,done,s⟩ ⟨_,ds⟩ w ⟨hl',d,h⟩ C hC;dsimp only at hl' d h hC;have k:=qY (s:=s) (vs:=ints st.reverse) h;have k:s.n=st.length:=by simpa using k
 refine n8 ?_;have hlen:=d.len;have A:rest.length≤100000:=by rw[hl']at hl;simp at hl;omega
 cases d with
 |nil=>
  refine aU (by simp[k]) ?_
  refine LL h λw h=> ?_;rw[List.append_nil]at hl';subst hl';refine ace (g:=lr) (o:=b .ready) (o':=b .exhausted) (c:=fin D) h λw h=>hf D w ?_;exact(((h.rm 0 rfl).rm 0 rfl).rm 0 rfl).rm 1 rfl
 |@cons x t st rest hx d=>
  have k:s.n=st.length+1:=by simpa using k
  have m:=xP hx;simp only[List.length_cons]at hlen A;refine bK (by simp[k]) ?_
  refine n8 ?_;have e0:aF .i64 (((s.n:Nat):Int) - 1)=(st.length:Nat):=by rw[k,kg ⟨af,af⟩];omega
  show cN s (aF .i64 (((s.n:Nat):Int) - 1)) 1 _;rw[e0];refine vI (s:=s) (vs:=ints (x::st).reverse) h af (x:=x) (by simp[ints]) ?_
  refine n8 ?_;show Th s 1 0 (aF .i64 (((s.n:Nat):Int) - 1)) _;rw[e0];refine am1 (s:=s) (vs:=ints (x::st).reverse) h af (by simp;omega) λs2 O h=> ?_
  have e1:(ints (x::st).reverse).take ((st.length:Nat):Int).toNat=ints st.reverse:=by
   rw[iZ,show ints (x::st).reverse=ints st.reverse++[.int .i64 x] by simp[ints],List.take_append_of_le_length bf,List.take_of_length_le (by simp[ints])]
  rw[e1]at h;refine pS λw h=> ?_;refine ath (T:=T) h hx ?_;refine QS ?_;refine amZ (l:=lr) (R:=b) (kk:=[.i .i64,.i .i64]) (x,t.parent) (λc hc=>hc) h λw h=> ?_;have h:=h.front 6 rfl;simp only[I7]at h;refine hb done rest (x,t.parent) w _ _ hl' h λw h=> ?_;refine⟨DM (g:=lr) (o:=b .busy) h,?_⟩;replace h:=AV (g:=lr) (o:=b .busy) (b .ready) h;generalize w.putObj lr (b .ready)=w at h ⊢;refine ags ?_;refine n8 ?_;have h:=h.front 7 rfl;simp only[I7]at h;obtain⟨sk,lk,hlk,h⟩:=S5 h;obtain⟨r,hi⟩:=map_fst hlk m.2.2;refine n8 ?_;refine rS (s:=sk) (sz:=3) (es:=lk.map oc) h m.2.1 (e:=oc (t,r)) (by rw[l8,hi];rfl) rfl ?_
  have h:=h.front 2 rfl;simp only[I7]at h;have h:St w0 w (bG 1 r (ints t.kids)::jO zf (lk.eraseIdx x.toNat)::au g [.slice sk.a sk.n sk.c]::rws 3 sk (lk.map oc)::G (done++[(x,t.parent)])::I6 ds::bG 1 s2 (ints st.reverse)::au gl [.slice s2.a s2.n s2.c]::obj lr (b .ready)::obj D (.deferred (some []))::au ga [Value.pointer (some ⟨g,0,none⟩)]::R):=BW h hi;have B:=hT _ t m.2.2;refine aiN (w0:=w0) (G:=λzs=>Gt λq:Sl=>l9 [bG 1 q (ints (st.reverse++zs.reverse)),au gl [.slice q.a q.n q.c]]) (s:=r) (xs:=t.kids) (R:=jO zf (lk.eraseIdx x.toNat)::au g [.slice sk.a sk.n sk.c]::rws 3 sk (lk.map oc)::G (done++[(x,t.parent)])::I6 ds::obj lr (b .ready)::obj D (.deferred (some []))::au ga [Value.pointer (some ⟨g,0,none⟩)]::R)
   ?_ B (λzs i z w1 y P hz h J=> ?_) λu w h=> ?_
  ·refine St.ex (X:=λq:Sl=>l9 [bG 1 q (ints (st.reverse++([]:List Int).reverse)),au gl [.slice q.a q.n q.c]]) s2 (St.shut ?_);simp only[List.reverse_nil,List.append_nil];exact h.perm Hp
  ·obtain⟨q,h⟩:=St.some h;have h:=St.open h;simp only[List.cons_append,List.nil_append]at h;refine zE λgx w h=> ?_;have F:=d.len;simp only[uv]at F;obtain⟨ys,hys⟩:=hz;have K:zs.length≤t.kids.length:=by rw[hys];simp;omega
   refine I9 (s:=q) (vs:=ints (st.reverse++zs.reverse)) h ati aZ rfl (by simp;omega) af λs' w h hn=> ?_
   refine pS λw h=> ?_;have h:=h.rm 0 rfl;refine J w (St.ex (X:=λq:Sl=>l9 [bG 1 q (ints (st.reverse++(z::zs).reverse)),au gl [.slice q.a q.n q.c]]) s' (St.shut ?_));have L:ints (st.reverse++(z::zs).reverse)=ints (st.reverse++zs.reverse)++[.int .i64 z]:=by simp[ints]
   rw[L];exact h
  ·have h:=h.front 1 rfl;simp only[I7]at h;obtain⟨q,h⟩:=St.some h;have h:=St.open h;simp only[List.cons_append,List.nil_append]at h;have N:ints (st.reverse++t.kids.reverse)=ints (t.kids++st).reverse:=by simp
   rw[N]at h;refine hC (rest,t.kids++st,done++[(x,t.parent)],q) ((),u::ds) w ⟨by rw[hl'];simp,d,?_⟩ bf
   have h:=h.perm (M:=obj u (.deferred (some []))::I6 ds::zf (t,r)::jO zf (lk.eraseIdx x.toNat)::au g [.slice sk.a sk.n sk.c]::rws 3 sk (lk.map oc)::bG 1 q (ints (t.kids++st).reverse)::au gl [.slice q.a q.n q.c]::obj lr (b .ready)::obj D (.deferred (some []))::au ga [Value.pointer (some ⟨g,0,none⟩)]::G (done++[(x,t.parent)])::R) (by unfold zf;exact Hp)
   have h:=LK h;have h:=h.perm (M:=zf (t,r)::jO zf (lk.eraseIdx x.toNat)::au g [.slice sk.a sk.n sk.c]::rws 3 sk (lk.map oc)::I6 (u::ds)::bG 1 q (ints (t.kids++st).reverse)::au gl [.slice q.a q.n q.c]::obj lr (b .ready)::obj D (.deferred (some []))::au ga [Value.pointer (some ⟨g,0,none⟩)]::G (done++[(x,t.parent)])::R) Hp;have h:=WY h (kB.1 hi).1;have H:lk.set x.toNat (t,r)=lk:=by
    apply List.ext_getElem?;intro j;by_cases hj:x.toNat=j
    ·subst hj;rw[uO (kB.1 hi).1,hi]
    ·rw[r0 hj]
   rw[H]at h;have h:=Y7 hlk (h.perm (M:=au g [.slice sk.a sk.n sk.c]::rws 3 sk (lk.map oc)::jO zf lk::I6 (u::ds)::bG 1 q (ints (t.kids++st).reverse)::au gl [.slice q.a q.n q.c]::obj lr (b .ready)::obj D (.deferred (some []))::au ga [Value.pointer (some ⟨g,0,none⟩)]::G (done++[(x,t.parent)])::R) Hp);exact h.perm Hp
def aiO{k:Sl→ap}(h:St w0 w L)[a:At L (Da g) T f](hT:∀(i:Nat) (x:Kt),T[i]?=some x→x.kids.length≤1000000)(hl:l.length≤100000)
  (hD:if T.length=0 then l=[]else Dfs T [0] l) (hk:∀s w',St w0 w' (bG 1 s (ints (l.map (·.1)))::f (Da g T))→k s w'):fK (some ⟨g,0,none⟩) w k:=by
 unfold fK EG;obtain⟨R,ho,hb⟩:=a.split;have h:=h.arE ho;refine aM h λg1 w h=> ?_;have h:=(h.DJ 1).perm Hp;refine atk (w0:=w0) (G:=λdone=>Gt λq:Sl=>l9 [bG 1 q (ints (done.map (·.1))),au g1 [.slice q.a q.n q.c]]) (R:=R) ?_ hT hl hD (λdone rest p w e C hd h hc=> ?_) λD w h=> ?_
 ·exact St.ex ⟨none,0,0⟩ (St.shut h)
 ·obtain⟨q,h⟩:=St.some h;have h:=St.open h;simp only[List.cons_append,List.nil_append]at h;refine zE λgx w h=> ?_;have b:done.length≤100000:=by rw[hd]at hl;simp at hl;omega
  refine I9 h ati aZ rfl (by simp;omega) af λs' w h hn=> ?_
  refine pS λw h=> ?_;have h:=h.rm 0 rfl;refine hc w (St.ex s' (St.shut ?_));have d:ints ((done++[p]).map (·.1))=ints (done.map (·.1))++[.int .i64 p.1]:=by simp[ints]
  rw[d];exact h
 ·have h:=h.front 1 rfl;simp only[I7]at h;obtain⟨q,h⟩:=St.some h;have h:=St.open h;simp only[List.cons_append,List.nil_append]at h;refine n8 ?_;have h:=LK ((QR h).perm Hp);refine LL h λw h=>hk q w ?_;exact(h.rm 1 rfl).under hb
end
structure bu where
 at_:Int
 most:Int
 b:Int
 t:Int
 ring:Rg
 x:Int
 won:Bool
 to:Rg
 copy:Option Cp
 next:Nat
 how:Int
 got:Int
 err:Int
def phs:List Nat:=[nR,r6,q4,sg,q6,q8,oE,q5,ox,r7,r8,sU,q7,sj,ql,pn,po,qF,pV,oF]
def phF(n:Nat):Value:= .func (.func (phs.getD n oF)) #[] #[]
def bu.cells(O:bu)(p:Option Addr):List Value:=[.int .i64 O.at_,.int .i64 O.most,.int .i64 O.b,.int .i64 O.t,.int .i64 O.ring.At,.int .i64 O.ring.DA,.int .i64 O.x,.bool O.won,.int .i64 O.to.At,.int .i64 O.to.DA,.pointer p,phF O.next,.int .i64 O.how,.int .i64 O.got,.int .i64 O.err]
def uh(g:Nat)(O:bu):HP:=match O.copy with
 |none=>au g (O.cells none)
 |some c=>Gt λgc:Nat=>l9 [au g (O.cells (some ⟨gc,0,none⟩)),Qm gc c]
def bu.read(O:bu)(M:bJ)(wk:Int):bu×bJ×Int:=
 if M.can wk (O.at_+2)then(if (Rg.of (M.get (O.at_+2))).right then({O with ring:=Rg.of (M.get (O.at_+2))},M.tick wk,0)else({O with ring:=Rg.zero},M.tick wk,11))else(O,M,10)
abbrev ID:=bu×bJ×Int×Int
section
variable(O:bu)(M:bJ)(wk:Int)
def bu.f0:ID:=({O with b:=(M.ld wk (O.at_+1)).2.1,next:=1},(M.ld wk (O.at_+1)).1,0,(M.ld wk (O.at_+1)).2.2)
def bu.f1:ID:=({O with t:=(M.ld wk O.at_).2.1,next:=2},(M.ld wk O.at_).1,0,(M.ld wk O.at_).2.2)
def bu.f2:ID:=if (O.read M wk).2.2 !=0 then((O.read M wk).1,(O.read M wk).2.1,6,(O.read M wk).2.2)
  else if decide (wr ((O.read M wk).1.b - (O.read M wk).1.t)<(O.read M wk).1.ring.size)then({(O.read M wk).1 with next:=6},(O.read M wk).2.1,0,0)
  else if decide ((O.read M wk).1.ring.DA≥(O.read M wk).1.most)then((O.read M wk).1,(O.read M wk).2.1,4,0)
  else({(O.read M wk).1 with next:=3},(O.read M wk).2.1,0,0)
def bu.lg:Int:=wr (O.ring.DA+1)
def bu.Mz:Rg:=⟨(M.cells.length:Nat),O.lg⟩
def bu.MA:Int:=((2 ^ O.lg.toNat:Nat):Int)
def bu.f3:ID:=if 0≤O.lg∧O.lg≤8∧M.caller wk=true then
   (if M.room O.MA then
    (if Sf O.ring (O.Mz M) O.t O.b=0 then({O with to:=O.Mz M,copy:=some (Cp.begin O.ring (O.Mz M) O.t O.b),next:=4},(M.tick wk).grow O.MA,0,0)
    else({O with to:=O.Mz M,copy:=none,next:=4},(M.tick wk).grow O.MA,0,Sf O.ring (O.Mz M) O.t O.b))
   else(O,M,6,21))
  else(O,M,6,10)
def bu.f4(c:Cp):ID:=if c.at_=c.j2 then({O with next:=5},M,0,0)
   else if M.can wk c.spot then
    (if c.Cm then({O with copy:=some (c.next 0),next:=if (c.next 0).at_=c.j2 then 5 else O.next},(M.tick wk).put c.spot c.has,0,0)
    else({O with copy:=some (c.next (M.get c.spot))},M.tick wk,0,0))
   else(O,M,0,10)
def bu.f5:ID:=({O with ring:=O.to,next:=6},(M.st wk (O.at_+2) O.to.word).1,0,(M.st wk (O.at_+2) O.to.word).2)
def bu.f6:ID:=({O with next:=7},(M.st wk (O.ring.place O.b) O.x).1,0,(M.st wk (O.ring.place O.b) O.x).2)
def bu.f7:ID:=(O,(M.st wk (O.at_+1) (wr (O.b+1))).1,1,(M.st wk (O.at_+1) (wr (O.b+1))).2)
def bu.f8:ID:=({O with b:=(M.ld wk (O.at_+1)).2.1,next:=9},(M.ld wk (O.at_+1)).1,0,(M.ld wk (O.at_+1)).2.2)
def bu.f9:ID:=((bu.read {O with next:=10} M wk).1,(bu.read {O with next:=10} M wk).2.1,0,(bu.read {O with next:=10} M wk).2.2)
def bu.f10:ID:=({O with next:=11},(M.st wk (O.at_+1) (wr (O.b - 1))).1,0,(M.st wk (O.at_+1) (wr (O.b - 1))).2)
def bu.f11:ID:=({O with t:=(M.ld wk O.at_).2.1,next:=if decide ((M.ld wk O.at_).2.1>wr (O.b - 1))then 14 else 12},(M.ld wk O.at_).1,0,(M.ld wk O.at_).2.2)
def bu.f12:ID:=({O with got:=(M.ld wk (O.ring.place (wr (O.b - 1)))).2.1,next:=13},(M.ld wk (O.ring.place (wr (O.b - 1)))).1,if decide (O.t<wr (O.b - 1))then 1 else 0,(M.ld wk (O.ring.place (wr (O.b - 1)))).2.2)
def bu.f13:ID:=({O with won:=(M.VQ wk O.at_ O.t (wr (O.t+1))).2.1,next:=14},(M.VQ wk O.at_ O.t (wr (O.t+1))).1,0,(M.VQ wk O.at_ O.t (wr (O.t+1))).2.2)
def bu.f14:ID:=(O,(M.st wk (O.at_+1) O.b).1,if O.won then 1 else 3,(M.st wk (O.at_+1) O.b).2)
def bu.f15:ID:=({O with t:=(M.ld wk O.at_).2.1,next:=16},(M.ld wk O.at_).1,0,(M.ld wk O.at_).2.2)
def bu.f16:ID:=({O with b:=(M.ld wk (O.at_+1)).2.1,next:=17},(M.ld wk (O.at_+1)).1,if decide (O.t≥(M.ld wk (O.at_+1)).2.1)then 3 else 0,(M.ld wk (O.at_+1)).2.2)
def bu.f17:ID:=((bu.read {O with next:=18} M wk).1,(bu.read {O with next:=18} M wk).2.1,0,(bu.read {O with next:=18} M wk).2.2)
def bu.f18:ID:=({O with got:=(M.ld wk (O.ring.place O.t)).2.1,next:=19},(M.ld wk (O.ring.place O.t)).1,2,(M.ld wk (O.ring.place O.t)).2.2)
def bu.f19:ID:=(O,(M.VQ wk O.at_ O.t (wr (O.t+1))).1,if !(M.VQ wk O.at_ O.t (wr (O.t+1))).2.1 then 5 else 1,(M.VQ wk O.at_ O.t (wr (O.t+1))).2.2)
def bu.run:ID:=match O.next with
 |0=>O.f0 M wk
 |1=>O.f1 M wk
 |2=>O.f2 M wk
 |3=>O.f3 M wk
 |4=>match O.copy with
  |none=>(O,M,0,2)
  |some c=>O.f4 M wk c
 |5=>O.f5 M wk
 |6=>O.f6 M wk
 |7=>O.f7 M wk
 |8=>O.f8 M wk
 |9=>O.f9 M wk
 |10=>O.f10 M wk
 |11=>O.f11 M wk
 |12=>O.f12 M wk
 |13=>O.f13 M wk
 |14=>O.f14 M wk
 |15=>O.f15 M wk
 |16=>O.f16 M wk
 |17=>O.f17 M wk
 |18=>O.f18 M wk
 |_=>O.f19 M wk
end
def bu.live(O:bu):Bool:=(O.how==0)||(O.how==2)
def bu.step(O:bu)(M:bJ)(wk:Int):bu×bJ:=
 if O.live then({(O.run M wk).1 with how:=if (O.run M wk).2.2.2=0 then(O.run M wk).2.2.1 else 6,err:=(O.run M wk).2.2.2},(O.run M wk).2.1)else(O,M)
variable{most:Int}
section
variable{L R:List HP}{gm go:Nat}{O:bu}{p:Option Addr}
def xH(x:Int):Prop:=0≤x∧x≤1048576
def Y9(h:St w0 w L)(hk:∀w',St w0 w' L→k at_ w'):bj #[.int .i64 at_,.int .i64 most] w k:=by
 unfold bj;exact aM h λg w' h=>cr h rfl (hk w' h.drop)
def AZ(hA:xH at_)(h:St w0 w L)(hk:∀w',St w0 w' L→k (at_+1) w'):az #[.int .i64 at_,.int .i64 most] w k:=by
 unfold az;unfold xH at hA;refine aM h λg w' h=>cr h rfl ?_;rw[kg ⟨af,af⟩];exact hk w' h.drop
def XU(hA:xH at_)(h:St w0 w L)(hk:∀w',St w0 w' L→k (at_+2) w'):bS #[.int .i64 at_,.int .i64 most] w k:=by
 unfold bS;unfold xH at hA;refine aM h λg w' h=>cr h rfl ?_;rw[kg ⟨af,af⟩];exact hk w' h.drop
def GW{cs:List Value}{off:Nat}{nx:Value}{k:Int×Int→ap}(h:St w0 w (au go cs::bH gm M::R))(ho:off<cs.length)(hn:11<cs.length)(hx:nx.oneCell'=true)
  (hk:∀w',St w0 w' (au go ((cs.set off (.int .i64 (M.ld wk a').2.1)).set 11 nx)::bH gm (M.ld wk a').1::R)→k (0,(M.ld wk a').2.2) w'):be (some ⟨go,0,none⟩) (some ⟨gm,0,none⟩) wk a' (some ⟨go,off,none⟩) nx w k:=by
 unfold be FH;refine aa8 h λw2 h=>bc (j4 h rfl ho λb h=>bc ?_);refine j4 h hx (gq hn) λa h=>hk a h
def Za{cs:List Value}{nx:Value}{k:Int×Int→ap}(h:St w0 w (au go cs::bH gm M::R))(hn:11<cs.length)(hx:nx.oneCell'=true)
  (hk:∀w',St w0 w' (au go (cs.set 11 nx)::bH gm (M.st wk a' x).1::R)→k (0,(M.st wk a' x).2) w'):dm (some ⟨go,0,none⟩) (some ⟨gm,0,none⟩) wk a' x nx w k:=by
 unfold dm El;refine bc (j4 h hx hn λw2 h=> ?_);exact Sg h λa h=>hk a h
def ag0(hA:xH O.at_)(h:St w0 w (au go (O.cells p)::bH gm M::R))(hk:∀w',St w0 w' (au go ((O.read M wk).1.cells p)::bH gm (O.read M wk).2.1::R)→k (O.read M wk).2.2 w'):dV (some ⟨go,0,none⟩) (some ⟨gm,0,none⟩) wk w k:=by
 unfold dV FJ;refine bc (qM h (by simp[bu.cells]) ?_)
 refine XU hA h λb h=> ?_;unfold bu.read at hk;refine agW h (λhc c h=> ?_) λhc=> ?_
 ·rw[if_pos hc]at hk;refine aU rfl (az8 h λd h=> ?_);cases hr:(Rg.of (M.get (O.at_+2))).right with
  |true=>
   rw[if_pos hr]at hk;rw[if_pos rfl];refine bc (Yz (g:=go) h rfl (by simp[bu.cells]) (by intro v hv;simp[Rg.ag]at hv;rcases hv with rfl|rfl<;>rfl) λa h=>hk a h)
  |false=>
   rw[if_neg (by rw[hr];simp)]at hk
   rw[if_neg bf];refine bc (Yz (g:=go) h rfl (by simp[bu.cells]) (by intro v hv;simp[Rg.ag,Rg.zero]at hv;rw[hv];rfl) λa h=>hk a h)
 ·rw[if_neg (by rw[hc];simp)]at hk
  exact bK rfl (hk b h)
end
section
variable{L R:List HP}{gm go:Nat}{O:bu}{p:Option Addr}{k:Int×Int→ap}
abbrev Ov(w0:World)(go gm:Nat)(p:Option Addr)(R:List HP)(k:Int×Int→ap)(r:ID):Prop:=∀w',St w0 w' (au go (r.1.cells p)::bH gm r.2.1::R)→k (r.2.2.1,r.2.2.2) w'
def p0(hA:xH O.at_)(h:St w0 w (au go (O.cells p)::bH gm M::R))(hk:Ov w0 go gm p R k (O.f0 M wk)):ff (some ⟨go,0,none⟩) (some ⟨gm,0,none⟩) wk w k:=by
 unfold ff wu;refine cH h λw1 h=>bc (qM h (by simp[bu.cells]) (bc ?_))
 refine AZ hA h λb h=>GW h (by simp[bu.cells]) (by simp[bu.cells]) rfl λa h=>hk a h
def p1(hA:xH O.at_)(h:St w0 w (au go (O.cells p)::bH gm M::R))(hk:Ov w0 go gm p R k (O.f1 M wk)):iJ (some ⟨go,0,none⟩) (some ⟨gm,0,none⟩) wk w k:=by
 unfold iJ Bo;refine cH h λw1 h=>bc (qM h (by simp[bu.cells]) (bc ?_))
 refine Y9 h λb h=>GW h (by simp[bu.cells]) (by simp[bu.cells]) rfl λa h=>hk a h
def p2(hA:xH O.at_)(h:St w0 w (au go (O.cells p)::bH gm M::R))(hk:Ov w0 go gm p R k (O.f2 M wk)):gO (some ⟨go,0,none⟩) (some ⟨gm,0,none⟩) wk w k:=by
 unfold gO zO;refine ag0 hA h λw2 h=> ?_;unfold bu.f2 at hk;generalize O.read M wk=r at h hk;refine ax (λhb=> ?_) λhb=> ?_
 ·rw[if_pos hb]at hk;exact hk w2 h
 ·rw[if_neg (by rw[hb];simp)]at hk
  refine cH h λw3 h=>bc (cr (g:=go) h rfl (bc (cr (g:=go) h rfl (bc (qM (g:=go) h (by simp[bu.cells]) ?_)))))
  have h3:=h;refine XT h λe h=>eD (g:=go) h3 h (eD (g:=go) h3 h ?_);refine ax (λhb=> ?_) λhb=> ?_
  ·have hb':decide (wr (r.1.b - r.1.t)<r.1.ring.size)=true:=hb;rw[if_pos hb']at hk;exact bc (j4 h rfl (by simp[bu.cells]) λa h=>hk a h)
  ·have hb':decide (wr (r.1.b - r.1.t)<r.1.ring.size)=false:=hb;rw[if_neg (by rw[hb'];simp)]at hk
   refine cH h λc h=>bc (cr (g:=go) h rfl (bc (cr (g:=go) h rfl ?_)));refine ax (λhb=> ?_) λhb=> ?_
   ·rw[if_pos hb]at hk;exact hk c h
   ·rw[if_neg (by rw[hb];simp)]at hk
    exact bc (j4 h rfl (by simp[bu.cells]) λd h=>hk d h)
def p5(hA:xH O.at_)(h:St w0 w (au go (O.cells p)::bH gm M::R))(hk:Ov w0 go gm p R k (O.f5 M wk)):gP (some ⟨go,0,none⟩) (some ⟨gm,0,none⟩) wk w k:=by
 unfold gP zQ;refine bc (qM h (by simp[bu.cells]) (bc ?_))
 refine Yz (g:=go) h rfl (by simp[bu.cells]) (by intro v hv;simp[bu.cells]at hv;rcases hv with rfl|rfl<;>rfl) λb h=> ?_
 have h:St w0 b (au go (bu.cells {O with ring:=O.to} p)::bH gm M::R):=h;refine cH h λe h=>bc (qM h (by simp[bu.cells]) (bc (qM (g:=go) h (by simp[bu.cells]) ?_)))
 have h5:=h;refine XU hA h λc h=>eD (g:=go) h5 h<|anj h λd h=>Za h (by simp[bu.cells]) rfl λa h=>hk a h
def p6(hA:xH O.at_)(h:St w0 w (au go (O.cells p)::bH gm M::R))(hk:Ov w0 go gm p R k (O.f6 M wk)):fQ (some ⟨go,0,none⟩) (some ⟨gm,0,none⟩) wk w k:=by
 unfold fQ yc;refine cH h λw1 h=>bc (qM (g:=go) h (by simp[bu.cells]) (bc (cr (g:=go) h rfl (bc (cr h rfl ?_)))))
 have h1:=h;refine Mx h λb h=>eD h1 h<|Za h (by simp[bu.cells]) rfl λa h=>hk a h
def p7(hA:xH O.at_)(h:St w0 w (au go (O.cells p)::bH gm M::R))(hk:Ov w0 go gm p R k (O.f7 M wk)):gQ (some ⟨go,0,none⟩) (some ⟨gm,0,none⟩) wk w k:=by
 unfold gQ zR;refine cH h λw1 h=>bc (qM h (by simp[bu.cells]) (bc (cr (g:=go) h rfl ?_)))
 have h1:=h;refine AZ hA h λb h=>eD (g:=go) h1 h<|Sg h λa h=>hk a h
def p8(hA:xH O.at_)(h:St w0 w (au go (O.cells p)::bH gm M::R))(hk:Ov w0 go gm p R k (O.f8 M wk)):fS (some ⟨go,0,none⟩) (some ⟨gm,0,none⟩) wk w k:=by
 unfold fS yd;refine cH h λw1 h=>bc (qM h (by simp[bu.cells]) (bc ?_))
 refine AZ hA h λb h=>GW h (by simp[bu.cells]) (by simp[bu.cells]) rfl λa h=>hk a h
def p9(hA:xH O.at_)(h:St w0 w (au go (O.cells p)::bH gm M::R))(hk:Ov w0 go gm p R k (O.f9 M wk)):iK (some ⟨go,0,none⟩) (some ⟨gm,0,none⟩) wk w k:=by
 unfold iK Bq;refine bc (j4 h rfl (by simp[bu.cells]) λw2 h=> ?_)
 have h:St w0 w2 (au go (bu.cells {O with next:=10} p)::bH gm M::R):=h
 exact ag0 (O:={O with next:=10}) hA h λa h=>hk a h
def p10(hA:xH O.at_)(h:St w0 w (au go (O.cells p)::bH gm M::R))(hk:Ov w0 go gm p R k (O.f10 M wk)):iL (some ⟨go,0,none⟩) (some ⟨gm,0,none⟩) wk w k:=by
 unfold iL Br;refine cH h λw1 h=>bc (qM h (by simp[bu.cells]) (bc (cr (g:=go) h rfl ?_)))
 have h1:=h;refine AZ hA h λb h=>eD (g:=go) h1 h<|Za h (by simp[bu.cells]) rfl λa h=>hk a h
def p11(hA:xH O.at_)(h:St w0 w (au go (O.cells p)::bH gm M::R))(hk:Ov w0 go gm p R k (O.f11 M wk)):jG (some ⟨go,0,none⟩) (some ⟨gm,0,none⟩) wk w k:=by
 unfold jG CP;refine cH h λw1 h=>bc (qM h (by simp[bu.cells]) (bc ?_))
 refine Y9 h λd h=> ?_;unfold bu.f11 at hk;refine GW h (by simp[bu.cells]) (by simp[bu.cells]) rfl λe h=> ?_
 refine cH h λc h=>bc (cr (g:=go) h rfl (bc (cr (g:=go) h rfl ?_)));refine ax (λhb=> ?_) λhb=> ?_
 ·have hb':decide ((M.ld wk O.at_).2.1>wr (O.b - 1))=true:=hb;rw[if_pos hb']at hk;exact bc (j4 h rfl (by simp[bu.cells]) λa h=>hk a h)
 ·have hb':decide ((M.ld wk O.at_).2.1>wr (O.b - 1))=false:=hb;rw[if_neg (by rw[hb'];simp)]at hk
  exact hk c h
def p12(hA:xH O.at_)(h:St w0 w (au go (O.cells p)::bH gm M::R))(hk:Ov w0 go gm p R k (O.f12 M wk)):gR (some ⟨go,0,none⟩) (some ⟨gm,0,none⟩) wk w k:=by
 unfold gR zS;refine cH h λw1 h=>bc (qM (g:=go) h (by simp[bu.cells]) (bc (cr (g:=go) h rfl (bc ?_))))
 refine Mx h λd h=> ?_;unfold bu.f12 at hk;refine GW h (by simp[bu.cells]) (by simp[bu.cells]) rfl λc h=> ?_
 refine cH h λa h=>bc (cr (g:=go) h rfl (bc (cr (g:=go) h rfl ?_)));refine ax (λhb=> ?_) λhb=> ?_
 ·have hb':decide (O.t<wr (O.b - 1))=true:=hb;rw[if_pos hb']at hk;exact hk a h
 ·have hb':decide (O.t<wr (O.b - 1))=false:=hb;rw[if_neg (by rw[hb'];simp)]at hk
  exact hk a h
def p13(hA:xH O.at_)(h:St w0 w (au go (O.cells p)::bH gm M::R))(hk:Ov w0 go gm p R k (O.f13 M wk)):iM (some ⟨go,0,none⟩) (some ⟨gm,0,none⟩) wk w k:=by
 unfold iM Bs;refine cH h λw1 h=>bc (qM h (by simp[bu.cells]) (bc (cr (g:=go) h rfl (bc (cr (g:=go) h rfl ?_)))))
 have h1:=h;refine Y9 h λd h=>eD (g:=go) h1 h (eD (g:=go) h1 h ?_);refine ak7 h λb h=>bc (j4 h rfl (by simp[bu.cells]) λc h=>bc (j4 h rfl (by simp[bu.cells]) λa h=>hk a h))
def p14(hA:xH O.at_)(h:St w0 w (au go (O.cells p)::bH gm M::R))(hk:Ov w0 go gm p R k (O.f14 M wk)):iN (some ⟨go,0,none⟩) (some ⟨gm,0,none⟩) wk w k:=by
 unfold iN Bt;refine bc (akI h rfl ?_);unfold bu.f14 at hk;refine ax (λhb=> ?_) λhb=> ?_
 ·rw[if_pos hb]at hk;refine cH h λw1 h=>bc (qM h (by simp[bu.cells]) (bc (cr (g:=go) h rfl ?_)))
  have h1:=h;refine AZ hA h λb h=>eD (g:=go) h1 h<|Sg h λa h=>hk a h
 ·rw[if_neg (by rw[hb];simp)]at hk
  refine cH h λw1 h=>bc (qM h (by simp[bu.cells]) (bc (cr (g:=go) h rfl ?_)))
  have h1:=h;refine AZ hA h λb h=>eD (g:=go) h1 h<|Sg h λa h=>hk a h
def p15(hA:xH O.at_)(h:St w0 w (au go (O.cells p)::bH gm M::R))(hk:Ov w0 go gm p R k (O.f15 M wk)):gS (some ⟨go,0,none⟩) (some ⟨gm,0,none⟩) wk w k:=by
 unfold gS zU;refine cH h λw1 h=>bc (qM h (by simp[bu.cells]) (bc ?_))
 refine Y9 h λb h=>GW h (by simp[bu.cells]) (by simp[bu.cells]) rfl λa h=>hk a h
def p16(hA:xH O.at_)(h:St w0 w (au go (O.cells p)::bH gm M::R))(hk:Ov w0 go gm p R k (O.f16 M wk)):eJ (some ⟨go,0,none⟩) (some ⟨gm,0,none⟩) wk w k:=by
 unfold eJ vn;refine cH h λw1 h=>bc (qM h (by simp[bu.cells]) (bc ?_))
 refine AZ hA h λb h=> ?_;unfold bu.f16 at hk;refine GW h (by simp[bu.cells]) (by simp[bu.cells]) rfl λc h=> ?_
 refine cH h λa h=>bc (cr (g:=go) h rfl (bc (cr (g:=go) h rfl ?_)));refine ax (λhb=> ?_) λhb=> ?_
 ·rw[if_pos hb]at hk;exact hk a h
 ·rw[if_neg (by rw[hb];simp)]at hk;exact hk a h
def p17(hA:xH O.at_)(h:St w0 w (au go (O.cells p)::bH gm M::R))(hk:Ov w0 go gm p R k (O.f17 M wk)):fT (some ⟨go,0,none⟩) (some ⟨gm,0,none⟩) wk w k:=by
 unfold fT ye;refine bc (j4 h rfl (by simp[bu.cells]) λw2 h=> ?_)
 have h:St w0 w2 (au go (bu.cells {O with next:=18} p)::bH gm M::R):=h
 exact ag0 (O:={O with next:=18}) hA h λa h=>hk a h
def p18(hA:xH O.at_)(h:St w0 w (au go (O.cells p)::bH gm M::R))(hk:Ov w0 go gm p R k (O.f18 M wk)):fg (some ⟨go,0,none⟩) (some ⟨gm,0,none⟩) wk w k:=by
 unfold fg wv;refine cH h λw1 h=>bc (qM (g:=go) h (by simp[bu.cells]) (bc (cr (g:=go) h rfl (bc ?_))))
 refine Mx h λb h=>GW h (by simp[bu.cells]) (by simp[bu.cells]) rfl λa h=>hk a h
def p19(hA:xH O.at_)(h:St w0 w (au go (O.cells p)::bH gm M::R))(hk:Ov w0 go gm p R k (O.f19 M wk)):fU (some ⟨go,0,none⟩) (some ⟨gm,0,none⟩) wk w k:=by
 unfold fU yf;refine cH h λw1 h=>bc (qM h (by simp[bu.cells]) (bc (cr (g:=go) h rfl (bc (cr (g:=go) h rfl ?_)))))
 have h1:=h;refine Y9 h λb h=>eD (g:=go) h1 h (eD (g:=go) h1 h ?_);unfold bu.f19 at hk;refine ak7 h λa h=>ax (λhb=> ?_) λhb=> ?_
 ·have hb':(!(M.VQ wk O.at_ O.t (wr (O.t+1))).2.1)=true:=hb;rw[if_pos hb']at hk;exact hk a h
 ·have hb':(!(M.VQ wk O.at_ O.t (wr (O.t+1))).2.1)=false:=hb;rw[if_neg (by rw[hb'];simp)]at hk;exact hk a h
end
variable{a b:Option Addr}
section
variable{L R:List HP}{gm go:Nat}{O:bu}{p:Option Addr}{k:Int×Int→ap}
def rN(hc:O.copy=none):uh go O=au go (O.cells none):=by unfold uh;rw[hc]
def ae8{c:Cp}(hc:O.copy=some c):uh go O=Gt λgc:Nat=>l9 [au go (O.cells (some ⟨gc,0,none⟩)),Qm gc c]:=by unfold uh;rw[hc]
def IM{c:Cp}(hc:O.copy=some c)(h:St w0 w (uh go O::R)):∃gc,St w0 w (au go (O.cells (some ⟨gc,0,none⟩))::Qm gc c::R):=by
 rw[ae8 hc]at h;obtain⟨gc,h⟩:=h.some;exact⟨gc,h.open⟩
def Dq{c:Cp}(hc:O.copy=some c)(h:St w0 w (au go (O.cells (some ⟨gc,0,none⟩))::Qm gc c::R)):St w0 w (uh go O::R):=by
 rw[ae8 hc];exact St.ex gc (St.shut h)
def atm{a b:Int}{c:ap}(h:St w0 w (uh go O::R))(hk:∀w',St w0 w' (uh go {O with how:=a,err:=b}::R)→c w'):
  bN w ⟨go,12,none⟩ (.int .i64 a) λw=>bN w ⟨go,14,none⟩ (.int .i64 b) c:=by
 cases hc:O.copy with
 |none=>
  rw[rN hc]at h;have e:uh go {O with how:=a,err:=b}=au go (bu.cells {O with how:=a,err:=b} none):=rN hc;rw[e]at hk;exact j4 h rfl (by simp[bu.cells]) λw1 h=>j4 h rfl (by simp[bu.cells]) λw2 h=>hk w2 h
 |some c=>
  obtain⟨gc,h⟩:=IM hc h;refine j4 h rfl (by simp[bu.cells]) λw1 h=>j4 h rfl (by simp[bu.cells]) λw2 h=>hk w2 ?_
  exact Dq hc h
def p3(h:St w0 w (au go (O.cells none)::bH gm M::R))(c:O.copy=none)(m:M.OK)(hb:sy O.b)(ht:sy O.t)(hk:∀w',St w0 w' (uh go (O.f3 M wk).1::bH gm (O.f3 M wk).2.1::R)→k ((O.f3 M wk).2.2.1,(O.f3 M wk).2.2.2) w'):jL (some ⟨go,0,none⟩) (some ⟨gm,0,none⟩) wk w k:=by
 unfold jL Bp;refine bc (cr (g:=go) h rfl ?_);unfold bu.f3 at hk;refine axD (log:=O.lg) h m (λh0 h8 hca hr j h=> ?_) (λh0 h8 hca hr j h=> ?_) λhno j h=> ?_
 ·have hr':M.room O.MA=true:=hr;rw[if_pos ⟨h0,h8,hca⟩,if_pos hr']at hk;refine aM h λg5 l h=>m7 h rfl rfl (by intro v hv;simp[Rg.ag]at hv;rcases hv with rfl|rfl<;>rfl) λd h=>aU rfl ?_
  refine je h rfl (bc ?_);refine Yz h rfl (by simp[bu.cells]) (by intro v hv;simp[Rg.ag]at hv;rcases hv with rfl|rfl<;>rfl) λn h=>cH h λe h=>bc ?_
  have h:St w0 e (au g5 (Rg.ag (O.Mz M)).toList::au go (bu.cells {O with to:=O.Mz M} none)::bH gm ((M.tick wk).grow O.MA)::R):=h;refine qM (g:=go) h (by simp[bu.cells]) (je h rfl (bc (cr (g:=go) h rfl (bc (cr (g:=go) h rfl ?_)))))
  refine axE ht hb h (λhe gc f h=> ?_) λhe f h=> ?_
  ·rw[if_pos he]at hk;refine bc (j4 h rfl (by simp[bu.cells]) λi h=>bc (j4 h rfl (by simp[bu.cells]) λa h=>hk a ?_))
   refine Dq (gc:=gc) rfl ?_
   exact(h.rm 1 rfl).swap
  ·rw[if_neg he]at hk;refine bc (j4 h rfl (by simp[bu.cells]) λi h=>bc (j4 h rfl (by simp[bu.cells]) λa h=>hk a ?_))
   rw[rN rfl]
   exact h.drop
 ·have hr':M.room O.MA=false:=hr;rw[if_pos ⟨h0,h8,hca⟩,if_neg (by rw[hr'];simp)]at hk
  refine aM h λg5 l h=>m7 h rfl rfl (by intro v hv;simp[Rg.ag,Rg.zero]at hv;rw[hv];rfl) λd h=>bK rfl (hk d ?_)
  rw[rN c];exact h.drop
 ·rw[if_neg hno]at hk;refine aM h λg5 l h=>m7 h rfl rfl (by intro v hv;simp[Rg.ag,Rg.zero]at hv;rw[hv];rfl) λd h=>bK rfl (hk d ?_)
  rw[rN c];exact h.drop
def p4{c:Cp}(h:St w0 w (au go (O.cells (some ⟨gc,0,none⟩))::Qm gc c::bH gm M::R))(b:O.copy=some c)(hk:∀w',St w0 w' (uh go (O.f4 M wk c).1::bH gm (O.f4 M wk c).2.1::R)→k ((O.f4 M wk c).2.2.1,(O.f4 M wk c).2.2.2) w'):jb (some ⟨go,0,none⟩) (some ⟨gm,0,none⟩) wk w k:=by
 unfold jb zP;refine bc (CC h rfl ?_);unfold bu.f4 at hk;have h:St w0 w (Qm gc c::bH gm M::au go (O.cells (some ⟨gc,0,none⟩))::R):=h.perm Hp;refine axF h (λhe a h=> ?_) (λhne hc a h=> ?_) (λhne hc hl a h=> ?_) λhne hc hl a h=> ?_
 ·rw[if_pos he]at hk;refine bK rfl (bc (j4 h rfl (by simp[bu.cells]) λd h=>hk d ?_))
  exact Dq b (h.perm Hp)
 ·rw[if_neg hne,if_neg (by rw[hc];simp)]at hk
  exact aU rfl (hk a (Dq b (h.perm Hp)))
 ·rw[if_neg hne,if_pos hc,if_neg (by rw[hl];simp)]at hk
  exact aU rfl (hk a (Dq rfl (h.perm Hp)))
 ·rw[if_neg hne,if_pos hc,if_pos hl]at hk;refine ax (λhb=> ?_) λhb=> ?_
  ·have hb':(c.next 0).at_=c.j2:=by simpa using hb
   rw[if_pos hb']at hk;refine bc (j4 h rfl (by simp[bu.cells]) λd h=>hk d ?_)
   exact Dq rfl (h.perm Hp)
  ·have hb':¬(c.next 0).at_=c.j2:=by simpa using hb
   rw[if_neg hb']at hk;exact hk a (Dq rfl (h.perm Hp))
structure bu.GX (O:bu):Prop where
 n3:O.next=3→O.copy=none∧sy O.b∧sy O.t
 n4:O.next=4→∃c,O.copy=some c
 n:O.next≤19
 a:xH O.at_
def pD{bY:ey}{id:FuncId}{a b c':Value}{d:bt}(e:∀args w c,bY (.func id) args w c=d args.toList w c)(h:d [a,b,c'] w c):nj bY (.func (.func id) #[] #[]) #[a,b,c'] w c:=
 bV e h
def aem(h:ff a b i w λr w=>c (e9 (dL [(.i .i64),(.i .i64)] r)) w):Eg [.pointer a,.pointer b,.int .i64 i] w c:=h
def alc(h:iJ a b i w λr w=>c (e9 (dL [(.i .i64),(.i .i64)] r)) w):Ib [.pointer a,.pointer b,.int .i64 i] w c:=h
def aiP(h:gO a b i w λr w=>c (e9 (dL [(.i .i64),(.i .i64)] r)) w):GC [.pointer a,.pointer b,.int .i64 i] w c:=h
def ald(h:jL a b i w λr w=>c (e9 (dL [(.i .i64),(.i .i64)] r)) w):Ic [.pointer a,.pointer b,.int .i64 i] w c:=h
def aiQ(h:jb a b i w λr w=>c (e9 (dL [(.i .i64),(.i .i64)] r)) w):GD [.pointer a,.pointer b,.int .i64 i] w c:=h
def aiR(h:gP a b i w λr w=>c (e9 (dL [(.i .i64),(.i .i64)] r)) w):GF [.pointer a,.pointer b,.int .i64 i] w c:=h
def ag1(h:fQ a b i w λr w=>c (e9 (dL [(.i .i64),(.i .i64)] r)) w):Ff [.pointer a,.pointer b,.int .i64 i] w c:=h
def aiS(h:gQ a b i w λr w=>c (e9 (dL [(.i .i64),(.i .i64)] r)) w):GG [.pointer a,.pointer b,.int .i64 i] w c:=h
def ag2(h:fS a b i w λr w=>c (e9 (dL [(.i .i64),(.i .i64)] r)) w):Fg [.pointer a,.pointer b,.int .i64 i] w c:=h
def ale(h:iK a b i w λr w=>c (e9 (dL [(.i .i64),(.i .i64)] r)) w):Ie [.pointer a,.pointer b,.int .i64 i] w c:=h
def alf(h:iL a b i w λr w=>c (e9 (dL [(.i .i64),(.i .i64)] r)) w):If [.pointer a,.pointer b,.int .i64 i] w c:=h
def apa(h:jG a b i w λr w=>c (e9 (dL [(.i .i64),(.i .i64)] r)) w):Jp [.pointer a,.pointer b,.int .i64 i] w c:=h
def aiT(h:gR a b i w λr w=>c (e9 (dL [(.i .i64),(.i .i64)] r)) w):GH [.pointer a,.pointer b,.int .i64 i] w c:=h
def alg(h:iM a b i w λr w=>c (e9 (dL [(.i .i64),(.i .i64)] r)) w):Ig [.pointer a,.pointer b,.int .i64 i] w c:=h
def alh(h:iN a b i w λr w=>c (e9 (dL [(.i .i64),(.i .i64)] r)) w):Ih [.pointer a,.pointer b,.int .i64 i] w c:=h
def aiU(h:gS a b i w λr w=>c (e9 (dL [(.i .i64),(.i .i64)] r)) w):GI [.pointer a,.pointer b,.int .i64 i] w c:=h
def acL(h:eJ a b i w λr w=>c (e9 (dL [(.i .i64),(.i .i64)] r)) w):Di [.pointer a,.pointer b,.int .i64 i] w c:=h
def ag3(h:fT a b i w λr w=>c (e9 (dL [(.i .i64),(.i .i64)] r)) w):Fh [.pointer a,.pointer b,.int .i64 i] w c:=h
def aen(h:fg a b i w λr w=>c (e9 (dL [(.i .i64),(.i .i64)] r)) w):En [.pointer a,.pointer b,.int .i64 i] w c:=h
def ag4(h:fU a b i w λr w=>c (e9 (dL [(.i .i64),(.i .i64)] r)) w):Fi [.pointer a,.pointer b,.int .i64 i] w c:=h
def Fv{r:ID}{F:Option Addr→Option Addr→Int→World→((Int×Int)→ap)→Prop}(h:St w0 w (uh go O::bH gm M::L))(hr:r.1.copy=O.copy)
  (hF:∀{p R},St w0 w (au go (O.cells p)::bH gm M::R)→Ov w0 go gm p R k r→F (some ⟨go,0,none⟩) (some ⟨gm,0,none⟩) wk w k)
  (hk:∀w',St w0 w' (uh go r.1::bH gm r.2.1::L)→k (r.2.2.1,r.2.2.2) w'):F (some ⟨go,0,none⟩) (some ⟨gm,0,none⟩) wk w k:=by
 cases hc:O.copy with
 |none=>
  rw[rN hc]at h;refine hF h λw' h=>hk w' ?_;rw[rN (hr.trans hc)];exact h
 |some c=>
  obtain⟨gc,h⟩:=IM hc h;refine hF (R:=Qm gc c::L) (h.perm Hp) λw' h=>hk w'<|Dq (hr.trans hc) (h.perm Hp)
end
def Jx{O:bu}:(O.read M wk).1.copy=O.copy:=by
 unfold bu.read;split
 ·split<;>rfl
 ·rfl
def atn{O:bu}:(O.f2 M wk).1.copy=O.copy:=by
 unfold bu.f2;split
 ·exact Jx
 ·split
  ·exact Jx
  ·split<;>exact Jx
section
variable{L:List HP}{gm go:Nat}{O:bu}
def ano(h:St w0 w (uh go O::bH gm M::L))(hf:O.GX)(t:M.OK)(hk:∀w',St w0 w' (uh go (O.step M wk).1::bH gm (O.step M wk).2::L)→k (O.step M wk).1.how w'):fO (some ⟨go,0,none⟩) (some ⟨gm,0,none⟩) wk w k:=by
 have how:∀{w:World} {c:Int→Prop},St w0 w (uh go O::bH gm M::L)→c O.how→aJ .i64 w (aY ⟨go,0,none⟩ 12) c:=by
  intro w c h hc;cases q:O.copy with
  |none=>rw[rN q]at h;exact cr h rfl hc
  |some c=>obtain⟨gc,h⟩:=IM q h;exact cr h rfl hc
 have u:∀{w:World} {c:Value→Prop},St w0 w (uh go O::bH gm M::L)→c (phF O.next)→tH w (aY ⟨go,0,none⟩ 11) c:=by
  intro w c h hc;cases q:O.copy with
  |none=>rw[rN q]at h;exact I2 h rfl hc
  |some c=>obtain⟨gc,h⟩:=IM q h;exact I2 h rfl hc
 unfold fO FN;unfold bu.step at hk;refine aU rfl (bP (λb w'=>b= !O.live∧w'=w) (λJ l=> ?_) ?_)
 ·unfold bu.live at l;refine bc (how h (ax (λhb=> ?_) λhb=> ?_))
  ·have hb':(O.how==0)=false:=by simpa[bne]using hb
   rw[hb']at l;exact bc (how h (l _ _ ⟨by simp[bne],rfl⟩))
  ·have hb':(O.how==0)=true:=by simpa[bne]using hb
   rw[hb']at l;exact l _ _ ⟨rfl,rfl⟩
 rintro y z ⟨rfl,rfl⟩;refine ax (λhb=> ?_) λhb=> ?_
 ·have hl:O.live=false:=by simpa using hb
  rw[if_neg (by rw[hl];simp)]at hk
  exact bc (how h (hk _ h))
 ·have hl:O.live=true:=by simpa using hb
  rw[if_pos hl]at hk;refine bc (u h ?_);have fin:∀w',St w0 w' (uh go (O.run M wk).1::bH gm (O.run M wk).2.1::L)→Is [(.i .i64),(.i .i64)] (e9 (dL [(.i .i64),(.i .i64)] ((O.run M wk).2.2.1,(O.run M wk).2.2.2))) fun(m:Int×Int)=>
   cz (λf=>
    an (m.2 !=(0:Int)) (
     (f (6:Int) w')) (
     (f m.1 w'))) λi16 j=>
   nn (some ⟨go,0,none⟩) λo=>
   bN j (aY o 12) (.int .i64 i16) λp=>
   nn (some ⟨go,0,none⟩) λs=>
   bN p (aY s 14) (.int .i64 m.2) λg=>
   (k i16 g):=by
   intro w' h;generalize O.run M wk=r at h hk;show cz (λf=>
    an (r.2.2.2 !=(0:Int)) (
     (f (6:Int) w')) (
     (f r.2.2.1 w'))) λi16 j=>
   nn (some ⟨go,0,none⟩) λo=>
   bN j (aY o 12) (.int .i64 i16) λp=>
   nn (some ⟨go,0,none⟩) λs=>
   bN p (aY s 14) (.int .i64 r.2.2.2) λg=>
   (k i16 g);refine bP (λn w''=>n=(if r.2.2.2=0 then r.2.2.1 else 6)∧w''=w') (λJ l=> ?_) ?_
   ·refine ax (λhb=> ?_) λhb=> ?_
    ·have hb':¬r.2.2.2=0:=by simpa using hb
     exact l _ _ ⟨by rw[if_neg hb'],rfl⟩
    ·have hb':r.2.2.2=0:=by simpa using hb
     exact l _ _ ⟨by rw[if_pos hb'],rfl⟩
   rintro n j ⟨rfl,rfl⟩;exact bc (atm h λg h=>hk g h)
  clear hk;have hn:=hf.n;obtain d|d|d|d|d|d|d|d|d|d|d|d|d|d|d|d|d|d|d|d:O.next=0∨O.next=1∨O.next=2∨O.next=3∨O.next=4∨O.next=5∨O.next=6∨O.next=7∨O.next=8∨O.next=9∨O.next=10∨O.next=11∨O.next=12∨O.next=13∨O.next=14∨O.next=15∨O.next=16∨O.next=17∨O.next=18∨O.next=19:=af;all_goals rw[d]
  ·have e:O.run M wk=O.f0 M wk:=by unfold bu.run;simp only[d]
   rw[e]at fin;refine pD (λ_ _ _=>rfl) (aem ?_);exact Fv h rfl (λh hk=>p0 hf.a h hk) fin
  ·have e:O.run M wk=O.f1 M wk:=by unfold bu.run;simp only[d]
   rw[e]at fin;refine pD (λ_ _ _=>rfl) (alc ?_);exact Fv h rfl (λh hk=>p1 hf.a h hk) fin
  ·have e:O.run M wk=O.f2 M wk:=by unfold bu.run;simp only[d]
   rw[e]at fin;refine pD (λ_ _ _=>rfl) (aiP ?_);exact Fv h atn (λh hk=>p2 hf.a h hk) fin
  ·have e:O.run M wk=O.f3 M wk:=by unfold bu.run;simp only[d]
   rw[e]at fin;obtain⟨hc,v,x⟩:=hf.n3 d;rw[rN hc]at h;refine pD (λ_ _ _=>rfl) (ald ?_);exact p3 h hc t v x fin
  ·obtain⟨c,hc⟩:=hf.n4 d;have e:O.run M wk=O.f4 M wk c:=by unfold bu.run;simp only[d,hc]
   rw[e]at fin;obtain⟨gc,h⟩:=IM hc h;refine pD (λ_ _ _=>rfl) (aiQ ?_);exact p4 h hc fin
  ·have e:O.run M wk=O.f5 M wk:=by unfold bu.run;simp only[d]
   rw[e]at fin;refine pD (λ_ _ _=>rfl) (aiR ?_);exact Fv h rfl (λh hk=>p5 hf.a h hk) fin
  ·have e:O.run M wk=O.f6 M wk:=by unfold bu.run;simp only[d]
   rw[e]at fin;refine pD (λ_ _ _=>rfl) (ag1 ?_);exact Fv h rfl (λh hk=>p6 hf.a h hk) fin
  ·have e:O.run M wk=O.f7 M wk:=by unfold bu.run;simp only[d]
   rw[e]at fin;refine pD (λ_ _ _=>rfl) (aiS ?_);exact Fv h rfl (λh hk=>p7 hf.a h hk) fin
  ·have e:O.run M wk=O.f8 M wk:=by unfold bu.run;simp only[d]
   rw[e]at fin;refine pD (λ_ _ _=>rfl) (ag2 ?_);exact Fv h rfl (λh hk=>p8 hf.a h hk) fin
  ·have e:O.run M wk=O.f9 M wk:=by unfold bu.run;simp only[d]
   rw[e]at fin;refine pD (λ_ _ _=>rfl) (ale ?_);exact Fv h (Jx) (λh hk=>p9 hf.a h hk) fin
  ·have e:O.run M wk=O.f10 M wk:=by unfold bu.run;simp only[d]
   rw[e]at fin;refine pD (λ_ _ _=>rfl) (alf ?_);exact Fv h rfl (λh hk=>p10 hf.a h hk) fin
  ·have e:O.run M wk=O.f11 M wk:=by unfold bu.run;simp only[d]
   rw[e]at fin;refine pD (λ_ _ _=>rfl) (apa ?_);exact Fv h rfl (λh hk=>p11 hf.a h hk) fin
  ·have e:O.run M wk=O.f12 M wk:=by unfold bu.run;simp only[d]
   rw[e]at fin;refine pD (λ_ _ _=>rfl) (aiT ?_);exact Fv h rfl (λh hk=>p12 hf.a h hk) fin
  ·have e:O.run M wk=O.f13 M wk:=by unfold bu.run;simp only[d]
   rw[e]at fin;refine pD (λ_ _ _=>rfl) (alg ?_);exact Fv h rfl (λh hk=>p13 hf.a h hk) fin
  ·have e:O.run M wk=O.f14 M wk:=by unfold bu.run;simp only[d]
   rw[e]at fin;refine pD (λ_ _ _=>rfl) (alh ?_);exact Fv h rfl (λh hk=>p14 hf.a h hk) fin
  ·have e:O.run M wk=O.f15 M wk:=by unfold bu.run;simp only[d]
   rw[e]at fin;refine pD (λ_ _ _=>rfl) (aiU ?_);exact Fv h rfl (λh hk=>p15 hf.a h hk) fin
  ·have e:O.run M wk=O.f16 M wk:=by unfold bu.run;simp only[d]
   rw[e]at fin;refine pD (λ_ _ _=>rfl) (acL ?_);exact Fv h rfl (λh hk=>p16 hf.a h hk) fin
  ·have e:O.run M wk=O.f17 M wk:=by unfold bu.run;simp only[d]
   rw[e]at fin;refine pD (λ_ _ _=>rfl) (ag3 ?_);exact Fv h (Jx) (λh hk=>p17 hf.a h hk) fin
  ·have e:O.run M wk=O.f18 M wk:=by unfold bu.run;simp only[d]
   rw[e]at fin;refine pD (λ_ _ _=>rfl) (aen ?_);exact Fv h rfl (λh hk=>p18 hf.a h hk) fin
  ·have e:O.run M wk=O.f19 M wk:=by unfold bu.run;simp only[d]
   rw[e]at fin;refine pD (λ_ _ _=>rfl) (ag4 ?_);exact Fv h rfl (λh hk=>p19 hf.a h hk) fin
end
def Si{L M:List HP}(h:St w0 w L)(e:L=M):St w0 w M:=e▸h
def bu.B7(at_ most x:Int)(next:Nat):bu:=⟨at_,most,0,0,Rg.zero,x,false,Rg.zero,none,next,0,0,0⟩
section
variable{L:List HP}{gm go:Nat}{O:bu}
def anp{k:Option Addr→ap}(h:St w0 w L)(hk:∀g w',St w0 w' (uh g (bu.B7 at_ most x 0)::L)→k (some ⟨g,0,none⟩) w'):eF #[.int .i64 at_,.int .i64 most] x w k:=by
 unfold eF;refine aM h λg1 w2 h=>je h rfl ⟨rfl,⟨rfl,aa6 rfl ?_⟩⟩;refine aM h λa b h=>hk a b ?_;rw[rN rfl];exact Si (h.rm 1 rfl) aZ
def ato{k:Option Addr→ap}(h:St w0 w L)(hk:∀g w',St w0 w' (uh g (bu.B7 at_ most 0 8)::L)→k (some ⟨g,0,none⟩) w'):eM #[.int .i64 at_,.int .i64 most] w k:=by
 unfold eM;refine aM h λg1 w2 h=>je h rfl ⟨rfl,⟨rfl,aa6 rfl ?_⟩⟩;refine aM h λa b h=>hk a b ?_;rw[rN rfl];exact Si (h.rm 1 rfl) aZ
def atp{k:Option Addr→ap}(h:St w0 w L)(hk:∀g w',St w0 w' (uh g (bu.B7 at_ most 0 15)::L)→k (some ⟨g,0,none⟩) w'):jP #[.int .i64 at_,.int .i64 most] w k:=by
 unfold jP;refine aM h λg1 w2 h=>je h rfl ⟨rfl,⟨rfl,aa6 rfl ?_⟩⟩;refine aM h λa b h=>hk a b ?_;rw[rN rfl];exact Si (h.rm 1 rfl) aZ
def aa9{o:Nat}{c:Int→Prop}(h:St w0 w L)[a:At L (uh go) O f](ho:∀p,(O.cells p)[o]?=some (.int .i64 n))(hc:c n):aJ .i64 w ⟨go,o,none⟩ c:=by
 obtain⟨R,hout,hin⟩:=a.out;have h:=hout h;cases q:O.copy with
 |none=>rw[rN q]at h;exact cr h (ho _) hc
 |some c=>obtain⟨gc,h⟩:=IM q h;exact cr h (ho _) hc
def bu.tell(O:bu):Int:=if O.how=2∨O.how=1 then O.got else 0
def aBs(h:St w0 w L)[a:At L (uh go) O f](hk:k O.tell w):cG (some ⟨go,0,none⟩) w k:=by
 unfold cG;unfold bu.tell at hk;refine bP (λb w'=>b=decide (¬(O.how=2∨O.how=1))∧w'=w) (λJ c=> ?_) ?_
 ·refine aU rfl (bc (aa9 h (λ_=>rfl) (ax (λhb=> ?_) λhb=> ?_)))
  ·have hb':¬O.how=2:=by simpa using hb
   refine bc (aa9 h (λ_=>rfl) (c _ _ ⟨?_,rfl⟩));rw[Bool.eq_iff_iff,decide_eq_true_eq];simp[hb']
  ·have hb':O.how=2:=by simpa using hb
   exact c _ _ ⟨by simp[hb'],rfl⟩
 rintro b d ⟨rfl,rfl⟩;refine ax (λhb=> ?_) λhb=> ?_
 ·rw[if_neg (of_decide_eq_true hb)]at hk;exact hk
 ·rw[if_pos (Classical.byContradiction λq=>of_decide_eq_false hb q)]at hk;exact bc (aa9 h (λ_=>rfl) hk)
def aBt(h:St w0 w L)[a:At L (uh go) O f](hk:k O.err w):iW (some ⟨go,0,none⟩) w k:=by
 unfold iW;exact aU rfl (bc (aa9 h (λ_=>rfl) hk))
def atq{b:Nat}{z:Value}{n:Nat}{kl kc:IntKind}{c:Sl→ap}(h:St w0 w L)(ht:ET P t 1 b z)(a:z.oneCell'=true)
  (hbytes:b*n≤281474976710656) (h63:n≤9223372036854775807)
  (hc:∀s w',St w0 w' (bG 1 s []::L)→s.n=0→c s w'):xz P t (.int kl 0) (.int kc (n:Int)) w c:=by
 obtain⟨e,i,hte,hi,hsz,hby,d⟩:=ht.out;have hb':(i.bytes:Int)*(n:Int)≤281474976710656:=by
  have h:((b*n:Nat):Int)≤281474976710656:=af;rw[Int.natCast_mul]at h;rwa[hby]
 have hr:=Go.run_make w t e i z hte hi d kl kc 0 n af af hb' af;unfold xz;rw[hr,hsz,Nat.mul_one];show c ⟨some ⟨w.heap.size,0,none⟩,0,n⟩ _;refine hc _ _ (h.new (CA w _) (F':=λk=>k=w.heap.size) ⟨λk=> ?_,⟨rfl,bf,gq h63,bf,.inr ⟨w.heap.size,0,_,rfl,pN.new w _ e,?_,bf⟩⟩⟩ λk hk=>by rw[hk];exact iw _) rfl
 ·simp[Sl.au,eq_comm]
 ·rw[Cy a];simp[madeCells]
def bJ.k8(M:bJ)(a:Int):Int:=if M.given a then M.get a else 0
def aba(h:St w0 w L)[a:At L (bH gm) M f](hk:k (M.k8 a') w):aO (some ⟨gm,0,none⟩) a' w k:=KG h hk
def bJ.Cn(M:bJ)(r:Rg)(t:Int)(n:Nat):List Int:=(List.range n).map fun(i:Nat)=>M.k8 (r.place (t+(i:Int)))
def bJ.list(M:bJ)(at_:Int):List Int:=if (Rg.of (M.k8 (at_+2))).right=true∧M.k8 at_<M.k8 (at_+1)∧M.k8 (at_+1) - M.k8 at_≤(Rg.of (M.k8 (at_+2))).size then M.Cn (Rg.of (M.k8 (at_+2))) (M.k8 at_) (M.k8 (at_+1) - M.k8 at_).toNat else []
def ag5(M:bJ)(r:Rg)(t:Int)(n:Nat):M.Cn r t (n+1)=M.Cn r t n++[M.k8 (r.place (t+(n:Int)))]:=by
 unfold bJ.Cn;rw[List.range_succ,List.map_append];rfl
def axO(hA:xH at_){k:Sl→ap}(h:St w0 w (bH gm M::L))(h0:sy (M.k8 at_))(h1:sy (M.k8 (at_+1)))(hk:∀s w',St w0 w' (bG 1 s (ints (M.list at_))::bH gm M::L)→k s w'):lD #[.int .i64 at_,.int .i64 most] (some ⟨gm,0,none⟩) w k:=by
 unfold lD BP;refine aM h λg1 w2 h=>aU rfl (je h rfl ?_);refine XU hA h λw5 h=>aba h<|az8 h λy h=> ?_;generalize hr:Rg.of (M.k8 (at_+2))=r;have z:(M.list at_)=if r.right=true∧M.k8 at_<M.k8 (at_+1)∧M.k8 (at_+1) - M.k8 at_≤r.size then M.Cn r (M.k8 at_) (M.k8 (at_+1) - M.k8 at_).toNat else []:=by unfold bJ.list;rw[hr]
 have step:∀(a:Rg) (e:Int),(e=0↔r.right=true)→(e=0→a=r)→∀y,St w0 y (au g1 [.int .i64 at_,.int .i64 most]::bH gm M::L)→aE y #[(.int .i64 (0:Int)),(.int .i64 (0:Int))] 241 λm A=>
  dQ 2 A m a.ag λB=>
  drew B λf=>
  bx 2 f ⟨g1,0,none⟩ λD=>
  bx 2 f ⟨g1,0,none⟩ λF=>
  bj D f λi16 o=>
  ai 2 ⟨g1,0,none⟩ f o (
  aO (some ⟨gm,0,none⟩) i16 o λi18 G=>
  ai 2 ⟨g1,0,none⟩ f G (
  az F G λi20 H=>
  aO (some ⟨gm,0,none⟩) i20 H λi22 p=>
  cz (λI=>
   an ((e !=(0:Int))||(decide (i22≤i18))) (
    (I true p)) (
    bx 2 p m λK=>
    cg K p λi26 N=>
    (I (decide ((aF .u64 ((aF .u64 i22) - (aF .u64 i18)))>(aF .u64 i26))) N))) λO t=>
  an O (
   (k (Sl.mk none 0 0) t)) (
   xz Tryz.prog 156 (.int .i64 (0:Int)) (.int .i64 (aF .i64 (i22 - i18))) t λP Q=>
   jD (λC32 g l=>
    an (decide (g.2<i22)) (
     bx 2 l m λR=>
     bl R g.2 l λi36 S=>
     aO (some ⟨gm,0,none⟩) i36 S λi38 w39=>
     aE w39 #[(.int .i64 i38)] 2 λa40 T=>
     og Tryz.prog #[156,156] 156 [(.slice g.1.a g.1.n g.1.c),(.slice (some a40) 1 1)] T λU V=>
     (C32 (U,(aF .i64 (g.2+(1:Int)))) V)) (
     (k g.1 l))) (P,i18) Q))):=by
  intro a e he ha y h;refine aM h λu A h=>m7 h rfl rfl (by intro v hv;simp[Rg.ag]at hv;rcases hv with rfl|rfl<;>rfl) λB h=>cH h λf h=> ?_
  have h:St w0 f (au u a.ag.toList::au g1 [.int .i64 at_,.int .i64 most]::bH gm M::L):=h;refine je h rfl (je h rfl ?_);have h13:=h;refine Y9 h λo h=>eD h13 h<|aba h (eD h13 h ?_);refine AZ hA h λH h=>aba h<|bP (λb w'=>b= !decide (r.right=true∧M.k8 at_<M.k8 (at_+1)∧M.k8 (at_+1) - M.k8 at_≤r.size)∧St w0 w' (au u a.ag.toList::au g1 [.int .i64 at_,.int .i64 most]::bH gm M::L)) (λJ hJ=> ?_) ?_
  ·refine ax (λhb=> ?_) λhb=> ?_
   ·refine hJ _ _ ⟨?_,h⟩;rw[decide_eq_false]
    ·rfl
    rintro⟨q1,q2,q3⟩;rw[he.2 q1]at hb;simp at hb;omega
   ·rw[kf]at hb;have W:e=0:=by simpa using hb.1
    have hlt:=of_decide_eq_false hb.2;obtain rfl:=ha W;refine je h rfl (XT h λN h=>hJ _ _ ⟨?_,h⟩);have hsz:=size_le a;rw[acE h1 h0 af,ak6 af af,Bool.eq_iff_iff,decide_eq_true_eq,Bool.not_eq_true',decide_eq_false_iff_not];have:=he.1 W;exact⟨λq q2=>by omega,λq=>Classical.byContradiction λq2=>q ⟨this,af,af⟩⟩
  rintro O t ⟨rfl,h⟩;refine ax (λhb=> ?_) λhb=> ?_
  ·have hno:=of_decide_eq_false ((Bool.not_eq_true' _).mp hb);rw[if_neg hno]at z;refine hk _ _ ?_;rw[z];exact(h.drop.drop).DJ 1
  ·have X:=of_decide_eq_true ((Bool.not_eq_false' _).mp hb);rw[if_pos X]at z;obtain⟨hr1,hlt,hle⟩:=X;have hsz:=size_le r;obtain rfl:=ha (he.2 hr1);have hI0:=h0;have hI1:=h1;unfold sy at hI0 hI1;have hd:aF .i64 (M.k8 (at_+1) - M.k8 at_)=M.k8 (at_+1) - M.k8 at_:=dh ⟨af,af⟩;rw[hd];obtain⟨d,hdn⟩:∃d:Nat,M.k8 (at_+1) - M.k8 at_=(d:Int):=⟨(M.k8 (at_+1) - M.k8 at_).toNat,af⟩;rw[hdn]at z ⊢;rw[iZ]at z;refine atq h (elI aZ) rfl af af λP Q h n30=>ot (fun(x:Sl×Int) w'=> ∃j:Nat,x.2=M.k8 at_+j∧j≤d∧x.1.n=j∧St w0 w' (bG 1 x.1 (ints (M.Cn a (M.k8 at_) j))::au u a.ag.toList::au g1 [.int .i64 at_,.int .i64 most]::bH gm M::L)) (λx _=>(M.k8 (at_+1) - x.2).toNat) ⟨0,bf,af,n30,by simpa[bJ.Cn,ints]using h⟩ ?_
   rintro⟨s1,i⟩ l ⟨j,hj,Y,uj,h⟩ C hC;dsimp only at hj uj h ⊢;subst hj;refine ax (λhb=> ?_) λhb=> ?_
   ·have Z2:j<d:=by have:=of_decide_eq_true hb;omega
    have KZ:aF .i64 (M.k8 at_+(j:Int)+1)=M.k8 at_+((j+1:Nat):Int):=by rw[dh ⟨af,af⟩];omega
    refine je h rfl (Mx h λS h=> ?_);refine aba h<|aM h λg40 T h=>M9 (x:=⟨some ⟨g40,0,none⟩,1,1⟩) h (elI aZ) aZ (WJ (n:=1) h.au rfl 1) (by simp[Value.oneCell']) (by simp only;omega) (by simp only;omega) λU V h n42=> ?_
    rw[KZ];refine hC _ _ ⟨j+1,rfl,Z2,by simp only at n42;dsimp only;omega,?_⟩ (by dsimp only;omega)
    have e:ints (M.Cn a (M.k8 at_) (j+1))=ints (M.Cn a (M.k8 at_) j)++[.int .i64 (M.k8 (a.place (M.k8 at_+(j:Int))))]:=by rw[ag5];simp[ints]
    rw[e];exact h.drop
   ·have Y:j=d:=by have:=of_decide_eq_false hb;omega
    subst Y;refine hk _ _ ?_;rw[z];exact(h.rm 1 rfl).rm 1 rfl
 cases Z:r.right with
 |true=>rw[if_pos rfl];exact step r 0 (by simp[Z]) (λ_=>rfl) y h
 |false=>rw[if_neg bf];exact step Rg.zero 11 (by simp[Z]) (λq=>by cases q) y h
def abb(log most:Int):Bool:=decide (0≤log∧log≤most∧most≤8)
def EX(log:Int):Int:=((2 ^ log.toNat:Nat):Int)
def bJ.Jy(M:bJ)(wk log:Int):bJ:=(((M.tick wk).grow (3+EX log)).tick wk).put ((M.cells.length:Nat)+2) (Rg.word ⟨(M.cells.length:Nat)+3,log⟩)
def acM(h0:0≤log)(h1:log≤8):1≤EX log∧EX log≤256:=by
 have hp:(2 ^ log.toNat:Nat)≤256:=EI af;have a:0<2 ^ log.toNat:=Nat.pow_pos af;unfold EX;generalize (2 ^ log.toNat:Nat)=m at*
 omega
def xQ(h:0≤n):(((M.grow n).cells.length:Nat):Int)=(M.cells.length:Nat)+n:=by
 unfold bJ.grow;simp only[uv,List.length_replicate];omega
def anr{k:Array Value×Int→ap}(h:St w0 w L)[a:At L (bH gm) M f](e:M.OK)(d:M.caller wk=true)(hl:abb log most=true)
  (h1:M.room (3+EX log)=true→∀w',St w0 w' (f (bH gm (M.Jy wk log)))→k (#[.int .i64 ((M.cells.length:Nat):Int),.int .i64 most],0) w')
  (h2:M.room (3+EX log)=false→∀w',St w0 w' (f (bH gm M))→k (#[.int .i64 0,.int .i64 0],21) w'):sY (some ⟨gm,0,none⟩) wk log most w k:=by
 unfold sY Nt;unfold abb at hl;simp only[decide_eq_true_eq]at hl;obtain⟨b,i,j⟩:=hl;have g:=acM b af;obtain⟨R,ho,hb⟩:=a.out;replace h:=ho h;refine zE λgx w h=> ?_;refine aU (by simp;omega) ?_
 refine Gf af ?_;rw[XS b af];have hw:IntKind.i64.wrap (3+((2 ^ log.toNat:Nat):Int))=3+EX log:=dh ⟨by unfold EX at g;omega,by unfold EX at g;omega⟩
 rw[hw];have l:=e.size;refine GU h e (λ_ _ hr w h=> ?_) (λ_ _ hr=> ?_) λhno=>(hno ⟨d,af⟩).elim
 ·have c:=hr;unfold bJ.room at c;simp only[decide_eq_true_eq]at c;with_reducible repeat' (first|refine cH h λw h=> ?_|refine Vh h ?_|refine QU h λw h=> ?_|refine aM h λgx w h=> ?_|refine I8 ?_)
  have hA:xH ((M.cells.length:Nat):Int):=⟨af,af⟩;refine XU hA h λw h=> ?_;with_reducible repeat' (first|refine sR h ?_|fail)
  have m:aF .i64 (((M.cells.length:Nat):Int)+3)=((M.cells.length:Nat):Int)+3:=dh ⟨af,af⟩;show fD #[.int .i64 (aF .i64 (((M.cells.length:Nat):Int)+3)),.int .i64 log] _ _;rw[m];refine anj (r:=⟨((M.cells.length:Nat):Int)+3,log⟩) h λw h=> ?_;have hcan:((M.tick wk).grow (3+EX log)).can wk ((M.cells.length:Nat)+2)=true:=by
   have hg:=xQ (M:=M.tick wk) (n:=3+EX log) af;have ht:(M.tick wk).cells.length=M.cells.length:=rfl;unfold bJ.can bJ.given bJ.caller at*
   simp only[decide_eq_true_eq,iY]at*
   refine⟨⟨d.1,?_⟩,?_⟩
   ·simpa[bJ.grow,bJ.tick]using d.2
   ·rw[hg,ht];omega
  refine stc h hcan λw h=>pS λw h=>h1 hr w (hb (((h.rm 0 rfl).rm 0 rfl).rm 0 rfl))
 ·refine pS λw h=>h2 hr w (hb h.drop)
def VT{k:Int×Int→ap}(h:St w0 w L)[a:At L (bH gm) M f](hA:xH at_)(hc:M.can wk (at_+1)=true)(hk:∀w',St w0 w' (f (bH gm (M.tick wk)))→k (M.get (at_+1),0) w'):cn #[.int .i64 at_,.int .i64 most] (some ⟨gm,0,none⟩) wk w k:=by
 unfold cn yu;refine zE λgx w h=>AZ hA h λw h=>ldc h hc λw h=>hk w h.drop
end
def elL:ElT Tryz.prog 69 3 8 (.int .i64 0):=⟨aZ,aZ⟩
def aaj(self on idle:Int)(x:Nat):Bool:=(x:Int) !=self&&(tb on x&& !tb idle x)
def xI(self on idle:Int)(n:Nat):List Int:=((List.range n).filter (aaj self on idle)).map Int.ofNat
def VU(v:Int)(l:List Int):List Int:=l.drop (v % l.length).toNat++l.take (v % l.length).toNat
def acO(self on idle:Int)(n:Nat):xI self on idle (n+1)=xI self on idle n++(if aaj self on idle n then [(n:Int)]else []):=by
 unfold xI;rw[List.range_succ,List.filter_append,List.map_append];congr 1;by_cases h:aaj self on idle n<;>simp[h]
def ae9(self on idle:Int)(n:Nat):(xI self on idle n).length≤n:=by
 unfold xI;simpa using List.length_filter_le (aaj self on idle) (List.range n)
def alj{m:Int}(hm:0<m)(a:m≤16):abl (IntKind.i64.wrap (abl v m+m)) m=v % m:=by
 unfold abl;have h1:v.tmod m<m:=Int.tmod_lt_of_pos _ hm;have h2: -m<v.tmod m:=Int.lt_tmod_of_pos v hm;rw[dh ⟨af,af⟩,Int.tmod_eq_emod_of_nonneg af,Int.add_emod_right,Int.tmod_def,Int.sub_emod,Int.mul_emod_right];simp
def aBu{L R:List Value}{n f:Nat}(hL:L.length=n)(hf:f≤n)(hR:R.length=n):
  (((R.take 0++((L.drop f).take (n - f)++R.drop (0+(n - f)))).take (n - f))++(L.take f++(R.take 0++((L.drop f).take (n - f)++R.drop (0+(n - f)))).drop (n - f+f)))=L.drop f++L.take f:=by
 have e1:(L.drop f).take (n - f)=L.drop f:=List.take_of_length_le (by simp;omega)
 have e2:(L.drop f).length=n - f:=by simp;omega
 rw[e1,List.take_zero,List.nil_append,Nat.zero_add,List.take_append_of_le_length af,List.take_of_length_le af];rw[List.drop_of_length_le (i:=n - f+f) (by simp;omega),List.append_nil]
variable{self:Int}
def aeo{on idle:Int}{k:Sl×Int→ap}(h1:1≤n)(h2:n≤16)(h3:0≤self)(h4:self<n)
  (hk:∀s w',Ext w w'→Go.Ev.Own w' w.heap.size s (ints (VU v (xI self on idle n.toNat)))→k (s,0) w'):rj v self n on idle w k:=by
 unfold rj;refine aU (by simp;omega) ?_
 refine bP (λs w'=>Ext w w'∧Go.Ev.Own w' w.heap.size s (ints (xI self on idle n.toNat))) ?_ ?_
 ·intro J A;refine ot (fun(x:Sl×Int) w'=> ∃i:Nat,x.2=i∧i≤n.toNat∧Ext w w'∧Go.Ev.Own w' w.heap.size x.1 (ints (xI self on idle i))) (λx _=>(n - x.2).toNat) ⟨0,rfl,af,.refl _ _,by simpa[xI,ints]using Own.nil w _⟩ ?_
  rintro⟨s,x⟩ w1 ⟨i,hx,hi,he,hown⟩ C hC;simp only at hx;subst hx;refine ax (λhlt=> ?_) (λhge=> ?_)
  ·have hlt:(i:Int)<n:=by simpa using hlt
   refine bP (λb w2=>w2=w1∧b=aaj self on idle i) ?_ ?_
   ·intro S a;refine ax (λhne=> ?_) (λheq=> ?_)
    ·refine amU bf (a _ _ ⟨rfl,?_⟩);simp only;rw[aDf (aic _ _) af af,iZ,Vc _ _ af];simp only[aaj,hne,Bool.true_and]
    ·refine a _ _ ⟨rfl,?_⟩;simp only[aaj,heq,Bool.false_and]
   ·rintro b w2 ⟨rfl,rfl⟩;have hw:IntKind.i64.wrap ((i:Int)+1)=((i+1:Nat):Int):=by rw[dh ⟨af,af⟩];simp
    refine ax (λhb=> ?_) (λhb=> ?_)
    ·refine jJ λg w3 hg B D y=> ?_;have hl:=ae9 self on idle i;refine awT (x:=⟨some ⟨g,0,none⟩,1,1⟩) (ys:=ints [(i:Int)]) elL rfl elL.1 (hown.ext y) (WJ D rfl 1) IK (by have:=he.size;omega) (by simp;omega) (by simp;omega) λs' F G H I=> ?_
     refine hC _ _ ⟨i+1,hw,af,?_,?_⟩ (by simp only[hw];omega)
     ·exact(he.trans y).then H (hown.out (iw _))
     ·rw[acO,if_pos hb];simpa[ints]using G
    ·refine hC _ _ ⟨i+1,hw,af,he,?_⟩ (by simp only[hw];omega)
     rw[acO,if_neg (by simp[hb]),List.append_nil]
     exact hown
  ·have hge:¬(i:Int)<n:=by simpa using hge
   have:i=n.toNat:=af;exact A _ _ ⟨he,this▸hown⟩
 ·rintro s w1 ⟨he,hown⟩;have hl:=ae9 self on idle n.toNat;have hlen:=hown.len;simp only[ints,List.length_map]at hlen;refine ax (λh0=> ?_) (λh0=> ?_)
  ·have h0:s.n=0:=by simpa using h0
   have e:xI self on idle n.toNat=[]:=List.eq_nil_of_length_eq_zero af;refine hk _ _ he ?_;rw[e];simpa[VU,ints]using Own.nil w1 _
  ·have h0:s.n≠0:=by simpa using h0
   refine amT af (amT af ?_);have hf:=alj (v:=v) (m:=s.n) af af;simp only[abl]at hf;rw[hf];have j:0≤v % s.n:=Int.emod_nonneg _ af;have K:v % s.n<s.n:=Int.emod_lt_of_pos _ af;refine amV elL rfl he.size af af λso w2 l o z L M T=>abS (hown.ext o) j af λd hd hdn hdb N=> ?_;have hne:∀g,so.au=some g→∀g',s.au=some g'→g'≠g:=by
    intro g hg g' O e;have:=(hown.below O).2;rw[M]at hg;cases hg;omega
   refine abT elL l (Part.all so) N.sls (λv hv=>IK v (List.mem_of_mem_drop hv)) λw3 q c B=> ?_;rw[z,hdn,show min s.n (s.n - (v % s.n).toNat)=s.n - (v % s.n).toNat by omega]at q ⊢
   refine abS q af af λd2 r t P Q=> ?_;have hs':Hj 1 w3 s (ints (xI self on idle n.toNat)):=(hown.ext o).sls.keep c λp hp hg=>hne _ hg _ (by simp[Sl.au,hp]) rfl
   refine abT elL q r hs' IK λF f u R=>hk _ _ ?_ ?_
   ·exact((he.trans o).then c (l.out (iw _))).then u (l.out (iw _))
   ·have e:VU v (xI self on idle n.toNat)=(xI self on idle n.toNat).drop (v % s.n).toNat++(xI self on idle n.toNat).take (v % s.n).toNat:=by rw[VU,hlen]
    rw[e];rw[t,z,show min (s.n - ((s.n - (v % s.n).toNat:Nat):Int).toNat) s.n=(v % s.n).toNat by omega]at f
    simp only[iZ]at f;rw[aBu (by simp;omega) af bf]at f
    simpa[ints]using f
def Lw(g:Nat)(D:List Int):HP:=Gt λs:Sl=>l9 [au g [.slice s.a s.n s.c],bG 1 s (ints D)]
variable{vs:List Value}
section
variable{L R:List HP}{D:List Int}
def afa(h:St w0 w (Lw g D::R)):∃s:Sl,St w0 w (au g [.slice s.a s.n s.c]::bG 1 s (ints D)::R):=by
 obtain⟨s,h⟩:=h.some;exact⟨s,h.open⟩
def MB{s:Sl}(h:St w0 w (au g [.slice s.a s.n s.c]::bG 1 s (ints D)::R)):St w0 w (Lw g D::R):=
 St.ex s (St.shut h)
def _root_.Go.Ev.qo.aAb{s:Sl}(h:qo 1 w s vs):Go.Ev.Own w 0 s vs:=by
 refine⟨by have:=h.len;omega,h.cap,h.max,h.one,h.row.imp id ?_⟩
 rintro⟨g,off,cs,h1,h2,h3,h4⟩;exact⟨g,off,cs,h1,Nat.zero_le _,h2,af,h4⟩
def _root_.Go.Ev.Own.s1{s:Sl}{B:Nat}(h:Go.Ev.Own w B s vs):qo 1 w s vs:=by
 refine⟨by have:=h.len;omega,h.cap,h.max,h.one,h.row.imp id ?_⟩
 rintro⟨g,off,cs,h1,_,h2,h3,h4⟩;exact⟨g,off,cs,h1,h2,af,h4⟩
def axP{e:TypeId}{ty:TypeId}{b:Nat}{z:Value}{s:Sl}{v:Value}{c:Int→ap}(h:St w0 w L)[a:At L (bG 1 s) (v::vs) f](ht:ElT P t e b z)
  (hc:∀w' l,St w0 w' (f (bG 1 s (vs++[l])))→c (vs.length:Nat) w'):slL s 1 (1:Int) λd=>U1 P #[t,t] ty [.slice s.a s.n s.c,.slice d.a d.n d.c] w c:=by
 have hn:=qY (s:=s) h;have ho:qo 1 w s (v::vs):=h.own;refine abS ho.aAb af (by simp at hn;omega) λd hp hd _ g=> ?_
 have hdn:d.n=vs.length:=by rw[hd,hn];simp
 have hmin:min s.n d.n=vs.length:=by rw[hdn,hn];simp
 refine abT ht ho.aAb (Part.all s) g.sls g.one λw' i j _=> ?_;rw[hmin]at i ⊢;have hlt:vs.length<(v::vs).length:=by simp
 have e:(v::vs).take 0++(((v::vs).drop (1:Int).toNat).take vs.length++(v::vs).drop (0+vs.length))=vs++[(v::vs)[vs.length]]:=by
  rw[List.take_zero,List.nil_append,Nat.zero_add,List.drop_eq_getElem_cons hlt];simp
 rw[e]at i;refine hc w' _ (h.M8 a λm hF=>⟨j.mono λk _ hk=>(hF.1 k).2 hk,m,⟨hF.1,i.s1⟩,λk hk=> .inl hk⟩)
def elD:ElT Tryz.prog 156 2 8 (.int .i64 0):=⟨aZ,aZ⟩
def att{k:Option Addr→ap}(h:St w0 w L)(hk:∀g w',St w0 w' (Lw g []::L)→k (some ⟨g,0,none⟩) w'):ng w k:=by
 unfold ng;refine aM h λg w h=>hk g w (MB (s:=⟨none,0,0⟩) ?_);exact(h.DJ 1).swap
def ape(h:St w0 w L)[a:At L (Lw g) D f](hk:∀w',St w0 w' (f (Lw g D.tail))→k (D.headD 0) w'):mA (some ⟨g,0,none⟩) w k:=by
 unfold mA;obtain⟨R,ho,hb⟩:=a.out;obtain⟨s,h⟩:=afa (ho h);have hn:=qY (s:=s) h;refine bP (λb w'=>b=D.isEmpty∧w'=w) (λJ c=> ?_) ?_
 ·refine n8<|c _ _ ⟨?_,rfl⟩;cases D with
  |nil=>simp at hn;simp[hn]
  |cons x D=>simp at hn;simp[hn];omega
 rintro _ _ ⟨rfl,rfl⟩;cases D with
 |nil=>exact bK rfl (hk _ (hb (MB h)))
 |cons x D=>
  refine aU rfl<|n8 ?_;refine vI h af rfl<|pS λw h=>axP h elD λw l h=> ?_;refine pS λw h=> ?_;have e:s.n=D.length+1:=gq hn
  show Th s 1 0 (aF .i64 (((s.n:Nat):Int) - 1)) _;have e0:aF .i64 (((s.n:Nat):Int) - 1)=(D.length:Nat):=by
   have:=(h.own (sz:=1) (s:=s)).max;have:=(h.own (sz:=1) (s:=s)).cap;rw[e,kg ⟨af,af⟩];omega
  rw[e0];refine am1 h af (by simp;omega) λd hd h=> ?_
  have e1:(ints D++[l]).take ((D.length:Nat):Int).toNat=ints D:=by
   rw[iZ,List.take_append_of_le_length bf,List.take_of_length_le bf]
  rw[e1]at h;refine pS λw h=>hk w (hb (MB h))
def atu{l:Sl}{gx:Nat}(h:St w0 w (au gx [.int .i64 x]::Lw g D::R))(hk:D.length<1024→∀w',St w0 w' (Lw g (D++[x])::R)→k 0 w')(a:¬D.length<1024→∀w',St w0 w' (Lw g D::R)→k 20 w')(hD:D.length≤1024):
  nN (some ⟨g,0,none⟩) ⟨some ⟨gx,0,none⟩,1,1⟩ w k:=by
 unfold nN;obtain⟨s,h⟩:=afa h.swap;have hn:=qY (s:=s) h;have c:s.n=D.length:=gq hn
 refine n8 ?_;show an (decide (((1:Nat):Int)>aF .i64 ((1024:Int) - ((s.n:Nat):Int)))) _ _;rw[c,kg ⟨af,af⟩];by_cases hl:D.length<1024
 ·refine aU (by simp;omega) ?_
  refine n8<|I9 (s:=s) h (b:=8) (z:= .int .i64 0) ⟨aZ,rfl⟩ aZ rfl (by simp;omega) af λs' w h hn'=> ?_
  refine pS λw h=>hk hl w (MB (s:=s') ?_);have e:ints (D++[x])=ints D++[.int .i64 x]:=by simp[ints]
  rw[e];exact h.rm 2 rfl
 ·refine bK (by simp;omega) (a hl w (MB (h.rm 2 rfl)))
def atv{on idle:Int}{k:Sl×Int→ap}(h:St w0 w L)(h1:1≤n)(h2:n≤16)(h3:0≤self)(h4:self<n)
  (hk:∀s w',St w0 w' (bG 1 s (ints (VU v (xI self on idle n.toNat)))::L)→k (s,0) w'):rj v self n on idle w k:=by
 refine aeo h1 h2 h3 h4 λs w' he ho=>hk s w'<|h.new he ⟨λk=>Iff.rfl,ho.s1⟩ λk hk=>(ho.below hk).1
end
def aDZ(b:Option Code):Array Oper:=match b with|some (.seq _ (.seq _ (.seq (.region _ ops _) _)))=>ops|_=> #[]
noncomputable def atw:Array Oper:=aDZ Tryz.f340.body
def ans(e:Env)(w:World)(k:Int→ap):Prop:=
 abq Tryz.prog (kC []) atw (atw.toList.drop 5) e w λe w=>lP (e.keep 21) λe=>amG Tryz.prog Tryz.f340.results.toList (λl w=>qW [.i .i64] l λx=>k x w) .ret e w
def atx(x n a m:Int):Env:=[(9,.val (.int .u64 m)),(8,.val (.int .u64 a)),(7,.val (.int .u64 n)),(6,.val (.int .u64 x)),(5,.val (.int .u64 x)),(4,.val (.bool (x==0))),(2,.val (.int .i64 0)),(0,.val (.int .u64 x))]
def tzB(x n a m:Int)(w:World)(k:Int→ap):ans (atx x n a m) w k=Hf (Addr.mk 3 0 none) 64 (IR .u64 m 58) 1 λa1=>aJ .u8 w a1 λi2=>k (aF .i64 i2) w:=by kernel_rfl
def tzA(x:Int)(w:World)(k:Int→ap):bT x w k=an (x==0) (k 64 w)
 (ans (atx x (aF .u64 (0 - x)) (oH .u64 x (aF .u64 (0 - x))) (aF .u64 ((oH .u64 x (aF .u64 (0 - x)))*285870213051353865))) w k):=by kernel_rfl
def alk:List Nat:=[0,1,56,2,57,49,28,3,61,58,42,50,38,29,17,4,62,47,59,36,45,43,51,22,53,39,33,30,24,18,12,5,63,55,48,27,60,41,37,16,46,35,44,21,52,32,23,11,54,26,40,15,34,20,31,10,25,14,19,9,13,8,7,6]
def TZ(w:World):Prop:=∀i,i<64→w.cell? ⟨3,i,none⟩=some (.int .u8 (alk.getD i 0:Nat))
def axQ:∀i,i<64→alk.getD ((2 ^ i*285870213051353865 % 2 ^ 64) / 2 ^ 58) 0=i∧(2 ^ i*285870213051353865 % 2 ^ 64) / 2 ^ 58<64:=e7
def low(x i:Nat):Prop:=x.testBit i=true∧∀j,j<i→x.testBit j=false
def ant{x:Nat}(h:0<x):∃i,low x i:=by
 obtain⟨j,hj⟩:=Nat.exists_testBit_of_ne_zero (by omega:x≠0)
 induction j using Nat.strongRecOn with
 |_ j ih=>
  by_cases hl:∃i,i<j∧x.testBit i=true
  ·obtain⟨i,hi,hx⟩:=hl;exact ih i hi hx
  ·exact⟨j,hj,λi hi=>by
    cases hb:x.testBit i with
    |false=>rfl
    |true=>exact(hl ⟨i,hi,hb⟩).elim⟩
def XV{x i:Nat}(h:low x i)(hx:x<2 ^ 64):i<64:=by
 apply Classical.byContradiction;intro hn;have:=Nat.testBit_lt_two_pow (Nat.lt_of_lt_of_le hx (Nat.pow_le_pow_right af (by omega:64≤i)))
 rw[h.1]at this;cases this
def axR{x i:Nat}(h:low x i)(hx:x<2 ^ 64):(BitVec.ofNat 64 x&&& -(BitVec.ofNat 64 x)).toNat=2 ^ i:=by
 have hi:=XV h hx;apply Nat.eq_of_testBit_eq;intro j;rw[BitVec.testBit_toNat,BitVec.getLsbD_and,BitVec.getLsbD_neg,Nat.testBit_two_pow];by_cases hj:j<64
 ·have hb:∀m,m<64→(BitVec.ofNat 64 x).getLsbD m=x.testBit m:=λm hm=>by rw[BitVec.getLsbD_ofNat];simp[hm]
  rw[hb j hj];simp only[hj,decide_true,Bool.true_and];by_cases hij:i=j
  ·subst hij;rw[h.1];have:¬∃m<i,(BitVec.ofNat 64 x).getLsbD m=true:=by
    rintro⟨m,hm,a⟩;rw[hb m af,h.2 m hm]at a;cases a
   simp[this]
  ·cases b:x.testBit j with
   |false=>simp[hij]
   |true=>
    have hlt:i<j:=by
     apply Classical.byContradiction;intro hn;have:=h.2 j af;rw[b]at this;cases this
    have:∃m<j,(BitVec.ofNat 64 x).getLsbD m=true:=⟨i,hlt,by rw[hb i hi];exact h.1⟩
    simp[this,hij]
 ·have:i≠j:=af;simp[hj,this];rw[BitVec.getLsbD_of_ge _ _ af]
def Ds:IntKind.u64.wrap x=x % 18446744073709551616:=by
 unfold aF;simp[IntKind.bits,IntKind.signed]
def aAc{L:List HP}{x i:Nat}(h:St w0 w L)(hT:TZ w0)(hl:low x i)(hx:x<2 ^ 64)(hk:k i w):bT (x:Int) w k:=by
 have hi:=XV hl hx;have h0:x≠0:=by
  intro e;subst e;have:=hl.1;simp at this
 rw[tzA,tzB];refine aU (by simp;omega) ?_
 have e1:oH .u64 (x:Int) (aF .u64 (0 - (x:Int)))=((2 ^ i:Nat):Int):=by
  have hand:∀a b:Int,oH .u64 a b=IntKind.u64.wrap ((BitVec.ofInt 64 a&&&BitVec.ofInt 64 b).toNat:Nat):=λ_ _=>rfl;have hw:aF .u64 (0 - (x:Int))=((2 ^ 64 - x:Nat):Int):=by rw[Ds];omega
  rw[hw,hand];simp only[BitVec.ofInt_natCast];have hneg:BitVec.ofNat 64 (2 ^ 64 - x)= -(BitVec.ofNat 64 x):=by
   apply BitVec.eq_of_toNat_eq;simp[BitVec.toNat_neg];omega
  rw[hneg,axR hl hx,Ds];have:2 ^ i<2 ^ 64:=Nat.pow_lt_pow_right af hi;generalize 2 ^ i=m at*
  omega
 have e2:IR .u64 (aF .u64 (((2 ^ i:Nat):Int)*285870213051353865)) 58=(((2 ^ i*285870213051353865 % 2 ^ 64) / 2 ^ 58:Nat):Int):=by
  unfold IR;rw[Ds];have hm:min (58:Int).toNat IntKind.u64.bits=58:=e7;rw[hm,Int.fdiv_eq_ediv_of_nonneg _ e7];rw[Int.natCast_ediv,Int.natCast_emod,Int.natCast_mul];rfl
 rw[e1,e2];obtain⟨t1,t2⟩:=axQ i hi;refine⟨⟨af,af⟩,?_⟩;rw[dg,iZ,Nat.zero_add,Nat.mul_one];refine uZ (h.ext.cell (hT _ t2)) ?_;rw[t1,kg ⟨af,af⟩];exact hk
def bitsOf(x:Nat):List Nat:=(List.range 64).filter x.testBit
def aiV{x y i:Nat}(hi:i<64)(h:low x i)(hy:∀j,y.testBit j=(x.testBit j&&decide (j≠i))):bitsOf x=i::bitsOf y:=by
 unfold bitsOf;have e:List.range 64=List.range i++i::(List.range (64 - (i+1))).map (·+(i+1)):=by
  have e1:(64:Nat)=i+((64 - (i+1))+1):=af;conv=>lhs;rw[e1,List.range_add,List.range_succ_eq_map]
  simp only[List.map_cons,List.map_map,Nat.add_zero];congr 2;apply List.map_congr_left;intro a _;simp only[Function.comp,Nat.succ_eq_add_one];omega
 have f1:(List.range i).filter x.testBit=[]:=List.filter_eq_nil_iff.2 λj hj=>by rw[h.2 j (List.mem_range.1 hj)];simp
 have f2:(List.range i).filter y.testBit=[]:=List.filter_eq_nil_iff.2 λj hj=>by rw[hy,h.2 j (List.mem_range.1 hj)];simp
 rw[e,List.filter_append,List.filter_append,f1,f2,List.filter_cons,List.filter_cons,h.1,hy i,h.1];simp only[if_true,List.nil_append,ne_eq,not_true_eq_false,decide_false,Bool.and_false,Bool.false_eq_true,if_false];congr 1;apply List.filter_congr;intro j hj;obtain⟨m,_,rfl⟩:=List.mem_map.1 hj;rw[hy];have:m+(i+1)≠i:=af;simp[this]
def alm{x i:Nat}(h:low x i)(hx:x<2 ^ 64):∀j,(x&&&(x - 1)).testBit j=(x.testBit j&&decide (j≠i)):=by
 have hi:=XV h hx;have hx0:0<x:=by
  apply Classical.byContradiction;intro hn;have:x=0:=af;subst this;have:=h.1;simp at this
 have e:x&&&(x - 1)=(BitVec.ofNat 64 x&&&~~~(-(BitVec.ofNat 64 x))).toNat:=by
  rw[BitVec.toNat_and,BitVec.toNat_not,BitVec.toNat_neg,BitVec.toNat_ofNat,Nat.mod_eq_of_lt hx];congr 1;omega
 intro j;rw[e,BitVec.testBit_toNat,BitVec.getLsbD_and,BitVec.getLsbD_not,BitVec.getLsbD_neg];by_cases hj:j<64
 ·have hb:∀m,m<64→(BitVec.ofNat 64 x).getLsbD m=x.testBit m:=λm hm=>by rw[BitVec.getLsbD_ofNat];simp[hm]
  rw[hb j hj];simp only[hj,decide_true,Bool.true_and];by_cases hij:j=i
  ·subst hij;rw[h.1];have:¬∃m<j,(BitVec.ofNat 64 x).getLsbD m=true:=by
    rintro⟨m,hm,a⟩;rw[hb m af,h.2 m hm]at a;cases a
   simp[this]
  ·cases b:x.testBit j with
   |false=>simp
   |true=>
    have hlt:i<j:=by
     apply Classical.byContradiction;intro hn;have:=h.2 j af;rw[b]at this;cases this
    have:∃m<j,(BitVec.ofNat 64 x).getLsbD m=true:=⟨i,hlt,by rw[hb i hi];exact h.1⟩
    simp[this,hij]
 ·have:=Nat.testBit_lt_two_pow (Nat.lt_of_lt_of_le hx (Nat.pow_le_pow_right af (by omega:64≤j)))
  rw[this,BitVec.getLsbD_of_ge _ _ af];simp
def aty{x:Nat}(hx:x<2 ^ 64)(h0:0<x):oH .u64 (x:Int) (aF .u64 ((x:Int) - 1))=((x&&&(x - 1):Nat):Int):=by
 have hand:∀a b:Int,oH .u64 a b=IntKind.u64.wrap ((BitVec.ofInt 64 a&&&BitVec.ofInt 64 b).toNat:Nat):=λ_ _=>rfl;have hw:aF .u64 ((x:Int) - 1)=((x - 1:Nat):Int):=by rw[Ds];omega
 rw[hw,hand];simp only[BitVec.ofInt_natCast,BitVec.toNat_and,BitVec.toNat_ofNat];rw[Nat.mod_eq_of_lt hx,Nat.mod_eq_of_lt af,Ds];have:x&&&(x - 1)≤x:=Nat.and_le_left;omega
def apf:bitsOf 0=[]:=e7
def apg{v:Value}{a:Addr}(h:Cj Y v a w λr w=>c (.tuple #[]) w):ug Y [v,.pointer (some a)] w c:=h
section
variable{L R:List HP}
def afb{x:Nat}(h:St w0 w L)(hT:TZ w0)(hx:x<2 ^ 63)(hk:∀w',St w0 w' L→k ((bitsOf x).length:Nat) w'):kS (x:Int) w k:=by
 unfold kS Lj pQ;refine aM h λgn w h=>zE λgx w h=>S1 h λlr D a w h=>My (apg ?_);unfold Cj EA;refine n8 ?_;have b:x<2 ^ 64:=Nat.lt_trans hx e7;have hw:aF .u64 (x:Int)=(x:Int):=by rw[Ds];omega
 rw[hw];refine DN (λq i w=>i=(q.2:Int)∧q.2<2 ^ 64∧q.1+(bitsOf q.2).length=(bitsOf x).length∧St w0 w (au gx [.int .i64 (x:Int)]::obj lr (a .ready)::obj D (.deferred (some []))::au gn [.int .i64 (q.1:Nat)]::L)) (λq=>(bitsOf q.2).length)
  (g:=(0,x)) ⟨rfl,b,bf,h.perm Hp⟩ ?_
 rintro⟨m,y⟩ _ w ⟨rfl,hy,hm,h⟩ C hC;dsimp only at hy hm h hC ⊢;have f:(bitsOf x).length≤64:=by unfold bitsOf;exact Nat.le_trans (List.length_filter_le _ _) bf
 by_cases hy0:y=0
 ·subst hy0;refine aU bf ?_;refine⟨DM h,?_⟩;replace h:=AV (g:=lr) (a .exhausted) h;generalize w.putObj lr (a .exhausted)=w at h ⊢;refine n8 ?_;have h:=LK ((QR h).perm Hp);refine LL h λw h=> ?_;rw[apf]at hm;simp only[List.length_nil,Nat.add_zero]at hm;rw[hm];exact hk w (((h.rm 0 rfl).rm 0 rfl).rm 0 rfl)
 ·obtain⟨i,hl⟩:=ant (by omega:0<y)
  have hi:=XV hl hy;refine bK (by simp;omega) ?_
  refine aAc h hT hl hy<|QS<|amZ (i:Int) (λc hc=>hc) h λw h=>pS λw h=> ?_;refine⟨DM h,?_⟩;replace h:=AV (g:=lr) (a .ready) h;generalize w.putObj lr (a .ready)=w at h ⊢;refine ags<|n8 ?_;have d:=aiV hi hl (alm hl hy);have hlen:(bitsOf y).length=(bitsOf (y&&&(y - 1))).length+1:=by rw[d];rfl
  rw[aty hy af];have hle:y&&&(y - 1)≤y:=Nat.and_le_left;refine hC (m+1,y&&&(y - 1)) _ w ⟨rfl,af,by dsimp only;omega,?_⟩ (by dsimp only;omega)
  have e:aF .i64 ((m:Int)+1)=((m+1:Nat):Int):=by rw[kg ⟨af,af⟩];omega
  rw[←e];exact h
def XW(x:Nat)(n:Int):Int:=match (List.range 64).find? (λj=> !x.testBit j)with|some j=>if (j:Int)≥Wg n 64 then -1 else j|none=> -1
def atz{x:Nat}(hx:x<2 ^ 64):JV .u64 18446744073709551615 (x:Int)=((2 ^ 64 - 1 - x:Nat):Int):=by
 have c:∀a b:Int,JV .u64 a b=IntKind.u64.wrap ((BitVec.ofInt 64 a ^^^ BitVec.ofInt 64 b).toNat:Nat):=λ_ _=>rfl;rw[c];have e1:BitVec.ofInt 64 18446744073709551615=BitVec.allOnes 64:=e7;rw[e1,BitVec.allOnes_xor,BitVec.toNat_not,Ds];simp only[BitVec.ofInt_natCast,BitVec.toNat_ofNat];rw[Nat.mod_eq_of_lt hx];omega
def acP{x j:Nat}(hx:x<2 ^ 64)(hj:j<64):(2 ^ 64 - 1 - x).testBit j= !x.testBit j:=by
 have:=Nat.testBit_two_pow_sub_succ hx j;rw[show 2 ^ 64 - 1 - x=2 ^ 64 - (x+1) by omega,this]
 simp[hj]
def aph{x:Nat}(h:St w0 w L)(hT:TZ w0)(hx:x<2 ^ 63)(hk:∀w',St w0 w' L→k (XW x n) w'):sI (x:Int) n w k:=by
 unfold sI Ll;have hw:aF .u64 (x:Int)=(x:Int):=by rw[Ds];omega
 rw[hw,atz af];have hpos:0<2 ^ 64 - 1 - x:=af;obtain⟨i,hl⟩:=ant hpos;have hi:=XV hl af;have hk:=hk w h;unfold XW at hk;have hf:(List.range 64).find? (λj=> !x.testBit j)=some i:=by
  rw[List.find?_range_eq_some];refine⟨by rw[←acP af hi];exact hl.1,gq hi,λj hj=> ?_⟩
  have:=hl.2 j hj;rw[acP af af]at this;simpa using this
 rw[hf]at hk;dsimp only at hk;refine aAc h hT hl af<|ax (λhb=> ?_) λhb=> ?_
 ·rw[if_pos (of_decide_eq_true hb)]at hk;exact hk
 ·rw[if_neg (of_decide_eq_false hb)]at hk;exact hk
def tD(x i:Int):Bool:=if 0≤i∧i<64 then oH .i64 (IR .i64 x i) 1==1 else false
def ag6{k:Bool→ap}(hk:k (tD x i) w):kK x i w k:=by
 unfold kK;unfold tD at hk;refine ax (λhb=> ?_) λhb=> ?_
 ·have hb:0≤i∧i<64:=by simpa using hb
  rw[if_pos hb]at hk;exact amU hb.1 hk
 ·have hb:¬(0≤i∧i<64):=by simpa using hb
  rw[if_neg hb]at hk;exact hk
end
structure Sp where
 at_:Int
 base:Int
 most:Int
def Sp.OK(s:Sp):Prop:=1≤s.base∧s.base≤16∧0≤s.most∧s.most≤16 - s.base
abbrev Sp.ag(s:Sp):Array Value:=#[.int .i64 s.at_,.int .i64 s.base,.int .i64 s.most]
def Sp.bb(s:Sp):Int:=wr (sD .i64 1 s.base - 1)
structure jH where
 self:Int
 wait:Int
 on:Int
 ag7:Int
 next:Nat
def spF:Nat→Nat
 |1=>vg
 |2=>vf
 |3=>u9
 |4=>vh
 |5=>ve
 |_=>sL
def aBw(g:Nat):Nat→Value
 |0=> .nilFunc
 |n+1=> .func (.func (spF (n+1))) #[.pointer (some ⟨g,0,none⟩)] #[]
def jH.cells(s:Sp)(g:Nat)(o:jH):List Value:=[.int .i64 s.at_,.int .i64 s.base,.int .i64 s.most,.int .i64 o.self,.int .i64 o.wait,.int .i64 o.on,.int .i64 o.ag7,aBw g o.next]
def aak(x:Int):Int:=((bitsOf x.toNat).length:Nat)
section
variable(s:Sp)(M:bJ)(wk:Int)(o:jH)
def jH.more:jH×bJ:=({o with wait:=wr (M.get s.at_+1),next:=4},M.ad wk s.at_ 1)
def jH.less:jH×bJ:=({o with next:=0},M.ad wk s.at_ (-1))
def jH.look:jH×bJ:=({o with wait:=M.get s.at_,next:=5},M.tick wk)
def jH.need:jH×bJ:=(if aak (M.get (s.at_+1))<s.most∧aak (M.get (s.at_+1))<o.wait then{o with on:=M.get (s.at_+1),self:=XW (Ti .i64 (M.get (s.at_+1)) s.bb).toNat 16,next:=6}else{o with on:=M.get (s.at_+1),next:=0},M.tick wk)
def jH.many:jH×bJ:=(if tD (M.get (s.at_+1)) o.self=true∧aak (M.get (s.at_+1))>o.wait then{o with on:=M.get (s.at_+1),next:=6}else{o with on:=M.get (s.at_+1),next:=0},M.tick wk)
def jH.aeR:jH×bJ:=(let r:=M.cs wk (s.at_+1) o.on (JV .i64 o.on (sD .i64 1 (ZR o.self 0)));(if r.2 then{o with ag7:=o.self,next:=0}else{o with next:=0},r.1))
def jH.go:jH×bJ:=match o.next with
 |0=>(o,M)
 |1=>o.more s M wk
 |2=>o.less s M wk
 |3=>o.look s M wk
 |4=>o.need s M wk
 |5=>o.many s M wk
 |_=>o.aeR s M wk
end
section
variable{L R:List HP}{gm:Nat}{s:Sp}{o:jH}
def VW{k:Bool→ap}(h:St w0 w L)(hs:s.OK)(hk:∀w',St w0 w' L→k true w'):cf s.ag w k:=by
 obtain⟨h1,h2,h3,h4⟩:=hs;unfold cf;refine zE λgx w h=> ?_;refine bK (gq h1) ?_
 refine n8 ?_;refine bK (gq h2) ?_
 refine n8 ?_;refine bK (gq h3) ?_
 refine n8 ?_;show k (decide (s.most≤aF .i64 (16 - s.base))) w;rw[kg ⟨af,af⟩,decide_eq_true h4];exact hk w h.drop
def afc(h:St w0 w L)(hs:s.OK)(hk:∀w',St w0 w' L→k s.bb w'):eb s.ag w k:=by
 obtain⟨h1,h2,h3,h4⟩:=hs;unfold eb;refine zE λgx w h=> ?_;refine Gf af<|hk w h.drop
def Sp.bits(s:Sp)(M:bJ):Int:=Ti .i64 s.bb (M.get (s.at_+1))
def afd(h:St w0 w L)[a:At L (bH gm) M f](hs:s.OK)(c:M.OK)(hc:M.given (s.at_+1)=true)(hk:∀w',St w0 w' L→k (s.bits M) w'):ec s.ag (some ⟨gm,0,none⟩) w k:=by
 unfold ec zX;refine aM h λga w h=>bP (λb w=>b=false∧St w0 w (au ga s.ag.toList::L)) (λJ d=> ?_) ?_
 ·refine n8 ?_;refine VW h hs λw h=>d _ _ ⟨rfl,h⟩
 rintro _ w ⟨rfl,h⟩;refine pS λw h=>afc h hs λw h=> ?_;with_reducible repeat' (first|refine nP h ?_|fail)
 rw[y4 (.inr hc) c];refine KG h ?_;rw[if_pos hc];exact hk w h.drop
def anu{k:Bool→ap}(h:St w0 w L)[a:At L (bH gm) M f](hs:s.OK)(b:M.OK)(hc:M.given (s.at_+1)=true)(hk:∀w',St w0 w' L→k (tD (s.bits M) i) w'):dA s.ag (some ⟨gm,0,none⟩) i w k:=by
 unfold dA CR;refine aM h λga w h=>n8<|afd h hs b hc λw h=>ag6<|hk w h.drop
def atB{base:Int}{k:Array Value×Int→ap}(h:St w0 w L)[a2:At L (bH gm) M f](hs:Sp.OK ⟨0,base,most⟩)(hw:M.caller wk=true)(a:M.OK)
  (hk:M.room 2=true→∀w',St w0 w' (f (bH gm ((M.tick wk).grow 2)))→k (Sp.ag ⟨(M.cells.length:Nat),base,most⟩,0) w') (b:M.room 2=false→∀w',St w0 w' L→k (Sp.ag ⟨0,0,0⟩,21) w'):
  uA (some ⟨gm,0,none⟩) wk base most w k:=by
 unfold uA Nr;with_reducible repeat' (first|refine Vh h ?_|refine QU h λw h=> ?_|refine aM h λgx w h=> ?_|refine I8 ?_)
 refine VW h hs λw h=>n8 ?_;refine GU h a (λ_ _ hr w h=> ?_) (λ_ _ hr=> ?_) λhn=>(hn ⟨hw,af⟩).elim
 ·refine pS λw h=>hk hr w h.drop.drop
 ·refine pS λw h=>b hr w h.drop.drop
def jH.B7(self:Int)(n:Nat):jH:=⟨self,0,0, -1,n⟩
def atC{k:Option Addr→ap}(h:St w0 w L)(hk:∀g w',St w0 w' (au g (jH.cells s g (jH.B7 0 1))::L)→k (some ⟨g,0,none⟩) w'):jY s.ag w k:=by
 unfold jY;refine zE λgx w h=> ?_;refine⟨rfl,?_⟩;refine aM h λa w h=>pS λw h=>hk a w (h.rm 1 rfl)
def api{k:Option Addr→ap}(h:St w0 w L)(hk:∀g w',St w0 w' (au g (jH.cells s g (jH.B7 0 2))::L)→k (some ⟨g,0,none⟩) w'):iD s.ag w k:=by
 unfold iD;refine zE λgx w h=> ?_;refine⟨rfl,?_⟩;refine aM h λa w h=>pS λw h=>hk a w (h.rm 1 rfl)
def apj{k:Option Addr→ap}(h:St w0 w L)(hk:∀g w',St w0 w' (au g (jH.cells s g (jH.B7 self 3))::L)→k (some ⟨g,0,none⟩) w'):jv s.ag self w k:=by
 unfold jv;refine zE λgx w h=> ?_;refine⟨rfl,?_⟩;refine aM h λa w h=> ?_;with_reducible repeat' (first|refine Hq h λw h=> ?_|fail)
 exact hk a w (h.rm 1 rfl)
def atD(h:St w0 w L)[a:At L (au g) (jH.cells s g o) f](hk:k o.ag7 w):nM (some ⟨g,0,none⟩) w k:=by
 unfold nM;refine n8<|hk
end
abbrev afe(w0:World)(s:Sp)(g gm:Nat)(R:List HP)(k:Int→ap)(r:jH×bJ):Prop:=∀w',St w0 w' (au g (jH.cells s g r.1)::bH gm r.2::R)→k 0 w'
section
variable{R:List HP}{gm:Nat}{s:Sp}{o:jH}
def sp1(h:St w0 w (au g (jH.cells s g o)::bH gm M::R))(hc:M.can wk s.at_=true)(hk:afe w0 s g gm R k (o.more s M wk)):mh (some ⟨g,0,none⟩) (some ⟨gm,0,none⟩) wk w k:=by
 unfold mh FQ;refine n8<|cr h rfl ?_;refine VR h hc λw h=>pS λw h=>hk w h
def sp2(h:St w0 w (au g (jH.cells s g o)::bH gm M::R))(hc:M.can wk s.at_=true)(hk:afe w0 s g gm R k (o.less s M wk)):mi (some ⟨g,0,none⟩) (some ⟨gm,0,none⟩) wk w k:=by
 unfold mi FR;refine n8<|cr h rfl ?_;refine VR h hc λw h=>pS λw h=>hk w h
def sp3(h:St w0 w (au g (jH.cells s g o)::bH gm M::R))(hc:M.can wk s.at_=true)(hk:afe w0 s g gm R k (o.look s M wk)):mj (some ⟨g,0,none⟩) (some ⟨gm,0,none⟩) wk w k:=by
 unfold mj FT;refine n8<|cr h rfl ?_;refine ldc h hc λw h=>pS λw h=>hk w h
def axS{a b:Nat}(ha:a<2 ^ 63)(hb:b<2 ^ 63):Ti .i64 (a:Int) (b:Int)=((a|||b:Nat):Int)∧a|||b<2 ^ 63:=by
 have h:a|||b<2 ^ 63:=Nat.or_lt_two_pow ha hb;have c:∀a b:Int,Ti .i64 a b=IntKind.i64.wrap ((BitVec.ofInt 64 a|||BitVec.ofInt 64 b).toNat:Nat):=λ_ _=>rfl
 refine⟨?_,h⟩;rw[c];simp only[BitVec.ofInt_natCast,BitVec.toNat_or,BitVec.toNat_ofNat];rw[Nat.mod_eq_of_lt af,Nat.mod_eq_of_lt af,kg ⟨af,af⟩]
def axT(hs:s.OK):∃b:Nat,s.bb=b∧b<2 ^ 63:=by
 obtain⟨h1,h2,_⟩:=hs;have key:∀n:Nat,n<17→wr (sD .i64 1 (n:Int) - 1)=((2 ^ n - 1:Nat):Int)∧2 ^ n - 1<2 ^ 63:=e7;obtain⟨hb,hlt⟩:=key s.base.toNat af;refine⟨2 ^ s.base.toNat - 1,?_,hlt⟩;unfold Sp.bb;rw[show s.base=(s.base.toNat:Int) by omega];exact hb
def sp4(h:St w0 w (au g (jH.cells s g o)::bH gm M::R))(hT:TZ w0)(hs:s.OK)(d:M.OK)(hc:M.can wk (s.at_+1)=true)(hx:∃x:Nat,M.get (s.at_+1)=x∧x<2 ^ 63)(hk:afe w0 s g gm R k (o.need s M wk)):mo (some ⟨g,0,none⟩) (some ⟨gm,0,none⟩) wk w k:=by
 unfold mo FU;obtain⟨x,hx,a⟩:=hx;unfold jH.need at hk;rw[hx]at hk;have hp:aak (x:Int)=((bitsOf x).length:Nat):=rfl;refine n8<|cr h rfl ?_;rw[y4 (.inr (pe hc)) d];refine ldc h hc λw h=> ?_;rw[hx];refine pS λw h=>afb h hT a λw h=> ?_;rw[←hp];refine bP (λb w'=>w'=w∧b=decide (aak (x:Int)<s.most∧aak (x:Int)<o.wait)) (λJ c=> ?_) ?_
 ·refine n8<|cr (g:=g) h rfl<|ax (λhb=> ?_) λhb=> ?_
  ·have hb:=of_decide_eq_true hb;refine n8<|c _ _ ⟨rfl,?_⟩;simp[hb,jH.cells]
  ·have hb:=of_decide_eq_false hb;refine c _ _ ⟨rfl,?_⟩;simp[hb]
 rintro _ _ ⟨rfl,rfl⟩;refine ax (λhb=> ?_) λhb=> ?_
 ·rw[if_pos (of_decide_eq_true hb)]at hk;refine n8<|afc h hs λw h=> ?_;obtain⟨b,e,f⟩:=axT hs;have ho:=axS a f;rw[e,ho.1]at hk ⊢;refine aph h hT ho.2 λw h=>pS λw h=>hk w h
 ·rw[if_neg (of_decide_eq_false hb)]at hk;exact hk _ h
def sp5(h:St w0 w (au g (jH.cells s g o)::bH gm M::R))(hT:TZ w0)(hs:s.OK)(d:M.OK)(hc:M.can wk (s.at_+1)=true)(hx:∃x:Nat,M.get (s.at_+1)=x∧x<2 ^ 63)(hk:afe w0 s g gm R k (o.many s M wk)):mq (some ⟨g,0,none⟩) (some ⟨gm,0,none⟩) wk w k:=by
 unfold mq FV;obtain⟨x,hx,a⟩:=hx;unfold jH.many at hk;rw[hx]at hk;have hp:aak (x:Int)=((bitsOf x).length:Nat):=rfl;refine n8<|cr h rfl ?_;rw[y4 (.inr (pe hc)) d];refine ldc h hc λw h=> ?_;rw[hx];refine pS λw h=>bP (λb w'=>St w0 w' (au g (jH.cells s g {o with on:=(x:Int),next:=0})::bH gm (M.tick wk)::R)∧b=decide (tD (x:Int) o.self=true∧aak (x:Int)>o.wait)) (λJ c=> ?_) ?_
 ·refine pS λw h=>ag6 (ax (λhb=> ?_) λhb=> ?_)
  ·refine n8<|afb h hT a λw h=> ?_;with_reducible repeat' (first|refine nP h ?_|fail)
   rw[←hp];refine c _ _ ⟨h,?_⟩;have hb:tD (x:Int) o.self=true:=hb;simp[hb,jH.cells]
  ·refine c _ _ ⟨h,?_⟩;have hb:tD (x:Int) o.self=false:=hb;simp[hb]
 rintro _ w ⟨h,rfl⟩;refine ax (λhb=> ?_) λhb=> ?_
 ·rw[if_pos (of_decide_eq_true hb)]at hk;refine pS λw h=>hk w h
 ·rw[if_neg (of_decide_eq_false hb)]at hk;exact hk _ h
def sp6(h:St w0 w (au g (jH.cells s g o)::bH gm M::R))(a:M.OK)(hc:M.can wk (s.at_+1)=true)(hk:afe w0 s g gm R k (o.aeR s M wk)):mr (some ⟨g,0,none⟩) (some ⟨gm,0,none⟩) wk w k:=by
 unfold mr FW;unfold jH.aeR at hk;refine pS λw h=>cr h rfl ?_;refine n8 ?_;refine Gf (by unfold ZR;split<;>simp_all) ?_
 rw[y4 (.inr (pe hc)) a];refine ank h hc λw h=>pS λw h=>ax (λhb=> ?_) λhb=> ?_
 ·have hb:(M.cs wk (s.at_+1) o.on (JV .i64 o.on (sD .i64 1 (ZR o.self 0)))).2=true:=hb;simp only[hb,if_true]at hk;refine pS λw h=>hk w h
 ·have hb:(M.cs wk (s.at_+1) o.on (JV .i64 o.on (sD .i64 1 (ZR o.self 0)))).2=false:=hb;simp only[hb,Bool.false_eq_true,if_false]at hk;exact hk w h
def atE(h:mh a b i w λr w=>c (.int .i64 r) w):Md [.pointer a,.pointer b,.int .i64 i] w c:=h
def atF(h:mi a b i w λr w=>c (.int .i64 r) w):Me [.pointer a,.pointer b,.int .i64 i] w c:=h
def atG(h:mj a b i w λr w=>c (.int .i64 r) w):Mf [.pointer a,.pointer b,.int .i64 i] w c:=h
def atH(h:mo a b i w λr w=>c (.int .i64 r) w):Mg [.pointer a,.pointer b,.int .i64 i] w c:=h
def atI(h:mq a b i w λr w=>c (.int .i64 r) w):Mh [.pointer a,.pointer b,.int .i64 i] w c:=h
def atJ(h:mr a b i w λr w=>c (.int .i64 r) w):Mi [.pointer a,.pointer b,.int .i64 i] w c:=h
structure jH.GX (s:Sp) (M:bJ) (wk:Int) (o:jH):Prop where
 n:o.next≤6
 c:M.can wk s.at_=true
 c1:M.can wk (s.at_+1)=true
 x:∃x:Nat,M.get (s.at_+1)=x∧x<2 ^ 63
def Ze{k:Bool×Int→ap}(h:St w0 w (au g (jH.cells s g o)::bH gm M::R))(hT:TZ w0)(hs:s.OK)(a:M.OK)(hf:o.GX s M wk)
  (hk:∀w',St w0 w' (au g (jH.cells s g (o.go s M wk).1)::bH gm (o.go s M wk).2::R)→k ((o.go s M wk).1.next==0,0) w'):dI (some ⟨g,0,none⟩) (some ⟨gm,0,none⟩) wk w k:=by
 obtain⟨hn,hc,b,hx⟩:=hf;unfold dI FX;refine n8 ?_;refine VW h hs λw h=>n8 ?_;obtain⟨sf,wt,on,e,nx⟩:=o;dsimp only at hn;have fin:∀(r:jH×bJ) w,(∀w',St w0 w' (au g (jH.cells s g r.1)::bH gm r.2::R)→k (r.1.next==0,0) w')→St w0 w (au g (jH.cells s g r.1)::bH gm r.2::R)→
   tH w (aY ⟨g,0,none⟩ 7) λc=>abm c λd=>k (d,(0:Int)) w:=by
  intro r w hk h;refine n8 ?_;have hk:=hk w h;cases hr:r.1.next with
  |zero=>
   rw[hr]at hk;exact am0 hk
  |succ n=>
   rw[hr]at hk;exact Ng hk
 match nx,hn with
 |0,_=>
  refine am0<|n8<|hk w h
 |1,_=>
  refine Ng<|n8 ?_;refine bV (λ_ _ _=>rfl) (atE ?_);refine sp1 h hc λw h=>I0 (aU rfl (fin _ w hk h))
 |2,_=>
  refine Ng<|n8 ?_;refine bV (λ_ _ _=>rfl) (atF ?_);refine sp2 h hc λw h=>I0 (aU rfl (fin _ w hk h))
 |3,_=>
  refine Ng<|n8<|bV (λ_ _ _=>rfl) (atG ?_);refine sp3 h hc λw h=>I0 (aU rfl (fin _ w hk h))
 |4,_=>
  refine Ng<|n8<|bV (λ_ _ _=>rfl) (atH ?_);refine sp4 h hT hs a b hx λw h=>I0 (aU rfl (fin _ w hk h))
 |5,_=>
  refine Ng<|n8<|bV (λ_ _ _=>rfl) (atI ?_);refine sp5 h hT hs a b hx λw h=>I0 (aU rfl (fin _ w hk h))
 |6,_=>
  refine Ng<|n8<|bV (λ_ _ _=>rfl) (atJ ?_);refine sp6 h a b λw h=>I0 (aU rfl (fin _ w hk h))
end
end Go.Proofs.YthidhjhkmjjckaaGreatDoor
namespace Go.Proofs.YthidhjhkmjjckaaGreatDoor.Fr
open Go Go.Ev Go.Proofs
def A0(f:List Int)(pc:Int):List Int:=(f.set 1 pc).set 18 (IntKind.i64.wrap ((f.set 1 pc).getD 18 0+1))
def nE(f:List Int):List Int:=A0 f (IntKind.i64.wrap (f.getD 1 0+1))
variable{f:List Int}
def qH{pc:Int}:(A0 f pc).length=f.length:=by simp[A0]
def kz:(nE f).length=f.length:=qH
abbrev Z(n:Nat):List Int:=dU n 0
variable{w:World}{k:Array Value→ap}
def atK{pc:Int}(hf:f.length=19)(hk:∀w',Ext w w'→k (eZ (A0 f pc)) w'):de (eZ f) pc w k:=by
 unfold de;refine jJ λg1 w1 j hs1 l b=>jJ λg2 w2 t u m c=> ?_;have n:BI w2 g1 f:=l.ext c;simp only[dg,Nat.zero_add];refine CB n af λw3 d v e=>j3 d (by simp;omega) ?_
 refine CB d (by simp;omega) λx o p i=> ?_
 refine kV o (by simp[hf]) ?_
 have q:=(m.keep e af).keep i af;refine xT q rfl (by simp[hf]) λy r s a=>kV r (by simp[hf]) ?_
 exact hk _ ((((b.trans c).then e λg hg=>by omega).then i λg hg=>by omega).then a λg hg=>by have:=b.size;omega)
def acQ(hf:f.length=19)(hk:∀w',Ext w w'→k (eZ (nE f)) w'):av (eZ f) w k:=by
 unfold av yq;refine jJ λg1 w1 i hs1 j b=>jJ λg2 w2 o p l c=> ?_;have d:BI w2 g1 f:=j.ext c;simp only[dg,Nat.zero_add];refine kV d hf (j3 d af (atK hf λw3 e=> ?_));refine xT (l.ext e) rfl (by simp[qH,hf]) λq m n a=>kV m (by simp[qH,hf]) ?_
 exact hk _ (((b.trans c).trans e).then a λg hg=>by have:=b.size;omega)
def ag8{l:List Int}(h:l.length=19):∃a b c d e f g h i j k m n o p q r s t,l=[a,b,c,d,e,f,g,h,i,j,k,m,n,o,p,q,r,s,t]:=by
 match l,h with
 |[a,b,c,d,e,f,g,h,i,j,k,m,n,o,p,q,r,s,t],_=>exact⟨a,b,c,d,e,f,g,h,i,j,k,m,n,o,p,q,r,s,t,rfl⟩
def nF:List Int:=[0,0,0,0,0,0,0,0,0,0, -1, -1, -1, -1, -1, -1, -1, -1,0]
def apl{i:Nat}(h:i<8):(dU 10 (0:Int)++(dU i (-1)++dU (9 - i) 0)).set (10+i) (-1)=dU 10 0++(dU (i+1) (-1)++dU (9 - (i+1)) 0):=by
 match i,h with
 |0,_=>rfl
 |1,_=>rfl
 |2,_=>rfl
 |3,_=>rfl
 |4,_=>rfl
 |5,_=>rfl
 |6,_=>rfl
 |7,_=>rfl
def anv(hk:∀w',Ext w w'→k (eZ nF) w'):lN w k:=by
 unfold lN;refine jJ λg1 w1 l hs1 m d=>jJ λg2 w2 t u n f=> ?_;simp only[dg,Nat.zero_add];have a:BI w2 g2 (dU 10 0++(dU 0 (-1)++dU (9 - 0) 0)):=by
  have e:(dU 10 (0:Int)++(dU 0 (-1)++dU (9 - 0) 0))=Z 19:=e7;rw[e];exact n
 refine ot (fun(x:Int) w'=> ∃i:Nat,x=i∧i≤8∧BI w' g2 (dU 10 0++(dU i (-1)++dU (9 - i) 0))∧o7 (λk=>k=g2) w2 w') (λx _=>(8 - x).toNat) ⟨0,rfl,af,a,.refl _ _⟩ ?_;rintro _ w3 ⟨i,rfl,hi,j,b⟩ C hC;refine ax (λhlt=> ?_) (λhge=> ?_)
 ·have hlt:i<8:=by
    have:(i:Int)<8:=gq hlt
    omega
  refine uu af af ?_;simp only[iZ,Nat.mul_one];refine CB j (by simp;omega) λv o p q=> ?_
  have hw:IntKind.i64.wrap ((i:Int)+1)=((i+1:Nat):Int):=by rw[dh ⟨af,af⟩];simp
  exact hC _ _ ⟨i+1,hw,af,by rw[←apl hlt];exact o,b.trans q (λ_ _ h=>h) λ_ _ h=>h⟩ (by rw[hw];omega)
 ·have hge:i=8:=by
    have:¬(i:Int)<8:=gq hge
    omega
  subst hge;refine kV j rfl<|xT ((m.ext f).keep b af) rfl rfl λy r s c=>kV r rfl<|hk _ (((d.trans f).then b λg hg=>by have:=d.size;omega).then c λg hg=>by omega)
def nY:List Int:=[1,0,0,5,1,1,0,0,1,1,1,0,1,1,1,0,1,1,1,0,1,1,1,0,0,0,0,2,1,0,0,2,1,0,0,3,1,1,0,0,1,1,1,0,0,0,0,4,1,0,0,0,0,0,0,0,0,0,0,0,1,0,0,0,1,0,0,0]
def VY(k:Int):Int×Int:=if k=1 then(0,7)else if k=2 then(0,127)else if k=3 then(0,31)else if k=4 then(0,65535)else if k=5 then(-2147483648,2147483647)else(0,0)
def pY(op j:Nat):Int×Int:=VY (nY.getD (4*op+j) 0)
def Gh(i:List Int)(j:Nat):Bool:=decide ((pY (i.getD 0 0).toNat j).1≤i.getD (j+1) 0∧i.getD (j+1) 0≤(pY (i.getD 0 0).toNat j).2)
def oV(i:List Int):Int:=if i.getD 0 0<0∨i.getD 0 0≥17 then 13 else if Gh i 0&&Gh i 1&&Gh i 2&&Gh i 3 then 0 else 10
def ag9{x:Int}{k:Int×Int→ap}(hk:k (VY x) w):rR x w k:=by
 unfold rR;unfold VY at hk;refine ax (λh=> ?_) (λh=> ?_)
 ·rw[if_pos (gq h)]at hk;exact hk
 rw[if_neg (gq h)]at hk
 refine ax (λh=> ?_) (λh=> ?_)
 ·rw[if_pos (gq h)]at hk;exact hk
 rw[if_neg (gq h)]at hk
 refine ax (λh=> ?_) (λh=> ?_)
 ·rw[if_pos (gq h)]at hk;exact hk
 rw[if_neg (gq h)]at hk
 refine ax (λh=> ?_) (λh=> ?_)
 ·rw[if_pos (gq h)]at hk;exact hk
 rw[if_neg (gq h)]at hk
 refine ax (λh=> ?_) (λh=> ?_)
 ·rw[if_pos (gq h)]at hk;exact hk
 rw[if_neg (gq h)]at hk
 exact hk
variable{op:Int}
def Sj(h0:0≤op)(h1:op<17)(hk:∀w',Ext w w'→k (eZ ((nY.drop (op.toNat*4)).take 4)) w'):mg op w k:=by
 unfold mg;refine jJ λg1 w1 d hs1 e a=>qL (eZ (nY.take 4++Z 64)) rfl rfl<|qL (eZ (nY.take 8++Z 60)) rfl rfl<|qL (eZ (nY.take 12++Z 56)) rfl rfl<|qL (eZ (nY.take 16++Z 52)) rfl rfl<|qL (eZ (nY.take 20++Z 48)) rfl rfl<|qL (eZ (nY.take 24++Z 44)) rfl rfl<|qL (eZ (nY.take 28++Z 40)) rfl rfl<|qL (eZ (nY.take 32++Z 36)) rfl rfl<|qL (eZ (nY.take 36++Z 32)) rfl rfl<|qL (eZ (nY.take 40++Z 28)) rfl rfl<|qL (eZ (nY.take 44++Z 24)) rfl rfl<|qL (eZ (nY.take 48++Z 20)) rfl rfl<|qL (eZ (nY.take 52++Z 16)) rfl rfl<|qL (eZ (nY.take 56++Z 12)) rfl rfl<|qL (eZ (nY.take 60++Z 8)) rfl rfl<|qL (eZ (nY.take 64++Z 4)) rfl rfl<|qL (eZ nY) rfl rfl<|jJ λg2 w2 o p f b=>xT f rfl rfl λw3 i q c=> ?_;have j:=(e.ext b).keep c af;refine uu h0 af ?_;rw[Nat.zero_add];have hl:nY.length=68:=rfl;refine aro i af<|xT j rfl (by simp[hl];omega) λr l m n=>kV l (by simp[hl];omega) ?_
 exact hk _ (((a.trans b).then c λg hg=>by have:=a.size;omega).then n λg hg=>by omega)
variable{j:Nat}
def four(h:j<4):j=0∨j=1∨j=2∨j=3:=af
variable{i:List Int}
def atL(h0:¬(i.getD 0 0<0∨i.getD 0 0≥17))(hj:j<4)(hb:Gh i j=false):oV i=10:=by
 unfold oV;rw[if_neg h0];rcases four hj with rfl|rfl|rfl|rfl<;>simp[hb]
def aff(h0:¬(i.getD 0 0<0∨i.getD 0 0≥17))(hb:∀j,j<4→Gh i j=true):oV i=0:=by
 unfold oV;rw[if_neg h0];simp[hb 0 af,hb 1 af,hb 2 af,hb 3 af]
def aln{op:Nat}(h:op<17)(hj:j<4):((nY.drop (op*4)).take 4).getD j 0=nY.getD (4*op+j) 0:=by
 rw[m0,List.getElem?_take_of_lt hj,List.getElem?_drop,m0,Nat.mul_comm]
def aBx(hj:j<4):[i.getD 1 0,i.getD 2 0,i.getD 3 0,i.getD 4 0].getD j 0=i.getD (j+1) 0:=by
 rcases four hj with rfl|rfl|rfl|rfl<;>rfl
def aiY{k:Int→ap}(hi:i.length=5)(hk:∀w',Ext w w'→k (oV i) w'):fa (eZ i) w k:=by
 unfold fa Gg;refine jJ λg1 w1 s hs1 t d=> ?_;have a:BI w1 g1 i:=t;simp only[dg,Nat.zero_add];refine bP (λb w'=>b=decide (i.getD 0 0<0∨i.getD 0 0≥17)∧w1=w') ?_ ?_
 ·intro J p;refine j3 a af (ax (λh=>p _ _ ⟨?_,rfl⟩) λh=> ?_)
  ·simp only[decide_eq_true_eq]at h;exact(decide_eq_true (.inl h)).symm
  ·simp only[decide_eq_false_iff_not]at h;refine j3 a af (p _ _ ⟨?_,rfl⟩);rw[decide_eq_decide];omega
 rintro _ _ ⟨rfl,rfl⟩;refine ax (λh=> ?_) λh=> ?_
 ·have h:=of_decide_eq_true h;have e:oV i=13:=by unfold oV;rw[if_pos h]
  rw[←e];exact hk _ d
 have h:=of_decide_eq_false h;refine j3 a af (Sj af af λw2 q=> ?_);refine jJ λg3 w3 u F v y=> ?_;have hl:((nY.drop ((i.getD 0 0).toNat*4)).take 4).length=4:=by
  have:nY.length=68:=rfl;rw[List.length_take,List.length_drop,this];omega
 refine xT v rfl hl λf z A B=> ?_;have n:Ext w1 f:=(q.trans y).then B λg hg=>by have:=q.size;omega
 have c:BI f g1 i:=a.ext n;refine j3 c af (j3 c af (j3 c af (j3 c af ?_)));refine ot (fun(x:Int×Int) w'=>f=w'∧x.1=0∧∃j:Nat,x.2=j∧j≤4∧∀m,m<j→Gh i m=true) (λx _=>(4 - x.2).toNat) ⟨rfl,rfl,0,rfl,af,λm hm=>by omega⟩ ?_
 rintro⟨out,_⟩ _ ⟨rfl,ho,j,hj,D,r⟩ C hC;simp only at ho hj;subst ho;subst hj;refine ax (λhlt=> ?_) λhge=> ?_
 ·have hlt:j<4:=by
    have:(j:Int)<4:=gq hlt
    omega
  refine arp (l:=[i.getD 1 0,i.getD 2 0,i.getD 3 0,i.getD 4 0]) bf (by simp;omega) rfl ?_
  rw[iZ,aBx hlt];refine I0 (uu af af ?_);rw[iZ,Nat.mul_one,Nat.zero_add];refine j3 z af ?_;rw[aln af hlt];refine ag9 ?_;have e:((decide (i.getD (j+1) 0<(VY (nY.getD (4*(i.getD 0 0).toNat+j) 0)).1))||(decide (i.getD (j+1) 0>(VY (nY.getD (4*(i.getD 0 0).toNat+j) 0)).2)))= !Gh i j:=by
   unfold Gh pY;rw[Bool.eq_iff_iff];simp only[Bool.or_eq_true,decide_eq_true_eq,Bool.not_eq_true',decide_eq_false_iff_not];omega
  rw[e];refine ax (λhb=> ?_) λhb=> ?_
  ·rw[←atL h hlt (gq hb)]
   exact hk _ (d.trans n)
  ·have hw:IntKind.i64.wrap ((j:Int)+1)=((j+1:Nat):Int):=by rw[dh ⟨af,af⟩];simp
   refine hC _ _ ⟨rfl,rfl,j+1,hw,af,λm hm=> ?_⟩ (by simp only[hw];omega)
   by_cases o:m=j
   ·subst o;simpa using hb
   ·exact r m af
 ·have hge:j=4:=by
    have:¬(j:Int)<4:=gq hge
    omega
  subst hge;simp only;rw[←aff h r];exact hk _ (d.trans n)
def aD3(h0:0≤op)(h1:op<17):op=0∨op=1∨op=2∨op=3∨op=4∨op=5∨op=6∨op=7∨op=8∨op=9∨op=10∨op=11∨op=12∨op=13∨op=14∨op=15∨op=16:=af
def o5(i:List Int)(op:Int):Bool:=i.getD 0 0==op&&oV i==0
def F6{k:Bool→ap}(hi:i.length=5)(hk:∀w',Ext w w'→k (o5 i op) w'):eR (eZ i) op w k:=by
 unfold eR NW;refine jJ λg1 w1 c hs1 d a=> ?_;have b:BI w1 g1 i:=d;simp only[dg,Nat.zero_add];unfold o5 at hk;refine j3 b af (ax (λh=> ?_) λh=> ?_)
 ·refine kV b hi (aiY hi λw2 e=> ?_);have:=hk _ (a.trans e);rwa[h,Bool.true_and]at this
 ·have:=hk _ a;rwa[h,Bool.false_and]at this
variable{b:Bool}
def atN{k:Int→ap}(hk:k (if b then 1 else 0) w):mX b w k:=by
 unfold mX;cases b<;>exact hk
def aha(h:oV i=0):0≤i.getD 0 0∧i.getD 0 0<17∧∀j,j<4→(pY (i.getD 0 0).toNat j).1≤i.getD (j+1) 0∧i.getD (j+1) 0≤(pY (i.getD 0 0).toNat j).2:=by
 unfold oV at h;split at h
 ·cases h
 ·rename_i h0;split at h
  ·rename_i h1;simp only[iY]at h1;refine⟨af,af,λj hj=> ?_⟩;rcases four hj with rfl|rfl|rfl|rfl
   ·exact of_decide_eq_true h1.1.1.1
   ·exact of_decide_eq_true h1.1.1.2
   ·exact of_decide_eq_true h1.1.2
   ·exact of_decide_eq_true h1.2
  ·cases h
def Zf:∀op,op<17→∀j,j<3→0≤(pY op j).1∧(pY op j).2≤7:=e7
def vG(h:oV i=0):(0≤i.getD 1 0∧i.getD 1 0<8)∧(0≤i.getD 2 0∧i.getD 2 0<8)∧0≤i.getD 3 0∧i.getD 3 0<8:=by
 obtain⟨h0,h1,hs⟩:=aha h;have a:=hs 0 af;have b:=hs 1 af;have c:=hs 2 af;have a':=Zf (i.getD 0 0).toNat af 0 af;have b':=Zf (i.getD 0 0).toNat af 1 af;have c':=Zf (i.getD 0 0).toNat af 2 af;simp only[Nat.zero_add,Nat.reduceAdd]at a b c;omega
abbrev fR(f:List Int)(r:Int):Int:=f.getD (2+r.toNat) 0
def Sk(f i:List Int):Int:=
 if i.getD 0 0=0 then i.getD 4 0 else if i.getD 0 0=1 then fR f (i.getD 2 0)else if i.getD 0 0=2 then IntKind.i64.wrap (fR f (i.getD 2 0)+fR f (i.getD 3 0))
 else if i.getD 0 0=3 then IntKind.i64.wrap (fR f (i.getD 2 0) - fR f (i.getD 3 0))else if i.getD 0 0=4 then IntKind.i64.wrap (fR f (i.getD 2 0)*fR f (i.getD 3 0))
 else if fR f (i.getD 2 0)<fR f (i.getD 3 0)then 1 else 0
def dY(f i:List Int):List Int×Bool:=
 if oV i≠0 then(f,false)
 else if i.getD 0 0=6∨(i.getD 0 0=7∧fR f (i.getD 1 0)≠0)then(A0 f (i.getD 4 0),true)
 else if i.getD 0 0=7 then(nE f,true)
 else if i.getD 0 0>5 then(f,false)
 else(nE (f.set (2+(i.getD 1 0).toNat) (Sk f i)),true)
def qt(hf:f.length=19):(dY f i).1.length=19:=by
 unfold dY;split
 ·exact hf
 ·split
  ·simp only[qH,hf]
  ·split
   ·simp only[kz,hf]
   ·split
    ·exact hf
    ·simp only[kz,List.length_set,hf]
def atO(g3 gb gc:Nat):Array Value:=#[.func (.func oy) #[] #[.pointer (some ⟨g3,0,none⟩)],.func (.func oz) #[] #[.pointer (some ⟨gb,0,none⟩)],.func (.func oA) #[] #[.pointer (some ⟨gb,0,none⟩),.pointer (some ⟨gc,0,none⟩)],
 .func (.func oB) #[] #[.pointer (some ⟨gb,0,none⟩),.pointer (some ⟨gc,0,none⟩)],.func (.func oC) #[] #[.pointer (some ⟨gb,0,none⟩),.pointer (some ⟨gc,0,none⟩)],.func (.func oD) #[] #[.pointer (some ⟨gb,0,none⟩),.pointer (some ⟨gc,0,none⟩)]]
def axU{k:Sl→ap}(hf:f.length=19)(hi:i.length=5)(hB:0≤i.getD 2 0∧i.getD 2 0<8)(hC:0≤i.getD 3 0∧i.getD 3 0<8)
  (hk:∀w' g g3 m gc,Ext w w'→pN w' g (atO g3 m gc)→BI w' g3 i→BI w' m [fR f (i.getD 2 0)]→BI w' gc [fR f (i.getD 3 0)]→k ⟨some ⟨g,0,none⟩,6,6⟩ w'):kx (eZ f) (eZ i) w k:=by
 unfold kx;refine jJ λg1 w1 M hs1 N O=>jJ λg2 w2 V W P I=> ?_;have Q:BI w2 g1 f:=N.ext I;have K:BI w2 g2 i:=P;simp only[dg,Nat.zero_add];refine bP (λx w'=>Ext w2 w'∧∃m gc,x=(⟨m,0,none⟩,⟨gc,0,none⟩)∧BI w' m [fR f (i.getD 2 0)]∧BI w' gc [fR f (i.getD 3 0)]) ?_ ?_
 ·intro J L;refine M6 λw3 R p=> ?_;have e:BI w3 g1 f:=Q.ext p;have j:BI w3 g2 i:=K.ext p;refine j3 j af (uu hB.1 af (j3 e af ?_));refine j3 j af (uu hC.1 af (j3 e af ?_));simp only[Nat.mul_one];have st:∀{w':World} {n o:Nat} {c:Prop},Ext w3 w'→c→ai n ⟨g1,o,none⟩ w3 w' c:=λhe hc=>BV e (e.ext he) hc;have Zg:∀{w':World} {n o:Nat} {c:Prop},Ext w3 w'→c→ai n ⟨g2,o,none⟩ w3 w' c:=λhe hc=>BV j (j.ext he) hc;refine⟨?_,?_⟩
  ·refine jJ λg4 A t u v a=>st a (Zg a (st a (Zg a ?_)));refine jJ λg5 S B C D y=> ?_;have b:=a.trans y;refine st b (Zg b (st b (Zg b ?_)));refine CB (l:=[0]) (v.ext y) bf λT q F d=> ?_;have r:=b.then d λg hg=>by omega
   refine st r (Zg r ?_);refine CB (l:=[0]) (D.keep d af) bf λU s G z=>L _ _ ⟨p.trans (r.then z λg hg=>by omega),g4,g5,rfl,q.keep z af,s⟩
  ·refine jJ λg4 A t u v a=>st a (Zg a (st a (Zg a ?_)));refine jJ λg5 S B C D y=> ?_;have b:=a.trans y;refine st b (Zg b (st b (Zg b ?_)));refine CB (l:=[0]) D bf λT q F d=> ?_;have r:=b.then d λg hg=>by omega
   refine st r (Zg r ?_);refine CB (l:=[0]) ((v.ext y).keep d af) bf λU s G z=>L _ _ ⟨p.trans (r.then z λg hg=>by omega),g5,g4,rfl,q.keep z af,s⟩
 ·rintro x w3 ⟨p,m,gc,rfl,H,hbc⟩;refine⟨rfl,⟨rfl,⟨rfl,⟨rfl,⟨rfl,⟨rfl,jJ λg4 A t u v a=> ?_⟩⟩⟩⟩⟩⟩;exact hk A g4 g2 m gc (((O.trans I).trans p).trans a) v ((K.ext p).ext a) (H.ext a) (hbc.ext a)
def atP{k:Array Value×Bool→ap}(hf:f.length=19)(hi:i.length=5)(hk:∀w',Ext w w'→k (eZ (dY f i).1,(dY f i).2) w'):jc (eZ f) (eZ i) w k:=by
 unfold jc Ac;refine jJ λg1 w1 Y hs1 Z S=>jJ λg2 w2 M7 IZ jR T=>jJ λg3 w3 hg3 Vi U I=> ?_;have V:=(S.trans T).trans I;have vF:BI w3 g1 f:=(Z.ext T).ext I;have W:BI w3 g2 i:=jR.ext I;have hsz:=S.size;simp only[dg,Nat.zero_add];have fin:∀(l:List Int) (b:Bool) (w':World),Ext w3 w'→l.length=19→(dY f i)=(l,b)→(dQ 19 w' ⟨g3,0,none⟩ (eZ l) λu=>bx 19 u ⟨g3,0,none⟩ λcs=>k (cs,b) u):=by
  intro l b w' he hl e;refine xT (U.ext he) rfl hl λu o K p=>kV o hl ?_;have:=hk u ((V.trans he).then p λg hg=>by omega)
  rwa[e]at this
 refine kV W hi (aiY hi λx j=> ?_);have y:BI x g1 f:=vF.ext j;have q:BI x g2 i:=W.ext j;refine ax (λh=>kV y hf (fin f false x j hf ?_)) λh=> ?_
 ·unfold dY;rw[if_pos (gq h)]
 have h:oV i=0:=gq h
 obtain⟨hA,hB,hC⟩:=vG h;obtain⟨h0,h17,_⟩:=aha h;refine j3 q af<|bP (λb w'=>b=decide (i.getD 0 0=6∨(i.getD 0 0=7∧fR f (i.getD 1 0)≠0))∧x=w') ?_ ?_
 ·intro J L;refine ax (λh6=> ?_) λh6=> ?_
  ·refine L _ _ ⟨?_,rfl⟩;rw[h6];exact(decide_eq_true (.inl (gq h6))).symm
  ·have h6:i.getD 0 0≠6:=by simpa using h6
   refine j3 q af (ax (λh7=> ?_) λh7=> ?_)
   ·have h7:i.getD 0 0=7:=by simpa using h7
    refine j3 q af (uu hA.1 af (j3 y af (L _ _ ⟨?_,rfl⟩)));rw[Nat.mul_one,Bool.eq_iff_iff];simp only[bne_iff_ne,decide_eq_true_eq];constructor
    ·intro hne;exact .inr ⟨h7,hne⟩
    ·rintro(h|⟨_,h⟩)
     ·omega
     ·exact h
   ·have h7:i.getD 0 0≠7:=by simpa using h7
    exact L _ _ ⟨(decide_eq_false af).symm,rfl⟩
 rintro _ _ ⟨rfl,rfl⟩;refine ax (λh1=> ?_) λh1=> ?_
 ·have h1:=of_decide_eq_true h1;refine kV y hf (j3 q af (atK hf λr m=>fin _ true r (j.trans m) (by rw[qH,hf]) ?_))
  unfold dY;rw[if_neg (by simp[h]),if_pos h1]
 have h1:=of_decide_eq_false h1;refine j3 q af (ax (λh7=> ?_) λh7=> ?_)
 ·have h7:i.getD 0 0=7:=by simpa using h7
  refine kV y hf (acQ hf λr m=>fin _ true r (j.trans m) (by rw[kz,hf]) ?_)
  unfold dY;rw[if_neg (by simp[h]),if_neg h1,if_pos h7]
 have h7:i.getD 0 0≠7:=gq h7
 refine j3 q af (ax (λh5=> ?_) λh5=> ?_)
 ·have h5:i.getD 0 0>5:=by simpa using h5
  refine kV y hf (fin f false x j hf ?_);unfold dY;rw[if_neg (by simp[h]),if_neg h1,if_neg h7,if_pos h5]
 have h5:¬i.getD 0 0>5:=gq h5
 refine M6 λr hh5 m=> ?_;have A:BI r g1 f:=y.ext m;have s:BI r g2 i:=q.ext m;refine j3 s af (kV A hf (kV s hi (j3 s af ?_)));refine axU hf hi hB hC λa g ga z gc d M hba c hbc=> ?_;have N:BI a g1 f:=A.ext d;have t:BI a g2 i:=s.ext d;refine BV s t (BV s t ?_);have tail:∀(v:Value),v= .int .i64 (Sk f i)→(xS .i64 v λi48=>ai 1 ⟨g2,1,none⟩ r a (Hf ⟨g1,2,none⟩ 8 (i.getD 1 0) 1 λO=>bN a O (.int .i64 i48) λB=>bx 19 B ⟨g1,0,none⟩ λC=>
   av C B λD P=>dQ 19 P ⟨g3,0,none⟩ D λF=>bx 19 F ⟨g3,0,none⟩ λG=>k (G,true) F)):=by
  rintro _ rfl;refine I0 (BV s t (uu hA.1 af ?_));rw[Nat.mul_one];refine CB N af λw7 Q hs7 X=> ?_;have he7:Ext w3 w7∨True:= .inr trivial;refine kV Q (by simp[hf]) (acQ (by simp[hf]) λw8 H=> ?_)
  have R:=(((((U.ext j).ext m).ext d).keep X af).ext H);refine xT R rfl (by rw[kz];simp[hf]) λu o K p=>kV o (by rw[kz];simp[hf]) ?_
  have e:dY f i=(nE (f.set (2+(i.getD 1 0).toNat) (Sk f i)),true):=by
   unfold dY;rw[if_neg (by simp[h]),if_neg h1,if_neg h7,if_neg h5]
  have:=hk u ((((((V.trans j).trans m).trans d).then X λg hg=>by omega).trans H).then p λg hg=>by omega)
  rwa[e]at this
 have h6:i.getD 0 0≠6:=λe=>h1 (.inl e);have hop:i.getD 0 0=0∨i.getD 0 0=1∨i.getD 0 0=2∨i.getD 0 0=3∨i.getD 0 0=4∨i.getD 0 0=5:=af;refine ars h0 af ?_;rw[Nat.mul_one,Nat.zero_add];have hcell:∀n:Nat,a.cell? ⟨g,n,none⟩=(atO ga z gc)[n]?:=λn=>M.cell n;rcases hop with e|e|e|e|e|e;all_goals
  rw[e];refine akE (by rw[hcell];rfl) ?_
 ·show aJ .i64 a (aY ⟨ga,0,none⟩ 4) _;rw[dg];refine j3 hba af (tail _ ?_);simp only[Sk,e];rfl
 ·show aJ .i64 a ⟨z,0,none⟩ _;refine j3 c bf (tail _ ?_);simp only[Sk,e];rfl
 ·show aJ .i64 a ⟨z,0,none⟩ λi1=>aJ .i64 a ⟨gc,0,none⟩ λi2=> _;refine j3 c bf (j3 hbc bf (tail _ ?_));simp only[Sk,e];rfl
 ·show aJ .i64 a ⟨z,0,none⟩ λi1=>aJ .i64 a ⟨gc,0,none⟩ λi2=> _;refine j3 c bf (j3 hbc bf (tail _ ?_));simp only[Sk,e];rfl
 ·show aJ .i64 a ⟨z,0,none⟩ λi1=>aJ .i64 a ⟨gc,0,none⟩ λi2=> _;refine j3 c bf (j3 hbc bf (tail _ ?_));simp only[Sk,e];rfl
 ·show aJ .i64 a ⟨z,0,none⟩ λi1=>aJ .i64 a ⟨gc,0,none⟩ λi2=>mX (decide (i1<i2)) a λi3 x=> _;refine j3 c bf (j3 hbc bf (atN (tail _ ?_)));have e1:List.getD [fR f (i.getD 2 0)] 0 0=fR f (i.getD 2 0):=rfl;have e2:List.getD [fR f (i.getD 3 0)] 0 0=fR f (i.getD 3 0):=rfl;rw[e1,e2];simp only[Sk,e];by_cases hlt:fR f (i.getD 2 0)<fR f (i.getD 3 0)
  ·rw[decide_eq_true hlt,if_pos hlt];rfl
  ·rw[decide_eq_false hlt,if_neg hlt];rfl
def Zi(hf:f.length=19):((f.drop 2).take 8).length=8:=by
 rw[List.length_take,List.length_drop,hf];rfl
def F8(h:o5 i op=true):i.getD 0 0=op∧oV i=0:=by
 unfold o5 at h;simp only[iY,beq_iff_eq]at h;exact h
def iG(f i:List Int)(asked:Bool):List Int:=if o5 i 12 then nE (f.set (2+(i.getD 1 0).toNat) (if asked then 1 else 0))else f
def eI(f i:List Int)(id:Int):List Int:=if o5 i 8 then nE (f.set (10+(i.getD 1 0).toNat) id)else f
def di(f i:List Int)(kind v:Int):List Int×Int×Bool:=
 if kind<2∨kind>4∨(o5 i 9=false∧o5 i 10=false)then(f,0,false)
 else if o5 i 10 then(nE ((f.set (2+(i.getD 1 0).toNat) (if kind=4 then 0 else v)).set (2+(i.getD 2 0).toNat) (IntKind.i64.wrap (kind - 2))),0,false)
 else if kind=2 then(nE (f.set (2+(i.getD 1 0).toNat) v),0,false)
 else(A0 f (f.getD 1 0),if kind=4 then -1 else v,true)
def pZ:(iG f i b).length=f.length:=by
 unfold iG;split
 ·rw[kz,List.length_set]
 ·rfl
def qa{b:Int}:(eI f i b).length=f.length:=by
 unfold eI;split
 ·rw[kz,List.length_set]
 ·rfl
def qb{kind v:Int}:(di f i kind v).1.length=f.length:=by
 unfold di;split
 ·rfl
 ·split
  ·simp only[kz,List.length_set]
  ·split
   ·simp only[kz,List.length_set]
   ·simp only[qH]
def apm(hf:f.length=19)(hi:i.length=5)(hk:∀w',Ext w w'→k (eZ (iG f i b)) w'):jg (eZ f) (eZ i) b w k:=by
 unfold jg yL;refine jJ λg1 w1 C hs1 D u=>jJ λg2 w2 R S F v=>jJ λg3 w3 G T x o=> ?_;have y:=(u.trans v).trans o;have z:BI w3 g1 f:=(D.ext v).ext o;have A:BI w3 g2 i:=F.ext o;have hsz:=u.size;simp only[dg,Nat.zero_add];refine kV z hf (jJ λg4 U H I J K=>xT J rfl hf λL M N p=> ?_);have B:Ext w3 L:=K.then p λg hg=>by omega
 simp only[dg,Nat.zero_add];refine kV (A.ext B) hi (F6 hi λV e=> ?_);have n:=B.trans e;refine ax (λh=> ?_) λh=> ?_
 ·obtain⟨hA,hB,hC⟩:=vG (F8 h).2;refine M6 λO P j=> ?_;have a:=n.trans j;have c:BI O g2 i:=A.ext a;refine j3 c af (atN (BV c c (uu hA.1 af ?_)));rw[Nat.mul_one];refine CB ((M.ext e).ext j) af λW q Q l=>kV q (by simp[hf]) (acQ (by simp[hf]) λX m=> ?_)
  refine xT (((x.ext a).keep l af).ext m) rfl (by rw[kz];simp[hf]) λd r s t=>kV r (by rw[kz];simp[hf]) ?_
  have:=hk d ((((y.trans a).then l λg hg=>by omega).trans m).then t λg hg=>by omega)
  unfold iG at this;rwa[if_pos h]at this
 ·refine kV (z.ext n) hf (xT (x.ext n) rfl hf λd r s t=>kV r hf ?_);have:=hk d ((y.trans n).then t λg hg=>by omega)
  unfold iG at this;rwa[if_neg (by simp[h])]at this
def apn{id:Int}(hf:f.length=19)(hi:i.length=5)(hk:∀w',Ext w w'→k (eZ (eI f i id)) w'):jf (eZ f) (eZ i) id w k:=by
 unfold jf yE;refine jJ λg1 w1 v hs1 x o=>jJ λg2 w2 D F y p=>jJ λg3 w3 z G q e=> ?_;have r:=(o.trans p).trans e;have A:BI w3 g1 f:=(x.ext p).ext e;have s:BI w3 g2 i:=y.ext e;have hsz:=o.size;simp only[dg,Nat.zero_add];refine kV s hi (F6 hi λt b=> ?_);have u:BI t g1 f:=A.ext b;have B:BI t g2 i:=s.ext b;refine ax (λh=> ?_) λh=> ?_
 ·refine kV u hf (xT (q.ext b) rfl hf λa j l m=>kV j hf ?_);have:=hk a ((r.trans b).then m λg hg=>by omega)
  unfold eI at this;rwa[if_neg (gq h)]at this
 ·have h:o5 i 8=true:=by simpa using h
  obtain⟨hA,hB,hC⟩:=vG (F8 h).2;refine j3 B af (uu hA.1 af ?_);rw[Nat.mul_one];refine CB u af λH n C c=>kV n (by simp[hf]) (acQ (by simp[hf]) λI d=> ?_)
  refine xT (((q.ext b).keep c af).ext d) rfl (by rw[kz];simp[hf]) λa j l m=>kV j (by rw[kz];simp[hf]) ?_
  have:=hk a ((((r.trans b).then c λg hg=>by omega).trans d).then m λg hg=>by omega)
  unfold eI at this;rwa[if_pos h]at this
def apo{kind v:Int}{k:Array Value×Int×Bool→ap}(hf:f.length=19)(hi:i.length=5)(hk:∀w',Ext w w'→k (eZ (di f i kind v).1,(di f i kind v).2.1,(di f i kind v).2.2) w'):iu (eZ f) (eZ i) kind v w k:=by
 unfold iu yQ;refine jJ λg1 w1 Q hs1 R N=>jJ λg2 w2 M7 IZ S O=>jJ λg3 w3 T Vi U C=> ?_;have V:=(N.trans O).trans C;have W:BI w3 g1 f:=(R.ext O).ext C;have D:BI w3 g2 i:=S.ext C;have hsz:=N.size;simp only[dg,Nat.zero_add];have fin:∀(l:List Int) (a:Int) (b:Bool) (w':World),Ext w w'→pN w' g3 (eZ (Z 19))→l.length=19→di f i kind v=(l,a,b)→(dQ 19 w' ⟨g3,0,none⟩ (eZ l) λz=>bx 19 z ⟨g3,0,none⟩ λcs=>k (cs,(a,b)) z):=by
  intro l a b w' he hb hl e;refine xT hb rfl hl λz F X G=>kV F hl ?_;have:=hk z (he.then G λg hg=>by omega)
  rwa[e]at this
 have n:pN w3 g3 (eZ (Z 19)):=U;refine bP (λx w'=>x=decide (kind<2∨kind>4∨(o5 i 9=false∧o5 i 10=false))∧Ext w3 w') ?_ ?_
 ·intro J r;refine ax (λh=>r _ _ ⟨?_,.refl _ _⟩) λh=> ?_
  ·simp only[Bool.or_eq_true,decide_eq_true_eq]at h;exact(decide_eq_true af).symm
  ·simp only[kf,decide_eq_false_iff_not]at h;refine kV D hi (F6 hi λs d=> ?_);refine ax (λh9=> ?_) λh9=> ?_
   ·have h9:o5 i 9=false:=by simpa using h9
    refine kV (D.ext d) hi (F6 hi λt o=>r _ _ ⟨?_,d.trans o⟩);rw[Bool.eq_iff_iff];simp only[Bool.not_eq_true',decide_eq_true_eq];constructor
    ·intro h10;exact .inr (.inr ⟨h9,h10⟩)
    ·rintro(h'|h'|⟨_,h'⟩)
     ·omega
     ·omega
     ·exact h'
   ·have h9:o5 i 9=true:=by simpa using h9
    refine r _ _ ⟨?_,d⟩;rw[eq_comm,decide_eq_false_iff_not];rintro(h'|h'|⟨h',_⟩)
    ·omega
    ·omega
    ·rw[h9]at h';cases h'
 rintro _ s ⟨rfl,d⟩;have A:=V.trans d;have u:BI s g1 f:=W.ext d;have H:BI s g2 i:=D.ext d;refine ax (λh=> ?_) λh=> ?_
 ·have h:=of_decide_eq_true h;refine kV u hf (fin f 0 false s A (n.ext d) hf ?_);unfold di;rw[if_pos h]
 have h:=of_decide_eq_false h;have p:oV i=0∧(i.getD 0 0=10↔o5 i 10=true):=by
  cases h10:o5 i 10 with
  |true=>exact⟨(F8 h10).2,λ_=>rfl,λ_=>(F8 h10).1⟩
  |false=>
   cases h9:o5 i 9 with
   |true=>exact⟨(F8 h9).2,λe=>(by have:=(F8 h9).1;omega),λe=>by cases e⟩
   |false=>exact absurd (.inr (.inr ⟨h9,h10⟩)) h
 obtain⟨hA,hB,hC⟩:=vG p.1;refine bP (λx w'=>s=w'∧di f i kind v=(A0 f (f.getD 1 0),x,true)) ?_ ?_
 ·intro J r;refine j3 H af (ax (λh10=> ?_) λh10=> ?_)
  ·have h10:o5 i 10=true:=p.2.1 (gq h10)
   refine bP (λx w'=>s=w'∧x=if kind=4 then 0 else v) ?_ ?_
   ·intro J2 y;refine ax (λh4=>y _ _ ⟨rfl,?_⟩) λh4=>y _ _ ⟨rfl,?_⟩
    ·rw[if_pos (gq h4)]
    ·rw[if_neg (gq h4)]
   rintro _ _ ⟨rfl,rfl⟩;refine M6 λt Y o=> ?_;have I:BI t g1 f:=u.ext o;have B:BI t g2 i:=H.ext o;refine j3 B af (j3 B af (uu hA.1 af ?_));rw[Nat.mul_one];refine CB I af λw6 q K c=>BV B (B.keep c af) (uu hB.1 af ?_);rw[Nat.mul_one];refine CB q (by rw[List.length_set];omega) λw7 L hs7 P=>kV L (by simp[hf]) (acQ (by simp[hf]) λM j=> ?_)
   refine fin _ 0 false M (((((A.trans o).then c λg hg=>by omega).then P λg hg=>by omega).trans j)) (((((n.ext d).ext o).keep c af).keep P af).ext j) (by rw[kz];simp[hf]) ?_
   unfold di;rw[if_neg h,if_pos h10]
  ·have m:o5 i 10=false:=by
    cases h':o5 i 10 with
    |false=>rfl
    |true=>exact absurd (p.2.2 h') (gq h10)
   refine ax (λh2=> ?_) λh2=> ?_
   ·have h2:kind=2:=by simpa using h2
    refine j3 H af (uu hA.1 af ?_);rw[Nat.mul_one];refine CB u af λw6 q K c=>kV q (by simp[hf]) (acQ (by simp[hf]) λM j=> ?_)
    refine fin _ 0 false M ((A.then c λg hg=>by omega).trans j) (((n.ext d).keep c af).ext j) (by rw[kz];simp[hf]) ?_
    unfold di;rw[if_neg h,if_neg (by simp[m]),if_pos h2]
   ·have h2:kind≠2:=by simpa using h2
    refine ax (λh4=>r _ _ ⟨rfl,?_⟩) λh4=>r _ _ ⟨rfl,?_⟩
    ·unfold di;rw[if_neg h,if_neg (by simp[m]),if_neg h2,if_pos (gq h4)]
    ·unfold di;rw[if_neg h,if_neg (by simp[m]),if_neg h2,if_neg (gq h4)]
 ·rintro x _ ⟨rfl,e⟩;exact kV u hf (j3 u af (atK hf λt o=>fin _ x true t (A.trans o) ((n.ext d).ext o) (by rw[qH,hf]) e))
def axY{h:Nat}(hh:h<63):bv (sD .i64 1 (h:Int))=BitVec.twoPow 64 h:=by
 unfold sD;have e:min ((h:Int).toNat) IntKind.i64.bits=h:=by simp[IntKind.bits];omega
 rw[e,arm,DH,Int.one_mul];apply BitVec.eq_of_toNat_eq;rw[BitVec.toNat_ofInt,BitVec.toNat_twoPow];have h2:(2 ^ h:Nat)<2 ^ 64:=Nat.pow_lt_pow_right af af;have h3:((2:Int) ^ h)=((2 ^ h:Nat):Int):=by simp
 rw[h3,Nat.mod_eq_of_lt h2];generalize (2 ^ h:Nat)=m at*
 omega
def atX{x:Int}{h:Nat}(hh:h<63):(oH .i64 x (sD .i64 1 (h:Int)) !=0)=tb x h:=by
 rw[QJ,axY hh,BitVec.and_twoPow];unfold tb;cases hb:(bv x).getLsbD h with
 |false=>rfl
 |true=>
  simp only[if_true];have:(BitVec.twoPow 64 h).toInt≠0:=by
   intro e;have h1:BitVec.twoPow 64 h=0#64:=by
    apply BitVec.eq_of_toInt_eq;rw[e];rfl
   have h2:=congrArg (λb=>b.getLsbD h) h1;simp at h2;omega
  simpa using this
def fHs(f:List Int)(aX:Int)(n:Nat):List Int:=(List.range n).map λh=>if tb aX h then f.getD (10+h) 0 else -1
def jo(f:List Int)(n aX:Int):List Int:=[n,0] ++((f.drop 2).take 8++(fHs f aX 8++[0]))
def Lx(f:List Int)(n aX:Int)(j:Nat):List Int:=[n,0] ++((f.drop 2).take 8++(fHs f aX j++(dU (8 - j) (-1)++[0])))
variable{aX:Int}
def XY{n:Nat}:(fHs f aX n).length=n:=by simp[fHs]
def afh{n:Nat}:fHs f aX (n+1)=fHs f aX n++[if tb aX n then f.getD (10+n) 0 else -1]:=by
 simp[fHs,List.range_succ]
variable{n:Int}
def acT(hf:f.length=19)(hj:j≤8):(Lx f n aX j).length=19:=by
 unfold Lx;simp only[uv,List.length_cons,List.length_nil,XY,List.length_replicate,Zi hf];omega
def ai0(hf:f.length=19):Lx f n aX 0=((nF.set 0 n).take 2++((f.drop 2).take 8++(nF.set 0 n).drop (2+8))):=rfl
def alq(hf:f.length=19)(hj:j<8)(hb:tb aX j=true):(Lx f n aX j).set (10+j) (f.getD (10+j) 0)=Lx f n aX (j+1):=by
 unfold Lx;have hr:=Zi hf;have a:8 - j=(8 - (j+1))+1:=af;rw[List.set_append_right _ _ (by simp;omega),List.set_append_right _ _ (by simp[hr];omega),List.set_append_right _ _ (by simp[hr,XY];omega)]
 rw[afh,hb,a,List.replicate_succ];have e0:10+j - 2 - 8 - j=0:=af;simp[hr,XY,e0]
def apq(hj:j<8)(hb:tb aX j=false):Lx f n aX j=Lx f n aX (j+1):=by
 unfold Lx;have a:8 - j=(8 - (j+1))+1:=af;rw[afh,hb,a,List.replicate_succ];simp
def axZ(x:Int×Sl):List Value:=[.int .i64 x.1,.slice x.2.a x.2.n x.2.c]
def Ow(w:World)(s:Sl)(fs:List (Int×Sl)):Prop:=QM 2 w s (fs.map axZ)
def Ow.len{w:World}{s:Sl}{fs:List (Int×Sl)}(h:Ow w s fs):s.n=fs.length:=by have:=QM.len h;simp at this;omega
def Ow.ext{w w':World}{s:Sl}{fs:List (Int×Sl)}(h:Ow w s fs)(he:Ext w w'):Ow w' s fs:=QM.ext h he
def ixF{s:Sl}{fs:List (Int×Sl)}{i:Int}{x:Int×Sl}{c:Addr→Prop}(h:Ow w s fs)(h0:0≤i)(hi:fs[i.toNat]?=some x)
  (hc:∀p:Addr,w.cell? (p.add 0)=some (.int .i64 x.1)→w.cell? (p.add 1)=some (.slice x.2.a x.2.n x.2.c)→c p):cN s i 2 c:=by
 have hl:=Ow.len h;have hlt:=(kB.1 hi).1;refine akF h h0 af λp e he _ hcell=> ?_;rw[l8,hi]at he;cases he
 exact hc p (hcell 0 _ rfl) (hcell 1 _ rfl)
def ax0(h:o5 i 8=true):0≤i.getD 4 0∧i.getD 4 0≤31:=by
 obtain⟨h8,hc⟩:=F8 h;obtain⟨_,_,hs⟩:=aha hc;have:=hs 3 af;rw[h8]at this;exact this
def atY{s:Sl}{fs:List (Int×Sl)}{k:Array Value×Int→ap}(hf:f.length=19)(hi:i.length=5)(hp:Ow w s fs)
  (h1:o5 i 8=false→∀w',Ext w w'→k (eZ (Z 19),1) w') (h2:o5 i 8=true→fs.length≤(i.getD 4 0).toNat→∀w',Ext w w'→k (eZ (Z 19),17) w')
  (h3:o5 i 8=true→∀x,fs[(i.getD 4 0).toNat]?=some x→∀w',Ext w w'→k (eZ (jo f (i.getD 4 0) x.1),0) w'):jd (eZ f) #[.slice s.a s.n s.c] (eZ i) w k:=by
 unfold jd Ap;refine jJ λg1 w1 hg1 hs1 AR AK=>jJ λgp wp hgp hsp J v=>jJ λg2 w2 M7 IZ jR K=>jJ λg3 w3 hg3 Vi L H=> ?_;have O4:=((AK.trans v).trans K).trans H;have vF:BI w3 g1 f:=((AR.ext v).ext K).ext H;have zg:BI w3 g2 i:=jR.ext H;have M:pN w3 gp #[.slice s.a s.n s.c]:=(J.ext K).ext H;have hsz:=AK.size;have hln:=hp.len;simp only[dg,Nat.zero_add];refine kV zg hi (F6 hi λz d=> ?_);have N:BI z g1 f:=vF.ext d;have O:BI z g2 i:=zg.ext d;have A:=M.ext d;have I:=O4.trans d;refine ax (λh=> ?_) λh=> ?_
 ·refine xT (l:=Z 19) (L.ext d) rfl rfl λw5 P B e=>kV P rfl<|h1 (gq h) _ (I.then e λg hg=>by omega)
 have h:o5 i 8=true:=gq h
 obtain⟨Q,hN1⟩:=ax0 h;refine j3 O af (IY (A.cell 0) (ax (λhge=> ?_) λhlt=> ?_))
 ·have hge:i.getD 4 0≥s.n:=of_decide_eq_true hge;refine xT (l:=Z 19) (L.ext d) rfl rfl λw5 P B e=>kV P rfl<|h2 h af _ (I.then e λg hg=>by omega)
 have hlt:i.getD 4 0<s.n:=by have:=of_decide_eq_false hlt;omega
 obtain⟨x,hx⟩:∃x,fs[(i.getD 4 0).toNat]?=some x:=⟨_,iH af⟩;refine anv λw5 F7=>jJ λg6 w6 hg6 hs6 R S=> ?_;simp only[dg,Nat.zero_add];refine xT R rfl rfl λw7 T hs7 Zh=> ?_;have B:=F7.size;have U:Ext z w7:=(F7.trans S).then Zh λg hg=>by omega
 refine M6 λw8 hh8 D=> ?_;have m:=U.trans D;have o:BI w8 g1 f:=N.ext m;have V:BI w8 g2 i:=O.ext m;refine j3 V af (aro o af ?_);have W:g1≠g6:=by have:=N.lt;omega
 refine CB (T.ext D) e7 λw9 X hs9 F=>BV o (o.keep F W)<|aAR X (Zi hf) (by rw[List.length_set];decide) λY US anz XX=> ?_
 rw[←ai0 hf]at US;have aEd:Ext z Y:=(m.then F λg hg=>by omega).then XX λg hg=>by omega
 refine ot (fun(y:Int) w'=> ∃j:Nat,y=j∧j≤8∧Ext z w'∧BI w' g6 (Lx f (i.getD 4 0) x.1 j)) (λy _=>(8 - y).toNat) ⟨0,rfl,af,aEd,US⟩ ?_;rintro _ w11 ⟨j,rfl,hj,q,r⟩ C hC;refine ax (λaEe=> ?_) λhge=> ?_
 ·have b:j<8:=by
    have:(j:Int)<8:=gq aEe
    omega
  have hw:IntKind.i64.wrap ((j:Int)+1)=((j+1:Nat):Int):=by rw[dh ⟨af,af⟩];simp
  refine M6 λw12 aHT t=> ?_;have u:=q.trans t;refine IY ((A.ext u).cell 0) (j3 (O.ext u) af ?_);refine ixF (hp.ext (I.trans u)) Q hx λp hc0 Hi=>uZ hc0 (Gf af ?_);rw[atX af];refine ax (λhb=> ?_) λhb=> ?_
  ·refine uu af af (j3 (N.ext u) (by simp;omega) (uu af af ?_))
   simp only[iZ,Nat.mul_one];have hl:=acT (n:=i.getD 4 0) (aX:=x.1) hf hj;refine CB (r.ext t) af λw13 G aHU aEf=> ?_;rw[alq hf b hb]at G;exact hC _ _ ⟨j+1,hw,af,u.then aEf λg hg=>by omega,G⟩ (by rw[hw];omega)
  ·refine hC _ _ ⟨j+1,hw,af,u,?_⟩ (by rw[hw];omega)
   rw[←apq b hb];exact r.ext t
 ·have b:j=8:=by
    have:¬(j:Int)<8:=gq hge
    omega
  subst b;have hl:=acT (n:=i.getD 4 0) (aX:=x.1) hf hj;refine kV r hl (xT ((L.ext d).ext q) rfl hl λw12 aEg aHV aEh=>kV aEg hl ?_);exact h3 h x hx _ ((I.trans q).then aEh λg hg=>by omega)
end Go.Proofs.YthidhjhkmjjckaaGreatDoor.Fr
namespace Go.Ev
open Go Go.RowKit
def Ly(t:List (Int×Int×Nat)):List MapEntry:=t.map λx=>⟨.int .i64 x.1,.int .i64 x.2.1,x.2.2⟩
def mp(g:Nat)(l:List (Int×Int)):HP:=Gt λq:{t:List (Int×Int×Nat) // t.map (λx=>(x.1,x.2.1))=l}×Nat=>obj g (.map (Ly q.1.1).toArray q.2)
def fnd(k:Int):List (Int×Int×Nat)→Nat→Option (Nat×Value)
 |[],_=>none
 |x::r,i=>if x.1=k then some (i,.int .i64 x.2.1)else fnd k r (i+1)
def IE(k:Int):∀(t:List (Int×Int×Nat)) (i:Nat),Instr.findNow (.int .i64) (.int .i64 k) (Ly t) i=some (fnd k t i)
 |[],i=>rfl
 |x::r,i=>by
  unfold Ly;simp only[List.map_cons,Instr.findNow,Instr.sameNow,if_true];by_cases h:x.1=k
  ·have:(k==x.1)=true:=by simp[h]
   rw[this];simp[fnd,h]
  ·have:(k==x.1)=false:=by rw[beq_eq_false_iff_ne];exact λq=>h q.symm
   rw[this];have ih:=IE k r (i+1);unfold Ly at ih;simp only[ih,fnd,if_neg h]
def Im(l:List (Int×Int))(k:Int):Option Int:=(l.find? λx=>x.1==k).map (·.2)
def Zk{k:Int}:∀{t:List (Int×Int×Nat)} {i:Nat},fnd k t i=none→Im (t.map λx=>(x.1,x.2.1)) k=none
 |[],_,_=>rfl
 |x::r,i,h=>by
  unfold fnd at h;split at h
  ·cases h
  ·rename_i hx;have:=Zk h;unfold Im at this ⊢;simp only[List.map_cons,List.find?_cons];rw[show(x.1==k)=false by rw[beq_eq_false_iff_ne];exact hx]
   exact this
def S6{k:Int}:∀{t:List (Int×Int×Nat)} {i j:Nat} {v:Value},fnd k t i=some (j,v)→i≤j∧∃n x,v= .int .i64 n∧Im (t.map λx=>(x.1,x.2.1)) k=some n∧t[j - i]?=some x∧x.1=k
 |[],_,_,_,h=>by cases h
 |x::r,i,j,v,h=>by
  unfold fnd at h;split at h
  ·rename_i hx;cases h
   refine⟨iw _,x.2.1,x,rfl,?_,bf,hx⟩;unfold Im;simp only[List.map_cons,List.find?_cons];rw[show(x.1==k)=true by simp[hx]]
   rfl
  ·rename_i hx;obtain⟨h1,n,y,h2,h3,h4,h5⟩:=S6 h;refine⟨af,n,y,h2,?_,?_,h5⟩
   ·unfold Im at h3 ⊢;simp only[List.map_cons,List.find?_cons];rw[show(x.1==k)=false by rw[beq_eq_false_iff_ne];exact hx]
    exact h3
   ·rw[show j - i=(j - (i+1))+1 by omega];simpa using h4
variable{n:Nat}{m kt et:TypeId}{k:Int}
section
variable{P:Program}{w0 w:World}{L:List HP}{g:Nat}{l:List (Int×Int)}{f:HP→List HP}
def aBA(h:St w0 w L)[a:At L (mp g) l f]:∃(t:List (Int×Int×Nat)) (n:Nat),t.map (λx=>(x.1,x.2.1))=l∧w.heap[g]?=some (.map (Ly t).toArray n):=by
 obtain⟨R,ho,hc⟩:=a.out;obtain⟨⟨⟨t,ht⟩,n⟩,h⟩:=(ho h).some;exact⟨t,n,ht,DM h⟩
def ai1(h:St w0 w (mp g l::L)):∃(t:List (Int×Int×Nat)) (n:Nat),t.map (λx=>(x.1,x.2.1))=l∧St w0 w (obj g (.map (Ly t).toArray n)::L):=by
 obtain⟨⟨⟨t,ht⟩,n⟩,h⟩:=h.some;exact⟨t,n,ht,h⟩
def acV{t:List (Int×Int×Nat)}(h:St w0 w (obj g (.map (Ly t).toArray n)::L)):St w0 w (mp g (t.map λx=>(x.1,x.2.1))::L):=
 St.ex (⟨t,rfl⟩,n) h
structure MpT (P:Program) (m k e:TypeId):Prop where
 m:P.underlying m=some (.map k e)
 k:P.underlying k=some (.int .i64)
 z:zOf P e=some (.int .i64 0)
def VZ(k:Int):MapKept.IsKey (.int .i64) (.int .i64 k):=by simp[MapKept.IsKey]
def at5{c:Option Nat→ap}(h:St w0 w L)(hc:∀g w',St w0 w' (mp g []::L)→c (some g) w'):mkMap P m none w c:=by
 have hr:(Instr.makeMap m none).run P w= .ok (.map (some w.heap.size)) (w.alloc (.map #[] 0)):=by
  simp only[Instr.makeMap,cR,run_newObj,cK,cP,World.alloc_eq]
 unfold mkMap;rw[hr];show c (some w.heap.size) _;refine hc _ _ ?_;have h2:=acd (.map #[] 0) h;exact acV (t:=[]) h2
def anA{c:Value→ap}(ht:MpT P m kt et)(h:St w0 w L)[a:At L (mp g) l f](hc:c (.tuple #[.int .i64 ((Im l k).getD 0),.bool (Im l k).isSome]) w):look P m (.map (some g)) (.int .i64 k) true w c:=by
 obtain⟨t,n,b,hb⟩:=aBA (g:=g) h;have hf:=MapKept.run_findKey (w:=w) ht.k (IE k t 0);have d:∀e,(Instr.checkKey e 10000 kt (.int .i64 k)).run P w= .ok () w:=λe=>MapKept.run_checkKey ht.k (VZ k) e 9999;have hz:(zeroValue et).run P w= .ok (.int .i64 0) w:=LG ht.z;unfold look;cases hq:fnd k t 0 with
 |none=>
  rw[hq]at hf;have hm:=Zk hq;rw[b]at hm;rw[hm]at hc;have hr:(Instr.lookup m (.map (some g)) (.int .i64 k) true).run P w= .ok (.tuple #[.int .i64 0,.bool false]) w:=by
   simp only[Instr.lookup,cR,jr ht.m,cK,MapKept.run_getObj_map hb,cP,d,hf,hz,if_true]
  rw[hr];exact hc
 |some r=>
  obtain⟨j,v⟩:=r;rw[hq]at hf;obtain⟨_,n2,x,rfl,hm,_⟩:=S6 hq;rw[b]at hm;rw[hm]at hc;have hr:(Instr.lookup m (.map (some g)) (.int .i64 k) true).run P w= .ok (.tuple #[.int .i64 n2,.bool true]) w:=by
   simp only[Instr.lookup,cR,jr ht.m,cK,MapKept.run_getObj_map hb,cP,d,hf,if_true]
  rw[hr];exact hc
def acX{α β:Type}(f:α→β):∀(l:List α) (i:Nat),(l.eraseIdx i).map f=(l.map f).eraseIdx i
 |[],_=>rfl
 |_::_,0=>rfl
 |_::l,i+1=>by simp[acX f l i]
def apr{x:Int}{c:ap}(ht:MpT P m kt et)(h:St w0 w L)[a:At L (mp g) l f](hno:Im l k=none)(hc:∀w',St w0 w' (f (mp g (l++[(k,x)])))→c w'):MP P m (.map (some g)) (.int .i64 k) (.int .i64 x) w c:=by
 obtain⟨R,ho,i⟩:=a.out;obtain⟨t,n,b,h⟩:=ai1 (ho h);have hb:=DM (g:=g) h;have hf:=MapKept.run_findKey (w:=w) ht.k (IE k t 0);have d:(Instr.checkKey false 10000 kt (.int .i64 k)).run P w= .ok () w:=MapKept.run_checkKey ht.k (VZ k) false 9999;cases hq:fnd k t 0 with
 |some r=>
  obtain⟨j,v⟩:=r;obtain⟨_,n2,x,rfl,hm,_⟩:=S6 hq;rw[b,hno]at hm;cases hm
 |none=>
  rw[hq]at hf;have p:∀o,(setObj g o).run P w= .ok () (w.putObj g o):=λo=>by
   rw[MapKept.run_setObj_map o hb];rfl
  have hr:(Instr.mapUpdate m (.map (some g)) (.int .i64 k) (.int .i64 x)).run P w= .ok () (w.putObj g (.map ((Ly t).toArray.push ⟨.int .i64 k,.int .i64 x,n⟩) (n+1))):=by
   simp only[Instr.mapUpdate,cR,jr ht.m,cK,MapKept.run_getObj_map hb,cP,d,hf,p]
  unfold MP;rw[hr];refine hc _ (i ?_);have e:(Ly t).toArray.push ⟨.int .i64 k,.int .i64 x,n⟩=(Ly (t++[(k,x,n)])).toArray:=by simp[Ly]
  rw[e];have h2:=AV (g:=g) (.map (Ly (t++[(k,x,n)])).toArray (n+1)) h;have h3:=acV h2;rw[List.map_append,b]at h3;exact h3
def MD{k:Int}:∀{t:List (Int×Int×Nat)} {j:Nat} {x},(t.map (·.1)).Nodup→t[j]?=some x→x.1=k→(t.eraseIdx j).map (λx=>(x.1,x.2.1))=(t.map λx=>(x.1,x.2.1)).filter λx=>x.1≠k
 |[],j,x,_,h,_=>by simp at h
 |y::r,0,x,hn,h,hx=>by
  simp only[List.getElem?_cons_zero,Option.some.injEq]at h;subst h;rw[List.map_cons,List.nodup_cons]at hn;simp only[List.eraseIdx_cons_zero,List.map_cons];rw[List.filter_cons_of_neg (by simp[hx])]
  symm;rw[List.filter_eq_self];intro z hz;obtain⟨u,hu,rfl⟩:=List.mem_map.1 hz;simp only[ne_eq,decide_eq_true_eq];rintro rfl;exact hn.1 (List.mem_map.2 ⟨u,hu,hx.symm⟩)
 |y::r,j+1,x,hn,h,hx=>by
  simp only[List.getElem?_cons_succ]at h;rw[List.map_cons,List.nodup_cons]at hn;have ih:=MD hn.2 h hx;simp only[List.eraseIdx_cons_succ,List.map_cons];rw[List.filter_cons_of_pos,ih];simp only[ne_eq,decide_eq_true_eq];rintro e;exact hn.1 (List.mem_map.2 ⟨x,qn h,by rw[hx,e]⟩)
def anB{t2:TypeId}{c:Value→ap}(ht:MpT P m kt et)(h:St w0 w L)[a:At L (mp g) l f](hnd:(l.map (·.1)).Nodup)(hin:(Im l k).isSome=true)(hc:∀w',St w0 w' (f (mp g (l.filter λx=>x.1≠k)))→c (.tuple #[]) w'):ahR P #[m,kt] t2 [.map (some g),.int .i64 k] w c:=by
 obtain⟨R,ho,s⟩:=a.out;obtain⟨t,n,b,h⟩:=ai1 (ho h);have hb:=DM (g:=g) h;have hf:=MapKept.run_findKey (w:=w) ht.k (IE k t 0);have d:∀e,(Instr.checkKey e 10000 kt (.int .i64 k)).run P w= .ok () w:=λe=>MapKept.run_checkKey ht.k (VZ k) e 9999;have u:∀o,(setObj g o).run P w= .ok () (w.putObj g o):=λo=>by
  rw[MapKept.run_setObj_map o hb];rfl
 cases hq:fnd k t 0 with
 |none=>
  have hm:=Zk hq;rw[b]at hm;rw[hm]at hin;cases hin
 |some r=>
  obtain⟨j,v⟩:=r;rw[hq]at hf;obtain⟨_,n2,x,rfl,hm,hx,i⟩:=S6 hq;rw[Nat.sub_zero]at hx;have hr:(Builtin.delete_ #[m,kt] t2 #[.map (some g),.int .i64 k]).run P w= .ok (.tuple #[]) (w.putObj g (.map ((Ly t).toArray.eraseIdxIfInBounds j) n)):=by
   have e0:(#[m,kt]:Array TypeId)[0]?=some m:=rfl;have e1:(#[Value.map (some g),.int .i64 k]:Array Value)[0]?=some (.map (some g)):=rfl;have e2:(#[Value.map (some g),.int .i64 k]:Array Value)[1]?=some (.int .i64 k):=rfl;simp only[Builtin.delete_,e0,e1,e2,cR,jr ht.m,cK,MapKept.run_getObj_map hb,cP,d,hf,u]
  unfold ahR;have y:([Value.map (some g),.int .i64 k]:List Value).toArray=#[.map (some g),.int .i64 k]:=rfl;rw[y,hr];refine hc _ (s ?_);have p:j<t.length:=(kB.1 hx).1;have e:(Ly t).toArray.eraseIdxIfInBounds j=(Ly (t.eraseIdx j)).toArray:=by
   unfold Ly;rw[acX];simp[Array.eraseIdxIfInBounds,p]
  rw[e];have h2:=AV (g:=g) (.map (Ly (t.eraseIdx j)).toArray n) h;have h3:=acV h2;have q:(t.map (·.1)).Nodup:=by rw[←b,List.map_map]at hnd;exact hnd
  rw[MD q hx i,b]at h3;exact h3
end
section
variable{P:Program}{w:World}{t e:TypeId}{i:TypeInfo}{m:Method}{name:String}{a:Addr}{f:FuncId}{bY:ey}{args:Array Value}{c:Value→ap}
def aeq(hi:P.info? t=some i)(hm:(i.methods.find? λm=>m.name==name)=some m)(hp:m.path=#[])(hf:m.func=some (f,true))(hu:P.underlying t=some (.pointer e)):
  (method (n+1) t (.pointer (some a)) name).run P w= .ok (f,.pointer (some a)) w:=by
 have b:(typeInfo t).run P w= .ok i w:=by simp[typeInfo,hi]
 simp only[method,cR,b,cK,hm,hp,Array.toList_empty,List.isEmpty_nil,follow,cP,hf,receiverAt,jr hu,Place.get]
def aps:(#[]:Array FieldStep).isEmpty=true:=rfl
def apt{ts:Array TypeId}{t2:TypeId}{x y:String}:(Builtin.ssaWrapNilChk_ ts t2 #[.pointer (some a),strVal x,strVal y]).run P w= .ok (.pointer (some a)) w:=rfl
def aer{s:Sl}{e2:TypeId}(hi:P.info? t=some i)(hm:(i.methods.find? λm=>m.name==name)=some m)(hp:m.path=#[])(hf:m.func=some (f,false))(hu:P.underlying t=some (.pointer e))(hk:rX P e= .s)(he:P.underlying e=some (.slice e2))(hcell:w.cell? a=some (.slice s.a s.n s.c)):
  (method (n+1) t (.pointer (some a)) name).run P w= .ok (f,.slice s.a s.n s.c) w:=by
 have b:(typeInfo t).run P w= .ok i w:=by simp[typeInfo,hi]
 have hl:(loadVar e a).run P w= .ok (.slice s.a s.n s.c) w:=by
  simp only[cR,loadVar,Yr he (by rw[hk];simp),Bool.false_eq_true,if_false,run_load,hcell,cK]
 simp only[method,cR,b,cK,hm,hp,Array.toList_empty,List.isEmpty_nil,follow,cP,hf,receiverAt,jr hu,Place.get,aps,if_true,apt,asAddr,hl]
def at6(hi:P.info? t=some i)(hm:(i.methods.find? λm=>m.name==name)=some m)(hp:m.path=#[])(hf:m.func=some (f,true))(hu:P.underlying t=some (.pointer e))(hn:P.types.size≠0)
  (h:bY (.func f) (#[.pointer (some a)] ++args) w c):pR bY P (.iface t (.pointer (some a))) name args w c:=by
 obtain⟨n,hn⟩:∃n,P.types.size+Made.depth=n+1:=⟨P.types.size+Made.depth - 1,af⟩;unfold pR;dsimp only;rw[hn,aeq hi hm hp hf hu];exact h
def at7{s:Sl}{e2:TypeId}(hi:P.info? t=some i)(hm:(i.methods.find? λm=>m.name==name)=some m)(hp:m.path=#[])(hf:m.func=some (f,false))(hu:P.underlying t=some (.pointer e))(hk:rX P e= .s)(he:P.underlying e=some (.slice e2))(hn:P.types.size≠0)(hcell:w.cell? a=some (.slice s.a s.n s.c))
  (h:bY (.func f) (#[.slice s.a s.n s.c] ++args) w c):pR bY P (.iface t (.pointer (some a))) name args w c:=by
 obtain⟨n,hn⟩:∃n,P.types.size+Made.depth=n+1:=⟨P.types.size+Made.depth - 1,af⟩;unfold pR;dsimp only;rw[hn,aer hi hm hp hf hu hk he hcell];exact h
end
end Go.Ev
namespace Go.Proofs.YthidhjhkmjjckaaGreatDoor.Ko
open Go Go.Ev Go.Proofs
abbrev DL:=List (Int×Int)
def rT(a b:Int×Int):Prop:=a.1<b.1∨(a.1=b.1∧a.2<b.2)
instance (a b:Int×Int):Decidable (rT a b):=by unfold rT;infer_instance
def gd(d:DL)(k:Nat):Int×Int:=d.getD k (0,0)
def rz(k:Nat):Nat:=(k - 1) / 2
def HH(d:DL)(n:Nat):Prop:=∀k,1≤k→k<n→¬rT (gd d k) (gd d (rz k))
structure HU (d:DL) (n j:Nat):Prop where
 a:∀k,1≤k→k<n→k≠j→¬rT (gd d k) (gd d (rz k))
 b:∀k,1≤k→k<n→rz k=j→1≤j→¬rT (gd d k) (gd d (rz j))
structure HD (d:DL) (n i0 i:Nat):Prop where
 a:∀k,1≤k→k<n→rz k≠i→¬(k=i0∧i=i0)→¬rT (gd d k) (gd d (rz k))
 b:∀k,1≤k→k<n→rz k=i→1≤i→¬rT (gd d k) (gd d (rz i))
def Lz(d:DL)(i j:Nat):DL:=(d.set i (gd d j)).set j (gd d i)
def ai2(d:DL)(i j:Nat):(Lz d i j).length=d.length:=by simp[Lz]
variable{d:DL}{i j k:Nat}
def S7(hi:i<d.length)(hj:j<d.length):gd (Lz d i j) k=if k=j then gd d i else if k=i then gd d j else gd d k:=by
 unfold gd Lz;simp only[m0,List.getElem?_set,List.length_set];by_cases h1:k=j
 ·subst h1;simp[hj,gd,m0]
 ·by_cases h2:k=i
  ·subst h2;rw[if_neg (λq=>h1 q.symm),if_pos rfl,if_pos hi,if_neg h1,if_pos rfl];rfl
  ·rw[if_neg (λq=>h1 q.symm),if_neg (λq=>h2 q.symm),if_neg h1,if_neg h2]
def Zm(hi:i<d.length)(hj:j<d.length):(Lz d i j).Perm d:=by
 have e1:gd d j=d[j]:=by unfold gd;rw[m0,iH hj];rfl
 have e2:gd d i=d[i]:=by unfold gd;rw[m0,iH hi];rfl
 unfold Lz;rw[e1,e2];exact List.set_set_perm hi hj
variable{a b c:Int×Int}
def Ox(h1:¬rT a b)(h2:¬rT b c):¬rT a c:=by unfold rT at*;omega
def ax3(h1:¬rT a b)(h2:rT c b):¬rT a c:=by unfold rT at*;omega
def V0(h:rT a b):¬rT b a:=by unfold rT at*;omega
def ax4(h1:rT a b)(h2:rT b c):rT a c:=by unfold rT at*;omega
def acZ(a:Int×Int):¬rT a a:=by unfold rT;omega
def aua(h:¬rT a b)(hn:a≠b):rT b a:=by
 obtain⟨a1,a2⟩:=a;obtain⟨b1,b2⟩:=b;unfold rT at*
 dsimp only at*
 have:¬(a1=b1∧a2=b2):=λq=>hn (by rw[q.1,q.2])
 omega
def uk(h:1≤k):rz k<k:=by unfold rz;omega
variable{n:Nat}
def aub(h:HU d n j)(hn:n≤d.length)(h1:1≤j)(hj:j<n)(hl:rT (gd d j) (gd d (rz j))):HU (Lz d (rz j) j) n (rz j):=by
 have hp:=uk h1;have g:∀k,gd (Lz d (rz j) j) k=if k=j then gd d (rz j)else if k=rz j then gd d j else gd d k:=λk=>S7 af af
 refine⟨λk c e i=> ?_,λk c e l p1=> ?_⟩
 ·rw[g,g];have hpk:=uk c;by_cases e1:k=j
  ·subst e1;rw[if_pos rfl,if_neg af,if_pos rfl];exact V0 hl
  ·rw[if_neg e1,if_neg i];by_cases e2:rz k=j
   ·rw[if_pos e2];exact h.b k c e e2 h1
   ·rw[if_neg e2];by_cases f:rz k=rz j
    ·rw[if_pos f];have:=h.a k c e e1;rw[f]at this;exact ax3 this hl
    ·rw[if_neg f];exact h.a k c e e1
 ·have hpk:=uk c;have m:=uk p1;have h0:=h.a (rz j) p1 af af;have eg:gd (Lz d (rz j) j) (rz (rz j))=gd d (rz (rz j)):=by rw[g,if_neg af,if_neg af]
  rw[eg];by_cases e1:k=j
  ·rw[g,if_pos e1];exact h0
  ·rw[g,if_neg e1,if_neg af];have:=h.a k c e e1;rw[l]at this;exact Ox this h0
def anC(h:HU d n j)(he:j=0∨¬rT (gd d j) (gd d (rz j))):HH d n:=by
 intro k b c;by_cases e:k=j
 ·subst e;rcases he with he|he
  ·omega
  ·exact he
 ·exact h.a k b c e
def auc{i0:Nat}(h:HD d n i0 i)(hn:n≤d.length)(p:i0≤i)(h1:1≤j)(hj:j<n)(hp:rz j=i)(hm:∀k,1≤k→k<n→rz k=i→¬rT (gd d k) (gd d j))(hl:rT (gd d j) (gd d i)):HD (Lz d i j) n i0 j:=by
 have l:=uk h1;rw[hp]at l;have g:∀k,gd (Lz d i j) k=if k=j then gd d i else if k=i then gd d j else gd d k:=λk=>S7 af af
 refine⟨λk c e m _=> ?_,λk c e o _=> ?_⟩
 ·have hpk:=uk c;rw[g,g];by_cases e1:k=j
  ·subst e1;rw[if_pos rfl,if_neg af,if_pos hp];exact V0 hl
  ·rw[if_neg e1,if_neg m];by_cases e2:k=i
   ·subst e2;rw[if_pos rfl,if_neg af];exact h.b j h1 hj hp c
   ·rw[if_neg e2];by_cases f:rz k=i
    ·rw[if_pos f];exact hm k c e f
    ·rw[if_neg f];exact h.a k c e f af
 ·have hpk:=uk c;rw[g,g,hp,if_neg af,if_neg af,if_neg af,if_pos rfl];have:=h.a k c e af af;rw[o]at this;exact this
def ax5{i0:Nat}(h:HD d n i0 i)(he:∀k,1≤k→k<n→rz k=i→¬rT (gd d k) (gd d i)):(i≠i0→HH d n)∧(i=i0→HU d n i0):=by
 refine⟨λhi k c f=> ?_,λhi=>⟨λk c f j=> ?_,λk c f g p1=> ?_⟩⟩
 ·by_cases e:rz k=i
  ·rw[e];exact he k c f e
  ·exact h.a k c f e af
 ·by_cases e:rz k=i
  ·rw[e];exact he k c f e
  ·exact h.a k c f e af
 ·subst hi;exact h.b k c f g p1
def aud(h:HH d n):∀k,k<n→¬rT (gd d k) (gd d 0):=by
 intro k;induction k using Nat.strongRecOn with
 |_ k ih=>
  intro hk;by_cases e:k=0
  ·subst e;exact acZ _
  ·have:=uk (k:=k) af;exact Ox (h k af hk) (ih (rz k) this af)
def anD{x:Int×Int}(h:k<d.length):gd (d++[x]) k=gd d k:=by
 unfold gd;rw[m0,m0,tJ h]
def aue{x:Int×Int}(h:HH d d.length):HU (d++[x]) (d.length+1) d.length:=by
 refine⟨λk a b c=> ?_,λk a b e p1=> ?_⟩
 ·have:=uk a;rw[anD af,anD af];exact h k a af
 ·have:=uk a;omega
variable{m:Nat}
def anE(h:HH d d.length)(hm:m+1=d.length)(hi:i<m):HD (Lz d i m) m i i:=by
 have g:∀k,gd (Lz d i m) k=if k=m then gd d i else if k=i then gd d m else gd d k:=λk=>S7 af af
 refine⟨λk a c b kk=> ?_,λk a c b p1=> ?_⟩
 ·have:=uk a;rw[g,g,if_neg af,if_neg af,if_neg af,if_neg b];exact h k a af
 ·have h1:=uk a;have h2:=uk p1;rw[g,g (rz i),if_neg af,if_neg af,if_neg af,if_neg af];have h3:=h k a af;rw[b]at h3;exact Ox h3 (h i p1 af)
def ai4(h:k<m):gd (d.take m) k=gd d k:=by
 unfold gd;rw[m0,m0,List.getElem?_take_of_lt h]
def ac0(h:HH d m)(hm:m≤d.length):HH (d.take m) (d.take m).length:=by
 intro k a b;rw[List.length_take]at b;have:=uk a;rw[ai4 af,ai4 af];exact h k a af
abbrev Srt(S:DL):Prop:=S.Pairwise rT
def ins(x:Int×Int):DL→DL
 |[]=>[x]
 |y::r=>if rT x y then x::y::r else y::ins x r
def IN(x:Int×Int):∀S:DL,(ins x S).Perm (x::S)
 |[]=> .refl _
 |y::r=>by
  unfold ins;split
  ·exact .refl _
  ·exact((IN x r).cons y).trans (.swap _ _ _)
def ai5{x:Int×Int}:∀{S:DL},Srt S→x ∉ S→Srt (ins x S)
 |[],_,_=>by unfold ins;simp
 |y::r,h,hx=>by
  unfold ins;replace h:=List.pairwise_cons.1 h;split
  ·rename_i hl;refine List.pairwise_cons.2 ⟨λz hz=> ?_,List.pairwise_cons.2 h⟩;rcases List.mem_cons.1 hz with rfl|hz
   ·exact hl
   ·exact ax4 hl (h.1 z hz)
  ·rename_i hl;refine List.pairwise_cons.2 ⟨λz hz=> ?_,ai5 h.2 λq=>hx (by simp[q])⟩
   rcases List.mem_cons.1 ((IN x r).subset hz)with rfl|hz
   ·exact aua hl λq=>hx (by simp[q])
   ·exact h.1 z hz
def aal{S:DL}(h:Srt S)(p:Int×Int→Bool):Srt (S.filter p):=h.filter p
end Go.Proofs.YthidhjhkmjjckaaGreatDoor.Ko
