/-
  Parts of the proof of LOnce: printed by a program out of longer texts.
-/
import Derived.Test.YthidhjhkmjjckaaGreatDoorPOnce2
import Derived.MapKept
import Derived.WideKeyRuns
set_option maxRecDepth 100000
set_option linter.unusedVariables false
set_option linter.unusedSimpArgs false
set_option linter.defProp false
open Go.Value renaming pointer->IB,nilFunc->C_,tuple->J3,slice->IC,bool->Iq
open Go.IntKind renaming i64->B_
open Or renaming inl->D_,inr->E_
open Go.Fn renaming func->F_
open Option renaming some->G_,none->H_,some->G_
open Bool renaming true->J_,false->K_,false_eq_true->h_,not_eq_false'->OM,true_and->Oo
open Decidable renaming decide->L_
open Go renaming Value->M_,World->N_,Addr->P_,TypeId->Q_
open Array renaming toList_empty->J6
open BitVec renaming eq_of_toNat_eq->J7,getLsbD_and->J8,getLsbD_neg->J9,getLsbD_ofNat->JT,ofInt->f_,ofInt_natCast->Ja,ofNat->Jb,testBit_toNat->Jc,toNat_and->Jd,toNat_ofInt->Je,toNat_ofNat->J',twoPow->N'
open ByteArray renaming mk->Oq,size->Ot
open Classical renaming byContradiction->Ou
open Go.Ev renaming Own->Qk
open Iff renaming rfl->k_
open Int renaming emod_nonneg->Ql
open List renaming append_nil->n_,append_toArray->Rc,cons_append->S',drop_eq_getElem_cons->TT,eraseIdx_eq_take_drop_succ->T',filter_append->Ur,filter_eq_nil_iff->Us,flatten_cons->Ut,getElem?_toArray->v_,length_cons->x_,length_map->U',length_nil->VI,length_set->VJ,map_append->VK,map_cons->z_,mem_cons->BP,mem_or_eq_of_mem_set->VL,nil_append->VM,nodup_cons->VN,pairwise_cons->VO,range->CX,replicate_succ->VP,set_append_right->V',take_of_length_le->CY,take_set_of_le->Wz
open Nat renaming ble->X',le_of_ble_eq_true->DS,mod_eq_of_lt->Y',mul_le_mul_right->F3,mul_one->F4,pow_le_pow_right->Z',pow_pos->bL,succ_mul->bM,zero_add->FM,zero_mul->Gm
open List renaming getElem?_eq_some_iff->kB,getElem?_eq_getElem->iH,getD_eq_getElem?_getD->m0,getElem?_append_left->tJ,getElem?_append_right->u0,getElem?_set_ne->r0,getElem?_set_self->uO,mem_of_getElem?->qn,getElem?_map->l8,eraseIdx->I7,replicate->dU,mem_append->zw,length_append->uv,all_eq_true->tL
open Go.Sem renaming run_pure->cP,run_bind->cR
open Go.Result renaming andThen_ok->cK
open Bool renaming or_eq_false_iff->kf,and_eq_true->iY
open Option renaming isNone->eA
open Go.IntKind renaming wrap->aF
open Int renaming toNat_natCast->iZ
open Array renaming setIfInBounds->eS,getElem?_eq_some_iff->Bf
open Nat renaming le_refl->iw
open Go.Addr renaming add->aY
namespace Go.Proofs.YthidhjhkmjjckaaGreatDoor
open Go Go.Ev Tryz
abbrev aDI:=N_->(Bool->ap)->Prop
abbrev as0(f:aDI):bt:=DD [] [.b] λx=>f
def As(cn:Vm)(ae:T1):T0:=λa w k=>drew w λc=>qA7 a 2 c 2 λf=>u7 a c 0 λp5=>u7 p5 c 7 λp7=>qJ7 a B_ c 1 λs=>cn f p7 s c λb d=>u7 a d 0 λp13=>ae p13 (b.1,b.2).2 d λh e=>an h (k () e) (v7 a e 26 (Iv (b.1,b.2).1) λj=>v7 a j 7 (.func (F_ mS) #[IB a] #[]) λm=>k () m)
def RS a b:E [.p] [] [(qD,Jl a),(bg,qu b)] 268435469 [] f309=As a b:=aZ
def gZ:=As cn ae
abbrev Au:bt:=bZ gZ
def RT:SS lI (bZ gZ):=so func309 (.c yw (.c bp .z)) (RS cn ae)
def dW:T31:=λa d e w k=>drew w λc=>cN a d 2 λj=>aJ B_ c (j.add 0) λl=>cN a e 2 λm=>aJ B_ c (m.add 0) λn=>an (L_ (l<n)) (k J_ c) (cN a d 2 λo=>aJ B_ c (o.add 0) λp=>cN a e 2 λq=>aJ B_ c (q.add 0) λr=>an (p==r) (cN a d 2 λf=>aJ B_ c (f.add 1) λg=>cN a e 2 λh=>aJ B_ c (h.add 1) λi=>k (L_ (g<i)) c) (k K_ c))
abbrev XF:bt:=Xb dW
def KC:SS lj (Xb dW):=sl 71 [] func421
def bF:T13:=λa b c w k=>drew w λd=>cN a c 2 λg=>bx 2 d g λe=>cN a b 2 λh=>bx 2 d h λf=>cN a b 2 λi=>dQ 2 d i e λj=>cN a c 2 λl=>dQ 2 j l f λm=>k () m
abbrev XG:bt:=D5 bF
def ze:SS dH (D5 bF):=sl 0 [] func422
def Av(dW:T31)(bF:T13):T26:=fun h_0 j_1 w k=>jD (S:=Int) (fun C1 i2 w3=>cz (S:=Bool) (fun J4=>an ((Wf B_ (IntKind.wrap B_ (i2 - 1)) 2)==i2) (J4 J_ w3) (pR (kC [(lj,(Xb dW)),(dH,(D5 bF))]) Tryz.prog h_0 "Less" #[Iv i2,(Iv (Wf B_ (IntKind.wrap B_ (i2 - 1)) 2))] w3 fun v5 w6=>Ir v5 fun b7=>J4 (!b7) w6)) fun b8 w9=>an b8 (k () w9) (pR (kC [(lj,(Xb dW)),(dH,(D5 bF))]) Tryz.prog h_0 "Swap" #[(Iv (Wf B_ (IntKind.wrap B_ (i2 - 1)) 2)),Iv i2] w9 fun v10 w11=>Is [] v10 fun(u12:Unit)=>C1 (Wf B_ (IntKind.wrap B_ (i2 - 1)) 2) w11)) j_1 w
def RU a c:E [.raw,.i B_] [] [(lj,Xb a),(dH,D5 c)] 131091 [(1,[(1,(.i B_))]),(4,[(17,.b)])] f379=u_2 (Av a c):=aZ
def cC:=Av dW bF
def GN:SS jt (UK cC):=so func379 (.c KC (.c ze .z)) (RU dW bF)
def j8:Tq:=λe j w k=>tyA Tryz.prog j 20 259 J_ w λv x=>Is [.ag,.b] v fun(r:Array M_×Bool)=>aE x #[Iv 0,Iv 0] 259 λs y=>dQ 2 y s r.1 λt=>an r.2 (drew t λi=>nn e λu=>cy i u λl=>bx 2 i s λf=>kT #[Iv 0,Iv 0] 0 2 f λg=>aE i g 259 λm h=>ai 1 u i h (og Tryz.prog #[209,209] 209 [S_ l,(IC (G_ m) 1 1)] h λd o=>nn e λp=>bN o p (S_ d) λq=>k () q)) (k () t)
abbrev XH:bt:=E9 j8
def XI:SS rK (E9 j8):=sl 2097 [] func424
def cO:T17:=λa w k=>k ((a.n:Nat):Int) w
abbrev Y2:bt:=Jk cO
def FZ:SS fP (Jk cO):=sl 5 [] func420
def wS(cC:T26)(j8:Tq)(cO:T17):asG:=fun h_0 x_1 w k=>pR (kC [(jt,(UK cC)),(rK,(E9 j8)),(fP,(Jk cO))]) Tryz.prog h_0 "Push" #[x_1] w fun v1 w2=>Is [] v1 fun(u3:Unit)=>pR (kC [(jt,(UK cC)),(rK,(E9 j8)),(fP,(Jk cO))]) Tryz.prog h_0 "Len" #[] w2 fun v4 w5=>xS B_ v4 fun i6=>cC h_0 (IntKind.wrap B_ (i6 - 1)) w5 fun _u w7=>k () w7
def N0 a b c:E [.raw,.raw] [] [(jt,UK a),(rK,E9 b),(fP,Jk c)] 1 [] f372=u_2 (wS a b c):=aZ
def jx:=wS cC j8 cO
def N1:SS D1 (asH jx):=so func372 (.c GN (.c XI (.c FZ .z))) (N0 cC j8 cO)
def CU(jx:asG):T48:=λa aag ani w k=>an (eA a) (k 2 w) (an (((L_ (aag<0))||(decide (ani<1)))||(decide (ani>1099511627776))) (k 10 w) (nn a λo=>ldM w (o.add 2) λp2=>Go.Ev.look Tryz.prog 207 (.map p2) (Iv aag) J_ w λp n=>Is [(.i B_),.b] p fun(q:Int×Bool)=>an q.2 (k 18 n) (drew n λe=>nn a λr=>ldM e (r.add 2) λp8=>qJ7 a B_ e 0 λf=>MP Tryz.prog 207 (.map p8) (Iv aag) (Iv (aF B_ (f+ani))) e λg=>drew g λd=>nn a λh=>qJ7 a B_ d 0 λl=>jx (.iface 261 (IB (G_ (h.add 1)))) (.iface 259 (.agg #[(Iv (aF B_ (l+ani))),Iv aag])) d λ_u m=>k 0 m)))
def VD a:E [.p,.i B_,.i B_] [.i B_] [(D1,asH a)] 4294972231 [] f355=u_3 (CU a):=aZ
def mD:=CU jx
def VE:SS Jh (am2 mD):=so func355 (.c N1 .z) (VD jx)
def yH(aD:W8)(ah:T8)(aH:Nl)(aq:Nl)(cY:T51)(ae:T1)(mD:T48)(av:W9)(aG:T0):T0:=λd w k=>aD d w λb1 w2=>an b1 (k () w2) (ah d w2 λp3 w4=>aH d w4 λa2 w6=>aE w6 JN 75 λa7 w8=>dQ 5 w8 a7 a2 λw9=>drew w9 λf=>nn d λA=>aQ f (A.add 0) λp12=>nn p12 λB=>aQ f (B.add 9) λp14=>nn d λC=>aQ f (C.add 0) λp16=>nn p16 λD=>aQ f (D.add 7) λp18=>nn d λF=>aJ B_ f (F.add 1) λa4=>aq p3 f λG j=>ai 1 (F.add 1) f j (ai 1 (D.add 7) f j (ai 1 (C.add 0) f j (ai 1 (B.add 9) f j (ai 1 (A.add 0) f j (Qq G 0 λa5=>xS B_ a5 λa6=>cY p14 p18 a4 a6 j λg H=>u7 d H 0 λa9=>ae a9 (g.1,g.2).2 H λb0 I=>an b0 (k () I) (drew I λb=>nn d λm=>aQ b (m.add 0) λb2=>nn d λo=>aQ b (o.add 0) λb3=>nn b3 λp=>cy b (p.add 10) λr=>nn p3 λJ=>aJ B_ b (J.add 0) λb4=>nn p3 λL=>cy b (L.add 25) λb5=>nn d λM=>aQ b (M.add 0) λb6=>nn b6 λN=>cy b (N.add 10) λb7=>aq p3 b λO e=>ai 1 (N.add 10) b e (ai 1 (M.add 0) b e (ai 1 (L.add 25) b e (ai 1 (J.add 0) b e (ai 1 (p.add 10) b e (ai 1 (o.add 0) b e (ai 1 (m.add 0) b e (Qq O 0 λb8=>xS B_ b8 λb9=>cN b7 b9 4 λc0=>aJ B_ e (c0.add 1) λc1=>ai 1 (p.add 10) b e (ai 1 (o.add 0) b e (ai 1 (m.add 0) b e (kT #[Iv 0,Iv 0,Iv 0,Iq K_] 0 4 #[Iv b4,(Iv ((b5.n:Nat):Int)),Iv c1,Iq K_] λP=>aE e P 125 λc2 q=>ai 1 (p.add 10) b q (ai 1 (o.add 0) b q (ai 1 (m.add 0) b q (og Tryz.prog #[96,96] 96 [S_ r,(IC (G_ c2) 1 1)] q λs Q=>ai 1 (m.add 0) b Q (v7 b2 Q 10 (S_ s) λR=>en p3 R 25 λt=>aE R #[(Iv (g.1,g.2).1)] 3 λc5 c6=>og Tryz.prog #[69,69] 69 [S_ t,(IC (G_ c5) 1 1)] c6 λu c7=>v7 p3 c7 25 (S_ u) λc9=>drew c9 λl=>nn p3 λv=>cy l (v.add 24) λx=>qJ7 d B_ l 26 λd1=>ai 1 (v.add 24) l l (kT #[Iv 0,Iv 0] 0 2 #[(Iv (g.1,g.2).1),Iv d1] λT=>aE l T 356 λd2 U=>ai 1 (v.add 24) l U (og Tryz.prog #[120,120] 120 [S_ x,(IC (G_ d2) 1 1)] U λy d3=>v7 p3 d3 24 (S_ y) λd5=>cz (S:=Bool) (λV=>drew d5 λh=>aJ B_ h (a7.add 4) λd6=>an (L_ (d6>0)) (nn d λW=>aQ h (W.add 0) λd7=>u7 d h 0 λd9=>u7 d9 h 17 λe1=>aJ B_ h (a7.add 4) λe2=>mD e1 (g.1,g.2).1 e2 h λe3 X=>ai 1 (W.add 0) h X (ae d7 e3 X λe4 e5=>V e4 e5)) (V K_ h)) λe6 z=>an e6 (k () z) (qA7 p3 19 z 4 λY=>av Y z λZ e8=>nn p3 λe9=>dQ 19 e8 (e9.add 4) Z λa0=>aG d a0 λ_u a1=>k () a1))))))))))))))))))))))))
def PW a c d e f g h i j:E [.p] [] [(jT,LR a),(bX,GB c),(kN,E8 d),(gK,E8 e),(vY,ae1 f),(bg,qu g),(Jh,am2 h),(iU,Kx i),(lK,bZ j)] 85070591730234615865843656255988564157 [(9,[(126,.b)])] f333=yH a c d e f g h i j:=aZ
def fX:=yH aD ah aH aq cY ae mD av aG
abbrev yI:bt:=bZ fX
def PX:SS mS (bZ fX):=so func333 (.c kQ (.c cm (.c mY (.c iO (.c CL (.c bp (.c VE (.c kR (.c nD .z))))))))) (PW aD ah aH aq cY ae mD av aG)
def yJ(cF:Tq):T0:=λa w k=>aE w #[IB a] 141 λb c=>aQ c b λp3=>cF p3 (.func (F_ pq) #[] #[IB (G_ b)]) c λ_u d=>k () d
def PY a:E [.p] [] [(uc,E9 a)] 2 [] f310=yJ a:=aZ
def fY:=yJ cF
abbrev yK:bt:=bZ fY
def PZ:SS kO (bZ fY):=so func310 (.c z9 .z) (PY cF)
def yL(G:T57)(H:T96)(av:W9):asc:=λuw p as2 w k=>aE w uw 119 λz B=>aE B p 75 λq C=>aE C D4 119 λo A=>bx 19 A z λr=>aE A D4 119 λs D=>dQ 19 D s r λc=>bx 5 c q λd=>G d 12 c λt a=>an t (drew a λb=>aJ B_ b (q.add 1) λu=>H as2 b λv e=>ai 1 (q.add 1) b e (Hf (s.add 2) 8 u 1 λx=>bN e x (Iv v) λf=>bx 19 f s λg=>av g f λh y=>dQ 19 y o h λi=>bx 19 i o λj=>k j i)) (bx 19 a z λl=>dQ 19 a o l λm=>bx 19 m o λn=>k n m)
def P0 a c d:E [.ag,.ag,.b] [.ag] [(DY,ais a),(Nk,ar6 c),(iU,Kx d)] 1244 [] f193=u_3 (yL a c d):=aZ
def jg:=yL eR mX av
def P1:SS E5 (asd jg):=so func193 (.c IA (.c Xx (.c kR .z))) (P0 eR mX av)
def cE:asC:=λa d w k=>aE w d 259 λi j=>jD (S:=Int) (λl b h=>an (L_ (b<((a.n:Nat):Int))) (drew h λc=>bx 2 c i λe=>cN a b 2 λm=>bx 2 c m λf=>Tj ([(0,0)] ++([(1,0)] ++[])) e f λg=>an g (k b c) (l (aF B_ (b+1)) c)) (k (-1) h)) 0 j
def xF:SS qq (asD cE):=sl 66489 [(3,[(8,(.i B_))])] func364
def wT(dW:T31)(bF:T13):T24:=fun h_0 as3 n_2 w k=>jD (S:=Int) (fun C1 i2 w3=>an ((L_ ((IntKind.wrap B_ ((IntKind.wrap B_ (2*i2))+1))>=n_2))||(decide ((IntKind.wrap B_ ((IntKind.wrap B_ (2*i2))+1))<0))) (k (decide (i2>as3)) w3) (cz (S:=Bool) (fun J4=>an (L_ ((IntKind.wrap B_ ((IntKind.wrap B_ ((IntKind.wrap B_ (2*i2))+1))+1))<n_2)) (pR (kC [(lj,(Xb dW)),(dH,(D5 bF))]) Tryz.prog h_0 "Less" #[(Iv (IntKind.wrap B_ ((IntKind.wrap B_ ((IntKind.wrap B_ (2*i2))+1))+1))),(Iv (IntKind.wrap B_ ((IntKind.wrap B_ (2*i2))+1)))] w3 fun v5 w6=>Ir v5 fun b7=>J4 b7 w6) (J4 K_ w3)) fun b8 w9=>cz (S:=Int) (fun J10=>an b8 ((J10 (IntKind.wrap B_ ((IntKind.wrap B_ ((IntKind.wrap B_ (2*i2))+1))+1)) w9)) ((J10 (IntKind.wrap B_ ((IntKind.wrap B_ (2*i2))+1)) w9))) fun i11 w12=>pR (kC [(lj,(Xb dW)),(dH,(D5 bF))]) Tryz.prog h_0 "Less" #[Iv i11,Iv i2] w12 fun v13 w14=>Ir v13 fun b15=>an (!b15) (k (L_ (i2>as3)) w14) (pR (kC [(lj,(Xb dW)),(dH,(D5 bF))]) Tryz.prog h_0 "Swap" #[Iv i2,Iv i11] w14 fun v16 w17=>Is [] v16 fun(u18:Unit)=>C1 i11 w17))) as3 w
def N2 a c:E [.raw,.i B_,.i B_] [.b] [(lj,Xb a),(dH,D5 c)] 558347847623 [(3,[(7,(.i B_))]),(10,[(33,.b)]),(11,[(9,(.i B_))])] f199=u_3 (wT a c):=aZ
def bU:=wT dW bF
def EC:SS fM (Q1 bU):=so func199 (.c KC (.c ze .z)) (N2 dW bF)
def dJ:T20:=λb w k=>nn b λq=>cy w q λm=>nn b λr=>cy w r λs=>cN s (aF B_ (((m.n:Nat):Int) - 1)) 2 λt=>bx 2 w t λh=>aE w #[Iv 0,Iv 0] 259 λo u=>dQ 2 u o h λp=>nn b λi=>cy p i λj=>Th j 2 0 (aF B_ (((m.n:Nat):Int) - 1)) λd=>nn b λl=>bN p l (S_ d) λe=>bx 2 e o λf=>k (.iface 259 (.agg f)) e
abbrev Mj:bt:=H6 dJ
def Mk:SS iI (H6 dJ):=sl 29 [] func423
def uG(bU:T24)(cC:T26)(cO:T17)(bF:T13)(dJ:T20):asE:=fun h_0 i_1 w k=>pR (kC [(fM,(Q1 bU)),(jt,(UK cC)),(fP,(Jk cO)),(dH,(D5 bF)),(iI,(H6 dJ))]) Tryz.prog h_0 "Len" #[] w fun v1 w2=>xS B_ v1 fun i3=>an ((IntKind.wrap B_ (i3 - 1)) !=i_1) (pR (kC [(fM,(Q1 bU)),(jt,(UK cC)),(fP,(Jk cO)),(dH,(D5 bF)),(iI,(H6 dJ))]) Tryz.prog h_0 "Swap" #[Iv i_1,(Iv (IntKind.wrap B_ (i3 - 1)))] w2 fun v4 w5=>Is [] v4 fun(u6:Unit)=>bU h_0 i_1 (IntKind.wrap B_ (i3 - 1)) w5 fun b7 w8=>an (!b7) (cC h_0 i_1 w8 fun _u w9=>pR (kC [(fM,(Q1 bU)),(jt,(UK cC)),(fP,(Jk cO)),(dH,(D5 bF)),(iI,(H6 dJ))]) Tryz.prog h_0 "Pop" #[] w9 fun v10 w11=>k v10 w11) (pR (kC [(fM,(Q1 bU)),(jt,(UK cC)),(fP,(Jk cO)),(dH,(D5 bF)),(iI,(H6 dJ))]) Tryz.prog h_0 "Pop" #[] w8 fun v12 w13=>k v12 w13)) (pR (kC [(fM,(Q1 bU)),(jt,(UK cC)),(fP,(Jk cO)),(dH,(D5 bF)),(iI,(H6 dJ))]) Tryz.prog h_0 "Pop" #[] w2 fun v14 w15=>k v14 w15)
def Ln a b c d e:E [.raw,.i B_] [.raw] [(fM,Q1 a),(jt,UK b),(fP,Jk c),(dH,D5 d),(iI,H6 e)] 1050675 [] f363=u_2 (uG a b c d e):=aZ
def iy:=uG bU cC cO bF dJ
def Lo:SS BZ (asF iy):=so func363 (.c EC (.c GN (.c FZ (.c ze (.c Mk .z))))) (Ln bU cC cO bF dJ)
def BD(cE:asC)(iy:asE):T1:=λa aag w k=>an (eA a) (k K_ w) (nn a λn=>ldM w (n.add 2) λp2=>Go.Ev.look Tryz.prog 207 (.map p2) (Iv aag) J_ w λo f=>Is [(.i B_),.b] o fun(e:Int×Bool)=>an e.2 (nn a λq=>ldM f (q.add 2) λp7=>ahR Tryz.prog #[207,3] 0 [(.map p7),Iv aag] f λt r=>drew r λc=>nn a λg=>nn a λd=>cy c (d.add 1) λh=>ai 1 (d.add 1) c c (cE h #[Iv e.1,Iv aag] c λj l=>iy (.iface 261 (IB (G_ (g.add 1)))) j l λs m=>k e.2 m)) (k e.2 f))
def TY a c:E [.p,.i B_] [.b] [(qq,asD a),(BZ,asF c)] 262515 [] f349=u_2 (BD a c):=aZ
def lu:=BD cE iy
def Ua:SS HX (qu lu):=so func349 (.c xF (.c Lo .z)) (TY cE iy)
def Aw(D:T8)(aq:Nl)(lu:T1):T0:=λb w k=>D b w λp1 y=>aq p1 y λg h=>Qq g 0 λz=>xS B_ z λx=>u7 b h 0 λp8=>u7 p8 h 17 λp10=>lu p10 x h λC d=>u7 b d 0 λp14=>en p14 d 10 λm=>cN m x 4 λo=>bN d (o.add 3) (Iq J_) λp=>drew p λe=>en p1 e 24 λr=>en p1 e 24 λt=>Th r 2 0 (aF B_ (((t.n:Nat):Int) - 1)) λf=>v7 p1 e 24 (S_ f) λv=>k () v
def RV a b c:E [.p] [] [(bX,GB a),(gK,E8 b),(HX,qu c)] 13 [] f329=Aw a b c:=aZ
def eo:=Aw ah aq lu
def GO:SS zM (bZ eo):=so func329 (.c cm (.c iO (.c Ua .z))) (RV ah aq lu)
def wU(aD:W8)(ah:T8)(aH:Nl)(aq:Nl)(eG:T46)(ae:T1)(jg:asc)(eo:T0)(aG:T0):T0:=λb w k=>aD b w λR P=>an R (k () P) (ah b P λp3 T=>aH b T λv U=>aE U JN 75 λQ V=>dQ 5 V Q v λW=>drew W λa=>nn b λg=>aQ a (g.add 0) λp12=>nn p12 λh=>aQ a (h.add 9) λp14=>nn b λi=>aQ a (i.add 0) λp16=>nn p16 λj=>aQ a (j.add 7) λp18=>nn b λl=>aJ B_ a (l.add 1) λy=>aq p3 a λm c=>ai 1 (l.add 1) a c (ai 1 (j.add 7) a c (ai 1 (i.add 0) a c (ai 1 (h.add 9) a c (ai 1 (g.add 0) a c (Qq m 0 λz=>xS B_ z λA=>eG p14 p18 y A c λd n=>u7 b n 0 λC=>ae C (d.1,d.2).2 n λD e=>an D (k () e) (cz (S:=ByteArray) (λo=>an (d.1,d.2).1 (o (Oq #[49]) e) (o (Oq #[48]) e)) λp q=>nn p3 λF=>Qp q (F.add 23) λr=>((((((Ot r)+(Ot p)):Nat):Int)<=9223372036854775807))/\(v7 p3 q 23 (.string (r++p)) λH=>drew H λf=>qA7 p3 19 f 4 λs=>bx 5 f Q λt=>jg s t (d.1,d.2).1 f λu J=>nn p3 λL=>dQ 19 J (L.add 4) u λM=>eo b M λ_u N=>aG b N λ_u O=>k () O))))))))
def N3 a b c d e f g h i:E [.p] [] [(jT,LR a),(bX,GB b),(kN,E8 c),(gK,E8 d),(Bk,aac e),(bg,qu f),(E5,asd g),(zM,bZ h),(lK,bZ i)] 26388279067005 [(8,[(6,.str)])] f335=wU a b c d e f g h i:=aZ
def fq:=wU aD ah aH aq eG ae jg eo aG
abbrev wV:bt:=bZ fq
def N4:SS lU (bZ fq):=so func335 (.c kQ (.c cm (.c mY (.c iO (.c Ij (.c bp (.c P1 (.c GO (.c nD .z))))))))) (N3 aD ah aH aq eG ae jg eo aG)
def ED(o:T6)(p:T42):T46:=λa b f c w k=>o a b c w λg d=>an (g !=0) (k (K_,g) d) (en a d 0 λi=>cN i c 3 λj=>aJ B_ d (j.add 2) λm=>p b f m 0 1 d λe n=>k ((e.1,e.2).1,(e.1,e.2).2) n)
def XJ a c:E [.p,.p,.i B_,.i B_] [.b,.i B_] [(ol,ry a),(nq,aco c)] 67343 [] f152=u_4 (ED a c):=aZ
def gI:=ED bh aR
def KD:SS DV (aac gI):=so func152 (.c pW (.c pC .z)) (XJ bh aR)
def wW(aD:W8)(ah:T8)(aq:Nl)(gI:T46)(ae:T1)(av:W9)(aG:T0)(cj:Tq):T0:=λa w k=>aD a w λF B=>an F (k () B) (ah a B λp3 G=>drew G λc=>nn a λC=>aQ c (C.add 0) λp7=>nn p7 λD=>aQ c (D.add 9) λp9=>nn a λe=>aQ c (e.add 0) λp11=>nn p11 λf=>aQ c (f.add 7) λp13=>nn a λg=>aJ B_ c (g.add 1) λo=>aq p3 c λh b=>ai 1 (g.add 1) c b (ai 1 (f.add 7) c b (ai 1 (e.add 0) c b (ai 1 (D.add 9) c b (ai 1 (C.add 0) c b (Qq h 0 λp=>xS B_ p λq=>gI p9 p13 o q b λi j=>u7 a j 0 λs=>ae s (i.1,i.2).2 j λt d=>an t (k () d) (qA7 p3 19 d 4 λl=>av l d λm v=>nn p3 λx=>dQ 19 v (x.add 4) m λy=>aG a y λ_u z=>cj a (.func (F_ gC) #[IB a] #[]) z λ_u A=>k () A)))))))
def N5 a b c d e f g h:E [.p] [] [(jT,LR a),(bX,GB b),(gK,E8 c),(DV,aac d),(bg,qu e),(iU,Kx f),(lK,bZ g),(tB,E9 h)] 549755813973 [] f311=wW a b c d e f g h:=aZ
def fx:=wW aD ah aq gI ae av aG cj
abbrev wX:bt:=bZ fx
def N6:SS kq (bZ fx):=so func311 (.c kQ (.c cm (.c iO (.c KD (.c bp (.c kR (.c nD (.c yo .z)))))))) (N5 aD ah aq gI ae av aG cj)
def Ax(aD:W8)(ah:T8)(av:W9)(aG:T0):T0:=λa w k=>aD a w λj h=>an (!j) (ah a h λp3 l=>ah a l λp5 i=>qA7 p5 19 i 4 λb=>av b i λc d=>nn p3 λe=>dQ 19 d (e.add 4) c λf=>aG a f λ_u g=>k () g) (k () h)
def RW a b c d:E [.p] [] [(jT,LR a),(bX,GB b),(iU,Kx c),(lK,bZ d)] 17 [] f312=Ax a b c d:=aZ
def g9:=Ax aD ah av aG
abbrev Ay:bt:=bZ g9
def RX:SS lJ (bZ g9):=so func312 (.c kQ (.c cm (.c kR (.c nD .z)))) (RW aD ah av aG)
def yM(aD:W8)(ah:T8)(aH:Nl)(av:W9)(aG:T0)(cB:T41):T0:=λa w k=>aD a w λC A=>an C (k () A) (ah a A λp3 D=>aH a D λi F=>aE F JN 75 λh G=>dQ 5 G h i λB=>qA7 p3 19 B 4 λf=>av f B λg l=>nn p3 λm=>dQ 19 l (m.add 4) g λn=>aG a n λ_u c=>aJ B_ c (h.add 0) λo=>an (o==15) (drew c λd=>aJ B_ d (h.add 1) λp=>nn p3 λq=>Hf (aY (q.add 4) 2) 8 p 1 λr=>aJ B_ d r λs=>cB a 3 s d λ_u t=>k () t) (drew c λe=>aJ B_ e (h.add 1) λu=>nn p3 λv=>Hf (aY (v.add 4) 2) 8 u 1 λx=>aJ B_ e x λy=>cB a 2 y e λ_u z=>k () z))
def P2 a b c d e f:E [.p] [] [(jT,LR a),(bX,GB b),(kN,E8 c),(iU,Kx d),(lK,bZ e),(ua,acn f)] 8388701 [] f313=yM a b c d e f:=aZ
def fZ:=yM aD ah aH av aG cB
abbrev yN:bt:=bZ fZ
def P3:SS iV (bZ fZ):=so func313 (.c kQ (.c cm (.c mY (.c kR (.c nD (.c Ab .z)))))) (P2 aD ah aH av aG cB)
def Az(j:T43):T47:=λuw a b c w k=>aE w uw 116 λf e=>aJ B_ e (f.add 0) λg=>j a b (aF B_ (g+1)) c e λh i=>k h i
def RY a:E [.ag,.p,.i B_,.i B_] [.i B_] [(lQ,acp a)] 286 [] f343=u_4 (Az a):=aZ
def kH:=Az aK
def RZ:SS Gy (aad kH):=so func343 (.c nW .z) (RY aK)
def BE(A:T8)(B:T47)(C:T1):T0:=λa w k=>A a w λp1 v=>cz (S:=Bool) (λt=>drew v λb=>qJ7 p1 B_ b 26 λy=>an (y==4) (t J_ b) (nn a λu=>aQ b (u.add 0) λp8=>qA7 p1 1 b 3 λd=>u7 a b 0 λp12=>u7 p12 b 7 λp14=>qJ7 a B_ b 1 λj=>qJ7 p1 B_ b 27 λm=>B d p14 j m b λn e=>ai 1 (u.add 0) b e (C p8 n e λo p=>t (!o) p))) λq f=>an q (v7 a f 7 (.func (F_ oa) #[IB a] #[]) λs=>k () s) (k () f)
def Ub a c d:E [.p] [] [(bX,GB a),(Gy,aad c),(bg,qu d)] 137438953477 [(1,[(37,.b)])] f326=BE a c d:=aZ
def iR:=BE ah kH ae
abbrev BF:bt:=bZ iR
def Uc:SS n9 (bZ iR):=so func326 (.c cm (.c RZ (.c bp .z))) (Ub ah kH ae)
def AA(i:T42):ase:=λuw a d as4 w k=>aE w uw 116 λf b=>an (eA a) (k (K_,2) b) (an ((L_ (as4<2))||(decide (as4>4))) (k (false,10) b) (aJ B_ b (f.add 0) λg=>i a d (aF B_ (g+0)) 1 as4 b λc h=>k ((c.1,c.2).1,(c.1,c.2).2) h))
def R1 a:E [.ag,.p,.i B_,.i B_] [.b,.i B_] [(nq,aco a)] 10014 [] f359=u_4 (AA a):=aZ
def kI:=AA aR
def R3:SS Gz (asf kI):=so func359 (.c pC .z) (R1 aR)
def BG(u:T8)(kI:ase)(ae:T1):T0:=λa w k=>u a w λp1 q=>drew q λb=>qA7 p1 1 b 3 λf=>u7 a b 0 λp7=>u7 p7 b 7 λp9=>qJ7 a B_ b 1 λi=>qJ7 p1 B_ b 26 λl=>kI f p9 i l b λc d=>u7 a d 0 λp17=>ae p17 (c.1,c.2).2 d λn e=>an (!n) (v7 a e 7 (.func (F_ nw) #[IB a] #[]) λp=>k () p) (k () e)
def Ud a b c:E [.p] [] [(bX,GB a),(Gz,asf b),(bg,qu c)] 68719476757 [] f344=BG a b c:=aZ
def iS:=BG ah kI ae
abbrev BH:bt:=bZ iS
def Ue:SS oa (bZ iS):=so func344 (.c cm (.c R3 (.c bp .z))) (Ud ah kI ae)
def uH(aj:Hv):Vm:=λuw b c w k=>aE w uw 116 λf e=>aJ B_ e (f.add 0) λg=>aj b c (aF B_ (g+2)) e λa h=>k ((a.1,a.2).1,(a.1,a.2).2) h
def Lp a:E [.ag,.p,.i B_] [.i B_,.i B_] [(dS,zb a)] 206 [] f374=u_3 (uH a):=aZ
def iz:=uH aj
def Lq:SS B0 (Jl iz):=so func374 (.c er .z) (Lp aj)
def AB(u:T8)(iz:Vm)(ae:T1):T0:=λa w k=>drew w λc=>nn a λp=>aQ c (p.add 0) λp3=>nn p3 λq=>aQ c (q.add 7) λp5=>nn a λr=>aJ B_ c (r.add 1) λt=>u a c λp8 d=>ai 1 (r.add 1) c d (ai 1 (q.add 7) c d (ai 1 (p.add 0) c d (qA7 p8 1 d 3 λe=>iz e p5 t d λb f=>u7 a f 0 λp15=>ae p15 (b.1,b.2).2 f λj g=>an (!j) (v7 a g 30 (Iv (b.1,b.2).1) λm=>v7 a m 7 (.func (F_ ny) #[IB a] #[]) λo=>k () o) (k () g))))
def R4 a b c:E [.p] [] [(bX,GB a),(B0,Jl b),(bg,qu c)] 1073741837 [] f360=AB a b c:=aZ
def ia:=AB ah iz ae
abbrev AD:bt:=bZ ia
def R5:SS nw (bZ ia):=so func360 (.c cm (.c Lq (.c bp .z))) (R4 ah iz ae)
def BJ(o:T6)(p:T36):T46:=λb c f d w k=>o b c d w λh e=>an (h !=0) (k (K_,h) e) (en b e 0 λj=>cN j d 3 λl=>aJ B_ e (l.add 2) λm=>p c f (aF B_ (m+1)) (-1) e λa n=>(k ((((a.1,a.2).2==0)&&((a.1,a.2).1==1)),(a.1,a.2).2) n))
def Uf a c:E [.p,.p,.i B_,.i B_] [.b,.i B_] [(ol,ry a),(ko,aab c)] 270095 [] f386=u_4 (BJ a c):=aZ
def lz:=BJ bh aL
def Ug:SS HY (aac lz):=so func386 (.c pW (.c nB .z)) (Uf bh aL)
def AE(U:T8)(V:T46)(W:T1)(cj:Tq):T0:=λb w k=>drew w λe=>nn b λQ=>aQ e (Q.add 0) λp3=>nn p3 λR=>aQ e (R.add 9) λp5=>nn b λS=>aQ e (S.add 0) λp7=>nn p7 λT=>aQ e (T.add 7) λp9=>nn b λp=>aJ B_ e (p.add 1) λs=>U b e λp12 d=>ai 1 (p.add 1) e d (ai 1 (T.add 7) e d (ai 1 (S.add 0) e d (ai 1 (R.add 9) e d (ai 1 (Q.add 0) e d (qJ7 p12 B_ d 1 λu=>V p5 p9 s u d λh q=>u7 b q 0 λp19=>W p19 (h.1,h.2).2 q λx g=>an x (k () g) (en b g 5 λi=>en b g 6 λA=>cN A (aF B_ (((i.n:Nat):Int) - 1)) 1 λB=>tH g B λr=>drew g λj=>en b j 5 λD=>Th D 1 0 (aF B_ (((i.n:Nat):Int) - 1)) λl=>en b j 6 λG=>Th G 1 0 (aF B_ (((i.n:Nat):Int) - 1)) λm=>v7 b j 5 (S_ l) λI=>v7 b I 6 (S_ m) λL=>v7 b L 7 r λo=>qJ7 b B_ o 30 λO=>an ((O !=0)||(h.1,h.2).1) (cj b r o λ_u P=>k () P) (k () o)))))))
def R6 a b c d:E [.p] [] [(bX,GB a),(HY,aac b),(bg,qu c),(tB,E9 d)] 2417851639229533227319357 [] f375=AE a b c d:=aZ
def ie:=AE ah lz ae cj
abbrev AF:bt:=bZ ie
def R7:SS ny (bZ ie):=so func375 (.c cm (.c Ug (.c bp (.c yo .z)))) (R6 ah lz ae cj)
def wY(aj:Hv):Vm:=λuw b c w k=>aE w uw 116 λf e=>aJ B_ e (f.add 0) λg=>aj b c (aF B_ (g+0)) e λa h=>k ((a.1,a.2).1,(a.1,a.2).2) h
def N7 a:E [.ag,.p,.i B_] [.i B_,.i B_] [(dS,zb a)] 974 [] f367=u_3 (wY a):=aZ
def jy:=wY aj
def N8:SS D0 (Jl jy):=so func367 (.c er .z) (N7 aj)
def yO(jy:Vm)(ae:T1)(bI:Tq)(ah:T8)(dM:Xa):T0:=λn w k=>aE w #[IB n] 141 λb X=>drew X λf=>aQ f b λp4=>u7 p4 f 20 λp6=>qA7 p6 1 f 3 λo=>aQ f b λp9=>u7 p9 f 0 λp11=>u7 p11 f 7 λp13=>aQ f b λp14=>qJ7 p14 B_ f 1 λt=>jy o p13 t f λa h=>aQ h b λp19=>u7 p19 h 0 λv=>ae v (a.1,a.2).2 h λx g=>an x (k () g) (aQ g b λy=>u7 y g 20 λA=>aE g #[IB H_] 114 λi B=>bN B i (IB A) λc=>an ((a.1,a.2).1==0) (aQ c b λC=>qV7 C c 24 λF=>aE c #[C_] 1 λj G=>bN G j F λl=>aQ l b λH=>bI H (.func (F_ pu) #[] #[IB (G_ b),IB (G_ i),IB (G_ j)]) l λ_u I=>k () I) (an ((a.1,a.2).1==1) (drew c λd=>aQ d b λJ=>aQ d b λL=>aQ d b λM=>ah L d λN e=>ai 1 b d e (ai 1 b d e (en N e 24 λP=>cN P 0 2 λQ=>aJ B_ e (Q.add 1) λR=>dM J R (.func (F_ ku) #[IB M] #[]) e λ_u S=>k () S))) (aQ c b λT=>v7 T c 21 (Iv (a.1,a.2).1) λm=>aQ m b λV=>bI V (.func (F_ px) #[] #[IB (G_ b)]) m λ_u W=>k () W)))
def P4 a b c d e:E [.p] [] [(D0,Jl a),(bg,qu b),(q9,E9 c),(bX,GB d),(xW,LS e)] 36099449230983230 [] f354=yO a b c d e:=aZ
def gu:=yO jy ae bI ah dM
abbrev yP:bt:=bZ gu
def P5:SS mT (bZ gu):=so func354 (.c N8 (.c bp (.c uf (.c cm (.c Fq .z))))) (P4 jy ae bI ah dM)
def wZ(aj:Hv):Vm:=λuw b c w k=>aE w uw 116 λf e=>aJ B_ e (f.add 0) λg=>aj b c (aF B_ (g+1)) e λa h=>k ((a.1,a.2).1,(a.1,a.2).2) h
def N9 a:E [.ag,.p,.i B_] [.i B_,.i B_] [(dS,zb a)] 206 [] f385=u_3 (wZ a):=aZ
def jz:=wZ aj
def Oa:SS D3 (Jl jz):=so func385 (.c er .z) (N9 aj)
def yQ(eR:T57)(av:W9)(de:T49):ash:=λuw H S3 f w k=>aE w uw 119 λd w2=>aE w2 H 75 λg w4=>aE w4 D4 119 λe I=>cz (S:=Bool) (λJ=>an ((L_ (S3<2))||(decide (S3>4))) (J true I) (bx 5 I g λL=>eR L 9 I λb9 h=>an (!b9) (bx 5 h g λj=>eR j 10 h λM N=>J (!M) N) (J K_ h))) λO a=>an O (bx 19 a d λl=>dQ 19 a e l λm=>bx 19 m e λn=>k (n,(0,K_)) m) (cz (S:=Int) (λo=>aJ B_ a (g.add 0) λP=>an (P==10) (cz (S:=Int) (λp=>an (S3==4) (p 0 a) (p f a)) λQ R=>drew R λc=>aJ B_ c (g.add 1) λT=>aJ B_ c (g.add 2) λU=>Hf (d.add 2) 8 T 1 λV=>bN c V (Iv Q) λq=>ai 1 (g.add 2) c q (Hf (d.add 2) 8 U 1 λW=>bN q W (Iv (aF B_ (S3 - 2))) λr=>bx 19 r d λs=>av s r λt X=>dQ 19 X e t λu=>bx 19 u e λv=>k (v,(0,K_)) u)) (an (S3==2) (aJ B_ a (g.add 1) λY=>Hf (d.add 2) 8 Y 1 λZ=>bN a Z (Iv f) λx=>bx 19 x d λy=>av y x λz a0=>dQ 19 a0 e z λA=>bx 19 A e λB=>k (B,(0,K_)) A) (an (S3==4) (o (-1) a) (o f a)))) λa2 i=>bx 19 i d λC=>aJ B_ i (d.add 1) λa4=>de C a4 i λD a6=>dQ 19 a6 e D λF=>bx 19 F e λG=>k (G,(a2,J_)) F)
def P6 a c d:E [.ag,.ag,.i B_,.i B_] [.ag,.i B_,.b] [(DY,ais a),(iU,Kx c),(tZ,acr d)] 588746065724 [(1,[(26,.b)]),(5,[(3,(.i B_))]),(16,[(3,(.i B_))])] f192=u_4 (yQ a c d):=aZ
def iu:=yQ eR av de
def P7:SS E4 (asi iu):=so func192 (.c IA (.c kR (.c Eu .z))) (P6 eR av de)
def xa(aD:W8)(ah:T8)(aH:Nl)(jz:Vm)(ae:T1)(iu:ash)(aG:T0)(cB:T41):T0:=λa w k=>aD a w λb1 w2=>an b1 (k () w2) (ah a w2 λp3 w4=>aH a w4 λD w6=>aE w6 JN 75 λC w8=>dQ 5 w8 C D λF=>qJ7 a B_ F 21 λH=>cz (S:=Int) (λp=>an (H !=4) (drew F λe=>u7 a e 20 λp15=>qA7 p15 1 e 3 λq=>u7 a e 0 λp19=>u7 p19 e 7 λN=>qJ7 a B_ e 1 λP=>jz q N P e λf r=>u7 a r 0 λR=>ae R (f.1,f.2).2 r λT s=>an T (k () s) (p (f.1,f.2).1 s)) (p 0 F)) λt U=>cz (S:=(P_×(Int×Bool))) (λu=>drew U λb=>nn p3 λl=>bx 19 b (l.add 4) λi=>bx 5 b C λj=>nn a λm=>aJ B_ b (m.add 21) λv=>both (iu i j v t b λc V=>aE V D4 119 λx g=>ai 1 (m.add 21) b g (ai 5 C b g (ai 19 (l.add 4) b g (dQ 19 g x (c.1,(c.2.1,c.2.2)).1 λW=>(u (x,((c.1,(c.2.1,c.2.2)).2.1,(c.1,(c.2.1,c.2.2)).2.2)) W))))) (aE b D4 119 λy h=>ai 1 (m.add 21) b h (ai 5 C b h (ai 19 (l.add 4) b h (iu i j v t h λd X=>dQ 19 X y (d.1,(d.2.1,d.2.2)).1 λY=>(u (y,((d.1,(d.2.1,d.2.2)).2.1,(d.1,(d.2.1,d.2.2)).2.2)) Y)))))) λn z=>bx 19 z n.1 λA=>nn p3 λZ=>dQ 19 z (Z.add 4) A λa0=>aG a a0 λ_u B=>an n.2.2 (cB a 3 n.2.1 B λ_u a1=>k () a1) (k () B))
def Ob c d e f g h j l:E [.p] [] [(jT,LR c),(bX,GB d),(kN,E8 e),(D3,Jl f),(bg,qu g),(E4,asi h),(lK,bZ j),(ua,acn l)] 2361183522909800369149 [(5,[(4,(.i B_))]),(10,[(7,.a),(8,(.i B_)),(9,.b)])] f371=xa c d e f g h j l:=aZ
def fy:=xa aD ah aH jz ae iu aG cB
abbrev xb:bt:=bZ fy
def Oc:SS lX (bZ fy):=so func371 (.c kQ (.c cm (.c mY (.c Oa (.c bp (.c P7 (.c nD (.c Ab .z)))))))) (Ob aD ah aH jz ae iu aG cB)
def xd(cn:Vm)(ae:T1)(eM:W7)(bq:T39)(cu:T0)(cV:T22):T0:=λi w k=>aE w #[IB i] 141 λc G=>drew G λe=>aQ e c λp4=>qA7 p4 2 e 2 λj=>aQ e c λp7=>u7 p7 e 0 λp9=>u7 p9 e 7 λp11=>aQ e c λp12=>qJ7 p12 B_ e 1 λo=>cn j p11 o e λd f=>aQ f c λp17=>u7 p17 f 0 λp19=>ae p19 (d.1,d.2).2 f λq a=>an q (k () a) (aQ a c λr=>qJ7 r B_ a 26 λt=>an (L_ ((d.1,d.2).1<=t)) (aQ a c λu=>qV7 u a 27 λx=>nj (kC [(qD,(Jl cn)),(bg,(qu ae)),(vZ,(HZ eM)),(mP,(acm bq)),(ku,(bZ cu)),(kr,(Fa cV))]) x #[] a λy z=>Is [] y fun(J:Unit)=>k () z) (drew a λb=>aQ b c λA=>aQ b c λB=>qA7 B 2 b 2 λg=>eM g b λD h=>ai 1 c b h (bq A D (.func (F_ oN) #[] #[IB (G_ c)]) h λ_u F=>k () F)))
def Od a b c d e f:E [.p] [] [(qD,Jl a),(bg,qu b),(vZ,HZ c),(mP,acm d),(ku,bZ e),(kr,Fa f)] 17448304654 [] f361=xd a b c d e f:=aZ
def fA:=xd cn ae eM bq cu cV
abbrev xe:bt:=bZ fA
def Oe:SS lW (bZ fA):=so func361 (.c yw (.c bp (.c Js (.c tC (.c z6 (.c Es .z)))))) (Od cn ae eM bq cu cV)
def vv(s:T6)(t:T1):T0:=λa w k=>v7 a w 14 (Iq K_) λo=>drew o λb=>nn a λm=>aQ b (m.add 0) λp5=>u7 a b 4 λp7=>u7 a b 0 λp9=>u7 p9 b 7 λp11=>qJ7 a B_ b 1 λg=>s p7 p11 g b λh c=>ai 1 (m.add 0) b c (t p5 h c λi d=>an i (k () d) (v7 a d 7 (.func (F_ kZ) #[IB a] #[]) λl=>k () l))
def Ml a b:E [.p] [] [(uQ,ry a),(bg,qu b)] 33554433 [] f348=vv a b:=aZ
def eN:=vv cM ae
abbrev vw:bt:=bZ eN
def Mm:SS kY (bZ eN):=so func348 (.c BC (.c bp .z)) (Ml cM ae)
def CV(o:T6)(aj:Hv):T51:=λa b f c w k=>o a b c w λh d=>an (h !=0) (k (0,h) d) (en a d 0 λj=>cN j c 3 λl=>aJ B_ d (l.add 2) λm=>aj b f (aF B_ (m+1)) d λe n=>k ((e.1,e.2).1,(e.1,e.2).2) n)
def VF a b:E [.p,.p,.i B_,.i B_] [.i B_,.i B_] [(ol,ry a),(dS,zb b)] 67343 [] f378=u_4 (CV a b):=aZ
def mE:=CV bh aj
def VG:SS Ji (ae1 mE):=so func378 (.c pW (.c er .z)) (VF bh aj)
def vz(A:T8)(aq:Nl)(mE:T51)(ae:T1)(bI:Tq)(cu:T0):T0:=λa w k=>drew w λb=>nn a λj=>aQ b (j.add 0) λp3=>nn p3 λl=>aQ b (l.add 9) λp5=>nn a λm=>aQ b (m.add 0) λp7=>nn p7 λn=>aQ b (n.add 7) λp9=>nn a λg=>aJ B_ b (g.add 1) λp=>A a b λp12 c=>ai 1 (g.add 1) b c (ai 1 (n.add 7) b c (ai 1 (m.add 0) b c (ai 1 (l.add 9) b c (ai 1 (j.add 0) b c (aq p12 c λh d=>ai 1 (g.add 1) b d (ai 1 (n.add 7) b d (ai 1 (m.add 0) b d (ai 1 (l.add 9) b d (ai 1 (j.add 0) b d (Qq h 0 λq=>xS B_ q λr=>mE p5 p9 p r d λe i=>u7 a i 0 λt=>ae t (e.1,e.2).2 i λu f=>an u (k () f) (an ((e.1,e.2).1==0) (qV7 a f 31 λx=>bI a x f λ_u y=>k () y) (cu a f λ_u z=>k () z))))))))))))
def Mn a b c d e f:E [.p] [] [(bX,GB a),(gK,E8 b),(Ji,ae1 c),(bg,qu d),(q9,E9 e),(ku,bZ f)] 171798691853 [] f362=vz a b c d e f:=aZ
def eO:=vz ah aq mE ae bI cu
abbrev vA:bt:=bZ eO
def Mo:SS kZ (bZ eO):=so func362 (.c cm (.c iO (.c VG (.c bp (.c uf (.c z6 .z)))))) (Mn ah aq mE ae bI cu)
def yR(l:T36):T47:=λuw b a acC w k=>aE w uw 116 λg d=>an (eA b) (k 2 d) (an ((L_ (a<0))||(decide (a>16))) (k 10 d) (drew d λe=>aJ B_ e (g.add 0) λh=>HI B_ acC a λi=>l b a (aF B_ (h+2)) i e λf j=>k (f.1,f.2).2 j))
def P8 a:E [.ag,.p,.i B_,.i B_] [.i B_] [(ko,aab a)] 19742 [] f389=u_4 (yR a):=aZ
def dN:=yR aL
def Ft:SS xX (aad dN):=so func389 (.c nB .z) (P8 aL)
def yS(h:T47):T34:=λuw a b w k=>aE w uw 116 λe d=>bx 1 d e λc=>h c a b 1 d λf g=>k f g
def P9 a:E [.ag,.p,.i B_] [.i B_] [(xX,aad a)] 78 [] f394=u_3 (yS a):=aZ
def jZ:=yS dN
def Qa:SS E7 (OZ jZ):=so func394 (.c Ft .z) (P9 dN)
def uI(x:T34)(y:T1):T0:=λa w k=>drew w λb=>nn a λr=>aQ b (r.add 0) λp3=>u7 a b 20 λp5=>qA7 p5 1 b 3 λe=>u7 a b 0 λp9=>u7 p9 b 7 λp11=>qJ7 a B_ b 1 λh=>x e p11 h b λi d=>ai 1 (r.add 0) b d (y p3 i d λj c=>an (!j) (qV7 a c 24 λm=>v7 a c 22 (Iq J_) λo=>v7 a o 7 m λq=>k () q) (k () c))
def Lr a b:E [.p] [] [(E7,OZ a),(bg,qu b)] 67108865 [] f390=uI a b:=aZ
def ez:=uI jZ ae
abbrev uJ:bt:=bZ ez
def Ls:SS kE (bZ ez):=so func390 (.c Qa (.c bp .z)) (Lr jZ ae)
def yT(u:T40)(v:T1):T0:=λa w k=>drew w λd=>u7 a d 12 λp3=>u7 a d 0 λp5=>u7 p5 d 7 λp7=>qJ7 a B_ d 1 λt=>u p3 p7 t d λb e=>u7 a e 0 λp13=>v p13 (b.1,b.2).2 e λg c=>an ((!g)&&(b.1,b.2).1) (qV7 a c 24 λi=>v7 a c 23 (Iq J_) λl=>v7 a l 7 i λn=>k () n) (k () c)
def Qb a b:E [.p] [] [(vc,Xd a),(bg,qu b)] 4294967309 [] f392=yT a b:=aZ
def gv:=yT dI ae
abbrev yU:bt:=bZ gv
def Qc:SS mW (bZ gv):=so func392 (.c FY (.c bp .z)) (Qb dI ae)
def uK(d:T75):T29:=λa b w k=>aQ w a λp1=>aQ w b λp2=>d p1 p2 w λ_u c=>k () c
def Lt b:E [.a,.a] [] [(wh,arV b)] 0 [] f351=u_2 (uK b):=aZ
def cw:=uK c9
abbrev oU:bt:=Kz cw
def B5:SS eP (Kz cw):=so func351 (.c EB .z) (Lt c9)
def xf(cF:Tq):T29:=λa b w k=>aQ w a λp1=>tH w b λc=>cF p1 c w λ_u d=>k () d
def Of b:E [.a,.a] [] [(uc,E9 b)] 0 [] f345=u_2 (xf b):=aZ
def cL:=xf cF
abbrev pX:bt:=Kz cL
def EE:SS fN (Kz cL):=so func345 (.c z9 .z) (Of cF)
def AG(c:T0)(i:T29)(j:T29):T0:=λa w k=>u7 a w 4 λp2=>c p2 w λ_u b=>qV7 a b 24 λf=>nj (kC [(uR,(bZ c)),(eP,(Kz i)),(fN,(Kz j))]) f #[] b λg h=>Is [] g fun(l:Unit)=>k () h
def R8 a b c:E [.p] [] [(uR,bZ a),(eP,Kz b),(fN,Kz c)] 1 [] f393=AG a b c:=aZ
def ig:=AG eu cw cL
abbrev AH:bt:=bZ ig
def R9:SS nA (bZ ig):=so func393 (.c Il (.c B5 (.c EE .z))) (R8 eu cw cL)
def iD:W7:=λa w k=>aE w a 102 λf e=>bx 3 e f λb=>kT #[Iv 0,Iv 0,Iv 0,Iv 0,Iv 0,Iv 0,Iv 0,C_] 0 3 b λc=>aE e (eS c 6 (Iv (-1))) 346 λd g=>bN g (d.add 7) (.func (F_ vf) #[IB (G_ d)] #[]) λh=>k (G_ d) h
def Og:SS wi (HZ iD):=sl 14 [] func380
def xg(h:T47):T34:=λuw a b w k=>aE w uw 116 λe d=>bx 1 d e λc=>h c a b (-1) d λf g=>k f g
def Oh a:E [.ag,.p,.i B_] [.i B_] [(xX,aad a)] 78 [] f381=u_3 (xg a):=aZ
def iE:=xg dN
def Oi:SS wj (OZ iE):=so func381 (.c Ft .z) (Oh dN)
def vB(bi:Xa):T52:=λb c d w k=>drew w λa=>aQ a b λp2=>aQ a c λp3=>qJ7 p3 B_ a 0 λg=>tH a d λh=>bi p2 g h a λ_u i=>k () i
def Mp b:E [.a,.a,.a] [] [(ph,LS b)] 0 [] f368=u_3 (vB b):=aZ
def fG:=vB bi
abbrev Dl:bt:=aaf fG
def Mq:SS pu (aaf fG):=so func368 (.c ri .z) (Mp bi)
def fH:T22:=λa w k=>aQ w a λp1=>aQ w a λp2=>v7 p1 w 7 (.func (F_ lX) #[IB p2] #[]) λc=>k () c
abbrev Dm:bt:=Fa fH
def Mr:SS px (Fa fH):=sl 0 [] func370
def vC(bi:Xa):T52:=λa b c w k=>aQ w a λp1=>aJ B_ w b λe=>tH w c λf=>bi p1 e f w λ_u g=>k () g
def Ms b:E [.a,.a,.a] [] [(ph,LS b)] 0 [] f387=u_3 (vC b):=aZ
def fI:=vC bi
abbrev Dn:bt:=aaf fI
def Mu:SS pz (aaf fI):=so func387 (.c ri .z) (Ms bi)
def fJ:T22:=λa w k=>aQ w a λp1=>aQ w a λp2=>v7 p1 w 7 (.func (F_ lU) #[IB p2] #[]) λc=>k () c
abbrev Dp:bt:=Fa fJ
def Mv:SS pq (Fa fJ):=sl 0 [] func334
def uL(d:T0)(e:T0):T22:=λa w k=>aQ w a λp1=>d p1 w λ_u b=>aQ b a λp3=>e p3 b λ_u c=>k () c
def Lu b c:E [.a] [] [(zM,bZ b),(wg,bZ c)] 1 [] f328=uL b c:=aZ
def eX:=uL eo dy
abbrev B6:bt:=Fa eX
def Lv:SS oK (Fa eX):=so func328 (.c GO (.c Et .z)) (Lu eo dy)
def yV(iD:W7)(dI:T40)(ae:T1)(iE:T34)(bB:T0)(fG:T52)(fH:T22)(fI:T52)(fJ:T22)(eX:T22):T0:=λa w k=>nn a λa1=>He w (a1.add 23) λb2=>an b2 (u7 a w 12 λp4=>cz (S:=Unit) (λJ5=>an (eA p4) (u7 a w 0 λp7=>qA7 p7 3 w 14 λl=>iD l w λp10 m=>v7 a m 12 (IB p10) λo=>J5 () o) (J5 () w)) λb4 p=>drew p λc=>u7 a c 12 λp18=>u7 a c 0 λs=>u7 s c 7 λu=>qJ7 a B_ c 1 λy=>dI p18 u y c λd e=>u7 a e 0 λA=>ae A (d.1,d.2).2 e λB f=>an ((!B)&&(d.1,d.2).1) (v7 a f 23 (Iq K_) λD=>v7 a D 12 (IB H_) λG=>k () G) (k () f)) (nn a λH=>He w (H.add 22) λI=>an I (drew w λb=>nn a λg=>aQ b (g.add 0) λJ=>u7 a b 20 λM=>qA7 M 1 b 3 λh=>u7 a b 0 λP=>u7 P b 7 λR=>qJ7 a B_ b 1 λU=>iE h R U b λV i=>ai 1 (g.add 0) b i (ae J V i λW j=>an (!W) (v7 a j 22 (Iq K_) λY=>k () Y) (k () j))) (qV7 a w 25 λa0=>nj (kC [(wi,(HZ iD)),(vc,(Xd dI)),(bg,(qu ae)),(wj,(OZ iE)),(j6,(bZ bB)),(pu,(aaf fG)),(px,(Fa fH)),(pz,(aaf fI)),(pq,(Fa fJ)),(oK,(Fa eX))]) a0 #[] w λa2 a4=>Is [] a2 fun(b5:Unit)=>k () a4))
def Qd a b c d e f g h i j:E [.p] [] [(wi,HZ a),(vc,Xd b),(bg,qu c),(wj,OZ d),(j6,bZ e),(pu,aaf f),(px,Fa g),(pz,aaf h),(pq,Fa i),(oK,Fa j)] 19807040665747802921957065229 [(4,[])] f366=yV a b c d e f g h i j:=aZ
def gy:=yV iD dI ae iE bB fG fH fI fJ eX
abbrev yW:bt:=bZ gy
def Qe:SS mU (bZ gy):=so func366 (.c Og (.c FY (.c bp (.c Oi (.c tO (.c Mq (.c Mr (.c Mu (.c Mv (.c Lv .z)))))))))) (Qd iD dI ae iE bB fG fH fI fJ eX)
def uT(C:T53)(D:T64)(O:T0)(P:T0)(Q:T0)(R:T0)(T:T0)(U:T0)(V:T0)(W:T0)(X:T0)(Y:T0)(Z:T0)(gX:T0)(fW:T0)(fp:T0)(gY:T0)(gZ:T0)(fX:T0)(fY:T0)(fq:T0)(fx:T0)(g9:T0)(fZ:T0)(iR:T0)(iS:T0)(ia:T0)(ie:T0)(gu:T0)(fy:T0)(fA:T0)(eN:T0)(eO:T0)(ez:T0)(gv:T0)(ig:T0)(gy:T0)(cw:T29)(cL:T29):T1:=λa d w k=>cz (S:=Bool) (λB=>an (L_ (d<0)) (B J_ w) (en a w 19 λG=>(B (L_ (d>=((G.n:Nat):Int))) w))) λH h=>an H (k K_ h) (en a h 19 λJ=>cN J d 1 λL=>aQ h L λp9=>cz (S:=Bool) (λf=>drew h λb=>qA7 a 3 b 14 λg=>u7 a b 7 λp15=>qJ7 p9 B_ b 1 λm=>C g p15 m b λo c=>an (!o) (f J_ c) (u7 p9 c 4 λq=>u7 a c 7 λs=>D q s c λt u=>f t u)) λv e=>an v (k K_ e) (qV7 p9 e 7 λy=>nj (kC [(sS,(acs C)),(qZ,(aiu D)),(kW,(bZ O)),(kX,(bZ P)),(nu,(bZ Q)),(lS,(bZ R)),(mI,(bZ T)),(nr,(bZ U)),(lT,(bZ V)),(lR,(bZ W)),(mQ,(bZ X)),(gC,(bZ Y)),(gB,(bZ Z)),(lH,(bZ gX)),(mR,(bZ fW)),(lV,(bZ fp)),(js,(bZ gY)),(lI,(bZ gZ)),(mS,(bZ fX)),(kO,(bZ fY)),(lU,(bZ fq)),(kq,(bZ fx)),(lJ,(bZ g9)),(iV,(bZ fZ)),(n9,(bZ iR)),(oa,(bZ iS)),(nw,(bZ ia)),(ny,(bZ ie)),(mT,(bZ gu)),(lX,(bZ fy)),(lW,(bZ fA)),(kY,(bZ eN)),(kZ,(bZ eO)),(kE,(bZ ez)),(mW,(bZ gv)),(nA,(bZ ig)),(mU,(bZ gy)),(eP,(Kz cw)),(fN,(Kz cL))]) y #[] e λz A=>Is [] z fun(N:Unit)=>k J_ A))
def Uh a c d e f g h j l m n o q r s t u v y z A B C D F G H I J L M N O P Q R S T U:E [.p,.i B_] [.b] [(sS,acs a),(qZ,aiu c),(kW,bZ d),(kX,bZ e),(nu,bZ f),(lS,bZ g),(mI,bZ h),(nr,bZ j),(lT,bZ l),(lR,bZ m),(mQ,bZ n),(gC,bZ o),(gB,bZ q),(lH,bZ r),(mR,bZ s),(lV,bZ t),(js,bZ u),(lI,bZ v),(mS,bZ y),(kO,bZ z),(lU,bZ A),(kq,bZ B),(lJ,bZ C),(iV,bZ D),(n9,bZ F),(oa,bZ G),(nw,bZ H),(ny,bZ I),(mT,bZ J),(lX,bZ L),(lW,bZ M),(kY,bZ N),(kZ,bZ O),(kE,bZ P),(mW,bZ Q),(nA,bZ R),(mU,bZ S),(eP,Kz T),(fN,Kz U)] 281474976776243 [(1,[(16,.b)]),(5,[(48,.b)])] f57=u_2 (uT a c d e f g h j l m n o q r s t u v y z A B C D F G H I J L M N O P Q R S T U):=aZ
def jN:=uT dA cQ eK eL gT fj iP gU fm fo fV gV gW gX fW fp gY gZ fX fY fq fx g9 fZ iR iS ia ie gu fy fA eN eO ez gv ig gy cw cL
def Ui:SS HM (qu jN):=so func57 (.c Jq (.c GL (.c L7 (.c Mb (.c RF (.c NP (.c TS (.c RH (.c NR (.c NV (.c PP (.c RJ (.c RL (.c RN (.c PV (.c NY (.c RR (.c RT (.c PX (.c PZ (.c N4 (.c N6 (.c RX (.c P3 (.c Uc (.c Ue (.c R5 (.c R7 (.c P5 (.c Oc (.c Oe (.c Mm (.c Mo (.c Ls (.c Qc (.c R9 (.c Qe (.c B5 (.c EE .z))))))))))))))))))))))))))))))))))))))) (Uh dA cQ eK eL gT fj iP gU fm fo fV gV gW gX fW fp gY gZ fX fY fq fx g9 fZ iR iS ia ie gu fy fA eN eO ez gv ig gy cw cL)
def yX(bU:T24)(cO:T17)(bF:T13)(dJ:T20):asy:=fun h_0 w k=>pR (kC [(fM,(Q1 bU)),(fP,(Jk cO)),(dH,(D5 bF)),(iI,(H6 dJ))]) Tryz.prog h_0 "Len" #[] w fun v1 w2=>xS B_ v1 fun i3=>pR (kC [(fM,(Q1 bU)),(fP,(Jk cO)),(dH,(D5 bF)),(iI,(H6 dJ))]) Tryz.prog h_0 "Swap" #[Iv 0,(Iv (IntKind.wrap B_ (i3 - 1)))] w2 fun v4 w5=>Is [] v4 fun(u6:Unit)=>bU h_0 0 (IntKind.wrap B_ (i3 - 1)) w5 fun b7 w8=>pR (kC [(fM,(Q1 bU)),(fP,(Jk cO)),(dH,(D5 bF)),(iI,(H6 dJ))]) Tryz.prog h_0 "Pop" #[] w8 fun v9 w10=>k v9 w10
def Qf a b c d:E [.raw] [.raw] [(fM,Q1 a),(fP,Jk b),(dH,D5 c),(iI,H6 d)] 13 [] f151=yX a b c d:=aZ
def j0:=yX bU cO bF dJ
def Qg:SS E2 (asz j0):=so func151 (.c EC (.c FZ (.c ze (.c Mk .z)))) (Qf bU cO bF dJ)
def xh(j0:asy):asu:=λb h w k=>an (eA b) (k ((Sl.mk H_ 0 0),2) w) (cz (S:=Bool) (λN=>an (L_ (h<0)) (N J_ w) (qJ7 b B_ w 0 λP=>(N (L_ (h>(aF B_ (1099511627776 - P)))) w))) λQ m=>an Q (k ((Sl.mk H_ 0 0),10) m) (qJ7 b B_ m 0 λT=>v7 b m 0 (Iv (aF B_ (T+h))) λV=>jD (S:=Sl) (λo f p=>cz (S:=Bool) (λi=>drew p λe=>en b e 1 λr=>an (L_ (((r.n:Nat):Int)>0)) (en b e 1 λt=>cN t 0 2 λu=>aJ B_ e (u.add 0) λv=>qJ7 b B_ e 0 λy=>i (L_ (v<=y)) e) (i K_ e)) λz g=>an z (en b g 1 λB=>cN B 0 2 λC=>aJ B_ g (C.add 1) λj=>nn b λD=>j0 (.iface 261 (IB (G_ (D.add 1)))) g λW l=>nn b λF=>ldM l (F.add 2) λG=>ahR Tryz.prog #[207,3] 0 [(.map G),Iv j] l λX H=>aE H #[Iv j] 3 λI J=>og Tryz.prog #[69,69] 69 [S_ f,(IC (G_ I) 1 1)] J λL M=>o L M) (k (f,0) g)) (Sl.mk H_ 0 0) V))
def Oj a:E [.p,.i B_] [.s,.i B_] [(E2,asz a)] 1125899906845171 [(5,[(11,.b)]),(11,[(6,.s)]),(12,[(50,.b)])] f97=u_2 (xh a):=aZ
def jA:=xh j0
def Ol:SS DT (asv jA):=so func97 (.c Qg .z) (Oj j0)
def CW(I:T46)(y:T1)(J:T34):T44:=λa b w k=>en a w 19 λx=>cz (S:=Unit) (λA=>jD (S:=Int) (λB g h=>an (L_ (g<((b.n:Nat):Int))) (cN b g 1 λC=>aJ B_ h C λD=>drew h λj=>u7 a j 9 λp11=>u7 a j 7 λp13=>I p11 p13 ((x.n:Nat):Int) D j λd o=>y a (d.1,d.2).2 o λF p=>B (aF B_ (g+1)) p) (A () h)) 0 w) λG e=>an (L_ (((b.n:Nat):Int)>0)) (drew e λc=>qA7 a 1 c 12 λf=>u7 a c 7 λs=>J f s ((x.n:Nat):Int) c λt u=>y a t u λH v=>k () v) (k () e)
def VH a b c:E [.p,.s] [] [(DV,aac a),(bg,qu b),(Bi,OZ c)] 1099511873875 [(2,[]),(3,[(16,(.i B_))])] f98=u_2 (CW a b c):=aZ
def fB:=CW gI ae eH
def Jt:SS CE (arJ fB):=so func98 (.c KD (.c bp (.c Ik .z))) (VH gI ae eH)
def BK(jA:asu)(fB:T44):T1:=λa b w k=>u7 a w 17 λp2=>jA p2 b w λc d=>an ((c.1,c.2).2 !=0) (k K_ d) (fB a c.1 d λ_u f=>k J_ f)
def Uj a c:E [.p,.i B_] [.b] [(DT,asv a),(CE,arJ c)] 131187 [] f58=u_2 (BK a c):=aZ
def lA:=BK jA fB
def Uk:SS HN (qu lA):=so func58 (.c Ol (.c Jt .z)) (Uj jA fB)
def nN:asp:=λb d w k=>an (eA b) (k 2 w) (en b w 0 λh=>an (L_ (((d.n:Nat):Int)>(aF B_ (1024 - ((h.n:Nat):Int))))) (k 20 w) (en b w 0 λe=>og Tryz.prog #[156,156] 156 [S_ e,S_ d] w λf l=>v7 b l 0 (S_ f) λo=>k 0 o))
def XK:SS Kk (asr nN):=sl 307 [] func59
def iX:T20:=λa w k=>aE w #[IB a] 94 λb c=>k (.func (F_ m3) #[] #[IB (G_ b)]) c
abbrev O1:bt:=H6 iX
def O2:SS xA (H6 iX):=sl 6 [] func62
def dw:T78:=λb w k=>aE w #[S_ b] 69 λd e=>k (.func (F_ jh) #[] #[IB (G_ d)]) e
abbrev GP:bt:=am9 dw
def GQ:SS oh (am9 dw):=sl 6 [] func102
def qv(Y:Nat->bt)(su:M_)(e:P_)(w:N_)(k:Unit->ap):Prop:= cy w e λs1=>jD (S:=Int) (λg b c=>an (L_ (b>=0)) (cy c e λh=>cN h b 1 λi=>aJ B_ c i λj=>nj (J0 [] Y) su #[Iv b,Iv j] c λl f=>Ir l λd=>an (!d) (k () f) (g (aF B_ (b - 1)) f)) (k () c)) (aF B_ (((s1.n:Nat):Int) - 1)) w
def EU(Y:Nat->bt)(x:KT [.raw,.a])(w:N_)(k:KT []->ap):OP Tryz.prog (J0 [] Y) 262411 [(2,[(3,(.i B_))])] f155 [] (dL [.raw,.a] x) w k=qv Y x.1 x.2 w k:=aZ
def om(Y:Nat->bt)(su:M_)(a:P_)(w:N_)(k:Unit->ap):Prop:=qv Y su a w k
def ji(Y:Nat->bt):bt:=λargs w c=>qW [.raw,.a] args λx=>om Y x.1 x.2 w λr w=>c (e9 (dL [] r)) w
def EW:WW Tryz.prog jh ji:=λY b=>
 M5 mixed func155 (WI (l:=[]) trivial b)
 [.raw,.a] [] aZ (λx w k=>om Y x.1 x.2 w k) (λx w k=>EU Y x w k)
def EF(Y:Nat->bt)(I:De)(dG:T35)(dw:T78)(su:M_)(q:P_)(w:N_)(k:Unit->ap):Prop:= aQ w q λp1=>aE w #[Iv 0] 3 λa2 w3=>dG p1 (Sl.mk (G_ a2) 1 1) w3 λb4 w5=>an (!b4) (k () w5) (aE w5 #[Iv 0] 3 λa6 w7=>aE w7 #[IC H_ 0 0] 69 λf w9=>bN w9 f (IC (G_ a6) 1 1) λr=>jD (S:=(Unit×List Nat)) (λs h b=>cy b f λt=>an (L_ (((t.n:Nat):Int)>0)) (cy b f λu=>cy b f λv=>cN u (aF B_ (((v.n:Nat):Int) - 1)) 1 λx=>aJ B_ b x λj=>cy b f λy=>cy b f λz=>Th y 1 0 (aF B_ (((z.n:Nat):Int) - 1)) λl=>bN b f (S_ l) λg=>aQ g q λA=>en A g 0 λC=>cN C j 3 λD=>aJ B_ g (D.add 0) λF=>nj (J0 [(tS,(UL dG)),(oh,(am9 dw))] Y) su #[Iv j,Iv F] g λG e=>Ir G λH=>an (!H) (I3 h.2 e λJ=>k () J) (aQ e q λL=>en L e 0 λN=>cN N j 3 λO=>cy e (O.add 2) λP=>dw P e λQ R=>Cg I [(.i B_),(.i B_)] Q R (fun(T:Int×Int) p U=>cy p f λm=>aE p #[Iv T.2] 3 λV W=>og Tryz.prog #[69,69] 69 [S_ m,(IC (G_ V) 1 1)] W λo X=>bN X f (S_ o) λZ=>U Z) λD42 a0=>s ((),(D42::h.2)) a0)) (I3 h.2 b λa1=>k () a1)) ((),[]) r)
def XL(Y:Nat->bt)(I:De)(dG:T35)(dw:T78)(x:KT [.raw,.a])(w:N_)(k:KT []->ap):Vg Tryz.prog (J0 [(tS,(UL dG)),(oh,(am9 dw))] Y) I 351981159859227 [(4,[]),(14,[(47,(.i B_)),(48,(.i B_))])] f100 [] (dL [.raw,.a] x) w k=EF Y I dG dw x.1 x.2 w k:=aZ
def Cl(Y:Nat->bt)(su:M_)(a:P_)(w:N_)(k:Unit->ap):Prop:=EF Y (Df [(jh,ji)]) dG dw su a w k
def m4(Y:Nat->bt):bt:=λargs w c=>qW [.raw,.a] args λx=>Cl Y x.1 x.2 w λr w=>c (e9 (dL [] r)) w
def KE:WW Tryz.prog m3 m4:=λY b=>
 I5 mixed func100 (WI (l:=[(tS,aaN),(oh,GP)]) ⟨Hx,GQ,trivial⟩ b) (LJ (l:=[(jh,ji)]) ⟨EW,trivial⟩)
 [.raw,.a] [] aZ (λx w k=>Cl Y x.1 x.2 w k) (λx w k=>XL Y (Df [(jh,ji)]) dG dw x w k)
def EG(I:De)(iX:T20)(e:Option P_)(w:N_)(k:(Sl)->ap):Prop:= aE w #[IC H_ 0 0] 69 λf s=>iX e s λt u=>Cg I [(.i B_),(.i B_)] t u (fun(v:Int×Int) q x=>cy q f λb=>aE q #[Iv v.1] 3 λh j=>og Tryz.prog #[69,69] 69 [S_ b,(IC (G_ h) 1 1)] j λd l=>bN l f (S_ d) λm=>x m) λD8 r=>cy r f λo=>I3 [D8] r λp=>k o p
def XM(I:De)(iX:T20)(x:KT [.p])(w:N_)(k:KT [.s]->ap):Vg Tryz.prog (kC [(xA,(H6 iX))]) I 205 [(4,[(7,(.i B_)),(8,(.i B_))])] f99 [.s] (dL [.p] x) w k=EG I iX x w k:=aZ
def fK:T5:=λa w k=>EG (Df [(m3,m4)]) iX a w k
abbrev XN:bt:=Pa fK
def KF:uY Tryz.prog DU XN:=
 I5 mixed func99 (M3 (l:=[(xA,O1)]) ⟨O2,trivial⟩) (LJ (l:=[(m3,m4)]) ⟨KE,trivial⟩)
 [.p] [.s] aZ (λx w k=>fK x w k) (λx w k=>XM (Df [(m3,m4)]) iX x w k)
def yY(y:T5):T5:=λf w k=>aE w #[Iv 0] 3 λt r=>u7 f r 8 λp4=>y p4 r λs v=>jD (S:=(Sl×Int)) (λx b e=>an (L_ (b.2<((s.n:Nat):Int))) (cN s b.2 1 λg=>aJ B_ e g λi=>en f e 11 λl=>cN l i 1 λm=>aQ e m λp15=>en p15 e 25 λd=>og Tryz.prog #[69,69] 69 [S_ b.1,S_ d] e λp q=>x (p,(aF B_ (b.2+1))) q) (k b.1 e)) ((Sl.mk (G_ t) 1 1),0) v
def Qh a:E [.p] [.s] [(DU,Pa a)] 30765 [(4,[(3,.s),(13,(.i B_))])] f75=yY a:=aZ
def dO:=yY fK
def Fu:SS xV (Pa dO):=so func75 (.c KF .z) (Qh fK)
def BL(v:T5)(x:T44):T1:=λb a w k=>v b w λs1 p=>cz (S:=Bool) (λo=>drew p λd=>an ((L_ (a<0))||(decide (a>=((s1.n:Nat):Int)))) (o true d) (en b d 10 λr=>cN s1 a 1 λs=>aJ B_ d s λt=>cN r t 4 λu=>He d (u.add 3) λf=>o f d)) λg c=>an g (k K_ c) (cN s1 a 1 λh=>aJ B_ c h λi=>aE c #[Iv i] 3 λj l=>x b (Sl.mk (G_ j) 1 1) l λ_u m=>k J_ m)
def Ul a c:E [.p,.i B_] [.b] [(xV,Pa a),(CE,arJ c)] 268435507 [(2,[(28,.b)])] f60=u_2 (BL a c):=aZ
def lB:=BL dO fB
def Um:SS HO (qu lB):=so func60 (.c Fu (.c Jt .z)) (Ul dO fB)
def EH(D:T1)(F:T1)(nN:asp)(lB:T1):T16:=λa i w k=>aE w i 34 λe j=>cz (S:=Bool) (λy=>an (eA a) (y J_ j) (qJ7 a B_ j 21 λA=>y (A !=0) j)) λB c=>an B (k K_ c) (aJ B_ c (e.add 0) λh=>an (h==0) (aJ B_ c (e.add 1) λC=>D a C c λl m=>k l m) (an (h==1) (aJ B_ c (e.add 1) λn=>F a n c λo p=>k o p) (an (h==2) (drew c λd=>nn a λf=>aQ d (f.add 18) λp17=>aJ B_ d (e.add 1) λq=>aE d #[Iv q] 2 λr g=>ai 1 (f.add 18) d g (nN p17 (Sl.mk (G_ r) 1 1) g λs t=>k (s==0) t)) (an (h==3) (aJ B_ c (e.add 1) λu=>lB a u c λv x=>k v x) (k K_ c)))))
def XO a c d e:E [.p,.ag] [.b] [(HM,qu a),(HN,qu c),(Kk,asr d),(HO,qu e)] 550028550169 [(1,[(13,.b)])] f22=u_2 (EH a c d e):=aZ
def nO:=EH jN lA nN lB
def XP:SS Kj (az1 nO):=so func22 (.c Ui (.c Uk (.c XK (.c Um .z)))) (XO jN lA nN lB)
def xj(cA:W8)(cS:T3)(nO:T16):T48:=λb ux as5 w k=>jD (S:=(Int×Int)) (λm f j=>cz (S:=Bool) (λg=>an (L_ (f.2<as5)) (cA b j λn l=>an (!n) (cS b l λo p=>g (o==0) p) (g K_ l)) (g K_ j)) λq c=>an q (jD (S:=(Int×Int)) (λh a d=>an (L_ (a.2<ux)) (nO b #[Iv 0,Iv a.2] d λr i=>h ((aF B_ (a.1+1)),(aF B_ (a.2+1))) i) (m (a.1,(aF B_ (f.2+1))) d)) (f.1,0) c) (k f.1 c)) (0,0) w
def Om a c d:E [.p,.i B_,.i B_] [.i B_] [(tX,LR a),(vX,Bl c),(Kj,az1 d)] 138412999 [(4,[(7,(.i B_)),(8,(.i B_))]),(5,[(22,.b)]),(10,[(7,(.i B_)),(9,(.i B_))])] f28=u_3 (xj a c d):=aZ
def iF:=xj cA cS nO
def On:SS DO (am2 iF):=so func28 (.c zW (.c CQ (.c XP .z))) (Om cA cS nO)
def BM(s:T5):T5:=λc w k=>en c w 11 λi=>xz Tryz.prog 69 (Iv ((i.n:Nat):Int)) (Iv ((i.n:Nat):Int)) w λj l=>u7 c l 8 λp6=>s p6 l λm q=>jD (S:=Int) (λr a b=>an (L_ (a<((m.n:Nat):Int))) (cN m a 1 λd=>aJ B_ b d λf=>cN j f 1 λg=>bN b g (Iv a) λh=>r (aF B_ (a+1)) h) (k j b)) 0 q
def Un a:E [.p] [.s] [(DU,Pa a)] 983101 [(4,[(18,(.i B_))])] f61=BM a:=aZ
def cI:=BM fK
abbrev Uo:bt:=Pa cI
def BN:SS r4 (Pa cI):=so func61 (.c KF .z) (Un fK)
def AI(I:De)(cI:T5)(iX:T20)(dz:T81)(W:Option P_)(w:N_)(k:(Sl)->ap):Prop:= aE w #[IB W] 30 λs V=>aQ V s λp3=>an (eA p3) (k (Sl.mk H_ 0 0) V) (aQ V s λp4=>cI p4 V λX w6=>aE w6 #[IC H_ 0 0] 69 λD w8=>bN w8 D (S_ X) λw9=>cy w9 D λF=>xz Tryz.prog 35 (Iv ((F.n:Nat):Int)) (Iv ((F.n:Nat):Int)) w9 λt Y=>aE Y #[IC H_ 0 0] 35 λo Z=>bN Z o (S_ t) λu=>aQ u s λp16=>u7 p16 u 8 λp18=>iX p18 u λa2 a3=>Cg I [(.i B_),(.i B_)] a2 a3 (fun(h:Int×Int) p G=>aQ p s λa4=>en a4 p 11 λa6=>cN a6 h.1 1 λa8=>aQ p a8 λj=>drew p λq=>qA7 j 1 q 3 λH=>aQ q s λb0=>u7 b0 q 7 λb2=>dz H b2 q λd b3=>cz (S:=P_) (λJ=>drew b3 λb=>aQ b s λb4=>nn b4 λv=>cy b (v.add 10) λb5=>nn j λx=>aJ B_ b (x.add 1) λb6=>cN b5 b6 4 λy=>aJ B_ b (y.add 1) λL=>nn j λz=>aJ B_ b (aY (z.add 4) 0) λM=>nn j λA=>aJ B_ b (aY (A.add 4) 18) λN=>nn j λB=>Qp b (B.add 23) λO=>both (aE b #[Iv 0,Iv 0,Iv 0,Iv 0,Iv 0,Iv 0,(.string (Oq #[]))] 49 λP f=>ai 1 (B.add 23) b f (ai 1 (aY (A.add 4) 18) b f (ai 1 (aY (z.add 4) 0) b f (ai 1 (y.add 1) b f (ai 1 (x.add 1) b f (ai 1 (v.add 10) b f (ai 1 s b f (dQ 7 f P #[(Iv (-1)),Iv L,Iv M,(Iv (d.1,(d.2.1,d.2.2)).1),(Iv (d.1,(d.2.1,d.2.2)).2.1),Iv N,(.string O)] λb7=>J P b7)))))))) (aE b #[Iv 0,Iv 0,Iv 0,Iv 0,Iv 0,Iv 0,(.string (Oq #[]))] 49 λQ g=>ai 1 (B.add 23) b g (ai 1 (aY (A.add 4) 18) b g (ai 1 (aY (z.add 4) 0) b g (ai 1 (y.add 1) b g (ai 1 (x.add 1) b g (ai 1 (v.add 10) b g (ai 1 s b g (dQ 7 g Q #[(Iv (-1)),Iv L,Iv M,(Iv (d.1,(d.2.1,d.2.2)).1),(Iv (d.1,(d.2.1,d.2.2)).2.1),Iv N,(.string O)] λb8=>J Q b8))))))))) λC r=>an (L_ (h.2>=0)) (cy r D λb9=>cN b9 h.2 1 λc0=>aJ B_ r c0 λe=>bN r (C.add 0) (Iv e) λc1=>drew c1 λl=>cy l o λc2=>cy l D λc3=>cN c3 h.1 1 λc4=>aJ B_ l c4 λc5=>bx 7 l C λR=>cN c2 c5 7 λc6=>dQ 7 l c6 R λc7=>G c7) (drew r λm=>cy m o λc8=>cy m D λc9=>cN c9 h.1 1 λd0=>aJ B_ m d0 λd1=>bx 7 m C λT=>cN c8 d1 7 λd2=>dQ 7 m d2 T λd3=>G d3)) λD24 U=>cy U o λd4=>I3 [D24] U λd5=>k d4 d5)
def Sa(I:De)(cI:T5)(iX:T20)(dz:T81)(x:KT [.p])(w:N_)(k:KT [.s]->ap):Vg Tryz.prog (kC [(r4,(Pa cI)),(xA,(H6 iX)),(tw,(ana dz))]) I 37778931862957220441086 [(8,[(24,(.i B_)),(25,(.i B_))]),(14,[(11,.a)])] f23 [.s] (dL [.p] x) w k=AI I cI iX dz x w k:=aZ
def dD:T5:=λa w k=>AI (Df [(m3,m4)]) cI iX dz a w k
abbrev Sb:bt:=Pa dD
def GR:uY Tryz.prog zF Sb:=
 I5 mixed func23 (M3 (l:=[(r4,Uo),(xA,O1),(tw,Pr)]) ⟨BN,O2,Fj,trivial⟩) (LJ (l:=[(m3,m4)]) ⟨KE,trivial⟩)
 [.p] [.s] aZ (λx w k=>dD x w k) (λx w k=>Sa (Df [(m3,m4)]) cI iX dz x w k)
def dF:T23:=λa b w k=>an (((a.n:Nat):Int) !=((b.n:Nat):Int)) (k K_ w) (jD (S:=Int) (λh c g=>an (L_ (c<((a.n:Nat):Int))) (drew g λd=>cN a c 7 λi=>bx 7 d i λe=>cN b c 7 λj=>bx 7 d j λf=>Tj ([(0,0)] ++([(1,0)] ++([(2,0)] ++([(3,0)] ++([(4,0)] ++([(5,0)] ++([(6,2)] ++[]))))))) e f λl=>an (!l) (k K_ d) (h (aF B_ (c+1)) d)) (k J_ g)) 0 w)
def GS:SS zG (arH dF):=sl 33571891 [(6,[(5,(.i B_))])] func33
def yZ(R:T54)(T:T37)(Z:T38)(iF:T48)(cA:W8)(cS:T3)(dD:T5)(dF:T23)(w:N_)(k:(Bool)->ap):Prop:= kT JN 0 5 #[Iv 16,Iv 0,Iv 0,Iv 0,Iv 0] λx=>aE w x 75 λU V=>aE V #[Iv 0,IC H_ 0 0] 78 λf W=>dQ 2 W f #[Iv 0,(IC (G_ U) 1 1)] λX=>cz (S:=((Option P_)×Int)) (λy=>drew X λe=>bx 2 e f λg=>both (kT #[Iv 0,IC H_ 0 0] 0 2 g λh=>aE e h 78 λi j=>both (R 1 0 j λl m=>ai 2 f e m (T #[(IC (G_ i) 1 1)] l m λb z=>y ((b.1,b.2).1,(b.1,b.2).2) z)) (R 1 0 j λn o=>ai 2 f e o (T #[(IC (G_ i) 1 1)] n o λc A=>y ((c.1,c.2).1,(c.1,c.2).2) A))) (R 1 0 e λp q=>ai 2 f e q (kT #[Iv 0,IC H_ 0 0] 0 2 g λr=>aE q r 78 λB C=>T #[(IC (G_ B) 1 1)] p C λd D=>y ((d.1,d.2).1,(d.1,d.2).2) D))) λa s=>an ((a.2 !=0)||(eA a.1)) (k false s) (Z 1 1 1 s λF G=>iF a.1 1 F G λY H=>cA a.1 H λI t=>an I (cS a.1 t λJ u=>an (J==0) (dD a.1 u λL M=>kT #[Iv 0,Iv 0,Iv 0,Iv 0,Iv 0,Iv 0,(.string (Oq #[]))] 0 7 #[(Iv (-1)),Iv 0,Iv 0,Iv 2,Iv 0,Iv 1,(.string (Oq #[]))] λv=>aE M v 49 λN O=>dF L (Sl.mk (G_ N) 1 1) O λP Q=>k P Q) (k K_ u)) (k K_ t))
def Qi a c d e f g h j:E [] [.b] [(xU,arM a),(Nh,arI c),(QY,az2 d),(DO,am2 e),(tX,LR f),(vX,Bl g),(zF,Pa h),(zG,arH j)] 1048591 [(2,[(2,.p),(3,(.i B_))])] f20=λx=>yZ a c d e f g h j:=aZ
def iv:=yZ dc kF sA iF cA cS dD dF
def Qj:SS EY (as0 iv):=so func20 (.c Fb (.c Xv (.c acA (.c On (.c zW (.c CQ (.c GR (.c GS .z)))))))) (Qi dc kF sA iF cA cS dD dF)
def BO(u:T2)(v:T2):T2:=λe w k=>aE w e 27 λc o=>bx 1 o (c.add 0) λf=>u f o λp a=>an p (aJ B_ a (c.add 1) λq=>an (L_ (q>=1)) (aJ B_ a (c.add 2) λr=>an (L_ (r>=0)) (aJ B_ a (c.add 1) λs=>an (L_ (s<=8)) (aJ B_ a (c.add 2) λt=>aJ B_ a (c.add 1) λg=>an (L_ (t<=(aF B_ (8 - g)))) (aJ B_ a (c.add 3) λh=>an (L_ (h>=0)) (aJ B_ a (c.add 3) λi=>an (L_ (i<=5)) (cy a (c.add 4) λj=>an (L_ (((j.n:Nat):Int)<=300)) (bx 1 a (c.add 0) λd=>v d a λl m=>k l m) (k K_ a)) (k K_ a)) (k K_ a)) (k K_ a)) (k K_ a)) (k K_ a)) (k K_ a)) (k K_ a)
def Up a c:E [.ag] [.b] [(HL,Jj a),(AW,Jj c)] 6 [] f19=BO a c:=aZ
def lC:=BO lm gM
def Uq:SS HJ (Jj lC):=so func19 (.c Tr (.c LV .z)) (Up lm gM)
def sZ(t:T54):W9:=λg w k=>aE w g 27 λh p=>aE p zr6 43 λo i=>aJ B_ i (h.add 1) λq=>aJ B_ i (h.add 2) λr=>t q r i λj s=>aE s zr6 43 λl m=>dQ 6 m l j λb=>aJ B_ b (h.add 3) λn=>bN b (l.add 5) (Iv n) λc=>bx 6 c l λd=>dQ 6 c o d λe=>bx 6 e o λf=>k f e
def Ju a:E [.ag] [.ag] [(xU,arM a)] 14 [] f49=sZ a:=aZ
def fL:=sZ dc
def Jv:SS zH (Kx fL):=so func49 (.c Fb .z) (Ju dc)
def AJ(fL:W9)(kF:T37):W7:=λc w k=>aE w c 27 λd j=>drew j λa=>bx 1 a (d.add 0) λe=>bx 5 a d λf=>fL f a λg h=>ai 1 (d.add 0) a h (kF e g h λb i=>an ((b.1,b.2).2 !=0) (k H_ i) (k (b.1,b.2).1 i))
def Sc a b:E [.ag] [.p] [(zH,Kx a),(Nh,arI b)] 16414 [] f21=AJ a b:=aZ
def kJ:=AJ fL kF
def Sd:SS Gu (HZ kJ):=so func21 (.c Jv (.c Xv .z)) (Sc fL kF)
def ao7:T2:=λa w k=>aE w a 49 λc b=>aJ B_ b (c.add 3) λe=>k (L_ (e>=2)) b
def aE3:SS aAV (Jj ao7):=sl 6 [] func96
abbrev aMo:Array Value:=(dU 256 (Value.bool K_)).toArray
def agx:W9:=λc w k=>aE w c 307 λe h=>aE h #[Iv 0,Iv 0,Iv 0,Iv 0,Iv 0,Iv 0,(.string (Oq #[]))] 49 λf b=>cy b (e.add 0) λi=>aJ B_ b (e.add 1) λl=>cN i l 7 λm=>bx 7 b m λd=>dQ 7 b f d λg=>bx 7 g f λa=>k a g
def awh:SS avL (Kx agx):=sl 6 [] func236
def aq5:T31:=λLU c asY w k=>jD (S:=(Int×Int)) (λe a b=>an (L_ (a.2<((LU.n:Nat):Int))) (an ((L_ (a.1<0))||(decide (a.1>=((LU.n:Nat):Int)))) (k false b) (an (a.1==asY) (k true b) (cN LU a.1 7 λf=>aJ B_ b (f.add 0) λg=>e (g,(aF B_ (a.2+1))) b))) (k K_ b)) (c,0) w
def aGn:SS aCu (Xb aq5):=sl 2361159 [(3,[(1,(.i B_)),(9,(.i B_))])] func237
def awY(agx:W9)(aq5:T31):T2:=λe w k=>aE w e 307 λc m=>bx 2 m c λf=>agx f m λg b=>Qq g 0 λn=>xS B_ n λd=>aJ B_ b (c.add 1) λo=>an (o==0) (k (d==(-1)) b) (an (L_ (d>=0)) (aJ B_ b (c.add 1) λp=>an (L_ (d<p)) (cy b (c.add 0) λh=>aJ B_ b (c.add 1) λi=>aq5 h (aF B_ (i - 1)) d b λj l=>k j l) (k K_ b)) (k K_ b))
def aEr a c:E [.ag] [.b] [(avL,Kx a),(aCu,Xb c)] 526 [] f194=awY a c:=aZ
def aoy:=awY agx aq5
abbrev ax1:bt:=Jj aoy
def aEs:SS aru (Jj aoy):=so func194 (.c awh (.c aGn .z)) (aEr agx aq5)
def aw8(agx:W9):T2:=λd w k=>aE w d 307 λv x=>bx 2 x v λe=>agx e x λf y=>aE y #[Iv 0,Iv 0,Iv 0,Iv 0,Iv 0,Iv 0,(.string (Oq #[]))] 49 λc z=>dQ 7 z c f λa=>aJ B_ a (c.add 1) λA=>an (L_ (A>=0)) (aJ B_ a (v.add 1) λg=>an (L_ (g>0)) (aJ B_ a (c.add 2) λh=>an (L_ (h>=0)) (aJ B_ a (c.add 2) λi=>an (L_ (i<32)) (aJ B_ a (c.add 3) λj=>an (L_ (j>=0)) (aJ B_ a (c.add 3) λl=>an (L_ (l<=4)) (aJ B_ a (c.add 5) λm=>an (L_ (m>=0)) (aJ B_ a (c.add 5) λn=>k (L_ (n<=1048576)) a) (k K_ a)) (k K_ a)) (k K_ a)) (k K_ a)) (k K_ a)) (aJ B_ a (c.add 1) λo=>an (o==0) (aJ B_ a (c.add 2) λp=>an (L_ (p>=0)) (aJ B_ a (c.add 2) λq=>an (L_ (q<32)) (aJ B_ a (c.add 3) λr=>an (L_ (r>=0)) (aJ B_ a (c.add 3) λs=>an (L_ (s<=4)) (aJ B_ a (c.add 5) λt=>an (L_ (t>=0)) (aJ B_ a (c.add 5) λu=>k (L_ (u<=1048576)) a) (k K_ a)) (k K_ a)) (k K_ a)) (k K_ a)) (k K_ a)) (k K_ a))) (k K_ a)
def aE5 a:E [.ag] [.b] [(avL,Kx a)] 14 [] f195=aw8 a:=aZ
def aoK:=aw8 agx
abbrev aze:bt:=Jj aoK
def aE6:SS arA (Jj aoK):=so func195 (.c awh .z) (aE5 agx)
def aoP:T87:=λa b w k=>False
abbrev aA0:bt:=aK2 aoP
def aA6:uY Tryz.prog aw3 aA0:=⟨⟨_,func257,aZ,aZ⟩,λargs w c h=>by
 obtain⟨x,_,h⟩:=zu h;exact h.elim⟩
def apb:T87:=λa b w k=>False
abbrev aCe:bt:=aK2 apb
def aCl:uY Tryz.prog axe aCe:=⟨⟨_,func256,aZ,aZ⟩,λargs w c h=>by
 obtain⟨x,_,h⟩:=zu h;exact h.elim⟩
def akT:aMr:=λaJG w k=>aE w aMo 350 λa n=>jD (S:=Int) (λo f b=>an (L_ (f<(((Ot aJG):Nat):Int))) (aAv aJG f λl=>an (L_ (l>=128)) (bx 256 b a λg=>dQ 256 b a g λm=>bx 256 m a λh=>k (h,K_) m) (Hf a 256 l 1 λi=>bN b i (Iq J_) λj=>o (aF B_ (f+1)) j)) (bx 256 b a λc=>dQ 256 b a c λd=>bx 256 d a λe=>k (e,J_) d)) 0 n
def aCn:SS axf (aMs akT):=sl 66109 [(3,[(4,(.i B_))])] func258
def af8:T1:=λaQf a w k=>nn aQf λb=>Hf b 256 a 1 λc=>He w c λd=>k d w
def avV:SS atU (aMq af8):=sl 19 [] func278
def avD(e:T1):T88:=λc b w k=>jD (S:=ByteArray) (λh a f=>an (L_ ((((Ot a):Nat):Int)>0)) (aAv a (aF B_ ((((Ot a):Nat):Int) - 1)) λi=>e b i f λj g=>an (!j) (k a g) (aqU a 0 (aF B_ ((((Ot a):Nat):Int) - 1)) λl=>h l g)) (k a f)) c w
def aAJ a:E [.str,.p] [.str] [(atU,aMq a)] 32915 [(2,[(0,.str)])] f260=u_2 (avD a):=aZ
def aiW:=avD af8
def aAK:SS awW (aK3 aiW):=so func260 (.c avV .z) (aAJ af8)
def avR(d:T1):T88:=λc b w k=>jD (S:=ByteArray) (λg a e=>an (L_ ((((Ot a):Nat):Int)>0)) (aAv a 0 λh=>d b h e λi f=>an (!i) (k a f) (aqU a 1 (((Ot a):Nat):Int) λj=>g j f)) (k a e)) c w
def aA8 a:E [.str,.p] [.str] [(atU,aMq a)] 4243 [(2,[(0,.str)])] f259=u_2 (avR a):=aZ
def akP:=avR af8
def aBI:SS aw5 (aK3 akP):=so func259 (.c avV .z) (aA8 af8)
def aow:T66:=λa b w k=>False
abbrev ayc:bt:=aIm aow
def ayr:uY Tryz.prog av4 ayc:=⟨⟨_,func262,aZ,aZ⟩,λargs w c h=>by
 obtain⟨x,_,h⟩:=zu h;exact h.elim⟩
def aox:T66:=λa b w k=>False
abbrev azl:bt:=aIm aox
def azq:uY Tryz.prog awn azl:=⟨⟨_,func261,aZ,aZ⟩,λargs w c h=>by
 obtain⟨x,_,h⟩:=zu h;exact h.elim⟩
def axM(r:T87)(s:T87)(akT:aMr)(aiW:T88)(akP:T88)(aow:T66)(aox:T66):T66:=λa axg w k=>an ((Wm a (Oq #[]))||(Wm axg (Oq #[]))) (k a w) (cz (S:=Bool) (λt=>an ((((Ot axg):Nat):Int)==1) (aAv axg 0 λv=>t (L_ (v<128)) w) (t K_ w)) λx u=>an x (drew u λy=>aAv axg 0 λz=>aAv axg 0 λA=>r a z y λB C=>s B A C λe f=>k e f) (akT axg u λb g=>aE g aMo 350 λc h=>dQ 256 h c (b.1,b.2).1 λd=>an (b.1,b.2).2 (aiW a (G_ c) d λi j=>akP i (G_ c) j λl m=>k l m) (aow a axg d λn o=>aox n axg o λp q=>k p q)))
def aGo a c d e f g h:E [.str,.str] [.str] [(aw3,aK2 a),(axe,aK2 c),(axf,aMs d),(awW,aK3 e),(aw5,aK3 f),(av4,aIm g),(awn,aIm h)] 17181970547 [(4,[(21,.b)])] f238=u_2 (axM a c d e f g h):=aZ
def aqG:=axM aoP apb akT aiW akP aow aox
def aGp:SS aCx (aIm aqG):=so func238 (.c aA6 (.c aCl (.c aCn (.c aAK (.c aBI (.c ayr (.c azq .z))))))) (aGo aoP apb akT aiW akP aow aox)
def axb(agx:W9)(aqG:T66):T2:=λa w k=>aE w a 307 λe d=>bx 2 d e λb=>agx b d λc f=>Qq c 6 λg=>Yo g λh=>aqG h (Oq #[48,49]) f λi j=>k (Wm i (Oq #[])) j
def aFc a c:E [.ag] [.b] [(avL,Kx a),(aCx,aIm c)] 6 [] f196=axb a c:=aZ
def aoL:=axb agx aqG
abbrev aAu:bt:=Jj aoL
def aFe:SS arB (Jj aoL):=so func196 (.c awh (.c aGp .z)) (aFc agx aqG)
def aw1(agx:W9)(ao7:T2):T2:=λn w k=>aE w n 307 λo M=>bx 2 M o λp=>agx p M λq N=>aE N #[Iv 0,Iv 0,Iv 0,Iv 0,Iv 0,Iv 0,(.string (Oq #[]))] 49 λd O=>dQ 7 O d q λi=>cz (S:=Bool) (λr=>aJ B_ i (d.add 4) λs=>an (s !=0) (aJ B_ i (d.add 3) λt=>an (t !=2) (aJ B_ i (d.add 3) λu=>r (u !=3) i) (r K_ i)) (r K_ i)) λv b=>an v (k K_ b) (cz (S:=Bool) (λf=>aJ B_ b (d.add 3) λx=>an (x==0) (aJ B_ b (d.add 5) λy=>an (y !=0) (f J_ b) (Qp b (d.add 6) λz=>f (!(Wm z (Oq #[]))) b)) (f K_ b)) λA c=>an A (k K_ c) (aJ B_ c (o.add 1) λB=>an (B==0) (k J_ c) (cy c (o.add 0) λC=>aJ B_ c (d.add 0) λD=>cN C D 7 λF=>bx 7 c F λj=>aE c #[Iv 0,Iv 0,Iv 0,Iv 0,Iv 0,Iv 0,(.string (Oq #[]))] 49 λg G=>dQ 7 G g j λe=>aJ B_ e (g.add 3) λH=>an (H !=0) (bx 7 e g λl=>ao7 l e λI h=>an (!I) (k J_ h) (bx 7 h d λm=>ao7 m h λJ L=>k J L)) (k K_ e))))
def aEu a c:E [.ag] [.b] [(avL,Kx a),(aAV,Jj c)] 38655229982 [(2,[(19,.b)]),(5,[(32,.b)])] f197=aw1 a c:=aZ
def aoG:=aw1 agx ao7
abbrev ax2:bt:=Jj aoG
def aEx:SS arz (Jj aoG):=so func197 (.c awh (.c aE3 .z)) (aEu agx ao7)
def aAE(H:T2)(I:T2)(J:T2)(L:T2):T83:=λLU s w k=>aE w #[IC H_ 0 0,Iv 0] 307 λg M=>dQ 2 M g #[S_ LU,Iv s] λh=>bx 2 h g λi=>rZ (.func (F_ aru) #[(.agg i)] #[]) (bx 2 h g λj=>rZ (.func (F_ arA) #[(.agg j)] #[]) (bx 2 h g λl=>rZ (.func (F_ arB) #[(.agg l)] #[]) (bx 2 h g λm=>rZ (.func (F_ arz) #[(.agg m)] #[]) (kT #[C_,Iv 0,C_,Iv 0,C_,Iv 0,C_,Iv 0] 0 2 #[(.func (F_ aru) #[(.agg i)] #[]),Iv 11] λt=>kT t 2 2 #[(.func (F_ arA) #[(.agg j)] #[]),Iv 10] λu=>kT u 4 2 #[(.func (F_ arB) #[(.agg l)] #[]),Iv 11] λo=>kT o 6 2 #[(.func (F_ arz) #[(.agg m)] #[]),Iv 19] λp=>aE h p 308 λv x=>jD (S:=Int) (λy b d=>an (L_ (b<((4:Nat):Int))) (cN (Sl.mk (G_ v) 4 4) b 2 λz=>bx 2 d z λq=>aE d #[C_,Iv 0] 308 λe A=>dQ 2 A e q λr=>tH r (e.add 0) λB=>nj (kC [(aru,(Jj H)),(arA,(Jj I)),(arB,(Jj J)),(arz,(Jj L))]) B #[] r λC f=>Ir C λD=>an (!D) (aJ B_ f (e.add 1) λG=>k G f) (y (aF B_ (b+1)) f)) (k 0 d)) 0 x))))
def aGK a b c d:E [.s,.i B_] [.i B_] [(aru,Jj a),(arA,Jj b),(arB,Jj c),(arz,Jj d)] 4420796595 [(4,[(25,(.i B_))])] f147=u_2 (aAE a b c d):=aZ
def arG:=aAE aoy aoK aoL aoG
def aGL:SS aCF (aI1 arG):=so func147 (.c aEs (.c aE6 (.c aFe (.c aEx .z)))) (aGK aoy aoK aoL aoG)
def aAF(b:T83):T17:=λLU w k=>an (((LU.n:Nat):Int)==0) (k 17 w) (jD (S:=Int) (λf a c=>an (L_ (a<((LU.n:Nat):Int))) (b LU a c λd e=>an (d !=0) (k d e) (f (aF B_ (a+1)) e)) (k 0 c)) 0 w)
def aGM a:E [.s] [.i B_] [(aCF,aI1 a)] 134813 [(6,[(10,(.i B_))])] f92=aAF a:=aZ
def aq8:=aAF arG
def aGN:SS aCC (Jk aq8):=so func92 (.c aGL .z) (aGM arG)
def aqI:aK4:=λLU e w k=>jD (S:=(Sl×Int)) (λo b f=>an (L_ (b.2<((LU.n:Nat):Int))) (cN LU b.2 7 λq=>bx 7 f q λg=>aE f #[Iv 0,Iv 0,Iv 0,Iv 0,Iv 0,Iv 0,(.string (Oq #[]))] 49 λp r=>dQ 7 r p g λh=>aJ B_ h (p.add 0) λs=>an (s==e) (aE h #[Iv b.2] 3 λi j=>og Tryz.prog #[69,69] 69 [S_ b.1,(IC (G_ i) 1 1)] j λl m=>o (l,(aF B_ (b.2+1))) m) (o (b.1,(aF B_ (b.2+1))) h)) (k b.1 f)) ((Sl.mk H_ 0 0),0) w
abbrev aH9:bt:=aKw aqI
def aIa:SS aAW (aKw aqI):=sl 266227 [(4,[(5,.s),(10,(.i B_))])] func148
def ahd:T86:=λa aCr w k=>an (L_ ((((Ot a):Nat):Int)>=(((Ot aCr):Nat):Int))) (aqU a 0 (((Ot aCr):Nat):Int) λb=>k (Wm b aCr) w) (k K_ w)
def axh:SS avA (aK1 ahd):=sl 19 [] func239
def awv(b:T86):T86:=λa aCr w k=>b a aCr w λc d=>k c d
def aCG a:E [.str,.str] [.b] [(avA,aK1 a)] 19 [] f198=u_2 (awv a):=aZ
def aoY:=awv ahd
def aCH:SS axp (aK1 aoY):=so func198 (.c axh .z) (aCG ahd)
def axV(A:T2)(B:T86):aK5:=λj l aIJ aIK w k=>aE w j 49 λc D=>aE D l 49 λd F=>bN F (c.add 0) (Iv 0) λG=>bN G (d.add 0) (Iv 0) λf=>cz (S:=Bool) (λC=>aJ B_ f (c.add 1) λH=>aJ B_ f (d.add 1) λI=>an (H !=I) (C (J_||(decide (aIK<aIJ))) f) (aJ B_ f (c.add 2) λm=>aJ B_ f (d.add 2) λn=>C ((m !=n)||(decide (aIK<aIJ))) f)) λo e=>an o (k K_ e) (bx 7 e c λg=>A g e λp a=>an p (bx 7 a c λh=>bx 7 a d λi=>Tj ([(0,0)] ++([(1,0)] ++([(2,0)] ++([(3,0)] ++([(4,0)] ++([(5,0)] ++([(6,2)] ++[]))))))) h i λq=>k (q&&(aIK==aIJ)) a) (aJ B_ a (c.add 3) λr=>an (r==1) (aJ B_ a (d.add 3) λs=>an (s !=0) (aJ B_ a (d.add 5) λt=>aJ B_ a (c.add 5) λu=>an (L_ (t>=u)) (Qp a (d.add 6) λv=>Qp a (c.add 6) λx=>B v x a λy z=>k y z) (k K_ a)) (k K_ a)) (k J_ a)))
def aGr a c:E [.ag,.ag,.i B_,.i B_] [.b] [(aAV,Jj a),(axp,aK1 c)] 1100048501052 [(3,[(11,.b)])] f149=u_4 (axV a c):=aZ
def aqr:=axV ao7 aoY
abbrev aGs:bt:=aKy aqr
def aGt:SS axq (aKy aqr):=so func149 (.c aE3 (.c aCH .z)) (aGr ao7 aoY)
def axi(aqI:aK4)(aqr:aK5)(aqx:T84):T84:=λLU b d e w k=>aqI LU d w λs1 x=>aqI b e x λv y=>drew y λj=>cN LU d 7 λz=>bx 7 j z λl=>cN b e 7 λA=>bx 7 j A λm=>aqr l m ((s1.n:Nat):Int) ((v.n:Nat):Int) j λo f=>an (!o) (k K_ f) (jD (S:=Int) (λp a g=>an (L_ (a<((s1.n:Nat):Int))) (drew g λc=>cN s1 a 1 λq=>aJ B_ c q λr=>cN v a 1 λs=>aJ B_ c s λt=>aqx LU b r t c λu i=>an (!u) (k K_ i) (p (aF B_ (a+1)) i)) (k J_ g)) 0 f)
def aGO(aqI:aK4)(aqr:aK5)(aqx:T84)(x:KT [.s,.s,(.i B_),(.i B_)])(w:N_)(k:KT [.b]->ap):OP Tryz.prog (kC [(aAW,(aKw aqI)),(axq,(aKy aqr)),(awi,(aMl aqx))]) 281537253740303 [(7,[(34,(.i B_))])] f93 [.b] (dL [.s,.s,(.i B_),(.i B_)] x) w k=axi aqI aqr aqx x.1 x.2.1 x.2.2.1 x.2.2.2 w k:=aZ
def aAT:Nat->Sl->Sl->Int->Int->N_->((Bool)->ap)->Prop
 |0=>λ_ _ _ _ _ _=>False
 |n+1=>axi aqI aqr (aAT n)
def aUl(f:T84):bt:=λargs w c=>qW [.s,.s,(.i B_),(.i B_)] args λx=>f x.1 x.2.1 x.2.2.1 x.2.2.2 w λr w=>c (e9 (dL [.b] r)) w
def aFO:∀n,uY Tryz.prog awi (aUl (aAT n))
 |0=>⟨⟨_,func93,aZ,aZ⟩,λargs w c h=>by
 obtain⟨x,_,h⟩:=zu h;exact h.elim⟩
 |n+1=>aeM (mask:=281537253740303) (h:=[(7,[(34,(.i B_))])]) (ds:=[(aAW,aH9),(axq,aGs),(awi,aUl (aAT n))]) mixed func93 ⟨aIa,aGt,aFO n,trivial⟩ [.s,.s,(.i B_),(.i B_)] [.b] aZ (λx w k=>aAT (n+1) x.1 x.2.1 x.2.2.1 x.2.2.2 w k) (λx w k=>aGO aqI aqr (aAT n) x w k)
def aqx(l m:Sl)(i j:Int)(w:N_)(k:(Bool)->ap):Prop:=∃n,aAT n l m i j w k
abbrev aGP:bt:=aMl aqx
def aGR:uY Tryz.prog awi aGP:=⟨(aFO 0).1,λargs w c h=>by
 obtain⟨x,a,n,h⟩:=zu h;refine(aFO n).2 args w c ?_;unfold aUl;rw[a,aie];exact h⟩
def aAG(b:T17)(c:T84):T23:=λLU a w k=>b LU w λf d=>an (f==0) (b a d λg e=>an (g==0) (c LU a 0 0 e λh i=>k h i) (k K_ e)) (k K_ d)
def aGS a c:E [.s,.s] [.b] [(aCC,Jk a),(awi,aMl c)] 19 [] f55=u_2 (aAG a c):=aZ
def arK:=aAG aq8 aqx
def aGT:SS aCB (arH arK):=so func55 (.c aGN (.c aGR .z)) (aGS aq8 aqx)
def avI(P:T2)(iv:N_->((Bool)->ap)->Prop)(kJ:W7)(dD:T5)(nO:T16)(arK:T23)(dF:T23)(j:Array M_)(w:N_)(k:(Bool)->ap):Prop:= aE w j 27 λf J=>bx 5 J f λl=>P l J λL m=>an (!L) (iv m λM N=>k M N) (bx 5 m f λo=>kJ o m λp9 g=>an (eA p9) (k K_ g) (dD p9 g λp q=>jD (S:=(Sl×Int)) (λr a b=>cy b (f.add 4) λs=>an (L_ (a.2<((s.n:Nat):Int))) (cy b (f.add 4) λt=>cN t a.2 2 λu=>bx 2 b u λh=>nO p9 h b λO v=>dD p9 v λd x=>cz (S:=Bool) (λe=>arK a.1 d x λy c=>an (!y) (e J_ c) (cy c (f.add 4) λz=>cN z a.2 2 λA=>aJ B_ c (A.add 0) λC=>an (C !=0) (dF a.1 d c λD F=>e (!D) F) (e K_ c))) λG i=>an G (k K_ i) (r (d,(aF B_ (a.2+1))) i)) (iv b λH I=>k H I)) (p,0) q))
def aAL c d e f g a h:E [.ag] [.b] [(HJ,Jj c),(EY,as0 d),(Gu,HZ e),(zF,Pa f),(Kj,az1 g),(aCB,arH a),(zG,arH h)] 2251799815799422 [(11,[(4,.s),(5,(.i B_))]),(17,[(51,.b)])] f17=avI c d e f g a h:=aZ
def arL:=avI lC iv kJ dD nO arK dF
def aAM:SS aAI (Jj arL):=so func17 (.c Uq (.c Qj (.c Sd (.c GR (.c XP (.c aGT (.c GS .z))))))) (aAL lC iv kJ dD nO arK dF)
end Go.Proofs.YthidhjhkmjjckaaGreatDoor
namespace Go.Ev
open Go Go.RowKit
def obj(g:Nat)(o:Obj):HP where
 p F w:=(∀k,F k↔k=g)/\w.heap[g]?=G_ o
 lt:=fun⟨e,h⟩ hg=>by rw[(e _).1 hg];exact(Bf.1 h).1
 keep:=fun⟨e,h⟩ hk=>⟨e,(hk _ ((e _).2 rfl)).trans h⟩
def I6(ds:List Nat):HP where
 p F w:=ds.Nodup/\(∀k,F k↔k∈ds)/\∀D∈ds,w.heap[D]?=G_ (.deferred (G_ []))
 lt:=fun⟨_,e,h⟩ hg=>(Bf.1 (h _ ((e _).1 hg))).1
 keep:=fun⟨n,e,h⟩ hk=>⟨n,e,λD hD=>(hk _ ((e _).2 hD)).trans (h D hD)⟩
def agr(w:N_)(g:Nat)(o:Obj):o7 (λk=>k=g) w (w.putObj g o):=
 ⟨rfl,rfl,rfl,by simp[World.putObj],λk _ a=>World.putObj_heap_other a⟩
def akQ(w:N_)(o:Obj):Ext w (w.alloc o):=
 ⟨rfl,rfl,rfl,by show w.heap.size<=(w.heap.push o).size;simp,λk a _=>by show(w.heap.push o)[k]?=_;rw[Array.getElem?_push_lt a];simp[a]⟩
variable{L:List HP}{f:HP->List HP}{g:Nat}{o:Obj}{w w0:N_}
def DM(h:St w0 w L)[a:At L (Ev.obj g) o f]:w.heap[g]?=G_ o:=by
 obtain⟨F,b,_⟩:=h.look' a;exact b.2
def AV(o':Obj)(h:St w0 w L)[a:At L (Ev.obj g) o f]:St w0 (w.putObj g o') (f (Ev.obj g o')):=by
 have b:=(Bf.1 (DM (g:=g) (o:=o) h)).1;exact h.M8 a λe d=>⟨(agr w g o').mono λk _ c=>(d.1 k).2 c,λk=>k=g,⟨λ_=>k_,World.putObj_heap_same b⟩,λk c=>D_ ((d.1 k).2 c)⟩
def acd(o:Obj)(h:St w0 w L):St w0 (w.alloc o) (Ev.obj w.heap.size o::L):=
 h.new (akQ w o) (F':=λk=>k=w.heap.size) ⟨λ_=>k_,World.alloc_heap_new w o⟩ λk a=>Nat.le_of_eq a.symm
def QR(h:St w0 w L):St w0 w (I6 []::L):=
 h.new (.refl _ _) (F':=λ_=>False) ⟨.nil,λk=>by simp,λD a=>by cases a⟩ λ_ h=>h.elim
variable{D:Nat}{ds:List Nat}
def LK(h:St w0 w (Ev.obj D (.deferred (G_ []))::I6 ds::L)):St w0 w (I6 (D::ds)::L):=by
 obtain⟨i,F,⟨j,u,⟨f,l⟩,⟨m,n,⟨o,g,p⟩,q,d,a⟩,b,e⟩,r⟩:=h;have s:D ∉ ds:=λhD=>b D ((f D).2 rfl) ((a D).2 (D_ ((g D).2 hD)));refine⟨i,F,⟨λk=>j k\/m k,n,⟨VN.2 ⟨s,o⟩,λk=>by simp[f,g],λt hD=>?_⟩,q,λk hk c=>?_,λk=>?_⟩,r⟩
 .rcases BP.1 hD with rfl|hD
  .exact l
  .exact p t hD
 .rcases hk with hk|hk
  .exact b k hk ((a k).2 (E_ c))
  .exact d k hk c
 .rw[e,a];exact or_assoc.symm
def aim(h:St w0 w (I6 (D::ds)::L)):St w0 w (Ev.obj D (.deferred (G_ []))::I6 ds::L):=by
 obtain⟨j,F,⟨s,g,⟨n,b,i⟩,l,a,c⟩,m⟩:=h;obtain⟨o,p⟩:=VN.1 n;refine⟨j,F,⟨λk=>k=D,λk=>k∈ds\/g k,⟨λ_=>k_,i D bf⟩,⟨λk=>k∈ds,g,⟨p,λ_=>k_,λq r=>i q (by simp[r])⟩,l,λk d e=>a k ((b k).2 (by simp[d])) e,λ_=>k_⟩,λk d f=>?_,λk=>?_⟩,m⟩
 .subst d;rcases f with h|h
  .exact o h
  .exact a k ((b k).2 bf) h
 .rw[c,b];simp[or_assoc]
def LL:∀{ds:List Nat} {w:N_} {c:ap},St w0 w (I6 ds::L)->(∀w',St w0 w' L->c w')->I3 ds w c
 |[],w,c,h,hc=>hc w h.drop
 |D::ds,w,c,h,hc=>by
  have h:=aim h;refine⟨DM h,LL (St.drop (R:=Ev.obj D (.deferred H_)) (AV (g:=D) (o:= .deferred (G_ [])) (f:=λX=>X::I6 ds::L) (.deferred H_) h)) hc⟩
def rY(l:Nat)(R:LoopState->Obj)(kk:List K)(body:KT kk->N_->(ap)->Prop):Nat->bt:=λn args w1 c=>
 n=l/\w1.heap[l]?=G_ (R .ready)/\qW kk args λy=>body y (w1.putObj l (R .busy)) λw4=>w4.heap[l]?=G_ (R .busy)/\c (Iq J_) (w4.putObj l (R .ready))
variable{kk:List K}{body:KT kk->N_->(ap)->Prop}
variable{z3:FuncId}{zd:Array M_}
def S1{I:De}{lb:Array M_}{fin:Nat->ap}(h:St w0 w L)
  (c:∀(l D:Nat) (R:LoopState->Obj) (w1:N_),St w0 w1 (obj l (R .ready)::obj D (.deferred (G_ []))::L)->
   I z3 (rY l R kk body) (zd.toList++(.func (.yield l) #[] #[]::lb.toList)) w1 λ_ a=>a.heap[l]?=G_ (R .ready)/\fin D (a.putObj l (R .exhausted))):
  Cg I kk (.func (F_ z3) zd lb) w body fin:=by
 intro R d;have b:=acd (R .ready) (acd (.deferred (G_ [])) h);have e:(w.alloc (.deferred (G_ []))).heap.size=w.heap.size+1:=by show(w.heap.push _).size=_;simp
 rw[e]at b;exact c _ _ R _ b
variable{zh:List M_}
def amZ{l:Nat}{R:LoopState->Obj}{c:M_->ap}(y:KT kk)(d:∀c:KT kk->Prop,c y->qW kk zh c)
  (h:St w0 w L) [a:At L (Ev.obj l) (R .ready) f]
  (hb:∀w',St w0 w' (f (Ev.obj l (R .busy)))->body y w' λb=>b.heap[l]?=G_ (R .busy)/\c (Iq J_) (b.putObj l (R .ready))):rY l R kk body l zh w c:=
 ⟨rfl,DM h,d _ (hb _ (AV _ h))⟩
def ace{o':Obj}{c:ap}(h:St w0 w L)[a:At L (Ev.obj g) o f](b:∀w',St w0 w' (f (Ev.obj g o'))->c w'):w.heap[g]?=G_ o/\c (w.putObj g o'):=
 ⟨DM h,b _ (AV _ h)⟩
variable{n:Nat}
variable{zn:Nat->bt}
def QS{l:List (Nat×bt)}{c:M_->ap}(h:zn n zd.toList w c):nj (J0 l zn) (.func (.yield n) #[] #[]) zd w c:=by
 show zn n (#[] ++zd).toList w c;simpa using h
variable{M:List HP}{w':N_}
def St.join(h:St w0 w L)(k:St w w' M):St w0 w' (M++L):=by
 obtain⟨b,c,a,f⟩:=h;obtain⟨e2,d,i,e⟩:=k;refine⟨b.trans e2,λg=>d g\/c g,zA.1 ⟨d,c,i,FD a λg hg=>e2.block g (DI a hg) λh=>h,λg hg j=>?_,λ_=>k_⟩,λg hg=>?_⟩
 .have:=e g hg;have:=DI a j;omega
 .have:=b.size;rcases hg with hg|hg
  .have:=e g hg;omega
  .exact f g hg
def aeX{w:N_}{p:P_}:∀(n i:Nat) (e:List M_),e.length=i+n->(∀j v,e[j]?=G_ v->w.cell? (p.add j)=G_ v)->Gd w p i n=G_ (e.drop i)
 |0,i,e,hl,_=>by rw[List.drop_eq_nil_of_le af];rfl
 |n+1,i,e,hl,h=>by
  have hi:i<e.length:=af;have a:=h i e[i] (iH hi);have h2:=aeX n (i+1) e af h;rw[TT hi];simp[Gd,rd,a,h2]
variable{e:List M_}
variable{zp:P_}
def Ho{c:Array M_->Prop}(b:e.length=n)(h:∀j v,e[j]?=G_ v->w.cell? (zp.add j)=G_ v)(a:c e.toArray):bx n w zp c:=by
 unfold bx;rw[aeX n 0 e af h];exact a
def akR(c:L.Perm M):∀{F w},u4 L F w->u4 M F w:=by
 induction c with
 |nil=>exact id
 |cons x _ ih=>rintro F w ⟨d,e,h1,h2,h3,h4⟩;exact⟨d,e,h1,ih h2,h3,h4⟩
 |swap x y l=>exact λh=>I1 h
 |trans _ _ a b=>exact λh=>b (a h)
def St.perm(h:St w0 w L)(a:L.Perm M):St w0 w M:=⟨h.ext,by obtain⟨F,b,h2⟩:=h.sep;exact⟨F,akR a b,h2⟩⟩
def Z6:∀{L:List HP} {n:Nat} {X:HP},L[n]?=G_ X->L.Perm (X::L.eraseIdx n)
 |[],n,X,h=>by simp at h
 |R::L,0,X,h=>by simp at h;subst h;exact .refl _
 |R::L,n+1,X,h=>((Z6 (L:=L) (n:=n) (gq h)).cons R).trans (.swap _ _ _)
variable{X:HP}
def bD(n:Nat)(e:L[n]?=G_ X)(h:(L.eraseIdx n).Perm M):L.Perm (X::M):=by
 have:=Z6 e;exact this.trans (h.cons X)
variable{L':List HP}
def St.fr(h:St w0 w L)(n:Nat)(e:L[n]?=G_ X:=by exact rfl)(e2:X::L.eraseIdx n=L':=by simp only[I7] <;>exact rfl):St w0 w L':=e2▸h.front n e
def St.zm(h:St w0 w L)(n:Nat)(e:L[n]?=G_ X:=by exact rfl)(e2:L.eraseIdx n=L':=by simp only[I7] <;>exact rfl):St w0 w L':=e2▸h.rm n e
def Hp(h:L.Perm M:=by repeat' (first|exact List.Perm.refl _|refine bD 0 rfl ?_|refine bD 1 rfl ?_|refine bD 2 rfl ?_|refine bD 3 rfl ?_|refine bD 4 rfl ?_|refine bD 5 rfl ?_|refine bD 6 rfl ?_|refine bD 7 rfl ?_)):L.Perm M:=h
section
variable {K V:Type} [DecidableEq K]
def gmE(ek:K->M_)(ev:V->M_)(t:List (K×V×Nat)):List MapEntry:=t.map λx=>⟨ek x.1,ev x.2.1,x.2.2⟩
def gmG(t:List (K×V×Nat))(k:K):Option V:=(t.find? λx=>L_ (x.1=k)).map (·.2.1)
def gm(ek:K->M_)(ev:V->M_)(g:Nat)(φ:K->Option V):HP:=Gt λq:{t:List (K×V×Nat) // gmG t=φ}×Nat=>obj g (.map (gmE ek ev q.1.1).toArray q.2)
end
section
variable {K V:Type} [DecidableEq K] {ek:K->M_} {ev:V->M_} {z:V} {P:Program} {w0 w:N_} {L:List HP} {g:Nat} {φ:K->Option V} {f:HP->List HP} {m kt et:Q_}
end
variable{cs:List M_}{o:Nat}
variable{zr:IntKind}{zt:Int}
def aI{c:Int->Prop}(h:St w0 w L)[a:At L (au g) cs f](hv:cs[o+n]?=G_ (.int zr zt))(b:c zt):aJ zr w (aY ⟨g,o,H_⟩ n) c:=by rw[dg];exact cr h hv b
variable{y0:Bool}
def aB{c:Bool->Prop}(h:St w0 w L)[a:At L (au g) cs f](hv:cs[o+n]?=G_ (Iq y0))(b:c y0):He w (aY ⟨g,o,H_⟩ n) c:=by rw[dg];exact akI h hv b
variable{y1:Option P_}
def aP{c:Option P_->Prop}(h:St w0 w L)[a:At L (au g) cs f](hv:cs[o+n]?=G_ (IB y1))(b:c y1):aQ w (aY ⟨g,o,H_⟩ n) c:=by rw[dg];exact CC h hv b
variable{m:Nat}{p:Option P_}
def aS{c:Sl->Prop}(h:St w0 w L)[a:At L (au g) cs f](hv:cs[o+n]?=G_ (IC p m D))(b:c ⟨p,m,D⟩):cy w (aY ⟨g,o,H_⟩ n) c:=by rw[dg];exact ea h hv b
def aT{x:ByteArray}{c:ByteArray->Prop}(h:St w0 w L)[a:At L (au g) cs f](hv:cs[o+n]?=G_ (.string x))(b:c x):Qp w (aY ⟨g,o,H_⟩ n) c:=by rw[dg];exact aih h hv b
variable{y2:M_}
def aV{c:M_->Prop}(h:St w0 w L)[a:At L (au g) cs f](hv:cs[o+n]?=G_ y2)(b:c y2):tH w (aY ⟨g,o,H_⟩ n) c:=by rw[dg];exact I2 h hv b
def aA{c:Array M_->Prop}(h:St w0 w L)[a:At L (au g) cs f](b:o+n+m<=cs.length)(d:c ((cs.drop (o+n)).take m).toArray):bx m w (aY ⟨g,o,H_⟩ n) c:=by rw[dg];exact qM h b d
variable{c:ap}{v:M_}
def aC(h:St w0 w L)[a:At L (au g) cs f](b:v.oneCell'=J_)(d:o+n<cs.length)(e:∀w',St w0 w' (f (au g (cs.set (o+n) v)))->c w'):bN w (aY ⟨g,o,H_⟩ n) v c:=by rw[dg];exact j4 h b d e
variable{vs:Array M_}
def aW(h:St w0 w L)[a:At L (au g) cs f](b:vs.size=m)(d:o+n+m<=cs.length)(e:∀v∈vs,v.oneCell'=J_)
  (i:∀w',St w0 w' (f (au g (cs.take (o+n)++(vs.toList++cs.drop (o+n+m)))))->c w'):dQ m w (aY ⟨g,o,H_⟩ n) vs c:=by rw[dg];exact Yz h b d e i
variable{c:Array M_->Prop}
def bA(h:St w0 w L)[a:At L (au g) cs f](b:X' (o+n+m) cs.length=J_)(d:c ((cs.drop (o+n)).take m).toArray):bx m w (aY ⟨g,o,H_⟩ n) c:=aA h (DS b) d
def bA0(h:St w0 w L)[a:At L (au g) cs f](b:X' (o+m) cs.length=J_)(d:c ((cs.drop o).take m).toArray):bx m w ⟨g,o,H_⟩ c:=qM h (DS b) d
variable{c:ap}
def bC(h:St w0 w L)[a:At L (au g) cs f](b:v.oneCell'=J_)(d:X' (o+n+1) cs.length=J_)(e:∀w',St w0 w' (f (au g (cs.set (o+n) v)))->c w'):bN w (aY ⟨g,o,H_⟩ n) v c:=aC h b (DS d) e
def bC0(h:St w0 w L)[a:At L (au g) cs f](b:v.oneCell'=J_)(d:X' (o+1) cs.length=J_)(e:∀w',St w0 w' (f (au g (cs.set o v)))->c w'):bN w ⟨g,o,H_⟩ v c:=j4 h b (DS d) e
def bW(h:St w0 w L)[a:At L (au g) cs f](b:vs.size=m)(d:X' (o+n+m) cs.length=J_)(e:vs.toList.all Value.oneCell'=J_)
  (i:∀w',St w0 w' (f (au g (cs.take (o+n)++(vs.toList++cs.drop (o+n+m)))))->c w'):dQ m w (aY ⟨g,o,H_⟩ n) vs c:=aW h b (DS d) (λv hv=>tL.1 e v (gq hv)) i
def bW0(h:St w0 w L)[a:At L (au g) cs f](b:vs.size=m)(d:cs.length=m)(e:vs.toList.all Value.oneCell'=J_)
  (i:∀w',St w0 w' (f (au g vs.toList))->c w'):dQ m w ⟨g,0,H_⟩ vs c:=m7 h d b (λv hv=>tL.1 e v (gq hv)) i
variable{c:Prop}{cs':List M_}{f':HP->List HP}{w0':N_}
def sq(h:St w0 w L)(h':St w0' w' L')[a:At L (au g) cs f][a':At L' (au g) cs' f'](e:(cs.drop o).take m=(cs'.drop o).take m)(b:c):ai m ⟨g,o,H_⟩ w w' c:=by
 refine⟨λk d=>?_,b⟩;have i:=h.au (g:=g) (cs:=cs);have h2:=h'.au (g:=g) (cs:=cs');rw[dg,i.cell,h2.cell,v_,v_];have:=congrArg (λl=>l[k]?) e;simp only[List.getElem?_take_of_lt d,List.getElem?_drop]at this;exact this.symm
def asq(h:St w0 w L)(h':St w0' w' L')[a:At L (au g) cs f][a':At L' (au g) cs' f'](e:(cs.drop (o+n)).take m=(cs'.drop (o+n)).take m)(b:c):ai m (aY ⟨g,o,H_⟩ n) w w' c:=by rw[dg];exact sq h h' e b
def vW(b:c):ai m zp w w c:=⟨λ_ _=>rfl,b⟩
variable{y:Prop}
def y8(a:c)(b:y):both c y:=⟨a,b⟩
def aa6(a:v.oneCell'=J_)(b:c):rZ v c:=⟨a,b⟩
variable{c:Bool->Prop}
def ags(h:c y0):Ir (Iq y0) c:=h
def am0(h:c J_):abm C_ c:=h
def Ng{f:Fn}(h:c K_):abm (.func f zd vs) c:=h
variable{c:Option P_->Prop}{x:Option P_}
def Tn(h:St w0 w L)[a:At L (au g) cs f](b:c x)(hv:cs[o+n]?=G_ (IB x):=by with_unfolding_all exact rfl):aQ w (aY ⟨g,o,H_⟩ n) c:=aP h hv b
def WX(h:St w0 w L)[a:At L (au g) cs f](b:c x)(hv:cs[o]?=G_ (IB x):=by with_unfolding_all exact rfl):aQ w ⟨g,o,H_⟩ c:=CC h hv b
variable{c:Int->Prop}{k:IntKind}{x:Int}
def Iy(h:St w0 w L)[a:At L (au g) cs f](b:c x)(hv:cs[o+n]?=G_ (.int k x):=by with_unfolding_all exact rfl):aJ k w (aY ⟨g,o,H_⟩ n) c:=aI h hv b
def v_I(h:St w0 w L)[a:At L (au g) cs f](b:c x)(hv:cs[o]?=G_ (.int k x):=by with_unfolding_all exact rfl):aJ k w ⟨g,o,H_⟩ c:=cr h hv b
variable{c:Bool->Prop}{x:Bool}
def u_B(h:St w0 w L)[a:At L (au g) cs f](b:c x)(hv:cs[o+n]?=G_ (Iq x):=by with_unfolding_all exact rfl):He w (aY ⟨g,o,H_⟩ n) c:=aB h hv b
def v_B(h:St w0 w L)[a:At L (au g) cs f](b:c x)(hv:cs[o]?=G_ (Iq x):=by with_unfolding_all exact rfl):He w ⟨g,o,H_⟩ c:=akI h hv b
variable{c:Sl->Prop}{k:Nat}
def u_S(h:St w0 w L)[a:At L (au g) cs f](b:c ⟨p,m,k⟩)(hv:cs[o+n]?=G_ (IC p m k):=by with_unfolding_all exact rfl):cy w (aY ⟨g,o,H_⟩ n) c:=aS h hv b
def v_S(h:St w0 w L)[a:At L (au g) cs f](b:c ⟨p,m,k⟩)(hv:cs[o]?=G_ (IC p m k):=by with_unfolding_all exact rfl):cy w ⟨g,o,H_⟩ c:=ea h hv b
variable{c:M_->Prop}{x:M_}
def u_V(h:St w0 w L)[a:At L (au g) cs f](b:c x)(hv:cs[o+n]?=G_ x:=by with_unfolding_all exact rfl):tH w (aY ⟨g,o,H_⟩ n) c:=aV h hv b
def v_V(h:St w0 w L)[a:At L (au g) cs f](b:c x)(hv:cs[o]?=G_ x:=by with_unfolding_all exact rfl):tH w ⟨g,o,H_⟩ c:=I2 h hv b
variable{c:ByteArray->Prop}{x:ByteArray}
def u_T(h:St w0 w L)[a:At L (au g) cs f](b:c x)(hv:cs[o+n]?=G_ (.string x):=by with_unfolding_all exact rfl):Qp w (aY ⟨g,o,H_⟩ n) c:=aT h hv b
def v_T(h:St w0 w L)[a:At L (au g) cs f](b:c x)(hv:cs[o]?=G_ (.string x):=by with_unfolding_all exact rfl):Qp w ⟨g,o,H_⟩ c:=aih h hv b
variable{c:Array M_->Prop}
def QT(h:St w0 w L)[a:At L (au g) cs f](b:c ((cs.drop (o+n)).take m).toArray)(d:X' (o+n+m) cs.length=true:=by with_unfolding_all exact rfl):bx m w (aY ⟨g,o,H_⟩ n) c:=bA h d b
def Vh(h:St w0 w L)[a:At L (au g) cs f](b:c ((cs.drop o).take m).toArray)(d:X' (o+m) cs.length=true:=by with_unfolding_all exact rfl):bx m w ⟨g,o,H_⟩ c:=bA0 h d b
variable{c:ap}
def Hq(h:St w0 w L)[a:At L (au g) cs f](b:∀w',St w0 w' (f (au g (cs.set (o+n) v)))->c w')(d:v.oneCell'=true:=by first|assumption|with_unfolding_all exact rfl)(e:X' (o+n+1) cs.length=true:=by with_unfolding_all exact rfl):bN w (aY ⟨g,o,H_⟩ n) v c:=bC h d e b
def v_C(h:St w0 w L)[a:At L (au g) cs f](b:∀w',St w0 w' (f (au g (cs.set o v)))->c w')(d:v.oneCell'=true:=by first|assumption|with_unfolding_all exact rfl)(e:X' (o+1) cs.length=true:=by with_unfolding_all exact rfl):bN w ⟨g,o,H_⟩ v c:=bC0 h d e b
def u_W(h:St w0 w L)[a:At L (au g) cs f](b:∀w',St w0 w' (f (au g (cs.take (o+n)++(vs.toList++cs.drop (o+n+m)))))->c w')(d:vs.size=m:=by with_unfolding_all exact rfl)(e:X' (o+n+m) cs.length=true:=by with_unfolding_all exact rfl)(i:vs.toList.all Value.oneCell'=true:=by with_unfolding_all exact rfl):dQ m w (aY ⟨g,o,H_⟩ n) vs c:=bW h d e i b
def QU(h:St w0 w L)[a:At L (au g) cs f](b:∀w',St w0 w' (f (au g vs.toList))->c w')(d:vs.size=m:=by with_unfolding_all exact rfl)(e:cs.length=m:=by with_unfolding_all exact rfl)(i:vs.toList.all Value.oneCell'=true:=by with_unfolding_all exact rfl):dQ m w ⟨g,0,H_⟩ vs c:=bW0 h d e i b
variable{c:Prop}
def nP(h':St w0' w' L')(b:c)(h:St w0 w L:=by assumption)[a:At L (au g) cs f][a':At L' (au g) cs' f'](e:(cs.drop (o+n)).take m=(cs'.drop (o+n)).take m:=by with_unfolding_all exact rfl):ai m (aY ⟨g,o,H_⟩ n) w w' c:=asq h h' e b
def sR(h':St w0' w' L')(b:c)(h:St w0 w L:=by assumption)[a:At L (au g) cs f][a':At L' (au g) cs' f'](e:(cs.drop o).take m=(cs'.drop o).take m:=by with_unfolding_all exact rfl):ai m ⟨g,o,H_⟩ w w' c:=sq h h' e b
variable{b:Bool}{x:Prop}
def I8(h:y)(hb:b=false:=by with_unfolding_all exact rfl):an b x y:=aU hb h
def i_T(h:x)(hb:b=true:=by with_unfolding_all exact rfl):an b x y:=bK hb h
def u_1(a:c)(b:v.oneCell'=true:=by first|assumption|with_unfolding_all exact rfl):rZ v c:=aa6 b a
variable{P:Prop}
def n8(q:c)(t:c->P:=by intro zq;(with_reducible repeat' (first|refine bc ?_|refine cH h λw h=>?_|refine Tn h ?_|refine Iy h ?_|refine u_B h ?_|refine u_S h ?_|refine u_V h ?_|refine u_T h ?_|refine WX h ?_|refine v_I h ?_|refine v_B h ?_|refine v_S h ?_|refine v_V h ?_|refine v_T h ?_|refine QT h ?_|refine Vh h ?_|refine Z7 h ?_|refine Hq h λw h=>?_|refine v_C h λw h=>?_|refine u_W h λw h=>?_|refine QU h λw h=>?_|refine aM h λgx w h=>?_|refine vW ?_|refine nP h ?_|refine sR h ?_|refine I8 ?_|refine i_T ?_|refine u_1 ?_|fail));exact zq):P:=t q
variable{y3:ap}
def pS(q:∀w,St w0 w L->y3 w)(t:(∀w,St w0 w L->y3 w)->P:=by intro zq;(with_reducible repeat' (first|refine bc ?_|refine cH h λw h=>?_|refine Tn h ?_|refine Iy h ?_|refine u_B h ?_|refine u_S h ?_|refine u_V h ?_|refine u_T h ?_|refine WX h ?_|refine v_I h ?_|refine v_B h ?_|refine v_S h ?_|refine v_V h ?_|refine v_T h ?_|refine QT h ?_|refine Vh h ?_|refine Z7 h ?_|refine Hq h λw h=>?_|refine v_C h λw h=>?_|refine u_W h λw h=>?_|refine QU h λw h=>?_|refine aM h λgx w h=>?_|refine vW ?_|refine nP h ?_|refine sR h ?_|refine I8 ?_|refine i_T ?_|refine u_1 ?_|fail));exact zq w h):P:=t q
def zE{Q:Nat->ap}{L:Nat->List HP}(q:∀g w,St w0 w (L g)->Q g w)(t:(∀g w,St w0 w (L g)->Q g w)->P:=by intro zq;(with_reducible repeat' (first|refine bc ?_|refine cH h λw h=>?_|refine Tn h ?_|refine Iy h ?_|refine u_B h ?_|refine u_S h ?_|refine u_V h ?_|refine u_T h ?_|refine WX h ?_|refine v_I h ?_|refine v_B h ?_|refine v_S h ?_|refine v_V h ?_|refine v_T h ?_|refine QT h ?_|refine Vh h ?_|refine Z7 h ?_|refine Hq h λw h=>?_|refine v_C h λw h=>?_|refine u_W h λw h=>?_|refine QU h λw h=>?_|refine aM h λgx w h=>?_|refine vW ?_|refine nP h ?_|refine sR h ?_|refine I8 ?_|refine i_T ?_|refine u_1 ?_|fail));exact zq gx w h):P:=t q
def acg{A:Type}{sz:Nat}:∀{es:List (List A)},(∀e∈es,e.length=sz)->es.flatten.length=es.length*sz
 |[],_=>by simp
 |e::es,h=>by
  have:=acg (es:=es) λx a=>h x (by simp[a])
  have b:=h e bf;simp only[Ut,uv,x_,Nat.add_mul,Nat.one_mul];omega
def ach{A:Type}{sz:Nat}:∀{es:List (List A)},(∀e∈es,e.length=sz)->∀{i j:Nat} {e:List A},es[i]?=G_ e->j<sz->es.flatten[i*sz+j]?=e[j]?
 |[],_,i,j,e,he,_=>by simp at he
 |x::es,h,0,j,e,he,hj=>by
  have a:=h x bf;simp at he;subst he;rw[Ut,Gm,FM,tJ af]
 |x::es,h,i+1,j,e,he,hj=>by
  have a:=h x bf;rw[Ut,bM,u0 af,a];rw[show i*sz+sz+j - sz=i*sz+j by omega,ach (λy b=>h y (by simp[b])) (gq he) hj]
def aci{A:Type}{sz:Nat}:∀{es:List (List A)},(∀e∈es,e.length=sz)->∀{i j:Nat} {e:List A} {v:A},es[i]?=G_ e->j<sz->es.flatten.set (i*sz+j) v=(es.set i (e.set j v)).flatten
 |[],_,i,j,e,v,he,_=>by simp at he
 |x::es,h,0,j,e,v,he,hj=>by
  have a:=h x bf;simp at he;subst he;rw[Ut,Gm,FM,List.set_append_left (h:=by omega)];rfl
 |x::es,h,i+1,j,e,v,he,hj=>by
  have a:=h x bf;rw[Ut,bM,V' (h:=by omega),a]
  rw[show i*sz+sz+j - sz=i*sz+j by omega,aci (λy b=>h y (by simp[b])) (gq he) hj];rfl
def acj{A:Type}{sz:Nat}:∀{es:List (List A)} (n:Nat),(∀e∈es,e.length=sz)->es.flatten.take (n*sz)=(es.take n).flatten
 |[],n,_=>by simp
 |e::es,0,_=>by simp
 |e::es,n+1,h=>by
  have a:=h e bf;rw[Ut,List.take_append,CY (by rw[a,bM];omega),a,bM,Nat.add_sub_cancel,List.take_succ_cons,Ut,acj n λx b=>h x (by simp[b])]
def rws(sz:Nat)(s:Sl)(es:List (List M_)):HP:=Kf (∀e∈es,e.length=sz) (bG sz s es.flatten)
variable{es:List (List M_)}{s:Sl}{sz:Nat}
def LN(a:At L (rws sz s) es f)(h:St w0 w L):∃R,(∀e∈es,e.length=sz)/\St w0 w (bG sz s es.flatten::R)/\∀{es' w0' w'},(∀e∈es',e.length=sz)->St w0' w' (bG sz s es'.flatten::R)->St w0' w' (f (rws sz s es')):=by
 obtain⟨R,c,h2⟩:=a.out;obtain⟨d,g⟩:=(c h).pure;exact⟨R,d,g,λb i=>h2 (St.YA b i)⟩
def aeY(a:At L (rws sz s) es f)(h:St w0 w L):∃R,(∀e∈es,e.length=sz)/\St w0 w (bG sz s es.flatten::R)/\∀{s' es' w0' w'},(∀e∈es',e.length=sz)->St w0' w' (bG sz s' es'.flatten::R)->St w0' w' (f (rws sz s' es')):=by
 obtain⟨R,c,h2⟩:=a.out;obtain⟨d,g⟩:=(c h).pure;exact⟨R,d,g,λb i=>h2 (St.YA b i)⟩
def pg(h:St w0 w L)[a:At L (rws sz s) es f]:(∀e∈es,e.length=sz)/\(0<sz->es.length=s.n):=by
 obtain⟨R,b,h1,_⟩:=LN a h;have:=h1.Gs (sz:=sz) (s:=s) (vs:=es.flatten);rw[acg b]at this;exact⟨b,λc=>Nat.eq_of_mul_eq_mul_right c this⟩
variable{c:P_->Prop}{i:Int}{vs:List M_}
def ixG(h:St w0 w L)[a:At L (bG sz s) vs f](G:0<sz)(H:0<=i)(I:i<s.n)
  (J:∀g o,(∀{w':N_} {L':List HP} {vs':List M_} {f':HP->List HP},St w0 w' L'->At L' (bG sz s) vs' f'->∀j v,j<sz->vs'[i.toNat*sz+j]?=G_ v->w'.cell? ⟨g,o+j,H_⟩=G_ v)->
   (∀{w':N_} {L':List HP} {vs':List M_} {f':HP->List HP} (h':St w0 w' L') (a':At L' (bG sz s) vs' f') (j:Nat) (v:M_) (c':ap),j<sz->v.oneCell'=J_->
    (∀d,St w0 d (f' (bG sz s (vs'.set (i.toNat*sz+j) v)))->c' d)->bN w' ⟨g,o+j,H_⟩ v c')->c ⟨g,o,H_⟩):cN s i sz c:=by
 have A:qo sz w s vs:=h.own;have hi:i.toNat<s.n:=af;rcases A.row with⟨h2,K⟩|⟨g,off,cs,h2,K,T,U⟩
 .have:=A.cap;omega
 .unfold cN;rw[h2];refine⟨⟨H,I⟩,?_⟩;rw[dg];refine J g _ ?_ ?_
  .intro w' L' vs' f' h' a' j v M hv;obtain⟨p,B,C⟩:=(h'.own (sz:=sz) (s:=s) (vs:=vs')).sls.cell _ v hv;rw[h2]at B;cases B;rw[dg]at C;rw[Nat.add_assoc];exact C
  .intro w' L' vs' f' h' a' j v c' M m N;have e:qo sz w' s vs':=h'.own;have O:i.toNat*sz+sz<=s.n*sz:=by
    rw[<-bM];exact F3 _ hi
   rcases e.row with⟨b,_⟩|⟨V,off',cs',b,r,t,y⟩
   .rw[h2]at b;cases b
   .rw[h2]at b;cases b;have P:=e.cap;have Q:s.n*sz<=s.c*sz:=F3 _ P;refine abR m r af λd hb hs R=>N d (h'.M8 a' λS D=>⟨R.mono λk _ l=>(D.1 k).2 (by simp[Sl.au,h2,l]),S,⟨D.1,?_⟩,λk l=>D_ l⟩)
    refine⟨by rw[VJ];exact e.len,e.cap,e.max,λx z=>?_,E_ ⟨g,off,_,h2,hb,gq t,λk u l=>?_⟩⟩
    .rcases VL z with z|rfl
     .exact e.one x z
     .exact m
    .by_cases q:i.toNat*sz+j=k
     .subst q;have F:i.toNat*sz+j<vs'.length:=by rw[e.len];omega
      rw[uO F]at l;cases l
      rw[show off+i.toNat*sz+j=off+(i.toNat*sz+j) by omega,Array.getElem?_setIfInBounds_self,HK (by rw[e.len]at F;omega)]
     .rw[r0 q]at l;rw[Array.getElem?_setIfInBounds_ne af];exact y k u l
def rix(h:St w0 w L)[a:At L (rws sz s) es f](u:0<=i)(y:es[i.toNat]?=G_ e)(m:0<sz)
  (z:∀g o,(∀{w' L' es' f' e'},St w0 w' L'->[a':At L' (rws sz s) es' f']->es'[i.toNat]?=G_ e'->∀j v,e'[j]?=G_ v->w'.cell? ⟨g,o+j,H_⟩=G_ v)->
   (∀{w':N_} {L':List HP} {es':List (List M_)} {f':HP->List HP} {e':List M_} (h':St w0 w' L') (a':At L' (rws sz s) es' f') (b:es'[i.toNat]?=G_ e') (j:Nat) (v:M_) (c':ap),j<sz->v.oneCell'=J_->
    (∀k,St w0 k (f' (rws sz s (es'.set i.toNat (e'.set j v))))->c' k)->bN w' ⟨g,o+j,H_⟩ v c')->c ⟨g,o,H_⟩):cN s i sz c:=by
 obtain⟨R,F,A,_⟩:=LN a h;have G:=(pg (sz:=sz) (s:=s) (es:=es) h).2 m;have B:=(kB.1 y).1;refine ixG (sz:=sz) (s:=s) (vs:=es.flatten) A m u af λg o C hs=>z g o ?_ ?_
 .intro w' L' es' f' e' h' a' b j v hv;obtain⟨R',d,l,_⟩:=LN a' h';have n:j<sz:=by rw[<-d _ (qn b)];exact(kB.1 hv).1
  exact C l .here j v n (by rw[ach d b n];exact hv)
 .intro w' L' es' f' e' h' a' b j v c' n p D;obtain⟨R',d,l,q⟩:=LN a' h';refine hs l .here j v c' n p λk r=>D k (q (λx t=>?_) ?_)
  .rcases VL t with t|rfl
   .exact d x t
   .rw[VJ];exact d _ (qn b)
  .rw[<-aci d b n];exact r
variable{j:Nat}
def aw6(h:St w0 w L)[a:At L (rws sz s) es f](b:es[g]?=G_ e)(hv:e[j]?=G_ v):j<sz/\0<sz:=by
 have:=(pg (sz:=sz) (s:=s) (es:=es) h).1 e (qn b);have:=(kB.1 hv).1;omega
def rD{C:M_->Prop}(h:St w0 w L)[a:At L (rws sz s) es f](d:0<=i)(b:es[i.toNat]?=G_ e)(hv:e[j]?=G_ v)
  (k:∀p,w.cell? (aY p j)=G_ v->c p):cN s i sz c:=by
 have l:=aw6 (sz:=sz) (s:=s) h b hv;refine rix h d b l.2 λg o m _=>k _ ?_;rw[dg];exact m h b j v hv
variable{k:IntKind}{x:Int}
def rI{c:Int->Prop}(h:St w0 w L)[a:At L (rws sz s) es f](b:0<=i)(d:es[i.toNat]?=G_ e)(hv:e[j]?=G_ (.int k x))(g:c x):cN s i sz λa=>aJ k w (aY a j) c:=
 rD (C:=λ_=>True) h b d hv λp l=>uZ l g
def rI2{c:P_->Int->Prop}(h:St w0 w L)[a:At L (rws sz s) es f](b:0<=i)(d:es[i.toNat]?=G_ e)(hv:e[j]?=G_ (.int k x))(g:∀p,c p x):cN s i sz λa=>aJ k w (aY a j) (c a):=
 rD (C:=λ_=>True) h b d hv λp l=>uZ l (g p)
def rB{c:Bool->Prop}(h:St w0 w L)[a:At L (rws sz s) es f](b:0<=i)(d:es[i.toNat]?=G_ e)(hv:e[j]?=G_ (Iq y0))(g:c y0):cN s i sz λa=>He w (aY a j) c:=
 rD (C:=λ_=>True) h b d hv λp k=>akB k g
def rS{c:Sl->Prop}(h:St w0 w L)[a:At L (rws sz s) es f](b:0<=i)(d:es[i.toNat]?=G_ e)(hv:e[j]?=G_ (IC p m o))(g:c ⟨p,m,o⟩):cN s i sz λa=>cy w (aY a j) c:=
 rD (C:=λ_=>True) h b d hv λq l=>IY (s:=⟨p,m,o⟩) l g
def rSt{c:ap}(h:St w0 w L)[a:At L (rws sz s) es f](d:0<=i)(b:es[i.toNat]?=G_ e)(k:j<sz)(l:v.oneCell'=J_)
  (m:∀w',St w0 w' (f (rws sz s (es.set i.toNat (e.set j v))))->c w'):cN s i sz λa=>bN w (aY a j) v c:=
 rix h d b af λg o _ hs=>by rw[dg];exact hs h a b j v c k l m
def rW{c:ap}(h:St w0 w L)[a:At L (rws sz s) es f](y:0<=i)(b:es[i.toNat]?=G_ e)(p:0<sz)(m:zd.size=sz)(n:∀v∈zd,v.oneCell'=J_)
  (d:∀w',St w0 w' (f (rws sz s (es.set i.toNat zd.toList)))->c w'):cN s i sz λa=>dQ sz w a zd c:=by
 refine rix h y b p λg o _ hs=>⟨m,?_⟩;have key:∀(l:List M_) (w:N_) (L:List HP) (es:List (List M_)) (f:HP->List HP) (h:St w0 w L) (a:At L (rws sz s) es f) (k:Nat) (e:List M_) (b:es[i.toNat]?=G_ e),k+l.length=sz->(∀v∈l,v.oneCell'=J_)->
   (∀w',St w0 w' (f (rws sz s (es.set i.toNat (e.take k++l))))->c w')->JU w ⟨g,o,H_⟩ k l c:=by
  intro l;induction l with
  |nil=>
   intro w L es f h a k e b q _ d;refine d w ?_;have r:=(pg (sz:=sz) (s:=s) (es:=es) h).1 e (qn b);simp only[VI]at q;rw[n_,CY af];have:es.set i.toNat e=es:=by
    apply List.ext_getElem?;intro j;by_cases t:i.toNat=j
    .subst t;rw[uO (kB.1 b).1,b]
    .rw[r0 t]
   rw[this];exact h.same a
  |cons v l ih=>
   intro w L es f h a k e b q n d;simp only[x_]at q;unfold JU;rw[dg];obtain⟨R,z,hb⟩:=a.out;refine hs (z h) .here b k v _ af (n v bf) λA h2=>?_;have B:(es.set i.toNat (e.set k v))[i.toNat]?=G_ (e.set k v):=uO (kB.1 b).1;refine ih A _ _ _ h2 .here (k+1) _ B af (λzd m=>n zd (by simp[m])) λC u=>d C (hb ?_)
   have r:=(pg (sz:=sz) (s:=s) (es:=es) h).1 e (qn b);have D:(e.set k v).take (k+1)++l=e.take k++v::l:=by
    rw[List.take_add_one,uO af,Wz af];simp
   rw[List.set_set,D]at u;exact u
 exact key zd.toList w L es f h a 0 e b (gq m) (λv hv=>n v (gq hv)) (gq d)
def rA{c:Array M_->Prop}(h:St w0 w L)[a:At L (rws sz s) es f](k:0<=i)(b:es[i.toNat]?=G_ e)(d:0<sz)(l:c e.toArray):cN s i sz λa=>bx sz w a c:=by
 refine rix h k b d λg o m _=>Ho ((pg (sz:=sz) (s:=s) (es:=es) h).1 e (qn b)) (λj v hv=>?_) l;rw[dg];exact m h b j v hv
variable{P:Program}{b:Nat}{fr:HP->List HP}{t tx ty:Q_}{z:M_}
def Z8{c:Sl->ap}(h:St w0 w L)[a:At L (rws sz s) es f][a2:At L (au g) e fr](k:ET P t sz b z)(l:aeS P tx=J_)
  (m:e.length=sz) (d:0<sz) (o:∀v∈e,v.oneCell'=J_) (y:es.length<=1000000) (hb:b<=1000000)
  (p:∀s' w',St w0 w' (f (rws sz s' (es++[e])))->s'.n=es.length+1->c s' w'):og P #[t,tx] ty [S_ s,IC (A_ g) 1 1] w c:=by
 obtain⟨R,q,h2,i⟩:=aeY a h;have r:=(pg (sz:=sz) (s:=s) (es:=es) h).2 d;have A:(s.n+1)*b<=1000001*1000000:=Nat.mul_le_mul af hb;refine M9 (sz:=sz) (s:=s) (vs:=es.flatten) (x:=⟨A_ g,1,1⟩) (ys:=e) h2 k l (Hj.amW h af) o (by simp only;omega) (by simp only;omega) λs' w' u j=>p s' w' (i (λx hx=>?_) ?_) (by simp only at j;omega)
 .rcases zw.1 hx with hx|hx
  .exact q x hx
  .simp at hx;subst hx;exact m
 .rw[List.flatten_append];simpa using u
def aDr{c:Sl->Prop}(h:St w0 w L)[a:At L (rws sz s) es f](b:0<sz)(j:0<=x)(h2:x<=es.length)
  (k:∀d:Sl,d.n=x.toNat->St w0 w (f (rws sz d (es.take x.toNat)))->c d):Th s sz 0 x c:=by
 obtain⟨R,g,l,hb⟩:=aeY a h;have m:=(pg (sz:=sz) (s:=s) (es:=es) h).2 b;refine akJ (sz:=sz) (s:=s) (vs:=es.flatten) l (Int.le_refl _) j af λd o i=>k d (gq o) (hb (λe p=>g e (List.mem_of_mem_take p)) ?_)
 simp only[Int.toNat_zero,Gm,List.drop_zero,Nat.sub_zero]at i;rwa[acj _ g]at i
def vD(h:St w0 w L)[a:At L (bG 1 s) vs f](b:0<=i)(hv:vs[i.toNat]?=G_ v)(d:∀p,w.cell? p=G_ v->c p):cN s i 1 c:=by
 have k:=h.Gs (sz:=1) (s:=s) (vs:=vs);have e:=(kB.1 hv).1;refine KX h af b af λg o _ j _=>d _ ?_;have:=j h 0 v af (gq hv)
 simpa using this
def vI{c:Int->Prop}(h:St w0 w L)[a:At L (bG 1 s) vs f](b:0<=i)(hv:vs[i.toNat]?=G_ (.int k x))(d:c x):cN s i 1 λa=>aJ k w a c:=vD h b hv λp e=>uZ e d
def vP{c:Option P_->Prop}(h:St w0 w L)[a:At L (bG 1 s) vs f](b:0<=i)(hv:vs[i.toNat]?=G_ (IB y1))(d:c y1):cN s i 1 λa=>aQ w a c:=vD h b hv λp e=>ark e d
def vV{x:M_}{c:M_->Prop}(h:St w0 w L)[a:At L (bG 1 s) vs f](b:0<=i)(hv:vs[i.toNat]?=G_ x)(d:c x):cN s i 1 λa=>tH w a c:=vD h b hv λp e=>akE e d
def I9{c:Sl->ap}(h:St w0 w L)[a:At L (bG 1 s) vs f][a2:At L (au g) [v] fr](e:ET P t 1 b z)(i:aeS P tx=J_)
  (j:v.oneCell'=J_) (m:vs.length<=1000000) (hb:b<=1000000)
  (k:∀s' w',St w0 w' (f (bG 1 s' (vs++[v])))->s'.n=vs.length+1->c s' w'):og P #[t,tx] ty [S_ s,IC (A_ g) 1 1] w c:=by
 have o:=h.Gs (sz:=1) (s:=s) (vs:=vs);have p:(s.n+1)*b<=1000001*1000000:=Nat.mul_le_mul af hb;exact M9 (sz:=1) (s:=s) (vs:=vs) (x:=⟨A_ g,1,1⟩) (ys:=[v]) h e i (Hj.amW h bf) (gq j) (by simp only;omega) (by simp only;omega) λs' w' l d=>k s' w' l (by simp only at d;omega)
def am1{c:Sl->Prop}(h:St w0 w L)[a:At L (bG 1 s) vs f](b:0<=x)(h2:x<=vs.length)
  (e:∀d:Sl,d.n=x.toNat->St w0 w (f (bG 1 d (vs.take x.toNat)))->c d):Th s 1 0 x c:=by
 have j:=h.Gs (sz:=1) (s:=s) (vs:=vs);refine akJ (sz:=1) (s:=s) (vs:=vs) h (Int.le_refl _) b af λd g i=>e d (gq g) ?_
 simpa using i
def qY(h:St w0 w L)[a:At L (bG 1 s) vs f]:s.n=vs.length:=by
 have:=h.Gs (sz:=1) (s:=s) (vs:=vs);omega
def jO{α:Type}(X:α->HP)(l:List α):HP:=l9 (l.map X)
variable{A R:List HP}{Y:HP}
def St.aAZ(h:St w0 w (Y::(A++R))):St w0 w (Y::l9 A::R):=by
 obtain⟨a,F,⟨b,c,h2,d,f,e⟩,g⟩:=h;exact⟨a,F,⟨b,c,h2,zA.2 d,f,e⟩,g⟩
def St.arD(h:St w0 w (Y::l9 A::R)):St w0 w (Y::(A++R)):=by
 obtain⟨a,F,⟨b,c,h2,d,f,e⟩,g⟩:=h;exact⟨a,F,⟨b,c,h2,zA.1 d,f,e⟩,g⟩
variable{α:Type}{X:α->HP}{i:Nat}{l:List α}
def BW{a:α}(h:St w0 w (jO X l::R))(e:l[i]?=G_ a):St w0 w (X a::jO X (l.eraseIdx i)::R):=by
 have b:=(kB.1 e).1;have h2:=(St.open h).front i (X:=X a) (by rw[tJ (gq b),l8,e];rfl)
 rw[List.eraseIdx_append_of_lt_length (gq b)]at h2
 refine St.aAZ ?_;have e2:(l.map X).eraseIdx i=(l.eraseIdx i).map X:=by rw[T',T'];simp
 rwa[e2]at h2
def WY{b:α}(h:St w0 w (X b::jO X (l.eraseIdx i)::R))(hi:i<l.length):St w0 w (jO X (l.set i b)::R):=by
 have h2:=St.arD h;refine St.shut (h2.perm ?_);have a:l.eraseIdx i=l.take i++l.drop (i+1):=T' ..;have e2:l.set i b=l.take i++b::l.drop (i+1):=List.set_eq_take_append_cons_drop .. |>.trans (by rw[HK hi])
 rw[a,e2];simp only[VK,z_,List.append_assoc,S'];exact List.perm_middle.symm
def QV{b:α}(h:St w0 w (X b::jO X l::R)):St w0 w (jO X (l++[b])::R):=by
 refine St.shut ((St.arD h).perm ?_);simp only[VK,z_,List.map_nil,List.append_assoc,S',VM];exact List.perm_middle.symm
def QW(h:St w0 w R):St w0 w (jO X []::R):=St.shut (A:=[]) h
variable{B:List HP}
def St.under(a:∀{F w},u4 A F w->u4 B F w)(h:St w0 w (Y::A)):St w0 w (Y::B):=by
 obtain⟨b,F,⟨c,d,h2,f,g,e⟩,i⟩:=h;exact⟨b,F,⟨c,d,h2,a f,g,e⟩,i⟩
def St.arE(a:∀{F w},u4 A F w->u4 B F w)(h:St w0 w A):St w0 w B:=by
 obtain⟨b,F,h2,c⟩:=h;exact⟨b,F,a h2,c⟩
def DN{G S:Type}{f:(S->ap)->S->ap}(I:G->S->ap)(μ:G->Nat){g:G}{s:S}(e:I g s w)
  (h:∀g s w,I g s w->∀C:S->ap,(∀a s' w',I a s' w'->μ a<μ g->C s' w')->f C s w):jD f s w:=by
 have key:∀n g s w,μ g<=n->I g s w->jV f (n+1) s w:=by
  intro n;induction n with
  |zero=>intro g s w i b;exact h g s w b _ λa s' w' _ c=>by omega
  |succ n ih=>intro g s w i b;exact h g s w b _ λa s' w' d c=>ih a s' w' af d
 exact⟨_,key _ g s w (iw _) e⟩
end Go.Ev
namespace Go.Proofs.YthidhjhkmjjckaaGreatDoor
open Go Go.Ev Go.Proofs
structure bJ where
 cells:List Int
 size:Int
 steps:List Int
 deriving DecidableEq
def bH(g:Nat)(M:bJ):HP:=Gt λp:Sl×Sl=>l9 [au g [S_ p.1,I_ M.size,S_ p.2],bG 1 p.1 (ints M.cells),bG 1 p.2 (ints M.steps)]
variable{M:bJ}{R:List HP}{g:Nat}{w w0:N_}
def uM(h:St w0 w (bH g M::R)):∃s1 s2:Sl,St w0 w (au g [S_ s1,I_ M.size,S_ s2]::bG 1 s1 (ints M.cells)::bG 1 s2 (ints M.steps)::R):=by
 obtain⟨p,h⟩:=h.some;exact⟨p.1,p.2,h.open⟩
variable{yi:Sl}
def C0{s1:Sl}(h:St w0 w (au g [S_ s1,I_ M.size,S_ yi]::bG 1 s1 (ints M.cells)::bG 1 yi (ints M.steps)::R)):St w0 w (bH g M::R):=
 St.ex (s1,yi) (St.shut h)
namespace bJ
def caller(M:bJ)(w:Int):Bool:=L_ (0<=w/\w<M.steps.length)
def given(M:bJ)(at_:Int):Bool:=L_ (0<=at_/\at_<M.cells.length)
def tick(M:bJ)(w:Int):bJ:={M with steps:=M.steps.set w.toNat (IntKind.i64.wrap (M.steps.getD w.toNat 0+1))}
def get(M:bJ)(at_:Int):Int:=M.cells.getD at_.toNat 0
def put(M:bJ)(at_ x:Int):bJ:={M with cells:=M.cells.set at_.toNat x}
def can(M:bJ)(w at_:Int):Bool:=M.caller w&&M.given at_
end bJ
variable{L:List HP}{f':HP->List HP}{s:Sl}{xs:List Int}
def agV(h:St w0 w L)[a:At L (bG 1 s) (ints xs) f']:s.n=xs.length:=by
 have:=h.Gs (sz:=1) (s:=s);simp at this;omega
variable{f:HP->List HP}{k:Bool->ap}{wk:Int}
theorem ae4(h:St w0 w L)[a:At L (bH g) M f](c:k (M.caller wk) w):cU (A_ g) wk w k:=by
 obtain⟨R,d,e⟩:=a.out;obtain⟨s1,s2,b⟩:=uM (d h);have l2:=agV (s:=s2) b;unfold cU;unfold bJ.caller at c;refine ax (λh=>bc (ea b rfl ?_)) λh=>?_
 iterate 2 grind
variable{at_:Int}
theorem aiC(h:St w0 w L)[a:At L (bH g) M f](c:k (M.given at_) w):c8 (A_ g) at_ w k:=by
 obtain⟨R,d,e⟩:=a.out;obtain⟨s1,s2,b⟩:=uM (d h);have i:=agV (s:=s1) b;unfold c8;unfold bJ.given at c;refine ax (λh=>bc (ea b rfl ?_)) λh=>?_
 iterate 2 grind
variable{zt:Int}{y2:M_}{y0:Bool}
theorem Se{k:Int->ap}(h:St w0 w L)[a:At L (bH g) M f]
  (i:(y2= .func (F_ jk) #[IB (A_ g)] #[]/\y0=M.given zt)\/(y2= .func (F_ BY) #[] #[]/\y0=L_ (zt>=1)))
  (j:k (if M.caller wk&&y0 then 0 else 10) w):aN (A_ g) wk zt y2 w k:=by
 unfold aN wm;refine bP (λy w'=>w=w'/\y= !(M.caller wk&&y0)) ?_ ?_
 .intro J e;refine ae4 h (ax (λc=>e _ _ ⟨rfl,?_⟩) λc=>?_)
  .grind
  .simp only[OM]at c;rcases i with⟨rfl,rfl⟩|⟨rfl,rfl⟩
   .refine bV (d:=Eb) (λ_ _ _=>rfl) ?_;simp only[Eb,Rc,S',VM,n_,qW,unV,toP,xS,if_true,e9,dL,K.v,Ir];refine aiC h (e _ _ ⟨rfl,?_⟩);simp[c]
   .refine bV (d:=UO) (λ_ _ _=>rfl) ?_;simp only[UO,sG,Rc,S',VM,n_,qW,unV,toP,xS,if_true,e9,dL,K.v,Ir];grind
 .rintro _ _ ⟨rfl,rfl⟩;refine ax (λc=>?_) λc=>?_
  iterate 2 grind
def agW{k:Int×Int->ap}(h:St w0 w L)[a:At L (bH g) M f](e:M.can wk at_=J_->∀w',St w0 w' (f (bH g (M.tick wk)))->k (M.get at_,0) w')(h2:M.can wk at_=K_->k (0,10) w):aj (A_ g) wk at_ w k:=by
 unfold aj yb;refine aU rfl (Se h (D_ ⟨rfl,rfl⟩) ?_);by_cases b:M.can wk at_=J_
 .have d:=b;unfold bJ.can at b;rw[b];refine aU rfl ?_;obtain⟨R,i,j⟩:=a.out;obtain⟨s1,s2,c⟩:=uM (i h);simp only[iY,bJ.caller,bJ.given,decide_eq_true_eq]at b;refine bc (ea c rfl (zB c b.1.1 b.1.2 (zC c b.1.1 b.1.2 λw' c=>bc (ea c rfl (zB c b.2.1 b.2.2 ?_)))));exact e d w' (j (C0 c))
 .have b:M.can wk at_=false:=by simpa using b
  have:=h2 b;unfold bJ.can at b;rw[b];exact bK rfl this
variable{k:Int->ap}{x:Int}
def aiD(h:St w0 w L)[a:At L (bH g) M f](e:M.can wk at_=J_->∀w',St w0 w' (f (bH g ((M.tick wk).put at_ x)))->k 0 w')(h2:M.can wk at_=K_->k 10 w):aK (A_ g) wk at_ x w k:=by
 unfold aK wq;refine aU rfl (Se h (D_ ⟨rfl,rfl⟩) ?_);by_cases b:M.can wk at_=J_
 .have d:=b;unfold bJ.can at b;rw[b];refine aU rfl ?_;obtain⟨R,i,j⟩:=a.out;obtain⟨s1,s2,c⟩:=uM (i h);simp only[iY,bJ.caller,bJ.given,decide_eq_true_eq]at b;refine bc (ea c rfl (zB c b.1.1 b.1.2 (zC c b.1.1 b.1.2 λw' c=>bc (ea c rfl (zC c b.2.1 b.2.2 λw' c=>?_)))));exact e d w' (j (C0 c))
 .have b:M.can wk at_=false:=by simpa using b
  have:=h2 b;unfold bJ.can at b;rw[b];exact bK rfl this
theorem KG(h:St w0 w L)[a:At L (bH g) M f](c:k (if M.given at_ then M.get at_ else 0) w):aO (A_ g) at_ w k:=by
 unfold aO yg;refine bP (λy w'=>w=w'/\y= !M.given at_) (λJ e=>aU rfl (aiC h (e _ _ ⟨rfl,rfl⟩))) ?_;rintro _ _ ⟨rfl,rfl⟩;refine ax (λb=>?_) λb=>?_
 .grind
 .have b:M.given at_=true:=by simpa using b
  rw[HK b]at c;obtain⟨R,i,j⟩:=a.out;obtain⟨s1,s2,d⟩:=uM (i h);simp only[bJ.given,decide_eq_true_eq]at b;exact bc (ea d rfl (zB d b.1 b.2 c))
def axB(h:St w0 w L)[a:At L (bH g) M f](c:k (M.cells.length:Nat) w):jW (A_ g) w k:=by
 unfold jW;obtain⟨R,d,i⟩:=a.out;obtain⟨s1,s2,b⟩:=uM (d h);have e:=agV (s:=s1) b;refine aU rfl (bc (ea b rfl ?_));rw[e];exact c
variable{P:Program}
variable{yk:Q_}
def elI(h:S0 P yk=G_ (1,8,G_ (I_ 0))):ET P yk 1 8 (I_ 0):=⟨h,rfl⟩
def Y3(n:Nat)(x:Int):dU n (Value.int B_ x)=ints (dU n x):=by simp[ints]
def bJ.new(size XQ:Int):bJ:=⟨[],size,dU (XQ.toNat+1) 0⟩
def agX(size XQ:Int):Bool:=L_ (1<=size/\size<=1048576/\1<=XQ/\XQ<=16)
theorem axC{k:Option P_×Int->ap}(h:St w0 w L)(b:agX x wk=J_->∀g w',St w0 w' (bH g (bJ.new x wk)::L)->k (A_ g,0) w')(h2:agX x wk=K_->k (H_,10) w):sW x wk w k:=by
 unfold sW;unfold agX at b h2;refine ax (λhb=>?_) λhb=>?_
 .grind
 .simp only[kf,decide_eq_false_iff_not]at hb;have c:IntKind.i64.wrap (wk+1)=((wk.toNat+1:Nat):Int):=by rw[dh ⟨af,af⟩];omega
  rw[c];refine AT h (elI aZ) rfl af af λs w' hS d=>?_;rw[Y3]at hS;have hS:=hS.DJ 1;refine aM hS λg a hS=>b (by rw[decide_eq_true_eq];omega) g a (C0 (s1:=⟨H_,0,0⟩) hS)
def bJ.room(M:bJ)(n:Int):Bool:=L_ (n<=M.size - M.cells.length)
def bJ.grow(M:bJ)(n:Int):bJ:={M with cells:=M.cells++dU n.toNat 0}
structure bJ.OK (M:bJ):Prop where
 size:1<=M.size/\M.size<=1048576
 fit:(M.cells.length:Int)<=M.size
theorem GU{n:Int}{k:Int×Int->ap}(h:St w0 w L)[a:At L (bH g) M f](o:M.OK)
  (r:M.caller wk=J_->1<=n->M.room n=J_->∀w',St w0 w' (f (bH g ((M.tick wk).grow n)))->k ((M.cells.length:Nat),0) w')
  (h2:M.caller wk=J_->1<=n->M.room n=K_->k (0,21) w) (t:¬(M.caller wk=J_/\1<=n)->k (0,10) w):ay (A_ g) wk n w k:=by
 unfold ay wo;have u:=o.size;have v:=o.fit;refine aU rfl (Se h (E_ ⟨rfl,rfl⟩) ?_);by_cases b:M.caller wk=J_/\1<=n
 .rw[b.1,show(L_ (n>=1))=J_ by simpa using b.2]
  refine aU rfl ?_;obtain⟨R,x,y⟩:=a.out;obtain⟨s1,s2,c⟩:=uM (x h);have p:=agV (s:=s1) c;have e:=b.1;simp only[bJ.caller,decide_eq_true_eq]at e;have i:IntKind.i64.wrap (M.size - ((s1.n:Nat):Int))=M.size - M.cells.length:=by rw[p,dh ⟨af,af⟩]
  refine bc (ea c rfl (bc (cr c rfl ?_)));rw[i];refine ax (λj=>?_) λj=>?_
  .exact h2 b.1 b.2 (by unfold bJ.room;rw[decide_eq_false_iff_not];simp only[decide_eq_true_eq]at j;omega)
  .simp only[decide_eq_false_iff_not]at j;have hroom:M.room n=true:=by unfold bJ.room;rw[decide_eq_true_eq];omega
   refine bc (ea c rfl (zB c e.1 e.2 (zC c e.1 e.2 λw' c=>bc (ea c rfl ?_))));have q:=(c.own (sz:=1) (s:=s1)).cap;refine aw0 c bf bf bf (by simp;omega) λd l m c=>?_
   have z:(ints M.cells).take (((s1.n:Nat):Int).toNat*1)=ints M.cells:=CY (by simp[ints];omega)
   simp only[z]at c;have A:n=((n.toNat:Nat):Int):=af;rw[A];simp at l m;refine ary c (elI aZ) aZ rfl af af af af λs' B c hs'=>bc (j4 c rfl bf λC c=>?_);have:=r b.1 b.2 hroom C (y (C0 (by
    have e2:ints M.cells++dU n.toNat (Value.int B_ 0)=ints (M.cells++dU n.toNat 0):=by simp[ints]
    rw[e2]at c;exact c)))
   rw[<-p]at this;exact this
 .have hb:(M.caller wk&&L_ (n>=1))=false:=by
   grind
  rw[hb];exact bK rfl (t b)
open Go Go.Ev Go.Proofs
variable{n:Nat}
def EI(h:n<=8):(2:Nat) ^ n<=256:=Nat.le_trans (Z' af h) e7
theorem Y4{m:Nat}(h:m<2 ^ 63):(bv (m:Int)).toNat=m:=by grind
theorem XR{b:BitVec 64}(h:b.toNat<2 ^ 63):b.toInt=b.toNat:=by grind
def ae5(h:n<=62):oH B_ x (((2 ^ n - 1:Nat)):Int)=x % ((2 ^ n:Nat):Int):=by
 have f:2 ^ n<=2 ^ 62:=Z' af h;have c:0<2 ^ n:=bL af;rw[QJ];have b:(bv x&&&bv ((2 ^ n - 1:Nat):Int)).toNat=(bv x).toNat % 2 ^ n:=by
  rw[Jd,Y4 af,Nat.and_two_pow_sub_one_eq_mod]
 have d:=Nat.mod_lt (bv x).toNat c;rw[XR (by rw[b];omega),b]
 rw[Je];have e:((2 ^ n:Nat):Int)∣((2 ^ 64:Nat):Int):=by
  refine⟨((2 ^ (64 - n):Nat):Int),?_⟩;rw[<-Int.natCast_mul,<-Nat.pow_add];congr 2;omega
 have a:0<=x % ((2 ^ 64:Nat):Int):=Ql _ af;rw[Int.natCast_emod,Int.toNat_of_nonneg a,Int.emod_emod_of_dvd _ e]
theorem aDJ(x:Int):IR B_ x 4=x / 16:=by
 unfold IR;have e:min (4:Int).toNat IntKind.i64.bits=4:=e7;grind
def aBn(x:Int):oH B_ x 15=x % 16:=by
 have:=ae5 (x:=x) (n:=4) af;exact this
def aDK(a:0<=x)(b:x<=1048576):sD B_ x 4=16*x:=by
 unfold sD;have e:min (4:Int).toNat IntKind.i64.bits=4:=e7;rw[e,dh ⟨af,af⟩];omega
theorem aDL{a l:Nat}(b:a<=1048576)(c:l<16):Ti B_ (16*(a:Int)) (l:Int)=16*a+l:=by
 rw[agi];have d:(bv (16*(a:Int))|||bv (l:Int)).toNat=16*a+l:=by
  rw[BitVec.toNat_or,Y4 af];have:(bv (16*(a:Int))).toNat=16*a:=by
   have:=Y4 (m:=16*a) af;rw[<-this];simp
  rw[this];have h2:=Nat.shiftLeft_add_eq_or_of_lt (i:=4) af a;rw[Nat.shiftLeft_eq]at h2;grind
 grind
def XS(a:0<=x)(b:x<=8):sD B_ 1 x=((2 ^ x.toNat:Nat):Int):=by
 unfold sD;have e:min x.toNat IntKind.i64.bits=x.toNat:=by simp[IntKind.bits];omega
 have:=EI (n:=x.toNat) af;have e2:((2:Int) ^ x.toNat)=((2 ^ x.toNat:Nat):Int):=by simp
 rw[e,Int.one_mul,e2];generalize (2 ^ x.toNat:Nat)=m at*
 exact dh ⟨af,af⟩
structure Rg where
 At:Int
 DA:Int
 deriving DecidableEq
namespace Rg
abbrev ag(r:Rg):Array Value:=#[I_ r.At,I_ r.DA]
def pw(r:Rg):Nat:=2 ^ r.DA.toNat
def right(r:Rg):Bool:=L_ (0<=r.DA/\r.DA<=8/\0<=r.At/\r.At<=1048576 - r.pw)
def size(r:Rg):Int:=if r.right then r.pw else 0
def place(r:Rg)(i:Int):Int:=if r.right then r.At+i % r.pw else -1
def word(r:Rg):Int:=if r.right then 16*r.At+r.DA else -1
def of(word:Int):Rg:=⟨word / 16,word % 16⟩
def zero:Rg:=⟨0,0⟩
end Rg
variable{r:Rg}
def Rg.F5(h:r.right=J_):0<=r.DA/\r.DA<=8/\0<=r.At/\r.At<=1048576 - r.pw/\1<=r.pw/\r.pw<=256:=by
 unfold Rg.right at h;simp only[decide_eq_true_eq]at h;have a:r.pw<=256:=EI af;have h2:0<r.pw:=bL af;omega
def Mw{k:Bool->ap}(h:St w0 w L)(d:∀w',St w0 w' L->k r.right w'):bE r.ag w k:=by
 unfold bE;have d:=λw' h'=>d w' h';refine aM h λg w1 a=>cH a λi a=>?_;have fin:∀b,b=r.right->k b i:=λb e=>by rw[e];exact d i a.drop
 unfold Rg.right at fin;refine cr a rfl (ax (λc=>?_) λc=>fin _ (by rw[decide_eq_false_iff_not]at c;exact(decide_eq_false af).symm))
 refine cr a rfl (ax (λh2=>?_) λh2=>fin _ (by rw[decide_eq_false_iff_not]at h2;exact(decide_eq_false af).symm))
 refine cr a rfl (ax (λf=>?_) λf=>fin _ (by rw[decide_eq_false_iff_not]at f;exact(decide_eq_false af).symm))
 simp only[decide_eq_true_eq]at c h2 f;refine cr a rfl (cr a rfl (Gf c (fin _ ?_)));have l:r.pw<=256:=EI af;have j:(2 ^ r.DA.toNat:Nat)=r.pw:=rfl;rw[XS c h2,j,dh ⟨af,af⟩,decide_eq_decide];omega
def XT(h:St w0 w L)(d:∀w',St w0 w' L->k r.size w'):cg r.ag w k:=by
 unfold cg Eh;refine aM h λg w1 a=>je a rfl<|Mw a λe a=>ax (λb=>?_) λb=>?_
 .have:=d e a.drop;unfold Rg.size at this;rwa[HQ (gq b)]at this
 .have b:r.right=true:=by simpa using b
  have c:=Rg.F5 b;have:=d e a.drop;unfold Rg.size at this;rw[HK b]at this;refine cr a rfl (Gf c.1 ?_);rw[XS c.1 c.2.1];exact this
def Mx(h:St w0 w L)(d:∀w',St w0 w' L->k (r.place x) w'):bl r.ag x w k:=by
 unfold bl CN;refine aM h λg w1 a=>je a rfl<|Mw a λj a=>ax (λb=>?_) λb=>?_
 .have:=d j a.drop;unfold Rg.place at this;rwa[HQ (gq b)]at this
 .have b:r.right=true:=by simpa using b
  have p:=Rg.F5 b;refine cH a λq a=>cr a rfl<|je a rfl<|XT a λl c=>eD a c ?_;have:=d l c.drop;unfold Rg.place at this;rw[HK b]at this;have e:r.size=r.pw:=by unfold Rg.size;rw[HK b]
  have f:(2 ^ r.DA.toNat:Nat)=r.pw:=rfl;have e2:IntKind.i64.wrap (r.size - 1)=((2 ^ r.DA.toNat - 1:Nat):Int):=by
   rw[e,dh ⟨af,af⟩,f];omega
  have m:(0:Int)<(r.pw:Nat):=af;have n:=Ql x (show((r.pw:Nat):Int)≠0 by omega)
  have o:=Int.emod_lt_of_pos x m;rw[e2,ae5 af,f];rw[dh ⟨af,af⟩];exact this
def anj(h:St w0 w L)(d:∀w',St w0 w' L->k r.word w'):fD r.ag w k:=by
 unfold fD Ed;refine aM h λg w1 a=>je a rfl<|Mw a λe a=>?_;have:=d e a.drop;unfold Rg.word at this;refine ax (λb=>?_) λb=>?_
 .rwa[HQ (gq b)]at this
 .have b:r.right=true:=by simpa using b
  have f:=Rg.F5 b;rw[HK b]at this;refine cr a rfl (cr a rfl ?_);have c:r.At=((r.At.toNat:Nat):Int):=af;have e2:r.DA=((r.DA.toNat:Nat):Int):=af;rw[aDK f.2.2.1 af];rw[c,e2,aDL af af,<-c,<-e2];exact this
variable{k:Array M_×Int->ap}
def az8(h:St w0 w L)(d:∀w',St w0 w' L->k (if (Rg.of x).right then((Rg.of x).ag,0)else(Rg.zero.ag,11)) w'):rh x w k:=by
 unfold rh Vr;refine aM h λg w1 a=>aM a λg2 e a=>?_;rw[aDJ,aBn];refine m7 a rfl rfl (by simp[Value.oneCell']) λf a=>?_
 refine je a rfl<|Mw (r:=Rg.of x) a λi a=>ax (λb=>?_) λb=>?_
 .refine m7 a rfl rfl (by simp[Value.oneCell']) λc a=>?_
  refine je a rfl ?_;have:=d c a.drop.drop;rwa[HQ (gq b)]at this
 .refine je a rfl<|m7 a rfl rfl (by simp[Value.oneCell']) λc a=>?_
  refine je a rfl ?_;have:=d c a.drop.drop;rwa[HK (gq b)]at this
open Go Go.Ev Go.Proofs
variable{log:Int}
theorem axD(h:St w0 w L)[a:At L (bH g) M f](i:M.OK)
  (h1:0<=log->log<=8->M.caller wk=J_->M.room ((2 ^ log.toNat:Nat):Int)=J_->∀w',St w0 w' (f (bH g ((M.tick wk).grow ((2 ^ log.toNat:Nat):Int))))->k (Rg.ag ⟨(M.cells.length:Nat),log⟩,0) w')
  (h2:0<=log->log<=8->M.caller wk=J_->M.room ((2 ^ log.toNat:Nat):Int)=K_->∀w',St w0 w' L->k (Rg.zero.ag,21) w')
  (h3:¬(0<=log/\log<=8/\M.caller wk=J_)->∀w',St w0 w' L->k (Rg.zero.ag,10) w'):xO (A_ g) wk log w k:=by
 unfold xO Q7;refine aM h λl w1 b=>aU rfl (ax (λhb=>?_) λhb=>?_)
 .simp only[Bool.or_eq_true,decide_eq_true_eq]at hb;refine m7 b rfl rfl (by simp[Value.oneCell']) λd b=>?_
  refine je b rfl<|h3 af _ b.drop
 .simp only[kf,decide_eq_false_iff_not]at hb;refine Gf af ?_;rw[XS af af];have m:0<2 ^ log.toNat:=bL af;refine GU b i (λc k2 e d b=>?_) (λc k2 e=>?_) λc=>?_
  .refine aU rfl<|m7 b rfl rfl (by simp[Value.oneCell']) λd b=>?_
   refine je b rfl<|h1 af af c e _ b.drop
  .refine bK rfl<|m7 b rfl rfl (by simp[Value.oneCell']) λd b=>?_
   refine je b rfl<|h2 af af c e _ b.drop
  .refine bK rfl<|m7 b rfl rfl (by simp[Value.oneCell']) λd b=>?_
   refine je b rfl<|h3 (λj=>c ⟨j.2.2,?_⟩) _ b.drop;grind
structure Cp where
 a:Rg
 b:Rg
 at_:Int
 j2:Int
 has:Int
 Cm:Bool
def Qm(g:Nat)(c:Cp):HP:=au g [I_ c.a.At,I_ c.a.DA,I_ c.b.At,I_ c.b.DA,I_ c.at_,I_ c.j2,I_ c.has,
 .func (F_ (if c.Cm then sV else rJ)) #[IB (A_ g)] #[]]
def Cp.begin(a b:Rg)(from_ j2:Int):Cp:=⟨a,b,from_,j2,0,K_⟩
def Sf(a b:Rg)(from_ j2:Int):Int:=if a.right=K_\/b.right=K_ then 1 else if j2<from_\/j2 - from_>a.size\/j2 - from_>b.size then 10 else 0
def ak6(a:0<=x)(b:x<18446744073709551616):IntKind.u64.wrap x=x:=by
 simp only[aF,IntKind.bits,IntKind.signed];simp;omega
variable{y:Int}
def acE(a:sy x)(b:sy y)(h:y<=x):IntKind.u64.wrap (IntKind.u64.wrap x - IntKind.u64.wrap y)=x - y:=by
 have:=a.1;have:=a.2;have:=b.1;have:=b.2;simp only[aF,IntKind.bits,IntKind.signed];simp;omega
def size_le(r:Rg):0<=r.size/\r.size<=256:=by
 unfold Rg.size;split
 .rename_i h;have:=Rg.F5 h;omega
 .omega
theorem axE{a b:Rg}{k:Option P_×Int->ap}(o:sy x)(p:sy wk)(h:St w0 w L)
  (f:Sf a b x wk=0->∀g w',St w0 w' (Qm g (Cp.begin a b x wk)::L)->k (A_ g,0) w') (h2:Sf a b x wk≠0->∀w',St w0 w' L->k (H_,Sf a b x wk) w'):nH a.ag b.ag x wk w k:=by
 unfold nH Ei;refine aM h λg1 w1 c=>aM c λg2 s c=>bP (λy w'=>y=(!a.right|| !b.right)/\St w0 w' (au g2 b.ag.toList::au g1 a.ag.toList::L)) ?_ ?_
 .intro J i;refine je c rfl<|Mw c λq c=>ax (λf=>i _ _ ⟨by revert f;cases a.right<;>simp,c⟩) λf=>?_
  refine je c rfl<|Mw c λm c=>i _ _ ⟨by revert f;cases a.right<;>simp,c⟩
 rintro _ q ⟨rfl,c⟩;refine ax (λn=>?_) λn=>?_
 .have e:Sf a b x wk=1:=by
   unfold Sf;grind
  have:=h2 (by rw[e];omega) _ c.drop.drop
  rwa[e]at this
 simp only[kf,OM]at n;have t:=size_le a;have sb:=size_le b;have e:Sf a b x wk=if wk<x\/wk - x>a.size\/wk - x>b.size then 10 else 0:=by
  unfold Sf;grind
 refine bP (λy w'=>y=L_ (wk<x\/wk - x>a.size\/wk - x>b.size)/\St w0 w' (au g2 b.ag.toList::au g1 a.ag.toList::L)) ?_ ?_
 .intro J i;refine cH c λm c=>ax (λd=>i _ _ ⟨?_,c⟩) λd=>?_
  .grind
  .rw[decide_eq_false_iff_not]at d;refine je c rfl<|je c rfl<|XT c λr j=>eD c j<|XT j λl c=>i _ _ ⟨?_,c⟩;rw[acE p o af];unfold Wg;rw[decide_eq_decide];split
   iterate 2 rw[ak6 af af];omega
 rintro _ m ⟨rfl,c⟩;refine ax (λd=>?_) λd=>?_
 .rw[decide_eq_true_eq]at d;rw[HK d]at e;have:=h2 (by rw[e];omega) _ c.drop.drop
  rwa[e]at this
 rw[decide_eq_false_iff_not]at d;rw[HQ d]at e;refine je c rfl<|je c rfl<|arq _ rfl bf rfl<|arq _ rfl bf rfl<|aM c λg r c=>j4 c rfl bf λl c=>f e g l (show St w0 l (Qm g (Cp.begin a b x wk)::L)from c.swap.drop.swap.drop)
def Cp.spot(c:Cp):Int:=if c.Cm then c.b.place c.at_ else c.a.place c.at_
def Cp.next(c:Cp)(x:Int):Cp:=if c.Cm then{c with at_:=IntKind.i64.wrap (c.at_+1),Cm:=K_}else{c with has:=x,Cm:=J_}
variable{gc:Nat}
variable{yr:Cp}
theorem axF{c:Cp}{k:Bool×Int->ap}(h:St w0 w (Qm gc c::bH g M::L))
  (p:c.at_=c.j2->∀w',St w0 w' (Qm gc c::bH g M::L)->k (J_,0) w')
  (o:c.at_≠c.j2->M.can wk c.spot=K_->∀w',St w0 w' (Qm gc c::bH g M::L)->k (K_,10) w')
  (h2:c.at_≠c.j2->M.can wk c.spot=J_->c.Cm=K_->∀w',St w0 w' (Qm gc (c.next (M.get c.spot))::bH g (M.tick wk)::L)->k (K_,0) w')
  (q:c.at_≠c.j2->M.can wk c.spot=J_->c.Cm=J_->∀w',St w0 w' (Qm gc (c.next 0)::bH g ((M.tick wk).put c.spot c.has)::L)->k ((c.next 0).at_==c.j2,0) w'):
  nJ (A_ gc) (A_ g) wk w k:=by
 unfold nJ Ek;refine aU rfl (cH h λw1 f=>?_);unfold Qm at f;refine bc (cr f rfl ?_);refine bc (cr f rfl (ax (λr=>p (gq r) _ f) λl=>?_))
 have l:c.at_≠c.j2:=gq l
 refine bc (I2 f rfl ?_);cases hl:c.Cm with
 |false=>
  have j:c.spot=c.a.place c.at_:=by unfold Cp.spot;rw[hl];rfl
  rw[hl]at f;refine bV (d:=KB) (λ_ _ _=>rfl) ?_;simp only[KB,Rc,S',VM,n_,qW,unV,toP,xS,if_true,e9,dL,K.v,Ir];unfold nI Ej;refine cH f λs f=>bc (qM f bf ?_);refine bc (cr f rfl ?_);refine Mx f λt f=>agW f (λi u f=>?_) λi=>?_
  .refine aU rfl (bc (j4 f rfl bf λx f=>bc (j4 f rfl bf λy f=>?_)));refine aU rfl (cH f λn f=>?_);refine bc (cr f rfl ?_);refine bc (cr f rfl ?_);have:=h2 l (by rw[j];exact i) hl n (by
    rw[j];have e:c.next (M.get (c.a.place c.at_))={c with has:=M.get (c.a.place c.at_),Cm:=J_}:=by unfold Cp.next;rw[hl];rfl
    rw[e];exact f)
   grind
  .refine bK rfl (bK rfl (o l (by rw[j];exact i) _ ?_))
   unfold Qm;rw[hl];exact f
 |true=>
  have j:c.spot=c.b.place c.at_:=by unfold Cp.spot;rw[hl];rfl
  rw[hl]at f;refine bV (d:=Jo) (λ_ _ _=>rfl) ?_;simp only[Jo,Rc,S',VM,n_,qW,unV,toP,xS,if_true,e9,dL,K.v,Ir];unfold mz CO;refine cH f λs f=>bc (qM f bf ?_);refine bc (cr f rfl ?_);refine bc (cr f rfl ?_);refine Mx f λt m=>eD f m<|aiD m (λi u f=>?_) λi=>?_
  .refine aU rfl (bc (cr f rfl ?_));refine bc (j4 f rfl bf λx f=>bc (j4 f rfl bf λy f=>?_));refine aU rfl (cH f λn f=>?_);refine bc (cr f rfl ?_);refine bc (cr f rfl ?_);have e:c.next 0={c with at_:=IntKind.i64.wrap (c.at_+1),Cm:=K_}:=by unfold Cp.next;rw[hl];rfl
   have:=q l (by rw[j];exact i) hl n (by
    rw[j,e];exact f)
   rw[e]at this;exact this
  .refine bK rfl (bK rfl (o l (by rw[j];exact i) _ ?_))
   unfold Qm;rw[hl];exact m
def bJ.ld(M:bJ)(wk a:Int):bJ×Int×Int:=if M.can wk a then(M.tick wk,M.get a,0)else(M,0,10)
def bJ.st(M:bJ)(wk a x:Int):bJ×Int:=if M.can wk a then((M.tick wk).put a x,0)else(M,10)
def bJ.VQ(M:bJ)(wk a old x:Int):bJ×Bool×Int:=if M.can wk a then(if M.get a=old then((M.tick wk).put a x,J_,0)else(M.tick wk,K_,0))else(M,K_,10)
def wr(x:Int):Int:=aF B_ x
variable{a':Int}
theorem aa8{k:Int×Int->ap}(h:St w0 w L)[a:At L (bH g) M f](b:∀w',St w0 w' (f (bH g (M.ld wk a').1))->k ((M.ld wk a').2.1,(M.ld wk a').2.2) w'):aj (A_ g) wk a' w k:=by
 unfold bJ.ld at b;refine agW h (λc w' h=>?_) λc=>?_
 .grind
 .rw[HQ (by rw[c];simp)]at b;exact b w (h.same a)
theorem Sg{k:Int->ap}(h:St w0 w L)[a:At L (bH g) M f](b:∀w',St w0 w' (f (bH g (M.st wk a' x).1))->k (M.st wk a' x).2 w'):aK (A_ g) wk a' x w k:=by
 unfold bJ.st at b;refine aiD h (λc w' h=>?_) λc=>?_
 .grind
 .rw[HQ (by rw[c];simp)]at b;exact b w (h.same a)
def ak7{old:Int}{k:Bool×Int->ap}(h:St w0 w L)[a:At L (bH n) M f](d:∀w',St w0 w' (f (bH n (M.VQ wk a' old x).1))->k ((M.VQ wk a' old x).2.1,(M.VQ wk a' old x).2.2) w'):aR (A_ n) wk a' old x w k:=by
 unfold aR zT;unfold bJ.VQ at d;refine aU rfl (Se h (D_ ⟨rfl,rfl⟩) ?_);by_cases b:M.can wk a'=J_
 .rw[HK b]at d;unfold bJ.can at b;rw[b];refine aU rfl ?_;obtain⟨R,i,g⟩:=a.out;obtain⟨s1,s2,c⟩:=uM (i h);simp only[iY,bJ.caller,bJ.given,decide_eq_true_eq]at b;refine bc (ea c rfl (zB c b.1.1 b.1.2 (zC c b.1.1 b.1.2 λw' c=>bc (ea c rfl (zB c b.2.1 b.2.2 ?_)))));refine ax (λhb=>?_) λhb=>?_
  .have e:M.get a'≠old:=by simpa[bJ.get]using hb
   rw[HQ e]at d;exact d w' (g (C0 c))
  .have j:M.get a'=old:=by simpa[bJ.get]using hb
   rw[HK j]at d;refine bc (ea c rfl (zC c b.2.1 b.2.2 λw' c=>?_));exact d w' (g (C0 c))
 .have b:M.can wk a'=false:=by simpa using b
  rw[HQ (by rw[b];simp)]at d
  unfold bJ.can at b;rw[b];exact bK rfl (d w (h.same a))
def y4(h:M.can 0 x=J_\/M.given x=J_)(a:M.OK):aF B_ x=x:=by
 have b:=a.size;have h2:=a.fit;have:M.given x=true:=by
  rcases h with h|h
  .unfold bJ.can at h;simp at h;exact h.2
  .exact h
 unfold bJ.given at this;simp only[decide_eq_true_eq]at this;exact kg ⟨af,af⟩
def pe(h:M.can wk x=J_):M.given x=true:=by unfold bJ.can at h;simp at h;exact h.2
def EJ(h:M.can wk x=J_):M.ld wk x=(M.tick wk,M.get x,0):=by unfold bJ.ld;rw[HK h]
variable{v:Int}
def S4(h:M.can wk x=J_):M.st wk x v=((M.tick wk).put x v,0):=by unfold bJ.st;rw[HK h]
def aiF(h:M.can wk x=J_):M.VQ wk x y v=if M.get x=y then((M.tick wk).put x v,J_,0)else(M.tick wk,K_,0):=by unfold bJ.VQ;rw[HK h]
def ldc{k:Int×Int->ap}(h:St w0 w L)[a:At L (bH g) M f](b:M.can wk a'=J_)(c:∀w',St w0 w' (f (bH g (M.tick wk)))->k (M.get a',0) w'):aj (A_ g) wk a' w k:=by
 refine aa8 h λw h=>?_;rw[EJ b]at h ⊢;exact c w h
def stc{k:Int->ap}(h:St w0 w L)[a:At L (bH g) M f](b:M.can wk a'=J_)(c:∀w',St w0 w' (f (bH g ((M.tick wk).put a' x)))->k 0 w'):aK (A_ g) wk a' x w k:=by
 refine Sg h λw h=>?_;rw[S4 b]at h ⊢;exact c w h
def bJ.cs(M:bJ)(wk a old x:Int):bJ×Bool:=if M.get a=old then((M.tick wk).put a x,J_)else(M.tick wk,K_)
theorem ank{k:Bool×Int->ap}(h:St w0 w L)[a:At L (bH g) M f](b:M.can wk a'=J_)(c:∀w',St w0 w' (f (bH g (M.cs wk a' y x).1))->k ((M.cs wk a' y x).2,0) w'):aR (A_ g) wk a' y x w k:=by
 refine ak7 h λw h=>?_;rw[aiF b]at h ⊢;unfold bJ.cs at c;grind
def bJ.ad(M:bJ)(wk x by_:Int):bJ:=(M.tick wk).put x (wr (M.get x+by_))
def VR{k:Int×Int->ap}(h:St w0 w L)[a:At L (bH n) M f](d:M.can wk x=J_)(e:∀w',St w0 w' (f (bH n (M.ad wk x y)))->k (M.get x,0) w'):aL (A_ n) wk x y w k:=by
 unfold aL rf;obtain⟨R,g,hb⟩:=a.out;have h:=g h;refine aM h λg1 w h=>aM h λg2 w h=>aM h λg3 w h=>n8<|Se h (D_ ⟨rfl,rfl⟩) ?_;have b:=d;unfold bJ.can at b;rw[b];refine aU rfl ?_;simp only[iY,bJ.caller,bJ.given,decide_eq_true_eq]at b;have c:=h.front 3 rfl;simp only[I7]at c;obtain⟨s1,s2,h⟩:=uM c;refine n8<|zB h b.1.1 b.1.2 (zC h b.1.1 b.1.2 λw h=>?_);refine pS λw h=>zB h b.2.1 b.2.2 ?_;unfold ue;refine pS λw h=>zB h b.2.1 b.2.2 ?_;refine n8<|zC h b.2.1 b.2.2 λw h=>?_;have h:=C0 (M:=M.ad wk x y) h;exact e w (hb (((h.rm 1 rfl).rm 1 rfl).rm 1 rfl))
structure Nd where
 parent:Int
 nest:Int
 at_:Int
 deriving DecidableEq
abbrev Nd.cells(x:Nd):List Value:=[I_ x.parent,I_ x.nest,I_ x.at_]
def scp(g:Nat)(C:List Nd):HP:=Gt λs:Sl=>l9 [au g [S_ s],rws 3 s (C.map Nd.cells)]
variable{C:List Nd}
def Y6(h:St w0 w (scp g C::R)):∃s:Sl,St w0 w (au g [S_ s]::rws 3 s (C.map Nd.cells)::R):=by
 obtain⟨s,h⟩:=h.some;exact⟨s,h.open⟩
def ae6(h:St w0 w (au g [S_ s]::rws 3 s (C.map Nd.cells)::R)):St w0 w (scp g C::R):=
 St.ex s (St.shut h)
def UR(C:List Nd)(s:Int):Bool:=L_ (0<=s/\s<C.length)
variable{ga:Nat}{s:Int}
def ak8{k:Bool->ap}(h:St w0 w L)[a:At L (scp g) C f][a':At L (au ga) [I_ s] f'](d:k (UR C s) w):dk (A_ g) ⟨A_ ga,1,1⟩ w k:=by
 unfold dk;refine⟨2,?_⟩;unfold jV;have hb:=h.au (g:=ga);refine bK rfl ?_;refine⟨⟨af,by show(0:Int)<1;decide⟩,uZ (by rw[dg,hb.cell];rfl) (QI ?_)⟩
 obtain⟨R,e,j⟩:=a.out;obtain⟨sl,h2⟩:=Y6 (e h);have i:=(pg (sz:=3) (s:=sl) h2).2 af;simp only[U']at i;refine ax (λb=>?_) λb=>?_
 .have b:s<0:=by simpa using b
  rw[show UR C s=K_ by simp[UR];omega]at d
  exact bK rfl d
 .have b:¬s<0:=by simpa using b
  refine bc (aS h2 rfl ?_);refine ax (λc=>?_) λc=>?_
  .have c:s>=((sl.n:Nat):Int):=of_decide_eq_true c;rwa[show UR C s=K_ by simp[UR];omega]at d
  .have c:¬s>=((sl.n:Nat):Int):=of_decide_eq_false c;unfold jV;refine aU rfl ?_;rwa[show UR C s=J_ by simp[UR];omega]at d
variable{k:Int->ap}
def F6(h:St w0 w L)[a:At L (scp g) C f](hs:UR C s=J_)(b:∀w',St w0 w' L->k 0 w'):bh (A_ g) (A_ n) s w k:=by
 unfold bh Ef;refine aU rfl (aM h λga w' h=>ak8 h ?_);rw[hs];exact aU rfl (b w' h.drop)
def nZ(C:List Nd)(s:Int):Option Nd:=if 0<=s then C[s.toNat]? else H_
variable{x:Nd}
def rM(h:nZ C s=G_ x):UR C s=J_/\0<=s/\C[s.toNat]?=G_ x:=by
 unfold nZ at h;split at h
 .have:=(kB.1 h).1;exact⟨by simp[UR];omega,af,h⟩
 .cases h
def aah{c:P_->Int->Prop}(h:St w0 w L)[a:At L (scp g) C f](hs:nZ C s=G_ x)(hv:x.cells[n]?=G_ (I_ v))(d:∀p,c p v):
  cy w (aY ⟨g,0,H_⟩ 0) λe=>cN e s 3 λb=>aJ B_ w (aY b n) (c b):=by
 obtain⟨R,i,hb⟩:=a.out;obtain⟨sl,h2⟩:=Y6 (i h);obtain⟨_,k,l⟩:=rM hs;exact aS h2 rfl (rI2 h2 k (by rw[l8,l];rfl) hv d)
def aiG(h:St w0 w L)[a:At L (scp g) C f][a2:At L (bH n) M f'](hs:nZ C s=G_ x)(b:M.can wk (x.at_+1)=J_)(c:M.OK)
  (d:∀w',St w0 w' (f' (bH n (M.ad wk (x.at_+1) 1)))->k 0 w'):eE (A_ g) (A_ n) wk s w k:=by
 unfold eE Bn;refine F6 h (rM hs).1 λw h=>?_;with_reducible repeat' (first|refine bc ?_|refine I8 ?_|refine aah (C:=C) h hs rfl λ_=>?_)
 rw[y4 (E_ (pe b)) c];exact VR h b λw h=>d w h
def as8{k:Bool×Int->ap}(h:St w0 w L)[a:At L (scp g) C f][a2:At L (bH n) M f'](hs:nZ C s=G_ x)(b:M.can wk (x.at_+1)=J_)(c:M.OK)
  (d:∀w',St w0 w' (f' (bH n (M.ad wk (x.at_+1) (-1))))->k (M.get (x.at_+1)==1,0) w'):lz (A_ g) (A_ n) wk s w k:=by
 unfold lz BJ;refine F6 h (rM hs).1 λw h=>?_;with_reducible repeat' (first|refine bc ?_|refine I8 ?_|refine aah (C:=C) h hs rfl λ_=>?_)
 rw[y4 (E_ (pe b)) c];exact VR h b λw h=>d w h
def axG{k:Int×Int->ap}(h:St w0 w L)[a:At L (scp g) C f][a2:At L (bH n) M f'](hs:nZ C s=G_ x)(b:M.can wk (x.at_+1)=J_)(c:M.OK)
  (d:∀w',St w0 w' (f' (bH n (M.tick wk)))->k (M.get (x.at_+1),0) w'):mE (A_ g) (A_ n) wk s w k:=by
 unfold mE CV;refine F6 h (rM hs).1 λw h=>?_;with_reducible repeat' (first|refine bc ?_|refine I8 ?_|refine aah (C:=C) h hs rfl λ_=>?_)
 rw[y4 (E_ (pe b)) c];refine aa8 h λw h=>?_;rw[EJ b]at h ⊢;exact d w h
variable{k:Bool×Int->ap}
def as9(h:St w0 w L)[a:At L (scp g) C f][a2:At L (bH n) M f'](hs:nZ C s=G_ x)(b:M.can wk x.at_=J_)
  (c:∀w',St w0 w' (f' (bH n (M.cs wk x.at_ 0 1).1))->k ((M.cs wk x.at_ 0 1).2,0) w'):gI (A_ g) (A_ n) wk s w k:=by
 unfold gI ED;refine F6 h (rM hs).1 λw h=>?_;with_reducible repeat' (first|refine bc ?_|refine I8 ?_|refine aah (C:=C) h hs rfl λ_=>?_)
 exact ank h b λw h=>c w h
def aiH(h:St w0 w L)[a:At L (scp g) C f][a2:At L (bH n) M f'](hs:nZ C s=G_ x)(b:M.can wk x.at_=J_)
  (c:∀w',St w0 w' (f' (bH n (M.tick wk)))->k (M.get x.at_ !=0,0) w'):eG (A_ g) (A_ n) wk s w k:=by
 unfold eG Bv;refine F6 h (rM hs).1 λw h=>?_;with_reducible repeat' (first|refine bc ?_|refine I8 ?_|refine aah (C:=C) h hs rfl λ_=>?_)
 refine aa8 h λw h=>?_;rw[EJ b]at h ⊢;exact c w h
def aoX{k:Int->ap}(h:St w0 w L)[a:At L (scp g) C f](hs:nZ C s=G_ x)(b:∀w',St w0 w' L->k x.parent w'):kG (A_ g) s w k:=by
 unfold kG z7;refine aM h λga w h=>ak8 h ?_;rw[(rM hs).1];with_reducible repeat' (first|refine bc ?_|refine I8 ?_|refine aah (C:=C) h hs rfl λ_=>?_)
 exact b w h.drop
variable{zd:Array M_}
def Jw{b:Array M_}{c:Array M_->Prop}(f:zd.size=n)(hb:b.size=n)(g:c b):kT zd 0 n b c:=by
 refine⟨hb,?_⟩;have e:b.zipIdx.foldl (λcs (x:M_×Nat)=>cs.setIfInBounds (0+x.2) x.1) zd=b:=by
  apply Array.ext';have key:∀(l:List M_) (k:Nat) (acc:Array M_),acc.size=k+l.length->((l.zipIdx k).foldl (fun(cs:Array M_) (x:M_×Nat)=>cs.setIfInBounds (0+x.2) x.1) acc).toList=acc.toList.take k++l:=by
   intro l;induction l with
   |nil=>intro k acc d;simp at d;simp[CY,d]
   |cons v l ih=>
    intro k acc d;simp only[x_]at d;rw[List.zipIdx_cons,List.foldl_cons,ih (k+1) _ (by simp;omega)]
    simp only[FM,Array.toList_setIfInBounds];rw[List.take_add_one,uO (gq (by omega:k<acc.size)),Wz af]
    simp
  have:=key b.toList 0 zd (by simp[f,hb])
  rw[<-Array.foldl_toList,Array.toList_zipIdx];simpa using this
 rw[e];exact g
def elN:ET Tryz.prog 233 3 24 (.agg #[I_ 0,I_ 0,I_ 0]):=⟨aZ,aZ⟩
variable{yv:HP->List HP}
def agZ{k:Int×Int->ap}(h:St w0 w L)[a:At L (scp g) C f][a2:At L (bH gc) M yv][a3:At (yv (bH gc ((M.tick wk).grow 2))) (scp g) C f'](hs:nZ C s=G_ x)(d:M.caller wk=J_)(i:M.OK)(j:C.length<=1000000)
  (l:wr (x.nest+1)>32->∀w',St w0 w' L->k (0,23) w') (h2:¬wr (x.nest+1)>32->M.room 2=K_->∀w',St w0 w' L->k (0,21) w')
  (m:¬wr (x.nest+1)>32->M.room 2=J_->∀w',St w0 w' (f' (scp g (C++[⟨s,wr (x.nest+1),(M.cells.length:Nat)⟩])))->k ((C.length:Nat),0) w'):cY (A_ g) (A_ gc) wk s w k:=by
 unfold cY CJ;refine F6 h (rM hs).1 λw h=>?_;with_reducible repeat' (first|refine bc ?_|refine I8 ?_|refine aah (C:=C) h hs rfl λ_=>?_)
 refine ax (λhb=>?_) λhb=>?_
 .exact l (of_decide_eq_true hb) w h
 .have hb:=of_decide_eq_false hb;refine GU h i (λ_ _ c w h=>?_) (λ_ _ c=>?_) λb=>(b ⟨d,af⟩).elim
  .refine n8 ?_;obtain⟨R,n,o⟩:=a3.out;obtain⟨sl,h⟩:=Y6 (n h);refine n8 ?_;refine Jw rfl rfl<|zE λgx w h=>?_;refine Z8 h elN aZ rfl af (by simp[Nd.cells,Value.oneCell']) (gq j) af λs' w h b=>?_
   refine pS λw h=>?_;rw[U']at b;rw[b];have e:aF B_ (((C.length+1:Nat):Int) - 1)=(C.length:Nat):=by rw[kg ⟨af,af⟩];omega
   rw[e];refine m hb c w (o (ae6 (s:=s') ?_));have:=h.rm 0 rfl;simp only[VK,z_,List.map_nil];exact this
  .refine n8<|h2 hb c w h
structure Lk where
 at_:Int
 done:Bool
 xm:Bool
def Lk.cells(g:Nat)(x:Lk):List Value:=[IB (A_ g),I_ x.at_,Iq x.done,Iq x.xm]
def axH{k:Option P_×Int->ap}(h:St w0 w L)[a:At L (scp g) C f](hs:nZ C s=G_ x)(b:∀gl w',St w0 w' (au gl (Lk.cells g ⟨s,K_,K_⟩)::L)->k (A_ gl,0) w'):mB (A_ g) s w k:=by
 unfold mB CT;refine aU rfl (aM h λga w h=>ak8 h ?_);rw[(rM hs).1];refine zE λgx w h=>b _ w (h.rm 1 rfl)
def Lk.go(M:bJ)(l:Lk)(x:Nd):Lk:=⟨x.parent,M.get x.at_ !=0||l.at_==0,M.get x.at_ !=0⟩
def aiI{l:Lk}{k:Bool×Bool×Int->ap}(h:St w0 w (au gc (Lk.cells g l)::scp g C::bH n M::R))
  (b:l.done=K_) (hs:nZ C l.at_=G_ x) (c:M.can wk x.at_=J_)
  (d:∀w',St w0 w' (au gc (Lk.cells g (l.go M x))::scp g C::bH n (M.tick wk)::R)->k ((l.go M x).done,(l.go M x).xm,0) w'):k7 (A_ gc) (A_ n) wk w k:=by
 unfold k7 CS;obtain⟨la,ld,e⟩:=l;cases b
 refine pS λw h=>aiH h hs c λw h=>?_;refine pS λw h=>bP (λ_ w=>St w0 w (au gc (Lk.cells g ⟨la,M.get x.at_ !=0||la==0,M.get x.at_ !=0⟩)::scp g C::bH n (M.tick wk)::R)) (λJ a=>?_) ?_
 .refine ax (λhb=>?_) λhb=>?_
  .have hb:(M.get x.at_ !=0)=true:=hb;refine pS λw h=>?_;exact a _ _ (by simp only[hb]at h ⊢;exact h)
  .have hb:(M.get x.at_ !=0)=false:=hb;refine pS λw h=>?_;exact a _ _ (by simp only[hb]at h ⊢;exact h)
 .intro _ w h;refine pS λw h=>aoX h hs λw h=>?_;refine pS λw h=>d _ h
variable{k:Array M_×Int->ap}
def atb(h:St w0 w L)[a2:At L (bH g) M f'](b:M.caller wk=J_)(c:M.OK)
  (d:M.room 1=J_->∀w',St w0 w' (f' (bH g ((M.tick wk).grow 1)))->k (#[I_ (M.cells.length:Nat)],0) w') (e:M.room 1=K_->∀w',St w0 w' L->k (#[I_ 0],21) w'):
  uy (A_ g) wk w k:=by
 unfold uy Np;refine zE λgx w h=>?_;refine GU h c (λ_ _ a w h=>?_) (λ_ _ a=>?_) λf=>(f ⟨b,af⟩).elim
 .refine pS λw h=>d a w h.drop
 .refine pS λw h=>e a w h.drop
def atc(h:St w0 w L)[a2:At L (bH g) M f'](b:M.caller wk=J_)(c:M.OK)
  (d:M.room 1=J_->∀w',St w0 w' (f' (bH g ((M.tick wk).grow 1)))->k (#[I_ (M.cells.length:Nat)],0) w') (e:M.room 1=K_->∀w',St w0 w' L->k (#[I_ 0],21) w'):
  xN (A_ g) wk w k:=by
 unfold xN Q2;refine zE λgx w h=>?_;refine GU h c (λ_ _ a w h=>?_) (λ_ _ a=>?_) λf=>(f ⟨b,af⟩).elim
 .refine pS λw h=>d a w h.drop
 .refine pS λw h=>e a w h.drop
def axI(h:St w0 w L)[a2:At L (bH g) M f'](b:M.caller wk=J_)(c:M.OK)
  (d:M.room 3=J_->∀w',St w0 w' (f' (bH g ((M.tick wk).grow 3)))->k (#[I_ (M.cells.length:Nat)],0) w') (e:M.room 3=K_->∀w',St w0 w' L->k (#[I_ 0],21) w'):
  sH (A_ g) wk w k:=by
 unfold sH K8;refine zE λgx w h=>?_;refine GU h c (λ_ _ a w h=>?_) (λ_ _ a=>?_) λf=>(f ⟨b,af⟩).elim
 .refine pS λw h=>d a w h.drop
 .refine pS λw h=>e a w h.drop
def atd{k:Int×Int->ap}(h:St w0 w L)[a2:At L (bH g) M f](a:M.can wk at_=J_)(b:∀w',St w0 w' (f (bH g (M.tick wk)))->k (M.get at_,0) w'):lq #[I_ at_] (A_ g) wk w k:=by
 unfold lq BA;with_reducible repeat' (first|refine Iy h ?_|refine aM h λgx w h=>?_|refine ldc (M:=M) h a λw h=>?_|fail)
 exact b w h.drop
def anl{k:Int->ap}(h:St w0 w L)[a2:At L (bH g) M f](a:M.can wk at_=J_)(b:∀w',St w0 w' (f (bH g (M.ad wk at_ 1)))->k 0 w'):eH #[I_ at_] (A_ g) wk w k:=by
 unfold eH Bw;with_reducible repeat' (first|refine Iy h ?_|refine aM h λgx w h=>?_|refine VR (M:=M) h a λw h=>?_|fail)
 exact b w h.drop
def ate{k:Int×Int->ap}(h:St w0 w L)[a2:At L (bH g) M f](a:M.can wk at_=J_)(b:∀w',St w0 w' (f (bH g (M.tick wk)))->k (M.get at_,0) w'):oT #[I_ at_] (A_ g) wk w k:=by
 unfold oT FO;with_reducible repeat' (first|refine Iy h ?_|refine aM h λgx w h=>?_|refine ldc (M:=M) h a λw h=>?_|fail)
 exact b w h.drop
def ak9{k:Bool->ap}(h:St w0 w L)[a2:At L (bH g) M f](b:M.given at_=J_)(c:∀w',St w0 w' L->k (M.get at_==s) w'):jX #[I_ at_] (A_ g) s w k:=by
 unfold jX yj;have a:=b;unfold bJ.given at a;simp only[decide_eq_true_eq]at a;refine zE λgx w h=>?_;refine bK (gq a.1) ?_
 refine n8<|axB h ?_;refine n8 ?_;refine bK (gq a.2) ?_
 refine n8<|KG h ?_;rw[HK b];exact c w h.drop
structure Wt where
 how:Int
 seen:Int
def Wt.cells(at_:Int)(x:Wt):List Value:=[I_ at_,I_ x.how,I_ x.seen]
def axJ{k:Option P_->ap}(h:St w0 w L)(a:∀ga w',St w0 w' (au ga (Wt.cells at_ ⟨0,0⟩)::L)->k (A_ ga) w'):lp #[I_ at_] w k:=by
 unfold lp;refine zE λgx w h=>?_;refine⟨rfl,?_⟩;refine zE λgx w h=>a _ w (h.rm 1 rfl)
variable{k:Int->ap}{x:Wt}
def acF(h:St w0 w (au g (x.cells at_)::bH n M::R))(a:M.can wk at_=J_)(b:∀w',St w0 w' (au g (Wt.cells at_ ⟨1,M.get at_⟩)::bH n (M.tick wk)::R)->k 0 w'):cM (A_ g) (A_ n) wk w k:=by
 unfold cM BB;refine n8 ?_;refine atd h a λw h=>pS λw h=>b w h
def anm(h:St w0 w L)[a:At L (au g) (x.cells at_) f](b:∀w',St w0 w' (f (au g (Wt.cells at_ ⟨if x.how=1 then 2 else x.how,x.seen⟩)))->k (if x.how=1 then 0 else 19) w'):fh (A_ g) w k:=by
 unfold fh;refine n8<|ax (λhb=>?_) λhb=>?_
 .have hb:x.how≠1:=by simpa using hb
  rw[HQ hb,HQ hb]at b;exact b w (h.same a)
 .have hb:x.how=1:=by simpa using hb
  rw[HK hb,HK hb]at b;refine pS λw h=>b w h
def ae7{k:Unit->ap}(h:St w0 w L)[a:At L (au g) (x.cells at_) f](b:∀w',St w0 w' (f (au g (Wt.cells at_ ⟨0,x.seen⟩)))->k () w'):eu (A_ g) w k:=by
 unfold eu;refine pS λw h=>b w h
def Wt.parked(x:Wt)(M:bJ)(at_:Int):Bool:=x.how==2&&M.get at_==x.seen
theorem acG{k:Bool->ap}(h:St w0 w L)[a:At L (au g) (x.cells at_) f][a2:At L (bH n) M f'](c:M.given at_=J_)(b:∀w',St w0 w' L->k (x.parked M at_) w'):cQ (A_ g) (A_ n) w k:=by
 unfold cQ zY;refine pS λw h=>?_;unfold Wt.parked at b;refine ax (λhb=>?_) λhb=>?_
 .rw[hb,Oo]at b;refine n8<|ak9 h c b
 .grind
def bit(wk:Int)(times:Int):Int:=sD B_ times wk
def aiJ(h:St w0 w L)[a2:At L (bH g) M f](c:0<=wk/\wk<=16)(a:M.can wk at_=J_)(b:∀w',St w0 w' (f (bH g (M.ad wk at_ (bit wk y))))->k 0 w'):iC #[I_ at_] (A_ g) wk y w k:=by
 unfold iC FP;refine zE λgx w h=>?_;refine aU (by simp;omega) ?_
 refine pS λw h=>?_;refine Gf af ?_;with_reducible repeat' (first|refine VR (M:=M) h a λw h=>?_|fail)
 exact b w h.drop
def aoZ(h:St w0 w L)[a2:At L (bH g) M f](a:0<=wk/\wk<=16)(b:M.can wk at_=J_)(hk:∀w',St w0 w' (f (bH g (M.ad wk at_ (bit wk 1))))->k 0 w'):nK #[I_ at_] (A_ g) wk w k:=by
 unfold nK Ey;refine zE λgx w h=>aiJ h a b λw h=>n8<|hk w h.drop
def ao0(h:St w0 w L)[a2:At L (bH g) M f](a:0<=wk/\wk<=16)(b:M.can wk at_=J_)(hk:∀w',St w0 w' (f (bH g (M.ad wk at_ (bit wk (-1)))))->k 0 w'):nL #[I_ at_] (A_ g) wk w k:=by
 unfold nL Ez;refine zE λgx w h=>aiJ h a b λw h=>n8<|hk w h.drop
variable{k:Int×Int->ap}
def ao1(h:St w0 w L)[a2:At L (bH g) M f](b:M.OK)(a:M.can wk (at_+0)=J_)(c:∀w',St w0 w' (f (bH g (M.tick wk)))->k (M.get (at_+0),0) w'):jy #[I_ at_] (A_ g) wk w k:=by
 unfold jy wY;refine zE λgx w h=>?_;rw[y4 (E_ (pe a)) b];with_reducible repeat' (first|refine ldc (M:=M) h a λw h=>?_|fail)
 exact c w h.drop
def ao2(h:St w0 w L)[a2:At L (bH g) M f](b:M.OK)(a:M.can wk (at_+1)=J_)(c:∀w',St w0 w' (f (bH g (M.tick wk)))->k (M.get (at_+1),0) w'):jz #[I_ at_] (A_ g) wk w k:=by
 unfold jz wZ;refine zE λgx w h=>?_;rw[y4 (E_ (pe a)) b];with_reducible repeat' (first|refine ldc (M:=M) h a λw h=>?_|fail)
 exact c w h.drop
def aiK(h:St w0 w L)[a2:At L (bH g) M f](b:M.OK)(a:M.can wk (at_+2)=J_)(c:∀w',St w0 w' (f (bH g (M.tick wk)))->k (M.get (at_+2),0) w'):iz #[I_ at_] (A_ g) wk w k:=by
 unfold iz uH;refine zE λgx w h=>?_;rw[y4 (E_ (pe a)) b];with_reducible repeat' (first|refine ldc (M:=M) h a λw h=>?_|fail)
 exact c w h.drop
def ao3{k:Bool×Int->ap}(h:St w0 w L)[a2:At L (bH g) M f](b:M.OK)(a:M.can wk (at_+0)=J_)(c:∀w',St w0 w' (f (bH g (M.cs wk (at_+0) 0 1).1))->k ((M.cs wk (at_+0) 0 1).2,0) w'):jw #[I_ at_] (A_ g) wk w k:=by
 unfold jw wM;refine zE λgx w h=>?_;rw[y4 (E_ (pe a)) b];with_reducible repeat' (first|refine ank (M:=M) h a λw h=>?_|fail)
 exact c w h.drop
def axK{k:Int->ap}(h:St w0 w L)[a2:At L (bH g) M f](b:M.OK)(a:M.can wk (at_+1)=J_)(c:∀w',St w0 w' (f (bH g ((M.tick wk).put (at_+1) v)))->k 0 w'):kH #[I_ at_] (A_ g) wk v w k:=by
 unfold kH Az;refine zE λgx w h=>?_;rw[y4 (E_ (pe a)) b];with_reducible repeat' (first|refine stc (M:=M) h a λw h=>?_|fail)
 exact c w h.drop
def axL{k:Bool×Int->ap}(h:St w0 w L)[a2:At L (bH g) M f](b:M.OK)(d:2<=s/\s<=4)(a:M.can wk (at_+0)=J_)(c:∀w',St w0 w' (f (bH g (M.cs wk (at_+0) 1 s).1))->k ((M.cs wk (at_+0) 1 s).2,0) w'):kI #[I_ at_] (A_ g) wk s w k:=by
 unfold kI AA;refine zE λgx w h=>?_;refine aU (by simp;omega) ?_
 refine n8 ?_;rw[y4 (E_ (pe a)) b];with_reducible repeat' (first|refine ank (M:=M) h a λw h=>?_|fail)
 exact c w h.drop
variable{k:Int->ap}
def aiL(h:St w0 w L)[a2:At L (bH g) M f](b:M.OK)(d:0<=wk/\wk<=16)(a:M.can wk (at_+2)=J_)(c:∀w',St w0 w' (f (bH g (M.ad wk (at_+2) (bit wk y))))->k 0 w'):dN #[I_ at_] (A_ g) wk y w k:=by
 unfold dN yR;refine zE λgx w h=>?_;refine aU (by simp;omega) ?_
 refine pS λw h=>?_;refine Gf af ?_;rw[y4 (E_ (pe a)) b];with_reducible repeat' (first|refine VR (M:=M) h a λw h=>?_|fail)
 exact c w h.drop
def atf(h:St w0 w L)[a2:At L (bH g) M f](a:M.OK)(b:0<=wk/\wk<=16)(c:M.can wk (at_+2)=J_)(hk:∀w',St w0 w' (f (bH g (M.ad wk (at_+2) (bit wk 1))))->k 0 w'):jZ #[I_ at_] (A_ g) wk w k:=by
 unfold jZ yS;refine zE λgx w h=>aiL h a b c λw h=>n8<|hk w h.drop
def ao4(h:St w0 w L)[a2:At L (bH g) M f](a:M.OK)(b:0<=wk/\wk<=16)(c:M.can wk (at_+2)=J_)(hk:∀w',St w0 w' (f (bH g (M.ad wk (at_+2) (bit wk (-1)))))->k 0 w'):iE #[I_ at_] (A_ g) wk w k:=by
 unfold iE xg;refine zE λgx w h=>aiL h a b c λw h=>n8<|hk w h.drop
def aiM{k:Int×Int×Int->ap}(h:St w0 w L)[a2:At L (bH g) M f](b:M.OK)(c:M.given (at_+0)=J_)(d:M.given (at_+1)=J_)(h2:M.given (at_+2)=J_)
  (a:∀w',St w0 w' L->k (M.get (at_+0),if M.get (at_+0)<2 then 0 else M.get (at_+1),M.get (at_+2)) w'):dz #[I_ at_] (A_ g) w k:=by
 unfold dz yh;with_reducible repeat' (first|refine aM h λgx w h=>?_|refine I8 ?_)
 refine QI ?_;refine⟨4,?_⟩;unfold jV;refine n8 ?_;rw[y4 (E_ c) b];refine KG h ?_;rw[HK c];refine uu af e7<|pS λw h=>?_;unfold jV;refine n8 ?_;rw[show(aF B_ ((0:Int)+1))=1 by decide,y4 (E_ d) b]
 refine KG h ?_;rw[HK d];refine uu af e7<|pS λw h=>?_;unfold jV;refine n8 ?_;rw[show(aF B_ ((1:Int)+1))=2 by decide,y4 (E_ h2) b]
 refine KG h ?_;rw[HK h2];refine uu af e7<|pS λw h=>?_;unfold jV;refine n8<|ax (λhb=>?_) λhb=>?_
 .have hb:M.get (at_+0)<2:=of_decide_eq_true hb;rw[HK hb]at a;refine pS λw h=>a w h.drop.drop
 .have hb:¬M.get (at_+0)<2:=of_decide_eq_false hb;rw[HQ hb]at a;refine pS λw h=>a w h.drop.drop
structure Kt where
 parent:Int
 nth:Int
 kids:List Int
 deriving DecidableEq
def oc(p:Kt×Sl):List Value:=[I_ p.1.parent,I_ p.1.nth,S_ p.2]
def zf(p:Kt×Sl):HP:=bG 1 p.2 (ints p.1.kids)
def Da(g:Nat)(T:List Kt):HP:=Gt λq:Sl×List (Kt×Sl)=>Kf (q.2.map (·.1)=T) (l9 [au g [S_ q.1],rws 3 q.1 (q.2.map oc),jO zf q.2])
variable{T:List Kt}
def S5(h:St w0 w (Da g T::R)):∃(s:Sl) (l:List (Kt×Sl)),l.map (·.1)=T/\St w0 w (au g [S_ s]::rws 3 s (l.map oc)::jO zf l::R):=by
 obtain⟨q,h⟩:=h.some;obtain⟨b,h⟩:=h.pure;exact⟨q.1,q.2,b,h.open⟩
variable{l:List (Kt×Sl)}
def Y7{s:Sl}(b:l.map (·.1)=T)(h:St w0 w (au g [S_ s]::rws 3 s (l.map oc)::jO zf l::R)):St w0 w (Da g T::R):=
 St.ex (s,l) (St.YA b (St.shut h))
def Bb(T:List Kt)(s:Int):Bool:=L_ (0<=s/\s<T.length)
variable{k:Bool->ap}
variable{zp:P_}{x0:Int->ap}
def VS(h:St w0 w L)[a:At L (Da g) T f](q:w.cell? zp=G_ (I_ s))(e:Bb T s=K_->k K_ w)(h2:Bb T s=J_->x0 (aF B_ (wk+1)) w):
  aJ B_ w zp λj=>cz (S:=Bool) (λm=>an ((eA (G_ (⟨g,0,H_⟩:P_)))||(decide (j<(0:Int)))) (m true w) (nn (A_ g) λr=>cy w (aY r 0) λt=>(m (L_ (j>=((t.n:Nat):Int))) w))) λu b=>an u (k K_ b) (x0 (aF B_ (wk+(1:Int))) b):=by
 refine uZ q (QI ?_);obtain⟨R,v,z⟩:=a.out;obtain⟨sl,l,x,o⟩:=S5 (v h);have c:=(pg (sz:=3) (s:=sl) o).2 af;have y:T.length=l.length:=by rw[<-x];simp
 simp only[U']at c;refine ax (λhb=>?_) λhb=>?_
 .have hb:s<0:=by simpa using hb
  exact bK rfl (e (by simp[Bb];omega))
 .have hb:¬s<0:=by simpa using hb
  refine bc (aS o rfl ?_);refine ax (λd=>?_) λd=>?_
  .have d:s>=((sl.n:Nat):Int):=of_decide_eq_true d;exact e (by simp[Bb];omega)
  .have d:¬s>=((sl.n:Nat):Int):=of_decide_eq_false d;exact h2 (by simp[Bb];omega)
def ann(h:St w0 w L)[a:At L (Da g) T f][a':At L (au ga) [I_ s] f'](b:k (Bb T s) w):dG (A_ g) ⟨A_ ga,1,1⟩ w k:=by
 unfold dG;refine⟨2,?_⟩;unfold jV;have hb:=h.au (g:=ga);refine bK rfl ⟨⟨af,by show(0:Int)<1;decide⟩,VS h (by rw[dg,hb.cell];rfl) (λe=>?_) λe=>?_⟩
 .rw[e]at b;exact b
 .rw[e]at b;unfold jV;exact aU rfl b
def atg(h:St w0 w L)[a:At L (Da g) T f][a':At L (au ga) [I_ s,I_ y] f'](b:k (Bb T s&&Bb T y) w):dG (A_ g) ⟨A_ ga,2,2⟩ w k:=by
 unfold dG;refine⟨3,?_⟩;unfold jV;have hb:=h.au (g:=ga);refine bK rfl ⟨⟨af,by show(0:Int)<2;decide⟩,VS h (by rw[dg,hb.cell];rfl) (λe=>?_) λe=>?_⟩
 .rw[e]at b;exact b
 .rw[e,Oo]at b;unfold jV;refine bK rfl ⟨⟨e7,by show(1:Int)<2;decide⟩,VS h (by rw[dg,hb.cell];rfl) (λe=>?_) λe=>?_⟩
  .rw[e]at b;exact b
  .rw[e]at b;unfold jV;exact aU rfl b
def GV(T:List Kt)(x:Int):Option Kt:=if 0<=x then T[x.toNat]? else H_
variable{x:Kt}
def xP(h:GV T s=G_ x):Bb T s=J_/\0<=s/\T[s.toNat]?=G_ x:=by
 unfold GV at h;split at h
 .have:=(kB.1 h).1;exact⟨by simp[Bb];omega,af,h⟩
 .cases h
def acH(h:Bb T s=J_):∃x,GV T s=G_ x:=by
 unfold Bb at h;simp only[decide_eq_true_eq]at h;exact⟨T[s.toNat]' af,by unfold GV;rw[HK h.1,iH]⟩
theorem map_fst(a:l.map (·.1)=T)(h:T[g]?=G_ x):∃s,l[g]?=G_ (x,s):=by grind
def ath{c:Int->Prop}(h:St w0 w L)[a:At L (Da g) T f](hs:GV T s=G_ x)(b:c x.parent):
  cy w (aY ⟨g,0,H_⟩ 0) λd=>cN d s 3 λe=>aJ B_ w (aY e 0) c:=by
 obtain⟨R,i,hb⟩:=a.out;obtain⟨sl,l,j,h2⟩:=S5 (i h);obtain⟨_,k,m⟩:=xP hs;obtain⟨n,hi⟩:=map_fst j m;exact aS h2 rfl (rI h2 k (by rw[l8,hi];rfl) rfl b)
def acI(T:List Kt):Prop:=∀(i:Nat) (x:Kt),T[i]?=G_ x-> -1<=x.parent/\x.parent<i/\(x.parent= -1->i=0)
def kup(T:List Kt)(y:Int):Nat->Int->Int
 |0,x=>x
 |n+1,x=>if x>y then(match GV T x with|some t=>kup T y n t.parent|none=>x)else x
def Sh(T:List Kt)(x y:Int):Bool:=Bb T x&&Bb T y&&(kup T y T.length x==y)
def acJ(o:acI T){y:Int}(p:0<=y){k:Bool->ap}:∀(n:Nat) (x:Int) (w:N_),x<n->x<T.length->St w0 w L->[a:At L (Da g) T f]->k (kup T y n x==y) w->
  ∃m,jV (S:=Int) (λq e c=>an (L_ (e>y)) (nn (G_ (⟨g,0,H_⟩:P_)) λr=>cy c (aY r 0) λu=>cN u e 3 λi=>aJ B_ c (aY i 0) λj=>(q j c)) (k (e==y) c)) m x w
 |0,x,w,h0,_,h,_,b=>by
  refine⟨1,?_⟩;unfold jV;have b:k (x==y) w:=b;exact aU (by simp;omega) b
 |n+1,x,w,h0,hl,h,a,b=>by
  unfold kup at b;by_cases d:x>y
  .rw[HK d]at b;obtain⟨t,l⟩:=acH (T:=T) (s:=x) (by simp[Bb];omega)
   rw[l]at b;obtain⟨_,v,z⟩:=xP l;have:=o _ t z;obtain⟨m,A⟩:=acJ o p n t.parent w af af h b;refine⟨m+1,?_⟩;unfold jV;exact bK (gq d) (bc (ath h l A))
  .rw[HQ d]at b;refine⟨1,?_⟩;unfold jV;exact aU (gq d) b
variable{x:Int}
def aai(h:St w0 w L)[a:At L (Da g) T f](c:acI T)(b:∀w',St w0 w' L->k (Sh T x y) w'):jQ (A_ g) x y w k:=by
 unfold jQ zZ;refine aM h λga w h=>atg h ?_;have b:=b w h.drop;unfold Sh at b;cases hb:Bb T x&&Bb T y with
 |false=>rw[hb]at b;exact bK rfl b
 |true=>
  rw[hb,Oo]at b;simp only[iY,Bb,decide_eq_true_eq]at hb;exact aU rfl (acJ c hb.2.1 T.length x w hb.1.2 hb.1.2 h b)
def ao5{k:Option P_->ap}(h:St w0 w L)(a:∀g w',St w0 w' (Da g []::L)->k (A_ g) w'):vj w k:=by
 unfold vj;refine aM h λg w h=>a g w<|Y7 (s:=⟨H_,0,0⟩) (l:=[]) rfl ?_;have h2:=h.DJ 3;have b:St w0 w (rws 3 ⟨H_,0,0⟩ (([]:List (Kt×Sl)).map oc)::au g [IC H_ 0 0]::L):=St.YA (by intro e c;cases c) h2
 exact(QW b).perm Hp
def elK:ET Tryz.prog 188 3 40 (.agg #[I_ 0,I_ 0,IC H_ 0 0]):=⟨aZ,aZ⟩
def ati:ET Tryz.prog 69 1 8 (I_ 0):=⟨aZ,aZ⟩
def Hz(T:List Kt)(p:Int):List Kt:=match GV T p with
 |some t=>T.set p.toNat {t with kids:=t.kids++[(T.length:Int)]}++[⟨p,t.kids.length,[]⟩]
 |none=>T++[⟨p,0,[]⟩]
theorem axN{p:Int}{k:Int×Int->ap}(h:St w0 w L)[a:At L (Da g) T f](y:(p= -1/\T=[])\/∃t,GV T p=G_ t/\t.kids.length<=1000000)(V:T.length<=1000000)
  (D:∀w',St w0 w' (f (Da g (Hz T p)))->k ((T.length:Nat),0) w'):pP (A_ g) p w k:=by
 unfold pP Hy;refine aU rfl ?_;obtain⟨R,F,hb⟩:=a.out;replace h:=F h;refine bP (λb w=>b=K_/\St w0 w (Da g T::R)) (λJ e=>?_) ?_
 .rcases y with⟨rfl,rfl⟩|⟨t,j,_⟩
  .exact aU rfl (e _ _ ⟨rfl,h⟩)
  .have B:=xP j;refine bK (by simp;omega) (aM h λga w h=>ann (T:=T) h (e _ _ ⟨by rw[B.1];rfl,h.drop⟩))
 clear h;rintro _ w ⟨rfl,u⟩;obtain⟨s,l,v,h⟩:=S5 u;clear u;have m:=(pg (sz:=3) (s:=s) h).2 af;have G:T.length=l.length:=by rw[<-v];simp
 simp only[U']at m;refine aU rfl (bP (λb w'=>b=K_/\w'=w) (λJ e=>?_) ?_)
 .rcases y with⟨rfl,rfl⟩|⟨t,j,_⟩
  .refine bK rfl (bc (aS h rfl (e _ _ ⟨?_,rfl⟩)));grind
  .have B:=xP j;exact aU (by simp;omega) (e _ _ ⟨rfl,rfl⟩)
 rintro _ _ ⟨rfl,rfl⟩;refine aU rfl<|zE λgx w h=>?_;obtain⟨i,H⟩:∃n,n=gx:=⟨_,rfl⟩;subst H;refine bP (fun(_:Unit) w=> ∃(l':List (Kt×Sl)) (x:Kt),l'.map (·.1)++[x]=Hz T p/\l'.length=l.length/\x.kids=[]/\St w0 w (au i (oc (x,⟨H_,0,0⟩))::au g [S_ s]::rws 3 s (l'.map oc)::jO zf l'::R)) (λJ e=>?_) ?_
 .rcases y with⟨rfl,rfl⟩|⟨t,j,z⟩
  .refine aU rfl (e _ _ ⟨l,⟨-1,0,[]⟩,?_,rfl,rfl,h⟩);rw[v];rfl
  .obtain⟨_,u,I⟩:=xP j;obtain⟨q,hi⟩:=map_fst v I;refine bK (by simp;omega) ?_
   have d:(l.map oc)[p.toNat]?=G_ (oc (t,q)):=by rw[l8,hi];rfl
   have r:=h.front 3 rfl;simp only[I7]at r;have h:St w0 w (bG 1 q (ints t.kids)::jO zf (l.eraseIdx p.toNat)::au i _::au g _::rws 3 s (l.map oc)::R):=BW r hi;have K:=qY (s:=q) h;refine n8 ?_;refine rix (s:=s) h u d af λW o C hs=>IY (by rw[dg];exact C h d 2 _ rfl) ?_
   refine pS λw h=>?_;refine IY (by rw[dg];exact C h d 2 _ rfl) ?_
   refine zE λgx w h=>?_;refine I9 h ati aZ rfl (gq z) af λs' w h N=>?_
   rw[dg];refine hs h inferInstance d 2 _ _ af rfl λw h=>?_;have h:=h.rm 0 rfl;refine e _ _ ⟨l.set p.toNat ({t with kids:=t.kids++[(T.length:Int)]},s'),⟨p,t.kids.length,[]⟩,?_,bf,rfl,?_⟩
   .unfold Hz;rw[j];simp[List.map_set,v]
   .have O:(l.map oc).set p.toNat ((oc (t,q)).set 2 (S_ s'))=(l.set p.toNat ({t with kids:=t.kids++[(T.length:Int)]},s')).map oc:=by
     rw[List.map_set];rfl
    have P:((s.n:Nat):Int)=T.length:=af;have h:St w0 w (zf ({t with kids:=t.kids++[(T.length:Int)]},s')::jO zf (l.eraseIdx p.toNat)::au i (oc (⟨p,t.kids.length,[]⟩,⟨H_,0,0⟩))::au g [S_ s]::rws 3 s ((l.set p.toNat ({t with kids:=t.kids++[(T.length:Int)]},s')).map oc)::R):=by
     rw[<-O];have e2:ints (t.kids++[(T.length:Int)])=ints t.kids++[I_ ((s.n:Nat):Int)]:=by rw[P];simp[ints]
     unfold zf;simp only[e2];have Q:((q.n:Nat):Int)=(t.kids.length:Nat):=by simp[ints]at K;omega
     unfold oc;simp only[<-Q];exact h
    exact(WY h (kB.1 hi).1).perm Hp
 rintro _ w ⟨l',x,hl',S,A,h⟩;refine pS λw h=>?_;refine Jw rfl rfl<|zE λgx w h=>?_;refine Z8 (s:=s) h elK aZ rfl af (by simp[oc,Value.oneCell']) (by simp;omega) af λs' w h N=>?_
 refine pS λw h=>?_;have h:=(h.rm 0 rfl).rm 0 rfl;rw[show((s.n:Nat):Int)=T.length by omega]
 refine D w (hb (Y7 (s:=s') (l:=l'++[(x,⟨H_,0,0⟩)]) (gq hl') ?_))
 have h2:St w0 w (zf (x,⟨H_,0,0⟩)::au g [S_ s']::rws 3 s' (l'.map oc++[oc (x,⟨H_,0,0⟩)])::jO zf l'::R):=by
  have:=h.DJ 1;unfold zf;rw[A];exact this
 have U:=QV (h2.perm (M:=zf (x,⟨H_,0,0⟩)::jO zf l'::au g [S_ s']::rws 3 s' (l'.map oc++[oc (x,⟨H_,0,0⟩)])::R) Hp);rw[VK];exact U.perm Hp
variable{Y:Nat->bt}{c:M_->ap}
variable{zh:List M_}
def My{d:(Nat->bt)->bt}(h:d Y zh w c):Df [(n,d)] n Y zh w c:=by
 unfold Df;rw[Nat.beq_refl];exact h
abbrev bwI:List (Nat×((Nat->bt)->bt)):=[(jh,ji)]
abbrev allI:List (Nat×((Nat->bt)->bt)):=[(m3,m4)]
variable{a:P_}{v:M_}
def atj(h:om Y v a w λr w=>c (J3 #[]) w):ji Y [v,IB (G_ a)] w c:=h
def ao6(h:Cl Y v a w λr w=>c (J3 #[]) w):m4 Y [v,IB (G_ a)] w c:=h
variable{body:Int×Int->N_->(ap)->Prop}{s:Sl}
theorem aiN{G:List Int->HP}{fin:Nat->ap}(h:St w0 w (G []::bG 1 s (ints xs)::R))(K:xs.length<=1000000)
  (hb:∀(zs:List Int) (i x:Int) (w1:N_) (o:List HP) (C:ap),(∃ys,xs=ys++x::zs)->St w0 w1 (G zs::o)->(∀p,St w0 p (G (x::zs)::o)->C p)->body (i,x) w1 C)
  (t:∀D w',St w0 w' (obj D (.deferred (G_ []))::G xs::bG 1 s (ints xs)::R)->fin D w'):
  dw s w λv w=>Cg (Df bwI) [.i B_,.i B_] v w body fin:=by
 unfold dw;have u:s.n=xs.length:=by have:=qY (s:=s) h;simpa using this
 refine aM h λq w h=>S1 h λb D d w h=>My (atj ?_);unfold om qv;refine n8 ?_;have y:aF B_ (((s.n:Nat):Int) - 1)=((xs.length:Nat):Int) - 1:=by rw[u,kg ⟨af,af⟩]
 refine⟨xs.length+1,?_⟩;show jV _ _ (aF B_ (((s.n:Nat):Int) - 1)) _;rw[y];have key:∀(m:Nat) (w:N_),m<=xs.length->St w0 w (obj b (d .ready)::obj D (.deferred (G_ []))::au q #[Value.slice s.a s.n s.c].toList::G (xs.drop m)::bG 1 s (ints xs)::R)->
   jV (λz j e=>an (L_ (j>=(0:Int))) (cy e ⟨q,0,H_⟩ λA=>cN A j 1 λB=>aJ B_ e B λF=>nj (J0 [] (rY b d [.i B_,.i B_] body)) (.func (.yield b) #[] #[]) #[(I_ j),(I_ F)] e λH k=>Ir H λl=>
    an (!l) (k.heap[b]?=G_ (d .ready)/\fin D (k.putObj b (d .exhausted))) (z (aF B_ (j - (1:Int))) k)) (e.heap[b]?=G_ (d .ready)/\fin D (e.putObj b (d .exhausted)))) (m+1) ((m:Int) - 1) w:=by
  intro m;induction m with
  |zero=>
   intro w _ h;unfold jV;refine aU e7<|ace h λw h=>t D w ?_;have h:=(h.rm 2 rfl).rm 0 rfl;simpa using h
  |succ m ih=>
   intro w L h;have f:m<xs.length:=af;have r:xs.drop m=xs[m]::xs.drop (m+1):=TT f;unfold jV;refine bK bf<|n8 ?_;have I:(((m+1:Nat):Int) - 1)=(m:Int):=af;rw[I];refine vI h af (x:=xs[m]) (by simp[ints,f]) ?_
   refine QS<|amZ ((m:Int),xs[m]) (λc J=>J) h λw h=>?_;have h:=h.front 3 rfl;simp only[I7]at h;refine hb (xs.drop (m+1)) m xs[m] w _ _ ⟨xs.take m,?_⟩ h λw h=>?_
   .rw[<-r,List.take_append_drop]
   refine⟨DM h,?_⟩;replace h:=AV (g:=b) (d .ready) h;generalize w.putObj b (d .ready)=w at h ⊢;refine ags<|n8 ?_;rw[kg ⟨af,af⟩];refine ih w af ?_;rw[r];exact h.perm Hp
 grind
inductive Dfs (T:List Kt):List Int->List (Int×Int)->Prop
 |nil:Dfs T [] []
 |cons {x:Int} {t:Kt} {st:List Int} {l:List (Int×Int)}:GV T x=G_ t->Dfs T (t.kids++st) l->Dfs T (x::st) ((x,t.parent)::l)
variable{l:List (Int×Int)}
def Dfs.len(h:Dfs T xs l):xs.length<=l.length:=by
 induction h with
 |nil=>simp
 |cons _ _ ih=>simp only[uv,x_]at*;omega
theorem atk{G:List (Int×Int)->HP}{fin:Nat->ap}(h:St w0 w (G []::Da g T::R))(Y:∀(i:Nat) (x:Kt),T[i]?=G_ x->x.kids.length<=1000000)(hl:l.length<=100000)
  (H:if T.length=0 then l=[]else Dfs T [0] l)
  (hb:∀(done rest:List (Int×Int)) (p:Int×Int) (w1:N_) (J:List HP) (C:ap),l=done++p::rest->St w0 w1 (G done::J)->(∀Q,St w0 Q (G (done++[p])::J)->C Q)->body p w1 C)
  (S:∀D w',St w0 w' (obj D (.deferred (G_ []))::G l::Da g T::R)->fin D w'):
  iX (A_ g) w λv w=>Cg (Df allI) [.i B_,.i B_] v w body fin:=by
 unfold iX;refine aM h λga w h=>?_;refine S1 h λf D d w h=>?_;refine My (ao6 (v:= .func (.yield f) #[] #[]) (a:=⟨ga,0,H_⟩) ?_);unfold Cl EF;refine zE λgx w h=>?_;refine ann (g:=g) (T:=T) h ?_;by_cases m:T.length=0
 .rw[HK m]at H;subst H;refine bK (by simp[Bb,m]) ?_
  refine ace (g:=f) (o:=d .ready) (o':=d .exhausted) (c:=fin D) h λw h=>S D w ?_;exact((h.rm 0 rfl).rm 2 rfl).rm 0 rfl
 rw[HQ m]at H;refine aU (by simp[Bb];omega) ?_
 have h:=h.rm 0 rfl;simp only[I7]at h;refine aM h λU w h=>aM h λgl w h=>?_;refine pS λw h=>?_;have h:=h.front 1 rfl;simp only[I7]at h;have h:=St.asS (g:=U) (n:=1) (sz:=1) (cs:=[I_ 0]) h (by rfl) af (by intro x A;simp at A;subst A;rfl)
 have h:=QR h;refine DN (G:=List (Int×Int)×List Int×List (Int×Int)×Sl) (λq x w=>l=q.2.2.1++q.1/\Dfs T q.2.1 q.1/\
   St w0 w (I6 x.2::bG 1 q.2.2.2 (ints q.2.1.reverse)::au gl [S_ q.2.2.2]::obj f (d .ready)::obj D (.deferred (G_ []))::au ga [Value.pointer (A_ g)]::G q.2.2.1::Da g T::R)) (λq=>q.1.length)
  (g:=(l,[0],[],⟨A_ U,1,1⟩)) ⟨rfl,H,h⟩ ?_
 rintro⟨rest,st,done,s⟩ ⟨_,ds⟩ w ⟨k,j,h⟩ C V;dsimp only at k j h V;have r:=qY (s:=s) (vs:=ints st.reverse) h;have r:s.n=st.length:=by simpa using r
 refine n8 ?_;have B:=j.len;have K:rest.length<=100000:=by grind
 cases j with
 |nil=>
  refine aU (by simp[r]) ?_
  refine LL h λw h=>?_;rw[n_]at k;subst k;refine ace (g:=f) (o:=d .ready) (o':=d .exhausted) (c:=fin D) h λw h=>S D w ?_;exact(((h.rm 0 rfl).rm 0 rfl).rm 0 rfl).rm 1 rfl
 |@cons x t st rest A j=>
  have r:s.n=st.length+1:=by simpa using r
  have u:=xP A;simp only[x_]at B K;refine bK (by simp[r]) ?_
  refine n8 ?_;have W:aF B_ (((s.n:Nat):Int) - 1)=(st.length:Nat):=by rw[r,kg ⟨af,af⟩];omega
  show cN s (aF B_ (((s.n:Nat):Int) - 1)) 1 _;rw[W];refine vI (s:=s) (vs:=ints (x::st).reverse) h af (x:=x) (by simp[ints]) ?_
  refine n8 ?_;show Th s 1 0 (aF B_ (((s.n:Nat):Int) - 1)) _;rw[W];refine am1 (s:=s) (vs:=ints (x::st).reverse) h af (by simp;omega) λs2 IZ h=>?_
  have Z:(ints (x::st).reverse).take ((st.length:Nat):Int).toNat=ints st.reverse:=by simp_all
  rw[Z]at h;refine pS λw h=>?_;refine ath (T:=T) h A ?_;refine QS ?_;refine amZ (l:=f) (R:=d) (kk:=[.i B_,.i B_]) (x,t.parent) (λc hc=>hc) h λw h=>?_;have h:=h.front 6 rfl;simp only[I7]at h;refine hb done rest (x,t.parent) w _ _ k h λw h=>?_;refine⟨DM (g:=f) (o:=d .busy) h,?_⟩;replace h:=AV (g:=f) (o:=d .busy) (d .ready) h;generalize w.putObj f (d .ready)=w at h ⊢;refine ags ?_;refine n8 ?_;have h:=h.front 7 rfl;simp only[I7]at h;obtain⟨b,lk,F,h⟩:=S5 h;obtain⟨y,hi⟩:=map_fst F u.2.2;refine n8 ?_;refine rS (s:=b) (sz:=3) (es:=lk.map oc) h u.2.1 (e:=oc (t,y)) (by rw[l8,hi];rfl) rfl ?_
  have h:=h.front 2 rfl;simp only[I7]at h;have h:St w0 w (bG 1 y (ints t.kids)::jO zf (lk.eraseIdx x.toNat)::au g [S_ b]::rws 3 b (lk.map oc)::G (done++[(x,t.parent)])::I6 ds::bG 1 s2 (ints st.reverse)::au gl [S_ s2]::obj f (d .ready)::obj D (.deferred (G_ []))::au ga [Value.pointer (A_ g)]::R):=BW h hi;have L:=Y _ t u.2.2;refine aiN (w0:=w0) (G:=λzs=>Gt λq:Sl=>l9 [bG 1 q (ints (st.reverse++zs.reverse)),au gl [S_ q]]) (s:=y) (xs:=t.kids) (R:=jO zf (lk.eraseIdx x.toNat)::au g [S_ b]::rws 3 b (lk.map oc)::G (done++[(x,t.parent)])::I6 ds::obj f (d .ready)::obj D (.deferred (G_ []))::au ga [Value.pointer (A_ g)]::R)
   ?_ L (λzs i z w1 J C1 hz h Hi=>?_) λI w h=>?_
  .refine St.ex (X:=λq:Sl=>l9 [bG 1 q (ints (st.reverse++([]:List Int).reverse)),au gl [S_ q]]) s2 (St.shut ?_);simp only[List.reverse_nil,n_];exact h.perm Hp
  .obtain⟨q,h⟩:=St.some h;have h:=St.open h;simp only[S',VM]at h;refine zE λgx w h=>?_;have N:=j.len;simp only[uv]at N;obtain⟨ys,O⟩:=hz;have hzl:zs.length<=t.kids.length:=by rw[O];simp;omega
   refine I9 (s:=q) (vs:=ints (st.reverse++zs.reverse)) h ati aZ rfl (by simp;omega) af λs' w h hn=>?_
   refine pS λw h=>?_;have h:=h.rm 0 rfl;refine Hi w (St.ex (X:=λq:Sl=>l9 [bG 1 q (ints (st.reverse++(z::zs).reverse)),au gl [S_ q]]) s' (St.shut ?_));grind
  .have h:=h.front 1 rfl;simp only[I7]at h;obtain⟨q,h⟩:=St.some h;have h:=St.open h;simp only[S',VM]at h;have e4:ints (st.reverse++t.kids.reverse)=ints (t.kids++st).reverse:=by simp
   rw[e4]at h;refine V (rest,t.kids++st,done++[(x,t.parent)],q) ((),I::ds) w ⟨by rw[k];simp,j,?_⟩ bf
   have h:=h.perm (M:=obj I (.deferred (G_ []))::I6 ds::zf (t,y)::jO zf (lk.eraseIdx x.toNat)::au g [S_ b]::rws 3 b (lk.map oc)::bG 1 q (ints (t.kids++st).reverse)::au gl [S_ q]::obj f (d .ready)::obj D (.deferred (G_ []))::au ga [Value.pointer (A_ g)]::G (done++[(x,t.parent)])::R) (by unfold zf;exact Hp)
   have h:=LK h;have h:=h.perm (M:=zf (t,y)::jO zf (lk.eraseIdx x.toNat)::au g [S_ b]::rws 3 b (lk.map oc)::I6 (I::ds)::bG 1 q (ints (t.kids++st).reverse)::au gl [S_ q]::obj f (d .ready)::obj D (.deferred (G_ []))::au ga [Value.pointer (A_ g)]::G (done++[(x,t.parent)])::R) Hp;have h:=WY h (kB.1 hi).1;have P:lk.set x.toNat (t,y)=lk:=by
    apply List.ext_getElem?;grind
   rw[P]at h;have h:=Y7 F (h.perm (M:=au g [S_ b]::rws 3 b (lk.map oc)::jO zf lk::I6 (I::ds)::bG 1 q (ints (t.kids++st).reverse)::au gl [S_ q]::obj f (d .ready)::obj D (.deferred (G_ []))::au ga [Value.pointer (A_ g)]::G (done++[(x,t.parent)])::R) Hp);exact h.perm Hp
theorem aiO{k:Sl->ap}(h:St w0 w L)[a:At L (Da g) T f](b:∀(i:Nat) (x:Kt),T[i]?=G_ x->x.kids.length<=1000000)(d:l.length<=100000)
  (e:if T.length=0 then l=[]else Dfs T [0] l) (j:∀s w',St w0 w' (bG 1 s (ints (l.map (·.1)))::f (Da g T))->k s w'):fK (A_ g) w k:=by
 unfold fK EG;obtain⟨R,m,hb⟩:=a.split;have h:=h.arE m;refine aM h λg1 w h=>?_;have h:=(h.DJ 1).perm Hp;refine atk (w0:=w0) (G:=λdone=>Gt λq:Sl=>l9 [bG 1 q (ints (done.map (·.1))),au g1 [S_ q]]) (R:=R) ?_ b d e (λdone rest p w t C u h o=>?_) λD w h=>?_
 .exact St.ex ⟨H_,0,0⟩ (St.shut h)
 .obtain⟨q,h⟩:=St.some h;have h:=St.open h;simp only[S',VM]at h;refine zE λgx w h=>?_;have r:done.length<=100000:=by grind
  refine I9 h ati aZ rfl (by simp;omega) af λs' w h v=>?_
  refine pS λw h=>?_;have h:=h.rm 0 rfl;refine o w (St.ex s' (St.shut ?_));grind
 .have h:=h.front 1 rfl;simp only[I7]at h;obtain⟨q,h⟩:=St.some h;have h:=St.open h;simp only[S',VM]at h;refine n8 ?_;have h:=LK ((QR h).perm Hp);refine LL h λw h=>j q w ?_;exact(h.rm 1 rfl).under hb
structure bu where
 at_:Int
 most:Int
 b:Int
 t:Int
 ring:Rg
 x:Int
 won:Bool
 to:Rg
 copy:Option Cp
 next:Nat
 how:Int
 got:Int
 err:Int
def phs:List Nat:=[nR,r6,q4,sg,q6,q8,oE,q5,ox,r7,r8,sU,q7,sj,ql,pn,po,qF,pV,oF]
def phF(n:Nat):Value:= .func (F_ (phs.getD n oF)) #[] #[]
def bu.cells(O:bu)(p:Option P_):List Value:=[I_ O.at_,I_ O.most,I_ O.b,I_ O.t,I_ O.ring.At,I_ O.ring.DA,I_ O.x,Iq O.won,I_ O.to.At,I_ O.to.DA,IB p,phF O.next,I_ O.how,I_ O.got,I_ O.err]
def uh(g:Nat)(O:bu):HP:=match O.copy with
 |none=>au g (O.cells H_)
 |some c=>Gt λgc:Nat=>l9 [au g (O.cells (A_ gc)),Qm gc c]
def bu.read(O:bu)(M:bJ)(wk:Int):bu×bJ×Int:=
 if M.can wk (O.at_+2)then(if (Rg.of (M.get (O.at_+2))).right then({O with ring:=Rg.of (M.get (O.at_+2))},M.tick wk,0)else({O with ring:=Rg.zero},M.tick wk,11))else(O,M,10)
abbrev ID:=bu×bJ×Int×Int
section
variable (O:bu) (M:bJ) (wk:Int)
def bu.f0:ID:=({O with b:=(M.ld wk (O.at_+1)).2.1,next:=1},(M.ld wk (O.at_+1)).1,0,(M.ld wk (O.at_+1)).2.2)
def bu.f1:ID:=({O with t:=(M.ld wk O.at_).2.1,next:=2},(M.ld wk O.at_).1,0,(M.ld wk O.at_).2.2)
def bu.f2:ID:=if (O.read M wk).2.2 !=0 then((O.read M wk).1,(O.read M wk).2.1,6,(O.read M wk).2.2)
  else if L_ (wr ((O.read M wk).1.b - (O.read M wk).1.t)<(O.read M wk).1.ring.size)then({(O.read M wk).1 with next:=6},(O.read M wk).2.1,0,0)
  else if L_ ((O.read M wk).1.ring.DA>=(O.read M wk).1.most)then((O.read M wk).1,(O.read M wk).2.1,4,0)
  else({(O.read M wk).1 with next:=3},(O.read M wk).2.1,0,0)
def bu.lg:Int:=wr (O.ring.DA+1)
def bu.Mz:Rg:=⟨(M.cells.length:Nat),O.lg⟩
def bu.MA:Int:=((2 ^ O.lg.toNat:Nat):Int)
def bu.f3:ID:=if 0<=O.lg/\O.lg<=8/\M.caller wk=J_ then
   (if M.room O.MA then
    (if Sf O.ring (O.Mz M) O.t O.b=0 then({O with to:=O.Mz M,copy:=G_ (Cp.begin O.ring (O.Mz M) O.t O.b),next:=4},(M.tick wk).grow O.MA,0,0)
    else({O with to:=O.Mz M,copy:=H_,next:=4},(M.tick wk).grow O.MA,0,Sf O.ring (O.Mz M) O.t O.b))
   else(O,M,6,21))
  else(O,M,6,10)
def bu.f4(c:Cp):ID:=if c.at_=c.j2 then({O with next:=5},M,0,0)
   else if M.can wk c.spot then
    (if c.Cm then({O with copy:=G_ (c.next 0),next:=if (c.next 0).at_=c.j2 then 5 else O.next},(M.tick wk).put c.spot c.has,0,0)
    else({O with copy:=G_ (c.next (M.get c.spot))},M.tick wk,0,0))
   else(O,M,0,10)
def bu.f5:ID:=({O with ring:=O.to,next:=6},(M.st wk (O.at_+2) O.to.word).1,0,(M.st wk (O.at_+2) O.to.word).2)
def bu.f6:ID:=({O with next:=7},(M.st wk (O.ring.place O.b) O.x).1,0,(M.st wk (O.ring.place O.b) O.x).2)
def bu.f7:ID:=(O,(M.st wk (O.at_+1) (wr (O.b+1))).1,1,(M.st wk (O.at_+1) (wr (O.b+1))).2)
def bu.f8:ID:=({O with b:=(M.ld wk (O.at_+1)).2.1,next:=9},(M.ld wk (O.at_+1)).1,0,(M.ld wk (O.at_+1)).2.2)
def bu.f9:ID:=((bu.read {O with next:=10} M wk).1,(bu.read {O with next:=10} M wk).2.1,0,(bu.read {O with next:=10} M wk).2.2)
def bu.f10:ID:=({O with next:=11},(M.st wk (O.at_+1) (wr (O.b - 1))).1,0,(M.st wk (O.at_+1) (wr (O.b - 1))).2)
def bu.f11:ID:=({O with t:=(M.ld wk O.at_).2.1,next:=if L_ ((M.ld wk O.at_).2.1>wr (O.b - 1))then 14 else 12},(M.ld wk O.at_).1,0,(M.ld wk O.at_).2.2)
def bu.f12:ID:=({O with got:=(M.ld wk (O.ring.place (wr (O.b - 1)))).2.1,next:=13},(M.ld wk (O.ring.place (wr (O.b - 1)))).1,if L_ (O.t<wr (O.b - 1))then 1 else 0,(M.ld wk (O.ring.place (wr (O.b - 1)))).2.2)
def bu.f13:ID:=({O with won:=(M.VQ wk O.at_ O.t (wr (O.t+1))).2.1,next:=14},(M.VQ wk O.at_ O.t (wr (O.t+1))).1,0,(M.VQ wk O.at_ O.t (wr (O.t+1))).2.2)
def bu.f14:ID:=(O,(M.st wk (O.at_+1) O.b).1,if O.won then 1 else 3,(M.st wk (O.at_+1) O.b).2)
def bu.f15:ID:=({O with t:=(M.ld wk O.at_).2.1,next:=16},(M.ld wk O.at_).1,0,(M.ld wk O.at_).2.2)
def bu.f16:ID:=({O with b:=(M.ld wk (O.at_+1)).2.1,next:=17},(M.ld wk (O.at_+1)).1,if L_ (O.t>=(M.ld wk (O.at_+1)).2.1)then 3 else 0,(M.ld wk (O.at_+1)).2.2)
def bu.f17:ID:=((bu.read {O with next:=18} M wk).1,(bu.read {O with next:=18} M wk).2.1,0,(bu.read {O with next:=18} M wk).2.2)
def bu.f18:ID:=({O with got:=(M.ld wk (O.ring.place O.t)).2.1,next:=19},(M.ld wk (O.ring.place O.t)).1,2,(M.ld wk (O.ring.place O.t)).2.2)
def bu.f19:ID:=(O,(M.VQ wk O.at_ O.t (wr (O.t+1))).1,if !(M.VQ wk O.at_ O.t (wr (O.t+1))).2.1 then 5 else 1,(M.VQ wk O.at_ O.t (wr (O.t+1))).2.2)
def bu.run:ID:=match O.next with
 |0=>O.f0 M wk
 |1=>O.f1 M wk
 |2=>O.f2 M wk
 |3=>O.f3 M wk
 |4=>match O.copy with
  |none=>(O,M,0,2)
  |some c=>O.f4 M wk c
 |5=>O.f5 M wk
 |6=>O.f6 M wk
 |7=>O.f7 M wk
 |8=>O.f8 M wk
 |9=>O.f9 M wk
 |10=>O.f10 M wk
 |11=>O.f11 M wk
 |12=>O.f12 M wk
 |13=>O.f13 M wk
 |14=>O.f14 M wk
 |15=>O.f15 M wk
 |16=>O.f16 M wk
 |17=>O.f17 M wk
 |18=>O.f18 M wk
 |_=>O.f19 M wk
end
def bu.live(O:bu):Bool:=(O.how==0)||(O.how==2)
def bu.step(O:bu)(M:bJ)(wk:Int):bu×bJ:=
 if O.live then({(O.run M wk).1 with how:=if (O.run M wk).2.2.2=0 then(O.run M wk).2.2.1 else 6,err:=(O.run M wk).2.2.2},(O.run M wk).2.1)else(O,M)
def xH(x:Int):Prop:=0<=x/\x<=1048576
variable{k:Int->ap}{most:Int}
def Y9(h:St w0 w L)(a:∀w',St w0 w' L->k at_ w'):bj #[I_ at_,I_ most] w k:=by
 unfold bj;exact aM h λg w' h=>cr h rfl (a w' h.drop)
def AZ(a:xH at_)(h:St w0 w L)(b:∀w',St w0 w' L->k (at_+1) w'):az #[I_ at_,I_ most] w k:=by
 unfold az;unfold xH at a;refine aM h λg w' h=>cr h rfl ?_;rw[kg ⟨af,af⟩];exact b w' h.drop
def XU(a:xH at_)(h:St w0 w L)(b:∀w',St w0 w' L->k (at_+2) w'):bS #[I_ at_,I_ most] w k:=by
 unfold bS;unfold xH at a;refine aM h λg w' h=>cr h rfl ?_;rw[kg ⟨af,af⟩];exact b w' h.drop
variable{cs:List M_}{k:Int×Int->ap}{nx:M_}
def GW(h:St w0 w (au gc cs::bH n M::R))(a:ga<cs.length)(b:11<cs.length)(c:nx.oneCell'=J_)
  (d:∀w',St w0 w' (au gc ((cs.set ga (I_ (M.ld wk a').2.1)).set 11 nx)::bH n (M.ld wk a').1::R)->k (0,(M.ld wk a').2.2) w'):be (A_ gc) (A_ n) wk a' (G_ ⟨gc,ga,H_⟩) nx w k:=by
 unfold be FH;refine aa8 h λf h=>bc (j4 h rfl a λg h=>bc ?_);refine j4 h c (gq b) λe h=>d e h
def Za(h:St w0 w (au n cs::bH g M::R))(a:11<cs.length)(b:nx.oneCell'=J_)
  (c:∀w',St w0 w' (au n (cs.set 11 nx)::bH g (M.st wk a' x).1::R)->k (0,(M.st wk a' x).2) w'):dm (A_ n) (A_ g) wk a' x nx w k:=by
 unfold dm El;refine bc (j4 h b a λe h=>?_);exact Sg h λd h=>c d h
variable{O:bu}{p:Option P_}
def ag0(d:xH O.at_){k:Int->ap}(h:St w0 w (au gc (O.cells p)::bH n M::R))(a:∀w',St w0 w' (au gc ((O.read M wk).1.cells p)::bH n (O.read M wk).2.1::R)->k (O.read M wk).2.2 w'):dV (A_ gc) (A_ n) wk w k:=by
 unfold dV FJ;refine bc (qM h (by simp[bu.cells]) ?_)
 refine XU d h λe h=>?_;unfold bu.read at a;refine agW h (λc f h=>?_) λc=>?_
 .rw[HK c]at a;refine aU rfl (az8 h λi h=>?_);cases hr:(Rg.of (M.get (O.at_+2))).right with
  |true=>
   rw[HK hr]at a;rw[HK rfl];refine bc (Yz (g:=gc) h rfl (by simp[bu.cells]) (by intro v hv;simp[Rg.ag]at hv;rcases hv with rfl|rfl<;>rfl) λb h=>a b h)
  |false=>
   rw[HQ (by rw[hr];simp)]at a
   rw[HQ bf];refine bc (Yz (g:=gc) h rfl (by simp[bu.cells]) (by intro v hv;simp[Rg.ag,Rg.zero]at hv;rw[hv];rfl) λb h=>a b h)
 .rw[HQ (by rw[c];simp)]at a
  exact bK rfl (a e h)
abbrev Ov(w0:N_)(go gm:Nat)(p:Option P_)(R:List HP)(k:Int×Int->ap)(r:ID):Prop:=∀w',St w0 w' (au go (r.1.cells p)::bH gm r.2.1::R)->k (r.2.2.1,r.2.2.2) w'
def p0(a:xH O.at_)(h:St w0 w (au n (O.cells p)::bH g M::R))(b:Ov w0 n g p R k (O.f0 M wk)):ff (A_ n) (A_ g) wk w k:=by
 unfold ff wu;refine cH h λw1 h=>bc (qM h (by simp[bu.cells]) (bc ?_))
 refine AZ a h λd h=>GW h (by simp[bu.cells]) (by simp[bu.cells]) rfl λc h=>b c h
def p1(c:xH O.at_)(h:St w0 w (au n (O.cells p)::bH g M::R))(a:Ov w0 n g p R k (O.f1 M wk)):iJ (A_ n) (A_ g) wk w k:=by
 unfold iJ Bo;refine cH h λw1 h=>bc (qM h (by simp[bu.cells]) (bc ?_))
 refine Y9 h λd h=>GW h (by simp[bu.cells]) (by simp[bu.cells]) rfl λb h=>a b h
theorem p2(i:xH O.at_)(h:St w0 w (au ga (O.cells p)::bH gc M::R))(a:Ov w0 ga gc p R k (O.f2 M wk)):gO (A_ ga) (A_ gc) wk w k:=by
 unfold gO zO;refine ag0 i h λm h=>?_;unfold bu.f2 at a;generalize O.read M wk=r at h a;refine ax (λhb=>?_) λhb=>?_
 .grind
 .rw[HQ (by rw[hb];simp)]at a
  refine cH h λn h=>bc (cr (g:=ga) h rfl (bc (cr (g:=ga) h rfl (bc (qM (g:=ga) h (by simp[bu.cells]) ?_)))))
  have f:=h;refine XT h λj h=>eD (g:=ga) f h (eD (g:=ga) f h ?_);refine ax (λhb=>?_) λhb=>?_
  .have c:L_ (wr (r.1.b - r.1.t)<r.1.ring.size)=true:=hb;rw[HK c]at a;exact bc (j4 h rfl (by simp[bu.cells]) λd h=>a d h)
  .have c:L_ (wr (r.1.b - r.1.t)<r.1.ring.size)=false:=hb;rw[HQ (by rw[c];simp)]at a
   refine cH h λl h=>bc (cr (g:=ga) h rfl (bc (cr (g:=ga) h rfl ?_)));refine ax (λhb=>?_) λhb=>?_
   .grind
   .rw[HQ (by rw[hb];simp)]at a
    exact bc (j4 h rfl (by simp[bu.cells]) λe h=>a e h)
def p5(b:xH O.at_)(h:St w0 w (au gc (O.cells p)::bH n M::R))(c:Ov w0 gc n p R k (O.f5 M wk)):gP (A_ gc) (A_ n) wk w k:=by
 unfold gP zQ;refine bc (qM h (by simp[bu.cells]) (bc ?_))
 refine Yz (g:=gc) h rfl (by simp[bu.cells]) (by intro v hv;simp[bu.cells]at hv;rcases hv with rfl|rfl<;>rfl) λd h=>?_
 have h:St w0 d (au gc (bu.cells {O with ring:=O.to} p)::bH n M::R):=h;refine cH h λj h=>bc (qM h (by simp[bu.cells]) (bc (qM (g:=gc) h (by simp[bu.cells]) ?_)))
 have e:=h;refine XU b h λf h=>eD (g:=gc) e h<|anj h λi h=>Za h (by simp[bu.cells]) rfl λa h=>c a h
def p6(d:xH O.at_)(h:St w0 w (au gc (O.cells p)::bH n M::R))(b:Ov w0 gc n p R k (O.f6 M wk)):fQ (A_ gc) (A_ n) wk w k:=by
 unfold fQ yc;refine cH h λw1 h=>bc (qM (g:=gc) h (by simp[bu.cells]) (bc (cr (g:=gc) h rfl (bc (cr h rfl ?_)))))
 have c:=h;refine Mx h λe h=>eD c h<|Za h (by simp[bu.cells]) rfl λa h=>b a h
def p7(a:xH O.at_)(h:St w0 w (au gc (O.cells p)::bH n M::R))(b:Ov w0 gc n p R k (O.f7 M wk)):gQ (A_ gc) (A_ n) wk w k:=by
 unfold gQ zR;refine cH h λw1 h=>bc (qM h (by simp[bu.cells]) (bc (cr (g:=gc) h rfl ?_)))
 have c:=h;refine AZ a h λe h=>eD (g:=gc) c h<|Sg h λd h=>b d h
def p8(a:xH O.at_)(h:St w0 w (au n (O.cells p)::bH g M::R))(b:Ov w0 n g p R k (O.f8 M wk)):fS (A_ n) (A_ g) wk w k:=by
 unfold fS yd;refine cH h λw1 h=>bc (qM h (by simp[bu.cells]) (bc ?_))
 refine AZ a h λd h=>GW h (by simp[bu.cells]) (by simp[bu.cells]) rfl λc h=>b c h
def p9(a:xH O.at_)(h:St w0 w (au n (O.cells p)::bH g M::R))(b:Ov w0 n g p R k (O.f9 M wk)):iK (A_ n) (A_ g) wk w k:=by
 unfold iK Bq;refine bc (j4 h rfl (by simp[bu.cells]) λc h=>?_)
 have h:St w0 c (au n (bu.cells {O with next:=10} p)::bH g M::R):=h
 exact ag0 (O:={O with next:=10}) a h λd h=>b d h
def p10(a:xH O.at_)(h:St w0 w (au gc (O.cells p)::bH n M::R))(b:Ov w0 gc n p R k (O.f10 M wk)):iL (A_ gc) (A_ n) wk w k:=by
 unfold iL Br;refine cH h λw1 h=>bc (qM h (by simp[bu.cells]) (bc (cr (g:=gc) h rfl ?_)))
 have c:=h;refine AZ a h λe h=>eD (g:=gc) c h<|Za h (by simp[bu.cells]) rfl λd h=>b d h
def p11(f:xH O.at_)(h:St w0 w (au gc (O.cells p)::bH n M::R))(c:Ov w0 gc n p R k (O.f11 M wk)):jG (A_ gc) (A_ n) wk w k:=by
 unfold jG CP;refine cH h λw1 h=>bc (qM h (by simp[bu.cells]) (bc ?_))
 refine Y9 h λi h=>?_;unfold bu.f11 at c;refine GW h (by simp[bu.cells]) (by simp[bu.cells]) rfl λj h=>?_
 refine cH h λe h=>bc (cr (g:=gc) h rfl (bc (cr (g:=gc) h rfl ?_)));refine ax (λhb=>?_) λhb=>?_
 .have a:L_ ((M.ld wk O.at_).2.1>wr (O.b - 1))=true:=hb;rw[HK a]at c;exact bc (j4 h rfl (by simp[bu.cells]) λd h=>c d h)
 .have a:L_ ((M.ld wk O.at_).2.1>wr (O.b - 1))=false:=hb;rw[HQ (by rw[a];simp)]at c
  exact c e h
def p12(f:xH O.at_)(h:St w0 w (au gc (O.cells p)::bH n M::R))(c:Ov w0 gc n p R k (O.f12 M wk)):gR (A_ gc) (A_ n) wk w k:=by
 unfold gR zS;refine cH h λw1 h=>bc (qM (g:=gc) h (by simp[bu.cells]) (bc (cr (g:=gc) h rfl (bc ?_))))
 refine Mx h λi h=>?_;unfold bu.f12 at c;refine GW h (by simp[bu.cells]) (by simp[bu.cells]) rfl λe h=>?_
 refine cH h λd h=>bc (cr (g:=gc) h rfl (bc (cr (g:=gc) h rfl ?_)));refine ax (λhb=>?_) λhb=>?_
 .have a:L_ (O.t<wr (O.b - 1))=true:=hb;rw[HK a]at c;exact c d h
 .have a:L_ (O.t<wr (O.b - 1))=false:=hb;rw[HQ (by rw[a];simp)]at c
  exact c d h
def p13(f:xH O.at_)(h:St w0 w (au gc (O.cells p)::bH n M::R))(c:Ov w0 gc n p R k (O.f13 M wk)):iM (A_ gc) (A_ n) wk w k:=by
 unfold iM Bs;refine cH h λw1 h=>bc (qM h (by simp[bu.cells]) (bc (cr (g:=gc) h rfl (bc (cr (g:=gc) h rfl ?_)))))
 have b:=h;refine Y9 h λi h=>eD (g:=gc) b h (eD (g:=gc) b h ?_);refine ak7 h λd h=>bc (j4 h rfl (by simp[bu.cells]) λe h=>bc (j4 h rfl (by simp[bu.cells]) λa h=>c a h))
def p14(d:xH O.at_)(h:St w0 w (au gc (O.cells p)::bH n M::R))(a:Ov w0 gc n p R k (O.f14 M wk)):iN (A_ gc) (A_ n) wk w k:=by
 unfold iN Bt;refine bc (akI h rfl ?_);unfold bu.f14 at a;refine ax (λhb=>?_) λhb=>?_
 .rw[HK hb]at a;refine cH h λw1 h=>bc (qM h (by simp[bu.cells]) (bc (cr (g:=gc) h rfl ?_)))
  have b:=h;refine AZ d h λe h=>eD (g:=gc) b h<|Sg h λc h=>a c h
 .rw[HQ (by rw[hb];simp)]at a
  refine cH h λw1 h=>bc (qM h (by simp[bu.cells]) (bc (cr (g:=gc) h rfl ?_)))
  have b:=h;refine AZ d h λe h=>eD (g:=gc) b h<|Sg h λc h=>a c h
def p15(c:xH O.at_)(h:St w0 w (au n (O.cells p)::bH g M::R))(a:Ov w0 n g p R k (O.f15 M wk)):gS (A_ n) (A_ g) wk w k:=by
 unfold gS zU;refine cH h λw1 h=>bc (qM h (by simp[bu.cells]) (bc ?_))
 refine Y9 h λd h=>GW h (by simp[bu.cells]) (by simp[bu.cells]) rfl λb h=>a b h
def p16(c:xH O.at_)(h:St w0 w (au gc (O.cells p)::bH n M::R))(a:Ov w0 gc n p R k (O.f16 M wk)):eJ (A_ gc) (A_ n) wk w k:=by
 unfold eJ vn;refine cH h λw1 h=>bc (qM h (by simp[bu.cells]) (bc ?_))
 refine AZ c h λd h=>?_;unfold bu.f16 at a;refine GW h (by simp[bu.cells]) (by simp[bu.cells]) rfl λe h=>?_
 refine cH h λb h=>bc (cr (g:=gc) h rfl (bc (cr (g:=gc) h rfl ?_)));refine ax (λhb=>?_) λhb=>?_
 .rw[HK hb]at a;exact a b h
 .rw[HQ (by rw[hb];simp)]at a;exact a b h
def p17(a:xH O.at_)(h:St w0 w (au n (O.cells p)::bH g M::R))(b:Ov w0 n g p R k (O.f17 M wk)):fT (A_ n) (A_ g) wk w k:=by
 unfold fT ye;refine bc (j4 h rfl (by simp[bu.cells]) λc h=>?_)
 have h:St w0 c (au n (bu.cells {O with next:=18} p)::bH g M::R):=h
 exact ag0 (O:={O with next:=18}) a h λd h=>b d h
def p18(c:xH O.at_)(h:St w0 w (au gc (O.cells p)::bH n M::R))(b:Ov w0 gc n p R k (O.f18 M wk)):fg (A_ gc) (A_ n) wk w k:=by
 unfold fg wv;refine cH h λw1 h=>bc (qM (g:=gc) h (by simp[bu.cells]) (bc (cr (g:=gc) h rfl (bc ?_))))
 refine Mx h λd h=>GW h (by simp[bu.cells]) (by simp[bu.cells]) rfl λa h=>b a h
def p19(e:xH O.at_)(h:St w0 w (au gc (O.cells p)::bH n M::R))(b:Ov w0 gc n p R k (O.f19 M wk)):fU (A_ gc) (A_ n) wk w k:=by
 unfold fU yf;refine cH h λw1 h=>bc (qM h (by simp[bu.cells]) (bc (cr (g:=gc) h rfl (bc (cr (g:=gc) h rfl ?_)))))
 have d:=h;refine Y9 h λf h=>eD (g:=gc) d h (eD (g:=gc) d h ?_);unfold bu.f19 at b;refine ak7 h λc h=>ax (λhb=>?_) λhb=>?_
 .have a:(!(M.VQ wk O.at_ O.t (wr (O.t+1))).2.1)=true:=hb;rw[HK a]at b;exact b c h
 .have a:(!(M.VQ wk O.at_ O.t (wr (O.t+1))).2.1)=false:=hb;rw[HQ (by rw[a];simp)]at b;exact b c h
def rN(a:O.copy=H_):uh g O=au g (O.cells H_):=by unfold uh;rw[a]
variable{c:Cp}
def ae8(a:O.copy=G_ c):uh g O=Gt λgc:Nat=>l9 [au g (O.cells (A_ gc)),Qm gc c]:=by unfold uh;rw[a]
def IM(a:O.copy=G_ c)(h:St w0 w (uh g O::R)):∃gc,St w0 w (au g (O.cells (A_ gc))::Qm gc c::R):=by
 rw[ae8 a]at h;obtain⟨gc,h⟩:=h.some;exact⟨gc,h.open⟩
def Dq(a:O.copy=G_ c)(h:St w0 w (au g (O.cells (A_ gc))::Qm gc c::R)):St w0 w (uh g O::R):=by
 rw[ae8 a];exact St.ex gc (St.shut h)
def atm{c:ap}(h:St w0 w (uh g O::R))(d:∀w',St w0 w' (uh g {O with how:=x,err:=y}::R)->c w'):
  bN w ⟨g,12,H_⟩ (I_ x) λw=>bN w ⟨g,14,H_⟩ (I_ y) c:=by
 cases hc:O.copy with
 |none=>
  rw[rN hc]at h;have e:uh g {O with how:=x,err:=y}=au g (bu.cells {O with how:=x,err:=y} H_):=rN hc;rw[e]at d;exact j4 h rfl (by simp[bu.cells]) λw1 h=>j4 h rfl (by simp[bu.cells]) λf h=>d f h
 |some c=>
  obtain⟨gc,h⟩:=IM hc h;refine j4 h rfl (by simp[bu.cells]) λw1 h=>j4 h rfl (by simp[bu.cells]) λf h=>d f ?_
  exact Dq hc h
variable{x1:Nat}
def p3(h:St w0 w (au x1 (O.cells H_)::bH ga M::R))(f:O.copy=H_)(x:M.OK)(hb:sy O.b)(y:sy O.t)(a:∀w',St w0 w' (uh x1 (O.f3 M wk).1::bH ga (O.f3 M wk).2.1::R)->k ((O.f3 M wk).2.2.1,(O.f3 M wk).2.2.2) w'):jL (A_ x1) (A_ ga) wk w k:=by
 unfold jL Bp;refine bc (cr (g:=x1) h rfl ?_);unfold bu.f3 at a;refine axD (log:=O.lg) h x (λj l c m s h=>?_) (λj l c m s h=>?_) λn s h=>?_
 .have d:M.room O.MA=true:=m;rw[HK ⟨j,l,c⟩,HK d]at a;refine aM h λg5 u h=>m7 h rfl rfl (by intro v hv;simp[Rg.ag]at hv;rcases hv with rfl|rfl<;>rfl) λi h=>aU rfl ?_
  refine je h rfl (bc ?_);refine Yz h rfl (by simp[bu.cells]) (by intro v hv;simp[Rg.ag]at hv;rcases hv with rfl|rfl<;>rfl) λz h=>cH h λo h=>bc ?_
  have h:St w0 o (au g5 (Rg.ag (O.Mz M)).toList::au x1 (bu.cells {O with to:=O.Mz M} H_)::bH ga ((M.tick wk).grow O.MA)::R):=h;refine qM (g:=x1) h (by simp[bu.cells]) (je h rfl (bc (cr (g:=x1) h rfl (bc (cr (g:=x1) h rfl ?_)))))
  refine axE y hb h (λp gc q h=>?_) λp q h=>?_
  .rw[HK p]at a;refine bc (j4 h rfl (by simp[bu.cells]) λr h=>bc (j4 h rfl (by simp[bu.cells]) λe h=>a e ?_))
   refine Dq (gc:=gc) rfl ?_
   exact(h.rm 1 rfl).swap
  .rw[HQ p]at a;refine bc (j4 h rfl (by simp[bu.cells]) λr h=>bc (j4 h rfl (by simp[bu.cells]) λe h=>a e ?_))
   rw[rN rfl]
   exact h.drop
 .have d:M.room O.MA=false:=m;rw[HK ⟨j,l,c⟩,HQ (by rw[d];simp)]at a
  refine aM h λg5 u h=>m7 h rfl rfl (by intro v hv;simp[Rg.ag,Rg.zero]at hv;rw[hv];rfl) λi h=>bK rfl (a i ?_)
  rw[rN f];exact h.drop
 .rw[HQ n]at a;refine aM h λg5 u h=>m7 h rfl rfl (by intro v hv;simp[Rg.ag,Rg.zero]at hv;rw[hv];rfl) λi h=>bK rfl (a i ?_)
  rw[rN f];exact h.drop
def p4(h:St w0 w (au ga (O.cells (A_ gc))::Qm gc c::bH n M::R))(f:O.copy=G_ c)(a:∀w',St w0 w' (uh ga (O.f4 M wk c).1::bH n (O.f4 M wk c).2.1::R)->k ((O.f4 M wk c).2.2.1,(O.f4 M wk c).2.2.2) w'):jb (A_ ga) (A_ n) wk w k:=by
 unfold jb zP;refine bc (CC h rfl ?_);unfold bu.f4 at a;have h:St w0 w (Qm gc c::bH n M::au ga (O.cells (A_ gc))::R):=h.perm Hp;refine axF h (λl e h=>?_) (λb g e h=>?_) (λb g i e h=>?_) λb g i e h=>?_
 .rw[HK l]at a;refine bK rfl (bc (j4 h rfl (by simp[bu.cells]) λj h=>a j ?_))
  exact Dq f (h.perm Hp)
 .rw[HQ b,HQ (by rw[g];simp)]at a
  exact aU rfl (a e (Dq f (h.perm Hp)))
 .rw[HQ b,HK g,HQ (by rw[i];simp)]at a
  exact aU rfl (a e (Dq rfl (h.perm Hp)))
 .rw[HQ b,HK g,HK i]at a;refine ax (λhb=>?_) λhb=>?_
  .have d:(c.next 0).at_=c.j2:=by simpa using hb
   rw[HK d]at a;refine bc (j4 h rfl (by simp[bu.cells]) λj h=>a j ?_)
   exact Dq rfl (h.perm Hp)
  .have d:¬(c.next 0).at_=c.j2:=by simpa using hb
   rw[HQ d]at a;exact a e (Dq rfl (h.perm Hp))
structure bu.GX (O:bu):Prop where
 n3:O.next=3->O.copy=H_/\sy O.b/\sy O.t
 n4:O.next=4->∃c,O.copy=G_ c
 n:O.next<=19
 a:xH O.at_
variable{c:M_->ap}
variable{z3:FuncId}
def pD{bY:ey}{d:bt}(e:∀args w c,bY (.func z3) args w c=d args.toList w c)(h:d [v,y2,nx] w c):nj bY (.func (F_ z3) #[] #[]) #[v,y2,nx] w c:=
 bV e h
variable{a b:Option P_}{i:Int}
def aem(h:ff a b i w λr w=>c (e9 (dL [(.i B_),(.i B_)] r)) w):Eg [IB a,IB b,I_ i] w c:=h
def alc(h:iJ a b i w λr w=>c (e9 (dL [(.i B_),(.i B_)] r)) w):Ib [IB a,IB b,I_ i] w c:=h
def aiP(h:gO a b i w λr w=>c (e9 (dL [(.i B_),(.i B_)] r)) w):GC [IB a,IB b,I_ i] w c:=h
def ald(h:jL a b i w λr w=>c (e9 (dL [(.i B_),(.i B_)] r)) w):Ic [IB a,IB b,I_ i] w c:=h
def aiQ(h:jb a b i w λr w=>c (e9 (dL [(.i B_),(.i B_)] r)) w):GD [IB a,IB b,I_ i] w c:=h
def aiR(h:gP a b i w λr w=>c (e9 (dL [(.i B_),(.i B_)] r)) w):GF [IB a,IB b,I_ i] w c:=h
def ag1(h:fQ a b i w λr w=>c (e9 (dL [(.i B_),(.i B_)] r)) w):Ff [IB a,IB b,I_ i] w c:=h
def aiS(h:gQ a b i w λr w=>c (e9 (dL [(.i B_),(.i B_)] r)) w):GG [IB a,IB b,I_ i] w c:=h
def ag2(h:fS a b i w λr w=>c (e9 (dL [(.i B_),(.i B_)] r)) w):Fg [IB a,IB b,I_ i] w c:=h
def ale(h:iK a b i w λr w=>c (e9 (dL [(.i B_),(.i B_)] r)) w):Ie [IB a,IB b,I_ i] w c:=h
def alf(h:iL a b i w λr w=>c (e9 (dL [(.i B_),(.i B_)] r)) w):If [IB a,IB b,I_ i] w c:=h
def apa(h:jG a b i w λr w=>c (e9 (dL [(.i B_),(.i B_)] r)) w):Jp [IB a,IB b,I_ i] w c:=h
def aiT(h:gR a b i w λr w=>c (e9 (dL [(.i B_),(.i B_)] r)) w):GH [IB a,IB b,I_ i] w c:=h
def alg(h:iM a b i w λr w=>c (e9 (dL [(.i B_),(.i B_)] r)) w):Ig [IB a,IB b,I_ i] w c:=h
def alh(h:iN a b i w λr w=>c (e9 (dL [(.i B_),(.i B_)] r)) w):Ih [IB a,IB b,I_ i] w c:=h
def aiU(h:gS a b i w λr w=>c (e9 (dL [(.i B_),(.i B_)] r)) w):GI [IB a,IB b,I_ i] w c:=h
def acL(h:eJ a b i w λr w=>c (e9 (dL [(.i B_),(.i B_)] r)) w):Di [IB a,IB b,I_ i] w c:=h
def ag3(h:fT a b i w λr w=>c (e9 (dL [(.i B_),(.i B_)] r)) w):Fh [IB a,IB b,I_ i] w c:=h
def aen(h:fg a b i w λr w=>c (e9 (dL [(.i B_),(.i B_)] r)) w):En [IB a,IB b,I_ i] w c:=h
def ag4(h:fU a b i w λr w=>c (e9 (dL [(.i B_),(.i B_)] r)) w):Fi [IB a,IB b,I_ i] w c:=h
def Fv{r:ID}{F:Option P_->Option P_->Int->N_->((Int×Int)->ap)->Prop}(h:St w0 w (uh n O::bH g M::L))(a:r.1.copy=O.copy)
  (b:∀{p R},St w0 w (au n (O.cells p)::bH g M::R)->Ov w0 n g p R k r->F (A_ n) (A_ g) wk w k)
  (d:∀w',St w0 w' (uh n r.1::bH g r.2.1::L)->k (r.2.2.1,r.2.2.2) w'):F (A_ n) (A_ g) wk w k:=by
 cases hc:O.copy with
 |none=>
  rw[rN hc]at h;refine b h λw' h=>d w' ?_;rw[rN (a.trans hc)];exact h
 |some c=>
  obtain⟨gc,h⟩:=IM hc h;refine b (R:=Qm gc c::L) (h.perm Hp) λw' h=>d w'<|Dq (a.trans hc) (h.perm Hp)
def Jx:(O.read M wk).1.copy=O.copy:=by
 unfold bu.read;split
 .split<;>rfl
 .rfl
def atn:(O.f2 M wk).1.copy=O.copy:=by
 unfold bu.f2;split
 .exact Jx
 .split
  .exact Jx
  .split<;>exact Jx
theorem ano{k:Int->ap}(h:St w0 w (uh x1 O::bH ga M::L))(g:O.GX)(B:M.OK)(d:∀w',St w0 w' (uh x1 (O.step M wk).1::bH ga (O.step M wk).2::L)->k (O.step M wk).1.how w'):fO (A_ x1) (A_ ga) wk w k:=by
 have how:∀{w:N_} {c:Int->Prop},St w0 w (uh x1 O::bH ga M::L)->c O.how->aJ B_ w (aY ⟨x1,0,H_⟩ 12) c:=by
  intro w c h j;cases q:O.copy with
  |none=>rw[rN q]at h;exact cr h rfl j
  |some c=>obtain⟨gc,h⟩:=IM q h;exact cr h rfl j
 have C:∀{w:N_} {c:M_->Prop},St w0 w (uh x1 O::bH ga M::L)->c (phF O.next)->tH w (aY ⟨x1,0,H_⟩ 11) c:=by
  intro w c h j;cases q:O.copy with
  |none=>rw[rN q]at h;exact I2 h rfl j
  |some c=>obtain⟨gc,h⟩:=IM q h;exact I2 h rfl j
 unfold fO FN;unfold bu.step at d;refine aU rfl (bP (λb w'=>b= !O.live/\w'=w) (λJ x=>?_) ?_)
 .unfold bu.live at x;refine bc (how h (ax (λhb=>?_) λhb=>?_))
  .have y:(O.how==0)=false:=by simpa[bne]using hb
   rw[y]at x;exact bc (how h (x _ _ ⟨by simp[bne],rfl⟩))
  .grind
 rintro G H ⟨rfl,rfl⟩;refine ax (λhb=>?_) λhb=>?_
 .have z:O.live=false:=by simpa using hb
  rw[HQ (by rw[z];simp)]at d
  exact bc (how h (d _ h))
 .have z:O.live=true:=by simpa using hb
  rw[HK z]at d;refine bc (C h ?_);have fin:∀w',St w0 w' (uh x1 (O.run M wk).1::bH ga (O.run M wk).2.1::L)->Is [(.i B_),(.i B_)] (e9 (dL [(.i B_),(.i B_)] ((O.run M wk).2.2.1,(O.run M wk).2.2.2))) fun(s:Int×Int)=>
   cz (λl=>
    an (s.2 !=(0:Int)) (
     (l (6:Int) w')) (
     (l s.1 w'))) λm p=>
   nn (A_ x1) λt=>
   bN p (aY t 12) (I_ m) λu=>
   nn (A_ x1) λv=>
   bN u (aY v 14) (I_ s.2) λo=>
   (k m o):=by
   intro w' h;generalize O.run M wk=r at h d;show cz (λl=>
    an (r.2.2.2 !=(0:Int)) (
     (l (6:Int) w')) (
     (l r.2.2.1 w'))) λm p=>
   nn (A_ x1) λt=>
   bN p (aY t 12) (I_ m) λu=>
   nn (A_ x1) λv=>
   bN u (aY v 14) (I_ r.2.2.2) λo=>
   (k m o);refine bP (λn A=>n=(if r.2.2.2=0 then r.2.2.1 else 6)/\A=w') (λJ x=>?_) ?_
   .refine ax (λhb=>?_) λhb=>?_
    iterate 2 grind
   rintro n p ⟨rfl,rfl⟩;exact bc (atm h λo h=>d o h)
  clear d;have I:=g.n;obtain f|f|f|f|f|f|f|f|f|f|f|f|f|f|f|f|f|f|f|f:O.next=0\/O.next=1\/O.next=2\/O.next=3\/O.next=4\/O.next=5\/O.next=6\/O.next=7\/O.next=8\/O.next=9\/O.next=10\/O.next=11\/O.next=12\/O.next=13\/O.next=14\/O.next=15\/O.next=16\/O.next=17\/O.next=18\/O.next=19:=af;all_goals rw[f]
  .have e:O.run M wk=O.f0 M wk:=by unfold bu.run;simp only[f]
   rw[e]at fin;refine pD (λ_ _ _=>rfl) (aem ?_);exact Fv h rfl (λh d=>p0 g.a h d) fin
  .have e:O.run M wk=O.f1 M wk:=by unfold bu.run;simp only[f]
   rw[e]at fin;refine pD (λ_ _ _=>rfl) (alc ?_);exact Fv h rfl (λh d=>p1 g.a h d) fin
  .have e:O.run M wk=O.f2 M wk:=by unfold bu.run;simp only[f]
   rw[e]at fin;refine pD (λ_ _ _=>rfl) (aiP ?_);exact Fv h atn (λh d=>p2 g.a h d) fin
  .have e:O.run M wk=O.f3 M wk:=by unfold bu.run;simp only[f]
   rw[e]at fin;obtain⟨j,D,F⟩:=g.n3 f;rw[rN j]at h;refine pD (λ_ _ _=>rfl) (ald ?_);exact p3 h j B D F fin
  .obtain⟨c,j⟩:=g.n4 f;have e:O.run M wk=O.f4 M wk c:=by unfold bu.run;simp only[f,j]
   rw[e]at fin;obtain⟨gc,h⟩:=IM j h;refine pD (λ_ _ _=>rfl) (aiQ ?_);exact p4 h j fin
  .have e:O.run M wk=O.f5 M wk:=by unfold bu.run;simp only[f]
   rw[e]at fin;refine pD (λ_ _ _=>rfl) (aiR ?_);exact Fv h rfl (λh d=>p5 g.a h d) fin
  .have e:O.run M wk=O.f6 M wk:=by unfold bu.run;simp only[f]
   rw[e]at fin;refine pD (λ_ _ _=>rfl) (ag1 ?_);exact Fv h rfl (λh d=>p6 g.a h d) fin
  .have e:O.run M wk=O.f7 M wk:=by unfold bu.run;simp only[f]
   rw[e]at fin;refine pD (λ_ _ _=>rfl) (aiS ?_);exact Fv h rfl (λh d=>p7 g.a h d) fin
  .have e:O.run M wk=O.f8 M wk:=by unfold bu.run;simp only[f]
   rw[e]at fin;refine pD (λ_ _ _=>rfl) (ag2 ?_);exact Fv h rfl (λh d=>p8 g.a h d) fin
  .have e:O.run M wk=O.f9 M wk:=by unfold bu.run;simp only[f]
   rw[e]at fin;refine pD (λ_ _ _=>rfl) (ale ?_);exact Fv h (Jx) (λh d=>p9 g.a h d) fin
  .have e:O.run M wk=O.f10 M wk:=by unfold bu.run;simp only[f]
   rw[e]at fin;refine pD (λ_ _ _=>rfl) (alf ?_);exact Fv h rfl (λh d=>p10 g.a h d) fin
  .have e:O.run M wk=O.f11 M wk:=by unfold bu.run;simp only[f]
   rw[e]at fin;refine pD (λ_ _ _=>rfl) (apa ?_);exact Fv h rfl (λh d=>p11 g.a h d) fin
  .have e:O.run M wk=O.f12 M wk:=by unfold bu.run;simp only[f]
   rw[e]at fin;refine pD (λ_ _ _=>rfl) (aiT ?_);exact Fv h rfl (λh d=>p12 g.a h d) fin
  .have e:O.run M wk=O.f13 M wk:=by unfold bu.run;simp only[f]
   rw[e]at fin;refine pD (λ_ _ _=>rfl) (alg ?_);exact Fv h rfl (λh d=>p13 g.a h d) fin
  .have e:O.run M wk=O.f14 M wk:=by unfold bu.run;simp only[f]
   rw[e]at fin;refine pD (λ_ _ _=>rfl) (alh ?_);exact Fv h rfl (λh d=>p14 g.a h d) fin
  .have e:O.run M wk=O.f15 M wk:=by unfold bu.run;simp only[f]
   rw[e]at fin;refine pD (λ_ _ _=>rfl) (aiU ?_);exact Fv h rfl (λh d=>p15 g.a h d) fin
  .have e:O.run M wk=O.f16 M wk:=by unfold bu.run;simp only[f]
   rw[e]at fin;refine pD (λ_ _ _=>rfl) (acL ?_);exact Fv h rfl (λh d=>p16 g.a h d) fin
  .have e:O.run M wk=O.f17 M wk:=by unfold bu.run;simp only[f]
   rw[e]at fin;refine pD (λ_ _ _=>rfl) (ag3 ?_);exact Fv h (Jx) (λh d=>p17 g.a h d) fin
  .have e:O.run M wk=O.f18 M wk:=by unfold bu.run;simp only[f]
   rw[e]at fin;refine pD (λ_ _ _=>rfl) (aen ?_);exact Fv h rfl (λh d=>p18 g.a h d) fin
  .have e:O.run M wk=O.f19 M wk:=by unfold bu.run;simp only[f]
   rw[e]at fin;refine pD (λ_ _ _=>rfl) (ag4 ?_);exact Fv h rfl (λh d=>p19 g.a h d) fin
def Si{M:List HP}(h:St w0 w L)(e:L=M):St w0 w M:=e▸h
def bu.B7(at_ most x:Int)(next:Nat):bu:=⟨at_,most,0,0,Rg.zero,x,K_,Rg.zero,H_,next,0,0,0⟩
variable{k:Option P_->ap}
def anp(h:St w0 w L)(a:∀g w',St w0 w' (uh g (bu.B7 at_ most x 0)::L)->k (A_ g) w'):eF #[I_ at_,I_ most] x w k:=by
 unfold eF;refine aM h λg1 d h=>je h rfl ⟨rfl,⟨rfl,aa6 rfl ?_⟩⟩;refine aM h λb c h=>a b c ?_;rw[rN rfl];exact Si (h.rm 1 rfl) aZ
def ato(h:St w0 w L)(a:∀g w',St w0 w' (uh g (bu.B7 at_ most 0 8)::L)->k (A_ g) w'):eM #[I_ at_,I_ most] w k:=by
 unfold eM;refine aM h λg1 d h=>je h rfl ⟨rfl,⟨rfl,aa6 rfl ?_⟩⟩;refine aM h λb c h=>a b c ?_;rw[rN rfl];exact Si (h.rm 1 rfl) aZ
def atp(h:St w0 w L)(a:∀g w',St w0 w' (uh g (bu.B7 at_ most 0 15)::L)->k (A_ g) w'):jP #[I_ at_,I_ most] w k:=by
 unfold jP;refine aM h λg1 d h=>je h rfl ⟨rfl,⟨rfl,aa6 rfl ?_⟩⟩;refine aM h λb c h=>a b c ?_;rw[rN rfl];exact Si (h.rm 1 rfl) aZ
def aa9{c:Int->Prop}(h:St w0 w L)[a:At L (uh ga) O f](d:∀p,(O.cells p)[x1]?=G_ (I_ x))(e:c x):aJ B_ w ⟨ga,x1,H_⟩ c:=by
 obtain⟨R,b,g⟩:=a.out;have h:=b h;cases q:O.copy with
 |none=>rw[rN q]at h;exact cr h (d _) e
 |some c=>obtain⟨gc,h⟩:=IM q h;exact cr h (d _) e
def bu.tell(O:bu):Int:=if O.how=2\/O.how=1 then O.got else 0
variable{k:Int->ap}
theorem aBs(h:St w0 w L)[a:At L (uh n) O f](c:k O.tell w):cG (A_ n) w k:=by
 unfold cG;unfold bu.tell at c;refine bP (λb w'=>b=L_ (¬(O.how=2\/O.how=1))/\w'=w) (λJ d=>?_) ?_
 .refine aU rfl (bc (aa9 h (λ_=>rfl) (ax (λhb=>?_) λhb=>?_)))
  .have e:¬O.how=2:=by simpa using hb
   refine bc (aa9 h (λ_=>rfl) (d _ _ ⟨?_,rfl⟩));grind
  .grind
 rintro b g ⟨rfl,rfl⟩;refine ax (λhb=>?_) λhb=>?_
 .grind
 .rw[HK (Ou λq=>of_decide_eq_false hb q)]at c;exact bc (aa9 h (λ_=>rfl) c)
def aBt(h:St w0 w L)[a:At L (uh g) O f](b:k O.err w):iW (A_ g) w k:=by
 unfold iW;exact aU rfl (bc (aa9 h (λ_=>rfl) b))
def bJ.k8(M:bJ)(a:Int):Int:=if M.given a then M.get a else 0
def bJ.Cn(M:bJ)(r:Rg)(t:Int)(n:Nat):List Int:=(CX n).map fun(i:Nat)=>M.k8 (r.place (t+(i:Int)))
def bJ.list(M:bJ)(at_:Int):List Int:=if (Rg.of (M.k8 (at_+2))).right=J_/\M.k8 at_<M.k8 (at_+1)/\M.k8 (at_+1) - M.k8 at_<=(Rg.of (M.k8 (at_+2))).size then M.Cn (Rg.of (M.k8 (at_+2))) (M.k8 at_) (M.k8 (at_+1) - M.k8 at_).toNat else []
def abb(log most:Int):Bool:=L_ (0<=log/\log<=most/\most<=8)
def EX(log:Int):Int:=((2 ^ log.toNat:Nat):Int)
def bJ.Jy(M:bJ)(wk log:Int):bJ:=(((M.tick wk).grow (3+EX log)).tick wk).put ((M.cells.length:Nat)+2) (Rg.word ⟨(M.cells.length:Nat)+3,log⟩)
theorem acM(a:0<=log)(b:log<=8):1<=EX log/\EX log<=256:=by
 have c:(2 ^ log.toNat:Nat)<=256:=EI af;have d:0<2 ^ log.toNat:=bL af;unfold EX;grind
theorem xQ{n:Int}(h:0<=n):(((M.grow n).cells.length:Nat):Int)=(M.cells.length:Nat)+n:=by
 unfold bJ.grow;grind
def anr{k:Array M_×Int->ap}(h:St w0 w L)[a:At L (bH gc) M f](l:M.OK)(g:M.caller wk=J_)(i:abb log most=J_)
  (o:M.room (3+EX log)=J_->∀w',St w0 w' (f (bH gc (M.Jy wk log)))->k (#[I_ ((M.cells.length:Nat):Int),I_ most],0) w')
  (h2:M.room (3+EX log)=K_->∀w',St w0 w' (f (bH gc M))->k (#[I_ 0,I_ 0],21) w'):sY (A_ gc) wk log most w k:=by
 unfold sY Nt;unfold abb at i;simp only[decide_eq_true_eq]at i;obtain⟨b,p,q⟩:=i;have m:=acM b af;obtain⟨R,s,hb⟩:=a.out;replace h:=s h;refine zE λgx w h=>?_;refine aU (by simp;omega) ?_
 refine Gf af ?_;rw[XS b af];have t:IntKind.i64.wrap (3+((2 ^ log.toNat:Nat):Int))=3+EX log:=dh ⟨by unfold EX at m;omega,by unfold EX at m;omega⟩
 rw[t];have u:=l.size;refine GU h l (λ_ _ e w h=>?_) (λ_ _ e=>?_) λj=>(j ⟨g,af⟩).elim
 .have c:=e;unfold bJ.room at c;simp only[decide_eq_true_eq]at c;with_reducible repeat' (first|refine cH h λw h=>?_|refine Vh h ?_|refine QU h λw h=>?_|refine aM h λgx w h=>?_|refine I8 ?_)
  have v:xH ((M.cells.length:Nat):Int):=⟨af,af⟩;refine XU v h λw h=>?_;with_reducible repeat' (first|refine sR h ?_|fail)
  have x:aF B_ (((M.cells.length:Nat):Int)+3)=((M.cells.length:Nat):Int)+3:=dh ⟨af,af⟩;show fD #[I_ (aF B_ (((M.cells.length:Nat):Int)+3)),I_ log] _ _;rw[x];refine anj (r:=⟨((M.cells.length:Nat):Int)+3,log⟩) h λw h=>?_;have d:((M.tick wk).grow (3+EX log)).can wk ((M.cells.length:Nat)+2)=true:=by
   have y:=xQ (M:=M.tick wk) (n:=3+EX log) af;have z:(M.tick wk).cells.length=M.cells.length:=rfl;unfold bJ.can bJ.given bJ.caller at*
   simp only[decide_eq_true_eq,iY]at*
   refine⟨⟨g.1,?_⟩,?_⟩
   .simpa[bJ.grow,bJ.tick]using g.2
   .rw[y,z];omega
  refine stc h d λw h=>pS λw h=>o e w (hb (((h.rm 0 rfl).rm 0 rfl).rm 0 rfl))
 .refine pS λw h=>h2 e w (hb h.drop)
def VT{k:Int×Int->ap}(h:St w0 w L)[a:At L (bH g) M f](b:xH at_)(c:M.can wk (at_+1)=J_)(d:∀w',St w0 w' (f (bH g (M.tick wk)))->k (M.get (at_+1),0) w'):cn #[I_ at_,I_ most] (A_ g) wk w k:=by
 unfold cn yu;refine zE λgx w h=>AZ b h λw h=>ldc h c λw h=>d w h.drop
def elL:ElT Tryz.prog 69 3 8 (I_ 0):=⟨aZ,aZ⟩
def aaj(self on idle:Int)(x:Nat):Bool:=(x:Int) !=self&&(tb on x&& !tb idle x)
def xI(self on idle:Int)(n:Nat):List Int:=((CX n).filter (aaj self on idle)).map Int.ofNat
def VU(v:Int)(l:List Int):List Int:=l.drop (v % l.length).toNat++l.take (v % l.length).toNat
theorem acO(self on idle:Int)(n:Nat):xI self on idle (n+1)=xI self on idle n++(if aaj self on idle n then [(n:Int)]else []):=by
 unfold xI;rw[List.range_succ,Ur,VK];grind
theorem ae9(self on idle:Int)(n:Nat):(xI self on idle n).length<=n:=by
 unfold xI;grind
def alj{v m:Int}(a:0<m)(b:m<=16):abl (IntKind.i64.wrap (abl v m+m)) m=v % m:=by
 unfold abl;have c:v.tmod m<m:=Int.tmod_lt_of_pos _ a;have h2: -m<v.tmod m:=Int.lt_tmod_of_pos v a;rw[dh ⟨af,af⟩,Int.tmod_eq_emod_of_nonneg af,Int.add_emod_right,Int.tmod_def,Int.sub_emod,Int.mul_emod_right];simp
def aBu{f:Nat}(b:zh.length=n)(c:f<=n)(d:cs.length=n):
  (((cs.take 0++((zh.drop f).take (n - f)++cs.drop (0+(n - f)))).take (n - f))++(zh.take f++(cs.take 0++((zh.drop f).take (n - f)++cs.drop (0+(n - f)))).drop (n - f+f)))=zh.drop f++zh.take f:=by
 have a:(zh.drop f).take (n - f)=zh.drop f:=CY (by simp;omega)
 have e2:(zh.drop f).length=n - f:=by simp;omega
 rw[a,List.take_zero,VM,FM,List.take_append_of_le_length af,CY af];rw[List.drop_of_length_le (i:=n - f+f) (by simp;omega),n_]
variable{idle n on self:Int}
theorem aeo{v:Int}{k:Sl×Int->ap}(h1:1<=n)(h2:n<=16)(h3:0<=self)(h4:self<n)
  (N:∀s w',Ext w w'->Qk w' w.heap.size s (ints (VU v (xI self on idle n.toNat)))->k (s,0) w'):rj v self n on idle w k:=by
 unfold rj;refine aU (by simp;omega) ?_
 refine bP (λs w'=>Ext w w'/\Qk w' w.heap.size s (ints (xI self on idle n.toNat))) ?_ ?_
 .intro J hJ;refine ot (fun(x:Sl×Int) w'=> ∃i:Nat,x.2=i/\i<=n.toNat/\Ext w w'/\Qk w' w.heap.size x.1 (ints (xI self on idle i))) (λx _=>(n - x.2).toNat) ⟨0,rfl,af,.refl _ _,by simpa[xI,ints]using Own.nil w _⟩ ?_
  rintro⟨s,x⟩ w1 ⟨i,O,hi,f,a⟩ C P;simp only at O;subst O;refine ax (λl=>?_) (λU=>?_)
  .have l:(i:Int)<n:=by simpa using l
   refine bP (λb z=>z=w1/\b=aaj self on idle i) ?_ ?_
   .intro J5 o;refine ax (λj=>?_) (λA=>?_)
    .refine amU bf (o _ _ ⟨rfl,?_⟩);simp only;rw[aDf (aic _ _) af af,iZ,Vc _ _ af];simp only[aaj,j,Oo]
    .refine o _ _ ⟨rfl,?_⟩;simp only[aaj,A,Bool.false_and]
   .rintro b z ⟨rfl,rfl⟩;have u:IntKind.i64.wrap ((i:Int)+1)=((i+1:Nat):Int):=by rw[dh ⟨af,af⟩];simp
    refine ax (λhb=>?_) (λhb=>?_)
    .refine jJ λg Q q V W R=>?_;have X:=ae9 self on idle i;refine awT (x:=⟨A_ g,1,1⟩) (ys:=ints [(i:Int)]) elL rfl elL.1 (a.ext R) (WJ W rfl 1) IK (by have:=f.size;omega) (by simp;omega) (by simp;omega) λs' Y Z Dz aHP=>?_
     refine P _ _ ⟨i+1,u,af,?_,?_⟩ (by simp only[u];omega)
     .exact(f.trans R).then Dz (a.out (iw _))
     .rw[acO,HK hb];simpa[ints]using Z
    .refine P _ _ ⟨i+1,u,af,f,?_⟩ (by simp only[u];omega)
     rw[acO,HQ (by simp[hb]),n_]
     exact a
  .grind
 .rintro s w1 ⟨f,a⟩;have X:=ae9 self on idle n.toNat;have c:=a.len;simp only[ints,U']at c;refine ax (λr=>?_) (λr=>?_)
  .have r:s.n=0:=by simpa using r
   have e:xI self on idle n.toNat=[]:=List.eq_nil_of_length_eq_zero af;refine N _ _ f ?_;rw[e];simpa[VU,ints]using Own.nil w1 _
  .have r:s.n≠0:=by simpa using r
   refine amT af (amT af ?_);have S:=alj (v:=v) (m:=s.n) af af;simp only[abl]at S;rw[S];have B:0<=v % s.n:=Ql _ af;have hf1:v % s.n<s.n:=Int.emod_lt_of_pos _ af;refine amV elL rfl f.size af af λso z D F T hc2 jR IZ=>abS (a.ext F) B af λd hd G hdb bQ=>?_;have j:∀g,so.au=G_ g->∀H,s.au=G_ H->H≠g:=by
    intro g q H LF e;have:=(a.below LF).2;rw[jR]at q;cases q;omega
   refine abT elL D (Part.all so) bQ.sls (λv hv=>IK v (List.mem_of_mem_drop hv)) λQ I t V=>?_;rw[T,G,show min s.n (s.n - (v % s.n).toNat)=s.n - (v % s.n).toNat by omega]at I ⊢
   refine abS I af af λd2 K L aHQ aHR=>?_;have hs':Hj 1 Q s (ints (xI self on idle n.toNat)):=(a.ext F).sls.keep t λp hp q=>j _ q _ (by simp[Sl.au,hp]) rfl
   refine abT elL I K hs' IK λY y M hs4=>N _ _ ?_ ?_
   .exact((f.trans F).then t (D.out (iw _))).then M (D.out (iw _))
   .have e:VU v (xI self on idle n.toNat)=(xI self on idle n.toNat).drop (v % s.n).toNat++(xI self on idle n.toNat).take (v % s.n).toNat:=by rw[VU,c]
    rw[e];rw[L,T,show min (s.n - ((s.n - (v % s.n).toNat:Nat):Int).toNat) s.n=(v % s.n).toNat by omega]at y
    simp only[iZ]at y;rw[aBu (by simp;omega) af bf]at y
    simpa[ints]using y
def Lw(g:Nat)(D:List Int):HP:=Gt λs:Sl=>l9 [au g [S_ s],bG 1 s (ints D)]
variable{D:List Int}
def afa(h:St w0 w (Lw g D::R)):∃s:Sl,St w0 w (au g [S_ s]::bG 1 s (ints D)::R):=by
 obtain⟨s,h⟩:=h.some;exact⟨s,h.open⟩
def MB(h:St w0 w (au g [S_ s]::bG 1 s (ints D)::R)):St w0 w (Lw g D::R):=
 St.ex s (St.shut h)
variable{vs:List M_}
def _root_.Go.Ev.qo.aAb(h:qo 1 w s vs):Qk w 0 s vs:=by
 refine⟨by have:=h.len;omega,h.cap,h.max,h.one,h.row.imp id ?_⟩
 rintro⟨g,off,cs,h1,h2,h3,h4⟩;exact⟨g,off,cs,h1,Nat.zero_le _,h2,af,h4⟩
def _root_.Go.Ev.Own.s1(h:Qk w gc s vs):qo 1 w s vs:=by
 refine⟨by have:=h.len;omega,h.cap,h.max,h.one,h.row.imp id ?_⟩
 rintro⟨g,off,cs,h1,_,h2,h3,h4⟩;exact⟨g,off,cs,h1,h2,af,h4⟩
def axP{e:Q_}{ty:Q_}{c:Int->ap}(h:St w0 w L)[a:At L (bG 1 s) (v::vs) f](x:ElT P yk e gc y2)
  (y:∀w' l,St w0 w' (f (bG 1 s (vs++[l])))->c (vs.length:Nat) w'):slL s 1 (1:Int) λd=>U1 P #[yk,yk] ty [S_ s,S_ d] w c:=by
 have j:=qY (s:=s) h;have r:qo 1 w s (v::vs):=h.own;refine abS r.aAb af (by simp at j;omega) λd D A _ g=>?_
 have m:d.n=vs.length:=by rw[A,j];simp
 have i:min s.n d.n=vs.length:=by rw[m,j];simp
 refine abT x r.aAb (Part.all s) g.sls g.one λw' o B _=>?_;rw[i]at o ⊢;have p:vs.length<(v::vs).length:=by simp
 have e:(v::vs).take 0++(((v::vs).drop (1:Int).toNat).take vs.length++(v::vs).drop (0+vs.length))=vs++[(v::vs)[vs.length]]:=by
  rw[List.take_zero,VM,FM,TT p];simp
 rw[e]at o;refine y w' _ (h.M8 a λC u=>⟨B.mono λk _ q=>(u.1 k).2 q,C,⟨u.1,o.s1⟩,λk q=>D_ q⟩)
def elD:ElT Tryz.prog 156 2 8 (I_ 0):=⟨aZ,aZ⟩
def att{k:Option P_->ap}(h:St w0 w L)(a:∀g w',St w0 w' (Lw g []::L)->k (A_ g) w'):ng w k:=by
 unfold ng;refine aM h λg w h=>a g w (MB (s:=⟨H_,0,0⟩) ?_);exact(h.DJ 1).swap
def ape(h:St w0 w L)[a:At L (Lw g) D f](e:∀w',St w0 w' (f (Lw g D.tail))->k (D.headD 0) w'):mA (A_ g) w k:=by
 unfold mA;obtain⟨R,i,hb⟩:=a.out;obtain⟨s,h⟩:=afa (i h);have c:=qY (s:=s) h;refine bP (λb w'=>b=D.isEmpty/\w'=w) (λJ j=>?_) ?_
 .refine n8<|j _ _ ⟨?_,rfl⟩;cases D with
  |nil=>simp at c;simp[c]
  |cons x D=>simp at c;simp[c];omega
 rintro _ _ ⟨rfl,rfl⟩;cases D with
 |nil=>exact bK rfl (e _ (hb (MB h)))
 |cons x D=>
  refine aU rfl<|n8 ?_;refine vI h af rfl<|pS λw h=>axP h elD λw l h=>?_;refine pS λw h=>?_;have m:s.n=D.length+1:=gq c
  show Th s 1 0 (aF B_ (((s.n:Nat):Int) - 1)) _;have o:aF B_ (((s.n:Nat):Int) - 1)=(D.length:Nat):=by
   have:=(h.own (sz:=1) (s:=s)).max;have:=(h.own (sz:=1) (s:=s)).cap;rw[m,kg ⟨af,af⟩];omega
  rw[o];refine am1 h af (by simp;omega) λd q h=>?_
  have p:(ints D++[l]).take ((D.length:Nat):Int).toNat=ints D:=by simp_all
  rw[p]at h;refine pS λw h=>e w (hb (MB h))
def atu{l:Sl}(h:St w0 w (au gc [I_ x]::Lw g D::R))(c:D.length<1024->∀w',St w0 w' (Lw g (D++[x])::R)->k 0 w')(d:¬D.length<1024->∀w',St w0 w' (Lw g D::R)->k 20 w')(m:D.length<=1024):
  nN (A_ g) ⟨A_ gc,1,1⟩ w k:=by
 unfold nN;obtain⟨s,h⟩:=afa h.swap;have f:=qY (s:=s) h;have i:s.n=D.length:=gq f
 refine n8 ?_;show an (L_ (((1:Nat):Int)>aF B_ ((1024:Int) - ((s.n:Nat):Int)))) _ _;rw[i,kg ⟨af,af⟩];by_cases a:D.length<1024
 .refine aU (by simp;omega) ?_
  refine n8<|I9 (s:=s) h (b:=8) (z:= I_ 0) ⟨aZ,rfl⟩ aZ rfl (by simp;omega) af λs' w h j=>?_
  refine pS λw h=>c a w (MB (s:=s') ?_);have e:ints (D++[x])=ints D++[I_ x]:=by simp[ints]
  rw[e];exact h.rm 2 rfl
 .refine bK (by simp;omega) (d a w (MB (h.rm 2 rfl)))
def atv{k:Sl×Int->ap}(h:St w0 w L)(c:1<=n)(h2:n<=16)(d:0<=self)(e:self<n)
  (a:∀s w',St w0 w' (bG 1 s (ints (VU x (xI self on idle n.toNat)))::L)->k (s,0) w'):rj x self n on idle w k:=by
 refine aeo c h2 d e λs w' f b=>a s w'<|h.new f ⟨λk=>k_,b.s1⟩ λk a=>(b.below a).1
def aDZ(b:Option Code):Array Oper:=match b with|some (.seq _ (.seq _ (.seq (.region _ ops _) _)))=>ops|_=> #[]
noncomputable def atw:Array Oper:=aDZ Tryz.f340.body
def ans(e:Env)(w:N_)(k:Int->ap):Prop:=
 abq Tryz.prog (kC []) atw (atw.toList.drop 5) e w λe w=>lP (e.keep 21) λe=>amG Tryz.prog Tryz.f340.results.toList (λl w=>qW [.i B_] l λx=>k x w) .ret e w
def atx(x n a m:Int):Env:=[(9,.val (.int .u64 m)),(8,.val (.int .u64 a)),(7,.val (.int .u64 n)),(6,.val (.int .u64 x)),(5,.val (.int .u64 x)),(4,.val (Iq (x==0))),(2,.val (I_ 0)),(0,.val (.int .u64 x))]
def tzB(x n a m:Int)(w:N_)(k:Int->ap):ans (atx x n a m) w k=Hf (Addr.mk 3 0 H_) 64 (IR .u64 m 58) 1 λb=>aJ .u8 w b λc=>k (aF B_ c) w:=by kernel_rfl
def tzA(x:Int)(w:N_)(k:Int->ap):bT x w k=an (x==0) (k 64 w)
 (ans (atx x (aF .u64 (0 - x)) (oH .u64 x (aF .u64 (0 - x))) (aF .u64 ((oH .u64 x (aF .u64 (0 - x)))*285870213051353865))) w k):=by kernel_rfl
def alk:List Nat:=[0,1,56,2,57,49,28,3,61,58,42,50,38,29,17,4,62,47,59,36,45,43,51,22,53,39,33,30,24,18,12,5,63,55,48,27,60,41,37,16,46,35,44,21,52,32,23,11,54,26,40,15,34,20,31,10,25,14,19,9,13,8,7,6]
def TZ(w:N_):Prop:=∀i,i<64->w.cell? ⟨3,i,H_⟩=G_ (.int .u8 (alk.getD i 0:Nat))
def axQ:∀i,i<64->alk.getD ((2 ^ i*285870213051353865 % 2 ^ 64) / 2 ^ 58) 0=i/\(2 ^ i*285870213051353865 % 2 ^ 64) / 2 ^ 58<64:=e7
def low(x i:Nat):Prop:=x.testBit i=J_/\∀j,j<i->x.testBit j=K_
variable{x:Nat}
theorem ant(h:0<x):∃i,low x i:=by
 obtain⟨j,a⟩:=Nat.exists_testBit_of_ne_zero (by omega:x≠0)
 induction j using Nat.strongRecOn with
 |_ j ih=>
  by_cases b:∃i,i<j/\x.testBit i=J_
  .grind
  .exact⟨j,a,λi hi=>by
    cases hb:x.testBit i with
    |false=>rfl
    |true=>exact(b ⟨i,hi,hb⟩).elim⟩
variable{i:Nat}
def XV(h:low x i)(a:x<2 ^ 64):i<64:=by
 apply Ou;intro b;have:=Nat.testBit_lt_two_pow (Nat.lt_of_lt_of_le a (Z' af (by omega:64<=i)))
 rw[h.1]at this;cases this
theorem axR(h:low x i)(f:x<2 ^ 64):(Jb 64 x&&& -(Jb 64 x)).toNat=2 ^ i:=by
 have hi:=XV h f;apply Nat.eq_of_testBit_eq;intro j;rw[Jc,J8,J9,Nat.testBit_two_pow];by_cases d:j<64
 .have hb:∀m,m<64->(Jb 64 x).getLsbD m=x.testBit m:=λm b=>by rw[JT];simp[b]
  rw[hb j d];simp only[d,decide_true,Oo];by_cases a:i=j
  .subst a;rw[h.1];have:¬∃m<i,(Jb 64 x).getLsbD m=true:=by
    rintro⟨m,b,e⟩;rw[hb m af,h.2 m b]at e;cases e
   simp[this]
  .cases g:x.testBit j with
   |false=>simp[a]
   |true=>
    have c:i<j:=by
     apply Ou;intro k;have:=h.2 j af;rw[g]at this;cases this
    have:∃m<j,(Jb 64 x).getLsbD m=true:=⟨i,c,by rw[hb i hi];exact h.1⟩
    simp[this,a]
 .grind
def Ds:IntKind.u64.wrap n=n % 18446744073709551616:=by
 unfold aF;simp[IntKind.bits,IntKind.signed]
theorem aAc(h:St w0 w L)(g:TZ w0)(d:low x i)(f:x<2 ^ 64)(j:k i w):bT (x:Int) w k:=by
 have hi:=XV d f;have n:x≠0:=by
  intro e;subst e;have:=d.1;simp at this
 rw[tzA,tzB];refine aU (by simp;omega) ?_
 have l:oH .u64 (x:Int) (aF .u64 (0 - (x:Int)))=((2 ^ i:Nat):Int):=by
  have hand:∀a b:Int,oH .u64 a b=IntKind.u64.wrap ((f_ 64 a&&&f_ 64 b).toNat:Nat):=λ_ _=>rfl;have m:aF .u64 (0 - (x:Int))=((2 ^ 64 - x:Nat):Int):=by rw[Ds];omega
  rw[m,hand];simp only[Ja];have c:Jb 64 (2 ^ 64 - x)= -(Jb 64 x):=by
   apply J7;simp[BitVec.toNat_neg];omega
  rw[c,axR d f,Ds];have:2 ^ i<2 ^ 64:=Nat.pow_lt_pow_right af hi;grind
 have e2:IR .u64 (aF .u64 (((2 ^ i:Nat):Int)*285870213051353865)) 58=(((2 ^ i*285870213051353865 % 2 ^ 64) / 2 ^ 58:Nat):Int):=by
  unfold IR;rw[Ds];have o:min (58:Int).toNat IntKind.u64.bits=58:=e7;grind
 rw[l,e2];obtain⟨t1,t2⟩:=axQ i hi;refine⟨⟨af,af⟩,?_⟩;rw[dg,iZ,FM,F4];refine uZ (h.ext.cell (g _ t2)) ?_;rw[t1,kg ⟨af,af⟩];exact j
def bitsOf(x:Nat):List Nat:=(CX 64).filter x.testBit
theorem aiV{y:Nat}(hi:i<64)(h:low x i)(b:∀j,y.testBit j=(x.testBit j&&L_ (j≠i))):bitsOf x=i::bitsOf y:=by
 unfold bitsOf;have e:CX 64=CX i++i::(CX (64 - (i+1))).map (·+(i+1)):=by
  have c:(64:Nat)=i+((64 - (i+1))+1):=af;conv=>lhs;rw[c,List.range_add,List.range_succ_eq_map]
  simp only[z_,List.map_map,Nat.add_zero];congr 2;apply List.map_congr_left;grind
 have f1:(CX i).filter x.testBit=[]:=Us.2 λj a=>by rw[h.2 j (List.mem_range.1 a)];simp
 have f2:(CX i).filter y.testBit=[]:=Us.2 λj a=>by rw[b,h.2 j (List.mem_range.1 a)];simp
 rw[e,Ur,Ur,f1,f2,List.filter_cons,List.filter_cons,h.1,b i,h.1];simp only[if_true,VM,ne_eq,not_true_eq_false,decide_false,Bool.and_false,h_,if_false];congr 1;apply List.filter_congr;grind
theorem alm(h:low x i)(g:x<2 ^ 64):∀j,(x&&&(x - 1)).testBit j=(x.testBit j&&L_ (j≠i)):=by
 have hi:=XV h g;have k:0<x:=by
  apply Ou;intro l;have:x=0:=af;subst this;have:=h.1;simp at this
 have e:x&&&(x - 1)=(Jb 64 x&&&~~~(-(Jb 64 x))).toNat:=by grind
 intro j;rw[e,Jc,J8,BitVec.getLsbD_not,J9];by_cases d:j<64
 .have hb:∀m,m<64->(Jb 64 x).getLsbD m=x.testBit m:=λm b=>by rw[JT];simp[b]
  rw[hb j d];simp only[d,decide_true,Oo];by_cases a:j=i
  .subst a;rw[h.1];have:¬∃m<j,(Jb 64 x).getLsbD m=true:=by
    rintro⟨m,b,f⟩;rw[hb m af,h.2 m b]at f;cases f
   simp[this]
  .cases n:x.testBit j with
   |false=>simp
   |true=>
    have c:i<j:=by
     apply Ou;intro l;have:=h.2 j af;rw[n]at this;cases this
    have:∃m<j,(Jb 64 x).getLsbD m=true:=⟨i,c,by rw[hb i hi];exact h.1⟩
    simp[this,a]
 .grind
def aty(c:x<2 ^ 64)(e:0<x):oH .u64 (x:Int) (aF .u64 ((x:Int) - 1))=((x&&&(x - 1):Nat):Int):=by
 have hand:∀a b:Int,oH .u64 a b=IntKind.u64.wrap ((f_ 64 a&&&f_ 64 b).toNat:Nat):=λ_ _=>rfl;have d:aF .u64 ((x:Int) - 1)=((x - 1:Nat):Int):=by rw[Ds];omega
 rw[d,hand];simp only[Ja,Jd,J'];rw[Y' c,Y' af,Ds];have:x&&&(x - 1)<=x:=Nat.and_le_left;omega
def apf:bitsOf 0=[]:=e7
def apg(h:Cj Y v zp w λr w=>c (J3 #[]) w):ug Y [v,IB (G_ zp)] w c:=h
def afb(h:St w0 w L)(s:TZ w0)(t:x<2 ^ 63)(u:∀w',St w0 w' L->k ((bitsOf x).length:Nat) w'):kS (x:Int) w k:=by
 unfold kS Lj pQ;refine aM h λv w h=>zE λgx w h=>S1 h λa D b w h=>My (apg ?_);unfold Cj EA;refine n8 ?_;have l:x<2 ^ 64:=Nat.lt_trans t e7;have z:aF .u64 (x:Int)=(x:Int):=by rw[Ds];omega
 rw[z];refine DN (λq i w=>i=(q.2:Int)/\q.2<2 ^ 64/\q.1+(bitsOf q.2).length=(bitsOf x).length/\St w0 w (au gx [I_ (x:Int)]::obj a (b .ready)::obj D (.deferred (G_ []))::au v [I_ (q.1:Nat)]::L)) (λq=>(bitsOf q.2).length)
  (g:=(0,x)) ⟨rfl,l,bf,h.perm Hp⟩ ?_
 rintro⟨m,y⟩ _ w ⟨rfl,d,f,h⟩ C p;dsimp only at d f h p ⊢;have A:(bitsOf x).length<=64:=by unfold bitsOf;exact Nat.le_trans (List.length_filter_le _ _) bf
 by_cases n:y=0
 .subst n;refine aU bf ?_;refine⟨DM h,?_⟩;replace h:=AV (g:=a) (b .exhausted) h;generalize w.putObj a (b .exhausted)=w at h ⊢;refine n8 ?_;have h:=LK ((QR h).perm Hp);refine LL h λw h=>?_;rw[apf]at f;simp only[VI,Nat.add_zero]at f;rw[f];exact u w (((h.rm 0 rfl).rm 0 rfl).rm 0 rfl)
 .obtain⟨i,j⟩:=ant (by omega:0<y)
  have hi:=XV j d;refine bK (by simp;omega) ?_
  refine aAc h s j d<|QS<|amZ (i:Int) (λc B=>B) h λw h=>pS λw h=>?_;refine⟨DM h,?_⟩;replace h:=AV (g:=a) (b .ready) h;generalize w.putObj a (b .ready)=w at h ⊢;refine ags<|n8 ?_;have o:=aiV hi j (alm j d);have r:(bitsOf y).length=(bitsOf (y&&&(y - 1))).length+1:=by rw[o];rfl
  rw[aty d af];have F:y&&&(y - 1)<=y:=Nat.and_le_left;refine p (m+1,y&&&(y - 1)) _ w ⟨rfl,af,by dsimp only;omega,?_⟩ (by dsimp only;omega)
  have e:aF B_ ((m:Int)+1)=((m+1:Nat):Int):=by rw[kg ⟨af,af⟩];omega
  rw[<-e];exact h
def XW(x:Nat)(n:Int):Int:=match (CX 64).find? (λj=> !x.testBit j)with|some j=>if (j:Int)>=Wg n 64 then -1 else j|none=> -1
theorem atz(e:x<2 ^ 64):JV .u64 18446744073709551615 (x:Int)=((2 ^ 64 - 1 - x:Nat):Int):=by
 have c:∀a b:Int,JV .u64 a b=IntKind.u64.wrap ((f_ 64 a ^^^ f_ 64 b).toNat:Nat):=λ_ _=>rfl;rw[c];have d:f_ 64 18446744073709551615=BitVec.allOnes 64:=e7;rw[d,BitVec.allOnes_xor,BitVec.toNat_not,Ds];grind
theorem acP{j:Nat}(a:x<2 ^ 64)(b:j<64):(2 ^ 64 - 1 - x).testBit j= !x.testBit j:=by
 have:=Nat.testBit_two_pow_sub_succ a j;grind
theorem aph(h:St w0 w L)(d:TZ w0)(l:x<2 ^ 63)(a:∀w',St w0 w' L->k (XW x n) w'):sI (x:Int) n w k:=by
 unfold sI Ll;have e:aF .u64 (x:Int)=(x:Int):=by rw[Ds];omega
 rw[e,atz af];have b:0<2 ^ 64 - 1 - x:=af;obtain⟨i,c⟩:=ant b;have hi:=XV c af;have a:=a w h;unfold XW at a;have f:(CX 64).find? (λj=> !x.testBit j)=G_ i:=by
  rw[List.find?_range_eq_some];refine⟨by rw[<-acP af hi];exact c.1,gq hi,λj g=>?_⟩
  have:=c.2 j g;rw[acP af af]at this;simpa using this
 rw[f]at a;dsimp only at a;refine aAc h d c af<|ax (λhb=>?_) λhb=>?_
 iterate 2 grind
def tD(x i:Int):Bool:=if 0<=i/\i<64 then oH B_ (IR B_ x i) 1==1 else K_
variable{i:Int}{k:Bool->ap}
theorem ag6(a:k (tD n i) w):kK n i w k:=by
 unfold kK;unfold tD at a;refine ax (λhb=>?_) λhb=>?_
 .have hb:0<=i/\i<64:=by simpa using hb
  rw[HK hb]at a;exact amU hb.1 a
 .grind
structure Sp where
 at_:Int
 base:Int
 most:Int
def Sp.OK(s:Sp):Prop:=1<=s.base/\s.base<=16/\0<=s.most/\s.most<=16 - s.base
abbrev Sp.ag(s:Sp):Array Value:=#[I_ s.at_,I_ s.base,I_ s.most]
def Sp.bb(s:Sp):Int:=wr (sD B_ 1 s.base - 1)
structure jH where
 self:Int
 wait:Int
 on:Int
 ag7:Int
 next:Nat
def spF:Nat->Nat
 |1=>vg
 |2=>vf
 |3=>u9
 |4=>vh
 |5=>ve
 |_=>sL
def aBw(g:Nat):Nat->M_
 |0=>C_
 |n+1=> .func (F_ (spF (n+1))) #[IB (A_ g)] #[]
def jH.cells(s:Sp)(g:Nat)(o:jH):List Value:=[I_ s.at_,I_ s.base,I_ s.most,I_ o.self,I_ o.wait,I_ o.on,I_ o.ag7,aBw g o.next]
def aak(x:Int):Int:=((bitsOf x.toNat).length:Nat)
section
variable (s:Sp) (M:bJ) (wk:Int) (o:jH)
def jH.more:jH×bJ:=({o with wait:=wr (M.get s.at_+1),next:=4},M.ad wk s.at_ 1)
def jH.less:jH×bJ:=({o with next:=0},M.ad wk s.at_ (-1))
def jH.look:jH×bJ:=({o with wait:=M.get s.at_,next:=5},M.tick wk)
def jH.need:jH×bJ:=(if aak (M.get (s.at_+1))<s.most/\aak (M.get (s.at_+1))<o.wait then{o with on:=M.get (s.at_+1),self:=XW (Ti B_ (M.get (s.at_+1)) s.bb).toNat 16,next:=6}else{o with on:=M.get (s.at_+1),next:=0},M.tick wk)
def jH.many:jH×bJ:=(if tD (M.get (s.at_+1)) o.self=J_/\aak (M.get (s.at_+1))>o.wait then{o with on:=M.get (s.at_+1),next:=6}else{o with on:=M.get (s.at_+1),next:=0},M.tick wk)
def jH.aeR:jH×bJ:=(let r:=M.cs wk (s.at_+1) o.on (JV B_ o.on (sD B_ 1 (ZR o.self 0)));(if r.2 then{o with ag7:=o.self,next:=0}else{o with next:=0},r.1))
def jH.go:jH×bJ:=match o.next with
 |0=>(o,M)
 |1=>o.more s M wk
 |2=>o.less s M wk
 |3=>o.look s M wk
 |4=>o.need s M wk
 |5=>o.many s M wk
 |_=>o.aeR s M wk
end
variable{s:Sp}
def VW(h:St w0 w L)(hs:s.OK)(a:∀w',St w0 w' L->k J_ w'):cf s.ag w k:=by
 obtain⟨b,h2,c,d⟩:=hs;unfold cf;refine zE λgx w h=>?_;refine bK (gq b) ?_
 refine n8 ?_;refine bK (gq h2) ?_
 refine n8 ?_;refine bK (gq c) ?_
 refine n8 ?_;show k (L_ (s.most<=aF B_ (16 - s.base))) w;rw[kg ⟨af,af⟩,decide_eq_true d];exact a w h.drop
variable{k:Int->ap}
def afc(h:St w0 w L)(hs:s.OK)(hk:∀w',St w0 w' L->k s.bb w'):eb s.ag w k:=by
 obtain⟨a,h2,b,c⟩:=hs;unfold eb;refine zE λgx w h=>?_;refine Gf af<|hk w h.drop
def Sp.bits(s:Sp)(M:bJ):Int:=Ti B_ s.bb (M.get (s.at_+1))
def afd(h:St w0 w L)[a:At L (bH x) M f](hs:s.OK)(d:M.OK)(c:M.given (s.at_+1)=J_)(e:∀w',St w0 w' L->k (s.bits M) w'):ec s.ag (A_ x) w k:=by
 unfold ec zX;refine aM h λga w h=>bP (λb w=>b=K_/\St w0 w (au ga s.ag.toList::L)) (λJ g=>?_) ?_
 .refine n8 ?_;refine VW h hs λw h=>g _ _ ⟨rfl,h⟩
 rintro _ w ⟨rfl,h⟩;refine pS λw h=>afc h hs λw h=>?_;with_reducible repeat' (first|refine nP h ?_|fail)
 rw[y4 (E_ c) d];refine KG h ?_;rw[HK c];exact e w h.drop
def anu{k:Bool->ap}(h:St w0 w L)[a:At L (bH g) M f](hs:s.OK)(b:M.OK)(c:M.given (s.at_+1)=J_)(hk:∀w',St w0 w' L->k (tD (s.bits M) i) w'):dA s.ag (A_ g) i w k:=by
 unfold dA CR;refine aM h λga w h=>n8<|afd h hs b c λw h=>ag6<|hk w h.drop
def atB{k:Array M_×Int->ap}(h:St w0 w L)[a2:At L (bH x) M f](hs:Sp.OK ⟨0,n,most⟩)(b:M.caller wk=J_)(c:M.OK)
  (d:M.room 2=J_->∀w',St w0 w' (f (bH x ((M.tick wk).grow 2)))->k (Sp.ag ⟨(M.cells.length:Nat),n,most⟩,0) w') (e:M.room 2=K_->∀w',St w0 w' L->k (Sp.ag ⟨0,0,0⟩,21) w'):
  uA (A_ x) wk n most w k:=by
 unfold uA Nr;with_reducible repeat' (first|refine Vh h ?_|refine QU h λw h=>?_|refine aM h λgx w h=>?_|refine I8 ?_)
 refine VW h hs λw h=>n8 ?_;refine GU h c (λ_ _ a w h=>?_) (λ_ _ a=>?_) λg=>(g ⟨b,af⟩).elim
 .refine pS λw h=>d a w h.drop.drop
 .refine pS λw h=>e a w h.drop.drop
def jH.B7(self:Int)(n:Nat):jH:=⟨self,0,0, -1,n⟩
variable{k:Option P_->ap}
def atC(h:St w0 w L)(a:∀g w',St w0 w' (au g (jH.cells s g (jH.B7 0 1))::L)->k (A_ g) w'):jY s.ag w k:=by
 unfold jY;refine zE λgx w h=>?_;refine⟨rfl,?_⟩;refine aM h λb w h=>pS λw h=>a b w (h.rm 1 rfl)
def api(h:St w0 w L)(a:∀g w',St w0 w' (au g (jH.cells s g (jH.B7 0 2))::L)->k (A_ g) w'):iD s.ag w k:=by
 unfold iD;refine zE λgx w h=>?_;refine⟨rfl,?_⟩;refine aM h λb w h=>pS λw h=>a b w (h.rm 1 rfl)
def apj(h:St w0 w L)(a:∀g w',St w0 w' (au g (jH.cells s g (jH.B7 self 3))::L)->k (A_ g) w'):jv s.ag self w k:=by
 unfold jv;refine zE λgx w h=>?_;refine⟨rfl,?_⟩;refine aM h λb w h=>?_;with_reducible repeat' (first|refine Hq h λw h=>?_|fail)
 exact a b w (h.rm 1 rfl)
variable{k:Int->ap}{o:jH}
def atD(h:St w0 w L)[a:At L (au g) (jH.cells s g o) f](hk:k o.ag7 w):nM (A_ g) w k:=by
 unfold nM;refine n8<|hk
abbrev afe(w0:N_)(s:Sp)(g gm:Nat)(R:List HP)(k:Int->ap)(r:jH×bJ):Prop:=∀w',St w0 w' (au g (jH.cells s g r.1)::bH gm r.2::R)->k 0 w'
def sp1(h:St w0 w (au g (jH.cells s g o)::bH x M::R))(a:M.can wk s.at_=J_)(b:afe w0 s g x R k (o.more s M wk)):mh (A_ g) (A_ x) wk w k:=by
 unfold mh FQ;refine n8<|cr h rfl ?_;refine VR h a λw h=>pS λw h=>b w h
def sp2(h:St w0 w (au g (jH.cells s g o)::bH x M::R))(a:M.can wk s.at_=J_)(b:afe w0 s g x R k (o.less s M wk)):mi (A_ g) (A_ x) wk w k:=by
 unfold mi FR;refine n8<|cr h rfl ?_;refine VR h a λw h=>pS λw h=>b w h
def sp3(h:St w0 w (au g (jH.cells s g o)::bH x M::R))(a:M.can wk s.at_=J_)(b:afe w0 s g x R k (o.look s M wk)):mj (A_ g) (A_ x) wk w k:=by
 unfold mj FT;refine n8<|cr h rfl ?_;refine ldc h a λw h=>pS λw h=>b w h
def axS(d:g<2 ^ 63)(hb:x<2 ^ 63):Ti B_ (g:Int) (x:Int)=((g|||x:Nat):Int)/\g|||x<2 ^ 63:=by
 have h:g|||x<2 ^ 63:=Nat.or_lt_two_pow d hb;have c:∀g x:Int,Ti B_ g x=IntKind.i64.wrap ((f_ 64 g|||f_ 64 x).toNat:Nat):=λ_ _=>rfl
 refine⟨?_,h⟩;rw[c];simp only[Ja,BitVec.toNat_or,J'];rw[Y' af,Y' af,kg ⟨af,af⟩]
theorem axT(hs:s.OK):∃b:Nat,s.bb=b/\b<2 ^ 63:=by
 obtain⟨c,h2,_⟩:=hs;have key:∀n:Nat,n<17->wr (sD B_ 1 (n:Int) - 1)=((2 ^ n - 1:Nat):Int)/\2 ^ n - 1<2 ^ 63:=e7;obtain⟨hb,a⟩:=key s.base.toNat af;refine⟨2 ^ s.base.toNat - 1,?_,a⟩;unfold Sp.bb;grind
theorem sp4(h:St w0 w (au g (jH.cells s g o)::bH gc M::R))(e:TZ w0)(hs:s.OK)(j:M.OK)(f:M.can wk (s.at_+1)=J_)(d:∃x:Nat,M.get (s.at_+1)=x/\x<2 ^ 63)(a:afe w0 s g gc R k (o.need s M wk)):mo (A_ g) (A_ gc) wk w k:=by
 unfold mo FU;obtain⟨x,d,c⟩:=d;unfold jH.need at a;rw[d]at a;have l:aak (x:Int)=((bitsOf x).length:Nat):=rfl;refine n8<|cr h rfl ?_;rw[y4 (E_ (pe f)) j];refine ldc h f λw h=>?_;rw[d];refine pS λw h=>afb h e c λw h=>?_;rw[<-l];refine bP (λb w'=>w'=w/\b=L_ (aak (x:Int)<s.most/\aak (x:Int)<o.wait)) (λJ m=>?_) ?_
 .refine n8<|cr (g:=g) h rfl<|ax (λhb=>?_) λhb=>?_
  .have hb:=of_decide_eq_true hb;refine n8<|m _ _ ⟨rfl,?_⟩;simp[hb,jH.cells]
  .grind
 rintro _ _ ⟨rfl,rfl⟩;refine ax (λhb=>?_) λhb=>?_
 .rw[HK (of_decide_eq_true hb)]at a;refine n8<|afc h hs λw h=>?_;obtain⟨b,n,p⟩:=axT hs;have i:=axS c p;rw[n,i.1]at a ⊢;refine aph h e i.2 λw h=>pS λw h=>a w h
 .rw[HQ (of_decide_eq_false hb)]at a;exact a _ h
theorem sp5(h:St w0 w (au g (jH.cells s g o)::bH gc M::R))(i:TZ w0)(hs:s.OK)(j:M.OK)(e:M.can wk (s.at_+1)=J_)(a:∃x:Nat,M.get (s.at_+1)=x/\x<2 ^ 63)(c:afe w0 s g gc R k (o.many s M wk)):mq (A_ g) (A_ gc) wk w k:=by
 unfold mq FV;obtain⟨x,a,d⟩:=a;unfold jH.many at c;rw[a]at c;have l:aak (x:Int)=((bitsOf x).length:Nat):=rfl;refine n8<|cr h rfl ?_;rw[y4 (E_ (pe e)) j];refine ldc h e λw h=>?_;rw[a];refine pS λw h=>bP (λb w'=>St w0 w' (au g (jH.cells s g {o with on:=(x:Int),next:=0})::bH gc (M.tick wk)::R)/\b=L_ (tD (x:Int) o.self=J_/\aak (x:Int)>o.wait)) (λJ f=>?_) ?_
 .refine pS λw h=>ag6 (ax (λhb=>?_) λhb=>?_)
  .refine n8<|afb h i d λw h=>?_;with_reducible repeat' (first|refine nP h ?_|fail)
   rw[<-l];refine f _ _ ⟨h,?_⟩;grind
  .refine f _ _ ⟨h,?_⟩;grind
 rintro _ w ⟨h,rfl⟩;refine ax (λhb=>?_) λhb=>?_
 .rw[HK (of_decide_eq_true hb)]at c;refine pS λw h=>c w h
 .grind
def sp6(h:St w0 w (au g (jH.cells s g o)::bH x M::R))(c:M.OK)(b:M.can wk (s.at_+1)=J_)(a:afe w0 s g x R k (o.aeR s M wk)):mr (A_ g) (A_ x) wk w k:=by
 unfold mr FW;unfold jH.aeR at a;refine pS λw h=>cr h rfl ?_;refine n8 ?_;refine Gf (by unfold ZR;split<;>simp_all) ?_
 rw[y4 (E_ (pe b)) c];refine ank h b λw h=>pS λw h=>ax (λhb=>?_) λhb=>?_
 .have hb:(M.cs wk (s.at_+1) o.on (JV B_ o.on (sD B_ 1 (ZR o.self 0)))).2=true:=hb;simp only[hb,if_true]at a;refine pS λw h=>a w h
 .have hb:(M.cs wk (s.at_+1) o.on (JV B_ o.on (sD B_ 1 (ZR o.self 0)))).2=false:=hb;simp only[hb,h_,if_false]at a;exact a w h
def atE(h:mh a b i w λr w=>c (I_ r) w):Md [IB a,IB b,I_ i] w c:=h
def atF(h:mi a b i w λr w=>c (I_ r) w):Me [IB a,IB b,I_ i] w c:=h
def atG(h:mj a b i w λr w=>c (I_ r) w):Mf [IB a,IB b,I_ i] w c:=h
def atH(h:mo a b i w λr w=>c (I_ r) w):Mg [IB a,IB b,I_ i] w c:=h
def atI(h:mq a b i w λr w=>c (I_ r) w):Mh [IB a,IB b,I_ i] w c:=h
def atJ(h:mr a b i w λr w=>c (I_ r) w):Mi [IB a,IB b,I_ i] w c:=h
structure jH.GX (s:Sp) (M:bJ) (wk:Int) (o:jH):Prop where
 n:o.next<=6
 c:M.can wk s.at_=J_
 c1:M.can wk (s.at_+1)=J_
 x:∃x:Nat,M.get (s.at_+1)=x/\x<2 ^ 63
def Ze{k:Bool×Int->ap}(h:St w0 w (au g (jH.cells s g o)::bH x M::R))(f:TZ w0)(hs:s.OK)(a:M.OK)(l:o.GX s M wk)
  (hk:∀w',St w0 w' (au g (jH.cells s g (o.go s M wk).1)::bH x (o.go s M wk).2::R)->k ((o.go s M wk).1.next==0,0) w'):dI (A_ g) (A_ x) wk w k:=by
 obtain⟨i,b,c,j⟩:=l;unfold dI FX;refine n8 ?_;refine VW h hs λw h=>n8 ?_;obtain⟨m,p,on,q,nx⟩:=o;dsimp only at i;have fin:∀(r:jH×bJ) w,(∀w',St w0 w' (au g (jH.cells s g r.1)::bH x r.2::R)->k (r.1.next==0,0) w')->St w0 w (au g (jH.cells s g r.1)::bH x r.2::R)->
   tH w (aY ⟨g,0,H_⟩ 7) λd=>abm d λe=>k (e,(0:Int)) w:=by
  intro r w hk h;refine n8 ?_;have hk:=hk w h;cases hr:r.1.next with
  |zero=>
   rw[hr]at hk;exact am0 hk
  |succ n=>
   rw[hr]at hk;exact Ng hk
 match nx,i with
 |0,_=>
  refine am0<|n8<|hk w h
 |1,_=>
  refine Ng<|n8 ?_;refine bV (λ_ _ _=>rfl) (atE ?_);refine sp1 h b λw h=>I0 (aU rfl (fin _ w hk h))
 |2,_=>
  refine Ng<|n8 ?_;refine bV (λ_ _ _=>rfl) (atF ?_);refine sp2 h b λw h=>I0 (aU rfl (fin _ w hk h))
 |3,_=>
  refine Ng<|n8<|bV (λ_ _ _=>rfl) (atG ?_);refine sp3 h b λw h=>I0 (aU rfl (fin _ w hk h))
 |4,_=>
  refine Ng<|n8<|bV (λ_ _ _=>rfl) (atH ?_);refine sp4 h f hs a c j λw h=>I0 (aU rfl (fin _ w hk h))
 |5,_=>
  refine Ng<|n8<|bV (λ_ _ _=>rfl) (atI ?_);refine sp5 h f hs a c j λw h=>I0 (aU rfl (fin _ w hk h))
 |6,_=>
  refine Ng<|n8<|bV (λ_ _ _=>rfl) (atJ ?_);refine sp6 h a c λw h=>I0 (aU rfl (fin _ w hk h))
end Go.Proofs.YthidhjhkmjjckaaGreatDoor
namespace Go.Proofs.YthidhjhkmjjckaaGreatDoor.Fr
open Go Go.Ev Go.Proofs
def A0(f:List Int)(pc:Int):List Int:=(f.set 1 pc).set 18 (IntKind.i64.wrap ((f.set 1 pc).getD 18 0+1))
def nE(f:List Int):List Int:=A0 f (IntKind.i64.wrap (f.getD 1 0+1))
variable{f:List Int}{pc:Int}
def qH:(A0 f pc).length=f.length:=by simp[A0]
def kz:(nE f).length=f.length:=qH
abbrev Z(n:Nat):List Int:=dU n 0
variable{k:Array M_->ap}{w:N_}
def atK(a:f.length=19)(m:∀w',Ext w w'->k (eZ (A0 f pc)) w'):de (eZ f) pc w k:=by
 unfold de;refine jJ λg1 w1 n o p c=>jJ λg2 q z A r d=>?_;have s:BI q g1 f:=p.ext d;simp only[dg,FM];refine CB s af λB e C i=>j3 e (by simp;omega) ?_
 refine CB e (by simp;omega) λD t u j=>?_
 refine kV t (by simp[a]) ?_
 have v:=(r.keep i af).keep j af;refine xT v rfl (by simp[a]) λF x y b=>kV x (by simp[a]) ?_
 exact m _ ((((c.trans d).then i λg l=>by omega).then j λg l=>by omega).then b λg l=>by have:=c.size;omega)
def acQ(a:f.length=19)(j:∀w',Ext w w'->k (eZ (nE f)) w'):av (eZ f) w k:=by
 unfold av yq;refine jJ λg1 w1 l m n c=>jJ λg2 o s t p d=>?_;have e:BI o g1 f:=n.ext d;simp only[dg,FM];refine kV e a (j3 e af (atK a λu i=>?_));refine xT (p.ext i) rfl (by simp[qH,a]) λv q r b=>kV q (by simp[qH,a]) ?_
 exact j _ (((c.trans d).trans i).then b λg x=>by have:=c.size;omega)
variable{x3:List Int}
def ag8(h:x3.length=19):∃a b c d e f g h i j k m n o p q r s t,x3=[a,b,c,d,e,f,g,h,i,j,k,m,n,o,p,q,r,s,t]:=by
 match x3,h with
 |[a,b,c,d,e,f,g,h,i,j,k,m,n,o,p,q,r,s,t],_=>exact⟨a,b,c,d,e,f,g,h,i,j,k,m,n,o,p,q,r,s,t,rfl⟩
def nF:List Int:=[0,0,0,0,0,0,0,0,0,0, -1, -1, -1, -1, -1, -1, -1, -1,0]
variable{x1:Nat}
def apl{i:Nat}(h:i<8):(dU 10 (0:Int)++(dU i (-1)++dU (9 - i) 0)).set (10+i) (-1)=dU 10 0++(dU (i+1) (-1)++dU (9 - (i+1)) 0):=by
 match i,h with
 |0,_=>rfl
 |1,_=>rfl
 |2,_=>rfl
 |3,_=>rfl
 |4,_=>rfl
 |5,_=>rfl
 |6,_=>rfl
 |7,_=>rfl
theorem anv(hk:∀w',Ext w w'->k (eZ nF) w'):lN w k:=by
 unfold lN;refine jJ λg1 w1 p q r j=>jJ λg2 l B D s m=>?_;simp only[dg,FM];have c:BI l g2 (dU 10 0++(dU 0 (-1)++dU (9 - 0) 0)):=by
  have e:(dU 10 (0:Int)++(dU 0 (-1)++dU (9 - 0) 0))=Z 19:=e7;rw[e];exact s
 refine ot (fun(x:Int) w'=> ∃i:Nat,x=i/\i<=8/\BI w' g2 (dU 10 0++(dU i (-1)++dU (9 - i) 0))/\o7 (λk=>k=g2) l w') (λx _=>(8 - x).toNat) ⟨0,rfl,af,c,.refl _ _⟩ ?_;rintro _ w3 ⟨i,rfl,hi,n,d⟩ C hC;refine ax (λa=>?_) (λb=>?_)
 .have a:i<8:=by
    grind
  refine uu af af ?_;simp only[iZ,F4];refine CB n (by simp;omega) λF t u v=>?_
  have o:IntKind.i64.wrap ((i:Int)+1)=((i+1:Nat):Int):=by rw[dh ⟨af,af⟩];simp
  exact hC _ _ ⟨i+1,o,af,by rw[<-apl a];exact t,d.trans v (λ_ _ h=>h) λ_ _ h=>h⟩ (by rw[o];omega)
 .have b:i=8:=by
    grind
  subst b;refine kV n rfl<|xT ((r.ext m).keep d af) rfl rfl λG y z f=>kV y rfl<|hk _ (((j.trans m).then d λg A=>by have:=j.size;omega).then f λg A=>by omega)
def nY:List Int:=[1,0,0,5,1,1,0,0,1,1,1,0,1,1,1,0,1,1,1,0,1,1,1,0,0,0,0,2,1,0,0,2,1,0,0,3,1,1,0,0,1,1,1,0,0,0,0,4,1,0,0,0,0,0,0,0,0,0,0,0,1,0,0,0,1,0,0,0]
def VY(k:Int):Int×Int:=if k=1 then(0,7)else if k=2 then(0,127)else if k=3 then(0,31)else if k=4 then(0,65535)else if k=5 then(-2147483648,2147483647)else(0,0)
def pY(op j:Nat):Int×Int:=VY (nY.getD (4*op+j) 0)
def Gh(i:List Int)(j:Nat):Bool:=L_ ((pY (i.getD 0 0).toNat j).1<=i.getD (j+1) 0/\i.getD (j+1) 0<=(pY (i.getD 0 0).toNat j).2)
def oV(i:List Int):Int:=if i.getD 0 0<0\/i.getD 0 0>=17 then 13 else if Gh i 0&&Gh i 1&&Gh i 2&&Gh i 3 then 0 else 10
theorem ag9{k:Int×Int->ap}(a:k (VY pc) w):rR pc w k:=by
 unfold rR;unfold VY at a;refine ax (λh=>?_) (λh=>?_)
 .grind
 rw[HQ (gq h)]at a
 refine ax (λh=>?_) (λh=>?_)
 .grind
 rw[HQ (gq h)]at a
 refine ax (λh=>?_) (λh=>?_)
 .grind
 rw[HQ (gq h)]at a
 refine ax (λh=>?_) (λh=>?_)
 .grind
 rw[HQ (gq h)]at a
 refine ax (λh=>?_) (λh=>?_)
 .grind
 grind
def Sj(e:0<=pc)(t:pc<17)(f:∀w',Ext w w'->k (eZ ((nY.drop (pc.toNat*4)).take 4)) w'):mg pc w k:=by
 unfold mg;refine jJ λg1 w1 i j l a=>qL (eZ (nY.take 4++Z 64)) rfl rfl<|qL (eZ (nY.take 8++Z 60)) rfl rfl<|qL (eZ (nY.take 12++Z 56)) rfl rfl<|qL (eZ (nY.take 16++Z 52)) rfl rfl<|qL (eZ (nY.take 20++Z 48)) rfl rfl<|qL (eZ (nY.take 24++Z 44)) rfl rfl<|qL (eZ (nY.take 28++Z 40)) rfl rfl<|qL (eZ (nY.take 32++Z 36)) rfl rfl<|qL (eZ (nY.take 36++Z 32)) rfl rfl<|qL (eZ (nY.take 40++Z 28)) rfl rfl<|qL (eZ (nY.take 44++Z 24)) rfl rfl<|qL (eZ (nY.take 48++Z 20)) rfl rfl<|qL (eZ (nY.take 52++Z 16)) rfl rfl<|qL (eZ (nY.take 56++Z 12)) rfl rfl<|qL (eZ (nY.take 60++Z 8)) rfl rfl<|qL (eZ (nY.take 64++Z 4)) rfl rfl<|qL (eZ nY) rfl rfl<|jJ λg2 u v x m b=>xT m rfl rfl λy n z c=>?_;have o:=(l.ext b).keep c af;refine uu e af ?_;rw[FM];have d:nY.length=68:=rfl;refine aro n af<|xT o rfl (by simp[d];omega) λA p q r=>kV p (by simp[d];omega) ?_
 exact f _ (((a.trans b).then c λg s=>by have:=a.size;omega).then r λg s=>by omega)
variable{j:Nat}
def four(h:j<4):j=0\/j=1\/j=2\/j=3:=af
variable{i:List Int}
theorem atL(a:¬(i.getD 0 0<0\/i.getD 0 0>=17))(b:j<4)(hb:Gh i j=K_):oV i=10:=by
 unfold oV;grind
theorem aff(a:¬(i.getD 0 0<0\/i.getD 0 0>=17))(hb:∀j,j<4->Gh i j=J_):oV i=0:=by
 unfold oV;grind
theorem aln(h:x1<17)(a:j<4):((nY.drop (x1*4)).take 4).getD j 0=nY.getD (4*x1+j) 0:=by grind
def aBx(a:j<4):[i.getD 1 0,i.getD 2 0,i.getD 3 0,i.getD 4 0].getD j 0=i.getD (j+1) 0:=by
 rcases four a with rfl|rfl|rfl|rfl<;>rfl
theorem aiY{k:Int->ap}(hi:i.length=5)(n:∀w',Ext w w'->k (oV i) w'):fa (eZ i) w k:=by
 unfold fa Gg;refine jJ λg1 w1 y z A o=>?_;have d:BI w1 g1 i:=A;simp only[dg,FM];refine bP (λb w'=>b=L_ (i.getD 0 0<0\/i.getD 0 0>=17)/\w1=w') ?_ ?_
 .intro J r;refine j3 d af (ax (λh=>r _ _ ⟨?_,rfl⟩) λh=>?_)
  .grind
  .simp only[decide_eq_false_iff_not]at h;refine j3 d af (r _ _ ⟨?_,rfl⟩);rw[decide_eq_decide];omega
 rintro _ _ ⟨rfl,rfl⟩;refine ax (λh=>?_) λh=>?_
 .have h:=of_decide_eq_true h;have e:oV i=13:=by unfold oV;rw[HK h]
  rw[<-e];exact n _ o
 have h:=of_decide_eq_false h;refine j3 d af (Sj af af λP s=>?_);refine jJ λg3 Q B R D F=>?_;have G:((nY.drop ((i.getD 0 0).toNat*4)).take 4).length=4:=by
  have:nY.length=68:=rfl;grind
 refine xT D rfl G λp H I K=>?_;have q:Ext w1 p:=(s.trans F).then K λg S=>by have:=s.size;omega
 have f:BI p g1 i:=d.ext q;refine j3 f af (j3 f af (j3 f af (j3 f af ?_)));refine ot (fun(x:Int×Int) w'=>p=w'/\x.1=0/\∃j:Nat,x.2=j/\j<=4/\∀m,m<j->Gh i m=J_) (λx _=>(4 - x.2).toNat) ⟨rfl,rfl,0,rfl,af,λm L=>by omega⟩ ?_
 rintro⟨out,_⟩ _ ⟨rfl,t,j,u,M,N⟩ C O;simp only at t u;subst t;subst u;refine ax (λa=>?_) λc=>?_
 .have a:j<4:=by
    grind
  refine arp (l:=[i.getD 1 0,i.getD 2 0,i.getD 3 0,i.getD 4 0]) bf (by simp;omega) rfl ?_
  rw[iZ,aBx a];refine I0 (uu af af ?_);rw[iZ,F4,FM];refine j3 H af ?_;rw[aln af a];refine ag9 ?_;have e:((L_ (i.getD (j+1) 0<(VY (nY.getD (4*(i.getD 0 0).toNat+j) 0)).1))||(L_ (i.getD (j+1) 0>(VY (nY.getD (4*(i.getD 0 0).toNat+j) 0)).2)))= !Gh i j:=by
   unfold Gh pY;grind
  rw[e];refine ax (λhb=>?_) λhb=>?_
  .rw[<-atL h a (gq hb)]
   exact n _ (o.trans q)
  .have v:IntKind.i64.wrap ((j:Int)+1)=((j+1:Nat):Int):=by rw[dh ⟨af,af⟩];simp
   refine O _ _ ⟨rfl,rfl,j+1,v,af,λm L=>?_⟩ (by simp only[v];omega)
   grind
 .have c:j=4:=by
    grind
  subst c;simp only;rw[<-aff h N];exact n _ (o.trans q)
variable{op:Int}
def aD3(a:0<=op)(b:op<17):op=0\/op=1\/op=2\/op=3\/op=4\/op=5\/op=6\/op=7\/op=8\/op=9\/op=10\/op=11\/op=12\/op=13\/op=14\/op=15\/op=16:=af
def o5(i:List Int)(op:Int):Bool:=i.getD 0 0==op&&oV i==0
theorem F6{k:Bool->ap}(hi:i.length=5)(a:∀w',Ext w w'->k (o5 i op) w'):eR (eZ i) op w k:=by
 unfold eR NW;refine jJ λg1 w1 c d e f=>?_;have b:BI w1 g1 i:=e;simp only[dg,FM];unfold o5 at a;refine j3 b af (ax (λh=>?_) λh=>?_)
 .refine kV b hi (aiY hi λj g=>?_);have:=a _ (f.trans g);rwa[h,Oo]at this
 .grind
variable{y0:Bool}
def atN{k:Int->ap}(a:k (if y0 then 1 else 0) w):mX y0 w k:=by
 unfold mX;cases y0<;>exact a
def aha(h:oV i=0):0<=i.getD 0 0/\i.getD 0 0<17/\∀j,j<4->(pY (i.getD 0 0).toNat j).1<=i.getD (j+1) 0/\i.getD (j+1) 0<=(pY (i.getD 0 0).toNat j).2:=by
 unfold oV at h;split at h
 .cases h
 .rename_i c;split at h
  .rename_i a;simp only[iY]at a;refine⟨af,af,λj b=>?_⟩;rcases four b with rfl|rfl|rfl|rfl
   .exact of_decide_eq_true a.1.1.1
   .exact of_decide_eq_true a.1.1.2
   .exact of_decide_eq_true a.1.2
   .exact of_decide_eq_true a.2
  .cases h
def Zf:∀op,op<17->∀j,j<3->0<=(pY op j).1/\(pY op j).2<=7:=e7
theorem vG(h:oV i=0):(0<=i.getD 1 0/\i.getD 1 0<8)/\(0<=i.getD 2 0/\i.getD 2 0<8)/\0<=i.getD 3 0/\i.getD 3 0<8:=by
 obtain⟨d,e,hs⟩:=aha h;have a:=hs 0 af;have b:=hs 1 af;have c:=hs 2 af;have a':=Zf (i.getD 0 0).toNat af 0 af;have f:=Zf (i.getD 0 0).toNat af 1 af;have c':=Zf (i.getD 0 0).toNat af 2 af;grind
abbrev fR(f:List Int)(r:Int):Int:=f.getD (2+r.toNat) 0
def Sk(f i:List Int):Int:=
 if i.getD 0 0=0 then i.getD 4 0 else if i.getD 0 0=1 then fR f (i.getD 2 0)else if i.getD 0 0=2 then IntKind.i64.wrap (fR f (i.getD 2 0)+fR f (i.getD 3 0))
 else if i.getD 0 0=3 then IntKind.i64.wrap (fR f (i.getD 2 0) - fR f (i.getD 3 0))else if i.getD 0 0=4 then IntKind.i64.wrap (fR f (i.getD 2 0)*fR f (i.getD 3 0))
 else if fR f (i.getD 2 0)<fR f (i.getD 3 0)then 1 else 0
def dY(f i:List Int):List Int×Bool:=
 if oV i≠0 then(f,K_)
 else if i.getD 0 0=6\/(i.getD 0 0=7/\fR f (i.getD 1 0)≠0)then(A0 f (i.getD 4 0),J_)
 else if i.getD 0 0=7 then(nE f,J_)
 else if i.getD 0 0>5 then(f,K_)
 else(nE (f.set (2+(i.getD 1 0).toNat) (Sk f i)),J_)
def qt(a:f.length=19):(dY f i).1.length=19:=by
 unfold dY;split
 .exact a
 .split
  .simp only[qH,a]
  .split
   .simp only[kz,a]
   .split
    .exact a
    .simp only[kz,VJ,a]
def atO(g3 gb gc:Nat):Array Value:=#[.func (F_ oy) #[] #[IB (A_ g3)],.func (F_ oz) #[] #[IB (A_ gb)],.func (F_ oA) #[] #[IB (A_ gb),IB (A_ gc)],
 .func (F_ oB) #[] #[IB (A_ gb),IB (A_ gc)],.func (F_ oC) #[] #[IB (A_ gb),IB (A_ gc)],.func (F_ oD) #[] #[IB (A_ gb),IB (A_ gc)]]
def axU{k:Sl->ap}(hf:f.length=19)(hi:i.length=5)(S:0<=i.getD 2 0/\i.getD 2 0<8)(T:0<=i.getD 3 0/\i.getD 3 0<8)
  (U:∀w' g g3 m gc,Ext w w'->pN w' g (atO g3 m gc)->BI w' g3 i->BI w' m [fR f (i.getD 2 0)]->BI w' gc [fR f (i.getD 3 0)]->k ⟨A_ g,6,6⟩ w'):kx (eZ f) (eZ i) w k:=by
 unfold kx;refine jJ λg1 w1 V W X Y=>jJ λg2 C M7 IZ Z P=>?_;have vF:BI C g1 f:=X.ext P;have Q:BI C g2 i:=Z;simp only[dg,FM];refine bP (λx w'=>Ext C w'/\∃m gc,x=(⟨m,0,H_⟩,⟨gc,0,H_⟩)/\BI w' m [fR f (i.getD 2 0)]/\BI w' gc [fR f (i.getD 3 0)]) ?_ ?_
 .intro J R;refine M6 λp hh3 q=>?_;have e:BI p g1 f:=vF.ext q;have j:BI p g2 i:=Q.ext q;refine j3 j af (uu S.1 af (j3 e af ?_));refine j3 j af (uu T.1 af (j3 e af ?_));simp only[F4];have st:∀{w':N_} {n o:Nat} {c:Prop},Ext p w'->c->ai n ⟨g1,o,H_⟩ p w' c:=λD F=>BV e (e.ext D) F;have Zg:∀{w':N_} {n o:Nat} {c:Prop},Ext p w'->c->ai n ⟨g2,o,H_⟩ p w' c:=λD F=>BV j (j.ext D) F;refine⟨?_,?_⟩
  .refine jJ λu G v y z a=>st a (Zg a (st a (Zg a ?_)));refine jJ λg5 w5 H I K A=>?_;have b:=a.trans A;refine st b (Zg b (st b (Zg b ?_)));refine CB (l:=[0]) (z.ext A) bf λw6 r L d=>?_;have s:=b.then d λg M=>by omega
   refine st s (Zg s ?_);refine CB (l:=[0]) (K.keep d af) bf λw7 t N B=>R _ _ ⟨q.trans (s.then B λg M=>by omega),u,g5,rfl,r.keep B af,t⟩
  .refine jJ λu G v y z a=>st a (Zg a (st a (Zg a ?_)));refine jJ λg5 w5 H I K A=>?_;have b:=a.trans A;refine st b (Zg b (st b (Zg b ?_)));refine CB (l:=[0]) K bf λw6 r L d=>?_;have s:=b.then d λg M=>by omega
   refine st s (Zg s ?_);refine CB (l:=[0]) ((z.ext A).keep d af) bf λw7 t N B=>R _ _ ⟨q.trans (s.then B λg M=>by omega),g5,u,rfl,r.keep B af,t⟩
 .rintro x p ⟨q,m,gc,rfl,O,hbc⟩;refine⟨rfl,⟨rfl,⟨rfl,⟨rfl,⟨rfl,⟨rfl,jJ λu G v y z a=>?_⟩⟩⟩⟩⟩⟩;exact U G u g2 m gc (((Y.trans P).trans q).trans a) z ((Q.ext q).ext a) (O.ext a) (hbc.ext a)
theorem atP{k:Array M_×Bool->ap}(a:f.length=19)(hi:i.length=5)(hk:∀w',Ext w w'->k (eZ (dY f i).1,(dY f i).2) w'):jc (eZ f) (eZ i) w k:=by
 unfold jc Ac;refine jJ λg1 w1 hg1 hs1 AR AK=>jJ λg2 w2 M7 IZ jR u5=>jJ λg3 P hg3 Vi sQ T=>?_;have O4:=(AK.trans u5).trans T;have vF:BI P g1 f:=(AR.ext u5).ext T;have zg:BI P g2 i:=jR.ext T;have hsz:=AK.size;simp only[dg,FM];have fin:∀(l:List Int) (b:Bool) (w':N_),Ext P w'->l.length=19->(dY f i)=(l,b)->(dQ 19 w' ⟨g3,0,H_⟩ (eZ l) λA=>bx 19 A ⟨g3,0,H_⟩ λcs=>k (cs,b) A):=by
  intro l b w' he hl e;refine xT (sQ.ext he) rfl hl λA s U t=>kV s hl ?_;have:=hk A ((O4.trans he).then t λg hg=>by omega)
  rwa[e]at this
 refine kV zg hi (aiY hi λB q=>?_);have C:BI B g1 f:=vF.ext q;have u:BI B g2 i:=zg.ext q;refine ax (λh=>kV C a (fin f K_ B q a ?_)) λh=>?_
 .unfold dY;rw[HK (gq h)]
 have h:oV i=0:=gq h
 obtain⟨hA,hB,hC⟩:=vG h;obtain⟨h0,h17,_⟩:=aha h;refine j3 u af<|bP (λb w'=>b=L_ (i.getD 0 0=6\/(i.getD 0 0=7/\fR f (i.getD 1 0)≠0))/\B=w') ?_ ?_
 .intro J hJ;refine ax (λQ=>?_) λQ=>?_
  .grind
  .have Q:i.getD 0 0≠6:=by simpa using Q
   refine j3 u af (ax (λj=>?_) λj=>?_)
   .have j:i.getD 0 0=7:=by simpa using j
    refine j3 u af (uu hA.1 af (j3 C af (hJ _ _ ⟨?_,rfl⟩)));grind
   .grind
 rintro _ _ ⟨rfl,rfl⟩;refine ax (λD=>?_) λD=>?_
 .have D:=of_decide_eq_true D;refine kV C a (j3 u af (atK a λx r=>fin _ J_ x (q.trans r) (by rw[qH,a]) ?_))
  unfold dY;grind
 have D:=of_decide_eq_false D;refine j3 u af (ax (λj=>?_) λj=>?_)
 .have j:i.getD 0 0=7:=by simpa using j
  refine kV C a (acQ a λx r=>fin _ J_ x (q.trans r) (by rw[kz,a]) ?_)
  unfold dY;grind
 have j:i.getD 0 0≠7:=gq j
 refine j3 u af (ax (λG=>?_) λG=>?_)
 .have G:i.getD 0 0>5:=by simpa using G
  refine kV C a (fin f K_ B q a ?_);unfold dY;grind
 have G:¬i.getD 0 0>5:=gq G
 refine M6 λx hh5 r=>?_;have H:BI x g1 f:=C.ext r;have y:BI x g2 i:=u.ext r;refine j3 y af (kV H a (kV y hi (j3 y af ?_)));refine axU a hi hB hC λc g ga F gc m V W d o=>?_;have X:BI c g1 f:=H.ext m;have z:BI c g2 i:=y.ext m;refine BV y z (BV y z ?_);have tail:∀(v:M_),v= I_ (Sk f i)->(xS B_ v λY=>ai 1 ⟨g2,1,H_⟩ x c (Hf ⟨g1,2,H_⟩ 8 (i.getD 1 0) 1 λZ=>bN c Z (I_ Y) λI=>bx 19 I ⟨g1,0,H_⟩ λK=>
   av K I λL w53=>dQ 19 w53 ⟨g3,0,H_⟩ L λM=>bx 19 M ⟨g3,0,H_⟩ λN=>k (N,J_) M)):=by
  rintro _ rfl;refine I0 (BV y z (uu hA.1 af ?_));rw[F4];refine CB X af λw7 hb7 hs7 Zh=>?_;have he7:Ext P w7\/True:=E_ trivial;refine kV hb7 (by simp[a]) (acQ (by simp[a]) λw8 O=>?_)
  have aD5:=(((((sQ.ext q).ext r).ext m).keep Zh af).ext O);refine xT aD5 rfl (by rw[kz];simp[a]) λA s U t=>kV s (by rw[kz];simp[a]) ?_
  have e:dY f i=(nE (f.set (2+(i.getD 1 0).toNat) (Sk f i)),J_):=by
   unfold dY;grind
  have:=hk A ((((((O4.trans q).trans r).trans m).then Zh λg hg=>by omega).trans O).then t λg hg=>by omega)
  rwa[e]at this
 have Q:i.getD 0 0≠6:=λe=>D (D_ e);have hop:i.getD 0 0=0\/i.getD 0 0=1\/i.getD 0 0=2\/i.getD 0 0=3\/i.getD 0 0=4\/i.getD 0 0=5:=af;refine ars h0 af ?_;rw[F4,FM];have hcell:∀n:Nat,c.cell? ⟨g,n,H_⟩=(atO ga F gc)[n]?:=λn=>V.cell n;rcases hop with e|e|e|e|e|e;all_goals
  rw[e];refine akE (by rw[hcell];rfl) ?_
 .show aJ B_ c (aY ⟨ga,0,H_⟩ 4) _;rw[dg];refine j3 W af (tail _ ?_);simp only[Sk,e];rfl
 .show aJ B_ c ⟨F,0,H_⟩ _;refine j3 d bf (tail _ ?_);simp only[Sk,e];rfl
 iterate 3 show aJ B_ c ⟨F,0,H_⟩ λR=>aJ B_ c ⟨gc,0,H_⟩ λS=> _;refine j3 d bf (j3 o bf (tail _ ?_));simp only[Sk,e];rfl
 .show aJ B_ c ⟨F,0,H_⟩ λR=>aJ B_ c ⟨gc,0,H_⟩ λS=>mX (L_ (R<S)) c λi3 B=> _;refine j3 d bf (j3 o bf (atN (tail _ ?_)));have e1:List.getD [fR f (i.getD 2 0)] 0 0=fR f (i.getD 2 0):=rfl;have e2:List.getD [fR f (i.getD 3 0)] 0 0=fR f (i.getD 3 0):=rfl;rw[e1,e2];simp only[Sk,e];by_cases p:fR f (i.getD 2 0)<fR f (i.getD 3 0)
  .rw[decide_eq_true p,HK p];rfl
  .rw[decide_eq_false p,HQ p];rfl
theorem Zi(a:f.length=19):((f.drop 2).take 8).length=8:=by grind
theorem F8(h:o5 i op=J_):i.getD 0 0=op/\oV i=0:=by
 unfold o5 at h;grind
def iG(f i:List Int)(asked:Bool):List Int:=if o5 i 12 then nE (f.set (2+(i.getD 1 0).toNat) (if asked then 1 else 0))else f
def eI(f i:List Int)(id:Int):List Int:=if o5 i 8 then nE (f.set (10+(i.getD 1 0).toNat) id)else f
def di(f i:List Int)(kind v:Int):List Int×Int×Bool:=
 if kind<2\/kind>4\/(o5 i 9=K_/\o5 i 10=K_)then(f,0,K_)
 else if o5 i 10 then(nE ((f.set (2+(i.getD 1 0).toNat) (if kind=4 then 0 else v)).set (2+(i.getD 2 0).toNat) (IntKind.i64.wrap (kind - 2))),0,K_)
 else if kind=2 then(nE (f.set (2+(i.getD 1 0).toNat) v),0,K_)
 else(A0 f (f.getD 1 0),if kind=4 then -1 else v,J_)
def pZ:(iG f i y0).length=f.length:=by
 unfold iG;split
 .rw[kz,VJ]
 .rfl
def qa:(eI f i pc).length=f.length:=by
 unfold eI;split
 .rw[kz,VJ]
 .rfl
variable{kind v:Int}
def qb:(di f i kind v).1.length=f.length:=by
 unfold di;split
 .rfl
 .split
  .simp only[kz,VJ]
  .split
   .simp only[kz,VJ]
   .simp only[qH]
theorem apm(a:f.length=19)(hi:i.length=5)(y:∀w',Ext w w'->k (eZ (iG f i y0)) w'):jg (eZ f) (eZ i) y0 w k:=by
 unfold jg yL;refine jJ λg1 w1 H I J z=>jJ λg2 Y Z IZ K A=>jJ λg3 p L Vi B q=>?_;have C:=(z.trans A).trans q;have D:BI p g1 f:=(J.ext A).ext q;have F:BI p g2 i:=K.ext q;have M:=z.size;simp only[dg,FM];refine kV D a (jJ λg4 w4 N O P Q=>xT P rfl a λR S T r=>?_);have G:Ext p R:=Q.then r λg s=>by omega
 simp only[dg,FM];refine kV (F.ext G) hi (F6 hi λw6 j=>?_);have o:=G.trans j;refine ax (λh=>?_) λh=>?_
 .obtain⟨U,hB,hC⟩:=vG (F8 h).2;refine M6 λV W l=>?_;have c:=o.trans l;have d:BI V g2 i:=F.ext c;refine j3 d af (atN (BV d d (uu U.1 af ?_)));rw[F4];refine CB ((S.ext j).ext l) af λw8 t X m=>kV t (by simp[a]) (acQ (by simp[a]) λw9 n=>?_)
  refine xT (((B.ext c).keep m af).ext n) rfl (by rw[kz];simp[a]) λe u v x=>kV u (by rw[kz];simp[a]) ?_
  have:=y e ((((C.trans c).then m λg s=>by omega).trans n).then x λg s=>by omega)
  unfold iG at this;rwa[HK h]at this
 .refine kV (D.ext o) a (xT (B.ext o) rfl a λe u v x=>kV u a ?_);have:=y e ((C.trans o).then x λg s=>by omega)
  unfold iG at this;grind
def apn(a:f.length=19)(hi:i.length=5)(p:∀w',Ext w w'->k (eZ (eI f i pc)) w'):jf (eZ f) (eZ i) pc w k:=by
 unfold jf yE;refine jJ λg1 w1 A B C q=>jJ λg2 L M N D r=>jJ λg3 s F O t j=>?_;have u:=(q.trans r).trans j;have G:BI s g1 f:=(C.ext r).ext j;have v:BI s g2 i:=D.ext j;have H:=q.size;simp only[dg,FM];refine kV v hi (F6 hi λx c=>?_);have y:BI x g1 f:=G.ext c;have I:BI x g2 i:=v.ext c;refine ax (λh=>?_) λh=>?_
 .refine kV y a (xT (t.ext c) rfl a λb l m n=>kV l a ?_);have:=p b ((u.trans c).then n λg z=>by omega)
  unfold eI at this;rwa[HQ (gq h)]at this
 .have h:o5 i 8=true:=by simpa using h
  obtain⟨J,P,Q⟩:=vG (F8 h).2;refine j3 I af (uu J.1 af ?_);rw[F4];refine CB y af λR o K d=>kV o (by simp[a]) (acQ (by simp[a]) λS e=>?_)
  refine xT (((t.ext c).keep d af).ext e) rfl (by rw[kz];simp[a]) λb l m n=>kV l (by rw[kz];simp[a]) ?_
  have:=p b ((((u.trans c).then d λg z=>by omega).trans e).then n λg z=>by omega)
  unfold eI at this;rwa[HK h]at this
theorem apo{k:Array M_×Int×Bool->ap}(j:f.length=19)(hi:i.length=5)(Y:∀w',Ext w w'->k (eZ (di f i kind v).1,(di f i kind v).2.1,(di f i kind v).2.2) w'):iu (eZ f) (eZ i) kind v w k:=by
 unfold iu yQ;refine jJ λg1 w1 hg1 hs1 AR S=>jJ λg2 w2 M7 IZ jR T=>jJ λg3 C hg3 Vi sQ H=>?_;have O4:=(S.trans T).trans H;have vF:BI C g1 f:=(AR.ext T).ext H;have I:BI C g2 i:=jR.ext H;have hsz:=S.size;simp only[dg,FM];have fin:∀(l:List Int) (a:Int) (b:Bool) (w':N_),Ext w w'->pN w' g3 (eZ (Z 19))->l.length=19->di f i kind v=(l,a,b)->(dQ 19 w' ⟨g3,0,H_⟩ (eZ l) λD=>bx 19 D ⟨g3,0,H_⟩ λcs=>k (cs,(a,b)) D):=by
  intro l a b w' he hb U e;refine xT hb rfl U λD K hs9 L=>kV K U ?_;have:=Y D (he.then L λg M=>by omega)
  rwa[e]at this
 have o:pN C g3 (eZ (Z 19)):=sQ;refine bP (λx w'=>x=L_ (kind<2\/kind>4\/(o5 i 9=K_/\o5 i 10=K_))/\Ext C w') ?_ ?_
 .intro J t;refine ax (λh=>t _ _ ⟨?_,.refl _ _⟩) λh=>?_
  .grind
  .simp only[kf,decide_eq_false_iff_not]at h;refine kV I hi (F6 hi λs n=>?_);refine ax (λq=>?_) λq=>?_
   .have q:o5 i 9=false:=by simpa using q
    refine kV (I.ext n) hi (F6 hi λu p=>t _ _ ⟨?_,n.trans p⟩);grind
   .grind
 rintro _ s ⟨rfl,n⟩;have F:=O4.trans n;have y:BI s g1 f:=vF.ext n;have N:BI s g2 i:=I.ext n;refine ax (λh=>?_) λh=>?_
 .have h:=of_decide_eq_true h;refine kV y j (fin f 0 K_ s F (o.ext n) j ?_);unfold di;rw[HK h]
 have h:=of_decide_eq_false h;have z:oV i=0/\(i.getD 0 0=10↔o5 i 10=J_):=by
  cases c:o5 i 10 with
  |true=>exact⟨(F8 c).2,λ_=>rfl,λ_=>(F8 c).1⟩
  |false=>
   cases q:o5 i 9 with
   |true=>exact⟨(F8 q).2,λe=>(by have:=(F8 q).1;omega),λe=>by cases e⟩
   |false=>exact absurd (E_ (E_ ⟨q,c⟩)) h
 obtain⟨V,hB,hC⟩:=vG z.1;refine bP (λx w'=>s=w'/\di f i kind v=(A0 f (f.getD 1 0),x,J_)) ?_ ?_
 .intro J t;refine j3 N af (ax (λc=>?_) λc=>?_)
  .have c:o5 i 10=true:=z.2.1 (gq c)
   refine bP (λx w'=>s=w'/\x=if kind=4 then 0 else v) ?_ ?_
   .intro J2 A;refine ax (λB=>A _ _ ⟨rfl,?_⟩) λB=>A _ _ ⟨rfl,?_⟩
    .rw[HK (gq B)]
    .rw[HQ (gq B)]
   rintro _ _ ⟨rfl,rfl⟩;refine M6 λu hh5 p=>?_;have O:BI u g1 f:=y.ext p;have G:BI u g2 i:=N.ext p;refine j3 G af (j3 G af (uu V.1 af ?_));rw[F4];refine CB O af λw6 r P d=>BV G (G.keep d af) (uu hB.1 af ?_);rw[F4];refine CB r (by rw[VJ];omega) λw7 Q hs7 W=>kV Q (by simp[j]) (acQ (by simp[j]) λR m=>?_)
   refine fin _ 0 K_ R (((((F.trans p).then d λg M=>by omega).then W λg M=>by omega).trans m)) (((((o.ext n).ext p).keep d af).keep W af).ext m) (by rw[kz];simp[j]) ?_
   unfold di;rw[HQ h,HK c]
  .have X:o5 i 10=false:=by
    grind
   refine ax (λh2=>?_) λh2=>?_
   .have h2:kind=2:=by simpa using h2
    refine j3 N af (uu V.1 af ?_);rw[F4];refine CB y af λw6 r P d=>kV r (by simp[j]) (acQ (by simp[j]) λR m=>?_)
    refine fin _ 0 K_ R ((F.then d λg M=>by omega).trans m) (((o.ext n).keep d af).ext m) (by rw[kz];simp[j]) ?_
    unfold di;grind
   .have h2:kind≠2:=by simpa using h2
    refine ax (λB=>t _ _ ⟨rfl,?_⟩) λB=>t _ _ ⟨rfl,?_⟩
    iterate 2 unfold di;grind
 .rintro x _ ⟨rfl,e⟩;exact kV y j (j3 y af (atK j λu p=>fin _ x J_ u (F.trans p) ((o.ext n).ext p) (by rw[qH,j]) e))
theorem axY{h:Nat}(a:h<63):bv (sD B_ 1 (h:Int))=N' 64 h:=by
 unfold sD;have e:min ((h:Int).toNat) IntKind.i64.bits=h:=by simp[IntKind.bits];omega
 rw[e,arm,DH,Int.one_mul];apply J7;rw[Je,BitVec.toNat_twoPow];grind
def atX{h:Nat}(a:h<63):(oH B_ v (sD B_ 1 (h:Int)) !=0)=tb v h:=by
 rw[QJ,axY a,BitVec.and_twoPow];unfold tb;cases hb:(bv v).getLsbD h with
 |false=>rfl
 |true=>
  simp only[if_true];have:(N' 64 h).toInt≠0:=by
   intro e;have c:N' 64 h=0#64:=by
    apply BitVec.eq_of_toInt_eq;rw[e];rfl
   have h2:=congrArg (λb=>b.getLsbD h) c;simp at h2;omega
  simpa using this
def fHs(f:List Int)(aX:Int)(n:Nat):List Int:=(CX n).map λh=>if tb aX h then f.getD (10+h) 0 else -1
def jo(f:List Int)(n aX:Int):List Int:=[n,0] ++((f.drop 2).take 8++(fHs f aX 8++[0]))
def Lx(f:List Int)(n aX:Int)(j:Nat):List Int:=[n,0] ++((f.drop 2).take 8++(fHs f aX j++(dU (8 - j) (-1)++[0])))
variable{aX:Int}{n:Nat}
def XY:(fHs f aX n).length=n:=by simp[fHs]
def afh:fHs f aX (n+1)=fHs f aX n++[if tb aX n then f.getD (10+n) 0 else -1]:=by
 simp[fHs,List.range_succ]
variable{n:Int}
def acT(a:f.length=19)(b:j<=8):(Lx f n aX j).length=19:=by
 unfold Lx;simp only[uv,x_,VI,XY,List.length_replicate,Zi a];omega
def ai0(a:f.length=19):Lx f n aX 0=((nF.set 0 n).take 2++((f.drop 2).take 8++(nF.set 0 n).drop (2+8))):=rfl
def alq(b:f.length=19)(e:j<8)(hb:tb aX j=J_):(Lx f n aX j).set (10+j) (f.getD (10+j) 0)=Lx f n aX (j+1):=by
 unfold Lx;have a:=Zi b;have c:8 - j=(8 - (j+1))+1:=af;rw[V' _ _ (by simp;omega),V' _ _ (by simp[a];omega),V' _ _ (by simp[a,XY];omega)]
 rw[afh,hb,c,VP];have d:10+j - 2 - 8 - j=0:=af;simp[a,XY,d]
def apq(b:j<8)(hb:tb aX j=K_):Lx f n aX j=Lx f n aX (j+1):=by
 unfold Lx;have a:8 - j=(8 - (j+1))+1:=af;rw[afh,hb,a,VP];simp
def axZ(x:Int×Sl):List Value:=[I_ x.1,S_ x.2]
def Ow(w:N_)(s:Sl)(fs:List (Int×Sl)):Prop:=QM 2 w s (fs.map axZ)
variable{fs:List (Int×Sl)}{s:Sl}
def Ow.len(h:Ow w s fs):s.n=fs.length:=by have:=QM.len h;simp at this;omega
variable{x4:N_}
def Ow.ext(h:Ow w s fs)(a:Ext w x4):Ow x4 s fs:=QM.ext h a
def ixF{x:Int×Sl}{c:P_->Prop}(h:Ow w s fs)(d:0<=v)(hi:fs[v.toNat]?=G_ x)
  (f:∀p:P_,w.cell? (p.add 0)=G_ (I_ x.1)->w.cell? (p.add 1)=G_ (S_ x.2)->c p):cN s v 2 c:=by
 have j:=Ow.len h;have g:=(kB.1 hi).1;refine akF h d af λp e b _ hcell=>?_;rw[l8,hi]at b;cases b
 exact f p (hcell 0 _ rfl) (hcell 1 _ rfl)
def ax0(h:o5 i 8=J_):0<=i.getD 4 0/\i.getD 4 0<=31:=by
 obtain⟨a,b⟩:=F8 h;obtain⟨_,_,hs⟩:=aha b;have:=hs 3 af;rw[a]at this;exact this
theorem atY{k:Array M_×Int->ap}(A:f.length=19)(hi:i.length=5)(hp:Ow w s fs)
  (h1:o5 i 8=K_->∀w',Ext w w'->k (eZ (Z 19),1) w') (h2:o5 i 8=J_->fs.length<=(i.getD 4 0).toNat->∀w',Ext w w'->k (eZ (Z 19),17) w')
  (h3:o5 i 8=J_->∀x,fs[(i.getD 4 0).toNat]?=G_ x->∀w',Ext w w'->k (eZ (jo f (i.getD 4 0) x.1),0) w'):jd (eZ f) #[S_ s] (eZ i) w k:=by
 unfold jd Ap;refine jJ λg1 w1 hg1 hs1 AR AK=>jJ λgp wp hgp hsp O B=>jJ λg2 w2 M7 IZ jR P=>jJ λg3 Q hg3 Vi R K=>?_;have O4:=((AK.trans B).trans P).trans K;have vF:BI Q g1 f:=((AR.ext B).ext P).ext K;have zg:BI Q g2 i:=jR.ext K;have S:pN Q gp #[S_ s]:=(O.ext P).ext K;have hsz:=AK.size;have hln:=hp.len;simp only[dg,FM];refine kV zg hi (F6 hi λD d=>?_);have T:BI D g1 f:=vF.ext d;have U:BI D g2 i:=zg.ext d;have F:=S.ext d;have L:=O4.trans d;refine ax (λh=>?_) λh=>?_
 .refine xT (l:=Z 19) (R.ext d) rfl rfl λw5 V G e=>kV V rfl<|h1 (gq h) _ (L.then e λg v=>by omega)
 have h:o5 i 8=true:=gq h
 obtain⟨W,hN1⟩:=ax0 h;refine j3 U af (IY (F.cell 0) (ax (λm=>?_) λX=>?_))
 .have m:i.getD 4 0>=s.n:=of_decide_eq_true m;refine xT (l:=Z 19) (R.ext d) rfl rfl λw5 V G e=>kV V rfl<|h2 h af _ (L.then e λg v=>by omega)
 have X:i.getD 4 0<s.n:=by grind
 obtain⟨x,hx⟩:∃x,fs[(i.getD 4 0).toNat]?=G_ x:=⟨_,iH af⟩;refine anv λw5 F7=>jJ λg6 w6 hg6 hs6 Y he6=>?_;simp only[dg,FM];refine xT Y rfl rfl λw7 hb7 hs7 Zh=>?_;have G:=F7.size;have aEa:Ext D w7:=(F7.trans he6).then Zh λg v=>by omega
 refine M6 λw8 hh8 H=>?_;have o:=aEa.trans H;have q:BI w8 g1 f:=T.ext o;have aEb:BI w8 g2 i:=U.ext o;refine j3 aEb af (aro q af ?_);have aEc:g1≠g6:=by have:=T.lt;omega
 refine CB (hb7.ext H) e7 λw9 hb9 hs9 I=>BV q (q.keep I aEc)<|aAR hb9 (Zi A) (by rw[VJ];decide) λw10 US anz XX=>?_
 rw[<-ai0 A]at US;have aEd:Ext D w10:=(o.then I λg v=>by omega).then XX λg v=>by omega
 refine ot (fun(y:Int) w'=> ∃j:Nat,y=j/\j<=8/\Ext D w'/\BI w' g6 (Lx f (i.getD 4 0) x.1 j)) (λy _=>(8 - y).toNat) ⟨0,rfl,af,aEd,US⟩ ?_;rintro _ w11 ⟨j,rfl,hj,r,t⟩ C hC;refine ax (λaEe=>?_) λm=>?_
 .have b:j<8:=by
    grind
  have M:IntKind.i64.wrap ((j:Int)+1)=((j+1:Nat):Int):=by rw[dh ⟨af,af⟩];simp
  refine M6 λw12 aHT u=>?_;have z:=r.trans u;refine IY ((F.ext z).cell 0) (j3 (U.ext z) af ?_);refine ixF (hp.ext (L.trans z)) W hx λp hc0 Hi=>uZ hc0 (Gf af ?_);rw[atX af];refine ax (λhb=>?_) λhb=>?_
  .refine uu af af (j3 (T.ext z) (by simp;omega) (uu af af ?_))
   simp only[iZ,F4];have N:=acT (n:=i.getD 4 0) (aX:=x.1) A hj;refine CB (t.ext u) af λw13 J aHU aEf=>?_;rw[alq A b hb]at J;exact hC _ _ ⟨j+1,M,af,z.then aEf λg v=>by omega,J⟩ (by rw[M];omega)
  .refine hC _ _ ⟨j+1,M,af,z,?_⟩ (by rw[M];omega)
   rw[<-apq b hb];exact t.ext u
 .have b:j=8:=by
    grind
  subst b;have N:=acT (n:=i.getD 4 0) (aX:=x.1) A hj;refine kV t N (xT ((R.ext d).ext r) rfl N λw12 aEg aHV aEh=>kV aEg N ?_);exact h3 h x hx _ ((L.trans r).then aEh λg v=>by omega)
end Go.Proofs.YthidhjhkmjjckaaGreatDoor.Fr
namespace Go.Ev
open Go Go.RowKit
def Ly(t:List (Int×Int×Nat)):List MapEntry:=t.map λx=>⟨I_ x.1,I_ x.2.1,x.2.2⟩
def mp(g:Nat)(l:List (Int×Int)):HP:=Gt λq:{t:List (Int×Int×Nat) // t.map (λx=>(x.1,x.2.1))=l}×Nat=>obj g (.map (Ly q.1.1).toArray q.2)
def fnd(k:Int):List (Int×Int×Nat)->Nat->Option (Nat×M_)
 |[],_=>H_
 |x::r,i=>if x.1=k then G_ (i,I_ x.2.1)else fnd k r (i+1)
theorem IE(k:Int):∀(t:List (Int×Int×Nat)) (i:Nat),Instr.findNow (.int B_) (I_ k) (Ly t) i=G_ (fnd k t i)
 |[],i=>rfl
 |x::r,i=>by
  unfold Ly;simp only[z_,Instr.findNow,Instr.sameNow,if_true];by_cases h:x.1=k
  .have:(k==x.1)=true:=by simp[h]
   rw[this];simp[fnd,h]
  .have:(k==x.1)=false:=by grind
   rw[this];have a:=IE k r (i+1);unfold Ly at a;simp only[a,fnd,HQ h]
def Im(l:List (Int×Int))(k:Int):Option Int:=(l.find? λx=>x.1==k).map (·.2)
theorem Zk{k:Int}:∀{t:List (Int×Int×Nat)} {i:Nat},fnd k t i=H_->Im (t.map λx=>(x.1,x.2.1)) k=H_
 |[],_,_=>rfl
 |x::r,i,h=>by
  unfold fnd at h;split at h
  .cases h
  .rename_i a;have:=Zk h;unfold Im at this ⊢;grind
theorem S6{k:Int}:∀{t:List (Int×Int×Nat)} {i j:Nat} {v:M_},fnd k t i=G_ (j,v)->i<=j/\∃n x,v= I_ n/\Im (t.map λx=>(x.1,x.2.1)) k=G_ n/\t[j - i]?=G_ x/\x.1=k
 |[],_,_,_,h=>by cases h
 |x::r,i,j,v,h=>by
  unfold fnd at h;split at h
  .rename_i a;cases h
   refine⟨iw _,x.2.1,x,rfl,?_,bf,a⟩;unfold Im;grind
  .rename_i a;obtain⟨d,n,y,h2,b,e,c⟩:=S6 h;refine⟨af,n,y,h2,?_,?_,c⟩
   .unfold Im at b ⊢;grind
   .grind
variable{L:List HP}{f:HP->List HP}{g:Nat}{l:List (Int×Int)}{w w0:N_}
def aBA(h:St w0 w L)[a:At L (mp g) l f]:∃(t:List (Int×Int×Nat)) (n:Nat),t.map (λx=>(x.1,x.2.1))=l/\w.heap[g]?=G_ (.map (Ly t).toArray n):=by
 obtain⟨R,b,d⟩:=a.out;obtain⟨⟨⟨t,c⟩,n⟩,h⟩:=(b h).some;exact⟨t,n,c,DM h⟩
def ai1(h:St w0 w (mp g l::L)):∃(t:List (Int×Int×Nat)) (n:Nat),t.map (λx=>(x.1,x.2.1))=l/\St w0 w (obj g (.map (Ly t).toArray n)::L):=by
 obtain⟨⟨⟨t,a⟩,n⟩,h⟩:=h.some;exact⟨t,n,a,h⟩
variable{n:Nat}
def acV{t:List (Int×Int×Nat)}(h:St w0 w (obj g (.map (Ly t).toArray n)::L)):St w0 w (mp g (t.map λx=>(x.1,x.2.1))::L):=
 St.ex (⟨t,rfl⟩,n) h
structure MpT (P:Program) (m k e:Q_):Prop where
 m:P.underlying m=G_ (.map k e)
 k:P.underlying k=G_ (.int B_)
 z:zOf P e=G_ (I_ 0)
def VZ(k:Int):MapKept.IsKey (.int B_) (I_ k):=by simp[MapKept.IsKey]
variable{P:Program}{m:Q_}
def at5{c:Option Nat->ap}(h:St w0 w L)(a:∀g w',St w0 w' (mp g []::L)->c (G_ g) w'):mkMap P m H_ w c:=by
 have b:(Instr.makeMap m H_).run P w= .ok (.map (G_ w.heap.size)) (w.alloc (.map #[] 0)):=by
  simp only[Instr.makeMap,cR,run_newObj,cK,cP,World.alloc_eq]
 unfold mkMap;rw[b];show c (G_ w.heap.size) _;refine a _ _ ?_;have h2:=acd (.map #[] 0) h;exact acV (t:=[]) h2
variable{et kt:Q_}{k:Int}
def anA{c:M_->ap}(b:MpT P m kt et)(h:St w0 w L)[a:At L (mp g) l f](p:c (J3 #[I_ ((Im l k).getD 0),Iq (Im l k).isSome]) w):look P m (.map (G_ g)) (I_ k) J_ w c:=by
 obtain⟨t,n,d,hb⟩:=aBA (g:=g) h;have q:=MapKept.run_findKey (w:=w) b.k (IE k t 0);have i:∀e,(Instr.checkKey e 10000 kt (I_ k)).run P w= .ok () w:=λe=>MapKept.run_checkKey b.k (VZ k) e 9999;have u:(zeroValue et).run P w= .ok (I_ 0) w:=LG b.z;unfold look;cases hq:fnd k t 0 with
 |none=>
  rw[hq]at q;have o:=Zk hq;rw[d]at o;rw[o]at p;have s:(Instr.lookup m (.map (G_ g)) (I_ k) J_).run P w= .ok (J3 #[I_ 0,Iq K_]) w:=by
   simp only[Instr.lookup,cR,jr b.m,cK,MapKept.run_getObj_map hb,cP,i,q,u,if_true]
  rw[s];exact p
 |some r=>
  obtain⟨j,v⟩:=r;rw[hq]at q;obtain⟨_,y,x,rfl,o,_⟩:=S6 hq;rw[d]at o;rw[o]at p;have s:(Instr.lookup m (.map (G_ g)) (I_ k) J_).run P w= .ok (J3 #[I_ y,Iq J_]) w:=by
   simp only[Instr.lookup,cR,jr b.m,cK,MapKept.run_getObj_map hb,cP,i,q,if_true]
  rw[s];exact p
def acX{α β:Type}(f:α->β):∀(l:List α) (i:Nat),(l.eraseIdx i).map f=(l.map f).eraseIdx i
 |[],_=>rfl
 |_::_,0=>rfl
 |_::l,i+1=>by simp[acX f l i]
variable{zt:Int}
theorem apr{x:Int}{c:ap}(b:MpT P m kt et)(h:St w0 w L)[a:At L (mp g) l f](d:Im l k=H_)(u:∀w',St w0 w' (f (mp g (l++[(k,x)])))->c w'):MP P m (.map (G_ g)) (I_ k) (I_ x) w c:=by
 obtain⟨R,y,z⟩:=a.out;obtain⟨t,n,i,h⟩:=ai1 (y h);have hb:=DM (g:=g) h;have q:=MapKept.run_findKey (w:=w) b.k (IE k t 0);have p:(Instr.checkKey K_ 10000 kt (I_ k)).run P w= .ok () w:=MapKept.run_checkKey b.k (VZ k) K_ 9999;cases hq:fnd k t 0 with
 |some r=>
  obtain⟨j,v⟩:=r;obtain⟨_,C,x,rfl,s,_⟩:=S6 hq;rw[i,d]at s;cases s
 |none=>
  rw[hq]at q;have A:∀o,(setObj g o).run P w= .ok () (w.putObj g o):=λo=>by
   rw[MapKept.run_setObj_map o hb];rfl
  have B:(Instr.mapUpdate m (.map (G_ g)) (I_ k) (I_ x)).run P w= .ok () (w.putObj g (.map ((Ly t).toArray.push ⟨I_ k,I_ x,n⟩) (n+1))):=by
   simp only[Instr.mapUpdate,cR,jr b.m,cK,MapKept.run_getObj_map hb,cP,p,q,A]
  unfold MP;rw[B];refine u _ (z ?_);have e:(Ly t).toArray.push ⟨I_ k,I_ x,n⟩=(Ly (t++[(k,x,n)])).toArray:=by simp[Ly]
  rw[e];have h2:=AV (g:=g) (.map (Ly (t++[(k,x,n)])).toArray (n+1)) h;have D:=acV h2;grind
theorem MD{k:Int}:∀{t:List (Int×Int×Nat)} {j:Nat} {x},(t.map (·.1)).Nodup->t[j]?=G_ x->x.1=k->(t.eraseIdx j).map (λx=>(x.1,x.2.1))=(t.map λx=>(x.1,x.2.1)).filter λx=>x.1≠k
 |[],j,x,_,h,_=>by simp at h
 |y::r,0,x,hn,h,hx=>by
  simp only[List.getElem?_cons_zero,G_.injEq]at h;subst h;rw[z_,VN]at hn;simp only[List.eraseIdx_cons_zero,z_];rw[List.filter_cons_of_neg (by simp[hx])]
  symm;rw[List.filter_eq_self];grind
 |y::r,j+1,x,hn,h,hx=>by
  simp only[List.getElem?_cons_succ]at h;rw[z_,VN]at hn;have a:=MD hn.2 h hx;grind
variable{c:M_->ap}{t2:Q_}
theorem anB(b:MpT P m kt et)(h:St w0 w L)[a:At L (mp g) l f](z:(l.map (·.1)).Nodup)(A:(Im l k).isSome=J_)(B:∀w',St w0 w' (f (mp g (l.filter λx=>x.1≠k)))->c (J3 #[]) w'):ahR P #[m,kt] t2 [.map (G_ g),I_ k] w c:=by
 obtain⟨R,C,D⟩:=a.out;obtain⟨t,n,d,h⟩:=ai1 (C h);have hb:=DM (g:=g) h;have u:=MapKept.run_findKey (w:=w) b.k (IE k t 0);have i:∀e,(Instr.checkKey e 10000 kt (I_ k)).run P w= .ok () w:=λe=>MapKept.run_checkKey b.k (VZ k) e 9999;have F:∀o,(setObj g o).run P w= .ok () (w.putObj g o):=λo=>by
  rw[MapKept.run_setObj_map o hb];rfl
 cases hq:fnd k t 0 with
 |none=>
  have G:=Zk hq;grind
 |some r=>
  obtain⟨j,v⟩:=r;rw[hq]at u;obtain⟨_,N,x,rfl,G,p,q⟩:=S6 hq;rw[Nat.sub_zero]at p;have H:(Builtin.delete_ #[m,kt] t2 #[.map (G_ g),I_ k]).run P w= .ok (J3 #[]) (w.putObj g (.map ((Ly t).toArray.eraseIdxIfInBounds j) n)):=by
   have I:(#[m,kt]:Array Q_)[0]?=G_ m:=rfl;have J:(#[Value.map (G_ g),I_ k]:Array M_)[0]?=G_ (.map (G_ g)):=rfl;have e2:(#[Value.map (G_ g),I_ k]:Array M_)[1]?=G_ (I_ k):=rfl;simp only[Builtin.delete_,I,J,e2,cR,jr b.m,cK,MapKept.run_getObj_map hb,cP,i,u,F]
  unfold ahR;have K:([Value.map (G_ g),I_ k]:List M_).toArray=#[.map (G_ g),I_ k]:=rfl;rw[K,H];refine B _ (D ?_);have M:j<t.length:=(kB.1 p).1;have e:(Ly t).toArray.eraseIdxIfInBounds j=(Ly (t.eraseIdx j)).toArray:=by
   unfold Ly;grind
  rw[e];have h2:=AV (g:=g) (.map (Ly (t.eraseIdx j)).toArray n) h;have y:=acV h2;have s:(t.map (·.1)).Nodup:=by grind
  rw[MD s p q,d]at y;exact y
variable{a:P_}{e t:Q_}{f:FuncId}{i:TypeInfo}{m:Method}{name:String}
def aeq(hi:P.info? t=G_ i)(b:(i.methods.find? λm=>m.name==name)=G_ m)(c:m.path=#[])(d:m.func=G_ (f,J_))(g:P.underlying t=G_ (.pointer e)):
  (method (n+1) t (IB (G_ a)) name).run P w= .ok (f,IB (G_ a)) w:=by
 have j:(typeInfo t).run P w= .ok i w:=by simp[typeInfo,hi]
 simp only[method,cR,j,cK,b,c,J6,List.isEmpty_nil,follow,cP,d,receiverAt,jr g,Place.get]
def aps:(#[]:Array FieldStep).isEmpty=true:=rfl
variable{x5:String}
def apt{ts:Array Q_}{y:String}:(Builtin.ssaWrapNilChk_ ts t2 #[IB (G_ a),strVal x5,strVal y]).run P w= .ok (IB (G_ a)) w:=rfl
variable{e2:Q_}{s:Sl}
def aer(hi:P.info? t=G_ i)(b:(i.methods.find? λm=>m.name==name)=G_ m)(d:m.path=#[])(g:m.func=G_ (f,K_))(j:P.underlying t=G_ (.pointer e))(k:rX P e= .s)(l:P.underlying e=G_ (.slice e2))(hcell:w.cell? a=G_ (S_ s)):
  (method (n+1) t (IB (G_ a)) name).run P w= .ok (f,S_ s) w:=by
 have o:(typeInfo t).run P w= .ok i w:=by simp[typeInfo,hi]
 have p:(loadVar e a).run P w= .ok (S_ s) w:=by
  simp only[cR,loadVar,Yr l (by rw[k];simp),h_,if_false,run_load,hcell,cK]
 simp only[method,cR,o,cK,b,d,J6,List.isEmpty_nil,follow,cP,g,receiverAt,jr j,Place.get,aps,if_true,apt,asAddr,p]
variable{args:Array M_}{bY:ey}
def at6(hi:P.info? t=G_ i)(d:(i.methods.find? λm=>m.name==name)=G_ m)(g:m.path=#[])(j:m.func=G_ (f,J_))(k:P.underlying t=G_ (.pointer e))(b:P.types.size≠0)
  (h:bY (.func f) (#[IB (G_ a)] ++args) w c):pR bY P (.iface t (IB (G_ a))) name args w c:=by
 obtain⟨n,b⟩:∃n,P.types.size+Made.depth=n+1:=⟨P.types.size+Made.depth - 1,af⟩;unfold pR;dsimp only;rw[b,aeq hi d g j k];exact h
def at7(hi:P.info? t=G_ i)(d:(i.methods.find? λm=>m.name==name)=G_ m)(g:m.path=#[])(j:m.func=G_ (f,K_))(k:P.underlying t=G_ (.pointer e))(l:rX P e= .s)(o:P.underlying e=G_ (.slice e2))(b:P.types.size≠0)(hcell:w.cell? a=G_ (S_ s))
  (h:bY (.func f) (#[S_ s] ++args) w c):pR bY P (.iface t (IB (G_ a))) name args w c:=by
 obtain⟨n,b⟩:∃n,P.types.size+Made.depth=n+1:=⟨P.types.size+Made.depth - 1,af⟩;unfold pR;dsimp only;rw[b,aer hi d g j k l o hcell];exact h
end Go.Ev
namespace Go.Proofs.YthidhjhkmjjckaaGreatDoor.Ko
open Go Go.Ev Go.Proofs
abbrev DL:=List (Int×Int)
def rT(a b:Int×Int):Prop:=a.1<b.1\/(a.1=b.1/\a.2<b.2)
instance (a b:Int×Int):Decidable (rT a b):=by unfold rT;infer_instance
def gd(d:DL)(k:Nat):Int×Int:=d.getD k (0,0)
def rz(k:Nat):Nat:=(k - 1) / 2
def HH(d:DL)(n:Nat):Prop:=∀k,1<=k->k<n->¬rT (gd d k) (gd d (rz k))
structure HU (d:DL) (n j:Nat):Prop where
 a:∀k,1<=k->k<n->k≠j->¬rT (gd d k) (gd d (rz k))
 b:∀k,1<=k->k<n->rz k=j->1<=j->¬rT (gd d k) (gd d (rz j))
structure HD (d:DL) (n i0 i:Nat):Prop where
 a:∀k,1<=k->k<n->rz k≠i->¬(k=i0/\i=i0)->¬rT (gd d k) (gd d (rz k))
 b:∀k,1<=k->k<n->rz k=i->1<=i->¬rT (gd d k) (gd d (rz i))
def Lz(d:DL)(i j:Nat):DL:=(d.set i (gd d j)).set j (gd d i)
def ai2(d:DL)(i j:Nat):(Lz d i j).length=d.length:=by simp[Lz]
variable{d:DL}{i j k:Nat}
theorem S7(hi:i<d.length)(b:j<d.length):gd (Lz d i j) k=if k=j then gd d i else if k=i then gd d j else gd d k:=by
 unfold gd Lz;simp only[m0,List.getElem?_set,VJ];by_cases a:k=j
 .subst a;simp[b,gd,m0]
 .by_cases h2:k=i
  .subst h2;rw[HQ (λq=>a q.symm),HK rfl,HK hi,HQ a,HK rfl];rfl
  .grind
theorem Zm(hi:i<d.length)(a:j<d.length):(Lz d i j).Perm d:=by
 have b:gd d j=d[j]:=by unfold gd;rw[m0,iH a];rfl
 have e2:gd d i=d[i]:=by unfold gd;rw[m0,iH hi];rfl
 unfold Lz;grind
variable{a b c:Int×Int}
def Ox(d:¬rT a b)(h2:¬rT b c):¬rT a c:=by unfold rT at*;omega
def ax3(d:¬rT a b)(h2:rT c b):¬rT a c:=by unfold rT at*;omega
def V0(h:rT a b):¬rT b a:=by unfold rT at*;omega
def ax4(d:rT a b)(h2:rT b c):rT a c:=by unfold rT at*;omega
def acZ(a:Int×Int):¬rT a a:=by unfold rT;omega
theorem aua(h:¬rT a b)(c:a≠b):rT b a:=by
 obtain⟨d,e⟩:=a;obtain⟨b1,b2⟩:=b;unfold rT at*
 grind
def uk(h:1<=k):rz k<k:=by unfold rz;omega
variable{n:Nat}
theorem aub(h:HU d n j)(u:n<=d.length)(m:1<=j)(v:j<n)(o:rT (gd d j) (gd d (rz j))):HU (Lz d (rz j) j) n (rz j):=by
 have x:=uk m;have g:∀k,gd (Lz d (rz j) j) k=if k=j then gd d (rz j)else if k=rz j then gd d j else gd d k:=λk=>S7 af af
 refine⟨λk e f q=>?_,λk e f r p1=>?_⟩
 .rw[g,g];have i:=uk e;by_cases c:k=j
  .subst c;rw[HK rfl,HQ af,HK rfl];exact V0 o
  .rw[HQ c,HQ q];by_cases e2:rz k=j
   .rw[HK e2];exact h.b k e f e2 m
   .rw[HQ e2];by_cases l:rz k=rz j
    .rw[HK l];have:=h.a k e f c;rw[l]at this;exact ax3 this o
    .rw[HQ l];exact h.a k e f c
 .have i:=uk e;have s:=uk p1;have p:=h.a (rz j) p1 af af;have t:gd (Lz d (rz j) j) (rz (rz j))=gd d (rz (rz j)):=by grind
  rw[t];by_cases c:k=j
  .rw[g,HK c];exact p
  .rw[g,HQ c,HQ af];have:=h.a k e f c;rw[r]at this;exact Ox this p
theorem anC(h:HU d n j)(f:j=0\/¬rT (gd d j) (gd d (rz j))):HH d n:=by
 intro k b c;by_cases e:k=j
 .grind
 .exact h.a k b c e
variable{x1:Nat}
theorem auc(h:HD d n x1 i)(v:n<=d.length)(x:x1<=i)(o:1<=j)(r:j<n)(e:rz j=i)(y:∀k,1<=k->k<n->rz k=i->¬rT (gd d k) (gd d j))(s:rT (gd d j) (gd d i)):HD (Lz d i j) n x1 j:=by
 have f:=uk o;rw[e]at f;have g:∀k,gd (Lz d i j) k=if k=j then gd d i else if k=i then gd d j else gd d k:=λk=>S7 af af
 refine⟨λk c l t _=>?_,λk c l u _=>?_⟩
 .have m:=uk c;rw[g,g];by_cases p:k=j
  .subst p;rw[HK rfl,HQ af,HK e];exact V0 s
  .rw[HQ p,HQ t];by_cases e2:k=i
   .subst e2;rw[HK rfl,HQ af];exact h.b j o r e c
   .rw[HQ e2];by_cases q:rz k=i
    .grind
    .rw[HQ q];exact h.a k c l q af
 .have m:=uk c;rw[g,g,e,HQ af,HQ af,HQ af,HK rfl];have:=h.a k c l af af;rw[u]at this;exact this
def ax5(h:HD d n x1 i)(g:∀k,1<=k->k<n->rz k=i->¬rT (gd d k) (gd d i)):(i≠x1->HH d n)/\(i=x1->HU d n x1):=by
 refine⟨λhi k c f=>?_,λhi=>⟨λk c f l=>?_,λk c f j p1=>?_⟩⟩
 .by_cases e:rz k=i
  .rw[e];exact g k c f e
  .exact h.a k c f e af
 .by_cases e:rz k=i
  .rw[e];exact g k c f e
  .exact h.a k c f e af
 .subst hi;exact h.b k c f j p1
def aud(h:HH d n):∀k,k<n->¬rT (gd d k) (gd d 0):=by
 intro k;induction k using Nat.strongRecOn with
 |_ k ih=>
  intro a;by_cases e:k=0
  .subst e;exact acZ _
  .have:=uk (k:=k) af;exact Ox (h k af a) (ih (rz k) this af)
variable{x:Int×Int}
def anD(h:k<d.length):gd (d++[x]) k=gd d k:=by
 unfold gd;rw[m0,m0,tJ h]
def aue(h:HH d d.length):HU (d++[x]) (d.length+1) d.length:=by
 refine⟨λk a b c=>?_,λk a b e p1=>?_⟩
 .have:=uk a;rw[anD af,anD af];exact h k a af
 .have:=uk a;omega
variable{m:Nat}
def anE(h:HH d d.length)(f:m+1=d.length)(hi:i<m):HD (Lz d i m) m i i:=by
 have g:∀k,gd (Lz d i m) k=if k=m then gd d i else if k=i then gd d m else gd d k:=λk=>S7 af af
 refine⟨λk a e b kk=>?_,λk a e b p1=>?_⟩
 .have:=uk a;rw[g,g,HQ af,HQ af,HQ af,HQ b];exact h k a af
 .have j:=uk a;have h2:=uk p1;rw[g,g (rz i),HQ af,HQ af,HQ af,HQ af];have c:=h k a af;rw[b]at c;exact Ox c (h i p1 af)
theorem ai4(h:k<m):gd (d.take m) k=gd d k:=by
 unfold gd;grind
def ac0(h:HH d m)(c:m<=d.length):HH (d.take m) (d.take m).length:=by
 intro k a b;rw[List.length_take]at b;have:=uk a;rw[ai4 af,ai4 af];exact h k a af
abbrev Srt(S:DL):Prop:=S.Pairwise rT
def ins(x:Int×Int):DL->DL
 |[]=>[x]
 |y::r=>if rT x y then x::y::r else y::ins x r
def IN(x:Int×Int):∀S:DL,(ins x S).Perm (x::S)
 |[]=> .refl _
 |y::r=>by
  unfold ins;split
  .exact .refl _
  .exact((IN x r).cons y).trans (.swap _ _ _)
def ai5{x:Int×Int}:∀{S:DL},Srt S->x ∉ S->Srt (ins x S)
 |[],_,_=>by unfold ins;simp
 |y::r,h,hx=>by
  unfold ins;replace h:=VO.1 h;split
  .rename_i a;refine VO.2 ⟨λz hz=>?_,VO.2 h⟩;rcases BP.1 hz with rfl|hz
   .exact a
   .exact ax4 a (h.1 z hz)
  .rename_i a;refine VO.2 ⟨λz hz=>?_,ai5 h.2 λq=>hx (by simp[q])⟩
   rcases BP.1 ((IN x r).subset hz)with rfl|hz
   .exact aua a λq=>hx (by simp[q])
   .exact h.1 z hz
def aal(h:Srt d)(p:Int×Int->Bool):Srt (d.filter p):=h.filter p
end Go.Proofs.YthidhjhkmjjckaaGreatDoor.Ko
