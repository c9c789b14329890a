/-
  Parts of the proof of LNil: printed by a program out of longer texts.
-/
import Derived.Test.YthidhjhkmjjckaaGreatDoorPNil2
import Derived.MapKept
set_option maxRecDepth 100000
set_option linter.unusedVariables false
set_option linter.unusedSimpArgs false
open List renaming getElem?_eq_some_iff→kO,getElem?_eq_getElem→kq,getD_eq_getElem?_getD→nr,getElem?_append_left→sY,getElem?_append_right→uK,getElem?_set_ne→rG,getElem?_set_self→uw,mem_of_getElem?→r0,getElem?_map→pB,eraseIdx→Iy,insertIdx_succ_cons→aAd,insertIdx_zero→aAe,replicate→dM,mem_append→B0,length_append→tW,all_eq_true→xz
open Go.Sem renaming run_pure→cO,run_bind→cQ
open Go.Result renaming andThen_ok→cJ
open Bool renaming or_eq_false_iff→j5,and_eq_true→iW
open Option renaming isNone→ej
open Go.IntKind renaming wrap→aL
open Int renaming toNat_natCast→kY
open Array renaming setIfInBounds→eM,getElem?_eq_some_iff→AO
open Nat renaming le_refl→iN
open Go.Addr renaming add→aX
namespace Go.Proofs.YthidhjhkmjjckaaGreatDoor
open Go Go.Ev Tryz
abbrev aB1:=World→(Bool→aq)→Prop
abbrev arv(f:aB1):bu:=DD [] [.b] λx=>f
def z5(cq:UH)(ae:T1):T0:=λa w k=>drew w λc=>nn a λn=>bG 2 c (n.add 2) λf=>nn a λo=>aR c (o.add 0) λp5=>nn p5 λp=>aR c (p.add 7) λp7=>nn a λq=>aN .i64 c (q.add 1) λs=>cq f p7 s c λb d=>nn a λg=>aR d (g.add 0) λp13=>ae p13 (b.1,b.2).2 d λh e=>ap h (k () e) (nn a λi=>bJ e (i.add 26) (Iv (b.1,b.2).1) λj=>nn a λl=>bJ j (l.add 7) (.func (.func mB) #[.pointer a] #[]) λm=>k () m)
theorem Rh a b:E [.p] [] [(ql,IL a),(be,qd b)] 268435469 [] f309=λx=>z5 a b x:=bf
def gQ:=z5 cq ae
abbrev z6:bu:=cg gQ
theorem Ri:SS k7 (cg gQ):=so func309 (.c ya (.c bq .z)) (Rh cq ae)
def dJ:T31:=λa d e w k=>drew w λc=>cW a d 2 λj=>aN .i64 c (j.add 0) λl=>cW a e 2 λm=>aN .i64 c (m.add 0) λn=>ap (decide (l<n)) (k true c) (cW a d 2 λo=>aN .i64 c (o.add 0) λp=>cW a e 2 λq=>aN .i64 c (q.add 0) λr=>ap (p==r) (cW a d 2 λf=>aN .i64 c (f.add 1) λg=>cW a e 2 λh=>aN .i64 c (h.add 1) λi=>k (decide (g<i)) c) (k false c))
abbrev WX:bu:=Wn dJ
theorem JQ:SS kP (Wn dJ):=sl 71 [] func421
def bF:T13:=λa b c w k=>drew w λd=>cW a c 2 λg=>bG 2 d g λe=>cW a b 2 λh=>bG 2 d h λf=>cW a b 2 λi=>dK 2 d i e λj=>cW a c 2 λl=>dK 2 j l f λm=>k () m
abbrev WY:bu:=Dt bF
theorem yS:SS dm (Dt bF):=sl 0 [] func422
def z7(dJ:T31)(bF:T13):T26:=fun h_0 j_1 w k=>jO (S:=Int) (fun C1 i2 w3=>cD (S:=Bool) (fun J4=>ap ((VC .i64 (IntKind.wrap .i64 (i2 - 1)) 2)==i2) (J4 true w3) (px (j4 [(kP,(Wn dJ)),(dm,(Dt bF))]) Tryz.prog h_0 "Less" #[Iv i2,(Iv (VC .i64 (IntKind.wrap .i64 (i2 - 1)) 2))] w3 fun v5 w6=>HL v5 fun b7=>J4 (!b7) w6)) fun b8 w9=>ap b8 (k () w9) (px (j4 [(kP,(Wn dJ)),(dm,(Dt bF))]) Tryz.prog h_0 "Swap" #[(Iv (VC .i64 (IntKind.wrap .i64 (i2 - 1)) 2)),Iv i2] w9 fun v10 w11=>HM [] v10 fun(u12:Unit)=>C1 (VC .i64 (IntKind.wrap .i64 (i2 - 1)) 2) w11)) j_1 w
theorem Rj a c:E [.raw,.i .i64] [] [(kP,Wn a),(dm,Dt c)] 131091 [(1,[(1,(.i .i64))]),(4,[(17,.b)])] f379=λx=>z7 a c x.1 x.2:=bf
def cA:=z7 dJ bF
theorem Gh:SS jf (TY cA):=so func379 (.c JQ (.c yS .z)) (Rj dJ bF)
def jU:SN:=λe j w k=>tyA Tryz.prog j 20 259 true w λv x=>HM [.ag,.b] v fun(r:Array Value×Bool)=>aH x #[Iv 0,Iv 0] 259 λs y=>dK 2 y s r.1 λt=>ap r.2 (drew t λi=>nn e λu=>cE i u λl=>bG 2 i s λf=>kE #[Iv 0,Iv 0] 0 2 f λg=>aH i g 259 λm h=>ai 1 u i h (oh Tryz.prog #[209,209] 209 [.slice l.a l.n l.c,(.slice (some m) 1 1)] h λd o=>nn e λp=>bJ o p (.slice d.a d.n d.c) λq=>k () q)) (k () t)
abbrev WZ:bu:=ED jU
theorem W2:SS rh (ED jU):=sl 2097 [] func424
def cN:T17:=λa w k=>k ((a.n:Nat):Int) w
abbrev Yg:bu:=IK cN
theorem Fu:SS fG (IK cN):=sl 5 [] func420
def wB(cA:T26)(jU:SN)(cN:T17):ara:=fun h_0 x_1 w k=>px (j4 [(jf,(TY cA)),(rh,(ED jU)),(fG,(IK cN))]) Tryz.prog h_0 "Push" #[x_1] w fun v1 w2=>HM [] v1 fun(u3:Unit)=>px (j4 [(jf,(TY cA)),(rh,(ED jU)),(fG,(IK cN))]) Tryz.prog h_0 "Len" #[] w2 fun v4 w5=>xy .i64 v4 fun i6=>cA h_0 (IntKind.wrap .i64 (i6 - 1)) w5 fun _u w7=>k () w7
theorem No a b c:E [.raw,.raw] [] [(jf,TY a),(rh,ED b),(fG,IK c)] 1 [] f372=λx=>wB a b c x.1 x.2:=bf
def jj:=wB cA jU cN
theorem Np:SS Dp (arb jj):=so func372 (.c Gh (.c W2 (.c Fu .z))) (No cA jU cN)
def Cj(jj:ara):T48:=λa Zi amf w k=>ap (ej a) (k 2 w) (ap (((decide (Zi<0))||(decide (amf<1)))||(decide (amf>1099511627776))) (k 10 w) (nn a λo=>ldM w (o.add 2) λp2=>Go.Ev.look Tryz.prog 207 (.map p2) (Iv Zi) true w λp n=>HM [(.i .i64),.b] p fun(q:Int×Bool)=>ap q.2 (k 18 n) (drew n λe=>nn a λr=>ldM e (r.add 2) λp8=>nn a λs=>aN .i64 e (s.add 0) λf=>Mf Tryz.prog 207 (.map p8) (Iv Zi) (Iv (aL .i64 (f+amf))) e λg=>drew g λd=>nn a λh=>nn a λj=>aN .i64 d (j.add 0) λl=>jj (.iface 261 (.pointer (some (h.add 1)))) (.iface 259 (.agg #[(Iv (aL .i64 (l+amf))),Iv Zi])) d λ_u m=>k 0 m)))
theorem UZ a:E [.p,.i .i64,.i .i64] [.i .i64] [(Dp,arb a)] 4294972231 [] f355=λx=>Cj a x.1 x.2.1 x.2.2:=bf
def l6:=Cj jj
theorem U0:SS II (al1 l6):=so func355 (.c Np .z) (UZ jj)
def yl(aE:Wl)(af:T8)(aJ:MH)(au:MH)(cX:T51)(ae:T1)(l6:T48)(ay:ZJ)(aG:T0):T0:=λd w k=>aE d w λb1 w2=>ap b1 (k () w2) (af d w2 λp3 w4=>aJ d w4 λa2 w6=>aH w6 Jg 75 λa7 w8=>dK 5 w8 a7 a2 λw9=>drew w9 λf=>nn d λA=>aR f (A.add 0) λp12=>nn p12 λB=>aR f (B.add 9) λp14=>nn d λC=>aR f (C.add 0) λp16=>nn p16 λD=>aR f (D.add 7) λp18=>nn d λF=>aN .i64 f (F.add 1) λa4=>au p3 f λG j=>ai 1 (F.add 1) f j (ai 1 (D.add 7) f j (ai 1 (C.add 0) f j (ai 1 (B.add 9) f j (ai 1 (A.add 0) f j (PW G 0 λa5=>xy .i64 a5 λa6=>cX p14 p18 a4 a6 j λg H=>nn d λa8=>aR H (a8.add 0) λa9=>ae a9 (g.1,g.2).2 H λb0 I=>ap b0 (k () I) (drew I λb=>nn d λm=>aR b (m.add 0) λb2=>nn d λo=>aR b (o.add 0) λb3=>nn b3 λp=>cE b (p.add 10) λr=>nn p3 λJ=>aN .i64 b (J.add 0) λb4=>nn p3 λL=>cE b (L.add 25) λb5=>nn d λM=>aR b (M.add 0) λb6=>nn b6 λN=>cE b (N.add 10) λb7=>au p3 b λO e=>ai 1 (N.add 10) b e (ai 1 (M.add 0) b e (ai 1 (L.add 25) b e (ai 1 (J.add 0) b e (ai 1 (p.add 10) b e (ai 1 (o.add 0) b e (ai 1 (m.add 0) b e (PW O 0 λb8=>xy .i64 b8 λb9=>cW b7 b9 4 λc0=>aN .i64 e (c0.add 1) λc1=>ai 1 (p.add 10) b e (ai 1 (o.add 0) b e (ai 1 (m.add 0) b e (kE #[Iv 0,Iv 0,Iv 0,.bool false] 0 4 #[Iv b4,(Iv ((b5.n:Nat):Int)),Iv c1,.bool false] λP=>aH e P 125 λc2 q=>ai 1 (p.add 10) b q (ai 1 (o.add 0) b q (ai 1 (m.add 0) b q (oh Tryz.prog #[96,96] 96 [.slice r.a r.n r.c,(.slice (some c2) 1 1)] q λs Q=>ai 1 (m.add 0) b Q (nn b2 λc3=>bJ Q (c3.add 10) (.slice s.a s.n s.c) λR=>nn p3 λc4=>cE R (c4.add 25) λt=>aH R #[(Iv (g.1,g.2).1)] 3 λc5 c6=>oh Tryz.prog #[69,69] 69 [.slice t.a t.n t.c,(.slice (some c5) 1 1)] c6 λu c7=>nn p3 λc8=>bJ c7 (c8.add 25) (.slice u.a u.n u.c) λc9=>drew c9 λl=>nn p3 λv=>cE l (v.add 24) λx=>nn d λd0=>aN .i64 l (d0.add 26) λd1=>ai 1 (v.add 24) l l (kE #[Iv 0,Iv 0] 0 2 #[(Iv (g.1,g.2).1),Iv d1] λT=>aH l T 356 λd2 U=>ai 1 (v.add 24) l U (oh Tryz.prog #[120,120] 120 [.slice x.a x.n x.c,(.slice (some d2) 1 1)] U λy d3=>nn p3 λd4=>bJ d3 (d4.add 24) (.slice y.a y.n y.c) λd5=>cD (S:=Bool) (λV=>drew d5 λh=>aN .i64 h (a7.add 4) λd6=>ap (decide (d6>0)) (nn d λW=>aR h (W.add 0) λd7=>nn d λd8=>aR h (d8.add 0) λd9=>nn d9 λe0=>aR h (e0.add 17) λe1=>aN .i64 h (a7.add 4) λe2=>l6 e1 (g.1,g.2).1 e2 h λe3 X=>ai 1 (W.add 0) h X (ae d7 e3 X λe4 e5=>V e4 e5)) (V false h)) λe6 z=>ap e6 (k () z) (nn p3 λe7=>bG 19 z (e7.add 4) λY=>ay Y z λZ e8=>nn p3 λe9=>dK 19 e8 (e9.add 4) Z λa0=>aG d a0 λ_u a1=>k () a1))))))))))))))))))))))))
theorem Po a c d e f g h i j:E [.p] [] [(jD,Lh a),(bY,F6 c),(kx,EC d),(gB,EC e),(vE,ad6 f),(be,qd g),(II,al1 h),(iJ,Ol i),(k9,cg j)] 85070591730234615865843656255988564157 [(9,[(126,.b)])] f333=λx=>yl a c d e f g h i j x:=bf
def fN:=yl aE af aJ au cX ae l6 ay aG
abbrev ym:bu:=cg fN
theorem Pp:SS mB (cg fN):=so func333 (.c kB (.c cn (.c mI (.c iC (.c Ca (.c bq (.c U0 (.c kC (.c m7 .z))))))))) (Po aE af aJ au cX ae l6 ay aG)
def yn(cF:SN):T0:=λa w k=>aH w #[.pointer a] 141 λb c=>aR c b λp3=>cF p3 (.func (.func oS) #[] #[.pointer (some b)]) c λ_u d=>k () d
theorem Pq a:E [.p] [] [(tH,ED a)] 2 [] f310=λx=>yn a x:=bf
def fO:=yn cF
abbrev yo:bu:=cg fO
theorem Pr:SS kz (cg fO):=so func310 (.c zJ .z) (Pq cF)
def yp(G:T57)(H:T96)(ay:ZJ):aqK:=λtX p arw w k=>aH w tX 119 λz B=>aH B p 75 λq C=>aH C Ds 119 λo A=>bG 19 A z λr=>aH A Ds 119 λs D=>dK 19 D s r λc=>bG 5 c q λd=>G d 12 c λt a=>ap t (drew a λb=>aN .i64 b (q.add 1) λu=>H arw b λv e=>ai 1 (q.add 1) b e (GC (s.add 2) 8 u 1 λx=>bJ e x (Iv v) λf=>bG 19 f s λg=>ay g f λh y=>dK 19 y o h λi=>bG 19 i o λj=>k j i)) (bG 19 a z λl=>dK 19 a o l λm=>bG 19 m o λn=>k n m)
theorem Ps a c d:E [.ag,.ag,.b] [.ag] [(Dl,ahp a),(MG,aqE c),(iJ,Ol d)] 1244 [] f193=λx=>yp a c d x.1 x.2.1 x.2.2:=bf
def iT:=yp eK mH ay
theorem Pt:SS Ez (aqL iT):=so func193 (.c HW (.c WN (.c kC .z))) (Ps eK mH ay)
def cC:aq6:=λa d w k=>aH w d 259 λi j=>jO (S:=Int) (λl b h=>ap (decide (b<((a.n:Nat):Int))) (drew h λc=>bG 2 c i λe=>cW a b 2 λm=>bG 2 c m λf=>ZC ([(0,0)] ++([(1,0)] ++[])) e f λg=>ap g (k b c) (l (aL .i64 (b+1)) c)) (k (-1) h)) 0 j
theorem xh:SS qa (aq7 cC):=sl 66489 [(3,[(8,(.i .i64))])] func364
def wC(dJ:T31)(bF:T13):T24:=fun h_0 arx n_2 w k=>jO (S:=Int) (fun C1 i2 w3=>ap ((decide ((IntKind.wrap .i64 ((IntKind.wrap .i64 (2*i2))+1))≥n_2))||(decide ((IntKind.wrap .i64 ((IntKind.wrap .i64 (2*i2))+1))<0))) (k (decide (i2>arx)) w3) (cD (S:=Bool) (fun J4=>ap (decide ((IntKind.wrap .i64 ((IntKind.wrap .i64 ((IntKind.wrap .i64 (2*i2))+1))+1))<n_2)) (px (j4 [(kP,(Wn dJ)),(dm,(Dt bF))]) Tryz.prog h_0 "Less" #[(Iv (IntKind.wrap .i64 ((IntKind.wrap .i64 ((IntKind.wrap .i64 (2*i2))+1))+1))),(Iv (IntKind.wrap .i64 ((IntKind.wrap .i64 (2*i2))+1)))] w3 fun v5 w6=>HL v5 fun b7=>J4 b7 w6) (J4 false w3)) fun b8 w9=>cD (S:=Int) (fun J10=>ap b8 ((J10 (IntKind.wrap .i64 ((IntKind.wrap .i64 ((IntKind.wrap .i64 (2*i2))+1))+1)) w9)) ((J10 (IntKind.wrap .i64 ((IntKind.wrap .i64 (2*i2))+1)) w9))) fun i11 w12=>px (j4 [(kP,(Wn dJ)),(dm,(Dt bF))]) Tryz.prog h_0 "Less" #[Iv i11,Iv i2] w12 fun v13 w14=>HL v13 fun b15=>ap (!b15) (k (decide (i2>arx)) w14) (px (j4 [(kP,(Wn dJ)),(dm,(Dt bF))]) Tryz.prog h_0 "Swap" #[Iv i2,Iv i11] w14 fun v16 w17=>HM [] v16 fun(u18:Unit)=>C1 i11 w17))) arx w
theorem Nq a c:E [.raw,.i .i64,.i .i64] [.b] [(kP,Wn a),(dm,Dt c)] 558347847623 [(3,[(7,(.i .i64))]),(10,[(33,.b)]),(11,[(9,(.i .i64))])] f199=λx=>wC a c x.1 x.2.1 x.2.2:=bf
def bV:=wC dJ bF
theorem DZ:SS fD (Qs bV):=so func199 (.c JQ (.c yS .z)) (Nq dJ bF)
def dx:T20:=λb w k=>nn b λq=>cE w q λm=>nn b λr=>cE w r λs=>cW s (aL .i64 (((m.n:Nat):Int) - 1)) 2 λt=>bG 2 w t λh=>aH w #[Iv 0,Iv 0] 259 λo u=>dK 2 u o h λp=>nn b λi=>cE p i λj=>SG j 2 0 (aL .i64 (((m.n:Nat):Int) - 1)) λd=>nn b λl=>bJ p l (.slice d.a d.n d.c) λe=>bG 2 e o λf=>k (.iface 259 (.agg f)) e
abbrev LJ:bu:=Hp dx
theorem LK:SS iw (Hp dx):=sl 29 [] func423
def uj(bV:T24)(cA:T26)(cN:T17)(bF:T13)(dx:T20):aq8:=fun h_0 i_1 w k=>px (j4 [(fD,(Qs bV)),(jf,(TY cA)),(fG,(IK cN)),(dm,(Dt bF)),(iw,(Hp dx))]) Tryz.prog h_0 "Len" #[] w fun v1 w2=>xy .i64 v1 fun i3=>ap ((IntKind.wrap .i64 (i3 - 1)) !=i_1) (px (j4 [(fD,(Qs bV)),(jf,(TY cA)),(fG,(IK cN)),(dm,(Dt bF)),(iw,(Hp dx))]) Tryz.prog h_0 "Swap" #[Iv i_1,(Iv (IntKind.wrap .i64 (i3 - 1)))] w2 fun v4 w5=>HM [] v4 fun(u6:Unit)=>bV h_0 i_1 (IntKind.wrap .i64 (i3 - 1)) w5 fun b7 w8=>ap (!b7) (cA h_0 i_1 w8 fun _u w9=>px (j4 [(fD,(Qs bV)),(jf,(TY cA)),(fG,(IK cN)),(dm,(Dt bF)),(iw,(Hp dx))]) Tryz.prog h_0 "Pop" #[] w9 fun v10 w11=>k v10 w11) (px (j4 [(fD,(Qs bV)),(jf,(TY cA)),(fG,(IK cN)),(dm,(Dt bF)),(iw,(Hp dx))]) Tryz.prog h_0 "Pop" #[] w8 fun v12 w13=>k v12 w13)) (px (j4 [(fD,(Qs bV)),(jf,(TY cA)),(fG,(IK cN)),(dm,(Dt bF)),(iw,(Hp dx))]) Tryz.prog h_0 "Pop" #[] w2 fun v14 w15=>k v14 w15)
theorem KH a b c d e:E [.raw,.i .i64] [.raw] [(fD,Qs a),(jf,TY b),(fG,IK c),(dm,Dt d),(iw,Hp e)] 1050675 [] f363=λx=>uj a b c d e x.1 x.2:=bf
def ic:=uj bV cA cN bF dx
theorem KI:SS Bv (aq9 ic):=so func363 (.c DZ (.c Gh (.c Fu (.c yS (.c LK .z))))) (KH bV cA cN bF dx)
def Bd(cC:aq6)(ic:aq8):T1:=λa Zi w k=>ap (ej a) (k false w) (nn a λn=>ldM w (n.add 2) λp2=>Go.Ev.look Tryz.prog 207 (.map p2) (Iv Zi) true w λo f=>HM [(.i .i64),.b] o fun(e:Int×Bool)=>ap e.2 (nn a λq=>ldM f (q.add 2) λp7=>agP Tryz.prog #[207,3] 0 [(.map p7),Iv Zi] f λt r=>drew r λc=>nn a λg=>nn a λd=>cE c (d.add 1) λh=>ai 1 (d.add 1) c c (cC h #[Iv e.1,Iv Zi] c λj l=>ic (.iface 261 (.pointer (some (g.add 1)))) j l λs m=>k e.2 m)) (k e.2 f))
theorem Ti a c:E [.p,.i .i64] [.b] [(qa,aq7 a),(Bv,aq9 c)] 262515 [] f349=λx=>Bd a c x.1 x.2:=bf
def kS:=Bd cC ic
theorem Tj:SS Hl (qd kS):=so func349 (.c xh (.c KI .z)) (Ti cC ic)
def z8(D:T8)(au:MH)(kS:T1):T0:=λb w k=>D b w λp1 y=>au p1 y λg h=>PW g 0 λz=>xy .i64 z λx=>nn b λA=>aR h (A.add 0) λp8=>nn p8 λB=>aR h (B.add 17) λp10=>kS p10 x h λC d=>nn b λj=>aR d (j.add 0) λp14=>nn p14 λl=>cE d (l.add 10) λm=>cW m x 4 λo=>bJ d (o.add 3) (.bool true) λp=>drew p λe=>nn p1 λq=>cE e (q.add 24) λr=>nn p1 λs=>cE e (s.add 24) λt=>SG r 2 0 (aL .i64 (((t.n:Nat):Int) - 1)) λf=>nn p1 λu=>bJ e (u.add 24) (.slice f.a f.n f.c) λv=>k () v
theorem Rk a b c:E [.p] [] [(bY,F6 a),(gB,EC b),(Hl,qd c)] 13 [] f329=λx=>z8 a b c x:=bf
def dW:=z8 af au kS
theorem Gi:SS zm (cg dW):=so func329 (.c cn (.c iC (.c Tj .z))) (Rk af au kS)
def wD(aE:Wl)(af:T8)(aJ:MH)(au:MH)(eA:T46)(ae:T1)(iT:aqK)(dW:T0)(aG:T0):T0:=λb w k=>aE b w λR P=>ap R (k () P) (af b P λp3 T=>aJ b T λv U=>aH U Jg 75 λQ V=>dK 5 V Q v λW=>drew W λa=>nn b λg=>aR a (g.add 0) λp12=>nn p12 λh=>aR a (h.add 9) λp14=>nn b λi=>aR a (i.add 0) λp16=>nn p16 λj=>aR a (j.add 7) λp18=>nn b λl=>aN .i64 a (l.add 1) λy=>au p3 a λm c=>ai 1 (l.add 1) a c (ai 1 (j.add 7) a c (ai 1 (i.add 0) a c (ai 1 (h.add 9) a c (ai 1 (g.add 0) a c (PW m 0 λz=>xy .i64 z λA=>eA p14 p18 y A c λd n=>nn b λB=>aR n (B.add 0) λC=>ae C (d.1,d.2).2 n λD e=>ap D (k () e) (cD (S:=ByteArray) (λo=>ap (d.1,d.2).1 (o (ByteArray.mk #[49]) e) (o (ByteArray.mk #[48]) e)) λp q=>nn p3 λF=>PV q (F.add 23) λr=>((((((ByteArray.size r)+(ByteArray.size p)):Nat):Int)≤9223372036854775807))∧(nn p3 λG=>bJ q (G.add 23) (.string (r++p)) λH=>drew H λf=>nn p3 λI=>bG 19 f (I.add 4) λs=>bG 5 f Q λt=>iT s t (d.1,d.2).1 f λu J=>nn p3 λL=>dK 19 J (L.add 4) u λM=>dW b M λ_u N=>aG b N λ_u O=>k () O))))))))
theorem Nr a b c d e f g h i:E [.p] [] [(jD,Lh a),(bY,F6 b),(kx,EC c),(gB,EC d),(AW,Ze e),(be,qd f),(Ez,aqL g),(zm,cg h),(k9,cg i)] 26388279067005 [(8,[(6,.str)])] f335=λx=>wD a b c d e f g h i x:=bf
def ff:=wD aE af aJ au eA ae iT dW aG
abbrev wE:bu:=cg ff
theorem Ns:SS lD (cg ff):=so func335 (.c kB (.c cn (.c mI (.c iC (.c HB (.c bq (.c Pt (.c Gi (.c m7 .z))))))))) (Nr aE af aJ au eA ae iT dW aG)
def D0(o:T6)(p:T42):T46:=λa b f c w k=>o a b c w λg d=>ap (g !=0) (k (false,g) d) (nn a λh=>cE d (h.add 0) λi=>cW i c 3 λj=>aN .i64 d (j.add 2) λm=>p b f m 0 1 d λe n=>k ((e.1,e.2).1,(e.1,e.2).2) n)
theorem W3 a c:E [.p,.p,.i .i64,.i .i64] [.b,.i .i64] [(nO,qY a),(mX,abt c)] 67343 [] f152=λx=>D0 a c x.1 x.2.1 x.2.2.1 x.2.2.2:=bf
def gy:=D0 bg aU
theorem JR:SS Di (Ze gy):=so func152 (.c pF (.c oZ .z)) (W3 bg aU)
def wF(aE:Wl)(af:T8)(au:MH)(gy:T46)(ae:T1)(ay:ZJ)(aG:T0)(cm:SN):T0:=λa w k=>aE a w λF B=>ap F (k () B) (af a B λp3 G=>drew G λc=>nn a λC=>aR c (C.add 0) λp7=>nn p7 λD=>aR c (D.add 9) λp9=>nn a λe=>aR c (e.add 0) λp11=>nn p11 λf=>aR c (f.add 7) λp13=>nn a λg=>aN .i64 c (g.add 1) λo=>au p3 c λh b=>ai 1 (g.add 1) c b (ai 1 (f.add 7) c b (ai 1 (e.add 0) c b (ai 1 (D.add 9) c b (ai 1 (C.add 0) c b (PW h 0 λp=>xy .i64 p λq=>gy p9 p13 o q b λi j=>nn a λr=>aR j (r.add 0) λs=>ae s (i.1,i.2).2 j λt d=>ap t (k () d) (nn p3 λu=>bG 19 d (u.add 4) λl=>ay l d λm v=>nn p3 λx=>dK 19 v (x.add 4) m λy=>aG a y λ_u z=>cm a (.func (.func fW) #[.pointer a] #[]) z λ_u A=>k () A)))))))
theorem Nt a b c d e f g h:E [.p] [] [(jD,Lh a),(bY,F6 b),(gB,EC c),(Di,Ze d),(be,qd e),(iJ,Ol f),(k9,cg g),(sR,ED h)] 549755813973 [] f311=λx=>wF a b c d e f g h x:=bf
def fg:=wF aE af au gy ae ay aG cm
abbrev wG:bu:=cg fg
theorem Nu:SS jW (cg fg):=so func311 (.c kB (.c cn (.c iC (.c JR (.c bq (.c kC (.c m7 (.c xW .z)))))))) (Nt aE af au gy ae ay aG cm)
def z9(aE:Wl)(af:T8)(ay:ZJ)(aG:T0):T0:=λa w k=>aE a w λj h=>ap (!j) (af a h λp3 l=>af a l λp5 i=>nn p5 λm=>bG 19 i (m.add 4) λb=>ay b i λc d=>nn p3 λe=>dK 19 d (e.add 4) c λf=>aG a f λ_u g=>k () g) (k () h)
theorem Rm a b c d:E [.p] [] [(jD,Lh a),(bY,F6 b),(iJ,Ol c),(k9,cg d)] 17 [] f312=λx=>z9 a b c d x:=bf
def gR:=z9 aE af ay aG
abbrev Aa:bu:=cg gR
theorem Rn:SS k8 (cg gR):=so func312 (.c kB (.c cn (.c kC (.c m7 .z)))) (Rm aE af ay aG)
def yq(aE:Wl)(af:T8)(aJ:MH)(ay:ZJ)(aG:T0)(cz:T41):T0:=λa w k=>aE a w λC A=>ap C (k () A) (af a A λp3 D=>aJ a D λi F=>aH F Jg 75 λh G=>dK 5 G h i λB=>nn p3 λj=>bG 19 B (j.add 4) λf=>ay f B λg l=>nn p3 λm=>dK 19 l (m.add 4) g λn=>aG a n λ_u c=>aN .i64 c (h.add 0) λo=>ap (o==15) (drew c λd=>aN .i64 d (h.add 1) λp=>nn p3 λq=>GC (aX (q.add 4) 2) 8 p 1 λr=>aN .i64 d r λs=>cz a 3 s d λ_u t=>k () t) (drew c λe=>aN .i64 e (h.add 1) λu=>nn p3 λv=>GC (aX (v.add 4) 2) 8 u 1 λx=>aN .i64 e x λy=>cz a 2 y e λ_u z=>k () z))
theorem Pu a b c d e f:E [.p] [] [(jD,Lh a),(bY,F6 b),(kx,EC c),(iJ,Ol d),(k9,cg e),(tG,abr f)] 8388701 [] f313=λx=>yq a b c d e f x:=bf
def fP:=yq aE af aJ ay aG cz
abbrev yu:bu:=cg fP
theorem Pv:SS iK (cg fP):=so func313 (.c kB (.c cn (.c mI (.c kC (.c m7 (.c zL .z)))))) (Pu aE af aJ ay aG cz)
def Ab(j:T43):T47:=λtX a b c w k=>aH w tX 116 λf e=>aN .i64 e (f.add 0) λg=>j a b (aL .i64 (g+1)) c e λh i=>k h i
theorem Rq a:E [.ag,.p,.i .i64,.i .i64] [.i .i64] [(lz,abu a)] 286 [] f343=λx=>Ab a x.1 x.2.1 x.2.2.1 x.2.2.2:=bf
def j9:=Ab aM
theorem Rs:SS FZ (Zf j9):=so func343 (.c nE .z) (Rq aM)
def Be(A:T8)(B:T47)(C:T1):T0:=λa w k=>A a w λp1 v=>cD (S:=Bool) (λt=>drew v λb=>nn p1 λx=>aN .i64 b (x.add 26) λy=>ap (y==4) (t true b) (nn a λu=>aR b (u.add 0) λp8=>nn p1 λz=>bG 1 b (z.add 3) λd=>nn a λg=>aR b (g.add 0) λp12=>nn p12 λh=>aR b (h.add 7) λp14=>nn a λi=>aN .i64 b (i.add 1) λj=>nn p1 λl=>aN .i64 b (l.add 27) λm=>B d p14 j m b λn e=>ai 1 (u.add 0) b e (C p8 n e λo p=>t (!o) p))) λq f=>ap q (nn a λr=>bJ f (r.add 7) (.func (.func nJ) #[.pointer a] #[]) λs=>k () s) (k () f)
theorem Tl a c d:E [.p] [] [(bY,F6 a),(FZ,Zf c),(be,qd d)] 137438953477 [(1,[(37,.b)])] f326=λx=>Be a c d x:=bf
def iF:=Be af j9 ae
abbrev Bf:bu:=cg iF
theorem Tm:SS nI (cg iF):=so func326 (.c cn (.c Rs (.c bq .z))) (Tl af j9 ae)
def Ac(i:T42):aqM:=λtX a d ary w k=>aH w tX 116 λf b=>ap (ej a) (k (false,2) b) (ap ((decide (ary<2))||(decide (ary>4))) (k (false,10) b) (aN .i64 b (f.add 0) λg=>i a d (aL .i64 (g+0)) 1 ary b λc h=>k ((c.1,c.2).1,(c.1,c.2).2) h))
theorem Rt a:E [.ag,.p,.i .i64,.i .i64] [.b,.i .i64] [(mX,abt a)] 10014 [] f359=λx=>Ac a x.1 x.2.1 x.2.2.1 x.2.2.2:=bf
def kf:=Ac aU
theorem Ru:SS F0 (aqN kf):=so func359 (.c oZ .z) (Rt aU)
def Bg(u:T8)(kf:aqM)(ae:T1):T0:=λa w k=>u a w λp1 q=>drew q λb=>nn p1 λr=>bG 1 b (r.add 3) λf=>nn a λs=>aR b (s.add 0) λp7=>nn p7 λt=>aR b (t.add 7) λp9=>nn a λg=>aN .i64 b (g.add 1) λi=>nn p1 λj=>aN .i64 b (j.add 26) λl=>kf f p9 i l b λc d=>nn a λm=>aR d (m.add 0) λp17=>ae p17 (c.1,c.2).2 d λn e=>ap (!n) (nn a λo=>bJ e (o.add 7) (.func (.func m0) #[.pointer a] #[]) λp=>k () p) (k () e)
theorem Tn a b c:E [.p] [] [(bY,F6 a),(F0,aqN b),(be,qd c)] 68719476757 [] f344=λx=>Bg a b c x:=bf
def iG:=Bg af kf ae
abbrev Bh:bu:=cg iG
theorem To:SS nJ (cg iG):=so func344 (.c cn (.c Ru (.c bq .z))) (Tn af kf ae)
def uk(aj:GR):UH:=λtX b c w k=>aH w tX 116 λf e=>aN .i64 e (f.add 0) λg=>aj b c (aL .i64 (g+2)) e λa h=>k ((a.1,a.2).1,(a.1,a.2).2) h
theorem KJ a:E [.ag,.p,.i .i64] [.i .i64,.i .i64] [(dH,yQ a)] 206 [] f374=λx=>uk a x.1 x.2.1 x.2.2:=bf
def ie:=uk aj
theorem KK:SS Bw (IL ie):=so func374 (.c dY .z) (KJ aj)
def Ae(u:T8)(ie:UH)(ae:T1):T0:=λa w k=>drew w λc=>nn a λp=>aR c (p.add 0) λp3=>nn p3 λq=>aR c (q.add 7) λp5=>nn a λr=>aN .i64 c (r.add 1) λt=>u a c λp8 d=>ai 1 (r.add 1) c d (ai 1 (q.add 7) c d (ai 1 (p.add 0) c d (nn p8 λh=>bG 1 d (h.add 3) λe=>ie e p5 t d λb f=>nn a λi=>aR f (i.add 0) λp15=>ae p15 (b.1,b.2).2 f λj g=>ap (!j) (nn a λl=>bJ g (l.add 30) (Iv (b.1,b.2).1) λm=>nn a λn=>bJ m (n.add 7) (.func (.func m3) #[.pointer a] #[]) λo=>k () o) (k () g))))
theorem Rv a b c:E [.p] [] [(bY,F6 a),(Bw,IL b),(be,qd c)] 1073741837 [] f360=λx=>Ae a b c x:=bf
def gS:=Ae af ie ae
abbrev Af:bu:=cg gS
theorem Rw:SS m0 (cg gS):=so func360 (.c cn (.c KK (.c bq .z))) (Rv af ie ae)
def Bi(o:T6)(p:T36):T46:=λb c f d w k=>o b c d w λh e=>ap (h !=0) (k (false,h) e) (nn b λi=>cE e (i.add 0) λj=>cW j d 3 λl=>aN .i64 e (l.add 2) λm=>p c f (aL .i64 (m+1)) (-1) e λa n=>(k ((((a.1,a.2).2==0)&&((a.1,a.2).1==1)),(a.1,a.2).2) n))
theorem Tq a c:E [.p,.p,.i .i64,.i .i64] [.b,.i .i64] [(nO,qY a),(jV,Zd c)] 270095 [] f386=λx=>Bi a c x.1 x.2.1 x.2.2.1 x.2.2.2:=bf
def kT:=Bi bg aO
theorem Tr:SS Ho (Ze kT):=so func386 (.c pF (.c m6 .z)) (Tq bg aO)
def Ag(U:T8)(V:T46)(W:T1)(cm:SN):T0:=λb w k=>drew w λe=>nn b λQ=>aR e (Q.add 0) λp3=>nn p3 λR=>aR e (R.add 9) λp5=>nn b λS=>aR e (S.add 0) λp7=>nn p7 λT=>aR e (T.add 7) λp9=>nn b λp=>aN .i64 e (p.add 1) λs=>U b e λp12 d=>ai 1 (p.add 1) e d (ai 1 (T.add 7) e d (ai 1 (S.add 0) e d (ai 1 (R.add 9) e d (ai 1 (Q.add 0) e d (nn p12 λt=>aN .i64 d (t.add 1) λu=>V p5 p9 s u d λh q=>nn b λv=>aR q (v.add 0) λp19=>W p19 (h.1,h.2).2 q λx g=>ap x (k () g) (nn b λy=>cE g (y.add 5) λi=>nn b λz=>cE g (z.add 6) λA=>cW A (aL .i64 (((i.n:Nat):Int) - 1)) 1 λB=>sX g B λr=>drew g λj=>nn b λC=>cE j (C.add 5) λD=>SG D 1 0 (aL .i64 (((i.n:Nat):Int) - 1)) λl=>nn b λF=>cE j (F.add 6) λG=>SG G 1 0 (aL .i64 (((i.n:Nat):Int) - 1)) λm=>nn b λH=>bJ j (H.add 5) (.slice l.a l.n l.c) λI=>nn b λJ=>bJ I (J.add 6) (.slice m.a m.n m.c) λL=>nn b λM=>bJ L (M.add 7) r λo=>nn b λN=>aN .i64 o (N.add 30) λO=>ap ((O !=0)||(h.1,h.2).1) (cm b r o λ_u P=>k () P) (k () o)))))))
theorem Rx a b c d:E [.p] [] [(bY,F6 a),(Ho,Ze b),(be,qd c),(sR,ED d)] 2417851639229533227319357 [] f375=λx=>Ag a b c d x:=bf
def gT:=Ag af kT ae cm
abbrev Ah:bu:=cg gT
theorem Ry:SS m3 (cg gT):=so func375 (.c cn (.c Tr (.c bq (.c xW .z)))) (Rx af kT ae cm)
def wH(aj:GR):UH:=λtX b c w k=>aH w tX 116 λf e=>aN .i64 e (f.add 0) λg=>aj b c (aL .i64 (g+0)) e λa h=>k ((a.1,a.2).1,(a.1,a.2).2) h
theorem Nv a:E [.ag,.p,.i .i64] [.i .i64,.i .i64] [(dH,yQ a)] 974 [] f367=λx=>wH a x.1 x.2.1 x.2.2:=bf
def jk:=wH aj
theorem Nw:SS Dn (IL jk):=so func367 (.c dY .z) (Nv aj)
def yw(jk:UH)(ae:T1)(bI:SN)(af:T8)(dD:Wm):T0:=λn w k=>aH w #[.pointer n] 141 λb X=>drew X λf=>aR f b λp4=>nn p4 λY=>aR f (Y.add 20) λp6=>nn p6 λZ=>bG 1 f (Z.add 3) λo=>aR f b λp9=>nn p9 λp=>aR f (p.add 0) λp11=>nn p11 λq=>aR f (q.add 7) λp13=>aR f b λp14=>nn p14 λr=>aN .i64 f (r.add 1) λt=>jk o p13 t f λa h=>aR h b λp19=>nn p19 λu=>aR h (u.add 0) λv=>ae v (a.1,a.2).2 h λx g=>ap x (k () g) (aR g b λy=>nn y λz=>aR g (z.add 20) λA=>aH g #[.pointer none] 114 λi B=>bJ B i (.pointer A) λc=>ap ((a.1,a.2).1==0) (aR c b λC=>nn C λD=>sX c (D.add 24) λF=>aH c #[.nilFunc] 1 λj G=>bJ G j F λl=>aR l b λH=>bI H (.func (.func oT) #[] #[.pointer (some b),.pointer (some i),.pointer (some j)]) l λ_u I=>k () I) (ap ((a.1,a.2).1==1) (drew c λd=>aR d b λJ=>aR d b λL=>aR d b λM=>af L d λN e=>ai 1 b d e (ai 1 b d e (nn N λO=>cE e (O.add 24) λP=>cW P 0 2 λQ=>aN .i64 e (Q.add 1) λR=>dD J R (.func (.func jY) #[.pointer M] #[]) e λ_u S=>k () S))) (aR c b λT=>nn T λU=>bJ c (U.add 21) (Iv (a.1,a.2).1) λm=>aR m b λV=>bI V (.func (.func oU) #[] #[.pointer (some b)]) m λ_u W=>k () W)))
theorem Px a b c d e:E [.p] [] [(Dn,IL a),(be,qd b),(qP,ED c),(bY,F6 d),(xF,Li e)] 36099449230983230 [] f354=λx=>yw a b c d e x:=bf
def fQ:=yw jk ae bI af dD
abbrev yx:bu:=cg fQ
theorem Py:SS mD (cg fQ):=so func354 (.c Nw (.c bq (.c tL (.c cn (.c ER .z))))) (Px jk ae bI af dD)
def wI(aj:GR):UH:=λtX b c w k=>aH w tX 116 λf e=>aN .i64 e (f.add 0) λg=>aj b c (aL .i64 (g+1)) e λa h=>k ((a.1,a.2).1,(a.1,a.2).2) h
theorem Ny a:E [.ag,.p,.i .i64] [.i .i64,.i .i64] [(dH,yQ a)] 206 [] f385=λx=>wI a x.1 x.2.1 x.2.2:=bf
def jl:=wI aj
theorem Nz:SS Dq (IL jl):=so func385 (.c dY .z) (Ny aj)
def yy(eK:T57)(ay:ZJ)(c7:T49):aqO:=λtX H Sq f w k=>aH w tX 119 λd w2=>aH w2 H 75 λg w4=>aH w4 Ds 119 λe I=>cD (S:=Bool) (λJ=>ap ((decide (Sq<2))||(decide (Sq>4))) (J true I) (bG 5 I g λL=>eK L 9 I λb9 h=>ap (!b9) (bG 5 h g λj=>eK j 10 h λM N=>J (!M) N) (J false h))) λO a=>ap O (bG 19 a d λl=>dK 19 a e l λm=>bG 19 m e λn=>k (n,(0,false)) m) (cD (S:=Int) (λo=>aN .i64 a (g.add 0) λP=>ap (P==10) (cD (S:=Int) (λp=>ap (Sq==4) (p 0 a) (p f a)) λQ R=>drew R λc=>aN .i64 c (g.add 1) λT=>aN .i64 c (g.add 2) λU=>GC (d.add 2) 8 T 1 λV=>bJ c V (Iv Q) λq=>ai 1 (g.add 2) c q (GC (d.add 2) 8 U 1 λW=>bJ q W (Iv (aL .i64 (Sq - 2))) λr=>bG 19 r d λs=>ay s r λt X=>dK 19 X e t λu=>bG 19 u e λv=>k (v,(0,false)) u)) (ap (Sq==2) (aN .i64 a (g.add 1) λY=>GC (d.add 2) 8 Y 1 λZ=>bJ a Z (Iv f) λx=>bG 19 x d λy=>ay y x λz a0=>dK 19 a0 e z λA=>bG 19 A e λB=>k (B,(0,false)) A) (ap (Sq==4) (o (-1) a) (o f a)))) λa2 i=>bG 19 i d λC=>aN .i64 i (d.add 1) λa4=>c7 C a4 i λD a6=>dK 19 a6 e D λF=>bG 19 F e λG=>k (G,(a2,true)) F)
theorem Pz a c d:E [.ag,.ag,.i .i64,.i .i64] [.ag,.i .i64,.b] [(Dl,ahp a),(iJ,Ol c),(tF,abw d)] 588746065724 [(1,[(26,.b)]),(5,[(3,(.i .i64))]),(16,[(3,(.i .i64))])] f192=λx=>yy a c d x.1 x.2.1 x.2.2.1 x.2.2.2:=bf
def g9:=yy eK ay c7
theorem PA:SS Ey (aqP g9):=so func192 (.c HW (.c kC (.c DT .z))) (Pz eK ay c7)
def wJ(aE:Wl)(af:T8)(aJ:MH)(jl:UH)(ae:T1)(g9:aqO)(aG:T0)(cz:T41):T0:=λa w k=>aE a w λb1 w2=>ap b1 (k () w2) (af a w2 λp3 w4=>aJ a w4 λD w6=>aH w6 Jg 75 λC w8=>dK 5 w8 C D λF=>nn a λG=>aN .i64 F (G.add 21) λH=>cD (S:=Int) (λp=>ap (H !=4) (drew F λe=>nn a λI=>aR e (I.add 20) λp15=>nn p15 λJ=>bG 1 e (J.add 3) λq=>nn a λL=>aR e (L.add 0) λp19=>nn p19 λM=>aR e (M.add 7) λN=>nn a λO=>aN .i64 e (O.add 1) λP=>jl q N P e λf r=>nn a λQ=>aR r (Q.add 0) λR=>ae R (f.1,f.2).2 r λT s=>ap T (k () s) (p (f.1,f.2).1 s)) (p 0 F)) λt U=>cD (S:=(Addr×(Int×Bool))) (λu=>drew U λb=>nn p3 λl=>bG 19 b (l.add 4) λi=>bG 5 b C λj=>nn a λm=>aN .i64 b (m.add 21) λv=>both (g9 i j v t b λc V=>aH V Ds 119 λx g=>ai 1 (m.add 21) b g (ai 5 C b g (ai 19 (l.add 4) b g (dK 19 g x (c.1,(c.2.1,c.2.2)).1 λW=>(u (x,((c.1,(c.2.1,c.2.2)).2.1,(c.1,(c.2.1,c.2.2)).2.2)) W))))) (aH b Ds 119 λy h=>ai 1 (m.add 21) b h (ai 5 C b h (ai 19 (l.add 4) b h (g9 i j v t h λd X=>dK 19 X y (d.1,(d.2.1,d.2.2)).1 λY=>(u (y,((d.1,(d.2.1,d.2.2)).2.1,(d.1,(d.2.1,d.2.2)).2.2)) Y)))))) λn z=>bG 19 z n.1 λA=>nn p3 λZ=>dK 19 z (Z.add 4) A λa0=>aG a a0 λ_u B=>ap n.2.2 (cz a 3 n.2.1 B λ_u a1=>k () a1) (k () B))
theorem NA c d e f g h j l:E [.p] [] [(jD,Lh c),(bY,F6 d),(kx,EC e),(Dq,IL f),(be,qd g),(Ey,aqP h),(k9,cg j),(tG,abr l)] 2361183522909800369149 [(5,[(4,(.i .i64))]),(10,[(7,.a),(8,(.i .i64)),(9,.b)])] f371=λx=>wJ c d e f g h j l x:=bf
def fh:=wJ aE af aJ jl ae g9 aG cz
abbrev wK:bu:=cg fh
theorem NB:SS lG (cg fh):=so func371 (.c kB (.c cn (.c mI (.c Nz (.c bq (.c PA (.c m7 (.c zL .z)))))))) (NA aE af aJ jl ae g9 aG cz)
def wL(cq:UH)(ae:T1)(eG:ZI)(bt:T39)(cr:T0)(cT:T22):T0:=λi w k=>aH w #[.pointer i] 141 λc G=>drew G λe=>aR e c λp4=>nn p4 λH=>bG 2 e (H.add 2) λj=>aR e c λp7=>nn p7 λI=>aR e (I.add 0) λp9=>nn p9 λl=>aR e (l.add 7) λp11=>aR e c λp12=>nn p12 λm=>aN .i64 e (m.add 1) λo=>cq j p11 o e λd f=>aR f c λp17=>nn p17 λp=>aR f (p.add 0) λp19=>ae p19 (d.1,d.2).2 f λq a=>ap q (k () a) (aR a c λr=>nn r λs=>aN .i64 a (s.add 26) λt=>ap (decide ((d.1,d.2).1≤t)) (aR a c λu=>nn u λv=>sX a (v.add 27) λx=>mT (j4 [(ql,(IL cq)),(be,(qd ae)),(vF,(JL eG)),(my,(abq bt)),(jY,(cg cr)),(jX,(EE cT))]) x #[] a λy z=>HM [] y fun(J:Unit)=>k () z) (drew a λb=>aR b c λA=>aR b c λB=>nn B λC=>bG 2 b (C.add 2) λg=>eG g b λD h=>ai 1 c b h (bt A D (.func (.func ow) #[] #[.pointer (some c)]) h λ_u F=>k () F)))
theorem NC a b c d e f:E [.p] [] [(ql,IL a),(be,qd b),(vF,JL c),(my,abq d),(jY,cg e),(jX,EE f)] 17448304654 [] f361=λx=>wL a b c d e f x:=bf
def fj:=wL cq ae eG bt cr cT
abbrev wM:bu:=cg fj
theorem ND:SS lF (cg fj):=so func361 (.c ya (.c bq (.c IT (.c sS (.c zG (.c DQ .z)))))) (NC cq ae eG bt cr cT)
def u9(s:T6)(t:T1):T0:=λa w k=>nn a λn=>bJ w (n.add 14) (.bool false) λo=>drew o λb=>nn a λm=>aR b (m.add 0) λp5=>nn a λp=>aR b (p.add 4) λp7=>nn a λq=>aR b (q.add 0) λp9=>nn p9 λe=>aR b (e.add 7) λp11=>nn a λf=>aN .i64 b (f.add 1) λg=>s p7 p11 g b λh c=>ai 1 (m.add 0) b c (t p5 h c λi d=>ap i (k () d) (nn a λj=>bJ d (j.add 7) (.func (.func kK) #[.pointer a] #[]) λl=>k () l))
theorem LL a b:E [.p] [] [(uA,qY a),(be,qd b)] 33554433 [] f348=λx=>u9 a b x:=bf
def eH:=u9 cM ae
abbrev vc:bu:=cg eH
theorem LN:SS kJ (cg eH):=so func348 (.c Bc (.c bq .z)) (LL cM ae)
def Cl(o:T6)(aj:GR):T51:=λa b f c w k=>o a b c w λh d=>ap (h !=0) (k (0,h) d) (nn a λi=>cE d (i.add 0) λj=>cW j c 3 λl=>aN .i64 d (l.add 2) λm=>aj b f (aL .i64 (m+1)) d λe n=>k ((e.1,e.2).1,(e.1,e.2).2) n)
theorem U1 a b:E [.p,.p,.i .i64,.i .i64] [.i .i64,.i .i64] [(nO,qY a),(dH,yQ b)] 67343 [] f378=λx=>Cl a b x.1 x.2.1 x.2.2.1 x.2.2.2:=bf
def l7:=Cl bg aj
theorem U2:SS IJ (ad6 l7):=so func378 (.c pF (.c dY .z)) (U1 bg aj)
def ve(A:T8)(au:MH)(l7:T51)(ae:T1)(bI:SN)(cr:T0):T0:=λa w k=>drew w λb=>nn a λj=>aR b (j.add 0) λp3=>nn p3 λl=>aR b (l.add 9) λp5=>nn a λm=>aR b (m.add 0) λp7=>nn p7 λn=>aR b (n.add 7) λp9=>nn a λg=>aN .i64 b (g.add 1) λp=>A a b λp12 c=>ai 1 (g.add 1) b c (ai 1 (n.add 7) b c (ai 1 (m.add 0) b c (ai 1 (l.add 9) b c (ai 1 (j.add 0) b c (au p12 c λh d=>ai 1 (g.add 1) b d (ai 1 (n.add 7) b d (ai 1 (m.add 0) b d (ai 1 (l.add 9) b d (ai 1 (j.add 0) b d (PW h 0 λq=>xy .i64 q λr=>l7 p5 p9 p r d λe i=>nn a λs=>aR i (s.add 0) λt=>ae t (e.1,e.2).2 i λu f=>ap u (k () f) (ap ((e.1,e.2).1==0) (nn a λv=>sX f (v.add 31) λx=>bI a x f λ_u y=>k () y) (cr a f λ_u z=>k () z))))))))))))
theorem LO a b c d e f:E [.p] [] [(bY,F6 a),(gB,EC b),(IJ,ad6 c),(be,qd d),(qP,ED e),(jY,cg f)] 171798691853 [] f362=λx=>ve a b c d e f x:=bf
def eI:=ve af au l7 ae bI cr
abbrev vf:bu:=cg eI
theorem LP:SS kK (cg eI):=so func362 (.c cn (.c iC (.c U2 (.c bq (.c tL (.c zG .z)))))) (LO af au l7 ae bI cr)
def yz(l:T36):T47:=λtX b a abF w k=>aH w tX 116 λg d=>ap (ej b) (k 2 d) (ap ((decide (a<0))||(decide (a>16))) (k 10 d) (drew d λe=>aN .i64 e (g.add 0) λh=>G6 .i64 abF a λi=>l b a (aL .i64 (h+2)) i e λf j=>k (f.1,f.2).2 j))
theorem PB a:E [.ag,.p,.i .i64,.i .i64] [.i .i64] [(jV,Zd a)] 19742 [] f389=λx=>yz a x.1 x.2.1 x.2.2.1 x.2.2.2:=bf
def dF:=yz aO
theorem ET:SS xH (Zf dF):=so func389 (.c m6 .z) (PB aO)
def yC(h:T47):ZK:=λtX a b w k=>aH w tX 116 λe d=>bG 1 d e λc=>h c a b 1 d λf g=>k f g
theorem PC a:E [.ag,.p,.i .i64] [.i .i64] [(xH,Zf a)] 78 [] f394=λx=>yC a x.1 x.2.1 x.2.2:=bf
def jJ:=yC dF
theorem PD:SS EB (On jJ):=so func394 (.c ET .z) (PC dF)
def ul(jJ:ZK)(ae:T1):T0:=λa w k=>drew w λb=>nn a λr=>aR b (r.add 0) λp3=>nn a λs=>aR b (s.add 20) λp5=>nn p5 λt=>bG 1 b (t.add 3) λe=>nn a λu=>aR b (u.add 0) λp9=>nn p9 λf=>aR b (f.add 7) λp11=>nn a λg=>aN .i64 b (g.add 1) λh=>jJ e p11 h b λi d=>ai 1 (r.add 0) b d (ae p3 i d λj c=>ap (!j) (nn a λl=>sX c (l.add 24) λm=>nn a λn=>bJ c (n.add 22) (.bool true) λo=>nn a λp=>bJ o (p.add 7) m λq=>k () q) (k () c))
theorem KL a b:E [.p] [] [(EB,On a),(be,qd b)] 67108865 [] f390=λx=>ul a b x:=bf
def ec:=ul jJ ae
abbrev um:bu:=cg ec
theorem KM:SS j7 (cg ec):=so func390 (.c PD (.c bq .z)) (KL jJ ae)
def yD(u:T40)(v:T1):T0:=λa w k=>drew w λd=>nn a λo=>aR d (o.add 12) λp3=>nn a λp=>aR d (p.add 0) λp5=>nn p5 λq=>aR d (q.add 7) λp7=>nn a λr=>aN .i64 d (r.add 1) λt=>u p3 p7 t d λb e=>nn a λf=>aR e (f.add 0) λp13=>v p13 (b.1,b.2).2 e λg c=>ap ((!g)&&(b.1,b.2).1) (nn a λh=>sX c (h.add 24) λi=>nn a λj=>bJ c (j.add 23) (.bool true) λl=>nn a λm=>bJ l (m.add 7) i λn=>k () n) (k () c)
theorem PE a b:E [.p] [] [(uP,Wp a),(be,qd b)] 4294967309 [] f392=λx=>yD a b x:=bf
def fS:=yD dw ae
abbrev yE:bu:=cg fS
theorem PF:SS mG (cg fS):=so func392 (.c Ft (.c bq .z)) (PE dw ae)
def uo(d:T75):T29:=λa b w k=>aR w a λp1=>aR w b λp2=>d p1 p2 w λ_u c=>k () c
theorem KN b:E [.a,.a] [] [(vK,aqt b)] 0 [] f351=λx=>uo b x.1 x.2:=bf
def cy:=uo c6
abbrev oC:bu:=JN cy
theorem BC:SS eJ (JN cy):=so func351 (.c DY .z) (KN c6)
def wN(cF:SN):T29:=λa b w k=>aR w a λp1=>sX w b λc=>cF p1 c w λ_u d=>k () d
theorem NE b:E [.a,.a] [] [(tH,ED b)] 0 [] f345=λx=>wN b x.1 x.2:=bf
def cL:=wN cF
abbrev pH:bu:=JN cL
theorem D1:SS fE (JN cL):=so func345 (.c zJ .z) (NE cF)
def Ai(c:T0)(i:T29)(j:T29):T0:=λa w k=>nn a λd=>aR w (d.add 4) λp2=>c p2 w λ_u b=>nn a λe=>sX b (e.add 24) λf=>mT (j4 [(uB,(cg c)),(eJ,(JN i)),(fE,(JN j))]) f #[] b λg h=>HM [] g fun(l:Unit)=>k () h
theorem Rz a b c:E [.p] [] [(uB,cg a),(eJ,JN b),(fE,JN c)] 1 [] f393=λx=>Ai a b c x:=bf
def gU:=Ai dZ cy cL
abbrev Aj:bu:=cg gU
theorem RA:SS m4 (cg gU):=so func393 (.c HE (.c BC (.c D1 .z))) (Rz dZ cy cL)
def iq:ZI:=λa w k=>aH w a 102 λf e=>bG 3 e f λb=>kE #[Iv 0,Iv 0,Iv 0,Iv 0,Iv 0,Iv 0,Iv 0,.nilFunc] 0 3 b λc=>aH e (eM c 6 (Iv (-1))) 346 λd g=>bJ g (d.add 7) (.func (.func uR) #[.pointer (some d)] #[]) λh=>k (some d) h
theorem NF:SS vL (JL iq):=sl 14 [] func380
def wO(h:T47):ZK:=λtX a b w k=>aH w tX 116 λe d=>bG 1 d e λc=>h c a b (-1) d λf g=>k f g
theorem NG a:E [.ag,.p,.i .i64] [.i .i64] [(xH,Zf a)] 78 [] f381=λx=>wO a x.1 x.2.1 x.2.2:=bf
def ir:=wO dF
theorem NH:SS vM (On ir):=so func381 (.c ET .z) (NG dF)
def vg(bi:Wm):T52:=λb c d w k=>drew w λa=>aR a b λp2=>aR a c λp3=>nn p3 λe=>aN .i64 a (e.add 0) λg=>sX a d λh=>bi p2 g h a λ_u i=>k () i
theorem LQ b:E [.a,.a,.a] [] [(oN,Li b)] 0 [] f368=λx=>vg b x.1 x.2.1 x.2.2:=bf
def fx:=vg bi
abbrev CE:bu:=Zh fx
theorem LR:SS oT (Zh fx):=so func368 (.c qS .z) (LQ bi)
def fy:T22:=λa w k=>aR w a λp1=>aR w a λp2=>nn p1 λb=>bJ w (b.add 7) (.func (.func lG) #[.pointer p2] #[]) λc=>k () c
abbrev CF:bu:=EE fy
theorem LS:SS oU (EE fy):=sl 0 [] func370
def vh(bi:Wm):T52:=λa b c w k=>aR w a λp1=>aN .i64 w b λe=>sX w c λf=>bi p1 e f w λ_u g=>k () g
theorem LU b:E [.a,.a,.a] [] [(oN,Li b)] 0 [] f387=λx=>vh b x.1 x.2.1 x.2.2:=bf
def fA:=vh bi
abbrev CG:bu:=Zh fA
theorem LV:SS oW (Zh fA):=so func387 (.c qS .z) (LU bi)
def fB:T22:=λa w k=>aR w a λp1=>aR w a λp2=>nn p1 λb=>bJ w (b.add 7) (.func (.func lD) #[.pointer p2] #[]) λc=>k () c
abbrev CH:bu:=EE fB
theorem LX:SS oS (EE fB):=sl 0 [] func334
def uq(d:T0)(e:T0):T22:=λa w k=>aR w a λp1=>d p1 w λ_u b=>aR b a λp3=>e p3 b λ_u c=>k () c
theorem KO b c:E [.a] [] [(zm,cg b),(vJ,cg c)] 1 [] f328=λx=>uq b c x:=bf
def eS:=uq dW dh
abbrev BD:bu:=EE eS
theorem KP:SS ot (EE eS):=so func328 (.c Gi (.c DS .z)) (KO dW dh)
def yF(iq:ZI)(dw:T40)(ae:T1)(ir:ZK)(bB:T0)(fx:T52)(fy:T22)(fA:T52)(fB:T22)(eS:T22):T0:=λa w k=>nn a λa1=>Ig w (a1.add 23) λb2=>ap b2 (nn a λa3=>aR w (a3.add 12) λp4=>cD (S:=Unit) (λJ5=>ap (ej p4) (nn a λa6=>aR w (a6.add 0) λp7=>nn p7 λa8=>bG 3 w (a8.add 14) λl=>iq l w λp10 m=>nn a λn=>bJ m (n.add 12) (.pointer p10) λo=>J5 () o) (J5 () w)) λb4 p=>drew p λc=>nn a λq=>aR c (q.add 12) λp18=>nn a λr=>aR c (r.add 0) λs=>nn s λt=>aR c (t.add 7) λu=>nn a λv=>aN .i64 c (v.add 1) λy=>dw p18 u y c λd e=>nn a λz=>aR e (z.add 0) λA=>ae A (d.1,d.2).2 e λB f=>ap ((!B)&&(d.1,d.2).1) (nn a λC=>bJ f (C.add 23) (.bool false) λD=>nn a λF=>bJ D (F.add 12) (.pointer none) λG=>k () G) (k () f)) (nn a λH=>Ig w (H.add 22) λI=>ap I (drew w λb=>nn a λg=>aR b (g.add 0) λJ=>nn a λL=>aR b (L.add 20) λM=>nn M λN=>bG 1 b (N.add 3) λh=>nn a λO=>aR b (O.add 0) λP=>nn P λQ=>aR b (Q.add 7) λR=>nn a λT=>aN .i64 b (T.add 1) λU=>ir h R U b λV i=>ai 1 (g.add 0) b i (ae J V i λW j=>ap (!W) (nn a λX=>bJ j (X.add 22) (.bool false) λY=>k () Y) (k () j))) (nn a λZ=>sX w (Z.add 25) λa0=>mT (j4 [(vL,(JL iq)),(uP,(Wp dw)),(be,(qd ae)),(vM,(On ir)),(jT,(cg bB)),(oT,(Zh fx)),(oU,(EE fy)),(oW,(Zh fA)),(oS,(EE fB)),(ot,(EE eS))]) a0 #[] w λa2 a4=>HM [] a2 fun(b5:Unit)=>k () a4))
theorem PG a b c d e f g h i j:E [.p] [] [(vL,JL a),(uP,Wp b),(be,qd c),(vM,On d),(jT,cg e),(oT,Zh f),(oU,EE g),(oW,Zh h),(oS,EE i),(ot,EE j)] 19807040665747802921957065229 [(4,[])] f366=λx=>yF a b c d e f g h i j x:=bf
def fT:=yF iq dw ae ir bB fx fy fA fB eS
abbrev yG:bu:=cg fT
theorem PI:SS mE (cg fT):=so func366 (.c NF (.c Ft (.c bq (.c NH (.c tq (.c LR (.c LS (.c LV (.c LX (.c KP .z)))))))))) (PG iq dw ae ir bB fx fy fA fB eS)
def uD(C:T53)(D:T64)(O:T0)(P:T0)(Q:T0)(R:T0)(T:T0)(U:T0)(V:T0)(W:T0)(X:T0)(Y:T0)(Z:T0)(gO:T0)(fM:T0)(fe:T0)(gP:T0)(gQ:T0)(fN:T0)(fO:T0)(ff:T0)(fg:T0)(gR:T0)(fP:T0)(iF:T0)(iG:T0)(gS:T0)(gT:T0)(fQ:T0)(fh:T0)(fj:T0)(eH:T0)(eI:T0)(ec:T0)(fS:T0)(gU:T0)(fT:T0)(cy:T29)(cL:T29):T1:=λa d w k=>cD (S:=Bool) (λB=>ap (decide (d<0)) (B true w) (nn a λF=>cE w (F.add 19) λG=>(B (decide (d≥((G.n:Nat):Int))) w))) λH h=>ap H (k false h) (nn a λI=>cE h (I.add 19) λJ=>cW J d 1 λL=>aR h L λp9=>cD (S:=Bool) (λf=>drew h λb=>nn a λi=>bG 3 b (i.add 14) λg=>nn a λj=>aR b (j.add 7) λp15=>nn p9 λl=>aN .i64 b (l.add 1) λm=>C g p15 m b λo c=>ap (!o) (f true c) (nn p9 λp=>aR c (p.add 4) λq=>nn a λr=>aR c (r.add 7) λs=>D q s c λt u=>f t u)) λv e=>ap v (k false e) (nn p9 λx=>sX e (x.add 7) λy=>mT (j4 [(sC,(abx C)),(qJ,(ahr D)),(kH,(cg O)),(kI,(cg P)),(mZ,(cg Q)),(lB,(cg R)),(mb,(cg T)),(mY,(cg U)),(lC,(cg V)),(lA,(cg W)),(mz,(cg X)),(fW,(cg Y)),(fV,(cg Z)),(kZ,(cg gO)),(mA,(cg fM)),(lE,(cg fe)),(je,(cg gP)),(k7,(cg gQ)),(mB,(cg fN)),(kz,(cg fO)),(lD,(cg ff)),(jW,(cg fg)),(k8,(cg gR)),(iK,(cg fP)),(nI,(cg iF)),(nJ,(cg iG)),(m0,(cg gS)),(m3,(cg gT)),(mD,(cg fQ)),(lG,(cg fh)),(lF,(cg fj)),(kJ,(cg eH)),(kK,(cg eI)),(j7,(cg ec)),(mG,(cg fS)),(m4,(cg gU)),(mE,(cg fT)),(eJ,(JN cy)),(fE,(JN cL))]) y #[] e λz A=>HM [] z fun(N:Unit)=>k true A))
theorem Ts a c d e f g h j l m n o q r s t u v y z A B C D F G H I J L M N O P Q R S T U:E [.p,.i .i64] [.b] [(sC,abx a),(qJ,ahr c),(kH,cg d),(kI,cg e),(mZ,cg f),(lB,cg g),(mb,cg h),(mY,cg j),(lC,cg l),(lA,cg m),(mz,cg n),(fW,cg o),(fV,cg q),(kZ,cg r),(mA,cg s),(lE,cg t),(je,cg u),(k7,cg v),(mB,cg y),(kz,cg z),(lD,cg A),(jW,cg B),(k8,cg C),(iK,cg D),(nI,cg F),(nJ,cg G),(m0,cg H),(m3,cg I),(mD,cg J),(lG,cg L),(lF,cg M),(kJ,cg N),(kK,cg O),(j7,cg P),(mG,cg Q),(m4,cg R),(mE,cg S),(eJ,JN T),(fE,JN U)] 281474976776243 [(1,[(16,.b)]),(5,[(48,.b)])] f57=λx=>uD a c d e f g h j l m n o q r s t u v y z A B C D F G H I J L M N O P Q R S T U x.1 x.2:=bf
def jy:=uD dA cP eE eF gK fa iD gL fb fc fL gM gN gO fM fe gP gQ fN fO ff fg gR fP iF iG gS gT fQ fh fj eH eI ec fS gU fT cy cL
theorem Tt:SS G9 (qd jy):=so func57 (.c IR (.c Gf (.c Lw (.c LA (.c Q2 (.c Nb (.c Td (.c Q4 (.c Nf (.c Nj (.c Pg (.c Q6 (.c Q8 (.c Ra (.c Pn (.c Nm (.c Rf (.c Ri (.c Pp (.c Pr (.c Ns (.c Nu (.c Rn (.c Pv (.c Tm (.c To (.c Rw (.c Ry (.c Py (.c NB (.c ND (.c LN (.c LP (.c KM (.c PF (.c RA (.c PI (.c BC (.c D1 .z))))))))))))))))))))))))))))))))))))))) (Ts dA cP eE eF gK fa iD gL fb fc fL gM gN gO fM fe gP gQ fN fO ff fg gR fP iF iG gS gT fQ fh fj eH eI ec fS gU fT cy cL)
def yH(bV:T24)(cN:T17)(bF:T13)(dx:T20):aq2:=fun h_0 w k=>px (j4 [(fD,(Qs bV)),(fG,(IK cN)),(dm,(Dt bF)),(iw,(Hp dx))]) Tryz.prog h_0 "Len" #[] w fun v1 w2=>xy .i64 v1 fun i3=>px (j4 [(fD,(Qs bV)),(fG,(IK cN)),(dm,(Dt bF)),(iw,(Hp dx))]) Tryz.prog h_0 "Swap" #[Iv 0,(Iv (IntKind.wrap .i64 (i3 - 1)))] w2 fun v4 w5=>HM [] v4 fun(u6:Unit)=>bV h_0 0 (IntKind.wrap .i64 (i3 - 1)) w5 fun b7 w8=>px (j4 [(fD,(Qs bV)),(fG,(IK cN)),(dm,(Dt bF)),(iw,(Hp dx))]) Tryz.prog h_0 "Pop" #[] w8 fun v9 w10=>k v9 w10
theorem PJ a b c d:E [.raw] [.raw] [(fD,Qs a),(fG,IK b),(dm,Dt c),(iw,Hp d)] 13 [] f151=λx=>yH a b c d x:=bf
def jK:=yH bV cN bF dx
theorem PK:SS Eu (aq3 jK):=so func151 (.c DZ (.c Fu (.c yS (.c LK .z)))) (PJ bV cN bF dx)
def wP(jK:aq2):aqY:=λb h w k=>ap (ej b) (k ((Sl.mk none 0 0),2) w) (cD (S:=Bool) (λN=>ap (decide (h<0)) (N true w) (nn b λO=>aN .i64 w (O.add 0) λP=>(N (decide (h>(aL .i64 (1099511627776 - P)))) w))) λQ m=>ap Q (k ((Sl.mk none 0 0),10) m) (nn b λR=>aN .i64 m (R.add 0) λT=>nn b λU=>bJ m (U.add 0) (Iv (aL .i64 (T+h))) λV=>jO (S:=Sl) (λo f p=>cD (S:=Bool) (λi=>drew p λe=>nn b λq=>cE e (q.add 1) λr=>ap (decide (((r.n:Nat):Int)>0)) (nn b λs=>cE e (s.add 1) λt=>cW t 0 2 λu=>aN .i64 e (u.add 0) λv=>nn b λx=>aN .i64 e (x.add 0) λy=>i (decide (v≤y)) e) (i false e)) λz g=>ap z (nn b λA=>cE g (A.add 1) λB=>cW B 0 2 λC=>aN .i64 g (C.add 1) λj=>nn b λD=>jK (.iface 261 (.pointer (some (D.add 1)))) g λW l=>nn b λF=>ldM l (F.add 2) λG=>agP Tryz.prog #[207,3] 0 [(.map G),Iv j] l λX H=>aH H #[Iv j] 3 λI J=>oh Tryz.prog #[69,69] 69 [.slice f.a f.n f.c,(.slice (some I) 1 1)] J λL M=>o L M) (k (f,0) g)) (Sl.mk none 0 0) V))
theorem NI a:E [.p,.i .i64] [.s,.i .i64] [(Eu,aq3 a)] 1125899906845171 [(5,[(11,.b)]),(11,[(6,.s)]),(12,[(50,.b)])] f97=λx=>wP a x.1 x.2:=bf
def jm:=wP jK
theorem NJ:SS Dg (aqZ jm):=so func97 (.c PK .z) (NI jK)
def Cm(I:T46)(y:T1)(eB:ZK):T44:=λa b w k=>nn a λz=>cE w (z.add 19) λx=>cD (S:=Unit) (λA=>jO (S:=Int) (λB g h=>ap (decide (g<((b.n:Nat):Int))) (cW b g 1 λC=>aN .i64 h C λD=>drew h λj=>nn a λl=>aR j (l.add 9) λp11=>nn a λm=>aR j (m.add 7) λp13=>I p11 p13 ((x.n:Nat):Int) D j λd o=>y a (d.1,d.2).2 o λF p=>B (aL .i64 (g+1)) p) (A () h)) 0 w) λG e=>ap (decide (((b.n:Nat):Int)>0)) (drew e λc=>nn a λq=>bG 1 c (q.add 12) λf=>nn a λr=>aR c (r.add 7) λs=>eB f s ((x.n:Nat):Int) c λt u=>y a t u λH v=>k () v) (k () e)
theorem U3 a b c:E [.p,.s] [] [(Di,Ze a),(be,qd b),(AU,On c)] 1099511873875 [(2,[]),(3,[(16,(.i .i64))])] f98=λx=>Cm a b c x.1 x.2:=bf
def fm:=Cm gy ae eB
theorem IU:SS B4 (aqi fm):=so func98 (.c JR (.c bq (.c HC .z))) (U3 gy ae eB)
def Bj(jm:aqY)(fm:T44):T1:=λa b w k=>nn a λe=>aR w (e.add 17) λp2=>jm p2 b w λc d=>ap ((c.1,c.2).2 !=0) (k false d) (fm a c.1 d λ_u f=>k true f)
theorem Tu a c:E [.p,.i .i64] [.b] [(Dg,aqZ a),(B4,aqi c)] 131187 [] f58=λx=>Bj a c x.1 x.2:=bf
def kU:=Bj jm fm
theorem Tv:SS He (qd kU):=so func58 (.c NJ (.c IU .z)) (Tu jm fm)
def nq:aqU:=λb d w k=>ap (ej b) (k 2 w) (nn b λg=>cE w (g.add 0) λh=>ap (decide (((d.n:Nat):Int)>(aL .i64 (1024 - ((h.n:Nat):Int))))) (k 20 w) (nn b λj=>cE w (j.add 0) λe=>oh Tryz.prog #[156,156] 156 [.slice e.a e.n e.c,.slice d.a d.n d.c] w λf l=>nn b λm=>bJ l (m.add 0) (.slice f.a f.n f.c) λo=>k 0 o))
theorem W4:SS JC (aqV nq):=sl 307 [] func59
def iM:T20:=λa w k=>aH w #[.pointer a] 94 λb c=>k (.func (.func mK) #[] #[.pointer (some b)]) c
abbrev Oq:bu:=Hp iM
theorem Ot:SS xd (Hp iM):=sl 6 [] func62
def de:T78:=λb w k=>aH w #[.slice b.a b.n b.c] 69 λd e=>k (.func (.func iU) #[] #[.pointer (some d)]) e
abbrev Gj:bu:=al8 de
theorem Gk:SS nN (al8 de):=sl 6 [] func102
def qf(Y:Nat→bu)(rQ:Value)(e:Addr)(w:World)(k:Unit→aq):Prop:= cE w e λs1=>jO (S:=Int) (λg b c=>ap (decide (b≥0)) (cE c e λh=>cW h b 1 λi=>aN .i64 c i λj=>mT (Js [] Y) rQ #[Iv b,Iv j] c λl f=>HL l λd=>ap (!d) (k () f) (g (aL .i64 (b - 1)) f)) (k () c)) (aL .i64 (((s1.n:Nat):Int) - 1)) w
theorem Em(Y:Nat→bu)(x:KT [.raw,.a])(w:World)(k:KT []→aq):Oa Tryz.prog (Js [] Y) 262411 [(2,[(3,(.i .i64))])] f155 [] (dz [.raw,.a] x) w k=qf Y x.1 x.2 w k:=bf
def nP(Y:Nat→bu)(rQ:Value)(a:Addr)(w:World)(k:Unit→aq):Prop:=qf Y rQ a w k
def iV(Y:Nat→bu):bu:=λargs w c=>qG [.raw,.a] args λx=>nP Y x.1 x.2 w λr w=>c (eW (dz [] r)) w
theorem En:V8 Tryz.prog iU iV:=λY hY=>
 Mu (mask:=262411) (h:=[(2,[(3,(.i .i64))])]) mixed func155 (VX (l:=[]) trivial hY)
 [.raw,.a] [] bf (λx w k=>nP Y x.1 x.2 w k) (λx w k=>Em Y x w k)
def D3(Y:Nat→bu)(I:Cw)(dk:T35)(de:T78)(rQ:Value)(q:Addr)(w:World)(k:Unit→aq):Prop:= aR w q λp1=>aH w #[Iv 0] 3 λa2 w3=>dk p1 (Sl.mk (some a2) 1 1) w3 λb4 w5=>ap (!b4) (k () w5) (aH w5 #[Iv 0] 3 λa6 w7=>aH w7 #[.slice none 0 0] 69 λf w9=>bJ w9 f (.slice (some a6) 1 1) λr=>jO (S:=(Unit×List Nat)) (λs h b=>cE b f λt=>ap (decide (((t.n:Nat):Int)>0)) (cE b f λu=>cE b f λv=>cW u (aL .i64 (((v.n:Nat):Int) - 1)) 1 λx=>aN .i64 b x λj=>cE b f λy=>cE b f λz=>SG y 1 0 (aL .i64 (((z.n:Nat):Int) - 1)) λl=>bJ b f (.slice l.a l.n l.c) λg=>aR g q λA=>nn A λB=>cE g (B.add 0) λC=>cW C j 3 λD=>aN .i64 g (D.add 0) λF=>mT (Js [(tu,(Ua dk)),(nN,(al8 de))] Y) rQ #[Iv j,Iv F] g λG e=>HL G λH=>ap (!H) (Is h.2 e λJ=>k () J) (aR e q λL=>nn L λM=>cE e (M.add 0) λN=>cW N j 3 λO=>cE e (O.add 2) λP=>de P e λQ R=>BM I [(.i .i64),(.i .i64)] Q R (fun(T:Int×Int) p U=>cE p f λm=>aH p #[Iv T.2] 3 λV W=>oh Tryz.prog #[69,69] 69 [.slice m.a m.n m.c,(.slice (some V) 1 1)] W λo X=>bJ X f (.slice o.a o.n o.c) λZ=>U Z) λD42 a0=>s ((),(D42::h.2)) a0)) (Is h.2 b λa1=>k () a1)) ((),[]) r)
theorem W5(Y:Nat→bu)(I:Cw)(dk:T35)(de:T78)(x:KT [.raw,.a])(w:World)(k:KT []→aq):UC Tryz.prog (Js [(tu,(Ua dk)),(nN,(al8 de))] Y) I 351981159859227 [(4,[]),(14,[(47,(.i .i64)),(48,(.i .i64))])] f100 [] (dz [.raw,.a] x) w k=D3 Y I dk de x.1 x.2 w k:=bf
def BQ(Y:Nat→bu)(rQ:Value)(a:Addr)(w:World)(k:Unit→aq):Prop:=D3 Y (Cy [(iU,iV)]) dk de rQ a w k
def mL(Y:Nat→bu):bu:=λargs w c=>qG [.raw,.a] args λx=>BQ Y x.1 x.2 w λr w=>c (eW (dz [] r)) w
theorem JS:V8 Tryz.prog mK mL:=λY hY=>
 Iu (mask:=351981159859227) (h:=[(4,[]),(14,[(47,(.i .i64)),(48,(.i .i64))])]) mixed func100 (VX (l:=[(tu,ZQ),(nN,Gj)]) ⟨GU,Gk,trivial⟩ hY) (K7 (l:=[(iU,iV)]) ⟨En,trivial⟩)
 [.raw,.a] [] bf (λx w k=>BQ Y x.1 x.2 w k) (λx w k=>W5 Y (Cy [(iU,iV)]) dk de x w k)
def D4(I:Cw)(iM:T20)(e:Option Addr)(w:World)(k:(Sl)→aq):Prop:= aH w #[.slice none 0 0] 69 λf s=>iM e s λt u=>BM I [(.i .i64),(.i .i64)] t u (fun(v:Int×Int) q x=>cE q f λb=>aH q #[Iv v.1] 3 λh j=>oh Tryz.prog #[69,69] 69 [.slice b.a b.n b.c,(.slice (some h) 1 1)] j λd l=>bJ l f (.slice d.a d.n d.c) λm=>x m) λD8 r=>cE r f λo=>Is [D8] r λp=>k o p
theorem W6(I:Cw)(iM:T20)(x:KT [.p])(w:World)(k:KT [.s]→aq):UC Tryz.prog (j4 [(xd,(Hp iM))]) I 205 [(4,[(7,(.i .i64)),(8,(.i .i64))])] f99 [.s] (dz [.p] x) w k=D4 I iM x w k:=bf
def fC:T5:=λa w k=>D4 (Cy [(mK,mL)]) iM a w k
abbrev W7:bu:=OE fC
theorem JT:uI Tryz.prog Dh W7:=
 Iu (mask:=205) (h:=[(4,[(7,(.i .i64)),(8,(.i .i64))])]) mixed func99 (Mr (l:=[(xd,Oq)]) ⟨Ot,trivial⟩) (K7 (l:=[(mK,mL)]) ⟨JS,trivial⟩)
 [.p] [.s] bf (λx w k=>fC x w k) (λx w k=>W6 (Cy [(mK,mL)]) iM x w k)
def yI(y:T5):T5:=λf w k=>aH w #[Iv 0] 3 λt r=>nn f λu=>aR r (u.add 8) λp4=>y p4 r λs v=>jO (S:=(Sl×Int)) (λx b e=>ap (decide (b.2<((s.n:Nat):Int))) (cW s b.2 1 λg=>aN .i64 e g λi=>nn f λj=>cE e (j.add 11) λl=>cW l i 1 λm=>aR e m λp15=>nn p15 λo=>cE e (o.add 25) λd=>oh Tryz.prog #[69,69] 69 [.slice b.1.a b.1.n b.1.c,.slice d.a d.n d.c] e λp q=>x (p,(aL .i64 (b.2+1))) q) (k b.1 e)) ((Sl.mk (some t) 1 1),0) v
theorem PL a:E [.p] [.s] [(Dh,OE a)] 30765 [(4,[(3,.s),(13,(.i .i64))])] f75=λx=>yI a x:=bf
def dG:=yI fC
theorem EU:SS xE (OE dG):=so func75 (.c JT .z) (PL fC)
def Bk(v:T5)(x:T44):T1:=λb a w k=>v b w λs1 p=>cD (S:=Bool) (λo=>drew p λd=>ap ((decide (a<0))||(decide (a≥((s1.n:Nat):Int)))) (o true d) (nn b λq=>cE d (q.add 10) λr=>cW s1 a 1 λs=>aN .i64 d s λt=>cW r t 4 λu=>Ig d (u.add 3) λf=>o f d)) λg c=>ap g (k false c) (cW s1 a 1 λh=>aN .i64 c h λi=>aH c #[Iv i] 3 λj l=>x b (Sl.mk (some j) 1 1) l λ_u m=>k true m)
theorem Tw a c:E [.p,.i .i64] [.b] [(xE,OE a),(B4,aqi c)] 268435507 [(2,[(28,.b)])] f60=λx=>Bk a c x.1 x.2:=bf
def kV:=Bk dG fm
theorem Tx:SS Hf (qd kV):=so func60 (.c EU (.c IU .z)) (Tw dG fm)
def yT(D:T1)(F:T1)(nq:aqU)(kV:T1):T16:=λa i w k=>aH w i 34 λe j=>cD (S:=Bool) (λy=>ap (ej a) (y true j) (nn a λz=>aN .i64 j (z.add 21) λA=>y (A !=0) j)) λB c=>ap B (k false c) (aN .i64 c (e.add 0) λh=>ap (h==0) (aN .i64 c (e.add 1) λC=>D a C c λl m=>k l m) (ap (h==1) (aN .i64 c (e.add 1) λn=>F a n c λo p=>k o p) (ap (h==2) (drew c λd=>nn a λf=>aR d (f.add 18) λp17=>aN .i64 d (e.add 1) λq=>aH d #[Iv q] 2 λr g=>ai 1 (f.add 18) d g (nq p17 (Sl.mk (some r) 1 1) g λs t=>k (s==0) t)) (ap (h==3) (aN .i64 c (e.add 1) λu=>kV a u c λv x=>k v x) (k false c)))))
theorem W8 a c d e:E [.p,.ag] [.b] [(G9,qd a),(He,qd c),(JC,aqV d),(Hf,qd e)] 550028550169 [(1,[(13,.b)])] f22=λx=>yT a c d e x.1 x.2:=bf
def eT:=yT jy kU nq kV
theorem JU:SS Dc (aqg eT):=so func22 (.c Tt (.c Tv (.c W4 (.c Tx .z)))) (W8 jy kU nq kV)
def wQ(cf:Wl)(cK:T3)(eT:T16):T48:=λb tY arz w k=>jO (S:=(Int×Int)) (λm f j=>cD (S:=Bool) (λg=>ap (decide (f.2<arz)) (cf b j λn l=>ap (!n) (cK b l λo p=>g (o==0) p) (g false l)) (g false j)) λq c=>ap q (jO (S:=(Int×Int)) (λh a d=>ap (decide (a.2<tY)) (eT b #[Iv 0,Iv a.2] d λr i=>h ((aL .i64 (a.1+1)),(aL .i64 (a.2+1))) i) (m (a.1,(aL .i64 (f.2+1))) d)) (f.1,0) c) (k f.1 c)) (0,0) w
theorem NK a c d:E [.p,.i .i64,.i .i64] [.i .i64] [(tD,Lh a),(vC,y6 c),(Dc,aqg d)] 138412999 [(4,[(7,(.i .i64)),(8,(.i .i64))]),(5,[(22,.b)]),(10,[(7,(.i .i64)),(9,(.i .i64))])] f28=λx=>wQ a c d x.1 x.2.1 x.2.2:=bf
def iu:=wQ cf cK eT
theorem NL:SS Dd (al1 iu):=so func28 (.c zA (.c Cf (.c JU .z))) (NK cf cK eT)
def Bl(s:T5):T5:=λc w k=>nn c λo=>cE w (o.add 11) λi=>AH Tryz.prog 69 (Iv ((i.n:Nat):Int)) (Iv ((i.n:Nat):Int)) w λj l=>nn c λp=>aR l (p.add 8) λp6=>s p6 l λm q=>jO (S:=Int) (λr a b=>ap (decide (a<((m.n:Nat):Int))) (cW m a 1 λd=>aN .i64 b d λf=>cW j f 1 λg=>bJ b g (Iv a) λh=>r (aL .i64 (a+1)) h) (k j b)) 0 q
theorem Tz a:E [.p] [.s] [(Dh,OE a)] 983101 [(4,[(18,(.i .i64))])] f61=λx=>Bl a x:=bf
def cH:=Bl fC
abbrev TA:bu:=OE cH
theorem Bm:SS rH (OE cH):=so func61 (.c JT .z) (Tz fC)
def tN(I:Cw)(cH:T5)(iM:T20)(di:T81)(W:Option Addr)(w:World)(k:(Sl)→aq):Prop:= aH w #[.pointer W] 30 λs V=>aR V s λp3=>ap (ej p3) (k (Sl.mk none 0 0) V) (aR V s λp4=>cH p4 V λX w6=>aH w6 #[.slice none 0 0] 69 λD w8=>bJ w8 D (.slice X.a X.n X.c) λw9=>cE w9 D λF=>AH Tryz.prog 35 (Iv ((F.n:Nat):Int)) (Iv ((F.n:Nat):Int)) w9 λt Y=>aH Y #[.slice none 0 0] 35 λo Z=>bJ Z o (.slice t.a t.n t.c) λu=>aR u s λp16=>nn p16 λa0=>aR u (a0.add 8) λp18=>iM p18 u λa2 a3=>BM I [(.i .i64),(.i .i64)] a2 a3 (fun(h:Int×Int) p G=>aR p s λa4=>nn a4 λa5=>cE p (a5.add 11) λa6=>cW a6 h.1 1 λa8=>aR p a8 λj=>drew p λq=>nn j λa9=>bG 1 q (a9.add 3) λH=>aR q s λb0=>nn b0 λb1=>aR q (b1.add 7) λb2=>di H b2 q λd b3=>cD (S:=Addr) (λJ=>drew b3 λb=>aR b s λb4=>nn b4 λv=>cE b (v.add 10) λb5=>nn j λx=>aN .i64 b (x.add 1) λb6=>cW b5 b6 4 λy=>aN .i64 b (y.add 1) λL=>nn j λz=>aN .i64 b (aX (z.add 4) 0) λM=>nn j λA=>aN .i64 b (aX (A.add 4) 18) λN=>nn j λB=>PV b (B.add 23) λO=>both (aH b #[Iv 0,Iv 0,Iv 0,Iv 0,Iv 0,Iv 0,(.string (ByteArray.mk #[]))] 49 λP f=>ai 1 (B.add 23) b f (ai 1 (aX (A.add 4) 18) b f (ai 1 (aX (z.add 4) 0) b f (ai 1 (y.add 1) b f (ai 1 (x.add 1) b f (ai 1 (v.add 10) b f (ai 1 s b f (dK 7 f P #[(Iv (-1)),Iv L,Iv M,(Iv (d.1,(d.2.1,d.2.2)).1),(Iv (d.1,(d.2.1,d.2.2)).2.1),Iv N,(.string O)] λb7=>J P b7)))))))) (aH b #[Iv 0,Iv 0,Iv 0,Iv 0,Iv 0,Iv 0,(.string (ByteArray.mk #[]))] 49 λQ g=>ai 1 (B.add 23) b g (ai 1 (aX (A.add 4) 18) b g (ai 1 (aX (z.add 4) 0) b g (ai 1 (y.add 1) b g (ai 1 (x.add 1) b g (ai 1 (v.add 10) b g (ai 1 s b g (dK 7 g Q #[(Iv (-1)),Iv L,Iv M,(Iv (d.1,(d.2.1,d.2.2)).1),(Iv (d.1,(d.2.1,d.2.2)).2.1),Iv N,(.string O)] λb8=>J Q b8))))))))) λC r=>ap (decide (h.2≥0)) (cE r D λb9=>cW b9 h.2 1 λc0=>aN .i64 r c0 λe=>bJ r (C.add 0) (Iv e) λc1=>drew c1 λl=>cE l o λc2=>cE l D λc3=>cW c3 h.1 1 λc4=>aN .i64 l c4 λc5=>bG 7 l C λR=>cW c2 c5 7 λc6=>dK 7 l c6 R λc7=>G c7) (drew r λm=>cE m o λc8=>cE m D λc9=>cW c9 h.1 1 λd0=>aN .i64 m d0 λd1=>bG 7 m C λT=>cW c8 d1 7 λd2=>dK 7 m d2 T λd3=>G d3)) λD24 U=>cE U o λd4=>Is [D24] U λd5=>k d4 d5)
theorem RB(I:Cw)(cH:T5)(iM:T20)(di:T81)(x:KT [.p])(w:World)(k:KT [.s]→aq):UC Tryz.prog (j4 [(rH,(OE cH)),(xd,(Hp iM)),(sP,(al9 di))]) I 37778931862957220441086 [(8,[(24,(.i .i64)),(25,(.i .i64))]),(14,[(11,.a)])] f23 [.s] (dz [.p] x) w k=tN I cH iM di x w k:=bf
def cV:T5:=λa w k=>tN (Cy [(mK,mL)]) cH iM di a w k
abbrev RC:bu:=OE cV
theorem Gn:uI Tryz.prog zh RC:=
 Iu (mask:=37778931862957220441086) (h:=[(8,[(24,(.i .i64)),(25,(.i .i64))]),(14,[(11,.a)])]) mixed func23 (Mr (l:=[(rH,TA),(xd,Oq),(sP,OV)]) ⟨Bm,Ot,EL,trivial⟩) (K7 (l:=[(mK,mL)]) ⟨JS,trivial⟩)
 [.p] [.s] bf (λx w k=>cV x w k) (λx w k=>RB (Cy [(mK,mL)]) cH iM di x w k)
def kg:T23:=λa b w k=>ap (((a.n:Nat):Int) !=((b.n:Nat):Int)) (k false w) (jO (S:=Int) (λh c g=>ap (decide (c<((a.n:Nat):Int))) (drew g λd=>cW a c 7 λi=>bG 7 d i λe=>cW b c 7 λj=>bG 7 d j λf=>ZC ([(0,0)] ++([(1,0)] ++([(2,0)] ++([(3,0)] ++([(4,0)] ++([(5,0)] ++([(6,2)] ++[]))))))) e f λl=>ap (!l) (k false d) (h (aL .i64 (c+1)) d)) (k true g)) 0 w)
theorem RD:SS FV (aym kg):=sl 33571891 [(6,[(5,(.i .i64))])] func33
def yJ(R:T54)(T:T37)(Z:T38)(iu:T48)(cf:Wl)(cK:T3)(cV:T5)(kg:T23)(w:World)(k:(Bool)→aq):Prop:= kE Jg 0 5 #[Iv 16,Iv 0,Iv 0,Iv 0,Iv 0] λx=>aH w x 75 λU V=>aH V #[Iv 0,.slice none 0 0] 78 λf W=>dK 2 W f #[Iv 0,(.slice (some U) 1 1)] λX=>cD (S:=((Option Addr)×Int)) (λy=>drew X λe=>bG 2 e f λg=>both (kE #[Iv 0,.slice none 0 0] 0 2 g λh=>aH e h 78 λi j=>both (R 1 0 j λl m=>ai 2 f e m (T #[(.slice (some i) 1 1)] l m λb z=>y ((b.1,b.2).1,(b.1,b.2).2) z)) (R 1 0 j λn o=>ai 2 f e o (T #[(.slice (some i) 1 1)] n o λc A=>y ((c.1,c.2).1,(c.1,c.2).2) A))) (R 1 0 e λp q=>ai 2 f e q (kE #[Iv 0,.slice none 0 0] 0 2 g λr=>aH q r 78 λB C=>T #[(.slice (some B) 1 1)] p C λd D=>y ((d.1,d.2).1,(d.1,d.2).2) D))) λa s=>ap ((a.2 !=0)||(ej a.1)) (k false s) (Z 1 1 1 s λF G=>iu a.1 1 F G λY H=>cf a.1 H λI t=>ap I (cK a.1 t λJ u=>ap (J==0) (cV a.1 u λL M=>kE #[Iv 0,Iv 0,Iv 0,Iv 0,Iv 0,Iv 0,(.string (ByteArray.mk #[]))] 0 7 #[(Iv (-1)),Iv 0,Iv 0,Iv 2,Iv 0,Iv 1,(.string (ByteArray.mk #[]))] λv=>aH M v 49 λN O=>kg L (Sl.mk (some N) 1 1) O λP Q=>k P Q) (k false u)) (k false t))
theorem PM a c d e f g h j:E [] [.b] [(Es,ayp a),(Wc,ayn c),(Qp,ayo d),(Dd,al1 e),(tD,Lh f),(vC,y6 g),(zh,OE h),(FV,aym j)] 1048591 [(2,[(2,.p),(3,(.i .i64))])] f20=λx=>yJ a c d e f g h j:=bf
def jL:=yJ gV pG rT iu cf cK cV kg
theorem PN:SS Ep (arv jL):=so func20 (.c OF (.c afR (.c abD (.c NL (.c zA (.c Cf (.c Gn (.c RD .z)))))))) (PM gV pG rT iu cf cK cV kg)
def Bn(e:T3):T3:=λa w k=>ap (ej a) (k 0 w) (nn a λb=>aR w (b.add 7) λp2=>e p2 w λc d=>k c d)
theorem TB a:E [.p] [.i .i64] [(xC,y6 a)] 21 [] f30=λx=>Bn a x:=bf
def kW:=Bn dB
theorem TC:SS G8 (y6 kW):=so func30 (.c EM .z) (TB dB)
def IW(v:T6)(o:T9):T40:=λa b c w k=>v a b c w λp m=>ap (p !=0) (k (false,0) m) (drew m λd=>nn a λq=>cE d (q.add 0) λr=>cW r c 3 λs=>aN .i64 d (s.add 2) λt=>nn a λn=>cE d (n.add 0) λu=>cW u c 3 λg=>aN .i64 d (g.add 2) λh=>o b t d λi e=>ai 1 (g.add 2) d e (ai 1 (n.add 0) d e (o b (aL .i64 (h+1)) e λj l=>k ((i !=0),j) l)))
theorem U4 a c:E [.p,.p,.i .i64] [.b,.i .i64] [(nO,qY a),(nU,vt c)] 4295 [] f76=λx=>IW a c x.1 x.2.1 x.2.2:=bf
def o3:=IW bg aZ
theorem U5:SS IC (Wp o3):=so func76 (.c pF (.c qo .z)) (U4 bg aZ)
def yK(Z:T5)(dG:T5)(o3:T40):T5:=λb w k=>ap (ej b) (k (Sl.mk none 0 0) w) (Z b w λs1 U=>dG b U λR V=>jO (S:=(Sl×Int)) (λW i m=>ap (decide (i.2<((R.n:Nat):Int))) (cW R i.2 1 λX=>aN .i64 m X λT=>nn b λt=>cE m (t.add 10) λu=>cW u T 4 λv=>bG 4 m v λo=>aH m #[Iv 0,Iv 0,Iv 0,.bool false] 125 λe x=>dK 4 x e o λy=>drew y λj=>nn b λz=>aR j (z.add 9) λp19=>nn b λA=>aR j (A.add 7) λB=>o3 p19 B T j λg h=>aN .i64 h (e.add 1) λC=>aN .i64 h (e.add 2) λD=>Ig h (e.add 3) λF=>aH h #[Iv 0,Iv 0,Iv 0,.bool false,.bool false,Iv 0] 63 λl G=>dK 6 G l #[(Iv (-1)),Iv C,Iv D,(.bool (g.1,g.2).1),.bool F,(Iv (g.1,g.2).2)] λf=>aN .i64 f (e.add 0) λH=>cD (S:=Unit) (λp=>ap (decide (H≥0)) (aN .i64 f (e.add 0) λI=>cW s1 I 1 λJ=>aN .i64 f J λL=>bJ f (l.add 0) (Iv L) λM=>p () M) (p () f)) λY q=>bG 6 q l λr=>kE #[Iv 0,Iv 0,Iv 0,.bool false,.bool false,Iv 0] 0 6 r λs=>aH q s 63 λN O=>oh Tryz.prog #[60,60] 60 [.slice i.1.a i.1.n i.1.c,(.slice (some N) 1 1)] O λP Q=>W (P,(aL .i64 (i.2+1))) Q) (k i.1 m)) ((Sl.mk none 0 0),0) V)
theorem PO a b c:E [.p] [.s] [(rH,OE a),(xE,OE b),(IC,Wp c)] 9007199255730141 [(8,[(4,.s),(18,(.i .i64))]),(17,[])] f40=λx=>yK a b c x:=bf
def jM:=yK cH dG o3
theorem PP:SS Er (OE jM):=so func40 (.c Bm (.c EU (.c U5 .z))) (PO cH dG o3)
def HF(bS:T7)(y:T9)(qR:T92)(bj:T7)(aD:T7)(cu:T7)(bl:T30):aqW:=λz d w k=>aH w z 144 λm A=>ap (ej d) (k (Sl.mk none 0 0) A) (bG 2 A m λB=>bS B A λZ w5=>y d Z w5 λi6 w7=>qR i6 w7 λx w9=>aH w9 #[Iv 0,Iv 0] 241 λh C=>dK 2 C h (x.1,x.2).1 λD=>drew D λe=>bG 2 e m λo=>bG 2 e m λp=>bj o e λF q=>ai 2 m e q (y d F q λf r=>ai 2 m e r (aD p r λG H=>y d G H λg i=>cD (S:=Bool) (λs=>ap (((x.1,x.2).2 !=0)||(decide (g≤f))) (s true i) (bG 2 i h λt=>cu t i λI J=>(s (decide ((aL .u64 ((aL .u64 g) - (aL .u64 f)))>(aL .u64 I))) J))) λL u=>ap L (k (Sl.mk none 0 0) u) (AH Tryz.prog 156 (Iv 0) (Iv (aL .i64 (g - f))) u λN O=>jO (S:=(Sl×Int)) (λP b l=>ap (decide (b.2<g)) (bG 2 l h λv=>bl v b.2 l λQ R=>y d Q R λT U=>aH U #[Iv T] 2 λV W=>oh Tryz.prog #[156,156] 156 [.slice b.1.a b.1.n b.1.c,(.slice (some V) 1 1)] W λX Y=>P (X,(aL .i64 (b.2+1))) Y) (k b.1 l)) (N,f) O))))
theorem TD a c d e f g h:E [.ag,.p] [.s] [(rJ,xI a),(nU,vt c),(UF,aqA d),(oK,xI e),(jC,xI f),(tE,xI g),(oL,abp h)] 18084767253665782 [(6,[(46,.b)]),(12,[(9,.s),(10,(.i .i64))])] f80=λx=>HF a c d e f g h x.1 x.2:=bf
def nQ:=HF bS aZ qR bj aD cu bl
theorem TE:SS Hg (aqX nQ):=so func80 (.c uC (.c qo (.c abA (.c qz (.c kA (.c yR (.c qA .z))))))) (TD bS aZ qR bj aD cu bl)
def wR(cH:T5)(dA:T53)(cP:T64)(nQ:aqW):T5:=λd w k=>ap (ej d) (k (Sl.mk none 0 0) w) (cH d w λs1 w2=>nn d λa3=>cE w2 (a3.add 19) λs4=>jO (S:=(Sl×Int)) (λC5 x w7=>ap (decide (x.2<((s4.n:Nat):Int))) (cW s4 x.2 1 λa8=>aR w7 a8 λp9=>cD (S:=Addr) (λs=>drew w7 λb=>nn d λo=>bG 3 b (o.add 14) λv=>nn d λp=>aR b (p.add 7) λp15=>nn p9 λq=>aN .i64 b (q.add 1) λM=>nn p9 λf=>aR b (f.add 4) λp19=>nn d λg=>aR b (g.add 7) λy=>both (dA v p15 M b λz t=>ai 1 (g.add 7) b t (ai 1 (f.add 4) b t (both (cP p19 y t λN O=>both (aH O #[.bool false,.bool false,.slice none 0 0,.slice none 0 0] 71 λP i=>ai 1 (g.add 7) b i (ai 1 (f.add 4) b i (ai 1 (q.add 1) b i (ai 1 (p.add 7) b i (ai 3 (o.add 14) b i (dK 4 i P #[.bool z,.bool N,.slice none 0 0,.slice none 0 0] λa5=>s P a5)))))) (aH O #[.bool false,.bool false,.slice none 0 0,.slice none 0 0] 71 λQ j=>ai 1 (g.add 7) b j (ai 1 (f.add 4) b j (ai 1 (q.add 1) b j (ai 1 (p.add 7) b j (ai 3 (o.add 14) b j (dK 4 j Q #[.bool z,.bool N,.slice none 0 0,.slice none 0 0] λa6=>s Q a6))))))) (aH t #[.bool false,.bool false,.slice none 0 0,.slice none 0 0] 71 λR l=>ai 1 (g.add 7) b l (ai 1 (f.add 4) b l (ai 1 (q.add 1) b l (ai 1 (p.add 7) b l (ai 3 (o.add 14) b l (cP p19 y l λa7 a9=>dK 4 a9 R #[.bool z,.bool a7,.slice none 0 0,.slice none 0 0] λb0=>s R b0))))))))) (aH b #[.bool false,.bool false,.slice none 0 0,.slice none 0 0] 71 λT m=>ai 1 (g.add 7) b m (ai 1 (f.add 4) b m (ai 1 (q.add 1) b m (ai 1 (p.add 7) b m (ai 3 (o.add 14) b m (dA v p15 M m λb1 A=>ai 1 (g.add 7) b A (ai 1 (f.add 4) b A (cP p19 y A λb2 b3=>dK 4 b3 T #[.bool b1,.bool b2,.slice none 0 0,.slice none 0 0] λb4=>s T b4))))))))) λh U=>nn p9 λb5=>cE U (b5.add 5) λV=>cD (S:=Unit) (λb6=>jO (S:=Int) (λb7 B C=>ap (decide (B<((V.n:Nat):Int))) (cW V B 1 λb8=>aR C b8 λb9=>drew C λr=>cE r (h.add 2) λD=>nn b9 λc0=>aN .i64 r (c0.add 0) λc1=>cW s1 c1 1 λc2=>aN .i64 r c2 λc3=>aH r #[Iv c3] 3 λc4 W=>ai 1 (h.add 2) r W (oh Tryz.prog #[69,69] 69 [.slice D.a D.n D.c,(.slice (some c4) 1 1)] W λF c5=>bJ c5 (h.add 2) (.slice F.a F.n F.c) λc6=>b7 (aL .i64 (B+1)) c6)) (b6 () C)) 0 U) λf2 c7=>drew c7 λG=>nn p9 λc8=>bG 2 G (c8.add 2) λX=>nn d λc9=>aR G (c9.add 7) λd0=>nQ X d0 G λY d1=>cD (S:=Unit) (λd2=>jO (S:=Int) (λd3 H I=>ap (decide (H<((Y.n:Nat):Int))) (cW Y H 1 λd4=>aN .i64 I d4 λd5=>drew I λu=>cE u (h.add 3) λJ=>cW s1 d5 1 λd6=>aN .i64 u d6 λd7=>aH u #[Iv d7] 3 λd8 Z=>ai 1 (h.add 3) u Z (oh Tryz.prog #[69,69] 69 [.slice J.a J.n J.c,(.slice (some d8) 1 1)] Z λL d9=>bJ d9 (h.add 3) (.slice L.a L.n L.c) λe0=>d3 (aL .i64 (H+1)) e0)) (d2 () I)) 0 d1) λf3 a0=>bG 4 a0 h λa1=>kE #[.bool false,.bool false,.slice none 0 0,.slice none 0 0] 0 4 a1 λa2=>aH a0 a2 71 λe1 e2=>oh Tryz.prog #[67,67] 67 [.slice x.1.a x.1.n x.1.c,(.slice (some e1) 1 1)] e2 λe3 e4=>C5 (e3,(aL .i64 (x.2+1))) e4) (k x.1 w7)) ((Sl.mk none 0 0),0) w2)
theorem NM b c d e:E [.p] [.s] [(rH,OE b),(sC,abx c),(qJ,ahr d),(Hg,aqX e)] 4533471857331856618302173 [(8,[(4,.s),(21,(.i .i64))]),(13,[(7,.a)]),(15,[]),(16,[(53,(.i .i64))]),(24,[]),(25,[(80,(.i .i64))])] f44=λx=>wR b c d e x:=bf
def jo:=wR cH dA cP nQ
theorem NN:SS De (OE jo):=so func44 (.c Bm (.c IR (.c Gf (.c TE .z)))) (NM cH dA cP nQ)
def mM:T3:=λa w k=>ap (ej a) (k 0 w) (drew w λc=>nn a λd=>aN .i64 c (aX (d.add 1) 3) λe=>nn a λf=>aN .i64 c (f.add 20) λg=>k (aL .i64 (e - g)) c)
theorem TF:SS G7 (y6 mM):=sl 21 [] func29
def o4:T3:=λa w k=>nn a λc=>cE w (c.add 19) λd=>G6 .i64 1 ((d.n:Nat):Int) λe=>k (aL .i64 (e - 1)) w
theorem U6:SS ID (y6 o4):=sl 5 [] func82
def D5(n:T1):T9:=λa b w k=>cD (S:=Bool) (λd=>ap (ej a) (d true w) (n a b w λe f=>d (!e) f)) λg c=>ap g (k 0 c) (nn a λh=>cE c (h.add 2) λi=>cW i b 1 λj=>aN .i64 c j λm=>k m c)
theorem NO a:E [.p,.i .i64] [.i .i64] [(q8,qd a)] 4115 [(1,[(12,.b)])] f83=λx=>D5 a x.1 x.2:=bf
def lm:=D5 cS
theorem NP:SS Df (vt lm):=so func83 (.c Cz .z) (NO cS)
def Cn(n:T3)(o:T59)(p:T9):T9:=λa b w k=>cD (S:=Bool) (λf=>ap (ej a) (f true w) (n a w λg h=>o g b h λi j=>f (!i) j)) λl c=>ap l (k 0 c) (nn a λm=>aR c (m.add 7) λp9=>p p9 b c λd e=>k d e)
theorem U7 a c d:E [.p,.i .i64] [.i .i64] [(ID,y6 a),(JD,al2 c),(Df,vt d)] 8211 [(1,[(13,.b)])] f47=λx=>Cn a c d x.1 x.2:=bf
def l8:=Cn o4 ko lm
theorem U8:SS IA (vt l8):=so func47 (.c U6 (.c QM (.c NP .z))) (U7 o4 ko lm)
def o5:T3:=λa w k=>ap (ej a) (k 0 w) (nn a λb=>aN .i64 w (b.add 0) λd=>k d w)
theorem U9:SS IE (y6 o5):=sl 21 [] func86
def Co(e:T3):T3:=λa w k=>ap (ej a) (k 0 w) (nn a λb=>aR w (b.add 17) λp2=>e p2 w λc d=>k c d)
theorem Va a:E [.p] [.i .i64] [(IE,y6 a)] 21 [] f51=λx=>Co a x:=bf
def l9:=Co o5
theorem Vb:SS IB (y6 l9):=so func51 (.c U9 .z) (Va o5)
def ur(D:T16)(cf:Wl)(cK:T3)(cV:T5)(jM:T5)(jo:T5)(mM:T3)(kW:T3)(l8:T9)(l9:T3)(jL:World→((Bool)→aq)→Prop)(cY:Array Value)(w:World)(k:(Bool)→aq):Prop:= aH w cY 34 λz u=>bG 2 u z λd=>D none d u λA v=>ap (!A) (cf none v λB x=>ap (!B) (cK none x λC y=>ap (C==2) (cV none y λe f=>jM none f λg h=>jo none h λi j=>mM none j λl m=>kW none m λo p=>l8 none 0 p λq b=>ap ((aL .i64 ((aL .i64 ((aL .i64 ((aL .i64 ((aL .i64 (((e.n:Nat):Int)+((g.n:Nat):Int)))+((i.n:Nat):Int)))+l))+o))+q))==0) (l9 none b λr c=>ap (r==0) (jL c λs t=>k s t) (k false c)) (k false b)) (k false y)) (k false x)) (k false v)
theorem KQ a c d e f g h i j l m:E [.ag] [.b] [(Dc,aqg a),(tD,Lh c),(vC,y6 d),(zh,OE e),(Er,OE f),(De,OE g),(G7,y6 h),(G8,y6 i),(IA,vt j),(IB,y6 l),(Ep,arv m)] 14 [] f13=λx=>ur a c d e f g h i j l m x:=bf
def rU:=ur eT cf cK cV jM jo mM kW l8 l9 jL
theorem KR:SS Kl (OD rU):=so func13 (.c JU (.c zA (.c Cf (.c Gn (.c PP (.c NN (.c TF (.c TC (.c U8 (.c Vb (.c PN .z))))))))))) (KQ eT cf cK cV jM jo mM kW l8 l9 jL)
end Go.Proofs.YthidhjhkmjjckaaGreatDoor
namespace Go.Proofs.YthidhjhkmjjckaaGreatDoor
open Go Go.Ev Go.Proofs
structure bO where
 cells:List Int
 size:Int
 steps:List Int
 deriving DecidableEq
def bN(g:Nat)(M:bO):HP:=FT λp:Sl×Sl=>mr [ax g [.slice p.1.a p.1.n p.1.c,.int .i64 M.size,.slice p.2.a p.2.n p.2.c],bQ 1 p.1 (ints M.cells),bQ 1 p.2 (ints M.steps)]
theorem wS{w0 w:World}{R:List HP}{g:Nat}{M:bO}(h:St w0 w (bN g M::R)):∃s1 s2:Sl,St w0 w (ax g [.slice s1.a s1.n s1.c,.int .i64 M.size,.slice s2.a s2.n s2.c]::bQ 1 s1 (ints M.cells)::bQ 1 s2 (ints M.steps)::R):=by
 obtain⟨p,h⟩:=h.some;exact⟨p.1,p.2,h.open⟩
theorem Cq{w0 w:World}{R:List HP}{g:Nat}{M:bO}{s1 s2:Sl}(h:St w0 w (ax g [.slice s1.a s1.n s1.c,.int .i64 M.size,.slice s2.a s2.n s2.c]::bQ 1 s1 (ints M.cells)::bQ 1 s2 (ints M.steps)::R)):St w0 w (bN g M::R):=
 St.ex (X:=λp:Sl×Sl=>mr [ax g [.slice p.1.a p.1.n p.1.c,.int .i64 M.size,.slice p.2.a p.2.n p.2.c],bQ 1 p.1 (ints M.cells),bQ 1 p.2 (ints M.steps)]) (s1,s2) (St.shut h)
namespace bO
def caller(M:bO)(w:Int):Bool:=decide (0≤w∧w<M.steps.length)
def given(M:bO)(at_:Int):Bool:=decide (0≤at_∧at_<M.cells.length)
def tick(M:bO)(w:Int):bO:={M with steps:=M.steps.set w.toNat (IntKind.i64.wrap (M.steps.getD w.toNat 0+1))}
def get(M:bO)(at_:Int):Int:=M.cells.getD at_.toNat 0
def put(M:bO)(at_ x:Int):bO:={M with cells:=M.cells.set at_.toNat x}
def can(M:bO)(w at_:Int):Bool:=M.caller w&&M.given at_
end bO
section
variable {w0 w:World} {L:List HP} {g:Nat} {M:bO} {f:HP→List HP}
theorem afU{s:Sl}{xs:List Int}{f':HP→List HP}(h:St w0 w L)[a:At L (bQ 1 s) (ints xs) f']:s.n=xs.length:=by
 have:=h.FR (sz:=1) (s:=s) (vs:=ints xs);simp at this;omega
theorem anJ{wk:Int}{k:Bool→aq}(h:St w0 w L)[a:At L (bN g) M f](hk:k (M.caller wk) w):cS (some ⟨g,0,none⟩) wk w k:=by
 obtain⟨R,ho,hc⟩:=a.out;obtain⟨s1,s2,hS⟩:=wS (ho h);have l2:=afU (s:=s2) (xs:=M.steps) hS;unfold cS;unfold bO.caller at hk;refine aF (λh=>an (eu hS rfl ?_)) λh=> ?_
 ·simp only[decide_eq_true_eq]at h;rw[show(decide (wk<((s2.n:Nat):Int)))=decide (0≤wk∧wk<M.steps.length) by rw[l2,decide_eq_decide];omega]
  exact hk
 ·simp only[decide_eq_false_iff_not]at h;rwa[decide_eq_false ah]at hk
theorem ahz{at_:Int}{k:Bool→aq}(h:St w0 w L)[a:At L (bN g) M f](hk:k (M.given at_) w):cZ (some ⟨g,0,none⟩) at_ w k:=by
 obtain⟨R,ho,hc⟩:=a.out;obtain⟨s1,s2,hS⟩:=wS (ho h);have l1:=afU (s:=s1) (xs:=M.cells) hS;unfold cZ;unfold bO.given at hk;refine aF (λh=>an (eu hS rfl ?_)) λh=> ?_
 ·simp only[decide_eq_true_eq]at h;rw[show(decide (at_<((s1.n:Nat):Int)))=decide (0≤at_∧at_<M.cells.length) by rw[l1,decide_eq_decide];omega]
  exact hk
 ·simp only[decide_eq_false_iff_not]at h;rwa[decide_eq_false ah]at hk
theorem RE{wk n:Int}{right:Value}{b:Bool}{k:Int→aq}(h:St w0 w L)[a:At L (bN g) M f]
  (hr:(right= .func (.func iY) #[.pointer (some ⟨g,0,none⟩)] #[]∧b=M.given n)∨(right= .func (.func Bu) #[] #[]∧b=decide (n≥1)))
  (hk:k (if M.caller wk&&b then 0 else 10) w):aQ (some ⟨g,0,none⟩) wk n right w k:=by
 unfold aQ vN;refine bU (λy w'=>w=w'∧y= !(M.caller wk&&b)) ?_ ?_
 ·intro J hJ;refine anJ h (aF (λh1=>hJ _ _ ⟨rfl,?_⟩) λh1=> ?_)
  ·simp only[Bool.not_eq_true']at h1;simp[h1]
  ·simp only[Bool.not_eq_false']at h1;rcases hr with⟨rfl,rfl⟩|⟨rfl,rfl⟩
   ·refine bX (d:=Dx) (λ_ _ _=>rfl) ?_;simp only[Dx,List.append_toArray,List.cons_append,List.nil_append,List.append_nil,qG,ZB,toP,xy,if_true,eW,dz,K.v,HL];refine ahz (M:=M) h (hJ _ _ ⟨rfl,?_⟩);simp[h1]
   ·refine bX (d:=Ud) (λ_ _ _=>rfl) ?_;simp only[Ud,r6,List.append_toArray,List.cons_append,List.nil_append,List.append_nil,qG,ZB,toP,xy,if_true,eW,dz,K.v,HL];refine hJ _ _ ⟨rfl,?_⟩;simp[h1]
 ·rintro _ _ ⟨rfl,rfl⟩;refine aF (λh1=> ?_) λh1=> ?_
  ·simp only[Bool.not_eq_true']at h1;rw[h1]at hk;exact hk
  ·simp only[Bool.not_eq_false']at h1;rw[h1]at hk;exact hk
theorem afV{wk at_:Int}{k:Int×Int→aq}(h:St w0 w L)[a:At L (bN g) M f](h1:M.can wk at_=true→∀w',St w0 w' (f (bN g (M.tick wk)))→k (M.get at_,0) w')(h2:M.can wk at_=false→k (0,10) w):aj (some ⟨g,0,none⟩) wk at_ w k:=by
 unfold aj xL;refine bp rfl (RE h (.inl ⟨rfl,rfl⟩) ?_);by_cases hcan:M.can wk at_=true
 ·have aj0:=hcan;unfold bO.can at hcan;rw[hcan];refine bp rfl ?_;obtain⟨R,ho,hc⟩:=a.out;obtain⟨s1,s2,hS⟩:=wS (ho h);simp only[iW,bO.caller,bO.given,decide_eq_true_eq]at hcan;refine an (eu hS rfl (AQ (s:=s2) (xs:=M.steps) hS hcan.1.1 hcan.1.2 (zf (s:=s2) (xs:=M.steps) hS hcan.1.1 hcan.1.2 λw' hS=>an (eu hS rfl (AQ (s:=s1) (xs:=M.cells) hS hcan.2.1 hcan.2.2 ?_)))));exact h1 aj0 w' (hc (Cq (M:=M.tick wk) hS))
 ·have hcan:M.can wk at_=false:=by simpa using hcan
  have:=h2 hcan;unfold bO.can at hcan;rw[hcan];exact bH rfl this
theorem ahA{wk at_ x:Int}{k:Int→aq}(h:St w0 w L)[a:At L (bN g) M f](h1:M.can wk at_=true→∀w',St w0 w' (f (bN g ((M.tick wk).put at_ x)))→k 0 w')(h2:M.can wk at_=false→k 10 w):aM (some ⟨g,0,none⟩) wk at_ x w k:=by
 unfold aM vQ;refine bp rfl (RE h (.inl ⟨rfl,rfl⟩) ?_);by_cases hcan:M.can wk at_=true
 ·have aj0:=hcan;unfold bO.can at hcan;rw[hcan];refine bp rfl ?_;obtain⟨R,ho,hc⟩:=a.out;obtain⟨s1,s2,hS⟩:=wS (ho h);simp only[iW,bO.caller,bO.given,decide_eq_true_eq]at hcan;refine an (eu hS rfl (AQ (s:=s2) (xs:=M.steps) hS hcan.1.1 hcan.1.2 (zf (s:=s2) (xs:=M.steps) hS hcan.1.1 hcan.1.2 λw' hS=>an (eu hS rfl (zf (s:=s1) (xs:=M.cells) hS hcan.2.1 hcan.2.2 λw' hS=> ?_)))));exact h1 aj0 w' (hc (Cq (M:=(M.tick wk).put at_ x) hS))
 ·have hcan:M.can wk at_=false:=by simpa using hcan
  have:=h2 hcan;unfold bO.can at hcan;rw[hcan];exact bH rfl this
theorem W9{at_:Int}{k:Int→aq}(h:St w0 w L)[a:At L (bN g) M f](hk:k (if M.given at_ then M.get at_ else 0) w):aZ (some ⟨g,0,none⟩) at_ w k:=by
 unfold aZ xQ;refine bU (λy w'=>w=w'∧y= !M.given at_) (λJ hJ=>bp rfl (ahz h (hJ _ _ ⟨rfl,rfl⟩))) ?_;rintro _ _ ⟨rfl,rfl⟩;refine aF (λh1=> ?_) λh1=> ?_
 ·rw[if_neg (by simpa using h1)]at hk;exact hk
 ·have h1:M.given at_=true:=by simpa using h1
  rw[if_pos h1]at hk;obtain⟨R,ho,hc⟩:=a.out;obtain⟨s1,s2,hS⟩:=wS (ho h);simp only[bO.given,decide_eq_true_eq]at h1;exact an (eu hS rfl (AQ (s:=s1) (xs:=M.cells) hS h1.1 h1.2 hk))
theorem av0{k:Int→aq}(h:St w0 w L)[a:At L (bN g) M f](hk:k (M.cells.length:Nat) w):dB (some ⟨g,0,none⟩) w k:=by
 unfold dB;obtain⟨R,ho,hc⟩:=a.out;obtain⟨s1,s2,hS⟩:=wS (ho h);have l1:=afU (s:=s1) (xs:=M.cells) hS;refine bp rfl (an (eu hS rfl ?_));rw[l1];exact hk
theorem elI{P:Program}{t:TypeId}(h:Sj P t=some (1,8,some (.int .i64 0))):GI P t 1 8 (.int .i64 0):=⟨h,rfl⟩
theorem Yh(n:Nat)(x:Int):dM n (Value.int .i64 x)=ints (dM n x):=by simp[ints]
def bO.new(size Xa:Int):bO:=⟨[],size,dM (Xa.toNat+1) 0⟩
def afW(size Xa:Int):Bool:=decide (1≤size∧size≤1048576∧1≤Xa∧Xa≤16)
theorem av1{size wks:Int}{k:Option Addr×Int→aq}(h:St w0 w L)(h1:afW size wks=true→∀g w',St w0 w' (bN g (bO.new size wks)::L)→k (some ⟨g,0,none⟩,0) w')(h2:afW size wks=false→k (none,10) w):sF size wks w k:=by
 unfold sF;unfold afW at h1 h2;refine aF (λhb=> ?_) λhb=> ?_
 ·simp only[Bool.or_eq_true,decide_eq_true_eq]at hb;exact h2 (by rw[decide_eq_false_iff_not];omega)
 ·simp only[j5,decide_eq_false_iff_not]at hb;have hw:IntKind.i64.wrap (wks+1)=((wks.toNat+1:Nat):Int):=by rw[dQ ⟨ah,ah⟩];omega
  rw[hw];refine As h (elI bf) rfl ah ah λs w' hS hn=> ?_;rw[Yh]at hS;have hS:=hS.Jx 1;refine av hS λg w'' hS=> ?_;refine h1 (by rw[decide_eq_true_eq];omega) g w'' (Cq (M:=bO.new size wks) (s1:=⟨none,0,0⟩) (s2:=s) hS)
def bO.room(M:bO)(n:Int):Bool:=decide (n≤M.size - M.cells.length)
def bO.grow(M:bO)(n:Int):bO:={M with cells:=M.cells++dM n.toNat 0}
structure bO.OK (M:bO):Prop where
 size:1≤M.size∧M.size≤1048576
 fit:(M.cells.length:Int)≤M.size
theorem Gp{wk n:Int}{k:Int×Int→aq}(h:St w0 w L)[a:At L (bN g) M f](hM:M.OK)
  (h1:M.caller wk=true→1≤n→M.room n=true→∀w',St w0 w' (f (bN g ((M.tick wk).grow n)))→k ((M.cells.length:Nat),0) w')
  (h2:M.caller wk=true→1≤n→M.room n=false→k (0,21) w) (h3:¬(M.caller wk=true∧1≤n)→k (0,10) w):az (some ⟨g,0,none⟩) wk n w k:=by
 unfold az vO;have hM1:=hM.size;have hM2:=hM.fit;refine bp rfl (RE h (.inr ⟨rfl,rfl⟩) ?_);by_cases hcan:M.caller wk=true∧1≤n
 ·rw[hcan.1,show(decide (n≥1))=true by simpa using hcan.2]
  refine bp rfl ?_;obtain⟨R,ho,hc⟩:=a.out;obtain⟨s1,s2,hS⟩:=wS (ho h);have l1:=afU (s:=s1) (xs:=M.cells) hS;have abG:=hcan.1;simp only[bO.caller,decide_eq_true_eq]at abG;have hsub:IntKind.i64.wrap (M.size - ((s1.n:Nat):Int))=M.size - M.cells.length:=by rw[l1,dQ ⟨ah,ah⟩]
  refine an (eu hS rfl (an (cv hS rfl ?_)));rw[hsub];refine aF (λhr=> ?_) λhr=> ?_
  ·exact h2 hcan.1 hcan.2 (by unfold bO.room;rw[decide_eq_false_iff_not];simp only[decide_eq_true_eq]at hr;omega)
  ·simp only[decide_eq_false_iff_not]at hr;have hroom:M.room n=true:=by unfold bO.room;rw[decide_eq_true_eq];omega
   refine an (eu hS rfl (AQ (s:=s2) (xs:=M.steps) hS abG.1 abG.2 (zf (s:=s2) (xs:=M.steps) hS abG.1 abG.2 λw' hS=>an (eu hS rfl ?_))));have hcap:=(hS.own (sz:=1) (s:=s1) (vs:=ints M.cells)).cap;refine avq (s:=s1) (vs:=ints M.cells) hS bh bh bh (by simp;omega) λd hd1 hd2 hS=> ?_
   have e1:(ints M.cells).take (((s1.n:Nat):Int).toNat*1)=ints M.cells:=List.take_of_length_le (by simp[ints];omega)
   simp only[e1]at hS;have hn:n=((n.toNat:Nat):Int):=ah;rw[hn];simp at hd1 hd2;refine ap8 (s:=d) (vs:=ints M.cells) hS (elI bf) bf rfl ah ah ah ah λs' w'' hS hs'=> ?_;refine an (jR hS rfl bh λw3 hS=> ?_);have:=h1 hcan.1 hcan.2 hroom w3 (hc (Cq (M:=(M.tick wk).grow n) (s1:=s') (s2:=s2) (by
    have e2:ints M.cells++dM n.toNat (Value.int .i64 0)=ints (M.cells++dM n.toNat 0):=by simp[ints]
    rw[e2]at hS;exact hS)))
   rw[←l1]at this;exact this
 ·have hb:(M.caller wk&&decide (n≥1))=false:=by
   cases abG:M.caller wk with
   |false=>rfl
   |true=>simp only[Bool.true_and,decide_eq_false_iff_not];intro h;exact hcan ⟨abG,h⟩
  rw[hb];exact bH rfl (h3 hcan)
end
open Go Go.Ev Go.Proofs
theorem D6{n:Nat}(h:n≤8):(2:Nat) ^ n≤256:=Nat.le_trans (Nat.pow_le_pow_right ah h) gD
theorem Yi{m:Nat}(h:m<2 ^ 63):(bv (m:Int)).toNat=m:=by
 rw[BitVec.toNat_ofInt];omega
theorem Xb{b:BitVec 64}(h:b.toNat<2 ^ 63):b.toInt=b.toNat:=by
 rw[BitVec.toInt_eq_toNat_cond];split<;>omega
theorem ad9{x:Int}{n:Nat}(h:n≤62):og .i64 x (((2 ^ n - 1:Nat)):Int)=x % ((2 ^ n:Nat):Int):=by
 have hp:2 ^ n≤2 ^ 62:=Nat.pow_le_pow_right ah h;have Fv:0<2 ^ n:=Nat.pow_pos ah;rw[Qg];have e1:(bv x&&&bv ((2 ^ n - 1:Nat):Int)).toNat=(bv x).toNat % 2 ^ n:=by
  rw[BitVec.toNat_and,Yi ah,Nat.and_two_pow_sub_one_eq_mod]
 have hlt:=Nat.mod_lt (bv x).toNat Fv;rw[Xb (by rw[e1];omega),e1]
 rw[BitVec.toNat_ofInt];have hd:((2 ^ n:Nat):Int)∣((2 ^ 64:Nat):Int):=by
  refine⟨((2 ^ (64 - n):Nat):Int),?_⟩;rw[←Int.natCast_mul,←Nat.pow_add];congr 2;omega
 have hnn:0≤x % ((2 ^ 64:Nat):Int):=Int.emod_nonneg _ ah;rw[Int.natCast_emod,Int.toNat_of_nonneg hnn,Int.emod_emod_of_dvd _ hd]
theorem aB2(x:Int):Ih .i64 x 4=x / 16:=by
 unfold Ih;have e:min (4:Int).toNat IntKind.i64.bits=4:=gD;rw[e,Int.fdiv_eq_ediv_of_nonneg _ gD];rfl
theorem azJ(x:Int):og .i64 x 15=x % 16:=by
 have:=ad9 (x:=x) (n:=4) ah;exact this
theorem aB3{x:Int}(h0:0≤x)(h1:x≤1048576):sx .i64 x 4=16*x:=by
 unfold sx;have e:min (4:Int).toNat IntKind.i64.bits=4:=gD;rw[e,dQ ⟨ah,ah⟩];omega
theorem aB4{a l:Nat}(ha:a≤1048576)(hl:l<16):SH .i64 (16*(a:Int)) (l:Int)=16*a+l:=by
 rw[afi];have e1:(bv (16*(a:Int))|||bv (l:Int)).toNat=16*a+l:=by
  rw[BitVec.toNat_or,Yi ah];have:(bv (16*(a:Int))).toNat=16*a:=by
   have:=Yi (m:=16*a) ah;rw[←this];simp
  rw[this];have h2:=Nat.shiftLeft_add_eq_or_of_lt (i:=4) (b:=l) ah a;rw[Nat.shiftLeft_eq]at h2;rw[Nat.mul_comm 16 a];exact h2.symm
 rw[Xb (by rw[e1];omega),e1];simp
theorem Xc{l:Int}(h0:0≤l)(h1:l≤8):sx .i64 1 l=((2 ^ l.toNat:Nat):Int):=by
 unfold sx;have e:min l.toNat IntKind.i64.bits=l.toNat:=by simp[IntKind.bits];omega
 have:=D6 (n:=l.toNat) ah;have e2:((2:Int) ^ l.toNat)=((2 ^ l.toNat:Nat):Int):=by simp
 rw[e,Int.one_mul,e2];generalize (2 ^ l.toNat:Nat)=m at*
 exact dQ ⟨ah,ah⟩
structure Rg where
 At:Int
 CS:Int
 deriving DecidableEq
namespace Rg
abbrev ag(r:Rg):Array Value:=#[.int .i64 r.At,.int .i64 r.CS]
def pw(r:Rg):Nat:=2 ^ r.CS.toNat
def right(r:Rg):Bool:=decide (0≤r.CS∧r.CS≤8∧0≤r.At∧r.At≤1048576 - r.pw)
def size(r:Rg):Int:=if r.right then r.pw else 0
def place(r:Rg)(i:Int):Int:=if r.right then r.At+i % r.pw else -1
def word(r:Rg):Int:=if r.right then 16*r.At+r.CS else -1
def of(word:Int):Rg:=⟨word / 16,word % 16⟩
def zero:Rg:=⟨0,0⟩
end Rg
theorem Rg.Fw{r:Rg}(h:r.right=true):0≤r.CS∧r.CS≤8∧0≤r.At∧r.At≤1048576 - r.pw∧1≤r.pw∧r.pw≤256:=by
 unfold Rg.right at h;simp only[decide_eq_true_eq]at h;have h1:r.pw≤256:=D6 ah;have h2:0<r.pw:=Nat.pow_pos ah;omega
section
variable {w0 w:World} {L:List HP} {r:Rg}
theorem LY{k:Bool→aq}(h:St w0 w L)(hk:∀w',St w0 w' L→k r.right w'):bE r.ag w k:=by
 unfold bE;have hk:=λw' h'=>hk w' h';refine av h λg w1 hS=>aK hS λw2 hS=> ?_;have fin:∀b,b=r.right→k b w2:=λb e=>by rw[e];exact hk w2 hS.drop
 unfold Rg.right at fin;refine cv hS rfl (aF (λh1=> ?_) λh1=>fin _ (by rw[decide_eq_false_iff_not]at h1;exact(decide_eq_false ah).symm))
 refine cv hS rfl (aF (λh2=> ?_) λh2=>fin _ (by rw[decide_eq_false_iff_not]at h2;exact(decide_eq_false ah).symm))
 refine cv hS rfl (aF (λh3=> ?_) λh3=>fin _ (by rw[decide_eq_false_iff_not]at h3;exact(decide_eq_false ah).symm))
 simp only[decide_eq_true_eq]at h1 h2 h3;refine cv hS rfl (cv hS rfl (HO h1 (fin _ ?_)));have hp:r.pw≤256:=D6 (n:=r.CS.toNat) ah;have Yj:(2 ^ r.CS.toNat:Nat)=r.pw:=rfl;rw[Xc h1 h2,Yj,dQ ⟨ah,ah⟩,decide_eq_decide];omega
theorem aae{k:Int→aq}(h:St w0 w L)(hk:∀w',St w0 w' L→k r.size w'):cu r.ag w k:=by
 unfold cu DE;refine av h λg w1 hS=> ?_;refine jG hS rfl ?_;refine LY (r:=r) hS λw2 hS=> ?_;refine aF (λh1=> ?_) λh1=> ?_
 ·have:=hk w2 hS.drop;unfold Rg.size at this;rwa[if_neg (by simpa using h1)]at this
 ·have h1:r.right=true:=by simpa using h1
  have hr:=Rg.Fw h1;have:=hk w2 hS.drop;unfold Rg.size at this;rw[if_pos h1]at this;refine cv hS rfl (HO hr.1 ?_);rw[Xc hr.1 hr.2.1];exact this
theorem RF{i:Int}{k:Int→aq}(h:St w0 w L)(hk:∀w',St w0 w' L→k (r.place i) w'):bl r.ag i w k:=by
 unfold bl Cc;refine av h λg w1 hS=> ?_;refine jG hS rfl ?_;refine LY (r:=r) hS λw2 hS=> ?_;refine aF (λh1=> ?_) λh1=> ?_
 ·have:=hk w2 hS.drop;unfold Rg.place at this;rwa[if_neg (by simpa using h1)]at this
 ·have h1:r.right=true:=by simpa using h1
  have hr:=Rg.Fw h1;refine aK hS λw3 hS=> ?_;refine cv hS rfl ?_;refine jG hS rfl ?_;refine aae (r:=r) hS λw4 hS'=> ?_;refine eU hS hS' ?_;have:=hk w4 hS'.drop;unfold Rg.place at this;rw[if_pos h1]at this;have e:r.size=r.pw:=by unfold Rg.size;rw[if_pos h1]
  have Yj:(2 ^ r.CS.toNat:Nat)=r.pw:=rfl;have e2:IntKind.i64.wrap (r.size - 1)=((2 ^ r.CS.toNat - 1:Nat):Int):=by
   rw[e,dQ ⟨ah,ah⟩,Yj];omega
  have Fv:(0:Int)<(r.pw:Nat):=ah;have hm1:=Int.emod_nonneg i (show((r.pw:Nat):Int)≠0 by omega)
  have hm2:=Int.emod_lt_of_pos i Fv;rw[e2,ad9 ah,Yj];rw[dQ ⟨ah,ah⟩];exact this
theorem amg{k:Int→aq}(h:St w0 w L)(hk:∀w',St w0 w' L→k r.word w'):fp r.ag w k:=by
 unfold fp Dz;refine av h λg w1 hS=> ?_;refine jG hS rfl ?_;refine LY (r:=r) hS λw2 hS=> ?_;have:=hk w2 hS.drop;unfold Rg.word at this;refine aF (λh1=> ?_) λh1=> ?_
 ·rwa[if_neg (by simpa using h1)]at this
 ·have h1:r.right=true:=by simpa using h1
  have hr:=Rg.Fw h1;rw[if_pos h1]at this;refine cv hS rfl (cv hS rfl ?_);have e1:r.At=((r.At.toNat:Nat):Int):=ah;have e2:r.CS=((r.CS.toNat:Nat):Int):=ah;rw[aB3 hr.2.2.1 ah];rw[e1,e2,aB4 ah ah,←e1,←e2];exact this
theorem aB5{x:Int}{k:Array Value×Int→aq}(h:St w0 w L)(hk:∀w',St w0 w' L→k (if (Rg.of x).right then((Rg.of x).ag,0)else(Rg.zero.ag,11)) w'):qR x w k:=by
 unfold qR UM;refine av h λg w1 hS=>av hS λg2 w2 hS=> ?_;rw[aB2,azJ];refine mW hS rfl rfl (by simp[Value.oneCell']) λw3 hS=> ?_
 refine jG hS rfl ?_;refine LY (r:=Rg.of x) hS λw4 hS=> ?_;refine aF (λh1=> ?_) λh1=> ?_
 ·refine mW hS rfl rfl (by simp[Value.oneCell']) λw5 hS=> ?_
  refine jG hS rfl ?_;have:=hk w5 hS.drop.drop;rwa[if_neg (by simpa using h1)]at this
 ·refine jG hS rfl ?_;refine mW hS rfl rfl (by simp[Value.oneCell']) λw5 hS=> ?_
  refine jG hS rfl ?_;have:=hk w5 hS.drop.drop;rwa[if_pos (by simpa using h1)]at this
end
open Go Go.Ev Go.Proofs
section
variable {w0 w:World} {L:List HP} {r:Rg}
theorem av2{g:Nat}{M:bO}{f:HP→List HP}{wk log:Int}{k:Array Value×Int→aq}(h:St w0 w L)[a:At L (bN g) M f](hM:M.OK)
  (h1:0≤log→log≤8→M.caller wk=true→M.room ((2 ^ log.toNat:Nat):Int)=true→∀w',St w0 w' (f (bN g ((M.tick wk).grow ((2 ^ log.toNat:Nat):Int))))→k (Rg.ag ⟨(M.cells.length:Nat),log⟩,0) w')
  (h2:0≤log→log≤8→M.caller wk=true→M.room ((2 ^ log.toNat:Nat):Int)=false→∀w',St w0 w' L→k (Rg.zero.ag,21) w')
  (h3:¬(0≤log∧log≤8∧M.caller wk=true)→∀w',St w0 w' L→k (Rg.zero.ag,10) w'):xq (some ⟨g,0,none⟩) wk log w k:=by
 unfold xq Qy;refine av h λgn w1 hS=>bp rfl (aF (λhb=> ?_) λhb=> ?_)
 ·simp only[Bool.or_eq_true,decide_eq_true_eq]at hb;refine mW hS rfl rfl (by simp[Value.oneCell']) λw2 hS=> ?_
  refine jG hS rfl ?_;exact h3 ah _ hS.drop
 ·simp only[j5,decide_eq_false_iff_not]at hb;refine HO ah ?_;rw[Xc ah ah];have Fv:0<2 ^ log.toNat:=Nat.pow_pos ah;refine Gp (g:=g) (M:=M) hS hM (λk1 k2 k3 w2 hS=> ?_) (λk1 k2 k3=> ?_) λk1=> ?_
  ·refine bp rfl ?_;refine mW hS rfl rfl (by simp[Value.oneCell']) λw2 hS=> ?_
   refine jG hS rfl ?_;exact h1 ah ah k1 k3 _ hS.drop
  ·refine bH rfl ?_;refine mW hS rfl rfl (by simp[Value.oneCell']) λw2 hS=> ?_
   refine jG hS rfl ?_;exact h2 ah ah k1 k3 _ hS.drop
  ·refine bH rfl ?_;refine mW hS rfl rfl (by simp[Value.oneCell']) λw2 hS=> ?_
   refine jG hS rfl ?_;refine h3 (λhh=>k1 ⟨hh.2.2,?_⟩) _ hS.drop;generalize (2 ^ log.toNat:Nat)=m at*
   omega
structure Cp where
 a:Rg
 b:Rg
 at_:Int
 jN:Int
 has:Int
 BR:Bool
def PR(g:Nat)(c:Cp):HP:=ax g [.int .i64 c.a.At,.int .i64 c.a.CS,.int .i64 c.b.At,.int .i64 c.b.CS,.int .i64 c.at_,.int .i64 c.jN,.int .i64 c.has,
 .func (.func (if c.BR then sE else rf)) #[.pointer (some ⟨g,0,none⟩)] #[]]
def Cp.begin(a b:Rg)(from_ jN:Int):Cp:=⟨a,b,from_,jN,0,false⟩
def RG(a b:Rg)(from_ jN:Int):Int:=if a.right=false∨b.right=false then 1 else if jN<from_∨jN - from_>a.size∨jN - from_>b.size then 10 else 0
theorem arB{x:Int}(h0:0≤x)(h1:x<18446744073709551616):IntKind.u64.wrap x=x:=by
 simp only[aL,IntKind.bits,IntKind.signed];simp;omega
theorem aj1{x y:Int}(hx:xb x)(hy:xb y)(h:y≤x):IntKind.u64.wrap (IntKind.u64.wrap x - IntKind.u64.wrap y)=x - y:=by
 have:=hx.1;have:=hx.2;have:=hy.1;have:=hy.2;simp only[aL,IntKind.bits,IntKind.signed];simp;omega
theorem size_le(r:Rg):0≤r.size∧r.size≤256:=by
 unfold Rg.size;split
 ·rename_i h;have:=Rg.Fw h;omega
 ·omega
theorem av3{a b:Rg}{from_ jN:Int}{k:Option Addr×Int→aq}(hf:xb from_)(hu:xb jN)(h:St w0 w L)
  (h1:RG a b from_ jN=0→∀g w',St w0 w' (PR g (Cp.begin a b from_ jN)::L)→k (some ⟨g,0,none⟩,0) w') (h2:RG a b from_ jN≠0→∀w',St w0 w' L→k (none,RG a b from_ jN) w'):nc a.ag b.ag from_ jN w k:=by
 unfold nc DF;refine av h λg1 w1 hS=>av hS λg2 w2 hS=> ?_;refine bU (λy w'=>y=(!a.right|| !b.right)∧St w0 w' (ax g2 b.ag.toList::ax g1 a.ag.toList::L)) ?_ ?_
 ·intro J hJ;refine jG hS rfl ?_;refine LY (r:=a) hS λw3 hS=> ?_;refine aF (λh1=>hJ _ _ ⟨by revert h1;cases a.right<;>simp,hS⟩) λh1=> ?_
  refine jG hS rfl ?_;refine LY (r:=b) hS λw4 hS=>hJ _ _ ⟨by revert h1;cases a.right<;>simp,hS⟩
 rintro _ w3 ⟨rfl,hS⟩;refine aF (λh3=> ?_) λh3=> ?_
 ·have e:RG a b from_ jN=1:=by
   unfold RG;simp only[Bool.or_eq_true,Bool.not_eq_true']at h3;rw[if_pos h3]
  have:=h2 (by rw[e];omega) _ hS.drop.drop
  rwa[e]at this
 simp only[j5,Bool.not_eq_false']at h3;have sa:=size_le a;have sb:=size_le b;have e:RG a b from_ jN=if jN<from_∨jN - from_>a.size∨jN - from_>b.size then 10 else 0:=by
  unfold RG;rw[if_neg (by rw[h3.1,h3.2];simp)]
 refine bU (λy w'=>y=decide (jN<from_∨jN - from_>a.size∨jN - from_>b.size)∧St w0 w' (ax g2 b.ag.toList::ax g1 a.ag.toList::L)) ?_ ?_
 ·intro J hJ;refine aK hS λw4 hS=>aF (λh4=>hJ _ _ ⟨?_,hS⟩) λh4=> ?_
  ·rw[decide_eq_true_eq]at h4;rw[decide_eq_true (.inl h4)]
  ·rw[decide_eq_false_iff_not]at h4;refine jG hS rfl ?_;refine jG hS rfl ?_;refine aae (r:=a) hS λw5 hS5=> ?_;refine eU hS hS5 ?_;refine aae (r:=b) hS5 λw6 hS=>hJ _ _ ⟨?_,hS⟩;rw[aj1 hu hf ah];unfold VD;rw[decide_eq_decide];split
   ·rw[arB ah ah];omega
   ·rw[arB ah ah];omega
 rintro _ w4 ⟨rfl,hS⟩;refine aF (λh4=> ?_) λh4=> ?_
 ·rw[decide_eq_true_eq]at h4;rw[if_pos h4]at e;have:=h2 (by rw[e];omega) _ hS.drop.drop
  rwa[e]at this
 rw[decide_eq_false_iff_not]at h4;rw[if_neg h4]at e;refine jG hS rfl ?_;refine jG hS rfl ?_;refine ap1 _ rfl bh rfl ?_;refine ap1 _ rfl bh rfl ?_;refine av hS λg w5 hS=> ?_;refine jR hS rfl bh λw6 hS=> ?_;exact h1 e g w6 (show St w0 w6 (PR g (Cp.begin a b from_ jN)::L)from hS.swap.drop.swap.drop)
end
section
variable {w0 w:World} {L:List HP}
def Cp.spot(c:Cp):Int:=if c.BR then c.b.place c.at_ else c.a.place c.at_
def Cp.next(c:Cp)(x:Int):Cp:=if c.BR then{c with at_:=IntKind.i64.wrap (c.at_+1),BR:=false}else{c with has:=x,BR:=true}
theorem av4{g gc:Nat}{M:bO}{c:Cp}{wk:Int}{k:Bool×Int→aq}(h:St w0 w (PR gc c::bN g M::L))
  (h0:c.at_=c.jN→∀w',St w0 w' (PR gc c::bN g M::L)→k (true,0) w')
  (h1:c.at_≠c.jN→M.can wk c.spot=false→∀w',St w0 w' (PR gc c::bN g M::L)→k (false,10) w')
  (h2:c.at_≠c.jN→M.can wk c.spot=true→c.BR=false→∀w',St w0 w' (PR gc (c.next (M.get c.spot))::bN g (M.tick wk)::L)→k (false,0) w')
  (h3:c.at_≠c.jN→M.can wk c.spot=true→c.BR=true→∀w',St w0 w' (PR gc (c.next 0)::bN g ((M.tick wk).put c.spot c.has)::L)→k ((c.next 0).at_==c.jN,0) w'):
  ni (some ⟨gc,0,none⟩) (some ⟨g,0,none⟩) wk w k:=by
 unfold ni DH;refine bp rfl (aK h λw1 hS=> ?_);unfold PR at hS;refine an (cv hS rfl ?_);refine an (cv hS rfl (aF (λhe=>h0 (by simpa using he) _ hS) λhne=> ?_))
 have hne:c.at_≠c.jN:=by simpa using hne
 refine an (Ir hS rfl ?_);cases hl:c.BR with
 |false=>
  have hsp:c.spot=c.a.place c.at_:=by unfold Cp.spot;rw[hl];rfl
  rw[hl]at hS;refine bX (d:=JP) (λ_ _ _=>rfl) ?_;simp only[JP,List.append_toArray,List.cons_append,List.nil_append,List.append_nil,qG,ZB,toP,xy,if_true,eW,dz,K.v,HL];unfold ng DG;refine aK hS λw2 hS=> ?_;refine an (qv hS bh ?_);refine an (cv hS rfl ?_);refine RF (r:=c.a) hS λw3 hS=> ?_;refine afV (g:=g) (M:=M) hS (λhcan w4 hS=> ?_) λhcan=> ?_
  ·refine bp rfl (an (jR hS rfl bh λw5 hS=>an (jR hS rfl bh λw6 hS=> ?_)));refine bp rfl (aK hS λw7 hS=> ?_);refine an (cv hS rfl ?_);refine an (cv hS rfl ?_);have:=h2 hne (by rw[hsp];exact hcan) hl w7 (by
    rw[hsp];have e:c.next (M.get (c.a.place c.at_))={c with has:=M.get (c.a.place c.at_),BR:=true}:=by unfold Cp.next;rw[hl];rfl
    rw[e];exact hS)
   rwa[show(c.at_==c.jN)=false by simpa using hne]
  ·refine bH rfl (bH rfl (h1 hne (by rw[hsp];exact hcan) _ ?_))
   unfold PR;rw[hl];exact hS
 |true=>
  have hsp:c.spot=c.b.place c.at_:=by unfold Cp.spot;rw[hl];rfl
  rw[hl]at hS;refine bX (d:=IP) (λ_ _ _=>rfl) ?_;simp only[IP,List.append_toArray,List.cons_append,List.nil_append,List.append_nil,qG,ZB,toP,xy,if_true,eW,dz,K.v,HL];unfold lY Cd;refine aK hS λw2 hS=> ?_;refine an (qv hS bh ?_);refine an (cv hS rfl ?_);refine an (cv hS rfl ?_);refine RF (r:=c.b) hS λw3 hS3=> ?_;refine eU hS hS3 ?_;refine ahA (g:=g) (M:=M) hS3 (λhcan w4 hS=> ?_) λhcan=> ?_
  ·refine bp rfl (an (cv hS rfl ?_));refine an (jR hS rfl bh λw5 hS=>an (jR hS rfl bh λw6 hS=> ?_));refine bp rfl (aK hS λw7 hS=> ?_);refine an (cv hS rfl ?_);refine an (cv hS rfl ?_);have e:c.next 0={c with at_:=IntKind.i64.wrap (c.at_+1),BR:=false}:=by unfold Cp.next;rw[hl];rfl
   have:=h3 hne (by rw[hsp];exact hcan) hl w7 (by
    rw[hsp,e];exact hS)
   rw[e]at this;exact this
  ·refine bH rfl (bH rfl (h1 hne (by rw[hsp];exact hcan) _ ?_))
   unfold PR;rw[hl];exact hS3
end
def bO.ld(M:bO)(wk a:Int):bO×Int×Int:=if M.can wk a then(M.tick wk,M.get a,0)else(M,0,10)
def bO.st(M:bO)(wk a x:Int):bO×Int:=if M.can wk a then((M.tick wk).put a x,0)else(M,10)
def bO.Vc(M:bO)(wk a old x:Int):bO×Bool×Int:=if M.can wk a then(if M.get a=old then((M.tick wk).put a x,true,0)else(M.tick wk,false,0))else(M,false,10)
def wr(x:Int):Int:=aL .i64 x
section
variable {w0 w:World} {L R:List HP} {gm go:Nat} {M:bO} {p:Option Addr} {wk:Int} {f:HP→List HP}
theorem aaf{a':Int}{k:Int×Int→aq}(h:St w0 w L)[a:At L (bN gm) M f](hk:∀w',St w0 w' (f (bN gm (M.ld wk a').1))→k ((M.ld wk a').2.1,(M.ld wk a').2.2) w'):aj (some ⟨gm,0,none⟩) wk a' w k:=by
 unfold bO.ld at hk;refine afV (g:=gm) (M:=M) h (λhc w' h=> ?_) λhc=> ?_
 ·rw[if_pos hc]at hk;exact hk w' h
 ·rw[if_neg (by rw[hc];simp)]at hk;exact hk w (h.same a)
theorem RH{a' x:Int}{k:Int→aq}(h:St w0 w L)[a:At L (bN gm) M f](hk:∀w',St w0 w' (f (bN gm (M.st wk a' x).1))→k (M.st wk a' x).2 w'):aM (some ⟨gm,0,none⟩) wk a' x w k:=by
 unfold bO.st at hk;refine ahA (g:=gm) (M:=M) h (λhc w' h=> ?_) λhc=> ?_
 ·rw[if_pos hc]at hk;exact hk w' h
 ·rw[if_neg (by rw[hc];simp)]at hk;exact hk w (h.same a)
theorem aj2{a' old x:Int}{k:Bool×Int→aq}(h:St w0 w L)[a:At L (bN gm) M f](hk:∀w',St w0 w' (f (bN gm (M.Vc wk a' old x).1))→k ((M.Vc wk a' old x).2.1,(M.Vc wk a' old x).2.2) w'):aU (some ⟨gm,0,none⟩) wk a' old x w k:=by
 unfold aU zx;unfold bO.Vc at hk;refine bp rfl (RE h (.inl ⟨rfl,rfl⟩) ?_);by_cases hcan:M.can wk a'=true
 ·rw[if_pos hcan]at hk;unfold bO.can at hcan;rw[hcan];refine bp rfl ?_;obtain⟨R,ho,hc⟩:=a.out;obtain⟨s1,s2,hS⟩:=wS (ho h);simp only[iW,bO.caller,bO.given,decide_eq_true_eq]at hcan;refine an (eu hS rfl (AQ (s:=s2) (xs:=M.steps) hS hcan.1.1 hcan.1.2 (zf (s:=s2) (xs:=M.steps) hS hcan.1.1 hcan.1.2 λw' hS=>an (eu hS rfl (AQ (s:=s1) (xs:=M.cells) hS hcan.2.1 hcan.2.2 ?_)))));refine aF (λhb=> ?_) λhb=> ?_
  ·have hne:M.get a'≠old:=by simpa[bO.get]using hb
   rw[if_neg hne]at hk;exact hk w' (hc (Cq (M:=M.tick wk) hS))
  ·have he:M.get a'=old:=by simpa[bO.get]using hb
   rw[if_pos he]at hk;refine an (eu hS rfl (zf (s:=s1) (xs:=M.cells) hS hcan.2.1 hcan.2.2 λw' hS=> ?_));exact hk w' (hc (Cq (M:=(M.tick wk).put a' x) hS))
 ·have hcan:M.can wk a'=false:=by simpa using hcan
  rw[if_neg (by rw[hcan];simp)]at hk
  unfold bO.can at hcan;rw[hcan];exact bH rfl (hk w (h.same a))
theorem Ak{x:Int}(h:M.can 0 x=true∨M.given x=true)(hM:M.OK):aL .i64 x=x:=by
 have h1:=hM.size;have h2:=hM.fit;have:M.given x=true:=by
  rcases h with h|h
  ·unfold bO.can at h;simp at h;exact h.2
  ·exact h
 unfold bO.given at this;simp only[decide_eq_true_eq]at this;exact lO ⟨ah,ah⟩
theorem oM{wk x:Int}(h:M.can wk x=true):M.given x=true:=by unfold bO.can at h;simp at h;exact h.2
theorem D7{wk x:Int}(h:M.can wk x=true):M.ld wk x=(M.tick wk,M.get x,0):=by unfold bO.ld;rw[if_pos h]
theorem Sr{wk x v:Int}(h:M.can wk x=true):M.st wk x v=((M.tick wk).put x v,0):=by unfold bO.st;rw[if_pos h]
theorem ahC{wk x o v:Int}(h:M.can wk x=true):M.Vc wk x o v=if M.get x=o then((M.tick wk).put x v,true,0)else(M.tick wk,false,0):=by unfold bO.Vc;rw[if_pos h]
theorem ldc{a':Int}{k:Int×Int→aq}(h:St w0 w L)[a:At L (bN gm) M f](hc:M.can wk a'=true)(hk:∀w',St w0 w' (f (bN gm (M.tick wk)))→k (M.get a',0) w'):aj (some ⟨gm,0,none⟩) wk a' w k:=by
 refine aaf (M:=M) h λw h=> ?_;rw[D7 hc]at h ⊢;exact hk w h
theorem stc{a' x:Int}{k:Int→aq}(h:St w0 w L)[a:At L (bN gm) M f](hc:M.can wk a'=true)(hk:∀w',St w0 w' (f (bN gm ((M.tick wk).put a' x)))→k 0 w'):aM (some ⟨gm,0,none⟩) wk a' x w k:=by
 refine RH (M:=M) h λw h=> ?_;rw[Sr hc]at h ⊢;exact hk w h
def bO.cs(M:bO)(wk a old x:Int):bO×Bool:=if M.get a=old then((M.tick wk).put a x,true)else(M.tick wk,false)
theorem amh{a' o x:Int}{k:Bool×Int→aq}(h:St w0 w L)[a:At L (bN gm) M f](hc:M.can wk a'=true)(hk:∀w',St w0 w' (f (bN gm (M.cs wk a' o x).1))→k ((M.cs wk a' o x).2,0) w'):aU (some ⟨gm,0,none⟩) wk a' o x w k:=by
 refine aj2 (M:=M) h λw h=> ?_;rw[ahC hc]at h ⊢;unfold bO.cs at hk;split at h
 ·rename_i e;rw[if_pos e]at hk ⊢;exact hk w h
 ·rename_i e;rw[if_neg e]at hk ⊢;exact hk w h
def bO.ad(M:bO)(wk x by_:Int):bO:=(M.tick wk).put x (wr (M.get x+by_))
theorem Vd{wk x y:Int}{k:Int×Int→aq}(h:St w0 w L)[a:At L (bN gm) M f](hc:M.can wk x=true)(hk:∀w',St w0 w' (f (bN gm (M.ad wk x y)))→k (M.get x,0) w'):aO (some ⟨gm,0,none⟩) wk x y w k:=by
 unfold aO qQ;obtain⟨R,ho,hb⟩:=a.out;have h:=ho h;refine av h λg1 w h=>av h λg2 w h=>av h λg3 w h=> ?_;with_reducible repeat' (first|refine oI h ?_|refine GM h ?_|refine ij ?_|fail)
 refine RE (g:=gm) (M:=M) h (.inl ⟨rfl,rfl⟩) ?_;have hcan:=hc;unfold bO.can at hcan;rw[hcan];refine bp rfl ?_;simp only[iW,bO.caller,bO.given,decide_eq_true_eq]at hcan;have hS:=h.front 3 rfl;simp only[Iy]at hS;obtain⟨s1,s2,h⟩:=wS hS;with_reducible repeat' (first|refine an ?_|refine mJ h ?_|refine oI h ?_|fail)
 refine AQ (s:=s2) (xs:=M.steps) h hcan.1.1 hcan.1.2 (zf (s:=s2) (xs:=M.steps) h hcan.1.1 hcan.1.2 λw h=> ?_);with_reducible repeat' (first|refine an ?_|refine aK h λw h=> ?_|refine mJ h ?_|refine oI h ?_|refine GM h ?_|fail)
 refine AQ (s:=s1) (xs:=M.cells) h hcan.2.1 hcan.2.2 ?_;unfold tJ;with_reducible repeat' (first|refine an ?_|refine aK h λw h=> ?_|refine mJ h ?_|refine oI h ?_|refine GM h ?_|fail)
 refine AQ (s:=s1) (xs:=M.cells) h hcan.2.1 hcan.2.2 ?_;with_reducible repeat' (first|refine GM h ?_|fail)
 refine zf (s:=s1) (xs:=M.cells) h hcan.2.1 hcan.2.2 λw h=> ?_;have h:=Cq (M:=M.ad wk x y) h;exact hk w (hb (((h.rm 1 rfl).rm 1 rfl).rm 1 rfl))
end
structure Nd where
 parent:Int
 nest:Int
 at_:Int
 deriving DecidableEq
abbrev Nd.cells(x:Nd):List Value:=[.int .i64 x.parent,.int .i64 x.nest,.int .i64 x.at_]
def scp(g:Nat)(C:List Nd):HP:=FT λs:Sl=>mr [ax g [.slice s.a s.n s.c],rws 3 s (C.map Nd.cells)]
section
variable {w0 w:World} {L R:List HP} {g gm:Nat} {C:List Nd} {M:bO} {f f2 f3:HP→List HP}
theorem Yk(h:St w0 w (scp g C::R)):∃s:Sl,St w0 w (ax g [.slice s.a s.n s.c]::rws 3 s (C.map Nd.cells)::R):=by
 obtain⟨s,h⟩:=h.some;exact⟨s,h.open⟩
theorem aea{s:Sl}(h:St w0 w (ax g [.slice s.a s.n s.c]::rws 3 s (C.map Nd.cells)::R)):St w0 w (scp g C::R):=
 St.ex (X:=λs:Sl=>mr [ax g [.slice s.a s.n s.c],rws 3 s (C.map Nd.cells)]) s (St.shut h)
def Ug(C:List Nd)(s:Int):Bool:=decide (0≤s∧s<C.length)
theorem aj3{s:Int}{ga:Nat}{k:Bool→aq}{f':HP→List HP}(h:St w0 w L)[a:At L (scp g) C f][a':At L (ax ga) [.int .i64 s] f'](hk:k (Ug C s) w):da (some ⟨g,0,none⟩) ⟨some ⟨ga,0,none⟩,1,1⟩ w k:=by
 unfold da;refine⟨2,?_⟩;unfold jF;have hb:=h.ax (g:=ga) (cs:=[.int .i64 s]);refine bH rfl ?_;refine⟨⟨ah,by show(0:Int)<1;decide⟩,uJ (n:=s) (by rw[c8,hb.cell];rfl) (Qf ?_)⟩
 obtain⟨R,ho,hc⟩:=a.out;obtain⟨sl,h2⟩:=Yk (ho h);have hl:=(tC (sz:=3) (s:=sl) (es:=C.map Nd.cells) h2).2 ah;simp only[List.length_map]at hl;refine aF (λh1=> ?_) λh1=> ?_
 ·have h1:s<0:=by simpa using h1
  rw[show Ug C s=false by simp[Ug];omega]at hk
  exact bH rfl hk
 ·have h1:¬s<0:=by simpa using h1
  refine an (aS h2 rfl ?_);refine aF (λh3=> ?_) λh3=> ?_
  ·have h3:s≥((sl.n:Nat):Int):=of_decide_eq_true h3;rwa[show Ug C s=false by simp[Ug];omega]at hk
  ·have h3:¬s≥((sl.n:Nat):Int):=of_decide_eq_false h3;unfold jF;refine bp rfl ?_;rwa[show Ug C s=true by simp[Ug];omega]at hk
theorem GW{s:Int}{k:Int→aq}(h:St w0 w L)[a:At L (scp g) C f](hs:Ug C s=true)(hk:∀w',St w0 w' L→k 0 w'):bg (some ⟨g,0,none⟩) (some ⟨gm,0,none⟩) s w k:=by
 unfold bg DB;refine bp rfl (av h λga w' h=>aj3 (g:=g) (C:=C) h ?_);rw[hs];exact bp rfl (hk w' h.drop)
def nR(C:List Nd)(s:Int):Option Nd:=if 0≤s then C[s.toNat]? else none
theorem su{s:Int}{x:Nd}(h:nR C s=some x):Ug C s=true∧0≤s∧C[s.toNat]?=some x:=by
 unfold nR at h;split at h
 ·have:=(kO.1 h).1;exact⟨by simp[Ug];omega,ah,h⟩
 ·cases h
theorem abH{s:Int}{x:Nd}{j:Nat}{v:Int}{c:Addr→Int→Prop}(h:St w0 w L)[a:At L (scp g) C f](hs:nR C s=some x)(hv:x.cells[j]?=some (.int .i64 v))(hc:∀p,c p v):
  cE w (aX ⟨g,0,none⟩ 0) λs4=>cW s4 s 3 λa5=>aN .i64 w (aX a5 j) (c a5):=by
 obtain⟨R,ho,hb⟩:=a.out;obtain⟨sl,h2⟩:=Yk (ho h);obtain⟨_,h0,h1⟩:=su hs;exact aS h2 rfl (rI2 (s:=sl) (sz:=3) h2 h0 (e:=x.cells) (by rw[pB,h1];rfl) hv hc)
theorem ahD{wk s:Int}{x:Nd}{k:Int→aq}(h:St w0 w L)[a:At L (scp g) C f][a2:At L (bN gm) M f2](hs:nR C s=some x)(hc:M.can wk (x.at_+1)=true)(hM:M.OK)
  (hk:∀w',St w0 w' (f2 (bN gm (M.ad wk (x.at_+1) 1)))→k 0 w'):ey (some ⟨g,0,none⟩) (some ⟨gm,0,none⟩) wk s w k:=by
 unfold ey AY;refine GW (C:=C) h (su hs).1 λw h=> ?_;with_reducible repeat' (first|refine an ?_|refine ij ?_|refine abH (C:=C) h hs rfl λ_=> ?_|fail)
 rw[Ak (.inr (oM hc)) hM];exact Vd (M:=M) h hc λw h=>hk w h
theorem arC{wk s:Int}{x:Nd}{k:Bool×Int→aq}(h:St w0 w L)[a:At L (scp g) C f][a2:At L (bN gm) M f2](hs:nR C s=some x)(hc:M.can wk (x.at_+1)=true)(hM:M.OK)
  (hk:∀w',St w0 w' (f2 (bN gm (M.ad wk (x.at_+1) (-1))))→k (M.get (x.at_+1)==1,0) w'):kT (some ⟨g,0,none⟩) (some ⟨gm,0,none⟩) wk s w k:=by
 unfold kT Bi;refine GW (C:=C) h (su hs).1 λw h=> ?_;with_reducible repeat' (first|refine an ?_|refine ij ?_|refine abH (C:=C) h hs rfl λ_=> ?_|fail)
 rw[Ak (.inr (oM hc)) hM];exact Vd (M:=M) h hc λw h=>hk w h
theorem av5{wk s:Int}{x:Nd}{k:Int×Int→aq}(h:St w0 w L)[a:At L (scp g) C f][a2:At L (bN gm) M f2](hs:nR C s=some x)(hc:M.can wk (x.at_+1)=true)(hM:M.OK)
  (hk:∀w',St w0 w' (f2 (bN gm (M.tick wk)))→k (M.get (x.at_+1),0) w'):l7 (some ⟨g,0,none⟩) (some ⟨gm,0,none⟩) wk s w k:=by
 unfold l7 Cl;refine GW (C:=C) h (su hs).1 λw h=> ?_;with_reducible repeat' (first|refine an ?_|refine ij ?_|refine abH (C:=C) h hs rfl λ_=> ?_|fail)
 rw[Ak (.inr (oM hc)) hM];refine aaf (M:=M) h λw h=> ?_;rw[D7 hc]at h ⊢;exact hk w h
theorem arD{wk s:Int}{x:Nd}{k:Bool×Int→aq}(h:St w0 w L)[a:At L (scp g) C f][a2:At L (bN gm) M f2](hs:nR C s=some x)(hc:M.can wk x.at_=true)
  (hk:∀w',St w0 w' (f2 (bN gm (M.cs wk x.at_ 0 1).1))→k ((M.cs wk x.at_ 0 1).2,0) w'):gy (some ⟨g,0,none⟩) (some ⟨gm,0,none⟩) wk s w k:=by
 unfold gy D0;refine GW (C:=C) h (su hs).1 λw h=> ?_;with_reducible repeat' (first|refine an ?_|refine ij ?_|refine abH (C:=C) h hs rfl λ_=> ?_|fail)
 exact amh (M:=M) h hc λw h=>hk w h
theorem ahE{wk s:Int}{x:Nd}{k:Bool×Int→aq}(h:St w0 w L)[a:At L (scp g) C f][a2:At L (bN gm) M f2](hs:nR C s=some x)(hc:M.can wk x.at_=true)
  (hk:∀w',St w0 w' (f2 (bN gm (M.tick wk)))→k (M.get x.at_ !=0,0) w'):eA (some ⟨g,0,none⟩) (some ⟨gm,0,none⟩) wk s w k:=by
 unfold eA A6;refine GW (C:=C) h (su hs).1 λw h=> ?_;with_reducible repeat' (first|refine an ?_|refine ij ?_|refine abH (C:=C) h hs rfl λ_=> ?_|fail)
 refine aaf (M:=M) h λw h=> ?_;rw[D7 hc]at h ⊢;exact hk w h
theorem anK{s:Int}{x:Nd}{k:Int→aq}(h:St w0 w L)[a:At L (scp g) C f](hs:nR C s=some x)(hk:∀w',St w0 w' L→k x.parent w'):j8 (some ⟨g,0,none⟩) s w k:=by
 unfold j8 zH;refine av h λga w h=>aj3 (g:=g) (C:=C) h ?_;rw[(su hs).1];with_reducible repeat' (first|refine an ?_|refine ij ?_|refine abH (C:=C) h hs rfl λ_=> ?_|fail)
 exact hk w h.drop
theorem NQ{n:Nat}{a b:Array Value}{c:Array Value→Prop}(hn:a.size=n)(hb:b.size=n)(hc:c b):kE a 0 n b c:=by
 refine⟨hb,?_⟩;have e:b.zipIdx.foldl (λcs (x:Value×Nat)=>cs.setIfInBounds (0+x.2) x.1) a=b:=by
  apply Array.ext';have key:∀(l:List Value) (k:Nat) (acc:Array Value),acc.size=k+l.length→((l.zipIdx k).foldl (fun(cs:Array Value) (x:Value×Nat)=>cs.setIfInBounds (0+x.2) x.1) acc).toList=acc.toList.take k++l:=by
   intro l;induction l with
   |nil=>intro k acc hk;simp at hk;simp[List.take_of_length_le,hk]
   |cons v l ih=>
    intro k acc hk;simp only[List.length_cons]at hk;rw[List.zipIdx_cons,List.foldl_cons,ih (k+1) _ (by simp;omega)]
    simp only[Nat.zero_add,Array.toList_setIfInBounds];rw[List.take_add_one,uw (by simpa using (by omega:k<acc.size)),List.take_set_of_le ah]
    simp
  have:=key b.toList 0 a (by simp[hn,hb])
  rw[←Array.foldl_toList,Array.toList_zipIdx];simpa using this
 rw[e];exact hc
theorem elN:GI Tryz.prog 233 3 24 (.agg #[.int .i64 0,.int .i64 0,.int .i64 0]):=⟨bf,bf⟩
theorem afY{wk s:Int}{x:Nd}{k:Int×Int→aq}(h:St w0 w L)[a:At L (scp g) C f][a2:At L (bN gm) M f2][a3:At (f2 (bN gm ((M.tick wk).grow 2))) (scp g) C f3](hs:nR C s=some x)(hw:M.caller wk=true)(hM:M.OK)(hC:C.length≤1000000)
  (h1:wr (x.nest+1)>32→∀w',St w0 w' L→k (0,23) w') (h2:¬wr (x.nest+1)>32→M.room 2=false→∀w',St w0 w' L→k (0,21) w')
  (h3:¬wr (x.nest+1)>32→M.room 2=true→∀w',St w0 w' (f3 (scp g (C++[⟨s,wr (x.nest+1),(M.cells.length:Nat)⟩])))→k ((C.length:Nat),0) w'):cX (some ⟨g,0,none⟩) (some ⟨gm,0,none⟩) wk s w k:=by
 unfold cX B9;refine GW (C:=C) h (su hs).1 λw h=> ?_;with_reducible repeat' (first|refine an ?_|refine ij ?_|refine abH (C:=C) h hs rfl λ_=> ?_|fail)
 refine aF (λhb=> ?_) λhb=> ?_
 ·exact h1 (of_decide_eq_true hb) w h
 ·have hb:=of_decide_eq_false hb;refine Gp (M:=M) h hM (λ_ _ hr w h=> ?_) (λ_ _ hr=> ?_) λhn=>(hn ⟨hw,ah⟩).elim
  ·with_reducible repeat' (first|refine an ?_|refine ij ?_|fail)
   obtain⟨R,ho,hc⟩:=a3.out;obtain⟨sl,h⟩:=Yk (ho h);with_reducible repeat' (first|refine mJ h ?_|fail)
   refine NQ rfl rfl ?_;with_reducible repeat' (first|refine av h λgx w h=> ?_|fail)
   refine ad3 (sz:=3) (s:=sl) (e:=Nd.cells ⟨s,wr (x.nest+1),(M.cells.length:Nat)⟩) h elN bf rfl ah (by simp[Nd.cells,Value.oneCell']) (by simpa using hC) ah λs' w h hn=> ?_
   with_reducible repeat' (first|refine an ?_|refine mJ h ?_|refine eL h λw h=> ?_|fail)
   rw[List.length_map]at hn;rw[hn];have e:aL .i64 (((C.length+1:Nat):Int) - 1)=(C.length:Nat):=by rw[lO ⟨ah,ah⟩];omega
   rw[e];refine h3 hb hr w (hc (aea (s:=s') ?_));have:=h.rm 0 rfl;simp only[List.map_append,List.map_cons,List.map_nil];exact this
  ·with_reducible repeat' (first|refine qx ?_|fail)
   exact h2 hb hr w h
structure Lk where
 at_:Int
 done:Bool
 wT:Bool
def Lk.cells(g:Nat)(x:Lk):List Value:=[.pointer (some ⟨g,0,none⟩),.int .i64 x.at_,.bool x.done,.bool x.wT]
theorem av6{s:Int}{x:Nd}{k:Option Addr×Int→aq}(h:St w0 w L)[a:At L (scp g) C f](hs:nR C s=some x)(hk:∀gl w',St w0 w' (ax gl (Lk.cells g ⟨s,false,false⟩)::L)→k (some ⟨gl,0,none⟩,0) w'):l5 (some ⟨g,0,none⟩) s w k:=by
 unfold l5 Ci;refine bp rfl (av h λga w h=>aj3 (g:=g) (C:=C) h ?_);rw[(su hs).1];with_reducible repeat' (first|refine av h λgx w h=> ?_|refine ij ?_|fail)
 exact hk _ w (h.rm 1 rfl)
def Lk.go(M:bO)(l:Lk)(x:Nd):Lk:=⟨x.parent,M.get x.at_ !=0||l.at_==0,M.get x.at_ !=0⟩
theorem ahF{gl:Nat}{wk:Int}{x:Nd}{l:Lk}{k:Bool×Bool×Int→aq}(h:St w0 w (ax gl (Lk.cells g l)::scp g C::bN gm M::R))
  (hd:l.done=false) (hs:nR C l.at_=some x) (hc:M.can wk x.at_=true)
  (hk:∀w',St w0 w' (ax gl (Lk.cells g (l.go M x))::scp g C::bN gm (M.tick wk)::R)→k ((l.go M x).done,(l.go M x).wT,0) w'):kL (some ⟨gl,0,none⟩) (some ⟨gm,0,none⟩) wk w k:=by
 unfold kL Ch;obtain⟨la,ld,li⟩:=l;cases hd
 with_reducible repeat' (first|refine an ?_|refine aK h λw h=> ?_|refine dL h ?_|refine dX h ?_|refine FU h ?_|refine ij ?_|fail)
 refine ahE (C:=C) (M:=M) h hs hc λw h=> ?_;with_reducible repeat' (first|refine an ?_|refine eL h λw h=> ?_|refine ij ?_|fail)
 refine bU (λ_ w=>St w0 w (ax gl (Lk.cells g ⟨la,M.get x.at_ !=0||la==0,M.get x.at_ !=0⟩)::scp g C::bN gm (M.tick wk)::R)) (λJ hJ=> ?_) ?_
 ·refine aF (λhb=> ?_) λhb=> ?_
  ·have hb:(M.get x.at_ !=0)=true:=hb;with_reducible repeat' (first|refine an ?_|refine eL h λw h=> ?_|fail)
   exact hJ _ _ (by simp only[hb]at h ⊢;exact h)
  ·have hb:(M.get x.at_ !=0)=false:=hb;with_reducible repeat' (first|refine an ?_|refine dX h ?_|refine eL h λw h=> ?_|fail)
   exact hJ _ _ (by simp only[hb]at h ⊢;exact h)
 ·intro _ w h;with_reducible repeat' (first|refine an ?_|refine aK h λw h=> ?_|refine dL h ?_|refine dX h ?_|fail)
  refine anK (C:=C) h hs λw h=> ?_;with_reducible repeat' (first|refine an ?_|refine aK h λw h=> ?_|refine FU h ?_|refine eL h λw h=> ?_|fail)
  exact hk _ h
end
section
variable {w0 w:World} {L R:List HP} {g gm gx:Nat} {M:bO} {f f2 f3:HP→List HP} {at_ wk:Int}
theorem arE{k:Array Value×Int→aq}(h:St w0 w L)[a2:At L (bN gm) M f2](hw:M.caller wk=true)(hM:M.OK)
  (hk:M.room 1=true→∀w',St w0 w' (f2 (bN gm ((M.tick wk).grow 1)))→k (#[.int .i64 (M.cells.length:Nat)],0) w') (GF:M.room 1=false→∀w',St w0 w' L→k (#[.int .i64 0],21) w'):
  tZ (some ⟨gm,0,none⟩) wk w k:=by
 unfold tZ ML;with_reducible repeat' (first|refine av h λgx w h=> ?_|refine ij ?_|fail)
 refine Gp (M:=M) h hM (λ_ _ hr w h=> ?_) (λ_ _ hr=> ?_) λhn=>(hn ⟨hw,ah⟩).elim
 ·with_reducible repeat' (first|refine pn h ?_|refine qX h λw h=> ?_|refine ij ?_|fail)
  exact hk hr w h.drop
 ·with_reducible repeat' (first|refine pn h ?_|refine qX h λw h=> ?_|refine qx ?_|fail)
  exact GF hr w h.drop
theorem arF{k:Array Value×Int→aq}(h:St w0 w L)[a2:At L (bN gm) M f2](hw:M.caller wk=true)(hM:M.OK)
  (hk:M.room 1=true→∀w',St w0 w' (f2 (bN gm ((M.tick wk).grow 1)))→k (#[.int .i64 (M.cells.length:Nat)],0) w') (GF:M.room 1=false→∀w',St w0 w' L→k (#[.int .i64 0],21) w'):
  xp (some ⟨gm,0,none⟩) wk w k:=by
 unfold xp Qt;with_reducible repeat' (first|refine av h λgx w h=> ?_|refine ij ?_|fail)
 refine Gp (M:=M) h hM (λ_ _ hr w h=> ?_) (λ_ _ hr=> ?_) λhn=>(hn ⟨hw,ah⟩).elim
 ·with_reducible repeat' (first|refine pn h ?_|refine qX h λw h=> ?_|refine ij ?_|fail)
  exact hk hr w h.drop
 ·with_reducible repeat' (first|refine pn h ?_|refine qX h λw h=> ?_|refine qx ?_|fail)
  exact GF hr w h.drop
theorem av7{k:Array Value×Int→aq}(h:St w0 w L)[a2:At L (bN gm) M f2](hw:M.caller wk=true)(hM:M.OK)
  (hk:M.room 3=true→∀w',St w0 w' (f2 (bN gm ((M.tick wk).grow 3)))→k (#[.int .i64 (M.cells.length:Nat)],0) w') (GF:M.room 3=false→∀w',St w0 w' L→k (#[.int .i64 0],21) w'):
  r7 (some ⟨gm,0,none⟩) wk w k:=by
 unfold r7 Kv;with_reducible repeat' (first|refine av h λgx w h=> ?_|refine ij ?_|fail)
 refine Gp (M:=M) h hM (λ_ _ hr w h=> ?_) (λ_ _ hr=> ?_) λhn=>(hn ⟨hw,ah⟩).elim
 ·with_reducible repeat' (first|refine pn h ?_|refine qX h λw h=> ?_|refine ij ?_|fail)
  exact hk hr w h.drop
 ·with_reducible repeat' (first|refine pn h ?_|refine qX h λw h=> ?_|refine qx ?_|fail)
  exact GF hr w h.drop
theorem arG{k:Int×Int→aq}(h:St w0 w L)[a2:At L (bN gm) M f2](hc:M.can wk at_=true)(hk:∀w',St w0 w' (f2 (bN gm (M.tick wk)))→k (M.get at_,0) w'):kR #[.int .i64 at_] (some ⟨gm,0,none⟩) wk w k:=by
 unfold kR Ba;with_reducible repeat' (first|refine dX h ?_|refine av h λgx w h=> ?_|refine ldc (M:=M) h hc λw h=> ?_|fail)
 exact hk w h.drop
theorem ami{k:Int→aq}(h:St w0 w L)[a2:At L (bN gm) M f2](hc:M.can wk at_=true)(hk:∀w',St w0 w' (f2 (bN gm (M.ad wk at_ 1)))→k 0 w'):eB #[.int .i64 at_] (some ⟨gm,0,none⟩) wk w k:=by
 unfold eB A7;with_reducible repeat' (first|refine dX h ?_|refine av h λgx w h=> ?_|refine Vd (M:=M) h hc λw h=> ?_|fail)
 exact hk w h.drop
theorem arH{k:Int×Int→aq}(h:St w0 w L)[a2:At L (bN gm) M f2](hc:M.can wk at_=true)(hk:∀w',St w0 w' (f2 (bN gm (M.tick wk)))→k (M.get at_,0) w'):oB #[.int .i64 at_] (some ⟨gm,0,none⟩) wk w k:=by
 unfold oB Fh;with_reducible repeat' (first|refine dX h ?_|refine av h λgx w h=> ?_|refine ldc (M:=M) h hc λw h=> ?_|fail)
 exact hk w h.drop
theorem aj4{seen:Int}{k:Bool→aq}(h:St w0 w L)[a2:At L (bN gm) M f2](hc:M.given at_=true)(hk:∀w',St w0 w' L→k (M.get at_==seen) w'):jH #[.int .i64 at_] (some ⟨gm,0,none⟩) seen w k:=by
 unfold jH xS;have hg:=hc;unfold bO.given at hg;simp only[decide_eq_true_eq]at hg;with_reducible repeat' (first|refine aK h λw h=> ?_|refine dX h ?_|refine av h λgx w h=> ?_|refine qx ?_|fail)
 refine bH (by simpa using hg.1) ?_
 with_reducible repeat' (first|refine dX h ?_|fail)
 refine av0 (M:=M) h ?_;with_reducible repeat' (first|refine gA ?_|fail)
 refine bH (by simpa using hg.2) ?_
 with_reducible repeat' (first|refine dX h ?_|fail)
 refine W9 (M:=M) h ?_;rw[if_pos hc];exact hk w h.drop
structure Wt where
 how:Int
 seen:Int
def Wt.cells(at_:Int)(x:Wt):List Value:=[.int .i64 at_,.int .i64 x.how,.int .i64 x.seen]
theorem av8{k:Option Addr→aq}(h:St w0 w L)(hk:∀ga w',St w0 w' (ax ga (Wt.cells at_ ⟨0,0⟩)::L)→k (some ⟨ga,0,none⟩) w'):kQ #[.int .i64 at_] w k:=by
 unfold kQ;with_reducible repeat' (first|refine pn h ?_|refine av h λgx w h=> ?_|fail)
 refine⟨rfl,?_⟩;with_reducible repeat' (first|refine av h λgx w h=> ?_|fail)
 exact hk _ w (h.rm 1 rfl)
theorem abI{x:Wt}{k:Int→aq}(h:St w0 w (ax g (x.cells at_)::bN gm M::R))(hc:M.can wk at_=true)(hk:∀w',St w0 w' (ax g (Wt.cells at_ ⟨1,M.get at_⟩)::bN gm (M.tick wk)::R)→k 0 w'):cM (some ⟨g,0,none⟩) (some ⟨gm,0,none⟩) wk w k:=by
 unfold cM Bb;with_reducible repeat' (first|refine an ?_|refine pi h ?_|refine ij ?_|fail)
 refine arG (M:=M) h hc λw h=> ?_;with_reducible repeat' (first|refine an ?_|refine eL h λw h=> ?_|refine ij ?_|fail)
 exact hk w h
theorem amj{x:Wt}{k:Int→aq}(h:St w0 w L)[a:At L (ax g) (x.cells at_) f](hk:∀w',St w0 w' (f (ax g (Wt.cells at_ ⟨if x.how=1 then 2 else x.how,x.seen⟩)))→k (if x.how=1 then 0 else 19) w'):e9 (some ⟨g,0,none⟩) w k:=by
 unfold e9;with_reducible repeat' (first|refine an ?_|refine dX h ?_|refine ij ?_|fail)
 refine aF (λhb=> ?_) λhb=> ?_
 ·have hb:x.how≠1:=by simpa using hb
  rw[if_neg hb,if_neg hb]at hk;exact hk w (h.same a)
 ·have hb:x.how=1:=by simpa using hb
  rw[if_pos hb,if_pos hb]at hk;with_reducible repeat' (first|refine an ?_|refine eL h λw h=> ?_|fail)
  exact hk w h
theorem aeb{x:Wt}{k:Unit→aq}(h:St w0 w L)[a:At L (ax g) (x.cells at_) f](hk:∀w',St w0 w' (f (ax g (Wt.cells at_ ⟨0,x.seen⟩)))→k () w'):dZ (some ⟨g,0,none⟩) w k:=by
 unfold dZ;with_reducible repeat' (first|refine an ?_|refine eL h λw h=> ?_|refine qx ?_|fail)
 exact hk w h
def Wt.parked(x:Wt)(M:bO)(at_:Int):Bool:=x.how==2&&M.get at_==x.seen
theorem aj5{x:Wt}{k:Bool→aq}(h:St w0 w L)[a:At L (ax g) (x.cells at_) f][a2:At L (bN gm) M f2](hc:M.given at_=true)(hk:∀w',St w0 w' L→k (x.parked M at_) w'):cP (some ⟨g,0,none⟩) (some ⟨gm,0,none⟩) w k:=by
 unfold cP zC;with_reducible repeat' (first|refine an ?_|refine aK h λw h=> ?_|refine dX h ?_|refine qx ?_|fail)
 unfold Wt.parked at hk;refine aF (λhb=> ?_) λhb=> ?_
 ·rw[hb,Bool.true_and]at hk;with_reducible repeat' (first|refine an ?_|refine dX h ?_|refine pi h ?_|fail)
  exact aj4 (M:=M) h hc hk
 ·rw[hb,Bool.false_and]at hk;exact hk w h
def bit(wk:Int)(times:Int):Int:=sx .i64 times wk
theorem ahG{y:Int}{k:Int→aq}(h:St w0 w L)[a2:At L (bN gm) M f2](hw:0≤wk∧wk≤16)(hc:M.can wk at_=true)(hk:∀w',St w0 w' (f2 (bN gm (M.ad wk at_ (bit wk y))))→k 0 w'):ik #[.int .i64 at_] (some ⟨gm,0,none⟩) wk y w k:=by
 unfold ik Fi;with_reducible repeat' (first|refine av h λgx w h=> ?_|refine ij ?_|fail)
 refine bp (by simp;omega) ?_
 with_reducible repeat' (first|refine aK h λw h=> ?_|refine dX h ?_|fail)
 refine HO ah ?_;with_reducible repeat' (first|refine Vd (M:=M) h hc λw h=> ?_|fail)
 exact hk w h.drop
theorem anL{k:Int→aq}(h:St w0 w L)[a2:At L (bN gm) M f2](hw:0≤wk∧wk≤16)(hc:M.can wk at_=true)(hk:∀w',St w0 w' (f2 (bN gm (M.ad wk at_ (bit wk 1))))→k 0 w'):nj #[.int .i64 at_] (some ⟨gm,0,none⟩) wk w k:=by
 unfold nj DV;with_reducible repeat' (first|refine pn h ?_|refine av h λgx w h=> ?_|fail)
 refine ahG (M:=M) h hw hc λw h=> ?_;with_reducible repeat' (first|refine an ?_|refine aK h λw h=> ?_|refine dL h ?_|refine dX h ?_|refine FU h ?_|refine mJ h ?_|refine td h ?_|refine La h ?_|refine oI h ?_|refine GM h ?_|refine OB h ?_|refine B3 h ?_|refine MD h ?_|refine OC h ?_|refine pi h ?_|refine pn h ?_|refine yU h ?_|refine eL h λw h=> ?_|refine xB h λw h=> ?_|refine HV h λw h=> ?_|refine qX h λw h=> ?_|refine av h λgx w h=> ?_|refine gA ?_|refine kr h ?_|refine po h ?_|refine lu ?_ ?_|refine ij ?_|refine qx ?_|refine Jf ?_|fail)
 exact hk w h.drop
theorem anM{k:Int→aq}(h:St w0 w L)[a2:At L (bN gm) M f2](hw:0≤wk∧wk≤16)(hc:M.can wk at_=true)(hk:∀w',St w0 w' (f2 (bN gm (M.ad wk at_ (bit wk (-1)))))→k 0 w'):nk #[.int .i64 at_] (some ⟨gm,0,none⟩) wk w k:=by
 unfold nk DW;with_reducible repeat' (first|refine pn h ?_|refine av h λgx w h=> ?_|fail)
 refine ahG (M:=M) h hw hc λw h=> ?_;with_reducible repeat' (first|refine an ?_|refine aK h λw h=> ?_|refine dL h ?_|refine dX h ?_|refine FU h ?_|refine mJ h ?_|refine td h ?_|refine La h ?_|refine oI h ?_|refine GM h ?_|refine OB h ?_|refine B3 h ?_|refine MD h ?_|refine OC h ?_|refine pi h ?_|refine pn h ?_|refine yU h ?_|refine eL h λw h=> ?_|refine xB h λw h=> ?_|refine HV h λw h=> ?_|refine qX h λw h=> ?_|refine av h λgx w h=> ?_|refine gA ?_|refine kr h ?_|refine po h ?_|refine lu ?_ ?_|refine ij ?_|refine qx ?_|refine Jf ?_|fail)
 exact hk w h.drop
theorem anN{k:Int×Int→aq}(h:St w0 w L)[a2:At L (bN gm) M f2](hM:M.OK)(hc:M.can wk (at_+0)=true)(hk:∀w',St w0 w' (f2 (bN gm (M.tick wk)))→k (M.get (at_+0),0) w'):jk #[.int .i64 at_] (some ⟨gm,0,none⟩) wk w k:=by
 unfold jk wH;with_reducible repeat' (first|refine dX h ?_|refine av h λgx w h=> ?_|fail)
 rw[Ak (.inr (oM hc)) hM];with_reducible repeat' (first|refine ldc (M:=M) h hc λw h=> ?_|fail)
 exact hk w h.drop
theorem anO{k:Int×Int→aq}(h:St w0 w L)[a2:At L (bN gm) M f2](hM:M.OK)(hc:M.can wk (at_+1)=true)(hk:∀w',St w0 w' (f2 (bN gm (M.tick wk)))→k (M.get (at_+1),0) w'):jl #[.int .i64 at_] (some ⟨gm,0,none⟩) wk w k:=by
 unfold jl wI;with_reducible repeat' (first|refine dX h ?_|refine av h λgx w h=> ?_|fail)
 rw[Ak (.inr (oM hc)) hM];with_reducible repeat' (first|refine ldc (M:=M) h hc λw h=> ?_|fail)
 exact hk w h.drop
theorem ahH{k:Int×Int→aq}(h:St w0 w L)[a2:At L (bN gm) M f2](hM:M.OK)(hc:M.can wk (at_+2)=true)(hk:∀w',St w0 w' (f2 (bN gm (M.tick wk)))→k (M.get (at_+2),0) w'):ie #[.int .i64 at_] (some ⟨gm,0,none⟩) wk w k:=by
 unfold ie uk;with_reducible repeat' (first|refine dX h ?_|refine av h λgx w h=> ?_|fail)
 rw[Ak (.inr (oM hc)) hM];with_reducible repeat' (first|refine ldc (M:=M) h hc λw h=> ?_|fail)
 exact hk w h.drop
theorem anP{k:Bool×Int→aq}(h:St w0 w L)[a2:At L (bN gm) M f2](hM:M.OK)(hc:M.can wk (at_+0)=true)(hk:∀w',St w0 w' (f2 (bN gm (M.cs wk (at_+0) 0 1).1))→k ((M.cs wk (at_+0) 0 1).2,0) w'):ji #[.int .i64 at_] (some ⟨gm,0,none⟩) wk w k:=by
 unfold ji wo;with_reducible repeat' (first|refine dX h ?_|refine av h λgx w h=> ?_|fail)
 rw[Ak (.inr (oM hc)) hM];with_reducible repeat' (first|refine amh (M:=M) h hc λw h=> ?_|fail)
 exact hk w h.drop
theorem av9{v:Int}{k:Int→aq}(h:St w0 w L)[a2:At L (bN gm) M f2](hM:M.OK)(hc:M.can wk (at_+1)=true)(hk:∀w',St w0 w' (f2 (bN gm ((M.tick wk).put (at_+1) v)))→k 0 w'):j9 #[.int .i64 at_] (some ⟨gm,0,none⟩) wk v w k:=by
 unfold j9 Ab;with_reducible repeat' (first|refine dX h ?_|refine av h λgx w h=> ?_|fail)
 rw[Ak (.inr (oM hc)) hM];with_reducible repeat' (first|refine stc (M:=M) h hc λw h=> ?_|fail)
 exact hk w h.drop
theorem awa{to:Int}{k:Bool×Int→aq}(h:St w0 w L)[a2:At L (bN gm) M f2](hM:M.OK)(ht:2≤to∧to≤4)(hc:M.can wk (at_+0)=true)(hk:∀w',St w0 w' (f2 (bN gm (M.cs wk (at_+0) 1 to).1))→k ((M.cs wk (at_+0) 1 to).2,0) w'):kf #[.int .i64 at_] (some ⟨gm,0,none⟩) wk to w k:=by
 unfold kf Ac;with_reducible repeat' (first|refine av h λgx w h=> ?_|refine ij ?_|fail)
 refine bp (by simp;omega) ?_
 with_reducible repeat' (first|refine dX h ?_|fail)
 rw[Ak (.inr (oM hc)) hM];with_reducible repeat' (first|refine amh (M:=M) h hc λw h=> ?_|fail)
 exact hk w h.drop
theorem ahI{y:Int}{k:Int→aq}(h:St w0 w L)[a2:At L (bN gm) M f2](hM:M.OK)(hw:0≤wk∧wk≤16)(hc:M.can wk (at_+2)=true)(hk:∀w',St w0 w' (f2 (bN gm (M.ad wk (at_+2) (bit wk y))))→k 0 w'):dF #[.int .i64 at_] (some ⟨gm,0,none⟩) wk y w k:=by
 unfold dF yz;with_reducible repeat' (first|refine av h λgx w h=> ?_|refine ij ?_|fail)
 refine bp (by simp;omega) ?_
 with_reducible repeat' (first|refine aK h λw h=> ?_|refine dX h ?_|fail)
 refine HO ah ?_;rw[Ak (.inr (oM hc)) hM];with_reducible repeat' (first|refine Vd (M:=M) h hc λw h=> ?_|fail)
 exact hk w h.drop
theorem arI{k:Int→aq}(h:St w0 w L)[a2:At L (bN gm) M f2](hM:M.OK)(hw:0≤wk∧wk≤16)(hc:M.can wk (at_+2)=true)(hk:∀w',St w0 w' (f2 (bN gm (M.ad wk (at_+2) (bit wk 1))))→k 0 w'):jJ #[.int .i64 at_] (some ⟨gm,0,none⟩) wk w k:=by
 unfold jJ yC;with_reducible repeat' (first|refine pn h ?_|refine av h λgx w h=> ?_|fail)
 refine ahI (M:=M) h hM hw hc λw h=> ?_;with_reducible repeat' (first|refine an ?_|refine aK h λw h=> ?_|refine dL h ?_|refine dX h ?_|refine FU h ?_|refine mJ h ?_|refine td h ?_|refine La h ?_|refine oI h ?_|refine GM h ?_|refine OB h ?_|refine B3 h ?_|refine MD h ?_|refine OC h ?_|refine pi h ?_|refine pn h ?_|refine yU h ?_|refine eL h λw h=> ?_|refine xB h λw h=> ?_|refine HV h λw h=> ?_|refine qX h λw h=> ?_|refine av h λgx w h=> ?_|refine gA ?_|refine kr h ?_|refine po h ?_|refine lu ?_ ?_|refine ij ?_|refine qx ?_|refine Jf ?_|fail)
 exact hk w h.drop
theorem anQ{k:Int→aq}(h:St w0 w L)[a2:At L (bN gm) M f2](hM:M.OK)(hw:0≤wk∧wk≤16)(hc:M.can wk (at_+2)=true)(hk:∀w',St w0 w' (f2 (bN gm (M.ad wk (at_+2) (bit wk (-1)))))→k 0 w'):ir #[.int .i64 at_] (some ⟨gm,0,none⟩) wk w k:=by
 unfold ir wO;with_reducible repeat' (first|refine pn h ?_|refine av h λgx w h=> ?_|fail)
 refine ahI (M:=M) h hM hw hc λw h=> ?_;with_reducible repeat' (first|refine an ?_|refine aK h λw h=> ?_|refine dL h ?_|refine dX h ?_|refine FU h ?_|refine mJ h ?_|refine td h ?_|refine La h ?_|refine oI h ?_|refine GM h ?_|refine OB h ?_|refine B3 h ?_|refine MD h ?_|refine OC h ?_|refine pi h ?_|refine pn h ?_|refine yU h ?_|refine eL h λw h=> ?_|refine xB h λw h=> ?_|refine HV h λw h=> ?_|refine qX h λw h=> ?_|refine av h λgx w h=> ?_|refine gA ?_|refine kr h ?_|refine po h ?_|refine lu ?_ ?_|refine ij ?_|refine qx ?_|refine Jf ?_|fail)
 exact hk w h.drop
theorem ahJ{k:Int×Int×Int→aq}(h:St w0 w L)[a2:At L (bN gm) M f2](hM:M.OK)(h0:M.given (at_+0)=true)(h1:M.given (at_+1)=true)(h2:M.given (at_+2)=true)
  (hk:∀w',St w0 w' L→k (M.get (at_+0),if M.get (at_+0)<2 then 0 else M.get (at_+1),M.get (at_+2)) w'):di #[.int .i64 at_] (some ⟨gm,0,none⟩) w k:=by
 unfold di xR;with_reducible repeat' (first|refine av h λgx w h=> ?_|refine ij ?_|fail)
 refine Qf ?_;refine⟨4,?_⟩;unfold jF;with_reducible repeat' (first|refine dX h ?_|refine qx ?_|fail)
 rw[Ak (.inr h0) hM];refine W9 (M:=M) h ?_;rw[if_pos h0];refine tV ah gD ?_;with_reducible repeat' (first|refine xB h λw h=> ?_|fail)
 unfold jF;with_reducible repeat' (first|refine dX h ?_|refine qx ?_|fail)
 rw[show(aL .i64 ((0:Int)+1))=1 by decide,Ak (.inr h1) hM]
 refine W9 (M:=M) h ?_;rw[if_pos h1];refine tV ah gD ?_;with_reducible repeat' (first|refine xB h λw h=> ?_|fail)
 unfold jF;with_reducible repeat' (first|refine dX h ?_|refine qx ?_|fail)
 rw[show(aL .i64 ((1:Int)+1))=2 by decide,Ak (.inr h2) hM]
 refine W9 (M:=M) h ?_;rw[if_pos h2];refine tV ah gD ?_;with_reducible repeat' (first|refine xB h λw h=> ?_|fail)
 unfold jF;with_reducible repeat' (first|refine dX h ?_|refine ij ?_|fail)
 refine aF (λhb=> ?_) λhb=> ?_
 ·have hb:M.get (at_+0)<2:=of_decide_eq_true hb;rw[if_pos hb]at hk;with_reducible repeat' (first|refine aK h λw h=> ?_|refine dX h ?_|refine eL h λw h=> ?_|fail)
  exact hk w h.drop.drop
 ·have hb:¬M.get (at_+0)<2:=of_decide_eq_false hb;rw[if_neg hb]at hk;with_reducible repeat' (first|refine aK h λw h=> ?_|refine dX h ?_|fail)
  exact hk w h.drop.drop
end
structure Kt where
 parent:Int
 nth:Int
 kids:List Int
 deriving DecidableEq
def nL(p:Kt×Sl):List Value:=[.int .i64 p.1.parent,.int .i64 p.1.nth,.slice p.2.a p.2.n p.2.c]
def yV(p:Kt×Sl):HP:=bQ 1 p.2 (ints p.1.kids)
def Cr(g:Nat)(T:List Kt):HP:=FT λq:Sl×List (Kt×Sl)=>Jy (q.2.map (·.1)=T) (mr [ax g [.slice q.1.a q.1.n q.1.c],rws 3 q.1 (q.2.map nL),lP yV q.2])
section
variable {w0 w:World} {L R:List HP} {g:Nat} {T:List Kt} {f:HP→List HP}
theorem Ss(h:St w0 w (Cr g T::R)):∃(s:Sl) (l:List (Kt×Sl)),l.map (·.1)=T∧St w0 w (ax g [.slice s.a s.n s.c]::rws 3 s (l.map nL)::lP yV l::R):=by
 obtain⟨q,h⟩:=h.some;obtain⟨hp,h⟩:=h.pure;exact⟨q.1,q.2,hp,h.open⟩
theorem Yl{s:Sl}{l:List (Kt×Sl)}(hl:l.map (·.1)=T)(h:St w0 w (ax g [.slice s.a s.n s.c]::rws 3 s (l.map nL)::lP yV l::R)):St w0 w (Cr g T::R):=
 St.ex (X:=λq:Sl×List (Kt×Sl)=>Jy (q.2.map (·.1)=T) (mr [ax g [.slice q.1.a q.1.n q.1.c],rws 3 q.1 (q.2.map nL),lP yV q.2])) (s,l) (St.pur hl (St.shut h))
def AL(T:List Kt)(s:Int):Bool:=decide (0≤s∧s<T.length)
theorem Ve{s:Int}{p:Addr}{C:Int→aq}{k:Bool→aq}{i:Int}(h:St w0 w L)[a:At L (Cr g) T f](hp:w.cell? p=some (.int .i64 s))(h1:AL T s=false→k false w)(h2:AL T s=true→C (aL .i64 (i+1)) w):
  aN .i64 w p λi5=>cD (S:=Bool) (λJ6=>ap ((ej (some (⟨g,0,none⟩:Addr)))||(decide (i5<(0:Int)))) (J6 true w) (nn (some ⟨g,0,none⟩) λa7=>cE w (aX a7 0) λs8=>(J6 (decide (i5≥((s8.n:Nat):Int))) w))) λb9 w10=>ap b9 (k false w10) (C (aL .i64 (i+(1:Int))) w10):=by
 refine uJ hp (Qf ?_);obtain⟨R,ho,hc⟩:=a.out;obtain⟨sl,l,hl,h3⟩:=Ss (ho h);have hlen:=(tC (sz:=3) (s:=sl) (es:=l.map nL) h3).2 ah;have hlT:T.length=l.length:=by rw[←hl];simp
 simp only[List.length_map]at hlen;refine aF (λhb=> ?_) λhb=> ?_
 ·have hb:s<0:=by simpa using hb
  exact bH rfl (h1 (by simp[AL];omega))
 ·have hb:¬s<0:=by simpa using hb
  refine an (aS h3 rfl ?_);refine aF (λjP=> ?_) λjP=> ?_
  ·have jP:s≥((sl.n:Nat):Int):=of_decide_eq_true jP;exact h1 (by simp[AL];omega)
  ·have jP:¬s≥((sl.n:Nat):Int):=of_decide_eq_false jP;exact h2 (by simp[AL];omega)
theorem amk{s:Int}{ga:Nat}{k:Bool→aq}{f':HP→List HP}(h:St w0 w L)[a:At L (Cr g) T f][a':At L (ax ga) [.int .i64 s] f'](hk:k (AL T s) w):dk (some ⟨g,0,none⟩) ⟨some ⟨ga,0,none⟩,1,1⟩ w k:=by
 unfold dk;refine⟨2,?_⟩;unfold jF;have hb:=h.ax (g:=ga) (cs:=[.int .i64 s]);refine bH rfl ⟨⟨ah,by show(0:Int)<1;decide⟩,Ve (T:=T) (i:=0) h (s:=s) (by rw[c8,hb.cell];rfl) (λe=> ?_) λe=> ?_⟩
 ·rw[e]at hk;exact hk
 ·rw[e]at hk;unfold jF;exact bp rfl hk
theorem arJ{s t:Int}{ga:Nat}{k:Bool→aq}{f':HP→List HP}(h:St w0 w L)[a:At L (Cr g) T f][a':At L (ax ga) [.int .i64 s,.int .i64 t] f'](hk:k (AL T s&&AL T t) w):dk (some ⟨g,0,none⟩) ⟨some ⟨ga,0,none⟩,2,2⟩ w k:=by
 unfold dk;refine⟨3,?_⟩;unfold jF;have hb:=h.ax (g:=ga) (cs:=[.int .i64 s,.int .i64 t]);refine bH rfl ⟨⟨ah,by show(0:Int)<2;decide⟩,Ve (T:=T) (i:=0) h (s:=s) (by rw[c8,hb.cell];rfl) (λe=> ?_) λe=> ?_⟩
 ·rw[e]at hk;exact hk
 ·rw[e,Bool.true_and]at hk;unfold jF;refine bH rfl ⟨⟨gD,by show(1:Int)<2;decide⟩,Ve (T:=T) (i:=1) h (s:=t) (by rw[c8,hb.cell];rfl) (λe=> ?_) λe=> ?_⟩
  ·rw[e]at hk;exact hk
  ·rw[e]at hk;unfold jF;exact bp rfl hk
def Gq(T:List Kt)(x:Int):Option Kt:=if 0≤x then T[x.toNat]? else none
theorem xu{s:Int}{x:Kt}(h:Gq T s=some x):AL T s=true∧0≤s∧T[s.toNat]?=some x:=by
 unfold Gq at h;split at h
 ·have:=(kO.1 h).1;exact⟨by simp[AL];omega,ah,h⟩
 ·cases h
theorem abJ{s:Int}(h:AL T s=true):∃x,Gq T s=some x:=by
 unfold AL at h;simp only[decide_eq_true_eq]at h;exact⟨T[s.toNat]' ah,by unfold Gq;rw[if_pos h.1,kq]⟩
theorem map_fst{l:List (Kt×Sl)}{i:Nat}{x:Kt}(hl:l.map (·.1)=T)(h:T[i]?=some x):∃s,l[i]?=some (x,s):=by
 rw[←hl,pB]at h;cases hli:l[i]? with
 |none=>rw[hli]at h;cases h
 |some p=>rw[hli]at h;simp at h;exact⟨p.2,by rw[←h]⟩
theorem arK{s:Int}{x:Kt}{c:Int→Prop}(h:St w0 w L)[a:At L (Cr g) T f](hs:Gq T s=some x)(hc:c x.parent):
  cE w (aX ⟨g,0,none⟩ 0) λs4=>cW s4 s 3 λa5=>aN .i64 w (aX a5 0) c:=by
 obtain⟨R,ho,hb⟩:=a.out;obtain⟨sl,l,hl,h2⟩:=Ss (ho h);obtain⟨_,h0,h1⟩:=xu hs;obtain⟨si,hi⟩:=map_fst hl h1;exact aS h2 rfl (rI (s:=sl) (sz:=3) h2 h0 (e:=nL (x,si)) (by rw[pB,hi];rfl) rfl hc)
def abK(T:List Kt):Prop:=∀(i:Nat) (x:Kt),T[i]?=some x→ -1≤x.parent∧x.parent<i∧(x.parent= -1→i=0)
def kup(T:List Kt)(y:Int):Nat→Int→Int
 |0,x=>x
 |n+1,x=>if x>y then(match Gq T x with|some t=>kup T y n t.parent|none=>x)else x
def RI(T:List Kt)(x y:Int):Bool:=AL T x&&AL T y&&(kup T y T.length x==y)
theorem abL(hT:abK T){y:Int}(hy:0≤y){k:Bool→aq}:∀(n:Nat) (x:Int) (w:World),x<n→x<T.length→St w0 w L→[a:At L (Cr g) T f]→k (kup T y n x==y) w→
  ∃m,jF (S:=Int) (λC5 i6 w7=>ap (decide (i6>y)) (nn (some (⟨g,0,none⟩:Addr)) λa8=>cE w7 (aX a8 0) λs9=>cW s9 i6 3 λa10=>aN .i64 w7 (aX a10 0) λi11=>(C5 i11 w7)) (k (i6==y) w7)) m x w
 |0,x,w,h0,_,h,_,hk=>by
  refine⟨1,?_⟩;unfold jF;have hk:k (x==y) w:=hk;exact bp (by simp;omega) hk
 |n+1,x,w,h0,hl,h,a,hk=>by
  unfold kup at hk;by_cases hx:x>y
  ·rw[if_pos hx]at hk;obtain⟨t,ht⟩:=abJ (T:=T) (s:=x) (by simp[AL];omega)
   rw[ht]at hk;obtain⟨_,hx0,hg⟩:=xu ht;have:=hT _ t hg;obtain⟨m,hm⟩:=abL hT hy n t.parent w ah ah h hk;refine⟨m+1,?_⟩;unfold jF;exact bH (by simpa using hx) (an (arK h ht hm))
  ·rw[if_neg hx]at hk;refine⟨1,?_⟩;unfold jF;exact bp (by simpa using hx) hk
theorem Zj{x y:Int}{k:Bool→aq}(h:St w0 w L)[a:At L (Cr g) T f](hT:abK T)(hk:∀w',St w0 w' L→k (RI T x y) w'):jB (some ⟨g,0,none⟩) x y w k:=by
 unfold jB zD;refine av h λga w h=>arJ (g:=g) (T:=T) h ?_;have hk:=hk w h.drop;unfold RI at hk;cases hb:AL T x&&AL T y with
 |false=>rw[hb]at hk;exact bH rfl hk
 |true=>
  rw[hb,Bool.true_and]at hk;simp only[iW,AL,decide_eq_true_eq]at hb;exact bp rfl (abL hT hb.2.1 T.length x w hb.1.2 hb.1.2 h hk)
theorem anR{k:Option Addr→aq}(h:St w0 w L)(hk:∀g w',St w0 w' (Cr g []::L)→k (some ⟨g,0,none⟩) w'):uU w k:=by
 unfold uU;refine av h λg w h=>hk g w ?_;refine Yl (s:=⟨none,0,0⟩) (l:=[]) rfl ?_;have h2:=h.Jx 3;have h3:St w0 w (rws 3 ⟨none,0,0⟩ (([]:List (Kt×Sl)).map nL)::ax g [.slice none 0 0]::L):=St.pur (by intro e he;cases he) h2
 exact(Wa (X:=yV) h3).perm GL
theorem elK:GI Tryz.prog 188 3 40 (.agg #[.int .i64 0,.int .i64 0,.slice none 0 0]):=⟨bf,bf⟩
theorem arL:GI Tryz.prog 69 1 8 (.int .i64 0):=⟨bf,bf⟩
def GX(T:List Kt)(p:Int):List Kt:=match Gq T p with
 |some t=>T.set p.toNat {t with kids:=t.kids++[(T.length:Int)]}++[⟨p,t.kids.length,[]⟩]
 |none=>T++[⟨p,0,[]⟩]
theorem awc{p:Int}{k:Int×Int→aq}(h:St w0 w L)[a:At L (Cr g) T f](hp:(p= -1∧T=[])∨∃t,Gq T p=some t∧t.kids.length≤1000000)(hT:T.length≤1000000)
  (hk:∀w',St w0 w' (f (Cr g (GX T p)))→k ((T.length:Nat),0) w'):pq (some ⟨g,0,none⟩) p w k:=by
 unfold pq GV;refine bp rfl ?_;obtain⟨R,ho,hb⟩:=a.out;replace h:=ho h;refine bU (λb w=>b=false∧St w0 w (Cr g T::R)) (λJ hJ=> ?_) ?_
 ·rcases hp with⟨rfl,rfl⟩|⟨t,ht,_⟩
  ·exact bp rfl (hJ _ _ ⟨rfl,h⟩)
  ·have hh:=xu ht;refine bH (by simp;omega) (av h λga w h=>amk (g:=g) (T:=T) h (hJ _ _ ⟨by rw[hh.1];rfl,h.drop⟩))
 clear h;rintro _ w ⟨rfl,h0⟩;obtain⟨s,l,hl,h⟩:=Ss h0;clear h0;have hlen:=(tC (sz:=3) (s:=s) (es:=l.map nL) h).2 ah;have hlT:T.length=l.length:=by rw[←hl];simp
 simp only[List.length_map]at hlen;refine bp rfl (bU (λb w'=>b=false∧w'=w) (λJ hJ=> ?_) ?_)
 ·rcases hp with⟨rfl,rfl⟩|⟨t,ht,_⟩
  ·refine bH rfl (an (aS h rfl (hJ _ _ ⟨?_,rfl⟩)));rw[decide_eq_false_iff_not];simp only[List.length_nil]at hlT;show¬((s.n:Nat):Int)>0;omega
  ·have hh:=xu ht;exact bp (by simp;omega) (hJ _ _ ⟨rfl,rfl⟩)
 rintro _ _ ⟨rfl,rfl⟩;refine bp rfl ?_;with_reducible repeat' (first|refine an ?_|refine mJ h ?_|refine qX h λw h=> ?_|refine av h λgx w h=> ?_|fail)
 obtain⟨g15,lI⟩:∃n,n=gx:=⟨_,rfl⟩;subst lI;refine bU (fun(_:Unit) w=> ∃(l':List (Kt×Sl)) (x:Kt),l'.map (·.1)++[x]=GX T p∧l'.length=l.length∧x.kids=[]∧St w0 w (ax g15 (nL (x,⟨none,0,0⟩))::ax g [.slice s.a s.n s.c]::rws 3 s (l'.map nL)::lP yV l'::R)) (λJ hJ=> ?_) ?_
 ·rcases hp with⟨rfl,rfl⟩|⟨t,ht,htl⟩
  ·refine bp rfl (hJ _ _ ⟨l,⟨-1,0,[]⟩,?_,rfl,rfl,h⟩);rw[hl];rfl
  ·obtain⟨_,h0,h1⟩:=xu ht;obtain⟨si,hi⟩:=map_fst hl h1;refine bH (by simp;omega) ?_
   have hrow:(l.map nL)[p.toNat]?=some (nL (t,si)):=by rw[pB,hi];rfl
   have ayv:=h.front 3 rfl;simp only[Iy]at ayv;have h:St w0 w (bQ 1 si (ints t.kids)::lP yV (l.eraseIdx p.toNat)::ax g15 _::ax g _::rws 3 s (l.map nL)::R):=Iz ayv hi;have hsl:=uN (s:=si) (vs:=ints t.kids) h;with_reducible repeat' (first|refine an ?_|refine mJ h ?_|fail)
   refine rix (s:=s) (sz:=3) h h0 hrow ah λg' o hr hs=> ?_;refine Kh (s:=si) (by rw[c8];exact hr h hrow 2 _ rfl) ?_
   with_reducible repeat' (first|refine eL h λw h=> ?_|fail)
   refine Kh (s:=si) (by rw[c8];exact hr h hrow 2 _ rfl) ?_
   with_reducible repeat' (first|refine av h λgx w h=> ?_|fail)
   refine Ld (s:=si) (vs:=ints t.kids) h arL bf rfl (by simpa using htl) ah λs' w h hn=> ?_
   rw[c8];refine hs h inferInstance hrow 2 _ _ ah rfl λw h=> ?_;have h:=h.rm 0 rfl;refine hJ _ _ ⟨l.set p.toNat ({t with kids:=t.kids++[(T.length:Int)]},s'),⟨p,t.kids.length,[]⟩,?_,bh,rfl,?_⟩
   ·unfold GX;rw[ht];simp[List.map_set,hl]
   ·have e1:(l.map nL).set p.toNat ((nL (t,si)).set 2 (.slice s'.a s'.n s'.c))=(l.set p.toNat ({t with kids:=t.kids++[(T.length:Int)]},s')).map nL:=by
     rw[List.map_set];rfl
    have GF:((s.n:Nat):Int)=T.length:=ah;have h:St w0 w (yV ({t with kids:=t.kids++[(T.length:Int)]},s')::lP yV (l.eraseIdx p.toNat)::ax g15 (nL (⟨p,t.kids.length,[]⟩,⟨none,0,0⟩))::ax g [.slice s.a s.n s.c]::rws 3 s ((l.set p.toNat ({t with kids:=t.kids++[(T.length:Int)]},s')).map nL)::R):=by
     rw[←e1];have e2:ints (t.kids++[(T.length:Int)])=ints t.kids++[.int .i64 ((s.n:Nat):Int)]:=by rw[GF];simp[ints]
     unfold yV;simp only[e2];have e3:((si.n:Nat):Int)=(t.kids.length:Nat):=by simp[ints]at hsl;omega
     unfold nL;simp only[←e3];exact h
    exact(aac h (kO.1 hi).1).perm GL
 rintro _ w ⟨l',x,hl',hll,hxk,h⟩;with_reducible repeat' (first|refine an ?_|refine aK h λw h=> ?_|refine mJ h ?_|refine pn h ?_|fail)
 refine NQ rfl rfl ?_;with_reducible repeat' (first|refine av h λgx w h=> ?_|refine kr h ?_|fail)
 refine ad3 (sz:=3) (s:=s) (es:=l'.map nL) (e:=nL (x,⟨none,0,0⟩)) h elK bf rfl ah (by simp[nL,Value.oneCell']) (by simp;omega) ah λs' w h hn=> ?_
 with_reducible repeat' (first|refine an ?_|refine eL h λw h=> ?_|fail)
 have h:=(h.rm 0 rfl).rm 0 rfl;rw[show((s.n:Nat):Int)=T.length by omega]
 refine hk w (hb (Yl (s:=s') (l:=l'++[(x,⟨none,0,0⟩)]) (by simpa using hl') ?_))
 have h2:St w0 w (yV (x,⟨none,0,0⟩)::ax g [.slice s'.a s'.n s'.c]::rws 3 s' (l'.map nL++[nL (x,⟨none,0,0⟩)])::lP yV l'::R):=by
  have:=h.Jx 1;unfold yV;rw[hxk];exact this
 have h3:=V9 (X:=yV) (h2.perm (M:=yV (x,⟨none,0,0⟩)::lP yV l'::ax g [.slice s'.a s'.n s'.c]::rws 3 s' (l'.map nL++[nL (x,⟨none,0,0⟩)])::R) GL);rw[List.map_append];exact h3.perm GL
end
theorem LZ{n:Nat}{d:(Nat→bu)→bu}{Y:Nat→bu}{args:List Value}{w:World}{c:Value→aq}(h:d Y args w c):Cy [(n,d)] n Y args w c:=by
 unfold Cy;rw[Nat.beq_refl];exact h
section
variable {w0 w:World} {L R:List HP} {g:Nat} {T:List Kt} {f:HP→List HP}
abbrev bwI:List (Nat×((Nat→bu)→bu)):=[(iU,iV)]
abbrev allI:List (Nat×((Nat→bu)→bu)):=[(mK,mL)]
theorem arM{Y:Nat→bu}{v:Value}{a:Addr}{w:World}{c:Value→aq}(h:nP Y v a w λr w=>c (.tuple #[]) w):iV Y [v,.pointer (some a)] w c:=h
theorem anS{Y:Nat→bu}{v:Value}{a:Addr}{w:World}{c:Value→aq}(h:BQ Y v a w λr w=>c (.tuple #[]) w):mL Y [v,.pointer (some a)] w c:=h
theorem ahK{G:List Int→HP}{s:Sl}{xs:List Int}{body:Int×Int→World→(aq)→Prop}{fin:Nat→aq}(h:St w0 w (G []::bQ 1 s (ints xs)::R))(hx:xs.length≤1000000)
  (hb:∀(zs:List Int) (i x:Int) (w1:World) (Rr:List HP) (C:aq),(∃ys,xs=ys++x::zs)→St w0 w1 (G zs::Rr)→(∀w2,St w0 w2 (G (x::zs)::Rr)→C w2)→body (i,x) w1 C)
  (hf:∀D w',St w0 w' (obj D (.deferred (some []))::G xs::bQ 1 s (ints xs)::R)→fin D w'):
  de s w λv w=>BM (Cy bwI) [.i .i64,.i .i64] v w body fin:=by
 unfold de;have xj:s.n=xs.length:=by have:=uN (s:=s) (vs:=ints xs) h;simpa using this
 refine av h λgb w h=> ?_;refine Sn h λlr D Rc w h=> ?_;refine LZ (arM (v:= .func (.yield lr) #[] #[]) (a:=⟨gb,0,none⟩) ?_);unfold nP qf;with_reducible repeat' (first|refine B3 h ?_|fail)
 have e0:aL .i64 (((s.n:Nat):Int) - 1)=((xs.length:Nat):Int) - 1:=by rw[xj,lO ⟨ah,ah⟩]
 refine⟨xs.length+1,?_⟩;show jF _ _ (aL .i64 (((s.n:Nat):Int) - 1)) _;rw[e0];have key:∀(m:Nat) (w:World),m≤xs.length→St w0 w (obj lr (Rc .ready)::obj D (.deferred (some []))::ax gb #[Value.slice s.a s.n s.c].toList::G (xs.drop m)::bQ 1 s (ints xs)::R)→
   jF (S:=Int) (λC2 i3 w4=>ap (decide (i3≥(0:Int))) (cE w4 ⟨gb,0,none⟩ λs5=>cW s5 i3 1 λa6=>aN .i64 w4 a6 λi7=>mT (Js [] (rY lr Rc [.i .i64,.i .i64] body)) (.func (.yield lr) #[] #[]) #[(.int .i64 i3),(.int .i64 i7)] w4 λv8 w9=>HL v8 λb10=>
    ap (!b10) (w9.heap[lr]?=some (Rc .ready)∧fin D (w9.putObj lr (Rc .exhausted))) (C2 (aL .i64 (i3 - (1:Int))) w9)) (w4.heap[lr]?=some (Rc .ready)∧fin D (w4.putObj lr (Rc .exhausted)))) (m+1) ((m:Int) - 1) w:=by
  intro m;induction m with
  |zero=>
   intro w _ h;unfold jF;refine bp gD ?_;refine abk (g:=lr) (o:=Rc .ready) (o':=Rc .exhausted) (c:=fin D) h λw h=>hf D w ?_;have h:=(h.rm 2 rfl).rm 0 rfl;simpa using h
  |succ m ih=>
   intro w hm h;have hlt:m<xs.length:=ah;have hd:xs.drop m=xs[m]::xs.drop (m+1):=List.drop_eq_getElem_cons hlt;unfold jF;refine bH bh ?_;with_reducible repeat' (first|refine B3 h ?_|fail)
   have ei:(((m+1:Nat):Int) - 1)=(m:Int):=ah;rw[ei];refine vI (s:=s) (vs:=ints xs) h ah (x:=xs[m]) (by simp[ints,hlt]) ?_
   refine Qm ?_;refine alY (l:=lr) (R:=Rc) (kk:=[.i .i64,.i .i64]) ((m:Int),xs[m]) (λc hc=>hc) h λw h=> ?_;have h:=h.front 3 rfl;simp only[Iy]at h;refine hb (xs.drop (m+1)) m xs[m] w _ _ ⟨xs.take m,?_⟩ h λw h=> ?_
   ·rw[←hd,List.take_append_drop]
   refine⟨Db (g:=lr) (o:=Rc .busy) h,?_⟩;replace h:=Av (g:=lr) (o:=Rc .busy) (Rc .ready) h;generalize w.putObj lr (Rc .ready)=w at h ⊢;refine afs ?_;with_reducible repeat' (first|refine ij ?_|fail)
   rw[lO ⟨ah,ah⟩];refine ih w ah ?_;rw[hd];exact h.perm GL
 exact key xs.length w (iN _) (by simpa using h)
inductive Dfs (T:List Kt):List Int→List (Int×Int)→Prop
 |nil:Dfs T [] []
 |cons {x:Int} {t:Kt} {st:List Int} {l:List (Int×Int)}:Gq T x=some t→Dfs T (t.kids++st) l→Dfs T (x::st) ((x,t.parent)::l)
theorem Dfs.len{st:List Int}{l:List (Int×Int)}(h:Dfs T st l):st.length≤l.length:=by
 induction h with
 |nil=>simp
 |cons _ _ ih=>simp only[tW,List.length_cons]at*;omega
theorem arN{G:List (Int×Int)→HP}{l:List (Int×Int)}{body:Int×Int→World→(aq)→Prop}{fin:Nat→aq}(h:St w0 w (G []::Cr g T::R))(hT:∀(i:Nat) (x:Kt),T[i]?=some x→x.kids.length≤1000000)(hl:l.length≤100000)
  (hD:if T.length=0 then l=[]else Dfs T [0] l)
  (hb:∀(done rest:List (Int×Int)) (p:Int×Int) (w1:World) (Rr:List HP) (C:aq),l=done++p::rest→St w0 w1 (G done::Rr)→(∀w2,St w0 w2 (G (done++[p])::Rr)→C w2)→body p w1 C)
  (hf:∀D w',St w0 w' (obj D (.deferred (some []))::G l::Cr g T::R)→fin D w'):
  iM (some ⟨g,0,none⟩) w λv w=>BM (Cy allI) [.i .i64,.i .i64] v w body fin:=by
 unfold iM;refine av h λga w h=> ?_;refine Sn h λlr D Rc w h=> ?_;refine LZ (anS (v:= .func (.yield lr) #[] #[]) (a:=⟨ga,0,none⟩) ?_);unfold BQ D3;with_reducible repeat' (first|refine oI h ?_|refine av h λgx w h=> ?_|fail)
 refine amk (g:=g) (T:=T) h ?_;by_cases hT0:T.length=0
 ·rw[if_pos hT0]at hD;subst hD;refine bH (by simp[AL,hT0]) ?_
  refine abk (g:=lr) (o:=Rc .ready) (o':=Rc .exhausted) (c:=fin D) h λw h=>hf D w ?_;exact((h.rm 0 rfl).rm 2 rfl).rm 0 rfl
 rw[if_neg hT0]at hD;refine bp (by simp[AL];omega) ?_
 have h:=h.rm 0 rfl;simp only[Iy]at h;refine av h λgz w h=>av h λgl w h=> ?_;with_reducible repeat' (first|refine xB h λw h=> ?_|fail)
 have h:=h.front 1 rfl;simp only[Iy]at h;have h:=St.asS (g:=gz) (n:=1) (sz:=1) (cs:=[.int .i64 0]) h (by rfl) ah (by intro x hx;simp at hx;subst hx;rfl)
 have h:=Ql h;refine Qn (G:=List (Int×Int)×List Int×List (Int×Int)×Sl) (λq x w=>l=q.2.2.1++q.1∧Dfs T q.2.1 q.1∧
   St w0 w (Iw x.2::bQ 1 q.2.2.2 (ints q.2.1.reverse)::ax gl [.slice q.2.2.2.a q.2.2.2.n q.2.2.2.c]::obj lr (Rc .ready)::obj D (.deferred (some []))::ax ga [Value.pointer (some ⟨g,0,none⟩)]::G q.2.2.1::Cr g T::R)) (λq=>q.1.length)
  (g:=(l,[0],[],⟨some ⟨gz,0,none⟩,1,1⟩)) ⟨rfl,hD,h⟩ ?_
 rintro⟨rest,st,done,s⟩ ⟨_,ds⟩ w ⟨hl',hD',h⟩ C hC;dsimp only at hl' hD' h hC;have xj:=uN (s:=s) (vs:=ints st.reverse) h;have xj:s.n=st.length:=by simpa using xj
 with_reducible repeat' (first|refine B3 h ?_|fail)
 have hlen:=hD'.len;have hrl:rest.length≤100000:=by rw[hl']at hl;simp at hl;omega
 cases hD' with
 |nil=>
  refine bp (by simp[xj]) ?_
  refine K9 h λw h=> ?_;rw[List.append_nil]at hl';subst hl';refine abk (g:=lr) (o:=Rc .ready) (o':=Rc .exhausted) (c:=fin D) h λw h=>hf D w ?_;exact(((h.rm 0 rfl).rm 0 rfl).rm 0 rfl).rm 1 rfl
 |@cons x t st rest hx hD'=>
  have xj:s.n=st.length+1:=by simpa using xj
  have hxx:=xu hx;simp only[List.length_cons]at hlen hrl;refine bH (by simp[xj]) ?_
  with_reducible repeat' (first|refine B3 h ?_|fail)
  have e0:aL .i64 (((s.n:Nat):Int) - 1)=(st.length:Nat):=by rw[xj,lO ⟨ah,ah⟩];omega
  show cW s (aL .i64 (((s.n:Nat):Int) - 1)) 1 _;rw[e0];refine vI (s:=s) (vs:=ints (x::st).reverse) h ah (x:=x) (by simp[ints]) ?_
  with_reducible repeat' (first|refine B3 h ?_|fail)
  show SG s 1 0 (aL .i64 (((s.n:Nat):Int) - 1)) _;rw[e0];refine al0 (s:=s) (vs:=ints (x::st).reverse) h ah (by simp;omega) λs2 Io h=> ?_
  have e1:(ints (x::st).reverse).take ((st.length:Nat):Int).toNat=ints st.reverse:=by
   rw[kY,show ints (x::st).reverse=ints st.reverse++[.int .i64 x] by simp[ints],List.take_append_of_le_length bh,List.take_of_length_le (by simp[ints])]
  rw[e1]at h;with_reducible repeat' (first|refine an ?_|refine oI h ?_|refine xB h λw h=> ?_|fail)
  refine arK (T:=T) h hx ?_;refine Qm ?_;refine alY (l:=lr) (R:=Rc) (kk:=[.i .i64,.i .i64]) (x,t.parent) (λc hc=>hc) h λw h=> ?_;have h:=h.front 6 rfl;simp only[Iy]at h;refine hb done rest (x,t.parent) w _ _ hl' h λw h=> ?_;refine⟨Db (g:=lr) (o:=Rc .busy) h,?_⟩;replace h:=Av (g:=lr) (o:=Rc .busy) (Rc .ready) h;generalize w.putObj lr (Rc .ready)=w at h ⊢;refine afs ?_;with_reducible repeat' (first|refine an ?_|refine oI h ?_|refine ij ?_|fail)
  have h:=h.front 7 rfl;simp only[Iy]at h;obtain⟨sk,lk,hlk,h⟩:=Ss h;obtain⟨si,hi⟩:=map_fst hlk hxx.2.2;with_reducible repeat' (first|refine mJ h ?_|fail)
  refine rS (s:=sk) (sz:=3) (es:=lk.map nL) h hxx.2.1 (e:=nL (t,si)) (by rw[pB,hi];rfl) rfl ?_
  have h:=h.front 2 rfl;simp only[Iy]at h;have h:St w0 w (bQ 1 si (ints t.kids)::lP yV (lk.eraseIdx x.toNat)::ax g [.slice sk.a sk.n sk.c]::rws 3 sk (lk.map nL)::G (done++[(x,t.parent)])::Iw ds::bQ 1 s2 (ints st.reverse)::ax gl [.slice s2.a s2.n s2.c]::obj lr (Rc .ready)::obj D (.deferred (some []))::ax ga [Value.pointer (some ⟨g,0,none⟩)]::R):=Iz h hi;have hkl:=hT _ t hxx.2.2;refine ahK (w0:=w0) (G:=λzs=>FT λq:Sl=>mr [bQ 1 q (ints (st.reverse++zs.reverse)),ax gl [.slice q.a q.n q.c]]) (s:=si) (xs:=t.kids) (R:=lP yV (lk.eraseIdx x.toNat)::ax g [.slice sk.a sk.n sk.c]::rws 3 sk (lk.map nL)::G (done++[(x,t.parent)])::Iw ds::obj lr (Rc .ready)::obj D (.deferred (some []))::ax ga [Value.pointer (some ⟨g,0,none⟩)]::R)
   ?_ hkl (λzs i z w1 Rr C1 hz h GG=> ?_) λD2 w h=> ?_
  ·refine St.ex (X:=λq:Sl=>mr [bQ 1 q (ints (st.reverse++([]:List Int).reverse)),ax gl [.slice q.a q.n q.c]]) s2 (St.shut ?_);simp only[List.reverse_nil,List.append_nil];exact h.perm GL
  ·obtain⟨q,h⟩:=St.some h;have h:=St.open h;simp only[List.cons_append,List.nil_append]at h;with_reducible repeat' (first|refine B3 h ?_|refine av h λgx w h=> ?_|fail)
   have hl3:=hD'.len;simp only[tW]at hl3;obtain⟨ys,hys⟩:=hz;have hzl:zs.length≤t.kids.length:=by rw[hys];simp;omega
   refine Ld (s:=q) (vs:=ints (st.reverse++zs.reverse)) h arL bf rfl (by simp;omega) ah λs' w h hn=> ?_
   with_reducible repeat' (first|refine xB h λw h=> ?_|fail)
   have h:=h.rm 0 rfl;refine GG w (St.ex (X:=λq:Sl=>mr [bQ 1 q (ints (st.reverse++(z::zs).reverse)),ax gl [.slice q.a q.n q.c]]) s' (St.shut ?_));have e3:ints (st.reverse++(z::zs).reverse)=ints (st.reverse++zs.reverse)++[.int .i64 z]:=by simp[ints]
   rw[e3];exact h
  ·have h:=h.front 1 rfl;simp only[Iy]at h;obtain⟨q,h⟩:=St.some h;have h:=St.open h;simp only[List.cons_append,List.nil_append]at h;have e4:ints (st.reverse++t.kids.reverse)=ints (t.kids++st).reverse:=by simp
   rw[e4]at h;refine hC (rest,t.kids++st,done++[(x,t.parent)],q) ((),D2::ds) w ⟨by rw[hl'];simp,hD',?_⟩ bh
   have h:=h.perm (M:=obj D2 (.deferred (some []))::Iw ds::yV (t,si)::lP yV (lk.eraseIdx x.toNat)::ax g [.slice sk.a sk.n sk.c]::rws 3 sk (lk.map nL)::bQ 1 q (ints (t.kids++st).reverse)::ax gl [.slice q.a q.n q.c]::obj lr (Rc .ready)::obj D (.deferred (some []))::ax ga [Value.pointer (some ⟨g,0,none⟩)]::G (done++[(x,t.parent)])::R) (by unfold yV;repeat' (first|exact List.Perm.refl _|refine bD 0 rfl ?_|refine bD 1 rfl ?_|refine bD 2 rfl ?_|refine bD 3 rfl ?_|refine bD 4 rfl ?_|refine bD 5 rfl ?_|refine bD 6 rfl ?_|refine bD 7 rfl ?_))
   have h:=K8 h;have h:=h.perm (M:=yV (t,si)::lP yV (lk.eraseIdx x.toNat)::ax g [.slice sk.a sk.n sk.c]::rws 3 sk (lk.map nL)::Iw (D2::ds)::bQ 1 q (ints (t.kids++st).reverse)::ax gl [.slice q.a q.n q.c]::obj lr (Rc .ready)::obj D (.deferred (some []))::ax ga [Value.pointer (some ⟨g,0,none⟩)]::G (done++[(x,t.parent)])::R) GL;have h:=aac h (kO.1 hi).1;have hse:lk.set x.toNat (t,si)=lk:=by
    apply List.ext_getElem?;intro j;by_cases hj:x.toNat=j
    ·subst hj;rw[uw (kO.1 hi).1,hi]
    ·rw[rG hj]
   rw[hse]at h;have h:=Yl hlk (h.perm (M:=ax g [.slice sk.a sk.n sk.c]::rws 3 sk (lk.map nL)::lP yV lk::Iw (D2::ds)::bQ 1 q (ints (t.kids++st).reverse)::ax gl [.slice q.a q.n q.c]::obj lr (Rc .ready)::obj D (.deferred (some []))::ax ga [Value.pointer (some ⟨g,0,none⟩)]::G (done++[(x,t.parent)])::R) GL);exact h.perm GL
theorem ahL{l:List (Int×Int)}{k:Sl→aq}(h:St w0 w L)[a:At L (Cr g) T f](hT:∀(i:Nat) (x:Kt),T[i]?=some x→x.kids.length≤1000000)(hl:l.length≤100000)
  (hD:if T.length=0 then l=[]else Dfs T [0] l) (hk:∀s w',St w0 w' (bQ 1 s (ints (l.map (·.1)))::f (Cr g T))→k s w'):fC (some ⟨g,0,none⟩) w k:=by
 unfold fC D4;obtain⟨R,ho,hb⟩:=a.split;have h:=h.aqe ho;refine av h λg1 w h=> ?_;have h:=(h.Jx 1).perm (M:=bQ 1 ⟨none,0,0⟩ []::ax g1 [.slice none 0 0]::Cr g T::R) GL;refine arN (w0:=w0) (G:=λdone=>FT λq:Sl=>mr [bQ 1 q (ints (done.map (·.1))),ax g1 [.slice q.a q.n q.c]]) (l:=l) (R:=R) ?_ hT hl hD (λdone rest p w Rr C hd h hc=> ?_) λD w h=> ?_
 ·exact St.ex (X:=λq:Sl=>mr [bQ 1 q (ints (([]:List (Int×Int)).map (·.1))),ax g1 [.slice q.a q.n q.c]]) ⟨none,0,0⟩ (St.shut h)
 ·obtain⟨q,h⟩:=St.some h;have h:=St.open h;simp only[List.cons_append,List.nil_append]at h;with_reducible repeat' (first|refine B3 h ?_|refine av h λgx w h=> ?_|fail)
  have hdl:done.length≤100000:=by rw[hd]at hl;simp at hl;omega
  refine Ld (s:=q) h arL bf rfl (by simp;omega) ah λs' w h hn=> ?_
  with_reducible repeat' (first|refine xB h λw h=> ?_|fail)
  have h:=h.rm 0 rfl;refine hc w (St.ex (X:=λq:Sl=>mr [bQ 1 q (ints ((done++[p]).map (·.1))),ax g1 [.slice q.a q.n q.c]]) s' (St.shut ?_));have e3:ints ((done++[p]).map (·.1))=ints (done.map (·.1))++[.int .i64 p.1]:=by simp[ints]
  rw[e3];exact h
 ·have h:=h.front 1 rfl;simp only[Iy]at h;obtain⟨q,h⟩:=St.some h;have h:=St.open h;simp only[List.cons_append,List.nil_append]at h;with_reducible repeat' (first|refine B3 h ?_|fail)
  have h:=K8 ((Ql h).perm (M:=obj D (.deferred (some []))::Iw []::bQ 1 q (ints (l.map (·.1)))::ax g1 [.slice q.a q.n q.c]::Cr g T::R) GL);refine K9 h λw h=>hk q w ?_;exact(h.rm 1 rfl).under hb
end
structure bw where
 at_:Int
 most:Int
 b:Int
 t:Int
 ring:Rg
 x:Int
 won:Bool
 to:Rg
 copy:Option Cp
 next:Nat
 how:Int
 got:Int
 err:Int
def phs:List Nat:=[nw,rK,qK,rO,qM,qO,ob,qL,nX,rL,rM,sD,qN,rP,pW,oP,oQ,qn,pE,oc]
def phF(n:Nat):Value:= .func (.func (phs.getD n oc)) #[] #[]
def bw.cells(O:bw)(p:Option Addr):List Value:=[.int .i64 O.at_,.int .i64 O.most,.int .i64 O.b,.int .i64 O.t,.int .i64 O.ring.At,.int .i64 O.ring.CS,.int .i64 O.x,.bool O.won,.int .i64 O.to.At,.int .i64 O.to.CS,.pointer p,phF O.next,.int .i64 O.how,.int .i64 O.got,.int .i64 O.err]
def uu(g:Nat)(O:bw):HP:=match O.copy with
 |none=>ax g (O.cells none)
 |some c=>FT λgc:Nat=>mr [ax g (O.cells (some ⟨gc,0,none⟩)),PR gc c]
def bw.read(O:bw)(M:bO)(wk:Int):bw×bO×Int:=
 if M.can wk (O.at_+2)then(if (Rg.of (M.get (O.at_+2))).right then({O with ring:=Rg.of (M.get (O.at_+2))},M.tick wk,0)else({O with ring:=Rg.zero},M.tick wk,11))else(O,M,10)
abbrev HX:=bw×bO×Int×Int
section
variable (O:bw) (M:bO) (wk:Int)
def bw.f0:HX:=({O with b:=(M.ld wk (O.at_+1)).2.1,next:=1},(M.ld wk (O.at_+1)).1,0,(M.ld wk (O.at_+1)).2.2)
def bw.f1:HX:=({O with t:=(M.ld wk O.at_).2.1,next:=2},(M.ld wk O.at_).1,0,(M.ld wk O.at_).2.2)
def bw.f2:HX:=if (O.read M wk).2.2 !=0 then((O.read M wk).1,(O.read M wk).2.1,6,(O.read M wk).2.2)
  else if decide (wr ((O.read M wk).1.b - (O.read M wk).1.t)<(O.read M wk).1.ring.size)then({(O.read M wk).1 with next:=6},(O.read M wk).2.1,0,0)
  else if decide ((O.read M wk).1.ring.CS≥(O.read M wk).1.most)then((O.read M wk).1,(O.read M wk).2.1,4,0)
  else({(O.read M wk).1 with next:=3},(O.read M wk).2.1,0,0)
def bw.lg:Int:=wr (O.ring.CS+1)
def bw.L0:Rg:=⟨(M.cells.length:Nat),O.lg⟩
def bw.L1:Int:=((2 ^ O.lg.toNat:Nat):Int)
def bw.f3:HX:=if 0≤O.lg∧O.lg≤8∧M.caller wk=true then
   (if M.room O.L1 then
    (if RG O.ring (O.L0 M) O.t O.b=0 then({O with to:=O.L0 M,copy:=some (Cp.begin O.ring (O.L0 M) O.t O.b),next:=4},(M.tick wk).grow O.L1,0,0)
    else({O with to:=O.L0 M,copy:=none,next:=4},(M.tick wk).grow O.L1,0,RG O.ring (O.L0 M) O.t O.b))
   else(O,M,6,21))
  else(O,M,6,10)
def bw.f4(c:Cp):HX:=if c.at_=c.jN then({O with next:=5},M,0,0)
   else if M.can wk c.spot then
    (if c.BR then({O with copy:=some (c.next 0),next:=if (c.next 0).at_=c.jN then 5 else O.next},(M.tick wk).put c.spot c.has,0,0)
    else({O with copy:=some (c.next (M.get c.spot))},M.tick wk,0,0))
   else(O,M,0,10)
def bw.f5:HX:=({O with ring:=O.to,next:=6},(M.st wk (O.at_+2) O.to.word).1,0,(M.st wk (O.at_+2) O.to.word).2)
def bw.f6:HX:=({O with next:=7},(M.st wk (O.ring.place O.b) O.x).1,0,(M.st wk (O.ring.place O.b) O.x).2)
def bw.f7:HX:=(O,(M.st wk (O.at_+1) (wr (O.b+1))).1,1,(M.st wk (O.at_+1) (wr (O.b+1))).2)
def bw.f8:HX:=({O with b:=(M.ld wk (O.at_+1)).2.1,next:=9},(M.ld wk (O.at_+1)).1,0,(M.ld wk (O.at_+1)).2.2)
def bw.f9:HX:=((bw.read {O with next:=10} M wk).1,(bw.read {O with next:=10} M wk).2.1,0,(bw.read {O with next:=10} M wk).2.2)
def bw.f10:HX:=({O with next:=11},(M.st wk (O.at_+1) (wr (O.b - 1))).1,0,(M.st wk (O.at_+1) (wr (O.b - 1))).2)
def bw.f11:HX:=({O with t:=(M.ld wk O.at_).2.1,next:=if decide ((M.ld wk O.at_).2.1>wr (O.b - 1))then 14 else 12},(M.ld wk O.at_).1,0,(M.ld wk O.at_).2.2)
def bw.f12:HX:=({O with got:=(M.ld wk (O.ring.place (wr (O.b - 1)))).2.1,next:=13},(M.ld wk (O.ring.place (wr (O.b - 1)))).1,if decide (O.t<wr (O.b - 1))then 1 else 0,(M.ld wk (O.ring.place (wr (O.b - 1)))).2.2)
def bw.f13:HX:=({O with won:=(M.Vc wk O.at_ O.t (wr (O.t+1))).2.1,next:=14},(M.Vc wk O.at_ O.t (wr (O.t+1))).1,0,(M.Vc wk O.at_ O.t (wr (O.t+1))).2.2)
def bw.f14:HX:=(O,(M.st wk (O.at_+1) O.b).1,if O.won then 1 else 3,(M.st wk (O.at_+1) O.b).2)
def bw.f15:HX:=({O with t:=(M.ld wk O.at_).2.1,next:=16},(M.ld wk O.at_).1,0,(M.ld wk O.at_).2.2)
def bw.f16:HX:=({O with b:=(M.ld wk (O.at_+1)).2.1,next:=17},(M.ld wk (O.at_+1)).1,if decide (O.t≥(M.ld wk (O.at_+1)).2.1)then 3 else 0,(M.ld wk (O.at_+1)).2.2)
def bw.f17:HX:=((bw.read {O with next:=18} M wk).1,(bw.read {O with next:=18} M wk).2.1,0,(bw.read {O with next:=18} M wk).2.2)
def bw.f18:HX:=({O with got:=(M.ld wk (O.ring.place O.t)).2.1,next:=19},(M.ld wk (O.ring.place O.t)).1,2,(M.ld wk (O.ring.place O.t)).2.2)
def bw.f19:HX:=(O,(M.Vc wk O.at_ O.t (wr (O.t+1))).1,if !(M.Vc wk O.at_ O.t (wr (O.t+1))).2.1 then 5 else 1,(M.Vc wk O.at_ O.t (wr (O.t+1))).2.2)
def bw.run:HX:=match O.next with
 |0=>O.f0 M wk
 |1=>O.f1 M wk
 |2=>O.f2 M wk
 |3=>O.f3 M wk
 |4=>match O.copy with
  |none=>(O,M,0,2)
  |some c=>O.f4 M wk c
 |5=>O.f5 M wk
 |6=>O.f6 M wk
 |7=>O.f7 M wk
 |8=>O.f8 M wk
 |9=>O.f9 M wk
 |10=>O.f10 M wk
 |11=>O.f11 M wk
 |12=>O.f12 M wk
 |13=>O.f13 M wk
 |14=>O.f14 M wk
 |15=>O.f15 M wk
 |16=>O.f16 M wk
 |17=>O.f17 M wk
 |18=>O.f18 M wk
 |_=>O.f19 M wk
end
def bw.live(O:bw):Bool:=(O.how==0)||(O.how==2)
def bw.step(O:bw)(M:bO)(wk:Int):bw×bO:=
 if O.live then({(O.run M wk).1 with how:=if (O.run M wk).2.2.2=0 then(O.run M wk).2.2.1 else 6,err:=(O.run M wk).2.2.2},(O.run M wk).2.1)else(O,M)
section
variable {w0 w:World} {L R:List HP} {gm go:Nat} {M:bO} {O:bw} {p:Option Addr} {wk:Int} {f:HP→List HP}
def y7(x:Int):Prop:=0≤x∧x≤1048576
theorem abN{at_ most:Int}{k:Int→aq}(h:St w0 w L)(hk:∀w',St w0 w' L→k at_ w'):bj #[.int .i64 at_,.int .i64 most] w k:=by
 unfold bj;exact av h λg w' h=>cv (g:=g) (o:=0) h rfl (hk w' h.drop)
theorem CI{at_ most:Int}{k:Int→aq}(hA:y7 at_)(h:St w0 w L)(hk:∀w',St w0 w' L→k (at_+1) w'):aD #[.int .i64 at_,.int .i64 most] w k:=by
 unfold aD;unfold y7 at hA;refine av h λg w' h=>cv (g:=g) (o:=0) h rfl ?_;rw[lO ⟨ah,ah⟩];exact hk w' h.drop
theorem abO{at_ most:Int}{k:Int→aq}(hA:y7 at_)(h:St w0 w L)(hk:∀w',St w0 w' L→k (at_+2) w'):bS #[.int .i64 at_,.int .i64 most] w k:=by
 unfold bS;unfold y7 at hA;refine av h λg w' h=>cv (g:=g) (o:=0) h rfl ?_;rw[lO ⟨ah,ah⟩];exact hk w' h.drop
theorem Gr{cs:List Value}{a':Int}{off:Nat}{nx:Value}{k:Int×Int→aq}(h:St w0 w (ax go cs::bN gm M::R))(ho:off<cs.length)(hn:11<cs.length)(hx:nx.oneCell'=true)
  (hk:∀w',St w0 w' (ax go ((cs.set off (.int .i64 (M.ld wk a').2.1)).set 11 nx)::bN gm (M.ld wk a').1::R)→k (0,(M.ld wk a').2.2) w'):bc (some ⟨go,0,none⟩) (some ⟨gm,0,none⟩) wk a' (some ⟨go,off,none⟩) nx w k:=by
 unfold bc Fc;refine aaf (gm:=gm) (M:=M) h λw2 h=>an (jR (g:=go) (o:=off) h rfl ho λw4 h=>an ?_);refine jR (g:=go) (o:=11) h hx (by simpa using hn) λw6 h=>hk w6 h
theorem Ym{cs:List Value}{a' x:Int}{nx:Value}{k:Int×Int→aq}(h:St w0 w (ax go cs::bN gm M::R))(hn:11<cs.length)(hx:nx.oneCell'=true)
  (hk:∀w',St w0 w' (ax go (cs.set 11 nx)::bN gm (M.st wk a' x).1::R)→k (0,(M.st wk a' x).2) w'):dc (some ⟨go,0,none⟩) (some ⟨gm,0,none⟩) wk a' x nx w k:=by
 unfold dc DI;refine an (jR (g:=go) (o:=11) h hx hn λw2 h=> ?_);exact RH (gm:=gm) (M:=M) h λw4 h=>hk w4 h
theorem afZ(hA:y7 O.at_){k:Int→aq}(h:St w0 w (ax go (O.cells p)::bN gm M::R))(hk:∀w',St w0 w' (ax go ((O.read M wk).1.cells p)::bN gm (O.read M wk).2.1::R)→k (O.read M wk).2.2 w'):dI (some ⟨go,0,none⟩) (some ⟨gm,0,none⟩) wk w k:=by
 unfold dI Fe;refine an (qv (g:=go) (o:=0) h (by simp[bw.cells]) ?_)
 refine abO (most:=O.most) hA h λw4 h=> ?_;unfold bw.read at hk;refine afV (g:=gm) (M:=M) h (λhc w6 h=> ?_) λhc=> ?_
 ·rw[if_pos hc]at hk;refine bp rfl (aB5 h λw8 h=> ?_);cases hr:(Rg.of (M.get (O.at_+2))).right with
  |true=>
   rw[if_pos hr]at hk;rw[if_pos rfl];refine an (XN (g:=go) (o:=4) (n:=2) h rfl (by simp[bw.cells]) (by intro v hv;simp[Rg.ag]at hv;rcases hv with rfl|rfl<;>rfl) λw10 h=>hk w10 h)
  |false=>
   rw[if_neg (by rw[hr];simp)]at hk
   rw[if_neg bh];refine an (XN (g:=go) (o:=4) (n:=2) h rfl (by simp[bw.cells]) (by intro v hv;simp[Rg.ag,Rg.zero]at hv;rw[hv];rfl) λw10 h=>hk w10 h)
 ·rw[if_neg (by rw[hc];simp)]at hk
  exact bH rfl (hk w4 h)
end
section
variable {w0 w:World} {L R:List HP} {gm go:Nat} {M:bO} {O:bw} {p:Option Addr} {wk:Int} {k:Int×Int→aq}
abbrev NR(w0:World)(go gm:Nat)(p:Option Addr)(R:List HP)(k:Int×Int→aq)(r:HX):Prop:=∀w',St w0 w' (ax go (r.1.cells p)::bN gm r.2.1::R)→k (r.2.2.1,r.2.2.2) w'
theorem p0(hA:y7 O.at_)(h:St w0 w (ax go (O.cells p)::bN gm M::R))(hk:NR w0 go gm p R k (O.f0 M wk)):eZ (some ⟨go,0,none⟩) (some ⟨gm,0,none⟩) wk w k:=by
 unfold eZ vR;refine aK h λw1 h=>an (qv (g:=go) (o:=0) h (by simp[bw.cells]) (an ?_))
 refine CI (most:=O.most) hA h λw6 h=> ?_;exact Gr (off:=2) h (by simp[bw.cells]) (by simp[bw.cells]) rfl λw8 h=>hk w8 h
theorem p1(hA:y7 O.at_)(h:St w0 w (ax go (O.cells p)::bN gm M::R))(hk:NR w0 go gm p R k (O.f1 M wk)):ix (some ⟨go,0,none⟩) (some ⟨gm,0,none⟩) wk w k:=by
 unfold ix AZ;refine aK h λw1 h=>an (qv (g:=go) (o:=0) h (by simp[bw.cells]) (an ?_))
 refine abN (most:=O.most) h λw6 h=> ?_;exact Gr (off:=3) h (by simp[bw.cells]) (by simp[bw.cells]) rfl λw8 h=>hk w8 h
theorem p2(hA:y7 O.at_)(h:St w0 w (ax go (O.cells p)::bN gm M::R))(hk:NR w0 go gm p R k (O.f2 M wk)):gF (some ⟨go,0,none⟩) (some ⟨gm,0,none⟩) wk w k:=by
 unfold gF zo;refine afZ hA h λw2 h=> ?_;unfold bw.f2 at hk;generalize O.read M wk=r at h hk;refine aF (λhb=> ?_) λhb=> ?_
 ·rw[if_pos hb]at hk;exact hk w2 h
 ·rw[if_neg (by rw[hb];simp)]at hk
  refine aK h λw3 h=>an (cv (g:=go) (o:=2) h rfl (an (cv (g:=go) (o:=3) h rfl (an (qv (g:=go) (o:=4) h (by simp[bw.cells]) ?_)))))
  have h3:=h;refine aae (r:=r.1.ring) h λw11 h=>eU (g:=go) h3 h (eU (g:=go) h3 h ?_);refine aF (λhb=> ?_) λhb=> ?_
  ·have hb':decide (wr (r.1.b - r.1.t)<r.1.ring.size)=true:=hb;rw[if_pos hb']at hk;exact an (jR (g:=go) (o:=11) h rfl (by simp[bw.cells]) λw13 h=>hk w13 h)
  ·have hb':decide (wr (r.1.b - r.1.t)<r.1.ring.size)=false:=hb;rw[if_neg (by rw[hb'];simp)]at hk
   refine aK h λw14 h=>an (cv (g:=go) (o:=5) h rfl (an (cv (g:=go) (o:=1) h rfl ?_)));refine aF (λhb=> ?_) λhb=> ?_
   ·rw[if_pos hb]at hk;exact hk w14 h
   ·rw[if_neg (by rw[hb];simp)]at hk
    exact an (jR (g:=go) (o:=11) h rfl (by simp[bw.cells]) λw20 h=>hk w20 h)
theorem p5(hA:y7 O.at_)(h:St w0 w (ax go (O.cells p)::bN gm M::R))(hk:NR w0 go gm p R k (O.f5 M wk)):gG (some ⟨go,0,none⟩) (some ⟨gm,0,none⟩) wk w k:=by
 unfold gG zu;refine an (qv (g:=go) (o:=8) h (by simp[bw.cells]) (an ?_))
 refine XN (g:=go) (o:=4) (n:=2) h rfl (by simp[bw.cells]) (by intro v hv;simp[bw.cells]at hv;rcases hv with rfl|rfl<;>rfl) λw4 h=> ?_
 have h:St w0 w4 (ax go (bw.cells {O with ring:=O.to} p)::bN gm M::R):=h;refine aK h λw5 h=>an (qv (g:=go) (o:=0) h (by simp[bw.cells]) (an (qv (g:=go) (o:=4) h (by simp[bw.cells]) ?_)))
 have h5:=h;refine abO (most:=O.most) hA h λw11 h=>eU (g:=go) h5 h ?_;refine amg (r:=O.to) h λw13 h=> ?_;exact Ym h (by simp[bw.cells]) rfl λw15 h=>hk w15 h
theorem p6(hA:y7 O.at_)(h:St w0 w (ax go (O.cells p)::bN gm M::R))(hk:NR w0 go gm p R k (O.f6 M wk)):fH (some ⟨go,0,none⟩) (some ⟨gm,0,none⟩) wk w k:=by
 unfold fH xM;refine aK h λw1 h=>an (qv (g:=go) (o:=4) h (by simp[bw.cells]) (an (cv (g:=go) (o:=2) h rfl (an (cv (g:=go) (o:=6) h rfl ?_)))))
 have h1:=h;refine RF (r:=O.ring) h λw9 h=>eU (g:=go) h1 h ?_;exact Ym h (by simp[bw.cells]) rfl λw11 h=>hk w11 h
theorem p7(hA:y7 O.at_)(h:St w0 w (ax go (O.cells p)::bN gm M::R))(hk:NR w0 go gm p R k (O.f7 M wk)):gH (some ⟨go,0,none⟩) (some ⟨gm,0,none⟩) wk w k:=by
 unfold gH zv;refine aK h λw1 h=>an (qv (g:=go) (o:=0) h (by simp[bw.cells]) (an (cv (g:=go) (o:=2) h rfl ?_)))
 have h1:=h;refine CI (most:=O.most) hA h λw7 h=>eU (g:=go) h1 h ?_;exact RH (gm:=gm) (M:=M) h λw9 h=>hk w9 h
theorem p8(hA:y7 O.at_)(h:St w0 w (ax go (O.cells p)::bN gm M::R))(hk:NR w0 go gm p R k (O.f8 M wk)):fI (some ⟨go,0,none⟩) (some ⟨gm,0,none⟩) wk w k:=by
 unfold fI xN;refine aK h λw1 h=>an (qv (g:=go) (o:=0) h (by simp[bw.cells]) (an ?_))
 refine CI (most:=O.most) hA h λw6 h=> ?_;exact Gr (off:=2) h (by simp[bw.cells]) (by simp[bw.cells]) rfl λw8 h=>hk w8 h
theorem p9(hA:y7 O.at_)(h:St w0 w (ax go (O.cells p)::bN gm M::R))(hk:NR w0 go gm p R k (O.f9 M wk)):iy (some ⟨go,0,none⟩) (some ⟨gm,0,none⟩) wk w k:=by
 unfold iy A1;refine an (jR (g:=go) (o:=11) h rfl (by simp[bw.cells]) λw2 h=> ?_)
 have h:St w0 w2 (ax go (bw.cells {O with next:=10} p)::bN gm M::R):=h
 exact afZ (O:={O with next:=10}) hA h λw4 h=>hk w4 h
theorem p10(hA:y7 O.at_)(h:St w0 w (ax go (O.cells p)::bN gm M::R))(hk:NR w0 go gm p R k (O.f10 M wk)):iz (some ⟨go,0,none⟩) (some ⟨gm,0,none⟩) wk w k:=by
 unfold iz A2;refine aK h λw1 h=>an (qv (g:=go) (o:=0) h (by simp[bw.cells]) (an (cv (g:=go) (o:=2) h rfl ?_)))
 have h1:=h;refine CI (most:=O.most) hA h λw7 h=>eU (g:=go) h1 h ?_;exact Ym h (by simp[bw.cells]) rfl λw9 h=>hk w9 h
theorem p11(hA:y7 O.at_)(h:St w0 w (ax go (O.cells p)::bN gm M::R))(hk:NR w0 go gm p R k (O.f11 M wk)):js (some ⟨go,0,none⟩) (some ⟨gm,0,none⟩) wk w k:=by
 unfold js Ce;refine aK h λw1 h=>an (qv (g:=go) (o:=0) h (by simp[bw.cells]) (an ?_))
 refine abN (most:=O.most) h λw6 h=> ?_;unfold bw.f11 at hk;refine Gr (off:=3) h (by simp[bw.cells]) (by simp[bw.cells]) rfl λw8 h=> ?_
 refine aK h λw9 h=>an (cv (g:=go) (o:=3) (n:=(M.ld wk O.at_).2.1) h rfl (an (cv (g:=go) (o:=2) (n:=O.b) h rfl ?_)));refine aF (λhb=> ?_) λhb=> ?_
 ·have hb':decide ((M.ld wk O.at_).2.1>wr (O.b - 1))=true:=hb;rw[if_pos hb']at hk;exact an (jR (g:=go) (o:=11) h rfl (by simp[bw.cells]) λw15 h=>hk w15 h)
 ·have hb':decide ((M.ld wk O.at_).2.1>wr (O.b - 1))=false:=hb;rw[if_neg (by rw[hb'];simp)]at hk
  exact hk w9 h
theorem p12(hA:y7 O.at_)(h:St w0 w (ax go (O.cells p)::bN gm M::R))(hk:NR w0 go gm p R k (O.f12 M wk)):gI (some ⟨go,0,none⟩) (some ⟨gm,0,none⟩) wk w k:=by
 unfold gI zw;refine aK h λw1 h=>an (qv (g:=go) (o:=4) h (by simp[bw.cells]) (an (cv (g:=go) (o:=2) h rfl (an ?_))))
 refine RF (r:=O.ring) h λw8 h=> ?_;unfold bw.f12 at hk;refine Gr (off:=13) h (by simp[bw.cells]) (by simp[bw.cells]) rfl λw10 h=> ?_
 refine aK h λw11 h=>an (cv (g:=go) (o:=3) (n:=O.t) h rfl (an (cv (g:=go) (o:=2) (n:=O.b) h rfl ?_)));refine aF (λhb=> ?_) λhb=> ?_
 ·have hb':decide (O.t<wr (O.b - 1))=true:=hb;rw[if_pos hb']at hk;exact hk w11 h
 ·have hb':decide (O.t<wr (O.b - 1))=false:=hb;rw[if_neg (by rw[hb'];simp)]at hk
  exact hk w11 h
theorem p13(hA:y7 O.at_)(h:St w0 w (ax go (O.cells p)::bN gm M::R))(hk:NR w0 go gm p R k (O.f13 M wk)):iA (some ⟨go,0,none⟩) (some ⟨gm,0,none⟩) wk w k:=by
 unfold iA A3;refine aK h λw1 h=>an (qv (g:=go) (o:=0) h (by simp[bw.cells]) (an (cv (g:=go) (o:=3) h rfl (an (cv (g:=go) (o:=3) h rfl ?_)))))
 have h1:=h;refine abN (most:=O.most) h λw9 h=>eU (g:=go) h1 h (eU (g:=go) h1 h ?_);refine aj2 (gm:=gm) (M:=M) h λw11 h=>an (jR (g:=go) (o:=7) h rfl (by simp[bw.cells]) λw13 h=>an (jR (g:=go) (o:=11) h rfl (by simp[bw.cells]) λw15 h=>hk w15 h))
theorem p14(hA:y7 O.at_)(h:St w0 w (ax go (O.cells p)::bN gm M::R))(hk:NR w0 go gm p R k (O.f14 M wk)):iB (some ⟨go,0,none⟩) (some ⟨gm,0,none⟩) wk w k:=by
 unfold iB A4;refine an (ajE (g:=go) (o:=7) (n:=O.won) h rfl ?_);unfold bw.f14 at hk;refine aF (λhb=> ?_) λhb=> ?_
 ·rw[if_pos hb]at hk;refine aK h λw1 h=>an (qv (g:=go) (o:=0) h (by simp[bw.cells]) (an (cv (g:=go) (o:=2) h rfl ?_)))
  have h1:=h;refine CI (most:=O.most) hA h λw7 h=>eU (g:=go) h1 h ?_;exact RH (gm:=gm) (M:=M) h λw9 h=>hk w9 h
 ·rw[if_neg (by rw[hb];simp)]at hk
  refine aK h λw1 h=>an (qv (g:=go) (o:=0) h (by simp[bw.cells]) (an (cv (g:=go) (o:=2) h rfl ?_)))
  have h1:=h;refine CI (most:=O.most) hA h λw7 h=>eU (g:=go) h1 h ?_;exact RH (gm:=gm) (M:=M) h λw9 h=>hk w9 h
theorem p15(hA:y7 O.at_)(h:St w0 w (ax go (O.cells p)::bN gm M::R))(hk:NR w0 go gm p R k (O.f15 M wk)):gJ (some ⟨go,0,none⟩) (some ⟨gm,0,none⟩) wk w k:=by
 unfold gJ zy;refine aK h λw1 h=>an (qv (g:=go) (o:=0) h (by simp[bw.cells]) (an ?_))
 refine abN (most:=O.most) h λw6 h=> ?_;exact Gr (off:=3) h (by simp[bw.cells]) (by simp[bw.cells]) rfl λw8 h=>hk w8 h
theorem p16(hA:y7 O.at_)(h:St w0 w (ax go (O.cells p)::bN gm M::R))(hk:NR w0 go gm p R k (O.f16 M wk)):eD (some ⟨go,0,none⟩) (some ⟨gm,0,none⟩) wk w k:=by
 unfold eD uW;refine aK h λw1 h=>an (qv (g:=go) (o:=0) h (by simp[bw.cells]) (an ?_))
 refine CI (most:=O.most) hA h λw6 h=> ?_;unfold bw.f16 at hk;refine Gr (off:=2) h (by simp[bw.cells]) (by simp[bw.cells]) rfl λw8 h=> ?_
 refine aK h λw9 h=>an (cv (g:=go) (o:=3) (n:=O.t) h rfl (an (cv (g:=go) (o:=2) (n:=(M.ld wk (O.at_+1)).2.1) h rfl ?_)));refine aF (λhb=> ?_) λhb=> ?_
 ·rw[if_pos hb]at hk;exact hk w9 h
 ·rw[if_neg (by rw[hb];simp)]at hk;exact hk w9 h
theorem p17(hA:y7 O.at_)(h:St w0 w (ax go (O.cells p)::bN gm M::R))(hk:NR w0 go gm p R k (O.f17 M wk)):fJ (some ⟨go,0,none⟩) (some ⟨gm,0,none⟩) wk w k:=by
 unfold fJ xO;refine an (jR (g:=go) (o:=11) h rfl (by simp[bw.cells]) λw2 h=> ?_)
 have h:St w0 w2 (ax go (bw.cells {O with next:=18} p)::bN gm M::R):=h
 exact afZ (O:={O with next:=18}) hA h λw4 h=>hk w4 h
theorem p18(hA:y7 O.at_)(h:St w0 w (ax go (O.cells p)::bN gm M::R))(hk:NR w0 go gm p R k (O.f18 M wk)):e7 (some ⟨go,0,none⟩) (some ⟨gm,0,none⟩) wk w k:=by
 unfold e7 vS;refine aK h λw1 h=>an (qv (g:=go) (o:=4) h (by simp[bw.cells]) (an (cv (g:=go) (o:=3) h rfl (an ?_))))
 refine RF (r:=O.ring) h λw8 h=> ?_;exact Gr (off:=13) h (by simp[bw.cells]) (by simp[bw.cells]) rfl λw10 h=>hk w10 h
theorem p19(hA:y7 O.at_)(h:St w0 w (ax go (O.cells p)::bN gm M::R))(hk:NR w0 go gm p R k (O.f19 M wk)):fK (some ⟨go,0,none⟩) (some ⟨gm,0,none⟩) wk w k:=by
 unfold fK xP;refine aK h λw1 h=>an (qv (g:=go) (o:=0) h (by simp[bw.cells]) (an (cv (g:=go) (o:=3) h rfl (an (cv (g:=go) (o:=3) h rfl ?_)))))
 have h1:=h;refine abN (most:=O.most) h λw9 h=>eU (g:=go) h1 h (eU (g:=go) h1 h ?_);unfold bw.f19 at hk;refine aj2 (gm:=gm) (M:=M) h λw11 h=> ?_;refine aF (λhb=> ?_) λhb=> ?_
 ·have hb':(!(M.Vc wk O.at_ O.t (wr (O.t+1))).2.1)=true:=hb;rw[if_pos hb']at hk;exact hk w11 h
 ·have hb':(!(M.Vc wk O.at_ O.t (wr (O.t+1))).2.1)=false:=hb;rw[if_neg (by rw[hb'];simp)]at hk;exact hk w11 h
end
section
variable {w0 w:World} {L R:List HP} {gm go:Nat} {M:bO} {O:bw} {p:Option Addr} {wk:Int} {k:Int×Int→aq}
theorem rj(hc:O.copy=none):uu go O=ax go (O.cells none):=by unfold uu;rw[hc]
theorem aec{c:Cp}(hc:O.copy=some c):uu go O=FT λgc:Nat=>mr [ax go (O.cells (some ⟨gc,0,none⟩)),PR gc c]:=by unfold uu;rw[hc]
theorem Ib{c:Cp}(hc:O.copy=some c)(h:St w0 w (uu go O::R)):∃gc,St w0 w (ax go (O.cells (some ⟨gc,0,none⟩))::PR gc c::R):=by
 rw[aec hc]at h;obtain⟨gc,h⟩:=h.some;exact⟨gc,h.open⟩
theorem CJ{c:Cp}{gc:Nat}(hc:O.copy=some c)(h:St w0 w (ax go (O.cells (some ⟨gc,0,none⟩))::PR gc c::R)):St w0 w (uu go O::R):=by
 rw[aec hc];exact St.ex (X:=λgc:Nat=>mr [ax go (O.cells (some ⟨gc,0,none⟩)),PR gc c]) gc (St.shut h)
theorem arO{a b:Int}{c:aq}(h:St w0 w (uu go O::R))(hk:∀w',St w0 w' (uu go {O with how:=a,err:=b}::R)→c w'):
  bJ w ⟨go,12,none⟩ (.int .i64 a) λw=>bJ w ⟨go,14,none⟩ (.int .i64 b) c:=by
 cases hc:O.copy with
 |none=>
  rw[rj hc]at h;have e:uu go {O with how:=a,err:=b}=ax go (bw.cells {O with how:=a,err:=b} none):=rj hc;rw[e]at hk;exact jR (g:=go) (o:=12) h rfl (by simp[bw.cells]) λw1 h=>jR (g:=go) (o:=14) h rfl (by simp[bw.cells]) λw2 h=>hk w2 h
 |some c=>
  obtain⟨gc,h⟩:=Ib hc h;refine jR (g:=go) (o:=12) h rfl (by simp[bw.cells]) λw1 h=>jR (g:=go) (o:=14) h rfl (by simp[bw.cells]) λw2 h=>hk w2 ?_
  exact CJ (O:={O with how:=a,err:=b}) (gc:=gc) (c:=c) hc h
theorem p3(h:St w0 w (ax go (O.cells none)::bN gm M::R))(hcp:O.copy=none)(hM:M.OK)(hb:xb O.b)(ht:xb O.t)(hk:∀w',St w0 w' (uu go (O.f3 M wk).1::bN gm (O.f3 M wk).2.1::R)→k ((O.f3 M wk).2.2.1,(O.f3 M wk).2.2.2) w'):jw (some ⟨go,0,none⟩) (some ⟨gm,0,none⟩) wk w k:=by
 unfold jw A0;refine an (cv (g:=go) (o:=5) (n:=O.ring.CS) h rfl ?_);unfold bw.f3 at hk;refine av2 (g:=gm) (M:=M) (log:=O.lg) h hM (λh0 h8 hca hr w4 h=> ?_) (λh0 h8 hca hr w4 h=> ?_) λhno w4 h=> ?_
 ·have hr':M.room O.L1=true:=hr;rw[if_pos ⟨h0,h8,hca⟩,if_pos hr']at hk;refine av h λg5 w6 h=>mW (g:=g5) h rfl rfl (by intro v hv;simp[Rg.ag]at hv;rcases hv with rfl|rfl<;>rfl) λw7 h=>bp rfl ?_
  refine jG (g:=g5) h rfl (an ?_);refine XN (g:=go) (o:=8) (n:=2) h rfl (by simp[bw.cells]) (by intro v hv;simp[Rg.ag]at hv;rcases hv with rfl|rfl<;>rfl) λw10 h=>aK h λw11 h=>an ?_
  have h:St w0 w11 (ax g5 (Rg.ag (O.L0 M)).toList::ax go (bw.cells {O with to:=O.L0 M} none)::bN gm ((M.tick wk).grow O.L1)::R):=h;refine qv (g:=go) (o:=4) h (by simp[bw.cells]) (jG (g:=g5) h rfl (an (cv (g:=go) (o:=3) (n:=O.t) h rfl (an (cv (g:=go) (o:=2) (n:=O.b) h rfl ?_)))))
  refine av3 (a:=O.ring) (b:=O.L0 M) ht hb h (λhe gc w20 h=> ?_) λhe w20 h=> ?_
  ·rw[if_pos he]at hk;refine an (jR (g:=go) (o:=10) h rfl (by simp[bw.cells]) λw22 h=>an (jR (g:=go) (o:=11) h rfl (by simp[bw.cells]) λw24 h=>hk w24 ?_))
   refine CJ (O:={O with to:=O.L0 M,copy:=some (Cp.begin O.ring (O.L0 M) O.t O.b),next:=4}) (gc:=gc) (c:=Cp.begin O.ring (O.L0 M) O.t O.b) rfl ?_
   exact(h.rm 1 rfl).swap
  ·rw[if_neg he]at hk;refine an (jR (g:=go) (o:=10) h rfl (by simp[bw.cells]) λw22 h=>an (jR (g:=go) (o:=11) h rfl (by simp[bw.cells]) λw24 h=>hk w24 ?_))
   rw[rj (O:={O with to:=O.L0 M,copy:=none,next:=4}) rfl]
   exact h.drop
 ·have hr':M.room O.L1=false:=hr;rw[if_pos ⟨h0,h8,hca⟩,if_neg (by rw[hr'];simp)]at hk
  refine av h λg5 w6 h=>mW (g:=g5) h rfl rfl (by intro v hv;simp[Rg.ag,Rg.zero]at hv;rw[hv];rfl) λw7 h=>bH rfl (hk w7 ?_)
  rw[rj hcp];exact h.drop
 ·rw[if_neg hno]at hk;refine av h λg5 w6 h=>mW (g:=g5) h rfl rfl (by intro v hv;simp[Rg.ag,Rg.zero]at hv;rw[hv];rfl) λw7 h=>bH rfl (hk w7 ?_)
  rw[rj hcp];exact h.drop
theorem p4{c:Cp}{gc:Nat}(h:St w0 w (ax go (O.cells (some ⟨gc,0,none⟩))::PR gc c::bN gm M::R))(hcp:O.copy=some c)(hk:∀w',St w0 w' (uu go (O.f4 M wk c).1::bN gm (O.f4 M wk c).2.1::R)→k ((O.f4 M wk c).2.2.1,(O.f4 M wk c).2.2.2) w'):iP (some ⟨go,0,none⟩) (some ⟨gm,0,none⟩) wk w k:=by
 unfold iP zq;refine an (B2 (g:=go) (o:=10) (n:=some ⟨gc,0,none⟩) h rfl ?_);unfold bw.f4 at hk;have h:St w0 w (PR gc c::bN gm M::ax go (O.cells (some ⟨gc,0,none⟩))::R):=h.perm GL;refine av4 h (λhe w4 h=> ?_) (λhne hc w4 h=> ?_) (λhne hc hl w4 h=> ?_) λhne hc hl w4 h=> ?_
 ·rw[if_pos he]at hk;refine bH rfl (an (jR (g:=go) (o:=11) h rfl (by simp[bw.cells]) λw6 h=>hk w6 ?_))
  exact CJ (O:={O with next:=5}) (gc:=gc) (c:=c) hcp (h.perm GL)
 ·rw[if_neg hne,if_neg (by rw[hc];simp)]at hk
  exact bp rfl (hk w4 (CJ (O:=O) (gc:=gc) (c:=c) hcp (h.perm GL)))
 ·rw[if_neg hne,if_pos hc,if_neg (by rw[hl];simp)]at hk
  exact bp rfl (hk w4 (CJ (O:={O with copy:=some (c.next (M.get c.spot))}) (gc:=gc) (c:=c.next (M.get c.spot)) rfl (h.perm GL)))
 ·rw[if_neg hne,if_pos hc,if_pos hl]at hk;refine aF (λhb=> ?_) λhb=> ?_
  ·have hb':(c.next 0).at_=c.jN:=by simpa using hb
   rw[if_pos hb']at hk;refine an (jR (g:=go) (o:=11) h rfl (by simp[bw.cells]) λw6 h=>hk w6 ?_)
   exact CJ (O:={O with copy:=some (c.next 0),next:=5}) (gc:=gc) (c:=c.next 0) rfl (h.perm GL)
  ·have hb':¬(c.next 0).at_=c.jN:=by simpa using hb
   rw[if_neg hb']at hk;exact hk w4 (CJ (O:={O with copy:=some (c.next 0),next:=O.next}) (gc:=gc) (c:=c.next 0) rfl (h.perm GL))
structure bw.Gs (O:bw):Prop where
 n3:O.next=3→O.copy=none∧xb O.b∧xb O.t
 n4:O.next=4→∃c,O.copy=some c
 n:O.next≤19
 a:y7 O.at_
theorem o6{bZ:eb}{id:FuncId}{a b c':Value}{w:World}{c:Value→aq}{d:bu}(e:∀args w c,bZ (.func id) args w c=d args.toList w c)(h:d [a,b,c'] w c):mT bZ (.func (.func id) #[] #[]) #[a,b,c'] w c:=
 bX e h
theorem adn{a b:Option Addr}{i:Int}{w:World}{c:Value→aq}(h:eZ a b i w λr w=>c (eW (dz [(.i .i64),(.i .i64)] r)) w):DC [.pointer a,.pointer b,.int .i64 i] w c:=h
theorem aj9{a b:Option Addr}{i:Int}{w:World}{c:Value→aq}(h:ix a b i w λr w=>c (eW (dz [(.i .i64),(.i .i64)] r)) w):Hu [.pointer a,.pointer b,.int .i64 i] w c:=h
theorem ahM{a b:Option Addr}{i:Int}{w:World}{c:Value→aq}(h:gF a b i w λr w=>c (eW (dz [(.i .i64),(.i .i64)] r)) w):F7 [.pointer a,.pointer b,.int .i64 i] w c:=h
theorem aka{a b:Option Addr}{i:Int}{w:World}{c:Value→aq}(h:jw a b i w λr w=>c (eW (dz [(.i .i64),(.i .i64)] r)) w):Hv [.pointer a,.pointer b,.int .i64 i] w c:=h
theorem ahN{a b:Option Addr}{i:Int}{w:World}{c:Value→aq}(h:iP a b i w λr w=>c (eW (dz [(.i .i64),(.i .i64)] r)) w):F8 [.pointer a,.pointer b,.int .i64 i] w c:=h
theorem ahO{a b:Option Addr}{i:Int}{w:World}{c:Value→aq}(h:gG a b i w λr w=>c (eW (dz [(.i .i64),(.i .i64)] r)) w):F9 [.pointer a,.pointer b,.int .i64 i] w c:=h
theorem af0{a b:Option Addr}{i:Int}{w:World}{c:Value→aq}(h:fH a b i w λr w=>c (eW (dz [(.i .i64),(.i .i64)] r)) w):EH [.pointer a,.pointer b,.int .i64 i] w c:=h
theorem ahP{a b:Option Addr}{i:Int}{w:World}{c:Value→aq}(h:gH a b i w λr w=>c (eW (dz [(.i .i64),(.i .i64)] r)) w):Ga [.pointer a,.pointer b,.int .i64 i] w c:=h
theorem af1{a b:Option Addr}{i:Int}{w:World}{c:Value→aq}(h:fI a b i w λr w=>c (eW (dz [(.i .i64),(.i .i64)] r)) w):EI [.pointer a,.pointer b,.int .i64 i] w c:=h
theorem akb{a b:Option Addr}{i:Int}{w:World}{c:Value→aq}(h:iy a b i w λr w=>c (eW (dz [(.i .i64),(.i .i64)] r)) w):Hw [.pointer a,.pointer b,.int .i64 i] w c:=h
theorem akc{a b:Option Addr}{i:Int}{w:World}{c:Value→aq}(h:iz a b i w λr w=>c (eW (dz [(.i .i64),(.i .i64)] r)) w):Hx [.pointer a,.pointer b,.int .i64 i] w c:=h
theorem anW{a b:Option Addr}{i:Int}{w:World}{c:Value→aq}(h:js a b i w λr w=>c (eW (dz [(.i .i64),(.i .i64)] r)) w):IQ [.pointer a,.pointer b,.int .i64 i] w c:=h
theorem ahQ{a b:Option Addr}{i:Int}{w:World}{c:Value→aq}(h:gI a b i w λr w=>c (eW (dz [(.i .i64),(.i .i64)] r)) w):Gb [.pointer a,.pointer b,.int .i64 i] w c:=h
theorem akd{a b:Option Addr}{i:Int}{w:World}{c:Value→aq}(h:iA a b i w λr w=>c (eW (dz [(.i .i64),(.i .i64)] r)) w):Hy [.pointer a,.pointer b,.int .i64 i] w c:=h
theorem ake{a b:Option Addr}{i:Int}{w:World}{c:Value→aq}(h:iB a b i w λr w=>c (eW (dz [(.i .i64),(.i .i64)] r)) w):Hz [.pointer a,.pointer b,.int .i64 i] w c:=h
theorem ahR{a b:Option Addr}{i:Int}{w:World}{c:Value→aq}(h:gJ a b i w λr w=>c (eW (dz [(.i .i64),(.i .i64)] r)) w):Gc [.pointer a,.pointer b,.int .i64 i] w c:=h
theorem abP{a b:Option Addr}{i:Int}{w:World}{c:Value→aq}(h:eD a b i w λr w=>c (eW (dz [(.i .i64),(.i .i64)] r)) w):CB [.pointer a,.pointer b,.int .i64 i] w c:=h
theorem af2{a b:Option Addr}{i:Int}{w:World}{c:Value→aq}(h:fJ a b i w λr w=>c (eW (dz [(.i .i64),(.i .i64)] r)) w):EJ [.pointer a,.pointer b,.int .i64 i] w c:=h
theorem ado{a b:Option Addr}{i:Int}{w:World}{c:Value→aq}(h:e7 a b i w λr w=>c (eW (dz [(.i .i64),(.i .i64)] r)) w):DK [.pointer a,.pointer b,.int .i64 i] w c:=h
theorem af3{a b:Option Addr}{i:Int}{w:World}{c:Value→aq}(h:fK a b i w λr w=>c (eW (dz [(.i .i64),(.i .i64)] r)) w):EK [.pointer a,.pointer b,.int .i64 i] w c:=h
theorem EW{r:HX}{F:Option Addr→Option Addr→Int→World→((Int×Int)→aq)→Prop}(h:St w0 w (uu go O::bN gm M::L))(hr:r.1.copy=O.copy)
  (hF:∀{p R},St w0 w (ax go (O.cells p)::bN gm M::R)→NR w0 go gm p R k r→F (some ⟨go,0,none⟩) (some ⟨gm,0,none⟩) wk w k)
  (hk:∀w',St w0 w' (uu go r.1::bN gm r.2.1::L)→k (r.2.2.1,r.2.2.2) w'):F (some ⟨go,0,none⟩) (some ⟨gm,0,none⟩) wk w k:=by
 cases hc:O.copy with
 |none=>
  rw[rj hc]at h;refine hF h λw' h=>hk w' ?_;rw[rj (hr.trans hc)];exact h
 |some c=>
  obtain⟨gc,h⟩:=Ib hc h;refine hF (p:=some ⟨gc,0,none⟩) (R:=PR gc c::L) (h.perm GL) λw' h=>hk w' ?_;exact CJ (O:=r.1) (gc:=gc) (c:=c) (hr.trans hc) (h.perm GL)
end
theorem IX{O:bw}{M:bO}{wk:Int}:(O.read M wk).1.copy=O.copy:=by
 unfold bw.read;split
 ·split<;>rfl
 ·rfl
theorem arP{O:bw}{M:bO}{wk:Int}:(O.f2 M wk).1.copy=O.copy:=by
 unfold bw.f2;split
 ·exact IX
 ·split
  ·exact IX
  ·split<;>exact IX
section
variable {w0 w:World} {L:List HP} {gm go:Nat} {M:bO} {O:bw} {wk:Int}
theorem aml{k:Int→aq}(h:St w0 w (uu go O::bN gm M::L))(hf:O.Gs)(hM:M.OK)(hk:∀w',St w0 w' (uu go (O.step M wk).1::bN gm (O.step M wk).2::L)→k (O.step M wk).1.how w'):fF (some ⟨go,0,none⟩) (some ⟨gm,0,none⟩) wk w k:=by
 have how:∀{w:World} {c:Int→Prop},St w0 w (uu go O::bN gm M::L)→c O.how→aN .i64 w (aX ⟨go,0,none⟩ 12) c:=by
  intro w c h hc;cases q:O.copy with
  |none=>rw[rj q]at h;exact cv (g:=go) (o:=12) h rfl hc
  |some c=>obtain⟨gc,h⟩:=Ib q h;exact cv (g:=go) (o:=12) h rfl hc
 have Yn:∀{w:World} {c:Value→Prop},St w0 w (uu go O::bN gm M::L)→c (phF O.next)→sX w (aX ⟨go,0,none⟩ 11) c:=by
  intro w c h hc;cases q:O.copy with
  |none=>rw[rj q]at h;exact Ir (g:=go) (o:=11) h rfl hc
  |some c=>obtain⟨gc,h⟩:=Ib q h;exact Ir (g:=go) (o:=11) h rfl hc
 unfold fF Fg;unfold bw.step at hk;refine bp rfl (bU (λb w'=>b= !O.live∧w'=w) (λJ hJ=> ?_) ?_)
 ·unfold bw.live at hJ;refine an (how h (aF (λhb=> ?_) λhb=> ?_))
  ·have hb':(O.how==0)=false:=by simpa[bne]using hb
   rw[hb']at hJ;exact an (how h (hJ _ _ ⟨by simp[bne],rfl⟩))
  ·have hb':(O.how==0)=true:=by simpa[bne]using hb
   rw[hb']at hJ;exact hJ _ _ ⟨rfl,rfl⟩
 rintro b6 w7 ⟨rfl,rfl⟩;refine aF (λhb=> ?_) λhb=> ?_
 ·have hl:O.live=false:=by simpa using hb
  rw[if_neg (by rw[hl];simp)]at hk
  exact an (how h (hk _ h))
 ·have hl:O.live=true:=by simpa using hb
  rw[if_pos hl]at hk;refine an (Yn h ?_);have fin:∀w',St w0 w' (uu go (O.run M wk).1::bN gm (O.run M wk).2.1::L)→HM [(.i .i64),(.i .i64)] (eW (dz [(.i .i64),(.i .i64)] ((O.run M wk).2.2.1,(O.run M wk).2.2.2))) fun(x14:Int×Int)=>
   cD (S:=Int) (λJ15=>
    ap (x14.2 !=(0:Int)) (
     (J15 (6:Int) w')) (
     (J15 x14.1 w'))) λi16 w17=>
   nn (some ⟨go,0,none⟩) λa18=>
   bJ w17 (aX a18 12) (.int .i64 i16) λw19=>
   nn (some ⟨go,0,none⟩) λa20=>
   bJ w19 (aX a20 14) (.int .i64 x14.2) λw21=>
   (k i16 w21):=by
   intro w' h;generalize O.run M wk=r at h hk;show cD (S:=Int) (λJ15=>
    ap (r.2.2.2 !=(0:Int)) (
     (J15 (6:Int) w')) (
     (J15 r.2.2.1 w'))) λi16 w17=>
   nn (some ⟨go,0,none⟩) λa18=>
   bJ w17 (aX a18 12) (.int .i64 i16) λw19=>
   nn (some ⟨go,0,none⟩) λa20=>
   bJ w19 (aX a20 14) (.int .i64 r.2.2.2) λw21=>
   (k i16 w21);refine bU (λn w''=>n=(if r.2.2.2=0 then r.2.2.1 else 6)∧w''=w') (λJ hJ=> ?_) ?_
   ·refine aF (λhb=> ?_) λhb=> ?_
    ·have hb':¬r.2.2.2=0:=by simpa using hb
     exact hJ _ _ ⟨by rw[if_neg hb'],rfl⟩
    ·have hb':r.2.2.2=0:=by simpa using hb
     exact hJ _ _ ⟨by rw[if_pos hb'],rfl⟩
   rintro n w17 ⟨rfl,rfl⟩;exact an (arO h λw21 h=>hk w21 h)
  clear hk;have hn:=hf.n;obtain qW|qW|qW|qW|qW|qW|qW|qW|qW|qW|qW|qW|qW|qW|qW|qW|qW|qW|qW|qW:O.next=0∨O.next=1∨O.next=2∨O.next=3∨O.next=4∨O.next=5∨O.next=6∨O.next=7∨O.next=8∨O.next=9∨O.next=10∨O.next=11∨O.next=12∨O.next=13∨O.next=14∨O.next=15∨O.next=16∨O.next=17∨O.next=18∨O.next=19:=ah;all_goals rw[qW]
  ·have e:O.run M wk=O.f0 M wk:=by unfold bw.run;simp only[qW]
   rw[e]at fin;refine o6 (d:=DC) (λ_ _ _=>rfl) (adn ?_);exact EW (F:=eZ) h rfl (λh hk=>p0 hf.a h hk) fin
  ·have e:O.run M wk=O.f1 M wk:=by unfold bw.run;simp only[qW]
   rw[e]at fin;refine o6 (d:=Hu) (λ_ _ _=>rfl) (aj9 ?_);exact EW (F:=ix) h rfl (λh hk=>p1 hf.a h hk) fin
  ·have e:O.run M wk=O.f2 M wk:=by unfold bw.run;simp only[qW]
   rw[e]at fin;refine o6 (d:=F7) (λ_ _ _=>rfl) (ahM ?_);exact EW (F:=gF) h arP (λh hk=>p2 hf.a h hk) fin
  ·have e:O.run M wk=O.f3 M wk:=by unfold bw.run;simp only[qW]
   rw[e]at fin;obtain⟨hc,AP,jP⟩:=hf.n3 qW;rw[rj hc]at h;refine o6 (d:=Hv) (λ_ _ _=>rfl) (aka ?_);exact p3 h hc hM AP jP fin
  ·obtain⟨c,hc⟩:=hf.n4 qW;have e:O.run M wk=O.f4 M wk c:=by unfold bw.run;simp only[qW,hc]
   rw[e]at fin;obtain⟨gc,h⟩:=Ib hc h;refine o6 (d:=F8) (λ_ _ _=>rfl) (ahN ?_);exact p4 h hc fin
  ·have e:O.run M wk=O.f5 M wk:=by unfold bw.run;simp only[qW]
   rw[e]at fin;refine o6 (d:=F9) (λ_ _ _=>rfl) (ahO ?_);exact EW (F:=gG) h rfl (λh hk=>p5 hf.a h hk) fin
  ·have e:O.run M wk=O.f6 M wk:=by unfold bw.run;simp only[qW]
   rw[e]at fin;refine o6 (d:=EH) (λ_ _ _=>rfl) (af0 ?_);exact EW (F:=fH) h rfl (λh hk=>p6 hf.a h hk) fin
  ·have e:O.run M wk=O.f7 M wk:=by unfold bw.run;simp only[qW]
   rw[e]at fin;refine o6 (d:=Ga) (λ_ _ _=>rfl) (ahP ?_);exact EW (F:=gH) h rfl (λh hk=>p7 hf.a h hk) fin
  ·have e:O.run M wk=O.f8 M wk:=by unfold bw.run;simp only[qW]
   rw[e]at fin;refine o6 (d:=EI) (λ_ _ _=>rfl) (af1 ?_);exact EW (F:=fI) h rfl (λh hk=>p8 hf.a h hk) fin
  ·have e:O.run M wk=O.f9 M wk:=by unfold bw.run;simp only[qW]
   rw[e]at fin;refine o6 (d:=Hw) (λ_ _ _=>rfl) (akb ?_);exact EW (F:=iy) h (IX (O:={O with next:=10})) (λh hk=>p9 hf.a h hk) fin
  ·have e:O.run M wk=O.f10 M wk:=by unfold bw.run;simp only[qW]
   rw[e]at fin;refine o6 (d:=Hx) (λ_ _ _=>rfl) (akc ?_);exact EW (F:=iz) h rfl (λh hk=>p10 hf.a h hk) fin
  ·have e:O.run M wk=O.f11 M wk:=by unfold bw.run;simp only[qW]
   rw[e]at fin;refine o6 (d:=IQ) (λ_ _ _=>rfl) (anW ?_);exact EW (F:=js) h rfl (λh hk=>p11 hf.a h hk) fin
  ·have e:O.run M wk=O.f12 M wk:=by unfold bw.run;simp only[qW]
   rw[e]at fin;refine o6 (d:=Gb) (λ_ _ _=>rfl) (ahQ ?_);exact EW (F:=gI) h rfl (λh hk=>p12 hf.a h hk) fin
  ·have e:O.run M wk=O.f13 M wk:=by unfold bw.run;simp only[qW]
   rw[e]at fin;refine o6 (d:=Hy) (λ_ _ _=>rfl) (akd ?_);exact EW (F:=iA) h rfl (λh hk=>p13 hf.a h hk) fin
  ·have e:O.run M wk=O.f14 M wk:=by unfold bw.run;simp only[qW]
   rw[e]at fin;refine o6 (d:=Hz) (λ_ _ _=>rfl) (ake ?_);exact EW (F:=iB) h rfl (λh hk=>p14 hf.a h hk) fin
  ·have e:O.run M wk=O.f15 M wk:=by unfold bw.run;simp only[qW]
   rw[e]at fin;refine o6 (d:=Gc) (λ_ _ _=>rfl) (ahR ?_);exact EW (F:=gJ) h rfl (λh hk=>p15 hf.a h hk) fin
  ·have e:O.run M wk=O.f16 M wk:=by unfold bw.run;simp only[qW]
   rw[e]at fin;refine o6 (d:=CB) (λ_ _ _=>rfl) (abP ?_);exact EW (F:=eD) h rfl (λh hk=>p16 hf.a h hk) fin
  ·have e:O.run M wk=O.f17 M wk:=by unfold bw.run;simp only[qW]
   rw[e]at fin;refine o6 (d:=EJ) (λ_ _ _=>rfl) (af2 ?_);exact EW (F:=fJ) h (IX (O:={O with next:=18})) (λh hk=>p17 hf.a h hk) fin
  ·have e:O.run M wk=O.f18 M wk:=by unfold bw.run;simp only[qW]
   rw[e]at fin;refine o6 (d:=DK) (λ_ _ _=>rfl) (ado ?_);exact EW (F:=e7) h rfl (λh hk=>p18 hf.a h hk) fin
  ·have e:O.run M wk=O.f19 M wk:=by unfold bw.run;simp only[qW]
   rw[e]at fin;refine o6 (d:=EK) (λ_ _ _=>rfl) (af3 ?_);exact EW (F:=fK) h rfl (λh hk=>p19 hf.a h hk) fin
end
theorem RJ{w0 w:World}{L M:List HP}(h:St w0 w L)(e:L=M):St w0 w M:=e▸h
def bw.CT(at_ most x:Int)(next:Nat):bw:=⟨at_,most,0,0,Rg.zero,x,false,Rg.zero,none,next,0,0,0⟩
section
variable {w0 w:World} {L:List HP} {gm go:Nat} {M:bO} {O:bw} {wk at_ most:Int}
theorem amm{x:Int}{k:Option Addr→aq}(h:St w0 w L)(hk:∀g w',St w0 w' (uu g (bw.CT at_ most x 0)::L)→k (some ⟨g,0,none⟩) w'):ez #[.int .i64 at_,.int .i64 most] x w k:=by
 unfold ez;refine av h λg1 w2 h=>jG (g:=g1) h rfl ⟨rfl,⟨rfl,aab rfl ?_⟩⟩;refine av h λg6 w7 h=> ?_;refine hk g6 w7 ?_;rw[rj rfl];exact RJ (M:=ax g6 ((bw.CT at_ most x 0).cells none)::L) (h.rm 1 rfl) bf
theorem arQ{k:Option Addr→aq}(h:St w0 w L)(hk:∀g w',St w0 w' (uu g (bw.CT at_ most 0 8)::L)→k (some ⟨g,0,none⟩) w'):eG #[.int .i64 at_,.int .i64 most] w k:=by
 unfold eG;refine av h λg1 w2 h=>jG (g:=g1) h rfl ⟨rfl,⟨rfl,aab rfl ?_⟩⟩;refine av h λg6 w7 h=> ?_;refine hk g6 w7 ?_;rw[rj rfl];exact RJ (M:=ax g6 ((bw.CT at_ most 0 8).cells none)::L) (h.rm 1 rfl) bf
theorem arR{k:Option Addr→aq}(h:St w0 w L)(hk:∀g w',St w0 w' (uu g (bw.CT at_ most 0 15)::L)→k (some ⟨g,0,none⟩) w'):jA #[.int .i64 at_,.int .i64 most] w k:=by
 unfold jA;refine av h λg1 w2 h=>jG (g:=g1) h rfl ⟨rfl,⟨rfl,aab rfl ?_⟩⟩;refine av h λg6 w7 h=> ?_;refine hk g6 w7 ?_;rw[rj rfl];exact RJ (M:=ax g6 ((bw.CT at_ most 0 15).cells none)::L) (h.rm 1 rfl) bf
theorem aag{f:HP→List HP}{o:Nat}{n:Int}{c:Int→Prop}(h:St w0 w L)[a:At L (uu go) O f](ho:∀p,(O.cells p)[o]?=some (.int .i64 n))(hc:c n):aN .i64 w ⟨go,o,none⟩ c:=by
 obtain⟨R,hout,hin⟩:=a.out;have h:=hout h;cases q:O.copy with
 |none=>rw[rj q]at h;exact cv (g:=go) (o:=o) h (ho _) hc
 |some c=>obtain⟨gc,h⟩:=Ib q h;exact cv (g:=go) (o:=o) h (ho _) hc
def bw.tell(O:bw):Int:=if O.how=2∨O.how=1 then O.got else 0
theorem azO{f:HP→List HP}{k:Int→aq}(h:St w0 w L)[a:At L (uu go) O f](hk:k O.tell w):cG (some ⟨go,0,none⟩) w k:=by
 unfold cG;unfold bw.tell at hk;refine bU (λb w'=>b=decide (¬(O.how=2∨O.how=1))∧w'=w) (λJ hJ=> ?_) ?_
 ·refine bp rfl (an (aag (go:=go) (o:=12) (n:=O.how) h (λ_=>rfl) (aF (λhb=> ?_) λhb=> ?_)))
  ·have hb':¬O.how=2:=by simpa using hb
   refine an (aag (go:=go) (o:=12) (n:=O.how) h (λ_=>rfl) (hJ _ _ ⟨?_,rfl⟩));rw[Bool.eq_iff_iff,decide_eq_true_eq];simp[hb']
  ·have hb':O.how=2:=by simpa using hb
   exact hJ _ _ ⟨by simp[hb'],rfl⟩
 rintro b w7 ⟨rfl,rfl⟩;refine aF (λhb=> ?_) λhb=> ?_
 ·rw[if_neg (of_decide_eq_true hb)]at hk;exact hk
 ·rw[if_pos (Classical.byContradiction λq=>of_decide_eq_false hb q)]at hk;exact an (aag (go:=go) (o:=13) (n:=O.got) h (λ_=>rfl) hk)
theorem azP{f:HP→List HP}{k:Int→aq}(h:St w0 w L)[a:At L (uu go) O f](hk:k O.err w):iL (some ⟨go,0,none⟩) w k:=by
 unfold iL;exact bp rfl (an (aag (go:=go) (o:=14) (n:=O.err) h (λ_=>rfl) hk))
def aah(log most:Int):Bool:=decide (0≤log∧log≤most∧most≤8)
def Fx(log:Int):Int:=((2 ^ log.toNat:Nat):Int)
def bO.IY(M:bO)(wk log:Int):bO:=(((M.tick wk).grow (3+Fx log)).tick wk).put ((M.cells.length:Nat)+2) (Rg.word ⟨(M.cells.length:Nat)+3,log⟩)
theorem abQ{log:Int}(h0:0≤log)(h1:log≤8):1≤Fx log∧Fx log≤256:=by
 have hp:(2 ^ log.toNat:Nat)≤256:=D6 ah;have Fv:0<2 ^ log.toNat:=Nat.pow_pos ah;unfold Fx;generalize (2 ^ log.toNat:Nat)=m at*
 omega
theorem xw{M:bO}{n:Int}(h:0≤n):(((M.grow n).cells.length:Nat):Int)=(M.cells.length:Nat)+n:=by
 unfold bO.grow;simp only[tW,List.length_replicate];omega
theorem amn{log:Int}{f:HP→List HP}{k:Array Value×Int→aq}(h:St w0 w L)[a:At L (bN gm) M f](hM:M.OK)(py:M.caller wk=true)(hl:aah log most=true)
  (h1:M.room (3+Fx log)=true→∀w',St w0 w' (f (bN gm (M.IY wk log)))→k (#[.int .i64 ((M.cells.length:Nat):Int),.int .i64 most],0) w')
  (h2:M.room (3+Fx log)=false→∀w',St w0 w' (f (bN gm M))→k (#[.int .i64 0,.int .i64 0],21) w'):sH (some ⟨gm,0,none⟩) wk log most w k:=by
 unfold sH MP;unfold aah at hl;simp only[decide_eq_true_eq]at hl;obtain⟨hl0,hl1,hl2⟩:=hl;have Yj:=abQ hl0 ah;obtain⟨R,ho,hb⟩:=a.out;replace h:=ho h;with_reducible repeat' (first|refine av h λgx w h=> ?_|refine ij ?_|fail)
 refine bp (by simp;omega) ?_
 refine HO ah ?_;rw[Xc hl0 ah];have hw:IntKind.i64.wrap (3+((2 ^ log.toNat:Nat):Int))=3+Fx log:=dQ ⟨by unfold Fx at Yj;omega,by unfold Fx at Yj;omega⟩
 rw[hw];have hMs:=hM.size;refine Gp (M:=M) h hM (λ_ _ hr w h=> ?_) (λ_ _ hr=> ?_) λhno=>(hno ⟨py,ah⟩).elim
 ·have hr2:=hr;unfold bO.room at hr2;simp only[decide_eq_true_eq]at hr2;with_reducible repeat' (first|refine aK h λw h=> ?_|refine pn h ?_|refine qX h λw h=> ?_|refine av h λgx w h=> ?_|refine ij ?_|fail)
  have hA:y7 ((M.cells.length:Nat):Int):=⟨ah,ah⟩;refine abO (most:=most) hA h λw h=> ?_;with_reducible repeat' (first|refine po h ?_|fail)
  have e3:aL .i64 (((M.cells.length:Nat):Int)+3)=((M.cells.length:Nat):Int)+3:=dQ ⟨ah,ah⟩;show fp #[.int .i64 (aL .i64 (((M.cells.length:Nat):Int)+3)),.int .i64 log] _ _;rw[e3];refine amg (r:=⟨((M.cells.length:Nat):Int)+3,log⟩) h λw h=> ?_;have hcan:((M.tick wk).grow (3+Fx log)).can wk ((M.cells.length:Nat)+2)=true:=by
   have hg:=xw (M:=M.tick wk) (n:=3+Fx log) ah;have ht:(M.tick wk).cells.length=M.cells.length:=rfl;unfold bO.can bO.given bO.caller at*
   simp only[decide_eq_true_eq,iW]at*
   refine⟨⟨py.1,?_⟩,?_⟩
   ·simpa[bO.grow,bO.tick]using py.2
   ·rw[hg,ht];omega
  refine stc (M:=(M.tick wk).grow (3+Fx log)) h hcan λw h=> ?_;with_reducible repeat' (first|refine pn h ?_|refine qX h λw h=> ?_|refine ij ?_|fail)
  exact h1 hr w (hb (((h.rm 0 rfl).rm 0 rfl).rm 0 rfl))
 ·with_reducible repeat' (first|refine pn h ?_|refine qX h λw h=> ?_|refine qx ?_|fail)
  exact h2 hr w (hb h.drop)
theorem Vf{f:HP→List HP}{k:Int×Int→aq}(h:St w0 w L)[a:At L (bN gm) M f](hA:y7 at_)(hc:M.can wk (at_+1)=true)(hk:∀w',St w0 w' (f (bN gm (M.tick wk)))→k (M.get (at_+1),0) w'):cq #[.int .i64 at_,.int .i64 most] (some ⟨gm,0,none⟩) wk w k:=by
 unfold cq xZ;with_reducible repeat' (first|refine pn h ?_|refine av h λgx w h=> ?_|fail)
 refine CI (most:=most) hA h λw h=> ?_;refine ldc (M:=M) h hc λw h=> ?_;exact hk w h.drop
end
theorem elL:ElT Tryz.prog 69 3 8 (.int .i64 0):=⟨bf,bf⟩
def Zk(self on idle:Int)(x:Nat):Bool:=(x:Int) !=self&&(tb on x&& !tb idle x)
def xk(self on idle:Int)(n:Nat):List Int:=((List.range n).filter (Zk self on idle)).map Int.ofNat
def Vg(v:Int)(l:List Int):List Int:=l.drop (v % l.length).toNat++l.take (v % l.length).toNat
theorem abR(self on idle:Int)(n:Nat):xk self on idle (n+1)=xk self on idle n++(if Zk self on idle n then [(n:Int)]else []):=by
 unfold xk;rw[List.range_succ,List.filter_append,List.map_append];congr 1;by_cases h:Zk self on idle n<;>simp[h]
theorem aed(self on idle:Int)(n:Nat):(xk self on idle n).length≤n:=by
 unfold xk;simpa using List.length_filter_le (Zk self on idle) (List.range n)
theorem akg{v m:Int}(hm:0<m)(hm2:m≤16):aar (IntKind.i64.wrap (aar v m+m)) m=v % m:=by
 unfold aar;have h1:v.tmod m<m:=Int.tmod_lt_of_pos _ hm;have h2: -m<v.tmod m:=Int.lt_tmod_of_pos v hm;rw[dQ ⟨ah,ah⟩,Int.tmod_eq_emod_of_nonneg ah,Int.add_emod_right,Int.tmod_def,Int.sub_emod,Int.mul_emod_right];simp
theorem azQ{L R:List Value}{n f:Nat}(hL:L.length=n)(hf:f≤n)(hR:R.length=n):
  (((R.take 0++((L.drop f).take (n - f)++R.drop (0+(n - f)))).take (n - f))++(L.take f++(R.take 0++((L.drop f).take (n - f)++R.drop (0+(n - f)))).drop (n - f+f)))=L.drop f++L.take f:=by
 have e1:(L.drop f).take (n - f)=L.drop f:=List.take_of_length_le (by simp;omega)
 have e2:(L.drop f).length=n - f:=by simp;omega
 rw[e1,List.take_zero,List.nil_append,Nat.zero_add,List.take_append_of_le_length ah,List.take_of_length_le ah];rw[List.drop_of_length_le (i:=n - f+f) (by simp;omega),List.append_nil]
theorem adp{v self n on idle:Int}{w:World}{k:Sl×Int→aq}(h1:1≤n)(h2:n≤16)(h3:0≤self)(h4:self<n)
  (hk:∀s w',Ext w w'→Go.Ev.Own w' w.heap.size s (ints (Vg v (xk self on idle n.toNat)))→k (s,0) w'):qT v self n on idle w k:=by
 unfold qT;refine bp (by simp;omega) ?_
 refine bU (λs w'=>Ext w w'∧Go.Ev.Own w' w.heap.size s (ints (xk self on idle n.toNat))) ?_ ?_
 ·intro J hJ;refine pT (fun(x:Sl×Int) w'=> ∃i:Nat,x.2=i∧i≤n.toNat∧Ext w w'∧Go.Ev.Own w' w.heap.size x.1 (ints (xk self on idle i))) (λx _=>(n - x.2).toNat) ⟨0,rfl,ah,.refl _ _,by simpa[xk,ints]using Own.nil w _⟩ ?_
  rintro⟨s,x⟩ w1 ⟨i,hx,hi,he,hown⟩ C hC;simp only at hx;subst hx;refine aF (λhlt=> ?_) (λhge=> ?_)
  ·have hlt:(i:Int)<n:=by simpa using hlt
   refine bU (λb w2=>w2=w1∧b=Zk self on idle i) ?_ ?_
   ·intro J5 hJ5;refine aF (λhne=> ?_) (λheq=> ?_)
    ·refine alT bh (hJ5 _ _ ⟨rfl,?_⟩);simp only;rw[aBy (aha _ _) ah ah,kY,Uy _ _ ah];simp only[Zk,hne,Bool.true_and]
    ·refine hJ5 _ _ ⟨rfl,?_⟩;simp only[Zk,heq,Bool.false_and]
   ·rintro b w2 ⟨rfl,rfl⟩;have hw:IntKind.i64.wrap ((i:Int)+1)=((i+1:Nat):Int):=by rw[dQ ⟨ah,ah⟩];simp
    refine aF (λhb=> ?_) (λhb=> ?_)
    ·refine ju λg w3 hg UD sB y8=> ?_;have hl:=aed self on idle i;refine avk (s:=s) (x:=⟨some ⟨g,0,none⟩,1,1⟩) (ys:=ints [(i:Int)]) elL rfl elL.1 (hown.ext y8) (aaX (l:=[_]) sB rfl 1) H9 (by have:=he.size;omega) (by simp;omega) (by simp;omega) λs' w4 y5 FQ aFZ=> ?_
     refine hC _ _ ⟨i+1,hw,ah,?_,?_⟩ (by simp only[hw];omega)
     ·exact(he.trans y8).then FQ (hown.out (iN _))
     ·rw[abR,if_pos hb];simpa[ints]using y5
    ·refine hC _ _ ⟨i+1,hw,ah,he,?_⟩ (by simp only[hw];omega)
     rw[abR,if_neg (by simp[hb]),List.append_nil]
     exact hown
  ·have hge:¬(i:Int)<n:=by simpa using hge
   have:i=n.toNat:=ah;exact hJ _ _ ⟨he,this▸hown⟩
 ·rintro s w1 ⟨he,hown⟩;have hl:=aed self on idle n.toNat;have hlen:=hown.len;simp only[ints,List.length_map]at hlen;refine aF (λh0=> ?_) (λh0=> ?_)
  ·have h0:s.n=0:=by simpa using h0
   have e:xk self on idle n.toNat=[]:=List.eq_nil_of_length_eq_zero ah;refine hk _ _ he ?_;rw[e];simpa[Vg,ints]using Own.nil w1 _
  ·have h0:s.n≠0:=by simpa using h0
   refine alS ah (alS ah ?_);have hf:=akg (v:=v) (m:=s.n) ah ah;simp only[aar]at hf;rw[hf];have hf0:0≤v % s.n:=Int.emod_nonneg _ ah;have hf1:v % s.n<s.n:=Int.emod_lt_of_pos _ ah;refine alU (n:=s.n) elL rfl (B:=w.heap.size) he.size ah ah λso w2 Yo uM E7 hc2 jP Io=> ?_;refine aaZ (hown.ext uM) hf0 ah λd hd hdn hdb bP=> ?_;have hne:∀g,so.ax=some g→∀g',s.ax=some g'→g'≠g:=by
    intro g hg g' K3 e;have:=(hown.below K3).2;rw[jP]at hg;cases hg;omega
   refine aa0 (lo:=0) elL Yo (Part.all so) bP.sls (λv hv=>H9 v (List.mem_of_mem_drop hv)) λw3 Vh ayw UD=> ?_;rw[E7,hdn,show min s.n (s.n - (v % s.n).toNat)=s.n - (v % s.n).toNat by omega]at Vh ⊢
   refine aaZ Vh ah ah λd2 hd2 aCe aF0 aF1=> ?_;have hs':GH 1 w3 s (ints (xk self on idle n.toNat)):=(hown.ext uM).sls.keep ayw λp hp hg=>hne _ hg _ (by simp[Sl.ax,hp]) rfl
   refine aa0 elL Vh hd2 hs' H9 λw4 TG aCf hs4=> ?_;refine hk _ _ ?_ ?_
   ·exact((he.trans uM).then ayw (Yo.out (iN _))).then aCf (Yo.out (iN _))
   ·have e:Vg v (xk self on idle n.toNat)=(xk self on idle n.toNat).drop (v % s.n).toNat++(xk self on idle n.toNat).take (v % s.n).toNat:=by rw[Vg,hlen]
    rw[e];rw[aCe,E7,show min (s.n - ((s.n - (v % s.n).toNat:Nat):Int).toNat) s.n=(v % s.n).toNat by omega]at TG
    simp only[kY]at TG;rw[azQ (by simp;omega) ah bh]at TG
    simpa[ints]using TG
def KS(g:Nat)(D:List Int):HP:=FT λs:Sl=>mr [ax g [.slice s.a s.n s.c],bQ 1 s (ints D)]
section
variable {w0 w:World} {L R:List HP} {g:Nat} {D:List Int} {f:HP→List HP}
theorem aee(h:St w0 w (KS g D::R)):∃s:Sl,St w0 w (ax g [.slice s.a s.n s.c]::bQ 1 s (ints D)::R):=by
 obtain⟨s,h⟩:=h.some;exact⟨s,h.open⟩
theorem L2{s:Sl}(h:St w0 w (ax g [.slice s.a s.n s.c]::bQ 1 s (ints D)::R)):St w0 w (KS g D::R):=
 St.ex (X:=λs:Sl=>mr [ax g [.slice s.a s.n s.c],bQ 1 s (ints D)]) s (St.shut h)
theorem _root_.Go.Ev.pY.ayx{s:Sl}{vs:List Value}(h:pY 1 w s vs):Go.Ev.Own w 0 s vs:=by
 refine⟨by have:=h.len;omega,h.cap,h.max,h.one,h.row.imp id ?_⟩
 rintro⟨g,off,cs,h1,h2,h3,h4⟩;exact⟨g,off,cs,h1,Nat.zero_le _,h2,ah,h4⟩
theorem _root_.Go.Ev.Own.s1{s:Sl}{vs:List Value}{B:Nat}(h:Go.Ev.Own w B s vs):pY 1 w s vs:=by
 refine⟨by have:=h.len;omega,h.cap,h.max,h.one,h.row.imp id ?_⟩
 rintro⟨g,off,cs,h1,_,h2,h3,h4⟩;exact⟨g,off,cs,h1,h2,ah,h4⟩
theorem awe{P:Program}{t e:TypeId}{ty:TypeId}{b:Nat}{z:Value}{s:Sl}{v:Value}{vs:List Value}{c:Int→aq}(h:St w0 w L)[a:At L (bQ 1 s) (v::vs) f](ht:ElT P t e b z)
  (hc:∀w' l,St w0 w' (f (bQ 1 s (vs++[l])))→c (vs.length:Nat) w'):slL s 1 (1:Int) λd=>Un P #[t,t] ty [.slice s.a s.n s.c,.slice d.a d.n d.c] w c:=by
 have hn:=uN (s:=s) (vs:=v::vs) h;have ho:pY 1 w s (v::vs):=h.own;refine aaZ ho.ayx ah (by simp at hn;omega) λd hp hd _ hod=> ?_
 have hdn:d.n=vs.length:=by rw[hd,hn];simp
 have hmin:min s.n d.n=vs.length:=by rw[hdn,hn];simp
 refine aa0 (s:=s) (d:=s) (x:=d) (lo:=0) ht ho.ayx (Part.all s) hod.sls hod.one λw' y5 FQ _=> ?_;rw[hmin]at y5 ⊢;have hlt:vs.length<(v::vs).length:=by simp
 have e:(v::vs).take 0++(((v::vs).drop (1:Int).toNat).take vs.length++(v::vs).drop (0+vs.length))=vs++[(v::vs)[vs.length]]:=by
  rw[List.take_zero,List.nil_append,Nat.zero_add,List.drop_eq_getElem_cons hlt];simp
 rw[e]at y5;refine hc w' _ (h.Mx a λF1 hF=>⟨FQ.mono λk _ hk=>(hF.1 k).2 hk,F1,⟨hF.1,y5.s1⟩,λk hk=> .inl hk⟩)
theorem elD:ElT Tryz.prog 156 2 8 (.int .i64 0):=⟨bf,bf⟩
theorem arT{k:Option Addr→aq}(h:St w0 w L)(hk:∀g w',St w0 w' (KS g []::L)→k (some ⟨g,0,none⟩) w'):mS w k:=by
 unfold mS;refine av h λg w h=>hk g w (L2 (s:=⟨none,0,0⟩) ?_);exact(h.Jx 1).swap
theorem anY{k:Int→aq}(h:St w0 w L)[a:At L (KS g) D f](hk:∀w',St w0 w' (f (KS g D.tail))→k (D.headD 0) w'):lZ (some ⟨g,0,none⟩) w k:=by
 unfold lZ;obtain⟨R,ho,hb⟩:=a.out;obtain⟨s,h⟩:=aee (ho h);have hn:=uN (s:=s) (vs:=ints D) h;refine bU (λb w'=>b=D.isEmpty∧w'=w) (λJ hJ=> ?_) ?_
 ·with_reducible repeat' (first|refine an ?_|refine mJ h ?_|refine ij ?_|fail)
  refine hJ _ _ ⟨?_,rfl⟩;cases D with
  |nil=>simp at hn;simp[hn]
  |cons x D=>simp at hn;simp[hn];omega
 rintro _ _ ⟨rfl,rfl⟩;cases D with
 |nil=>exact bH rfl (hk _ (hb (L2 h)))
 |cons x D=>
  refine bp rfl ?_;with_reducible repeat' (first|refine an ?_|refine mJ h ?_|fail)
  refine vI (s:=s) (vs:=ints (x::D)) h ah (x:=x) rfl ?_;with_reducible repeat' (first|refine an ?_|refine aK h λw h=> ?_|refine mJ h ?_|fail)
  refine awe (s:=s) (v:= .int .i64 x) (vs:=ints D) h elD λw l h=> ?_;with_reducible repeat' (first|refine an ?_|refine aK h λw h=> ?_|refine mJ h ?_|fail)
  have E7:s.n=D.length+1:=by simpa using hn
  show SG s 1 0 (aL .i64 (((s.n:Nat):Int) - 1)) _;have e0:aL .i64 (((s.n:Nat):Int) - 1)=(D.length:Nat):=by
   have:=(h.own (sz:=1) (s:=s) (vs:=ints D++[l])).max;have:=(h.own (sz:=1) (s:=s) (vs:=ints D++[l])).cap;rw[E7,lO ⟨ah,ah⟩];omega
  rw[e0];refine al0 (s:=s) (vs:=ints D++[l]) h ah (by simp;omega) λd hd h=> ?_
  have e1:(ints D++[l]).take ((D.length:Nat):Int).toNat=ints D:=by
   rw[kY,List.take_append_of_le_length bh,List.take_of_length_le bh]
  rw[e1]at h;with_reducible repeat' (first|refine an ?_|refine eL h λw h=> ?_|fail)
  exact hk w (hb (L2 (s:=d) h))
theorem arU{l:Sl}{x:Int}{gx:Nat}{k:Int→aq}(h:St w0 w (ax gx [.int .i64 x]::KS g D::R))(hk:D.length<1024→∀w',St w0 w' (KS g (D++[x])::R)→k 0 w')(GF:¬D.length<1024→∀w',St w0 w' (KS g D::R)→k 20 w')(hD:D.length≤1024):
  nq (some ⟨g,0,none⟩) ⟨some ⟨gx,0,none⟩,1,1⟩ w k:=by
 unfold nq;obtain⟨s,h⟩:=aee h.swap;have hn:=uN (s:=s) (vs:=ints D) h;have E7:s.n=D.length:=by simpa using hn
 with_reducible repeat' (first|refine an ?_|refine mJ h ?_|refine ij ?_|fail)
 show ap (decide (((1:Nat):Int)>aL .i64 ((1024:Int) - ((s.n:Nat):Int)))) _ _;rw[E7,lO ⟨ah,ah⟩];by_cases hl:D.length<1024
 ·refine bp (by simp;omega) ?_
  with_reducible repeat' (first|refine an ?_|refine mJ h ?_|fail)
  refine Ld (s:=s) (vs:=ints D) h (b:=8) (z:= .int .i64 0) ⟨bf,rfl⟩ bf rfl (by simp;omega) ah λs' w h hn'=> ?_
  with_reducible repeat' (first|refine an ?_|refine eL h λw h=> ?_|fail)
  refine hk hl w (L2 (s:=s') ?_);have e:ints (D++[x])=ints D++[.int .i64 x]:=by simp[ints]
  rw[e];exact h.rm 2 rfl
 ·refine bH (by simp;omega) (GF hl w (L2 (s:=s) (h.rm 2 rfl)))
theorem arV{v self n on idle:Int}{k:Sl×Int→aq}(h:St w0 w L)(h1:1≤n)(h2:n≤16)(h3:0≤self)(h4:self<n)
  (hk:∀s w',St w0 w' (bQ 1 s (ints (Vg v (xk self on idle n.toNat)))::L)→k (s,0) w'):qT v self n on idle w k:=by
 refine adp h1 h2 h3 h4 λs w' he ho=>hk s w' ?_;refine h.new he (F':=λk=>s.ax=some k) ⟨λk=>Iff.rfl,ho.s1⟩ λk hk=>(ho.below hk).1
end
def aCh(b:Option Code):Array Oper:=match b with|some (.seq _ (.seq _ (.seq (.region _ ops _) _)))=>ops|_=> #[]
noncomputable def arW:Array Oper:=aCh Tryz.f340.body
def amo(e:Env)(w:World)(k:Int→aq):Prop:=
 aaw Tryz.prog (j4 []) arW (arW.toList.drop 5) e w λe w=>lq (e.keep 21) λe=>alF Tryz.prog Tryz.f340.results.toList (λl w=>qG [.i .i64] l λx=>k x w) .ret e w
def arX(x n a m:Int):Env:=[(9,.val (.int .u64 m)),(8,.val (.int .u64 a)),(7,.val (.int .u64 n)),(6,.val (.int .u64 x)),(5,.val (.int .u64 x)),(4,.val (.bool (x==0))),(2,.val (.int .i64 0)),(0,.val (.int .u64 x))]
theorem tzB(x n a m:Int)(w:World)(k:Int→aq):amo (arX x n a m) w k=GC (Addr.mk 3 0 none) 64 (Ih .u64 m 58) 1 λa1=>aN .u8 w a1 λi2=>k (aL .i64 i2) w:=by kernel_rfl
theorem tzA(x:Int)(w:World)(k:Int→aq):bT x w k=ap (x==0) (k 64 w)
 (amo (arX x (aL .u64 (0 - x)) (og .u64 x (aL .u64 (0 - x))) (aL .u64 ((og .u64 x (aL .u64 (0 - x)))*285870213051353865))) w k):=by kernel_rfl
def akh:List Nat:=[0,1,56,2,57,49,28,3,61,58,42,50,38,29,17,4,62,47,59,36,45,43,51,22,53,39,33,30,24,18,12,5,63,55,48,27,60,41,37,16,46,35,44,21,52,32,23,11,54,26,40,15,34,20,31,10,25,14,19,9,13,8,7,6]
def TZ(w:World):Prop:=∀i,i<64→w.cell? ⟨3,i,none⟩=some (.int .u8 (akh.getD i 0:Nat))
theorem awf:∀i,i<64→akh.getD ((2 ^ i*285870213051353865 % 2 ^ 64) / 2 ^ 58) 0=i∧(2 ^ i*285870213051353865 % 2 ^ 64) / 2 ^ 58<64:=gD
def low(x i:Nat):Prop:=x.testBit i=true∧∀j,j<i→x.testBit j=false
theorem amq{x:Nat}(h:0<x):∃i,low x i:=by
 obtain⟨j,hj⟩:=Nat.exists_testBit_of_ne_zero (by omega:x≠0)
 induction j using Nat.strongRecOn with
 |_ j ih=>
  by_cases hl:∃i,i<j∧x.testBit i=true
  ·obtain⟨i,hi,hx⟩:=hl;exact ih i hi hx
  ·exact⟨j,hj,λi hi=>by
    cases hb:x.testBit i with
    |false=>rfl
    |true=>exact(hl ⟨i,hi,hb⟩).elim⟩
theorem Xd{x i:Nat}(h:low x i)(hx:x<2 ^ 64):i<64:=by
 apply Classical.byContradiction;intro hn;have:=Nat.testBit_lt_two_pow (Nat.lt_of_lt_of_le hx (Nat.pow_le_pow_right ah (by omega:64≤i)))
 rw[h.1]at this;cases this
theorem awg{x i:Nat}(h:low x i)(hx:x<2 ^ 64):(BitVec.ofNat 64 x&&& -(BitVec.ofNat 64 x)).toNat=2 ^ i:=by
 have hi:=Xd h hx;apply Nat.eq_of_testBit_eq;intro j;rw[BitVec.testBit_toNat,BitVec.getLsbD_and,BitVec.getLsbD_neg,Nat.testBit_two_pow];by_cases hj:j<64
 ·have hb:∀m,m<64→(BitVec.ofNat 64 x).getLsbD m=x.testBit m:=λm hm=>by rw[BitVec.getLsbD_ofNat];simp[hm]
  rw[hb j hj];simp only[hj,decide_true,Bool.true_and];by_cases hij:i=j
  ·subst hij;rw[h.1];have:¬∃m<i,(BitVec.ofNat 64 x).getLsbD m=true:=by
    rintro⟨m,hm,VP⟩;rw[hb m ah,h.2 m hm]at VP;cases VP
   simp[this]
  ·cases hxj:x.testBit j with
   |false=>simp[hij]
   |true=>
    have hlt:i<j:=by
     apply Classical.byContradiction;intro hn;have:=h.2 j ah;rw[hxj]at this;cases this
    have:∃m<j,(BitVec.ofNat 64 x).getLsbD m=true:=⟨i,hlt,by rw[hb i hi];exact h.1⟩
    simp[this,hij]
 ·have:i≠j:=ah;simp[hj,this];rw[BitVec.getLsbD_of_ge _ _ ah]
theorem CL{x:Int}:IntKind.u64.wrap x=x % 18446744073709551616:=by
 unfold aL;simp[IntKind.bits,IntKind.signed]
theorem ayy{w0 w:World}{L:List HP}{x i:Nat}{k:Int→aq}(h:St w0 w L)(hT:TZ w0)(hl:low x i)(hx:x<2 ^ 64)(hk:k i w):bT (x:Int) w k:=by
 have hi:=Xd hl hx;have h0:x≠0:=by
  intro e;subst e;have:=hl.1;simp at this
 rw[tzA,tzB];refine bp (by simp;omega) ?_
 have e1:og .u64 (x:Int) (aL .u64 (0 - (x:Int)))=((2 ^ i:Nat):Int):=by
  have hand:∀a b:Int,og .u64 a b=IntKind.u64.wrap ((BitVec.ofInt 64 a&&&BitVec.ofInt 64 b).toNat:Nat):=λ_ _=>rfl;have hw:aL .u64 (0 - (x:Int))=((2 ^ 64 - x:Nat):Int):=by rw[CL];omega
  rw[hw,hand];simp only[BitVec.ofInt_natCast];have hneg:BitVec.ofNat 64 (2 ^ 64 - x)= -(BitVec.ofNat 64 x):=by
   apply BitVec.eq_of_toNat_eq;simp[BitVec.toNat_neg];omega
  rw[hneg,awg hl hx,CL];have:2 ^ i<2 ^ 64:=Nat.pow_lt_pow_right ah hi;generalize 2 ^ i=m at*
  omega
 have e2:Ih .u64 (aL .u64 (((2 ^ i:Nat):Int)*285870213051353865)) 58=(((2 ^ i*285870213051353865 % 2 ^ 64) / 2 ^ 58:Nat):Int):=by
  unfold Ih;rw[CL];have hm:min (58:Int).toNat IntKind.u64.bits=58:=gD;rw[hm,Int.fdiv_eq_ediv_of_nonneg _ gD];rw[Int.natCast_ediv,Int.natCast_emod,Int.natCast_mul];rfl
 rw[e1,e2];obtain⟨t1,t2⟩:=awf i hi;refine⟨⟨ah,ah⟩,?_⟩;rw[c8,kY,Nat.zero_add,Nat.mul_one];refine uJ (h.ext.cell (hT _ t2)) ?_;rw[t1,lO ⟨ah,ah⟩];exact hk
def bitsOf(x:Nat):List Nat:=(List.range 64).filter x.testBit
theorem ahT{x y i:Nat}(hi:i<64)(h:low x i)(hy:∀j,y.testBit j=(x.testBit j&&decide (j≠i))):bitsOf x=i::bitsOf y:=by
 unfold bitsOf;have e:List.range 64=List.range i++i::(List.range (64 - (i+1))).map (·+(i+1)):=by
  have e1:(64:Nat)=i+((64 - (i+1))+1):=ah;conv=>lhs;rw[e1,List.range_add,List.range_succ_eq_map]
  simp only[List.map_cons,List.map_map,Nat.add_zero];congr 2;apply List.map_congr_left;intro a _;simp only[Function.comp,Nat.succ_eq_add_one];omega
 have f1:(List.range i).filter x.testBit=[]:=List.filter_eq_nil_iff.2 λj hj=>by rw[h.2 j (List.mem_range.1 hj)];simp
 have f2:(List.range i).filter y.testBit=[]:=List.filter_eq_nil_iff.2 λj hj=>by rw[hy,h.2 j (List.mem_range.1 hj)];simp
 rw[e,List.filter_append,List.filter_append,f1,f2,List.filter_cons,List.filter_cons,h.1,hy i,h.1];simp only[if_true,List.nil_append,ne_eq,not_true_eq_false,decide_false,Bool.and_false,Bool.false_eq_true,if_false];congr 1;apply List.filter_congr;intro j hj;obtain⟨m,_,rfl⟩:=List.mem_map.1 hj;rw[hy];have:m+(i+1)≠i:=ah;simp[this]
theorem aki{x i:Nat}(h:low x i)(hx:x<2 ^ 64):∀j,(x&&&(x - 1)).testBit j=(x.testBit j&&decide (j≠i)):=by
 have hi:=Xd h hx;have hx0:0<x:=by
  apply Classical.byContradiction;intro hn;have:x=0:=ah;subst this;have:=h.1;simp at this
 have e:x&&&(x - 1)=(BitVec.ofNat 64 x&&&~~~(-(BitVec.ofNat 64 x))).toNat:=by
  rw[BitVec.toNat_and,BitVec.toNat_not,BitVec.toNat_neg,BitVec.toNat_ofNat,Nat.mod_eq_of_lt hx];congr 1;omega
 intro j;rw[e,BitVec.testBit_toNat,BitVec.getLsbD_and,BitVec.getLsbD_not,BitVec.getLsbD_neg];by_cases hj:j<64
 ·have hb:∀m,m<64→(BitVec.ofNat 64 x).getLsbD m=x.testBit m:=λm hm=>by rw[BitVec.getLsbD_ofNat];simp[hm]
  rw[hb j hj];simp only[hj,decide_true,Bool.true_and];by_cases hij:j=i
  ·subst hij;rw[h.1];have:¬∃m<j,(BitVec.ofNat 64 x).getLsbD m=true:=by
    rintro⟨m,hm,VP⟩;rw[hb m ah,h.2 m hm]at VP;cases VP
   simp[this]
  ·cases hxj:x.testBit j with
   |false=>simp
   |true=>
    have hlt:i<j:=by
     apply Classical.byContradiction;intro hn;have:=h.2 j ah;rw[hxj]at this;cases this
    have:∃m<j,(BitVec.ofNat 64 x).getLsbD m=true:=⟨i,hlt,by rw[hb i hi];exact h.1⟩
    simp[this,hij]
 ·have:=Nat.testBit_lt_two_pow (Nat.lt_of_lt_of_le hx (Nat.pow_le_pow_right ah (by omega:64≤j)))
  rw[this,BitVec.getLsbD_of_ge _ _ ah];simp
theorem arY{x:Nat}(hx:x<2 ^ 64)(h0:0<x):og .u64 (x:Int) (aL .u64 ((x:Int) - 1))=((x&&&(x - 1):Nat):Int):=by
 have hand:∀a b:Int,og .u64 a b=IntKind.u64.wrap ((BitVec.ofInt 64 a&&&BitVec.ofInt 64 b).toNat:Nat):=λ_ _=>rfl;have hw:aL .u64 ((x:Int) - 1)=((x - 1:Nat):Int):=by rw[CL];omega
 rw[hw,hand];simp only[BitVec.ofInt_natCast,BitVec.toNat_and,BitVec.toNat_ofNat];rw[Nat.mod_eq_of_lt hx,Nat.mod_eq_of_lt ah,CL];have:x&&&(x - 1)≤x:=Nat.and_le_left;omega
theorem anZ:bitsOf 0=[]:=gD
theorem an0{Y:Nat→bu}{v:Value}{a:Addr}{w:World}{c:Value→aq}(h:BP Y v a w λr w=>c (.tuple #[]) w):tM Y [v,.pointer (some a)] w c:=h
section
variable {w0 w:World} {L R:List HP}
theorem aef{x:Nat}{k:Int→aq}(h:St w0 w L)(hT:TZ w0)(hx:x<2 ^ 63)(hk:∀w',St w0 w' L→k ((bitsOf x).length:Nat) w'):kD (x:Int) w k:=by
 unfold kD KF pu;refine av h λgn w h=> ?_;with_reducible repeat' (first|refine xB h λw h=> ?_|refine av h λgx w h=> ?_|fail)
 refine Sn h λlr D Rc w h=> ?_;refine LZ (an0 (v:= .func (.yield lr) #[] #[]) (a:=⟨gx,0,none⟩) ?_);unfold BP DX;with_reducible repeat' (first|refine GM h ?_|fail)
 have aCi:x<2 ^ 64:=Nat.lt_trans hx gD;have hw:aL .u64 (x:Int)=(x:Int):=by rw[CL];omega
 rw[hw];refine Qn (G:=Nat×Nat) (λq i w=>i=(q.2:Int)∧q.2<2 ^ 64∧q.1+(bitsOf q.2).length=(bitsOf x).length∧St w0 w (ax gx [.int .i64 (x:Int)]::obj lr (Rc .ready)::obj D (.deferred (some []))::ax gn [.int .i64 (q.1:Nat)]::L)) (λq=>(bitsOf q.2).length)
  (g:=(0,x)) ⟨rfl,aCi,bh,h.perm GL⟩ ?_
 rintro⟨m,y⟩ _ w ⟨rfl,hy,hm,h⟩ C hC;dsimp only at hy hm h hC ⊢;have aF2:(bitsOf x).length≤64:=by unfold bitsOf;exact Nat.le_trans (List.length_filter_le _ _) bh
 by_cases hy0:y=0
 ·subst hy0;refine bp bh ?_;refine⟨Db (g:=lr) (o:=Rc .ready) h,?_⟩;replace h:=Av (g:=lr) (o:=Rc .ready) (Rc .exhausted) h;generalize w.putObj lr (Rc .exhausted)=w at h ⊢;with_reducible repeat' (first|refine GM h ?_|fail)
  have h:=K8 ((Ql h).perm (M:=obj D (.deferred (some []))::Iw []::ax gx [.int .i64 (x:Int)]::obj lr (Rc .exhausted)::ax gn [.int .i64 (m:Nat)]::L) GL);refine K9 h λw h=> ?_;rw[anZ]at hm;simp only[List.length_nil,Nat.add_zero]at hm;rw[hm];exact hk w (((h.rm 0 rfl).rm 0 rfl).rm 0 rfl)
 ·obtain⟨i,hl⟩:=amq (by omega:0<y)
  have hi:=Xd hl hy;refine bH (by simp;omega) ?_
  refine ayy h hT hl hy ?_;refine Qm ?_;refine alY (l:=lr) (R:=Rc) (kk:=[.i .i64]) (i:Int) (λc hc=>hc) h λw h=> ?_;with_reducible repeat' (first|refine GM h ?_|refine xB h λw h=> ?_|fail)
  refine⟨Db (g:=lr) (o:=Rc .busy) h,?_⟩;replace h:=Av (g:=lr) (o:=Rc .busy) (Rc .ready) h;generalize w.putObj lr (Rc .ready)=w at h ⊢;refine afs ?_;with_reducible repeat' (first|refine ij ?_|fail)
  have hbl:=ahT hi hl (aki hl hy);have hlen:(bitsOf y).length=(bitsOf (y&&&(y - 1))).length+1:=by rw[hbl];rfl
  rw[arY hy ah];have hle:y&&&(y - 1)≤y:=Nat.and_le_left;refine hC (m+1,y&&&(y - 1)) _ w ⟨rfl,ah,by dsimp only;omega,?_⟩ (by dsimp only;omega)
  have e:aL .i64 ((m:Int)+1)=((m+1:Nat):Int):=by rw[lO ⟨ah,ah⟩];omega
  rw[←e];exact h
def Xe(x:Nat)(n:Int):Int:=match (List.range 64).find? (λj=> !x.testBit j)with|some j=>if (j:Int)≥VD n 64 then -1 else j|none=> -1
theorem arZ{x:Nat}(hx:x<2 ^ 64):Jn .u64 18446744073709551615 (x:Int)=((2 ^ 64 - 1 - x:Nat):Int):=by
 have ar0:∀a b:Int,Jn .u64 a b=IntKind.u64.wrap ((BitVec.ofInt 64 a ^^^ BitVec.ofInt 64 b).toNat:Nat):=λ_ _=>rfl;rw[ar0];have e1:BitVec.ofInt 64 18446744073709551615=BitVec.allOnes 64:=gD;rw[e1,BitVec.allOnes_xor,BitVec.toNat_not,CL];simp only[BitVec.ofInt_natCast,BitVec.toNat_ofNat];rw[Nat.mod_eq_of_lt hx];omega
theorem abS{x j:Nat}(hx:x<2 ^ 64)(hj:j<64):(2 ^ 64 - 1 - x).testBit j= !x.testBit j:=by
 have:=Nat.testBit_two_pow_sub_succ (x:=x) (n:=64) hx j;rw[show 2 ^ 64 - 1 - x=2 ^ 64 - (x+1) by omega,this]
 simp[hj]
theorem an1{x:Nat}{n:Int}{k:Int→aq}(h:St w0 w L)(hT:TZ w0)(hx:x<2 ^ 63)(hk:∀w',St w0 w' L→k (Xe x n) w'):r8 (x:Int) n w k:=by
 unfold r8 KG;have hw:aL .u64 (x:Int)=(x:Int):=by rw[CL];omega
 rw[hw,arZ ah];have hpos:0<2 ^ 64 - 1 - x:=ah;obtain⟨i,hl⟩:=amq hpos;have hi:=Xd hl ah;have hk:=hk w h;unfold Xe at hk;have hf:(List.range 64).find? (λj=> !x.testBit j)=some i:=by
  rw[List.find?_range_eq_some];refine⟨by rw[←abS ah hi];exact hl.1,by simpa using hi,λj hj=> ?_⟩
  have:=hl.2 j hj;rw[abS ah ah]at this;simpa using this
 rw[hf]at hk;dsimp only at hk;refine ayy h hT hl ah ?_;refine aF (λhb=> ?_) λhb=> ?_
 ·rw[if_pos (of_decide_eq_true hb)]at hk;exact hk
 ·rw[if_neg (of_decide_eq_false hb)]at hk;exact hk
def yW(x i:Int):Bool:=if 0≤i∧i<64 then og .i64 (Ih .i64 x i) 1==1 else false
theorem amr{x i:Int}{k:Bool→aq}(hk:k (yW x i) w):ko x i w k:=by
 unfold ko;unfold yW at hk;refine aF (λhb=> ?_) λhb=> ?_
 ·have hb:0≤i∧i<64:=by simpa using hb
  rw[if_pos hb]at hk;exact alT hb.1 hk
 ·have hb:¬(0≤i∧i<64):=by simpa using hb
  rw[if_neg hb]at hk;exact hk
end
structure Sp where
 at_:Int
 base:Int
 most:Int
def Sp.OK(s:Sp):Prop:=1≤s.base∧s.base≤16∧0≤s.most∧s.most≤16 - s.base
abbrev Sp.ag(s:Sp):Array Value:=#[.int .i64 s.at_,.int .i64 s.base,.int .i64 s.most]
def Sp.bb(s:Sp):Int:=wr (sx .i64 1 s.base - 1)
structure jz where
 self:Int
 wait:Int
 on:Int
 af4:Int
 next:Nat
def spF:Nat→Nat
 |1=>uS
 |2=>uR
 |3=>uO
 |4=>uT
 |5=>uQ
 |_=>sj
def azT(g:Nat):Nat→Value
 |0=> .nilFunc
 |n+1=> .func (.func (spF (n+1))) #[.pointer (some ⟨g,0,none⟩)] #[]
def jz.cells(s:Sp)(g:Nat)(o:jz):List Value:=[.int .i64 s.at_,.int .i64 s.base,.int .i64 s.most,.int .i64 o.self,.int .i64 o.wait,.int .i64 o.on,.int .i64 o.af4,azT g o.next]
def Zl(x:Int):Int:=((bitsOf x.toNat).length:Nat)
section
variable (s:Sp) (M:bO) (wk:Int) (o:jz)
def jz.more:jz×bO:=({o with wait:=wr (M.get s.at_+1),next:=4},M.ad wk s.at_ 1)
def jz.less:jz×bO:=({o with next:=0},M.ad wk s.at_ (-1))
def jz.look:jz×bO:=({o with wait:=M.get s.at_,next:=5},M.tick wk)
def jz.need:jz×bO:=(if Zl (M.get (s.at_+1))<s.most∧Zl (M.get (s.at_+1))<o.wait then{o with on:=M.get (s.at_+1),self:=Xe (SH .i64 (M.get (s.at_+1)) s.bb).toNat 16,next:=6}else{o with on:=M.get (s.at_+1),next:=0},M.tick wk)
def jz.many:jz×bO:=(if yW (M.get (s.at_+1)) o.self=true∧Zl (M.get (s.at_+1))>o.wait then{o with on:=M.get (s.at_+1),next:=6}else{o with on:=M.get (s.at_+1),next:=0},M.tick wk)
def jz.adU:jz×bO:=(let r:=M.cs wk (s.at_+1) o.on (Jn .i64 o.on (sx .i64 1 (YV o.self 0)));(if r.2 then{o with af4:=o.self,next:=0}else{o with next:=0},r.1))
def jz.go:jz×bO:=match o.next with
 |0=>(o,M)
 |1=>o.more s M wk
 |2=>o.less s M wk
 |3=>o.look s M wk
 |4=>o.need s M wk
 |5=>o.many s M wk
 |_=>o.adU s M wk
end
section
variable {w0 w:World} {L R:List HP} {g gm:Nat} {s:Sp} {M:bO} {wk:Int} {o:jz} {f:HP→List HP}
theorem Vi{k:Bool→aq}(h:St w0 w L)(hs:s.OK)(hk:∀w',St w0 w' L→k true w'):cj s.ag w k:=by
 obtain⟨h1,h2,h3,h4⟩:=hs;unfold cj;with_reducible repeat' (first|refine dX h ?_|refine av h λgx w h=> ?_|fail)
 refine bH (by simpa using h1) ?_
 with_reducible repeat' (first|refine dX h ?_|fail)
 refine bH (by simpa using h2) ?_
 with_reducible repeat' (first|refine dX h ?_|fail)
 refine bH (by simpa using h3) ?_
 with_reducible repeat' (first|refine dX h ?_|fail)
 show k (decide (s.most≤aL .i64 (16 - s.base))) w;rw[lO ⟨ah,ah⟩,decide_eq_true h4];exact hk w h.drop
theorem aeg{k:Int→aq}(h:St w0 w L)(hs:s.OK)(hk:∀w',St w0 w' L→k s.bb w'):dS s.ag w k:=by
 obtain⟨h1,h2,h3,h4⟩:=hs;unfold dS;with_reducible repeat' (first|refine dX h ?_|refine av h λgx w h=> ?_|fail)
 refine HO ah ?_;exact hk w h.drop
def Sp.bits(s:Sp)(M:bO):Int:=SH .i64 s.bb (M.get (s.at_+1))
theorem aeh{k:Int→aq}(h:St w0 w L)[a:At L (bN gm) M f](hs:s.OK)(hM:M.OK)(hc:M.given (s.at_+1)=true)(hk:∀w',St w0 w' L→k (s.bits M) w'):dU s.ag (some ⟨gm,0,none⟩) w k:=by
 unfold dU zB;refine av h λga w h=> ?_;refine bU (λb w=>b=false∧St w0 w (ax ga s.ag.toList::L)) (λJ hJ=> ?_) ?_
 ·with_reducible repeat' (first|refine pn h ?_|refine ij ?_|fail)
  refine Vi (s:=s) h hs λw h=> ?_;exact hJ _ _ ⟨rfl,h⟩
 rintro _ w ⟨rfl,h⟩;with_reducible repeat' (first|refine aK h λw h=> ?_|refine dX h ?_|refine pn h ?_|refine ij ?_|fail)
 refine aeg (s:=s) h hs λw h=> ?_;with_reducible repeat' (first|refine kr h ?_|fail)
 rw[Ak (.inr hc) hM];refine W9 (M:=M) h ?_;rw[if_pos hc];exact hk w h.drop
theorem awh{i:Int}{k:Bool→aq}(h:St w0 w L)[a:At L (bN gm) M f](hs:s.OK)(hM:M.OK)(hc:M.given (s.at_+1)=true)(hk:∀w',St w0 w' L→k (yW (s.bits M) i) w'):dA s.ag (some ⟨gm,0,none⟩) i w k:=by
 unfold dA Cg;refine av h λga w h=> ?_;with_reducible repeat' (first|refine pn h ?_|fail)
 refine aeh (s:=s) h hs hM hc λw h=>amr ?_;exact hk w h.drop
theorem ar1{base most:Int}{k:Array Value×Int→aq}(h:St w0 w L)[a2:At L (bN gm) M f](hs:Sp.OK ⟨0,base,most⟩)(hw:M.caller wk=true)(hM:M.OK)
  (hk:M.room 2=true→∀w',St w0 w' (f (bN gm ((M.tick wk).grow 2)))→k (Sp.ag ⟨(M.cells.length:Nat),base,most⟩,0) w') (GF:M.room 2=false→∀w',St w0 w' L→k (Sp.ag ⟨0,0,0⟩,21) w'):
  uc (some ⟨gm,0,none⟩) wk base most w k:=by
 unfold uc MN;with_reducible repeat' (first|refine pn h ?_|refine qX h λw h=> ?_|refine av h λgx w h=> ?_|refine ij ?_|fail)
 refine Vi (s:=⟨0,base,most⟩) h hs λw h=> ?_;with_reducible repeat' (first|refine ij ?_|fail)
 refine Gp (M:=M) h hM (λ_ _ hr w h=> ?_) (λ_ _ hr=> ?_) λhn=>(hn ⟨hw,ah⟩).elim
 ·with_reducible repeat' (first|refine pn h ?_|refine eL h λw h=> ?_|refine qX h λw h=> ?_|refine ij ?_|fail)
  exact hk hr w h.drop.drop
 ·with_reducible repeat' (first|refine pn h ?_|refine qX h λw h=> ?_|refine qx ?_|fail)
  exact GF hr w h.drop.drop
def jz.CT(self:Int)(n:Nat):jz:=⟨self,0,0, -1,n⟩
theorem ar2{k:Option Addr→aq}(h:St w0 w L)(hk:∀g w',St w0 w' (ax g (jz.cells s g (jz.CT 0 1))::L)→k (some ⟨g,0,none⟩) w'):jI s.ag w k:=by
 unfold jI;with_reducible repeat' (first|refine pn h ?_|refine av h λgx w h=> ?_|fail)
 refine⟨rfl,?_⟩;refine av h λgz w h=> ?_;with_reducible repeat' (first|refine eL h λw h=> ?_|fail)
 exact hk gz w (h.rm 1 rfl)
theorem an2{k:Option Addr→aq}(h:St w0 w L)(hk:∀g w',St w0 w' (ax g (jz.cells s g (jz.CT 0 2))::L)→k (some ⟨g,0,none⟩) w'):iq s.ag w k:=by
 unfold iq;with_reducible repeat' (first|refine pn h ?_|refine av h λgx w h=> ?_|fail)
 refine⟨rfl,?_⟩;refine av h λgz w h=> ?_;with_reducible repeat' (first|refine eL h λw h=> ?_|fail)
 exact hk gz w (h.rm 1 rfl)
theorem an3{self:Int}{k:Option Addr→aq}(h:St w0 w L)(hk:∀g w',St w0 w' (ax g (jz.cells s g (jz.CT self 3))::L)→k (some ⟨g,0,none⟩) w'):jh s.ag self w k:=by
 unfold jh;with_reducible repeat' (first|refine pn h ?_|refine av h λgx w h=> ?_|fail)
 refine⟨rfl,?_⟩;refine av h λgz w h=> ?_;with_reducible repeat' (first|refine eL h λw h=> ?_|fail)
 exact hk gz w (h.rm 1 rfl)
theorem ar3{k:Int→aq}(h:St w0 w L)[a:At L (ax g) (jz.cells s g o) f](hk:k o.af4 w):nl (some ⟨g,0,none⟩) w k:=by
 unfold nl;with_reducible repeat' (first|refine an ?_|refine dX h ?_|refine ij ?_|fail)
 exact hk
end
abbrev aei(w0:World)(s:Sp)(g gm:Nat)(R:List HP)(k:Int→aq)(r:jz×bO):Prop:=∀w',St w0 w' (ax g (jz.cells s g r.1)::bN gm r.2::R)→k 0 w'
section
variable {w0 w:World} {R:List HP} {g gm:Nat} {s:Sp} {M:bO} {wk:Int} {o:jz} {k:Int→aq}
theorem sp1(h:St w0 w (ax g (jz.cells s g o)::bN gm M::R))(hc:M.can wk s.at_=true)(hk:aei w0 s g gm R k (o.more s M wk)):lS (some ⟨g,0,none⟩) (some ⟨gm,0,none⟩) wk w k:=by
 unfold lS Fj;with_reducible repeat' (first|refine an ?_|fail)
 refine cv (g:=g) (o:=0) h rfl ?_;refine Vd (M:=M) h hc λw h=> ?_;with_reducible repeat' (first|refine an ?_|refine eL h λw h=> ?_|refine qx ?_|fail)
 exact hk w h
theorem sp2(h:St w0 w (ax g (jz.cells s g o)::bN gm M::R))(hc:M.can wk s.at_=true)(hk:aei w0 s g gm R k (o.less s M wk)):lT (some ⟨g,0,none⟩) (some ⟨gm,0,none⟩) wk w k:=by
 unfold lT Fk;with_reducible repeat' (first|refine an ?_|fail)
 refine cv (g:=g) (o:=0) h rfl ?_;refine Vd (M:=M) h hc λw h=> ?_;with_reducible repeat' (first|refine an ?_|refine eL h λw h=> ?_|refine qx ?_|fail)
 exact hk w h
theorem sp3(h:St w0 w (ax g (jz.cells s g o)::bN gm M::R))(hc:M.can wk s.at_=true)(hk:aei w0 s g gm R k (o.look s M wk)):lU (some ⟨g,0,none⟩) (some ⟨gm,0,none⟩) wk w k:=by
 unfold lU Fm;with_reducible repeat' (first|refine an ?_|fail)
 refine cv (g:=g) (o:=0) h rfl ?_;refine ldc (M:=M) h hc λw h=> ?_;with_reducible repeat' (first|refine an ?_|refine eL h λw h=> ?_|refine qx ?_|fail)
 exact hk w h
theorem awi{a b:Nat}(ha:a<2 ^ 63)(hb:b<2 ^ 63):SH .i64 (a:Int) (b:Int)=((a|||b:Nat):Int)∧a|||b<2 ^ 63:=by
 have h:a|||b<2 ^ 63:=Nat.or_lt_two_pow ha hb;have hor:∀a b:Int,SH .i64 a b=IntKind.i64.wrap ((BitVec.ofInt 64 a|||BitVec.ofInt 64 b).toNat:Nat):=λ_ _=>rfl
 refine⟨?_,h⟩;rw[hor];simp only[BitVec.ofInt_natCast,BitVec.toNat_or,BitVec.toNat_ofNat];rw[Nat.mod_eq_of_lt ah,Nat.mod_eq_of_lt ah,lO ⟨ah,ah⟩]
theorem awj(hs:s.OK):∃b:Nat,s.bb=b∧b<2 ^ 63:=by
 obtain⟨h1,h2,_⟩:=hs;have key:∀n:Nat,n<17→wr (sx .i64 1 (n:Int) - 1)=((2 ^ n - 1:Nat):Int)∧2 ^ n - 1<2 ^ 63:=gD;obtain⟨hb,hlt⟩:=key s.base.toNat ah;refine⟨2 ^ s.base.toNat - 1,?_,hlt⟩;unfold Sp.bb;rw[show s.base=(s.base.toNat:Int) by omega];exact hb
theorem sp4(h:St w0 w (ax g (jz.cells s g o)::bN gm M::R))(hT:TZ w0)(hs:s.OK)(hM:M.OK)(hc:M.can wk (s.at_+1)=true)(hx:∃x:Nat,M.get (s.at_+1)=x∧x<2 ^ 63)(hk:aei w0 s g gm R k (o.need s M wk)):lV (some ⟨g,0,none⟩) (some ⟨gm,0,none⟩) wk w k:=by
 unfold lV Fo;obtain⟨x,hx,hx2⟩:=hx;unfold jz.need at hk;rw[hx]at hk;have hp:Zl (x:Int)=((bitsOf x).length:Nat):=rfl;with_reducible repeat' (first|refine an ?_|fail)
 refine cv (g:=g) (o:=0) h rfl ?_;rw[Ak (.inr (oM hc)) hM];refine ldc (M:=M) h hc λw h=> ?_;rw[hx];with_reducible repeat' (first|refine an ?_|refine eL h λw h=> ?_|refine ij ?_|fail)
 refine aef h hT hx2 λw h=> ?_;rw[←hp];refine bU (λb w'=>w'=w∧b=decide (Zl (x:Int)<s.most∧Zl (x:Int)<o.wait)) (λJ hJ=> ?_) ?_
 ·with_reducible repeat' (first|refine an ?_|fail)
  refine cv (g:=g) (o:=2) h rfl ?_;refine aF (λhb=> ?_) λhb=> ?_
  ·have hb:=of_decide_eq_true hb;with_reducible repeat' (first|refine an ?_|refine dX h ?_|fail)
   refine hJ _ _ ⟨rfl,?_⟩;simp[hb,jz.cells]
  ·have hb:=of_decide_eq_false hb;refine hJ _ _ ⟨rfl,?_⟩;simp[hb]
 rintro _ _ ⟨rfl,rfl⟩;refine aF (λhb=> ?_) λhb=> ?_
 ·rw[if_pos (of_decide_eq_true hb)]at hk;with_reducible repeat' (first|refine an ?_|refine pi h ?_|fail)
  refine aeg (s:=s) h hs λw h=> ?_;obtain⟨b,AP,jP⟩:=awj hs;have ho:=awi hx2 jP;rw[AP,ho.1]at hk ⊢;refine an1 h hT ho.2 λw h=> ?_;with_reducible repeat' (first|refine an ?_|refine eL h λw h=> ?_|fail)
  exact hk w h
 ·rw[if_neg (of_decide_eq_false hb)]at hk;exact hk _ h
theorem sp5(h:St w0 w (ax g (jz.cells s g o)::bN gm M::R))(hT:TZ w0)(hs:s.OK)(hM:M.OK)(hc:M.can wk (s.at_+1)=true)(hx:∃x:Nat,M.get (s.at_+1)=x∧x<2 ^ 63)(hk:aei w0 s g gm R k (o.many s M wk)):lW (some ⟨g,0,none⟩) (some ⟨gm,0,none⟩) wk w k:=by
 unfold lW Fp;obtain⟨x,hx,hx2⟩:=hx;unfold jz.many at hk;rw[hx]at hk;have hp:Zl (x:Int)=((bitsOf x).length:Nat):=rfl;with_reducible repeat' (first|refine an ?_|fail)
 refine cv (g:=g) (o:=0) h rfl ?_;rw[Ak (.inr (oM hc)) hM];refine ldc (M:=M) h hc λw h=> ?_;rw[hx];with_reducible repeat' (first|refine an ?_|refine eL h λw h=> ?_|refine ij ?_|fail)
 refine bU (λb w'=>St w0 w' (ax g (jz.cells s g {o with on:=(x:Int),next:=0})::bN gm (M.tick wk)::R)∧b=decide (yW (x:Int) o.self=true∧Zl (x:Int)>o.wait)) (λJ hJ=> ?_) ?_
 ·with_reducible repeat' (first|refine an ?_|refine aK h λw h=> ?_|refine dX h ?_|fail)
  refine amr (aF (λhb=> ?_) λhb=> ?_)
  ·with_reducible repeat' (first|refine an ?_|refine dX h ?_|fail)
   refine aef h hT hx2 λw h=> ?_;with_reducible repeat' (first|refine kr h ?_|fail)
   rw[←hp];refine hJ _ _ ⟨h,?_⟩;have hb:yW (x:Int) o.self=true:=hb;simp[hb,jz.cells]
  ·refine hJ _ _ ⟨h,?_⟩;have hb:yW (x:Int) o.self=false:=hb;simp[hb]
 rintro _ w ⟨h,rfl⟩;refine aF (λhb=> ?_) λhb=> ?_
 ·rw[if_pos (of_decide_eq_true hb)]at hk;with_reducible repeat' (first|refine an ?_|refine eL h λw h=> ?_|fail)
  exact hk w h
 ·rw[if_neg (of_decide_eq_false hb)]at hk;exact hk _ h
theorem sp6(h:St w0 w (ax g (jz.cells s g o)::bN gm M::R))(hM:M.OK)(hc:M.can wk (s.at_+1)=true)(hk:aei w0 s g gm R k (o.adU s M wk)):lX (some ⟨g,0,none⟩) (some ⟨gm,0,none⟩) wk w k:=by
 unfold lX Fq;unfold jz.adU at hk;with_reducible repeat' (first|refine an ?_|refine aK h λw h=> ?_|fail)
 refine cv (g:=g) (o:=0) h rfl ?_;with_reducible repeat' (first|refine an ?_|refine dX h ?_|fail)
 refine HO (by unfold YV;split<;>simp_all) ?_
 rw[Ak (.inr (oM hc)) hM];refine amh (M:=M) h hc λw h=> ?_;with_reducible repeat' (first|refine an ?_|refine eL h λw h=> ?_|refine ij ?_|fail)
 refine aF (λhb=> ?_) λhb=> ?_
 ·have hb:(M.cs wk (s.at_+1) o.on (Jn .i64 o.on (sx .i64 1 (YV o.self 0)))).2=true:=hb;simp only[hb,if_true]at hk;with_reducible repeat' (first|refine an ?_|refine dX h ?_|refine eL h λw h=> ?_|fail)
  exact hk w h
 ·have hb:(M.cs wk (s.at_+1) o.on (Jn .i64 o.on (sx .i64 1 (YV o.self 0)))).2=false:=hb;simp only[hb,Bool.false_eq_true,if_false]at hk;exact hk w h
theorem ar4{a b:Option Addr}{i:Int}{w:World}{c:Value→aq}(h:lS a b i w λr w=>c (.int .i64 r) w):LC [.pointer a,.pointer b,.int .i64 i] w c:=h
theorem ar5{a b:Option Addr}{i:Int}{w:World}{c:Value→aq}(h:lT a b i w λr w=>c (.int .i64 r) w):LD [.pointer a,.pointer b,.int .i64 i] w c:=h
theorem ar6{a b:Option Addr}{i:Int}{w:World}{c:Value→aq}(h:lU a b i w λr w=>c (.int .i64 r) w):LF [.pointer a,.pointer b,.int .i64 i] w c:=h
theorem ar7{a b:Option Addr}{i:Int}{w:World}{c:Value→aq}(h:lV a b i w λr w=>c (.int .i64 r) w):LG [.pointer a,.pointer b,.int .i64 i] w c:=h
theorem ar8{a b:Option Addr}{i:Int}{w:World}{c:Value→aq}(h:lW a b i w λr w=>c (.int .i64 r) w):LH [.pointer a,.pointer b,.int .i64 i] w c:=h
theorem ar9{a b:Option Addr}{i:Int}{w:World}{c:Value→aq}(h:lX a b i w λr w=>c (.int .i64 r) w):LI [.pointer a,.pointer b,.int .i64 i] w c:=h
structure jz.Gs (s:Sp) (M:bO) (wk:Int) (o:jz):Prop where
 n:o.next≤6
 c:M.can wk s.at_=true
 c1:M.can wk (s.at_+1)=true
 x:∃x:Nat,M.get (s.at_+1)=x∧x<2 ^ 63
theorem Yp{k:Bool×Int→aq}(h:St w0 w (ax g (jz.cells s g o)::bN gm M::R))(hT:TZ w0)(hs:s.OK)(hM:M.OK)(hf:o.Gs s M wk)
  (hk:∀w',St w0 w' (ax g (jz.cells s g (o.go s M wk).1)::bN gm (o.go s M wk).2::R)→k ((o.go s M wk).1.next==0,0) w'):dw (some ⟨g,0,none⟩) (some ⟨gm,0,none⟩) wk w k:=by
 obtain⟨hn,hc,GG,hx⟩:=hf;unfold dw Fs;with_reducible repeat' (first|refine an ?_|refine pi h ?_|refine ij ?_|fail)
 refine Vi (s:=s) h hs λw h=> ?_;with_reducible repeat' (first|refine an ?_|refine td h ?_|refine ij ?_|fail)
 obtain⟨sf,wt,on,mv,nx⟩:=o;dsimp only at hn;have fin:∀(r:jz×bO) w,(∀w',St w0 w' (ax g (jz.cells s g r.1)::bN gm r.2::R)→k (r.1.next==0,0) w')→St w0 w (ax g (jz.cells s g r.1)::bN gm r.2::R)→
   sX w (aX ⟨g,0,none⟩ 7) λv14=>aas v14 λb15=>k (b15,(0:Int)) w:=by
  intro r w hk h;with_reducible repeat' (first|refine td h ?_|fail)
  have hk:=hk w h;cases hr:r.1.next with
  |zero=>
   rw[hr]at hk;exact alZ hk
  |succ n=>
   rw[hr]at hk;exact MC hk
 match nx,hn with
 |0,_=>
  refine alZ ?_;with_reducible repeat' (first|refine qx ?_|fail)
  exact hk w h
 |1,_=>
  refine MC ?_;with_reducible repeat' (first|refine an ?_|refine td h ?_|refine ij ?_|fail)
  refine bX (d:=LC) (λ_ _ _=>rfl) (ar4 ?_);refine sp1 h hc λw h=> ?_;exact Ip (bp rfl (fin _ w hk h))
 |2,_=>
  refine MC ?_;with_reducible repeat' (first|refine an ?_|refine td h ?_|refine ij ?_|fail)
  refine bX (d:=LD) (λ_ _ _=>rfl) (ar5 ?_);refine sp2 h hc λw h=> ?_;exact Ip (bp rfl (fin _ w hk h))
 |3,_=>
  refine MC ?_;with_reducible repeat' (first|refine an ?_|refine td h ?_|refine ij ?_|fail)
  refine bX (d:=LF) (λ_ _ _=>rfl) (ar6 ?_);refine sp3 h hc λw h=> ?_;exact Ip (bp rfl (fin _ w hk h))
 |4,_=>
  refine MC ?_;with_reducible repeat' (first|refine an ?_|refine td h ?_|refine ij ?_|fail)
  refine bX (d:=LG) (λ_ _ _=>rfl) (ar7 ?_);refine sp4 h hT hs hM GG hx λw h=> ?_;exact Ip (bp rfl (fin _ w hk h))
 |5,_=>
  refine MC ?_;with_reducible repeat' (first|refine an ?_|refine td h ?_|refine ij ?_|fail)
  refine bX (d:=LH) (λ_ _ _=>rfl) (ar8 ?_);refine sp5 h hT hs hM GG hx λw h=> ?_;exact Ip (bp rfl (fin _ w hk h))
 |6,_=>
  refine MC ?_;with_reducible repeat' (first|refine an ?_|refine td h ?_|refine ij ?_|fail)
  refine bX (d:=LI) (λ_ _ _=>rfl) (ar9 ?_);refine sp6 h hM GG λw h=> ?_;exact Ip (bp rfl (fin _ w hk h))
end
end Go.Proofs.YthidhjhkmjjckaaGreatDoor
namespace Go.Proofs.YthidhjhkmjjckaaGreatDoor.Fr
open Go Go.Ev Go.Proofs
def Ay(f:List Int)(pc:Int):List Int:=(f.set 1 pc).set 18 (IntKind.i64.wrap ((f.set 1 pc).getD 18 0+1))
def m8(f:List Int):List Int:=Ay f (IntKind.i64.wrap (f.getD 1 0+1))
theorem qp{f:List Int}{pc:Int}:(Ay f pc).length=f.length:=by simp[Ay]
theorem j1{f:List Int}:(m8 f).length=f.length:=qp
abbrev Z(n:Nat):List Int:=dM n 0
theorem asa{f:List Int}{pc:Int}{w:World}{k:Array Value→aq}(hf:f.length=19)(hk:∀w',Ext w w'→k (eV (Ay f pc)) w'):c7 (eV f) pc w k:=by
 unfold c7;refine ju λg1 w1 ZV hs1 AP Al=>ju λg2 w2 Mw Io jP uM=> ?_;have vj:BI w2 g1 f:=AP.ext uM;simp only[c8,Nat.zero_add];refine B1 vj ah λw3 sB UD Vh=> ?_;refine jQ sB (by simp;omega) ?_
 refine B1 sB (by simp;omega) λw4 IZ hs4 TG=> ?_
 refine kG IZ (by simp[hf]) ?_
 have yX:=(jP.keep Vh ah).keep TG ah;refine xA yX rfl (by simp[hf]) λw5 Vj hs5 ZW=>kG Vj (by simp[hf]) ?_
 exact hk _ ((((Al.trans uM).then Vh λg hg=>by omega).then TG λg hg=>by omega).then ZW λg hg=>by have:=Al.size;omega)
theorem abT{f:List Int}{w:World}{k:Array Value→aq}(hf:f.length=19)(hk:∀w',Ext w w'→k (eV (m8 f)) w'):ay (eV f) w k:=by
 unfold ay xY;refine ju λg1 w1 ZV hs1 AP Al=>ju λg2 w2 Mw Io jP uM=> ?_;have vj:BI w2 g1 f:=AP.ext uM;simp only[c8,Nat.zero_add];refine kG vj hf (jQ vj ah (asa hf λw3 y8=> ?_));refine xA (jP.ext y8) rfl (by simp[qp,hf]) λw5 Vj hs5 ZW=>kG Vj (by simp[qp,hf]) ?_
 exact hk _ (((Al.trans uM).trans y8).then ZW λg hg=>by have:=Al.size;omega)
theorem af5{l:List Int}(h:l.length=19):∃a b c d e f g h i j k m n o p q r s t,l=[a,b,c,d,e,f,g,h,i,j,k,m,n,o,p,q,r,s,t]:=by
 match l,h with
 |[a,b,c,d,e,f,g,h,i,j,k,m,n,o,p,q,r,s,t],_=>exact⟨a,b,c,d,e,f,g,h,i,j,k,m,n,o,p,q,r,s,t,rfl⟩
def nF:List Int:=[0,0,0,0,0,0,0,0,0,0, -1, -1, -1, -1, -1, -1, -1, -1,0]
theorem an4{i:Nat}(h:i<8):(dM 10 (0:Int)++(dM i (-1)++dM (9 - i) 0)).set (10+i) (-1)=dM 10 0++(dM (i+1) (-1)++dM (9 - (i+1)) 0):=by
 match i,h with
 |0,_=>rfl
 |1,_=>rfl
 |2,_=>rfl
 |3,_=>rfl
 |4,_=>rfl
 |5,_=>rfl
 |6,_=>rfl
 |7,_=>rfl
theorem ams{w:World}{k:Array Value→aq}(hk:∀w',Ext w w'→k (eV nF) w'):lj w k:=by
 unfold lj;refine ju λg1 w1 ZV hs1 AP Al=>ju λg2 w2 Mw Io jP uM=> ?_;simp only[c8,Nat.zero_add];have aCj:BI w2 g2 (dM 10 0++(dM 0 (-1)++dM (9 - 0) 0)):=by
  have e:(dM 10 (0:Int)++(dM 0 (-1)++dM (9 - 0) 0))=Z 19:=gD;rw[e];exact jP
 refine pT (fun(x:Int) w'=> ∃i:Nat,x=i∧i≤8∧BI w' g2 (dM 10 0++(dM i (-1)++dM (9 - i) 0))∧pz (λk=>k=g2) w2 w') (λx _=>(8 - x).toNat) ⟨0,rfl,ah,aCj,.refl _ _⟩ ?_;rintro _ w3 ⟨i,rfl,hi,sB,Vh⟩ C hC;refine aF (λhlt=> ?_) (λhge=> ?_)
 ·have hlt:i<8:=by
    have:(i:Int)<8:=by simpa using hlt
    omega
  refine tV ah ah ?_;simp only[kY,Nat.mul_one];refine B1 sB (by simp;omega) λw4 IZ hs4 TG=> ?_
  have hw:IntKind.i64.wrap ((i:Int)+1)=((i+1:Nat):Int):=by rw[dQ ⟨ah,ah⟩];simp
  exact hC _ _ ⟨i+1,hw,ah,by rw[←an4 hlt];exact IZ,Vh.trans TG (λ_ _ h=>h) λ_ _ h=>h⟩ (by rw[hw];omega)
 ·have hge:i=8:=by
    have:¬(i:Int)<8:=by simpa using hge
    omega
  subst hge;refine kG (l:=nF) sB rfl ?_;refine xA (l:=nF) ((AP.ext uM).keep Vh ah) rfl rfl λw5 Vj hs5 ZW=>kG Vj rfl ?_;exact hk _ (((Al.trans uM).then Vh λg hg=>by have:=Al.size;omega).then ZW λg hg=>by omega)
def nG:List Int:=[1,0,0,5,1,1,0,0,1,1,1,0,1,1,1,0,1,1,1,0,1,1,1,0,0,0,0,2,1,0,0,2,1,0,0,3,1,1,0,0,1,1,1,0,0,0,0,4,1,0,0,0,0,0,0,0,0,0,0,0,1,0,0,0,1,0,0,0]
def Vk(k:Int):Int×Int:=if k=1 then(0,7)else if k=2 then(0,127)else if k=3 then(0,31)else if k=4 then(0,65535)else if k=5 then(-2147483648,2147483647)else(0,0)
def pI(op j:Nat):Int×Int:=Vk (nG.getD (4*op+j) 0)
def FF(i:List Int)(j:Nat):Bool:=decide ((pI (i.getD 0 0).toNat j).1≤i.getD (j+1) 0∧i.getD (j+1) 0≤(pI (i.getD 0 0).toNat j).2)
def oD(i:List Int):Int:=if i.getD 0 0<0∨i.getD 0 0≥17 then 13 else if FF i 0&&FF i 1&&FF i 2&&FF i 3 then 0 else 10
theorem af6{x:Int}{w:World}{k:Int×Int→aq}(hk:k (Vk x) w):ru x w k:=by
 unfold ru;unfold Vk at hk;refine aF (λh=> ?_) (λh=> ?_)
 ·rw[if_pos (by simpa using h)]at hk;exact hk
 rw[if_neg (by simpa using h)]at hk
 refine aF (λh=> ?_) (λh=> ?_)
 ·rw[if_pos (by simpa using h)]at hk;exact hk
 rw[if_neg (by simpa using h)]at hk
 refine aF (λh=> ?_) (λh=> ?_)
 ·rw[if_pos (by simpa using h)]at hk;exact hk
 rw[if_neg (by simpa using h)]at hk
 refine aF (λh=> ?_) (λh=> ?_)
 ·rw[if_pos (by simpa using h)]at hk;exact hk
 rw[if_neg (by simpa using h)]at hk
 refine aF (λh=> ?_) (λh=> ?_)
 ·rw[if_pos (by simpa using h)]at hk;exact hk
 rw[if_neg (by simpa using h)]at hk
 exact hk
theorem RK{op:Int}{w:World}{k:Array Value→aq}(h0:0≤op)(h1:op<17)(hk:∀w',Ext w w'→k (eV ((nG.drop (op.toNat*4)).take 4)) w'):lR op w k:=by
 unfold lR;refine ju λg1 w1 ZV hs1 AP Al=> ?_;refine qH (eV (nG.take 4++Z 64)) rfl rfl ?_;refine qH (eV (nG.take 8++Z 60)) rfl rfl ?_;refine qH (eV (nG.take 12++Z 56)) rfl rfl ?_;refine qH (eV (nG.take 16++Z 52)) rfl rfl ?_;refine qH (eV (nG.take 20++Z 48)) rfl rfl ?_;refine qH (eV (nG.take 24++Z 44)) rfl rfl ?_;refine qH (eV (nG.take 28++Z 40)) rfl rfl ?_;refine qH (eV (nG.take 32++Z 36)) rfl rfl ?_;refine qH (eV (nG.take 36++Z 32)) rfl rfl ?_;refine qH (eV (nG.take 40++Z 28)) rfl rfl ?_;refine qH (eV (nG.take 44++Z 24)) rfl rfl ?_;refine qH (eV (nG.take 48++Z 20)) rfl rfl ?_;refine qH (eV (nG.take 52++Z 16)) rfl rfl ?_;refine qH (eV (nG.take 56++Z 12)) rfl rfl ?_;refine qH (eV (nG.take 60++Z 8)) rfl rfl ?_;refine qH (eV (nG.take 64++Z 4)) rfl rfl ?_;refine qH (eV nG) rfl rfl ?_;refine ju λg2 w2 Mw Io jP uM=> ?_;refine xA jP rfl rfl λw3 sB UD Vh=> ?_;have vj:=(AP.ext uM).keep Vh ah;refine tV h0 ah ?_;rw[Nat.zero_add];have hl:nG.length=68:=rfl;refine apZ sB ah ?_;refine xA vj rfl (by simp[hl];omega) λw4 IZ hs4 TG=>kG IZ (by simp[hl];omega) ?_
 exact hk _ (((Al.trans uM).then Vh λg hg=>by have:=Al.size;omega).then TG λg hg=>by omega)
theorem four{j:Nat}(h:j<4):j=0∨j=1∨j=2∨j=3:=ah
theorem asb{i:List Int}{j:Nat}(h0:¬(i.getD 0 0<0∨i.getD 0 0≥17))(hj:j<4)(hb:FF i j=false):oD i=10:=by
 unfold oD;rw[if_neg h0];rcases four hj with rfl|rfl|rfl|rfl<;>simp[hb]
theorem aej{i:List Int}(h0:¬(i.getD 0 0<0∨i.getD 0 0≥17))(hb:∀j,j<4→FF i j=true):oD i=0:=by
 unfold oD;rw[if_neg h0];simp[hb 0 ah,hb 1 ah,hb 2 ah,hb 3 ah]
theorem akj{op j:Nat}(h:op<17)(hj:j<4):((nG.drop (op*4)).take 4).getD j 0=nG.getD (4*op+j) 0:=by
 rw[nr,List.getElem?_take_of_lt hj,List.getElem?_drop,nr,Nat.mul_comm]
theorem azU{i:List Int}{j:Nat}(hj:j<4):[i.getD 1 0,i.getD 2 0,i.getD 3 0,i.getD 4 0].getD j 0=i.getD (j+1) 0:=by
 rcases four hj with rfl|rfl|rfl|rfl<;>rfl
theorem ahW{i:List Int}{w:World}{k:Int→aq}(hi:i.length=5)(hk:∀w',Ext w w'→k (oD i) w'):eX (eV i) w k:=by
 unfold eX FE;refine ju λg1 w1 ZV hs1 AP Al=> ?_;have vj:BI w1 g1 i:=AP;simp only[c8,Nat.zero_add];refine bU (λb w'=>b=decide (i.getD 0 0<0∨i.getD 0 0≥17)∧w1=w') ?_ ?_
 ·intro J hJ;refine jQ vj ah (aF (λh=>hJ _ _ ⟨?_,rfl⟩) λh=> ?_)
  ·simp only[decide_eq_true_eq]at h;exact(decide_eq_true (.inl h)).symm
  ·simp only[decide_eq_false_iff_not]at h;refine jQ vj ah (hJ _ _ ⟨?_,rfl⟩);rw[decide_eq_decide];omega
 rintro _ _ ⟨rfl,rfl⟩;refine aF (λh=> ?_) λh=> ?_
 ·have h:=of_decide_eq_true h;have e:oD i=13:=by unfold oD;rw[if_pos h]
  rw[←e];exact hk _ Al
 have h:=of_decide_eq_false h;refine jQ vj ah (RK ah ah λw2 uM=> ?_);refine ju λg3 w3 hg3 UD sB y8=> ?_;have hl:((nG.drop ((i.getD 0 0).toNat*4)).take 4).length=4:=by
  have:nG.length=68:=rfl;rw[List.length_take,List.length_drop,this];omega
 refine xA sB rfl hl λw4 IZ hs4 TG=> ?_;have L3:Ext w1 w4:=(uM.trans y8).then TG λg hg=>by have:=uM.size;omega
 have yY:BI w4 g1 i:=vj.ext L3;refine jQ yY ah (jQ yY ah (jQ yY ah (jQ yY ah ?_)));refine pT (fun(x:Int×Int) w'=>w4=w'∧x.1=0∧∃j:Nat,x.2=j∧j≤4∧∀m,m<j→FF i m=true) (λx _=>(4 - x.2).toNat) ⟨rfl,rfl,0,rfl,ah,λm hm=>by omega⟩ ?_
 rintro⟨out,_⟩ _ ⟨rfl,ho,j,hj,hj4,q5⟩ C hC;simp only at ho hj;subst ho;subst hj;refine aF (λhlt=> ?_) λhge=> ?_
 ·have hlt:j<4:=by
    have:(j:Int)<4:=by simpa using hlt
    omega
  refine ap0 (l:=[i.getD 1 0,i.getD 2 0,i.getD 3 0,i.getD 4 0]) bh (by simp;omega) rfl ?_
  rw[kY,azU hlt];refine Ip (tV ah ah ?_);rw[kY,Nat.mul_one,Nat.zero_add];refine jQ IZ ah ?_;rw[akj ah hlt];refine af6 ?_;have e:((decide (i.getD (j+1) 0<(Vk (nG.getD (4*(i.getD 0 0).toNat+j) 0)).1))||(decide (i.getD (j+1) 0>(Vk (nG.getD (4*(i.getD 0 0).toNat+j) 0)).2)))= !FF i j:=by
   unfold FF pI;rw[Bool.eq_iff_iff];simp only[Bool.or_eq_true,decide_eq_true_eq,Bool.not_eq_true',decide_eq_false_iff_not];omega
  rw[e];refine aF (λhb=> ?_) λhb=> ?_
  ·rw[←asb h hlt (by simpa using hb)]
   exact hk _ (Al.trans L3)
  ·have hw:IntKind.i64.wrap ((j:Int)+1)=((j+1:Nat):Int):=by rw[dQ ⟨ah,ah⟩];simp
   refine hC _ _ ⟨rfl,rfl,j+1,hw,ah,λm hm=> ?_⟩ (by simp only[hw];omega)
   by_cases hmj:m=j
   ·subst hmj;simpa using hb
   ·exact q5 m ah
 ·have hge:j=4:=by
    have:¬(j:Int)<4:=by simpa using hge
    omega
  subst hge;simp only;rw[←aej h q5];exact hk _ (Al.trans L3)
theorem aCl{op:Int}(h0:0≤op)(h1:op<17):op=0∨op=1∨op=2∨op=3∨op=4∨op=5∨op=6∨op=7∨op=8∨op=9∨op=10∨op=11∨op=12∨op=13∨op=14∨op=15∨op=16:=ah
def oH(i:List Int)(op:Int):Bool:=i.getD 0 0==op&&oD i==0
theorem GW{i:List Int}{op:Int}{w:World}{k:Bool→aq}(hi:i.length=5)(hk:∀w',Ext w w'→k (oH i op) w'):eK (eV i) op w k:=by
 unfold eK Nk;refine ju λg1 w1 ZV hs1 AP Al=> ?_;have vj:BI w1 g1 i:=AP;simp only[c8,Nat.zero_add];unfold oH at hk;refine jQ vj ah (aF (λh=> ?_) λh=> ?_)
 ·refine kG vj hi (ahW hi λw2 uM=> ?_);have:=hk _ (Al.trans uM);rwa[h,Bool.true_and]at this
 ·have:=hk _ Al;rwa[h,Bool.false_and]at this
theorem asd{b:Bool}{w:World}{k:Int→aq}(hk:k (if b then 1 else 0) w):mH b w k:=by
 unfold mH;cases b<;>exact hk
theorem af7{i:List Int}(h:oD i=0):0≤i.getD 0 0∧i.getD 0 0<17∧∀j,j<4→(pI (i.getD 0 0).toNat j).1≤i.getD (j+1) 0∧i.getD (j+1) 0≤(pI (i.getD 0 0).toNat j).2:=by
 unfold oD at h;split at h
 ·cases h
 ·rename_i h0;split at h
  ·rename_i h1;simp only[iW]at h1;refine⟨ah,ah,λj hj=> ?_⟩;rcases four hj with rfl|rfl|rfl|rfl
   ·exact of_decide_eq_true h1.1.1.1
   ·exact of_decide_eq_true h1.1.1.2
   ·exact of_decide_eq_true h1.1.2
   ·exact of_decide_eq_true h1.2
  ·cases h
theorem Yq:∀op,op<17→∀j,j<3→0≤(pI op j).1∧(pI op j).2≤7:=gD
theorem vl{i:List Int}(h:oD i=0):(0≤i.getD 1 0∧i.getD 1 0<8)∧(0≤i.getD 2 0∧i.getD 2 0<8)∧0≤i.getD 3 0∧i.getD 3 0<8:=by
 obtain⟨h0,h1,hs⟩:=af7 h;have a:=hs 0 ah;have b:=hs 1 ah;have c:=hs 2 ah;have a':=Yq (i.getD 0 0).toNat ah 0 ah;have b':=Yq (i.getD 0 0).toNat ah 1 ah;have c':=Yq (i.getD 0 0).toNat ah 2 ah;simp only[Nat.zero_add,Nat.reduceAdd]at a b c;omega
abbrev fR(f:List Int)(r:Int):Int:=f.getD (2+r.toNat) 0
def RL(f i:List Int):Int:=
 if i.getD 0 0=0 then i.getD 4 0 else if i.getD 0 0=1 then fR f (i.getD 2 0)else if i.getD 0 0=2 then IntKind.i64.wrap (fR f (i.getD 2 0)+fR f (i.getD 3 0))
 else if i.getD 0 0=3 then IntKind.i64.wrap (fR f (i.getD 2 0) - fR f (i.getD 3 0))else if i.getD 0 0=4 then IntKind.i64.wrap (fR f (i.getD 2 0)*fR f (i.getD 3 0))
 else if fR f (i.getD 2 0)<fR f (i.getD 3 0)then 1 else 0
def dO(f i:List Int):List Int×Bool:=
 if oD i≠0 then(f,false)
 else if i.getD 0 0=6∨(i.getD 0 0=7∧fR f (i.getD 1 0)≠0)then(Ay f (i.getD 4 0),true)
 else if i.getD 0 0=7 then(m8 f,true)
 else if i.getD 0 0>5 then(f,false)
 else(m8 (f.set (2+(i.getD 1 0).toNat) (RL f i)),true)
theorem qb{f i:List Int}(hf:f.length=19):(dO f i).1.length=19:=by
 unfold dO;split
 ·exact hf
 ·split
  ·simp only[qp,hf]
  ·split
   ·simp only[j1,hf]
   ·split
    ·exact hf
    ·simp only[j1,List.length_set,hf]
def ase(g3 gb gc:Nat):Array Value:=#[.func (.func nY) #[] #[.pointer (some ⟨g3,0,none⟩)],.func (.func nZ) #[] #[.pointer (some ⟨gb,0,none⟩)],.func (.func n7) #[] #[.pointer (some ⟨gb,0,none⟩),.pointer (some ⟨gc,0,none⟩)],
 .func (.func n8) #[] #[.pointer (some ⟨gb,0,none⟩),.pointer (some ⟨gc,0,none⟩)],.func (.func n9) #[] #[.pointer (some ⟨gb,0,none⟩),.pointer (some ⟨gc,0,none⟩)],.func (.func oa) #[] #[.pointer (some ⟨gb,0,none⟩),.pointer (some ⟨gc,0,none⟩)]]
theorem awl{f i:List Int}{w:World}{k:Sl→aq}(hf:f.length=19)(hi:i.length=5)(hB:0≤i.getD 2 0∧i.getD 2 0<8)(hC:0≤i.getD 3 0∧i.getD 3 0<8)
  (hk:∀w' g g3 gb gc,Ext w w'→pA w' g (ase g3 gb gc)→BI w' g3 i→BI w' gb [fR f (i.getD 2 0)]→BI w' gc [fR f (i.getD 3 0)]→k ⟨some ⟨g,0,none⟩,6,6⟩ w'):j0 (eV f) (eV i) w k:=by
 unfold j0;refine ju λg1 w1 ZV hs1 AP Al=>ju λg2 w2 Mw Io jP uM=> ?_;have vj:BI w2 g1 f:=AP.ext uM;have yX:BI w2 g2 i:=jP;simp only[c8,Nat.zero_add];refine bU (λx w'=>Ext w2 w'∧∃gb gc,x=(⟨gb,0,none⟩,⟨gc,0,none⟩)∧BI w' gb [fR f (i.getD 2 0)]∧BI w' gc [fR f (i.getD 3 0)]) ?_ ?_
 ·intro J hJ;refine Mv λw3 hh3 y8=> ?_;have abU:BI w3 g1 f:=vj.ext y8;have amt:BI w3 g2 i:=yX.ext y8;refine jQ amt ah (tV hB.1 ah (jQ abU ah ?_));refine jQ amt ah (tV hC.1 ah (jQ abU ah ?_));simp only[Nat.mul_one];have st:∀{w':World} {n o:Nat} {c:Prop},Ext w3 w'→c→ai n ⟨g1,o,none⟩ w3 w' c:=λhe hc=>Bs abU (abU.ext he) hc;have Yr:∀{w':World} {n o:Nat} {c:Prop},Ext w3 w'→c→ai n ⟨g2,o,none⟩ w3 w' c:=λhe hc=>Bs amt (amt.ext he) hc;refine⟨?_,?_⟩
  ·refine ju λg4 w4 hg4 hs4 IZ qF=>st qF (Yr qF (st qF (Yr qF ?_)));refine ju λg5 w5 hg5 hs5 Vj Fy=> ?_;have JV:=qF.trans Fy;refine st JV (Yr JV (st JV (Yr JV ?_)));refine B1 (l:=[0]) (IZ.ext Fy) bh λw6 hb6 hs6 ZX=> ?_;have Ou:=JV.then ZX λg hg=>by omega
   refine st Ou (Yr Ou ?_);refine B1 (l:=[0]) (Vj.keep ZX ah) bh λw7 hb7 hs7 Ys=> ?_;exact hJ _ _ ⟨y8.trans (Ou.then Ys λg hg=>by omega),g4,g5,rfl,hb6.keep Ys ah,hb7⟩
  ·refine ju λg4 w4 hg4 hs4 IZ qF=>st qF (Yr qF (st qF (Yr qF ?_)));refine ju λg5 w5 hg5 hs5 Vj Fy=> ?_;have JV:=qF.trans Fy;refine st JV (Yr JV (st JV (Yr JV ?_)));refine B1 (l:=[0]) Vj bh λw6 hb6 hs6 ZX=> ?_;have Ou:=JV.then ZX λg hg=>by omega
   refine st Ou (Yr Ou ?_);refine B1 (l:=[0]) ((IZ.ext Fy).keep ZX ah) bh λw7 hb7 hs7 Ys=> ?_;exact hJ _ _ ⟨y8.trans (Ou.then Ys λg hg=>by omega),g5,g4,rfl,hb6.keep Ys ah,hb7⟩
 ·rintro x w3 ⟨y8,gb,gc,rfl,ZY,hbc⟩;refine⟨rfl,⟨rfl,⟨rfl,⟨rfl,⟨rfl,⟨rfl,ju λg4 w4 hg4 hs4 IZ qF=> ?_⟩⟩⟩⟩⟩⟩;exact hk w4 g4 g2 gb gc (((Al.trans uM).trans y8).trans qF) IZ ((yX.ext y8).ext qF) (ZY.ext qF) (hbc.ext qF)
theorem asf{f i:List Int}{w:World}{k:Array Value×Bool→aq}(hf:f.length=19)(hi:i.length=5)(hk:∀w',Ext w w'→k (eV (dO f i).1,(dO f i).2) w'):iQ (eV f) (eV i) w k:=by
 unfold iQ zM;refine ju λg1 w1 ZV hs1 AP Al=>ju λg2 w2 Mw Io jP uM=>ju λg3 w3 hg3 UD sB y8=> ?_;have Ov:=(Al.trans uM).trans y8;have vj:BI w3 g1 f:=(AP.ext uM).ext y8;have yX:BI w3 g2 i:=jP.ext y8;have hsz:=Al.size;simp only[c8,Nat.zero_add];have fin:∀(l:List Int) (b:Bool) (w':World),Ext w3 w'→l.length=19→(dO f i)=(l,b)→(dK 19 w' ⟨g3,0,none⟩ (eV l) λw9=>bG 19 w9 ⟨g3,0,none⟩ λcs=>k (cs,b) w9):=by
  intro l b w' he hl e;refine xA (sB.ext he) rfl hl λw9 hb9 hs9 ho9=>kG hb9 hl ?_;have:=hk w9 ((Ov.trans he).then ho9 λg hg=>by omega)
  rwa[e]at this
 refine kG yX hi (ahW hi λw4 qF=> ?_);have yY:BI w4 g1 f:=vj.ext qF;have Gt:BI w4 g2 i:=yX.ext qF;refine aF (λh=>kG yY hf (fin f false w4 qF hf ?_)) λh=> ?_
 ·unfold dO;rw[if_pos (by simpa using h)]
 have h:oD i=0:=by simpa using h
 obtain⟨hA,hB,hC⟩:=vl h;obtain⟨h0,h17,_⟩:=af7 h;refine jQ Gt ah ?_;refine bU (λb w'=>b=decide (i.getD 0 0=6∨(i.getD 0 0=7∧fR f (i.getD 1 0)≠0))∧w4=w') ?_ ?_
 ·intro J hJ;refine aF (λh6=> ?_) λh6=> ?_
  ·refine hJ _ _ ⟨?_,rfl⟩;rw[h6];exact(decide_eq_true (.inl (by simpa using h6))).symm
  ·have h6:i.getD 0 0≠6:=by simpa using h6
   refine jQ Gt ah (aF (λh7=> ?_) λh7=> ?_)
   ·have h7:i.getD 0 0=7:=by simpa using h7
    refine jQ Gt ah (tV hA.1 ah (jQ yY ah (hJ _ _ ⟨?_,rfl⟩)));rw[Nat.mul_one,Bool.eq_iff_iff];simp only[bne_iff_ne,decide_eq_true_eq];constructor
    ·intro hne;exact .inr ⟨h7,hne⟩
    ·rintro(h|⟨_,h⟩)
     ·omega
     ·exact h
   ·have h7:i.getD 0 0≠7:=by simpa using h7
    exact hJ _ _ ⟨(decide_eq_false ah).symm,rfl⟩
 rintro _ _ ⟨rfl,rfl⟩;refine aF (λh1=> ?_) λh1=> ?_
 ·have h1:=of_decide_eq_true h1;refine kG yY hf (jQ Gt ah (asa hf λw5 Fy=>fin _ true w5 (qF.trans Fy) (by rw[qp,hf]) ?_))
  unfold dO;rw[if_neg (by simp[h]),if_pos h1]
 have h1:=of_decide_eq_false h1;refine jQ Gt ah (aF (λh7=> ?_) λh7=> ?_)
 ·have h7:i.getD 0 0=7:=by simpa using h7
  refine kG yY hf (abT hf λw5 Fy=>fin _ true w5 (qF.trans Fy) (by rw[j1,hf]) ?_)
  unfold dO;rw[if_neg (by simp[h]),if_neg h1,if_pos h7]
 have h7:i.getD 0 0≠7:=by simpa using h7
 refine jQ Gt ah (aF (λh5=> ?_) λh5=> ?_)
 ·have h5:i.getD 0 0>5:=by simpa using h5
  refine kG yY hf (fin f false w4 qF hf ?_);unfold dO;rw[if_neg (by simp[h]),if_neg h1,if_neg h7,if_pos h5]
 have h5:¬i.getD 0 0>5:=by simpa using h5
 refine Mv λw5 hh5 Fy=> ?_;have amu:BI w5 g1 f:=yY.ext Fy;have Ow:BI w5 g2 i:=Gt.ext Fy;refine jQ Ow ah (kG amu hf (kG Ow hi (jQ Ow ah ?_)));refine awl hf hi hB hC λw6 g ga gb gc he6 hbg hba ZY hbc=> ?_;have aCm:BI w6 g1 f:=amu.ext he6;have ash:BI w6 g2 i:=Ow.ext he6;refine Bs Ow ash (Bs Ow ash ?_);have tail:∀(v:Value),v= .int .i64 (RL f i)→(xy .i64 v λi48=>ai 1 ⟨g2,1,none⟩ w5 w6 (GC ⟨g1,2,none⟩ 8 (i.getD 1 0) 1 λa49=>bJ w6 a49 (.int .i64 i48) λw50=>bG 19 w50 ⟨g1,0,none⟩ λcs51=>
   ay cs51 w50 λcs52 w53=>dK 19 w53 ⟨g3,0,none⟩ cs52 λw54=>bG 19 w54 ⟨g3,0,none⟩ λcs55=>k (cs55,true) w54)):=by
  rintro _ rfl;refine Ip (Bs Ow ash (tV hA.1 ah ?_));rw[Nat.mul_one];refine B1 aCm ah λw7 hb7 hs7 Ys=> ?_;have he7:Ext w3 w7∨True:= .inr trivial;refine kG hb7 (by simp[hf]) (abT (by simp[hf]) λw8 he8=> ?_)
  have aCn:=(((((sB.ext qF).ext Fy).ext he6).keep Ys ah).ext he8);refine xA aCn rfl (by rw[j1];simp[hf]) λw9 hb9 hs9 ho9=>kG hb9 (by rw[j1];simp[hf]) ?_
  have e:dO f i=(m8 (f.set (2+(i.getD 1 0).toNat) (RL f i)),true):=by
   unfold dO;rw[if_neg (by simp[h]),if_neg h1,if_neg h7,if_neg h5]
  have:=hk w9 ((((((Ov.trans qF).trans Fy).trans he6).then Ys λg hg=>by omega).trans he8).then ho9 λg hg=>by omega)
  rwa[e]at this
 have h6:i.getD 0 0≠6:=λe=>h1 (.inl e);have hop:i.getD 0 0=0∨i.getD 0 0=1∨i.getD 0 0=2∨i.getD 0 0=3∨i.getD 0 0=4∨i.getD 0 0=5:=ah;refine ap2 h0 ah ?_;rw[Nat.mul_one,Nat.zero_add];have hcell:∀n:Nat,w6.cell? ⟨g,n,none⟩=(ase ga gb gc)[n]?:=λn=>hbg.cell n;rcases hop with e|e|e|e|e|e;all_goals
  rw[e];refine ajB (by rw[hcell];rfl) ?_
 ·show aN .i64 w6 (aX ⟨ga,0,none⟩ 4) _;rw[c8];refine jQ hba ah (tail _ ?_);simp only[RL,e];rfl
 ·show aN .i64 w6 ⟨gb,0,none⟩ _;refine jQ ZY bh (tail _ ?_);simp only[RL,e];rfl
 ·show aN .i64 w6 ⟨gb,0,none⟩ λi1=>aN .i64 w6 ⟨gc,0,none⟩ λi2=> _;refine jQ ZY bh (jQ hbc bh (tail _ ?_));simp only[RL,e];rfl
 ·show aN .i64 w6 ⟨gb,0,none⟩ λi1=>aN .i64 w6 ⟨gc,0,none⟩ λi2=> _;refine jQ ZY bh (jQ hbc bh (tail _ ?_));simp only[RL,e];rfl
 ·show aN .i64 w6 ⟨gb,0,none⟩ λi1=>aN .i64 w6 ⟨gc,0,none⟩ λi2=> _;refine jQ ZY bh (jQ hbc bh (tail _ ?_));simp only[RL,e];rfl
 ·show aN .i64 w6 ⟨gb,0,none⟩ λi1=>aN .i64 w6 ⟨gc,0,none⟩ λi2=>mH (decide (i1<i2)) w6 λi3 w4=> _;refine jQ ZY bh (jQ hbc bh (asd (tail _ ?_)));have e1:List.getD [fR f (i.getD 2 0)] 0 0=fR f (i.getD 2 0):=rfl;have e2:List.getD [fR f (i.getD 3 0)] 0 0=fR f (i.getD 3 0):=rfl;rw[e1,e2];simp only[RL,e];by_cases hlt:fR f (i.getD 2 0)<fR f (i.getD 3 0)
  ·rw[decide_eq_true hlt,if_pos hlt];rfl
  ·rw[decide_eq_false hlt,if_neg hlt];rfl
theorem Yt{f:List Int}(hf:f.length=19):((f.drop 2).take 8).length=8:=by
 rw[List.length_take,List.length_drop,hf];rfl
theorem Fz{i:List Int}{op:Int}(h:oH i op=true):i.getD 0 0=op∧oD i=0:=by
 unfold oH at h;simp only[iW,beq_iff_eq]at h;exact h
def iv(f i:List Int)(asked:Bool):List Int:=if oH i 12 then m8 (f.set (2+(i.getD 1 0).toNat) (if asked then 1 else 0))else f
def eC(f i:List Int)(id:Int):List Int:=if oH i 8 then m8 (f.set (10+(i.getD 1 0).toNat) id)else f
def c9(f i:List Int)(kind v:Int):List Int×Int×Bool:=
 if kind<2∨kind>4∨(oH i 9=false∧oH i 10=false)then(f,0,false)
 else if oH i 10 then(m8 ((f.set (2+(i.getD 1 0).toNat) (if kind=4 then 0 else v)).set (2+(i.getD 2 0).toNat) (IntKind.i64.wrap (kind - 2))),0,false)
 else if kind=2 then(m8 (f.set (2+(i.getD 1 0).toNat) v),0,false)
 else(Ay f (f.getD 1 0),if kind=4 then -1 else v,true)
theorem pJ{f i:List Int}{b:Bool}:(iv f i b).length=f.length:=by
 unfold iv;split
 ·rw[j1,List.length_set]
 ·rfl
theorem pK{f i:List Int}{b:Int}:(eC f i b).length=f.length:=by
 unfold eC;split
 ·rw[j1,List.length_set]
 ·rfl
theorem pL{f i:List Int}{kind v:Int}:(c9 f i kind v).1.length=f.length:=by
 unfold c9;split
 ·rfl
 ·split
  ·simp only[j1,List.length_set]
  ·split
   ·simp only[j1,List.length_set]
   ·simp only[qp]
theorem an5{f i:List Int}{b:Bool}{w:World}{k:Array Value→aq}(hf:f.length=19)(hi:i.length=5)(hk:∀w',Ext w w'→k (eV (iv f i b)) w'):iT (eV f) (eV i) b w k:=by
 unfold iT yp;refine ju λg1 w1 ZV hs1 AP Al=>ju λg2 w2 Mw Io jP uM=>ju λg3 w3 hg3 UD sB y8=> ?_;have Ov:=(Al.trans uM).trans y8;have vj:BI w3 g1 f:=(AP.ext uM).ext y8;have yX:BI w3 g2 i:=jP.ext y8;have hsz:=Al.size;simp only[c8,Nat.zero_add];refine kG vj hf (ju λg4 w4 hg4 hs4 IZ qF=>xA IZ rfl hf λw5 Vj hs5 ZW=> ?_);have JV:Ext w3 w5:=qF.then ZW λg hg=>by omega
 simp only[c8,Nat.zero_add];refine kG (yX.ext JV) hi (GW hi λw6 he6=> ?_);have Ou:=JV.trans he6;refine aF (λh=> ?_) λh=> ?_
 ·obtain⟨hA,hB,hC⟩:=vl (Fz h).2;refine Mv λw7 hh7 he7=> ?_;have asi:=Ou.trans he7;have asj:BI w7 g2 i:=yX.ext asi;refine jQ asj ah (asd (Bs asj asj (tV hA.1 ah ?_)));rw[Nat.mul_one];refine B1 ((Vj.ext he6).ext he7) ah λw8 hb8 hs8 ho8=>kG hb8 (by simp[hf]) (abT (by simp[hf]) λw9 he9=> ?_)
  refine xA (((sB.ext asi).keep ho8 ah).ext he9) rfl (by rw[j1];simp[hf]) λw10 Uh amv Xf=>kG Uh (by rw[j1];simp[hf]) ?_
  have:=hk w10 ((((Ov.trans asi).then ho8 λg hg=>by omega).trans he9).then Xf λg hg=>by omega)
  unfold iv at this;rwa[if_pos h]at this
 ·refine kG (vj.ext Ou) hf (xA (sB.ext Ou) rfl hf λw10 Uh amv Xf=>kG Uh hf ?_);have:=hk w10 ((Ov.trans Ou).then Xf λg hg=>by omega)
  unfold iv at this;rwa[if_neg (by simp[h])]at this
theorem an6{f i:List Int}{id:Int}{w:World}{k:Array Value→aq}(hf:f.length=19)(hi:i.length=5)(hk:∀w',Ext w w'→k (eV (eC f i id)) w'):iS (eV f) (eV i) id w k:=by
 unfold iS yg;refine ju λg1 w1 ZV hs1 AP Al=>ju λg2 w2 Mw Io jP uM=>ju λg3 w3 hg3 UD sB y8=> ?_;have Ov:=(Al.trans uM).trans y8;have vj:BI w3 g1 f:=(AP.ext uM).ext y8;have yX:BI w3 g2 i:=jP.ext y8;have hsz:=Al.size;simp only[c8,Nat.zero_add];refine kG yX hi (GW hi λw4 qF=> ?_);have yY:BI w4 g1 f:=vj.ext qF;have Gt:BI w4 g2 i:=yX.ext qF;refine aF (λh=> ?_) λh=> ?_
 ·refine kG yY hf (xA (sB.ext qF) rfl hf λw10 Uh amv Xf=>kG Uh hf ?_);have:=hk w10 ((Ov.trans qF).then Xf λg hg=>by omega)
  unfold eC at this;rwa[if_neg (by simpa using h)]at this
 ·have h:oH i 8=true:=by simpa using h
  obtain⟨hA,hB,hC⟩:=vl (Fz h).2;refine jQ Gt ah (tV hA.1 ah ?_);rw[Nat.mul_one];refine B1 yY ah λw8 hb8 hs8 ho8=>kG hb8 (by simp[hf]) (abT (by simp[hf]) λw9 he9=> ?_)
  refine xA (((sB.ext qF).keep ho8 ah).ext he9) rfl (by rw[j1];simp[hf]) λw10 Uh amv Xf=>kG Uh (by rw[j1];simp[hf]) ?_
  have:=hk w10 ((((Ov.trans qF).then ho8 λg hg=>by omega).trans he9).then Xf λg hg=>by omega)
  unfold eC at this;rwa[if_pos h]at this
theorem an7{f i:List Int}{kind v:Int}{w:World}{k:Array Value×Int×Bool→aq}(hf:f.length=19)(hi:i.length=5)(hk:∀w',Ext w w'→k (eV (c9 f i kind v).1,(c9 f i kind v).2.1,(c9 f i kind v).2.2) w'):g9 (eV f) (eV i) kind v w k:=by
 unfold g9 yy;refine ju λg1 w1 ZV hs1 AP Al=>ju λg2 w2 Mw Io jP uM=>ju λg3 w3 hg3 UD sB y8=> ?_;have Ov:=(Al.trans uM).trans y8;have vj:BI w3 g1 f:=(AP.ext uM).ext y8;have yX:BI w3 g2 i:=jP.ext y8;have hsz:=Al.size;simp only[c8,Nat.zero_add];have fin:∀(l:List Int) (a:Int) (b:Bool) (w':World),Ext w w'→pA w' g3 (eV (Z 19))→l.length=19→c9 f i kind v=(l,a,b)→(dK 19 w' ⟨g3,0,none⟩ (eV l) λw9=>bG 19 w9 ⟨g3,0,none⟩ λcs=>k (cs,(a,b)) w9):=by
  intro l a b w' he hb hl e;refine xA hb rfl hl λw9 hb9 hs9 ho9=>kG hb9 hl ?_;have:=hk w9 (he.then ho9 λg hg=>by omega)
  rwa[e]at this
 have aek:pA w3 g3 (eV (Z 19)):=sB;refine bU (λx w'=>x=decide (kind<2∨kind>4∨(oH i 9=false∧oH i 10=false))∧Ext w3 w') ?_ ?_
 ·intro J hJ;refine aF (λh=>hJ _ _ ⟨?_,.refl _ _⟩) λh=> ?_
  ·simp only[Bool.or_eq_true,decide_eq_true_eq]at h;exact(decide_eq_true ah).symm
  ·simp only[j5,decide_eq_false_iff_not]at h;refine kG yX hi (GW hi λw4 qF=> ?_);refine aF (λh9=> ?_) λh9=> ?_
   ·have h9:oH i 9=false:=by simpa using h9
    refine kG (yX.ext qF) hi (GW hi λw5 Fy=>hJ _ _ ⟨?_,qF.trans Fy⟩);rw[Bool.eq_iff_iff];simp only[Bool.not_eq_true',decide_eq_true_eq];constructor
    ·intro h10;exact .inr (.inr ⟨h9,h10⟩)
    ·rintro(h'|h'|⟨_,h'⟩)
     ·omega
     ·omega
     ·exact h'
   ·have h9:oH i 9=true:=by simpa using h9
    refine hJ _ _ ⟨?_,qF⟩;rw[eq_comm,decide_eq_false_iff_not];rintro(h'|h'|⟨h',_⟩)
    ·omega
    ·omega
    ·rw[h9]at h';cases h'
 rintro _ w4 ⟨rfl,qF⟩;have L3:=Ov.trans qF;have yY:BI w4 g1 f:=vj.ext qF;have Gt:BI w4 g2 i:=yX.ext qF;refine aF (λh=> ?_) λh=> ?_
 ·have h:=of_decide_eq_true h;refine kG yY hf (fin f 0 false w4 L3 (aek.ext qF) hf ?_);unfold c9;rw[if_pos h]
 have h:=of_decide_eq_false h;have adL:oD i=0∧(i.getD 0 0=10↔oH i 10=true):=by
  cases h10:oH i 10 with
  |true=>exact⟨(Fz h10).2,λ_=>rfl,λ_=>(Fz h10).1⟩
  |false=>
   cases h9:oH i 9 with
   |true=>exact⟨(Fz h9).2,λe=>(by have:=(Fz h9).1;omega),λe=>by cases e⟩
   |false=>exact absurd (.inr (.inr ⟨h9,h10⟩)) h
 obtain⟨hA,hB,hC⟩:=vl adL.1;refine bU (λx w'=>w4=w'∧c9 f i kind v=(Ay f (f.getD 1 0),x,true)) ?_ ?_
 ·intro J hJ;refine jQ Gt ah (aF (λh10=> ?_) λh10=> ?_)
  ·have h10:oH i 10=true:=adL.2.1 (by simpa using h10)
   refine bU (λx w'=>w4=w'∧x=if kind=4 then 0 else v) ?_ ?_
   ·intro J2 hJ2;refine aF (λh4=>hJ2 _ _ ⟨rfl,?_⟩) λh4=>hJ2 _ _ ⟨rfl,?_⟩
    ·rw[if_pos (by simpa using h4)]
    ·rw[if_neg (by simpa using h4)]
   rintro _ _ ⟨rfl,rfl⟩;refine Mv λw5 hh5 Fy=> ?_;have amu:BI w5 g1 f:=yY.ext Fy;have Ow:BI w5 g2 i:=Gt.ext Fy;refine jQ Ow ah (jQ Ow ah (tV hA.1 ah ?_));rw[Nat.mul_one];refine B1 amu ah λw6 hb6 hs6 ZX=>Bs Ow (Ow.keep ZX ah) (tV hB.1 ah ?_);rw[Nat.mul_one];refine B1 hb6 (by rw[List.length_set];omega) λw7 hb7 hs7 Ys=>kG hb7 (by simp[hf]) (abT (by simp[hf]) λw8 he8=> ?_)
   refine fin _ 0 false w8 (((((L3.trans Fy).then ZX λg hg=>by omega).then Ys λg hg=>by omega).trans he8)) (((((aek.ext qF).ext Fy).keep ZX ah).keep Ys ah).ext he8) (by rw[j1];simp[hf]) ?_
   unfold c9;rw[if_neg h,if_pos h10]
  ·have h10':oH i 10=false:=by
    cases h':oH i 10 with
    |false=>rfl
    |true=>exact absurd (adL.2.2 h') (by simpa using h10)
   refine aF (λh2=> ?_) λh2=> ?_
   ·have h2:kind=2:=by simpa using h2
    refine jQ Gt ah (tV hA.1 ah ?_);rw[Nat.mul_one];refine B1 yY ah λw6 hb6 hs6 ZX=>kG hb6 (by simp[hf]) (abT (by simp[hf]) λw8 he8=> ?_)
    refine fin _ 0 false w8 ((L3.then ZX λg hg=>by omega).trans he8) (((aek.ext qF).keep ZX ah).ext he8) (by rw[j1];simp[hf]) ?_
    unfold c9;rw[if_neg h,if_neg (by simp[h10']),if_pos h2]
   ·have h2:kind≠2:=by simpa using h2
    refine aF (λh4=>hJ _ _ ⟨rfl,?_⟩) λh4=>hJ _ _ ⟨rfl,?_⟩
    ·unfold c9;rw[if_neg h,if_neg (by simp[h10']),if_neg h2,if_pos (by simpa using h4)]
    ·unfold c9;rw[if_neg h,if_neg (by simp[h10']),if_neg h2,if_neg (by simpa using h4)]
 ·rintro x _ ⟨rfl,e⟩;exact kG yY hf (jQ yY ah (asa hf λw5 Fy=>fin _ x true w5 (L3.trans Fy) ((aek.ext qF).ext Fy) (by rw[qp,hf]) e))
theorem awo{h:Nat}(hh:h<63):bv (sx .i64 1 (h:Int))=BitVec.twoPow 64 h:=by
 unfold sx;have e:min ((h:Int).toNat) IntKind.i64.bits=h:=by simp[IntKind.bits];omega
 rw[e,apX,C0,Int.one_mul];apply BitVec.eq_of_toNat_eq;rw[BitVec.toNat_ofInt,BitVec.toNat_twoPow];have h2:(2 ^ h:Nat)<2 ^ 64:=Nat.pow_lt_pow_right ah ah;have h3:((2:Int) ^ h)=((2 ^ h:Nat):Int):=by simp
 rw[h3,Nat.mod_eq_of_lt h2];generalize (2 ^ h:Nat)=m at*
 omega
theorem asp{x:Int}{h:Nat}(hh:h<63):(og .i64 x (sx .i64 1 (h:Int)) !=0)=tb x h:=by
 rw[Qg,awo hh,BitVec.and_twoPow];unfold tb;cases hb:(bv x).getLsbD h with
 |false=>rfl
 |true=>
  simp only[if_true];have:(BitVec.twoPow 64 h).toInt≠0:=by
   intro e;have h1:BitVec.twoPow 64 h=0#64:=by
    apply BitVec.eq_of_toInt_eq;rw[e];rfl
   have h2:=congrArg (λb=>b.getLsbD h) h1;simp at h2;omega
  simpa using this
def fHs(f:List Int)(aY:Int)(n:Nat):List Int:=(List.range n).map λh=>if tb aY h then f.getD (10+h) 0 else -1
def jb(f:List Int)(n aY:Int):List Int:=[n,0] ++((f.drop 2).take 8++(fHs f aY 8++[0]))
def KU(f:List Int)(n aY:Int)(j:Nat):List Int:=[n,0] ++((f.drop 2).take 8++(fHs f aY j++(dM (8 - j) (-1)++[0])))
theorem Xg{f:List Int}{aY:Int}{n:Nat}:(fHs f aY n).length=n:=by simp[fHs]
theorem ael{f:List Int}{aY:Int}{n:Nat}:fHs f aY (n+1)=fHs f aY n++[if tb aY n then f.getD (10+n) 0 else -1]:=by
 simp[fHs,List.range_succ]
theorem abW{f:List Int}{n aY:Int}{j:Nat}(hf:f.length=19)(hj:j≤8):(KU f n aY j).length=19:=by
 unfold KU;simp only[tW,List.length_cons,List.length_nil,Xg,List.length_replicate,Yt hf];omega
theorem ahY{f:List Int}{n aY:Int}(hf:f.length=19):KU f n aY 0=((nF.set 0 n).take 2++((f.drop 2).take 8++(nF.set 0 n).drop (2+8))):=rfl
theorem akm{f:List Int}{n aY:Int}{j:Nat}(hf:f.length=19)(hj:j<8)(hb:tb aY j=true):(KU f n aY j).set (10+j) (f.getD (10+j) 0)=KU f n aY (j+1):=by
 unfold KU;have hr:=Yt hf;have e8:8 - j=(8 - (j+1))+1:=ah;rw[List.set_append_right _ _ (by simp;omega),List.set_append_right _ _ (by simp[hr];omega),List.set_append_right _ _ (by simp[hr,Xg];omega)]
 rw[ael,hb,e8,List.replicate_succ];have e0:10+j - 2 - 8 - j=0:=ah;simp[hr,Xg,e0]
theorem an8{f:List Int}{n aY:Int}{j:Nat}(hj:j<8)(hb:tb aY j=false):KU f n aY j=KU f n aY (j+1):=by
 unfold KU;have e8:8 - j=(8 - (j+1))+1:=ah;rw[ael,hb,e8,List.replicate_succ];simp
def awp(x:Int×Sl):List Value:=[.int .i64 x.1,.slice x.2.a x.2.n x.2.c]
def NS(w:World)(s:Sl)(fs:List (Int×Sl)):Prop:=V2 2 w s (fs.map awp)
theorem NS.len{w:World}{s:Sl}{fs:List (Int×Sl)}(h:NS w s fs):s.n=fs.length:=by have:=V2.len h;simp at this;omega
theorem NS.ext{w w':World}{s:Sl}{fs:List (Int×Sl)}(h:NS w s fs)(he:Ext w w'):NS w' s fs:=V2.ext h he
theorem ixF{w:World}{s:Sl}{fs:List (Int×Sl)}{i:Int}{x:Int×Sl}{c:Addr→Prop}(h:NS w s fs)(h0:0≤i)(hi:fs[i.toNat]?=some x)
  (hc:∀p:Addr,w.cell? (p.add 0)=some (.int .i64 x.1)→w.cell? (p.add 1)=some (.slice x.2.a x.2.n x.2.c)→c p):cW s i 2 c:=by
 have hl:=NS.len h;have hlt:=(kO.1 hi).1;refine ajC h h0 ah λp e he _ hcell=> ?_;rw[pB,hi]at he;cases he
 exact hc p (hcell 0 _ rfl) (hcell 1 _ rfl)
theorem awq{i:List Int}(h:oH i 8=true):0≤i.getD 4 0∧i.getD 4 0≤31:=by
 obtain⟨h8,hc⟩:=Fz h;obtain⟨_,_,hs⟩:=af7 hc;have:=hs 3 ah;rw[h8]at this;exact this
theorem asr{f i:List Int}{s:Sl}{fs:List (Int×Sl)}{w:World}{k:Array Value×Int→aq}(hf:f.length=19)(hi:i.length=5)(hp:NS w s fs)
  (h1:oH i 8=false→∀w',Ext w w'→k (eV (Z 19),1) w') (h2:oH i 8=true→fs.length≤(i.getD 4 0).toNat→∀w',Ext w w'→k (eV (Z 19),17) w')
  (h3:oH i 8=true→∀x,fs[(i.getD 4 0).toNat]?=some x→∀w',Ext w w'→k (eV (jb f (i.getD 4 0) x.1),0) w'):iR (eV f) #[.slice s.a s.n s.c] (eV i) w k:=by
 unfold iR zY;refine ju λg1 w1 ZV hs1 AP Al=>ju λgp wp hgp hsp hbp hep=>ju λg2 w2 Mw Io jP uM=>ju λg3 w3 hg3 UD sB y8=> ?_;have Ov:=((Al.trans hep).trans uM).trans y8;have vj:BI w3 g1 f:=((AP.ext hep).ext uM).ext y8;have yX:BI w3 g2 i:=jP.ext y8;have aCp:pA w3 gp #[.slice s.a s.n s.c]:=(hbp.ext uM).ext y8;have hsz:=Al.size;have hln:=hp.len;simp only[c8,Nat.zero_add];refine kG yX hi (GW hi λw4 qF=> ?_);have yY:BI w4 g1 f:=vj.ext qF;have Gt:BI w4 g2 i:=yX.ext qF;have ayz:=aCp.ext qF;have L3:=Ov.trans qF;refine aF (λh=> ?_) λh=> ?_
 ·refine xA (l:=Z 19) (sB.ext qF) rfl rfl λw5 Vj hs5 ZW=>kG Vj rfl ?_;exact h1 (by simpa using h) _ (L3.then ZW λg hg=>by omega)
 have h:oH i 8=true:=by simpa using h
 obtain⟨hN0,hN1⟩:=awq h;refine jQ Gt ah (Kh (s:=s) (ayz.cell 0) (aF (λhge=> ?_) λhlt=> ?_))
 ·have hge:i.getD 4 0≥s.n:=of_decide_eq_true hge;refine xA (l:=Z 19) (sB.ext qF) rfl rfl λw5 Vj hs5 ZW=>kG Vj rfl ?_;exact h2 h ah _ (L3.then ZW λg hg=>by omega)
 have hlt:i.getD 4 0<s.n:=by have:=of_decide_eq_false hlt;omega
 obtain⟨x,hx⟩:∃x,fs[(i.getD 4 0).toNat]?=some x:=⟨_,kq ah⟩;refine ams λw5 Fy=>ju λg6 w6 hg6 hs6 hb6 he6=> ?_;simp only[c8,Nat.zero_add];refine xA (l:=nF) hb6 rfl rfl λw7 hb7 hs7 Ys=> ?_;have hs5:=Fy.size;have aCq:Ext w4 w7:=(Fy.trans he6).then Ys λg hg=>by omega
 refine Mv λw8 hh8 he8=> ?_;have ass:=aCq.trans he8;have ast:BI w8 g1 f:=yY.ext ass;have aCr:BI w8 g2 i:=Gt.ext ass;refine jQ aCr ah (apZ ast ah ?_);have aCs:g1≠g6:=by have:=yY.lt;omega
 refine B1 (hb7.ext he8) gD λw9 hb9 hs9 ho9=>Bs ast (ast.keep ho9 aCs) ?_;refine azd hb9 (Yt hf) (by rw[List.length_set];decide) λw10 Uh amv Xf=> ?_
 rw[←ahY (aY:=x.1) hf]at Uh;have aCt:Ext w4 w10:=(ass.then ho9 λg hg=>by omega).then Xf λg hg=>by omega
 refine pT (fun(y:Int) w'=> ∃j:Nat,y=j∧j≤8∧Ext w4 w'∧BI w' g6 (KU f (i.getD 4 0) x.1 j)) (λy _=>(8 - y).toNat) ⟨0,rfl,ah,aCt,Uh⟩ ?_;rintro _ w11 ⟨j,rfl,hj,asu,asv⟩ C hC;refine aF (λaCu=> ?_) λhge=> ?_
 ·have hj8:j<8:=by
    have:(j:Int)<8:=by simpa using aCu
    omega
  have hw:IntKind.i64.wrap ((j:Int)+1)=((j+1:Nat):Int):=by rw[dQ ⟨ah,ah⟩];simp
  refine Mv λw12 aF3 asw=> ?_;have Yu:=asu.trans asw;refine Kh (s:=s) ((ayz.ext Yu).cell 0) (jQ (Gt.ext Yu) ah ?_);refine ixF (hp.ext (L3.trans Yu)) hN0 hx λp hc0 GG=>uJ hc0 (HO ah ?_);rw[asp ah];refine aF (λhb=> ?_) λhb=> ?_
  ·refine tV ah ah (jQ (yY.ext Yu) (by simp;omega) (tV ah ah ?_))
   simp only[kY,Nat.mul_one];have hl:=abW (n:=i.getD 4 0) (aY:=x.1) hf hj;refine B1 (asv.ext asw) ah λw13 abU aF4 aCv=> ?_;rw[akm hf hj8 hb]at abU;exact hC _ _ ⟨j+1,hw,ah,Yu.then aCv λg hg=>by omega,abU⟩ (by rw[hw];omega)
  ·refine hC _ _ ⟨j+1,hw,ah,Yu,?_⟩ (by rw[hw];omega)
   rw[←an8 hj8 hb];exact asv.ext asw
 ·have hj8:j=8:=by
    have:¬(j:Int)<8:=by simpa using hge
    omega
  subst hj8;have hl:=abW (n:=i.getD 4 0) (aY:=x.1) hf hj;refine kG asv hl (xA ((sB.ext qF).ext asu) rfl hl λw12 aCw aF5 aCx=>kG aCw hl ?_);exact h3 h x hx _ ((L3.trans asu).then aCx λg hg=>by omega)
end Go.Proofs.YthidhjhkmjjckaaGreatDoor.Fr
namespace Go.Ev
open Go Go.RowKit
def KV(t:List (Int×Int×Nat)):List MapEntry:=t.map λx=>⟨.int .i64 x.1,.int .i64 x.2.1,x.2.2⟩
def mp(g:Nat)(l:List (Int×Int)):HP:=FT λq:{t:List (Int×Int×Nat) // t.map (λx=>(x.1,x.2.1))=l}×Nat=>obj g (.map (KV q.1.1).toArray q.2)
def fnd(k:Int):List (Int×Int×Nat)→Nat→Option (Nat×Value)
 |[],_=>none
 |x::r,i=>if x.1=k then some (i,.int .i64 x.2.1)else fnd k r (i+1)
theorem HY(k:Int):∀(t:List (Int×Int×Nat)) (i:Nat),Instr.findNow (.int .i64) (.int .i64 k) (KV t) i=some (fnd k t i)
 |[],i=>rfl
 |x::r,i=>by
  unfold KV;simp only[List.map_cons,Instr.findNow,Instr.sameNow,if_true];by_cases h:x.1=k
  ·have:(k==x.1)=true:=by simp[h]
   rw[this];simp[fnd,h]
  ·have:(k==x.1)=false:=by rw[beq_eq_false_iff_ne];exact λq=>h q.symm
   rw[this];have ih:=HY k r (i+1);unfold KV at ih;simp only[ih,fnd,if_neg h]
def HG(l:List (Int×Int))(k:Int):Option Int:=(l.find? λx=>x.1==k).map (·.2)
theorem Yv{k:Int}:∀{t:List (Int×Int×Nat)} {i:Nat},fnd k t i=none→HG (t.map λx=>(x.1,x.2.1)) k=none
 |[],_,_=>rfl
 |x::r,i,h=>by
  unfold fnd at h;split at h
  ·cases h
  ·rename_i hx;have:=Yv h;unfold HG at this ⊢;simp only[List.map_cons,List.find?_cons];rw[show(x.1==k)=false by rw[beq_eq_false_iff_ne];exact hx]
   exact this
theorem Su{k:Int}:∀{t:List (Int×Int×Nat)} {i j:Nat} {v:Value},fnd k t i=some (j,v)→i≤j∧∃n x,v= .int .i64 n∧HG (t.map λx=>(x.1,x.2.1)) k=some n∧t[j - i]?=some x∧x.1=k
 |[],_,_,_,h=>by cases h
 |x::r,i,j,v,h=>by
  unfold fnd at h;split at h
  ·rename_i hx;cases h
   refine⟨iN _,x.2.1,x,rfl,?_,bh,hx⟩;unfold HG;simp only[List.map_cons,List.find?_cons];rw[show(x.1==k)=true by simp[hx]]
   rfl
  ·rename_i hx;obtain⟨h1,n,y,h2,h3,h4,h5⟩:=Su h;refine⟨ah,n,y,h2,?_,?_,h5⟩
   ·unfold HG at h3 ⊢;simp only[List.map_cons,List.find?_cons];rw[show(x.1==k)=false by rw[beq_eq_false_iff_ne];exact hx]
    exact h3
   ·rw[show j - i=(j - (i+1))+1 by omega];simpa using h4
section
variable {P:Program} {w0 w:World} {L:List HP} {g:Nat} {l:List (Int×Int)} {f:HP→List HP}
theorem azY(h:St w0 w L)[a:At L (mp g) l f]:∃(t:List (Int×Int×Nat)) (n:Nat),t.map (λx=>(x.1,x.2.1))=l∧w.heap[g]?=some (.map (KV t).toArray n):=by
 obtain⟨R,ho,hc⟩:=a.out;obtain⟨⟨⟨t,ht⟩,n⟩,h⟩:=(ho h).some;exact⟨t,n,ht,Db (g:=g) h⟩
theorem ahZ(h:St w0 w (mp g l::L)):∃(t:List (Int×Int×Nat)) (n:Nat),t.map (λx=>(x.1,x.2.1))=l∧St w0 w (obj g (.map (KV t).toArray n)::L):=by
 obtain⟨⟨⟨t,ht⟩,n⟩,h⟩:=h.some;exact⟨t,n,ht,h⟩
theorem abY{t:List (Int×Int×Nat)}{n:Nat}(h:St w0 w (obj g (.map (KV t).toArray n)::L)):St w0 w (mp g (t.map λx=>(x.1,x.2.1))::L):=
 St.ex (X:=λq:{t':List (Int×Int×Nat) // t'.map (λx=>(x.1,x.2.1))=t.map (λx=>(x.1,x.2.1))}×Nat=>obj g (.map (KV q.1.1).toArray q.2)) (⟨t,rfl⟩,n) h
structure MpT (P:Program) (m k e:TypeId):Prop where
 m:P.underlying m=some (.map k e)
 k:P.underlying k=some (.int .i64)
 z:zOf P e=some (.int .i64 0)
theorem Vl(k:Int):MapKept.IsKey (.int .i64) (.int .i64 k):=by simp[MapKept.IsKey]
theorem asx{m:TypeId}{c:Option Nat→aq}(h:St w0 w L)(hc:∀g w',St w0 w' (mp g []::L)→c (some g) w'):mkMap P m none w c:=by
 have hr:(Instr.makeMap m none).run P w= .ok (.map (some w.heap.size)) (w.alloc (.map #[] 0)):=by
  simp only[Instr.makeMap,cQ,run_newObj,cJ,cO,World.alloc_eq]
 unfold mkMap;rw[hr];show c (some w.heap.size) _;refine hc _ _ ?_;have h2:=abj (.map #[] 0) h;exact abY (t:=[]) (n:=0) h2
theorem amw{m kt et:TypeId}{k:Int}{c:Value→aq}(ht:MpT P m kt et)(h:St w0 w L)[a:At L (mp g) l f](hc:c (.tuple #[.int .i64 ((HG l k).getD 0),.bool (HG l k).isSome]) w):look P m (.map (some g)) (.int .i64 k) true w c:=by
 obtain⟨t,n,htl,hb⟩:=azY (g:=g) h;have hf:=MapKept.run_findKey (P:=P) (w:=w) (kt:=kt) (l:=KV t) ht.k (HY k t 0);have hck:∀e,(Instr.checkKey e 10000 kt (.int .i64 k)).run P w= .ok () w:=λe=>MapKept.run_checkKey (P:=P) ht.k (Vl k) e 9999;have hz:(zeroValue et).run P w= .ok (.int .i64 0) w:=K4 ht.z;unfold look;cases hq:fnd k t 0 with
 |none=>
  rw[hq]at hf;have hm:=Yv hq;rw[htl]at hm;rw[hm]at hc;have hr:(Instr.lookup m (.map (some g)) (.int .i64 k) true).run P w= .ok (.tuple #[.int .i64 0,.bool false]) w:=by
   simp only[Instr.lookup,cQ,jd ht.m,cJ,MapKept.run_getObj_map hb,cO,hck,hf,hz,if_true]
  rw[hr];exact hc
 |some r=>
  obtain⟨j,v⟩:=r;rw[hq]at hf;obtain⟨_,n2,x,rfl,hm,_⟩:=Su hq;rw[htl]at hm;rw[hm]at hc;have hr:(Instr.lookup m (.map (some g)) (.int .i64 k) true).run P w= .ok (.tuple #[.int .i64 n2,.bool true]) w:=by
   simp only[Instr.lookup,cQ,jd ht.m,cJ,MapKept.run_getObj_map hb,cO,hck,hf,if_true]
  rw[hr];exact hc
theorem ab0{α β:Type}(f:α→β):∀(l:List α) (i:Nat),(l.eraseIdx i).map f=(l.map f).eraseIdx i
 |[],_=>rfl
 |_::_,0=>rfl
 |_::l,i+1=>by simp[ab0 f l i]
theorem an9{m kt et:TypeId}{k x:Int}{c:aq}(ht:MpT P m kt et)(h:St w0 w L)[a:At L (mp g) l f](hno:HG l k=none)(hc:∀w',St w0 w' (f (mp g (l++[(k,x)])))→c w'):Mf P m (.map (some g)) (.int .i64 k) (.int .i64 x) w c:=by
 obtain⟨R,ho,py⟩:=a.out;obtain⟨t,n,htl,h⟩:=ahZ (ho h);have hb:=Db (g:=g) h;have hf:=MapKept.run_findKey (P:=P) (w:=w) (kt:=kt) (l:=KV t) ht.k (HY k t 0);have hck:(Instr.checkKey false 10000 kt (.int .i64 k)).run P w= .ok () w:=MapKept.run_checkKey (P:=P) ht.k (Vl k) false 9999;cases hq:fnd k t 0 with
 |some r=>
  obtain⟨j,v⟩:=r;obtain⟨_,n2,x,rfl,hm,_⟩:=Su hq;rw[htl,hno]at hm;cases hm
 |none=>
  rw[hq]at hf;have Ui:∀o,(setObj g o).run P w= .ok () (w.putObj g o):=λo=>by
   rw[MapKept.run_setObj_map o hb];rfl
  have hr:(Instr.mapUpdate m (.map (some g)) (.int .i64 k) (.int .i64 x)).run P w= .ok () (w.putObj g (.map ((KV t).toArray.push ⟨.int .i64 k,.int .i64 x,n⟩) (n+1))):=by
   simp only[Instr.mapUpdate,cQ,jd ht.m,cJ,MapKept.run_getObj_map hb,cO,hck,hf,Ui]
  unfold Mf;rw[hr];refine hc _ (py ?_);have e:(KV t).toArray.push ⟨.int .i64 k,.int .i64 x,n⟩=(KV (t++[(k,x,n)])).toArray:=by simp[KV]
  rw[e];have h2:=Av (g:=g) (.map (KV (t++[(k,x,n)])).toArray (n+1)) h;have h3:=abY h2;rw[List.map_append,htl]at h3;exact h3
theorem L4{k:Int}:∀{t:List (Int×Int×Nat)} {j:Nat} {x},(t.map (·.1)).Nodup→t[j]?=some x→x.1=k→(t.eraseIdx j).map (λx=>(x.1,x.2.1))=(t.map λx=>(x.1,x.2.1)).filter λx=>x.1≠k
 |[],j,x,_,h,_=>by simp at h
 |y::r,0,x,hn,h,hx=>by
  simp only[List.getElem?_cons_zero,Option.some.injEq]at h;subst h;rw[List.map_cons,List.nodup_cons]at hn;simp only[List.eraseIdx_cons_zero,List.map_cons];rw[List.filter_cons_of_neg (by simp[hx])]
  symm;rw[List.filter_eq_self];intro z hz;obtain⟨u,hu,rfl⟩:=List.mem_map.1 hz;simp only[ne_eq,decide_eq_true_eq];rintro rfl;exact hn.1 (List.mem_map.2 ⟨u,hu,hx.symm⟩)
 |y::r,j+1,x,hn,h,hx=>by
  simp only[List.getElem?_cons_succ]at h;rw[List.map_cons,List.nodup_cons]at hn;have ih:=L4 hn.2 h hx;simp only[List.eraseIdx_cons_succ,List.map_cons];rw[List.filter_cons_of_pos,ih];simp only[ne_eq,decide_eq_true_eq];rintro e;exact hn.1 (List.mem_map.2 ⟨x,r0 h,by rw[hx,e]⟩)
theorem amx{m kt et t2:TypeId}{k:Int}{c:Value→aq}(ht:MpT P m kt et)(h:St w0 w L)[a:At L (mp g) l f](hnd:(l.map (·.1)).Nodup)(hin:(HG l k).isSome=true)(hc:∀w',St w0 w' (f (mp g (l.filter λx=>x.1≠k)))→c (.tuple #[]) w'):agP P #[m,kt] t2 [.map (some g),.int .i64 k] w c:=by
 obtain⟨R,ho,py⟩:=a.out;obtain⟨t,n,htl,h⟩:=ahZ (ho h);have hb:=Db (g:=g) h;have hf:=MapKept.run_findKey (P:=P) (w:=w) (kt:=kt) (l:=KV t) ht.k (HY k t 0);have hck:∀e,(Instr.checkKey e 10000 kt (.int .i64 k)).run P w= .ok () w:=λe=>MapKept.run_checkKey (P:=P) ht.k (Vl k) e 9999;have Ui:∀o,(setObj g o).run P w= .ok () (w.putObj g o):=λo=>by
  rw[MapKept.run_setObj_map o hb];rfl
 cases hq:fnd k t 0 with
 |none=>
  have hm:=Yv hq;rw[htl]at hm;rw[hm]at hin;cases hin
 |some r=>
  obtain⟨j,v⟩:=r;rw[hq]at hf;obtain⟨_,n2,x,rfl,hm,hx,hxk⟩:=Su hq;rw[Nat.sub_zero]at hx;have hr:(Builtin.delete_ #[m,kt] t2 #[.map (some g),.int .i64 k]).run P w= .ok (.tuple #[]) (w.putObj g (.map ((KV t).toArray.eraseIdxIfInBounds j) n)):=by
   have e0:(#[m,kt]:Array TypeId)[0]?=some m:=rfl;have e1:(#[Value.map (some g),.int .i64 k]:Array Value)[0]?=some (.map (some g)):=rfl;have e2:(#[Value.map (some g),.int .i64 k]:Array Value)[1]?=some (.int .i64 k):=rfl;simp only[Builtin.delete_,e0,e1,e2,cQ,jd ht.m,cJ,MapKept.run_getObj_map hb,cO,hck,hf,Ui]
  unfold agP;have e3:([Value.map (some g),.int .i64 k]:List Value).toArray=#[.map (some g),.int .i64 k]:=rfl;rw[e3,hr];refine hc _ (py ?_);have hjl:j<t.length:=(kO.1 hx).1;have e:(KV t).toArray.eraseIdxIfInBounds j=(KV (t.eraseIdx j)).toArray:=by
   unfold KV;rw[ab0];simp[Array.eraseIdxIfInBounds,hjl]
  rw[e];have h2:=Av (g:=g) (.map (KV (t.eraseIdx j)).toArray n) h;have h3:=abY h2;have aCy:(t.map (·.1)).Nodup:=by rw[←htl,List.map_map]at hnd;exact hnd
  rw[L4 aCy hx hxk,htl]at h3;exact h3
end
section
variable {P:Program} {w:World} {t e:TypeId} {i:TypeInfo} {m:Method} {name:String} {a:Addr} {f:FuncId} {bZ:eb} {args:Array Value} {c:Value→aq}
theorem ads{n:Nat}(hi:P.info? t=some i)(hm:(i.methods.find? λm=>m.name==name)=some m)(hp:m.path=#[])(hf:m.func=some (f,true))(hu:P.underlying t=some (.pointer e)):
  (method (n+1) t (.pointer (some a)) name).run P w= .ok (f,.pointer (some a)) w:=by
 have hti:(typeInfo t).run P w= .ok i w:=by simp[typeInfo,hi]
 simp only[method,cQ,hti,cJ,hm,hp,Array.toList_empty,List.isEmpty_nil,follow,cO,hf,receiverAt,jd hu,Place.get]
theorem aoa:(#[]:Array FieldStep).isEmpty=true:=rfl
theorem aob{ts:Array TypeId}{t2:TypeId}{x y:String}:(Builtin.ssaWrapNilChk_ ts t2 #[.pointer (some a),strVal x,strVal y]).run P w= .ok (.pointer (some a)) w:=rfl
theorem adt{n:Nat}{s:Sl}{e2:TypeId}(hi:P.info? t=some i)(hm:(i.methods.find? λm=>m.name==name)=some m)(hp:m.path=#[])(hf:m.func=some (f,false))(hu:P.underlying t=some (.pointer e))(hk:rE P e= .s)(he:P.underlying e=some (.slice e2))(hcell:w.cell? a=some (.slice s.a s.n s.c)):
  (method (n+1) t (.pointer (some a)) name).run P w= .ok (f,.slice s.a s.n s.c) w:=by
 have hti:(typeInfo t).run P w= .ok i w:=by simp[typeInfo,hi]
 have hl:(loadVar e a).run P w= .ok (.slice s.a s.n s.c) w:=by
  simp only[cQ,loadVar,XG he (by rw[hk];simp),Bool.false_eq_true,if_false,run_load,hcell,cJ]
 simp only[method,cQ,hti,cJ,hm,hp,Array.toList_empty,List.isEmpty_nil,follow,cO,hf,receiverAt,jd hu,Place.get,aoa,if_true,aob,asAddr,hl]
theorem asy(hi:P.info? t=some i)(hm:(i.methods.find? λm=>m.name==name)=some m)(hp:m.path=#[])(hf:m.func=some (f,true))(hu:P.underlying t=some (.pointer e))(hn:P.types.size≠0)
  (h:bZ (.func f) (#[.pointer (some a)] ++args) w c):px bZ P (.iface t (.pointer (some a))) name args w c:=by
 obtain⟨n,hn⟩:∃n,P.types.size+Made.depth=n+1:=⟨P.types.size+Made.depth - 1,ah⟩;unfold px;dsimp only;rw[hn,ads hi hm hp hf hu];exact h
theorem asz{s:Sl}{e2:TypeId}(hi:P.info? t=some i)(hm:(i.methods.find? λm=>m.name==name)=some m)(hp:m.path=#[])(hf:m.func=some (f,false))(hu:P.underlying t=some (.pointer e))(hk:rE P e= .s)(he:P.underlying e=some (.slice e2))(hn:P.types.size≠0)(hcell:w.cell? a=some (.slice s.a s.n s.c))
  (h:bZ (.func f) (#[.slice s.a s.n s.c] ++args) w c):px bZ P (.iface t (.pointer (some a))) name args w c:=by
 obtain⟨n,hn⟩:∃n,P.types.size+Made.depth=n+1:=⟨P.types.size+Made.depth - 1,ah⟩;unfold px;dsimp only;rw[hn,adt hi hm hp hf hu hk he hcell];exact h
end
end Go.Ev
namespace Go.Proofs.YthidhjhkmjjckaaGreatDoor.Ko
open Go Go.Ev Go.Proofs
abbrev DL:=List (Int×Int)
def ry(a b:Int×Int):Prop:=a.1<b.1∨(a.1=b.1∧a.2<b.2)
instance (a b:Int×Int):Decidable (ry a b):=by unfold ry;infer_instance
def gd(d:DL)(k:Nat):Int×Int:=d.getD k (0,0)
def qZ(k:Nat):Nat:=(k - 1) / 2
def HH(d:DL)(n:Nat):Prop:=∀k,1≤k→k<n→¬ry (gd d k) (gd d (qZ k))
structure HU (d:DL) (n j:Nat):Prop where
 a:∀k,1≤k→k<n→k≠j→¬ry (gd d k) (gd d (qZ k))
 b:∀k,1≤k→k<n→qZ k=j→1≤j→¬ry (gd d k) (gd d (qZ j))
structure HD (d:DL) (n i0 i:Nat):Prop where
 a:∀k,1≤k→k<n→qZ k≠i→¬(k=i0∧i=i0)→¬ry (gd d k) (gd d (qZ k))
 b:∀k,1≤k→k<n→qZ k=i→1≤i→¬ry (gd d k) (gd d (qZ i))
def KW(d:DL)(i j:Nat):DL:=(d.set i (gd d j)).set j (gd d i)
theorem ah0(d:DL)(i j:Nat):(KW d i j).length=d.length:=by simp[KW]
theorem Sv{d:DL}{i j k:Nat}(hi:i<d.length)(hj:j<d.length):gd (KW d i j) k=if k=j then gd d i else if k=i then gd d j else gd d k:=by
 unfold gd KW;simp only[nr,List.getElem?_set,List.length_set];by_cases h1:k=j
 ·subst h1;simp[hj,gd,nr]
 ·by_cases h2:k=i
  ·subst h2;rw[if_neg (λq=>h1 q.symm),if_pos rfl,if_pos hi,if_neg h1,if_pos rfl];rfl
  ·rw[if_neg (λq=>h1 q.symm),if_neg (λq=>h2 q.symm),if_neg h1,if_neg h2]
theorem Yw{d:DL}{i j:Nat}(hi:i<d.length)(hj:j<d.length):(KW d i j).Perm d:=by
 have e1:gd d j=d[j]:=by unfold gd;rw[nr,kq hj];rfl
 have e2:gd d i=d[i]:=by unfold gd;rw[nr,kq hi];rfl
 unfold KW;rw[e1,e2];exact List.set_set_perm hi hj
theorem NT{a b c:Int×Int}(h1:¬ry a b)(h2:¬ry b c):¬ry a c:=by unfold ry at*;omega
theorem awt{a b c:Int×Int}(h1:¬ry a b)(h2:ry c b):¬ry a c:=by unfold ry at*;omega
theorem Vm{a b:Int×Int}(h:ry a b):¬ry b a:=by unfold ry at*;omega
theorem awu{a b c:Int×Int}(h1:ry a b)(h2:ry b c):ry a c:=by unfold ry at*;omega
theorem ab3(a:Int×Int):¬ry a a:=by unfold ry;omega
theorem asA{a b:Int×Int}(h:¬ry a b)(hn:a≠b):ry b a:=by
 obtain⟨a1,a2⟩:=a;obtain⟨b1,b2⟩:=b;unfold ry at*
 dsimp only at*
 have:¬(a1=b1∧a2=b2):=λq=>hn (by rw[q.1,q.2])
 omega
theorem tO{k:Nat}(h:1≤k):qZ k<k:=by unfold qZ;omega
theorem asB{d:DL}{n j:Nat}(h:HU d n j)(hn:n≤d.length)(h1:1≤j)(hj:j<n)(hl:ry (gd d j) (gd d (qZ j))):HU (KW d (qZ j) j) n (qZ j):=by
 have hp:=tO h1;have g:∀k,gd (KW d (qZ j) j) k=if k=j then gd d (qZ j)else if k=qZ j then gd d j else gd d k:=λk=>Sv ah ah
 refine⟨λk k1 kn kj=> ?_,λk k1 kn kp p1=> ?_⟩
 ·rw[g,g];have hpk:=tO k1;by_cases e1:k=j
  ·subst e1;rw[if_pos rfl,if_neg ah,if_pos rfl];exact Vm hl
  ·rw[if_neg e1,if_neg kj];by_cases e2:qZ k=j
   ·rw[if_pos e2];exact h.b k k1 kn e2 h1
   ·rw[if_neg e2];by_cases e3:qZ k=qZ j
    ·rw[if_pos e3];have:=h.a k k1 kn e1;rw[e3]at this;exact awt this hl
    ·rw[if_neg e3];exact h.a k k1 kn e1
 ·have hpk:=tO k1;have hpp:=tO p1;have h0:=h.a (qZ j) p1 ah ah;have eg:gd (KW d (qZ j) j) (qZ (qZ j))=gd d (qZ (qZ j)):=by rw[g,if_neg ah,if_neg ah]
  rw[eg];by_cases e1:k=j
  ·rw[g,if_pos e1];exact h0
  ·rw[g,if_neg e1,if_neg ah];have:=h.a k k1 kn e1;rw[kp]at this;exact NT this h0
theorem amy{d:DL}{n j:Nat}(h:HU d n j)(he:j=0∨¬ry (gd d j) (gd d (qZ j))):HH d n:=by
 intro k k1 kn;by_cases e:k=j
 ·subst e;rcases he with he|he
  ·omega
  ·exact he
 ·exact h.a k k1 kn e
theorem asC{d:DL}{n i0 i j:Nat}(h:HD d n i0 i)(hn:n≤d.length)(XM:i0≤i)(h1:1≤j)(hj:j<n)(hp:qZ j=i)(hm:∀k,1≤k→k<n→qZ k=i→¬ry (gd d k) (gd d j))(hl:ry (gd d j) (gd d i)):HD (KW d i j) n i0 j:=by
 have hpj:=tO h1;rw[hp]at hpj;have g:∀k,gd (KW d i j) k=if k=j then gd d i else if k=i then gd d j else gd d k:=λk=>Sv ah ah
 refine⟨λk k1 kn kj _=> ?_,λk k1 kn kp _=> ?_⟩
 ·have hpk:=tO k1;rw[g,g];by_cases e1:k=j
  ·subst e1;rw[if_pos rfl,if_neg ah,if_pos hp];exact Vm hl
  ·rw[if_neg e1,if_neg kj];by_cases e2:k=i
   ·subst e2;rw[if_pos rfl,if_neg ah];exact h.b j h1 hj hp k1
   ·rw[if_neg e2];by_cases e3:qZ k=i
    ·rw[if_pos e3];exact hm k k1 kn e3
    ·rw[if_neg e3];exact h.a k k1 kn e3 ah
 ·have hpk:=tO k1;rw[g,g,hp,if_neg ah,if_neg ah,if_neg ah,if_pos rfl];have:=h.a k k1 kn ah ah;rw[kp]at this;exact this
theorem awv{d:DL}{n i0 i:Nat}(h:HD d n i0 i)(he:∀k,1≤k→k<n→qZ k=i→¬ry (gd d k) (gd d i)):(i≠i0→HH d n)∧(i=i0→HU d n i0):=by
 refine⟨λhi k k1 kn=> ?_,λhi=>⟨λk k1 kn kj=> ?_,λk k1 kn kp p1=> ?_⟩⟩
 ·by_cases e:qZ k=i
  ·rw[e];exact he k k1 kn e
  ·exact h.a k k1 kn e ah
 ·by_cases e:qZ k=i
  ·rw[e];exact he k k1 kn e
  ·exact h.a k k1 kn e ah
 ·subst hi;exact h.b k k1 kn kp p1
theorem asD{d:DL}{n:Nat}(h:HH d n):∀k,k<n→¬ry (gd d k) (gd d 0):=by
 intro k;induction k using Nat.strongRecOn with
 |_ k ih=>
  intro hk;by_cases e:k=0
  ·subst e;exact ab3 _
  ·have:=tO (k:=k) ah;exact NT (h k ah hk) (ih (qZ k) this ah)
theorem amz{d:DL}{x:Int×Int}{k:Nat}(h:k<d.length):gd (d++[x]) k=gd d k:=by
 unfold gd;rw[nr,nr,sY h]
theorem asE{d:DL}{x:Int×Int}(h:HH d d.length):HU (d++[x]) (d.length+1) d.length:=by
 refine⟨λk k1 kn kj=> ?_,λk k1 kn kp p1=> ?_⟩
 ·have:=tO k1;rw[amz ah,amz ah];exact h k k1 ah
 ·have:=tO k1;omega
theorem amA{d:DL}{i m:Nat}(h:HH d d.length)(hm:m+1=d.length)(hi:i<m):HD (KW d i m) m i i:=by
 have g:∀k,gd (KW d i m) k=if k=m then gd d i else if k=i then gd d m else gd d k:=λk=>Sv ah ah
 refine⟨λk k1 kn kp kk=> ?_,λk k1 kn kp p1=> ?_⟩
 ·have:=tO k1;rw[g,g,if_neg ah,if_neg ah,if_neg ah,if_neg kp];exact h k k1 ah
 ·have h1:=tO k1;have h2:=tO p1;rw[g,g (qZ i),if_neg ah,if_neg ah,if_neg ah,if_neg ah];have h3:=h k k1 ah;rw[kp]at h3;exact NT h3 (h i p1 ah)
theorem ah2{d:DL}{m k:Nat}(h:k<m):gd (d.take m) k=gd d k:=by
 unfold gd;rw[nr,nr,List.getElem?_take_of_lt h]
theorem ab4{d:DL}{m:Nat}(h:HH d m)(hm:m≤d.length):HH (d.take m) (d.take m).length:=by
 intro k k1 kn;rw[List.length_take]at kn;have:=tO k1;rw[ah2 ah,ah2 ah];exact h k k1 ah
abbrev Srt(S:DL):Prop:=S.Pairwise ry
def ins(x:Int×Int):DL→DL
 |[]=>[x]
 |y::r=>if ry x y then x::y::r else y::ins x r
theorem Ic(x:Int×Int):∀S:DL,(ins x S).Perm (x::S)
 |[]=> .refl _
 |y::r=>by
  unfold ins;split
  ·exact .refl _
  ·exact((Ic x r).cons y).trans (.swap _ _ _)
theorem ah3{x:Int×Int}:∀{S:DL},Srt S→x ∉ S→Srt (ins x S)
 |[],_,_=>by unfold ins;simp
 |y::r,h,hx=>by
  unfold ins;replace h:=List.pairwise_cons.1 h;split
  ·rename_i hl;refine List.pairwise_cons.2 ⟨λz hz=> ?_,List.pairwise_cons.2 h⟩;rcases List.mem_cons.1 hz with rfl|hz
   ·exact hl
   ·exact awu hl (h.1 z hz)
  ·rename_i hl;refine List.pairwise_cons.2 ⟨λz hz=> ?_,ah3 h.2 λq=>hx (by simp[q])⟩
   rcases List.mem_cons.1 ((Ic x r).subset hz)with rfl|hz
   ·exact asA hl λq=>hx (by simp[q])
   ·exact h.1 z hz
theorem Zm{S:DL}(h:Srt S)(p:Int×Int→Bool):Srt (S.filter p):=h.filter p
end Go.Proofs.YthidhjhkmjjckaaGreatDoor.Ko
