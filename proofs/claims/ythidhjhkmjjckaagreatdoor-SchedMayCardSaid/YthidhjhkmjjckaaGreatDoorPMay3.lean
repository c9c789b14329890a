/-
  Parts of the proof of LMay: printed by a program out of longer texts.
-/
import Derived.Test.YthidhjhkmjjckaaGreatDoorPMay2
import Derived.MapKept
set_option maxRecDepth 100000
set_option linter.unusedVariables false
set_option linter.unusedSimpArgs false
open List renaming getElem?_eq_some_iff→kJ,getElem?_eq_getElem→j4,getD_eq_getElem?_getD→nI,getElem?_append_left→sZ,getElem?_append_right→uI,getElem?_set_ne→rK,getElem?_set_self→uu,mem_of_getElem?→q6,getElem?_map→pz,eraseIdx→Iw,insertIdx_succ_cons→azV,insertIdx_zero→azW,replicate→dM,mem_append→y7,length_append→tV,all_eq_true→xz
open Go.Sem renaming run_pure→cK,run_bind→cL
open Go.Result renaming andThen_ok→cF
open Bool renaming or_eq_false_iff→kx,and_eq_true→iZ
open Option renaming isNone→eL
open Go.IntKind renaming wrap→aG
open Int renaming toNat_natCast→kR
open Array renaming setIfInBounds→eM,getElem?_eq_some_iff→AL
open Nat renaming le_refl→iv
open Go.Addr renaming add→aY
namespace Go.Proofs.YthidhjhkmjjckaaGreatDoor
open Go Go.Ev Tryz
abbrev aBI:=World→(Bool→aq)→Prop
abbrev aq7(f:aBI):bn:=DD [] [.b] λx=>f
abbrev aBJ:=Array Value→Array Value→Array Value→World→(Bool→aq)→Prop
abbrev azl(f:aBJ):bn:=DD [.ag,.ag,.ag] [.b] λx=>f x.1 x.2.1 x.2.2
def zX(cj:Ux)(ae:T1):T0:=λa w k=>drew w λc=>nn a λn=>bD 2 c (n.add 2) λf=>nn a λo=>aR c (o.add 0) λp5=>nn p5 λp=>aR c (p.add 7) λp7=>nn a λq=>aN .i64 c (q.add 1) λs=>cj f p7 s c λb d=>nn a λg=>aR d (g.add 0) λp13=>ae p13 (b.1,b.2).2 d λh e=>ap h (k () e) (nn a λi=>bJ e (i.add 26) (Iv (b.1,b.2).1) λj=>nn a λl=>bJ j (l.add 7) (.func (.func mN) #[.pointer a] #[]) λm=>k () m)
theorem Q3 a b:E [.p] [] [(qp,IF a),(bf,qu b)] 268435469 [] f309=λx=>zX a b x:=be
def gV:=zX cj ae
abbrev zY:bn:=bY gV
theorem Q4:SS lB (bY gV):=so func309 (.c xZ (.c bj .z)) (Q3 cj ae)
def dL:T31:=λa d e w k=>drew w λc=>cZ a d 2 λj=>aN .i64 c (j.add 0) λl=>cZ a e 2 λm=>aN .i64 c (m.add 0) λn=>ap (decide (l<n)) (k true c) (cZ a d 2 λo=>aN .i64 c (o.add 0) λp=>cZ a e 2 λq=>aN .i64 c (q.add 0) λr=>ap (p==r) (cZ a d 2 λf=>aN .i64 c (f.add 1) λg=>cZ a e 2 λh=>aN .i64 c (h.add 1) λi=>k (decide (g<i)) c) (k false c))
abbrev WA:bn:=V0 dL
theorem JO:SS k7 (V0 dL):=sl 71 [] func421
def bB:T13:=λa b c w k=>drew w λd=>cZ a c 2 λg=>bD 2 d g λe=>cZ a b 2 λh=>bD 2 d h λf=>cZ a b 2 λi=>dZ 2 d i e λj=>cZ a c 2 λl=>dZ 2 j l f λm=>k () m
abbrev WB:bn:=Dp bB
theorem yP:SS dx (Dp bB):=sl 0 [] func422
def zZ(dL:T31)(bB:T13):T26:=fun h_0 j_1 w k=>kH (S:=Int) (fun C1 i2 w3=>cE (S:=Bool) (fun J4=>ap ((Vm .i64 (IntKind.wrap .i64 (i2 - 1)) 2)==i2) (J4 true w3) (pF (kw [(k7,(V0 dL)),(dx,(Dp bB))]) Tryz.prog h_0 "Less" #[Iv i2,(Iv (Vm .i64 (IntKind.wrap .i64 (i2 - 1)) 2))] w3 fun v5 w6=>HL v5 fun b7=>J4 (!b7) w6)) fun b8 w9=>ap b8 (k () w9) (pF (kw [(k7,(V0 dL)),(dx,(Dp bB))]) Tryz.prog h_0 "Swap" #[(Iv (Vm .i64 (IntKind.wrap .i64 (i2 - 1)) 2)),Iv i2] w9 fun v10 w11=>HM [] v10 fun(u12:Unit)=>C1 (Vm .i64 (IntKind.wrap .i64 (i2 - 1)) 2) w11)) j_1 w
theorem Q5 a c:E [.raw,.i .i64] [] [(k7,V0 a),(dx,Dp c)] 131091 [(1,[(1,(.i .i64))]),(4,[(17,.b)])] f379=λx=>zZ a c x.1 x.2:=be
def cw:=zZ dL bB
theorem Gk:SS jo (TN cw):=so func379 (.c JO (.c yP .z)) (Q5 dL bB)
def j3:SB:=λe j w k=>tyA Tryz.prog j 20 259 true w λv x=>HM [.ag,.b] v fun(r:Array Value×Bool)=>aL x #[Iv 0,Iv 0] 259 λs y=>dZ 2 y s r.1 λt=>ap r.2 (drew t λi=>nn e λu=>cC i u λl=>bD 2 i s λf=>lz #[Iv 0,Iv 0] 0 2 f λg=>aL i g 259 λm h=>ai 1 u i h (qd Tryz.prog #[209,209] 209 [.slice l.a l.n l.c,(.slice (some m) 1 1)] h λd o=>nn e λp=>bJ o p (.slice d.a d.n d.c) λq=>k () q)) (k () t)
abbrev WC:bn:=EE j3
theorem WD:SS rf (EE j3):=sl 2097 [] func424
def cJ:T17:=λa w k=>k ((a.n:Nat):Int) w
abbrev XX:bn:=IE cJ
theorem Fv:SS fI (IE cJ):=sl 5 [] func420
def wC(cw:T26)(j3:SB)(cJ:T17):aqO:=fun h_0 x_1 w k=>pF (kw [(jo,(TN cw)),(rf,(EE j3)),(fI,(IE cJ))]) Tryz.prog h_0 "Push" #[x_1] w fun v1 w2=>HM [] v1 fun(u3:Unit)=>pF (kw [(jo,(TN cw)),(rf,(EE j3)),(fI,(IE cJ))]) Tryz.prog h_0 "Len" #[] w2 fun v4 w5=>xy .i64 v4 fun i6=>cw h_0 (IntKind.wrap .i64 (i6 - 1)) w5 fun _u w7=>k () w7
theorem Nk a b c:E [.raw,.raw] [] [(jo,TN a),(rf,EE b),(fI,IE c)] 1 [] f372=λx=>wC a b c x.1 x.2:=be
def jt:=wC cw j3 cJ
theorem Nl:SS Dl (aqP jt):=so func372 (.c Gk (.c WD (.c Fv .z))) (Nk cw j3 cJ)
def Cm(jt:aqO):T48:=λa Y1 alU w k=>ap (eL a) (k 2 w) (ap (((decide (Y1<0))||(decide (alU<1)))||(decide (alU>1099511627776))) (k 10 w) (nn a λo=>ldM w (o.add 2) λp2=>Go.Ev.look Tryz.prog 207 (.map p2) (Iv Y1) true w λp n=>HM [(.i .i64),.b] p fun(q:Int×Bool)=>ap q.2 (k 18 n) (drew n λe=>nn a λr=>ldM e (r.add 2) λp8=>nn a λs=>aN .i64 e (s.add 0) λf=>Ma Tryz.prog 207 (.map p8) (Iv Y1) (Iv (aG .i64 (f+alU))) e λg=>drew g λd=>nn a λh=>nn a λj=>aN .i64 d (j.add 0) λl=>jt (.iface 261 (.pointer (some (h.add 1)))) (.iface 259 (.agg #[(Iv (aG .i64 (l+alU))),Iv Y1])) d λ_u m=>k 0 m)))
theorem UP a:E [.p,.i .i64,.i .i64] [.i .i64] [(Dl,aqP a)] 4294972231 [] f355=λx=>Cm a x.1 x.2.1 x.2.2:=be
def mq:=Cm jt
theorem UQ:SS IC (alG mq):=so func355 (.c Nl .z) (UP jt)
def yj(aE:Xx)(af:T8)(aK:MD)(au:MD)(cQ:T51)(ae:T1)(mq:T48)(az:Zs)(aH:T0):T0:=λd w k=>aE d w λb1 w2=>ap b1 (k () w2) (af d w2 λp3 w4=>aK d w4 λa2 w6=>aL w6 Jd 75 λa7 w8=>dZ 5 w8 a7 a2 λw9=>drew w9 λf=>nn d λA=>aR f (A.add 0) λp12=>nn p12 λB=>aR f (B.add 9) λp14=>nn d λC=>aR f (C.add 0) λp16=>nn p16 λD=>aR f (D.add 7) λp18=>nn d λF=>aN .i64 f (F.add 1) λa4=>au p3 f λG j=>ai 1 (F.add 1) f j (ai 1 (D.add 7) f j (ai 1 (C.add 0) f j (ai 1 (B.add 9) f j (ai 1 (A.add 0) f j (PJ G 0 λa5=>xy .i64 a5 λa6=>cQ p14 p18 a4 a6 j λg H=>nn d λa8=>aR H (a8.add 0) λa9=>ae a9 (g.1,g.2).2 H λb0 I=>ap b0 (k () I) (drew I λb=>nn d λm=>aR b (m.add 0) λb2=>nn d λo=>aR b (o.add 0) λb3=>nn b3 λp=>cC b (p.add 10) λr=>nn p3 λJ=>aN .i64 b (J.add 0) λb4=>nn p3 λL=>cC b (L.add 25) λb5=>nn d λM=>aR b (M.add 0) λb6=>nn b6 λN=>cC b (N.add 10) λb7=>au p3 b λO e=>ai 1 (N.add 10) b e (ai 1 (M.add 0) b e (ai 1 (L.add 25) b e (ai 1 (J.add 0) b e (ai 1 (p.add 10) b e (ai 1 (o.add 0) b e (ai 1 (m.add 0) b e (PJ O 0 λb8=>xy .i64 b8 λb9=>cZ b7 b9 4 λc0=>aN .i64 e (c0.add 1) λc1=>ai 1 (p.add 10) b e (ai 1 (o.add 0) b e (ai 1 (m.add 0) b e (lz #[Iv 0,Iv 0,Iv 0,.bool false] 0 4 #[Iv b4,(Iv ((b5.n:Nat):Int)),Iv c1,.bool false] λP=>aL e P 125 λc2 q=>ai 1 (p.add 10) b q (ai 1 (o.add 0) b q (ai 1 (m.add 0) b q (qd Tryz.prog #[96,96] 96 [.slice r.a r.n r.c,(.slice (some c2) 1 1)] q λs Q=>ai 1 (m.add 0) b Q (nn b2 λc3=>bJ Q (c3.add 10) (.slice s.a s.n s.c) λR=>nn p3 λc4=>cC R (c4.add 25) λt=>aL R #[(Iv (g.1,g.2).1)] 3 λc5 c6=>qd Tryz.prog #[69,69] 69 [.slice t.a t.n t.c,(.slice (some c5) 1 1)] c6 λu c7=>nn p3 λc8=>bJ c7 (c8.add 25) (.slice u.a u.n u.c) λc9=>drew c9 λl=>nn p3 λv=>cC l (v.add 24) λx=>nn d λd0=>aN .i64 l (d0.add 26) λd1=>ai 1 (v.add 24) l l (lz #[Iv 0,Iv 0] 0 2 #[(Iv (g.1,g.2).1),Iv d1] λT=>aL l T 356 λd2 U=>ai 1 (v.add 24) l U (qd Tryz.prog #[120,120] 120 [.slice x.a x.n x.c,(.slice (some d2) 1 1)] U λy d3=>nn p3 λd4=>bJ d3 (d4.add 24) (.slice y.a y.n y.c) λd5=>cE (S:=Bool) (λV=>drew d5 λh=>aN .i64 h (a7.add 4) λd6=>ap (decide (d6>0)) (nn d λW=>aR h (W.add 0) λd7=>nn d λd8=>aR h (d8.add 0) λd9=>nn d9 λe0=>aR h (e0.add 17) λe1=>aN .i64 h (a7.add 4) λe2=>mq e1 (g.1,g.2).1 e2 h λe3 X=>ai 1 (W.add 0) h X (ae d7 e3 X λe4 e5=>V e4 e5)) (V false h)) λe6 z=>ap e6 (k () z) (nn p3 λe7=>bD 19 z (e7.add 4) λY=>az Y z λZ e8=>nn p3 λe9=>dZ 19 e8 (e9.add 4) Z λa0=>aH d a0 λ_u a1=>k () a1))))))))))))))))))))))))
theorem Pa a c d e f g h i j:E [.p] [] [(jM,Oc a),(bV,F9 c),(kL,ED d),(gE,ED e),(vF,adO f),(bf,qu g),(IC,alG h),(iQ,Od i),(lD,bY j)] 85070591730234615865843656255988564157 [(9,[(126,.b)])] f333=λx=>yj a c d e f g h i j x:=be
def fP:=yj aE af aK au cQ ae mq az aH
abbrev yl:bn:=bY fP
theorem Pb:SS mN (bY fP):=so func333 (.c kN (.c cg (.c mU (.c iI (.c Cd (.c bj (.c UQ (.c kO (.c nr .z))))))))) (Pa aE af aK au cQ ae mq az aH)
def ym(cA:SB):T0:=λa w k=>aL w #[.pointer a] 141 λb c=>aR c b λp3=>cA p3 (.func (.func o5) #[] #[.pointer (some b)]) c λ_u d=>k () d
theorem Pc a:E [.p] [] [(tI,EE a)] 2 [] f310=λx=>ym a x:=be
def fQ:=ym cA
abbrev yn:bn:=bY fQ
theorem Pd:SS kM (bY fQ):=so func310 (.c zF .z) (Pc cA)
def yo(G:T57)(H:T96)(az:Zs):aqq:=λtW p aq8 w k=>aL w tW 119 λz B=>aL B p 75 λq C=>aL C Dn 119 λo A=>bD 19 A z λr=>aL A Dn 119 λs D=>dZ 19 D s r λc=>bD 5 c q λd=>G d 12 c λt a=>ap t (drew a λb=>aN .i64 b (q.add 1) λu=>H aq8 b λv e=>ai 1 (q.add 1) b e (GG (s.add 2) 8 u 1 λx=>bJ e x (Iv v) λf=>bD 19 f s λg=>az g f λh y=>dZ 19 y o h λi=>bD 19 i o λj=>k j i)) (bD 19 a z λl=>dZ 19 a o l λm=>bD 19 m o λn=>k n m)
theorem Pe a c d:E [.ag,.ag,.b] [.ag] [(Di,ag8 a),(MC,aqk c),(iQ,Od d)] 1244 [] f193=λx=>yo a c d x.1 x.2.1 x.2.2:=be
def jc:=yo eK mT az
theorem Pf:SS EA (aqr jc):=so func193 (.c HV (.c Wo (.c kO .z))) (Pe eK mT az)
def cz:aqK:=λa d w k=>aL w d 259 λi j=>kH (S:=Int) (λl b h=>ap (decide (b<((a.n:Nat):Int))) (drew h λc=>bD 2 c i λe=>cZ a b 2 λm=>bD 2 c m λf=>Zl ([(0,0)] ++([(1,0)] ++[])) e f λg=>ap g (k b c) (l (aG .i64 (b+1)) c)) (k (-1) h)) 0 j
theorem xf:SS qh (aqL cz):=sl 66489 [(3,[(8,(.i .i64))])] func364
def wD(dL:T31)(bB:T13):T24:=fun h_0 aq9 n_2 w k=>kH (S:=Int) (fun C1 i2 w3=>ap ((decide ((IntKind.wrap .i64 ((IntKind.wrap .i64 (2*i2))+1))≥n_2))||(decide ((IntKind.wrap .i64 ((IntKind.wrap .i64 (2*i2))+1))<0))) (k (decide (i2>aq9)) w3) (cE (S:=Bool) (fun J4=>ap (decide ((IntKind.wrap .i64 ((IntKind.wrap .i64 ((IntKind.wrap .i64 (2*i2))+1))+1))<n_2)) (pF (kw [(k7,(V0 dL)),(dx,(Dp bB))]) Tryz.prog h_0 "Less" #[(Iv (IntKind.wrap .i64 ((IntKind.wrap .i64 ((IntKind.wrap .i64 (2*i2))+1))+1))),(Iv (IntKind.wrap .i64 ((IntKind.wrap .i64 (2*i2))+1)))] w3 fun v5 w6=>HL v5 fun b7=>J4 b7 w6) (J4 false w3)) fun b8 w9=>cE (S:=Int) (fun J10=>ap b8 ((J10 (IntKind.wrap .i64 ((IntKind.wrap .i64 ((IntKind.wrap .i64 (2*i2))+1))+1)) w9)) ((J10 (IntKind.wrap .i64 ((IntKind.wrap .i64 (2*i2))+1)) w9))) fun i11 w12=>pF (kw [(k7,(V0 dL)),(dx,(Dp bB))]) Tryz.prog h_0 "Less" #[Iv i11,Iv i2] w12 fun v13 w14=>HL v13 fun b15=>ap (!b15) (k (decide (i2>aq9)) w14) (pF (kw [(k7,(V0 dL)),(dx,(Dp bB))]) Tryz.prog h_0 "Swap" #[Iv i2,Iv i11] w14 fun v16 w17=>HM [] v16 fun(u18:Unit)=>C1 i11 w17))) aq9 w
theorem Nm a c:E [.raw,.i .i64,.i .i64] [.b] [(k7,V0 a),(dx,Dp c)] 558347847623 [(3,[(7,(.i .i64))]),(10,[(33,.b)]),(11,[(9,(.i .i64))])] f199=λx=>wD a c x.1 x.2.1 x.2.2:=be
def bT:=wD dL bB
theorem DX:SS fF (Qf bT):=so func199 (.c JO (.c yP .z)) (Nm dL bB)
def dz:T20:=λb w k=>nn b λq=>cC w q λm=>nn b λr=>cC w r λs=>cZ s (aG .i64 (((m.n:Nat):Int) - 1)) 2 λt=>bD 2 w t λh=>aL w #[Iv 0,Iv 0] 259 λo u=>dZ 2 u o h λp=>nn b λi=>cC p i λj=>Sw j 2 0 (aG .i64 (((m.n:Nat):Int) - 1)) λd=>nn b λl=>bJ p l (.slice d.a d.n d.c) λe=>bD 2 e o λf=>k (.iface 259 (.agg f)) e
abbrev LD:bn:=Hr dz
theorem LF:SS iC (Hr dz):=sl 29 [] func423
def ug(bT:T24)(cw:T26)(cJ:T17)(bB:T13)(dz:T20):aqM:=fun h_0 i_1 w k=>pF (kw [(fF,(Qf bT)),(jo,(TN cw)),(fI,(IE cJ)),(dx,(Dp bB)),(iC,(Hr dz))]) Tryz.prog h_0 "Len" #[] w fun v1 w2=>xy .i64 v1 fun i3=>ap ((IntKind.wrap .i64 (i3 - 1)) !=i_1) (pF (kw [(fF,(Qf bT)),(jo,(TN cw)),(fI,(IE cJ)),(dx,(Dp bB)),(iC,(Hr dz))]) Tryz.prog h_0 "Swap" #[Iv i_1,(Iv (IntKind.wrap .i64 (i3 - 1)))] w2 fun v4 w5=>HM [] v4 fun(u6:Unit)=>bT h_0 i_1 (IntKind.wrap .i64 (i3 - 1)) w5 fun b7 w8=>ap (!b7) (cw h_0 i_1 w8 fun _u w9=>pF (kw [(fF,(Qf bT)),(jo,(TN cw)),(fI,(IE cJ)),(dx,(Dp bB)),(iC,(Hr dz))]) Tryz.prog h_0 "Pop" #[] w9 fun v10 w11=>k v10 w11) (pF (kw [(fF,(Qf bT)),(jo,(TN cw)),(fI,(IE cJ)),(dx,(Dp bB)),(iC,(Hr dz))]) Tryz.prog h_0 "Pop" #[] w8 fun v12 w13=>k v12 w13)) (pF (kw [(fF,(Qf bT)),(jo,(TN cw)),(fI,(IE cJ)),(dx,(Dp bB)),(iC,(Hr dz))]) Tryz.prog h_0 "Pop" #[] w2 fun v14 w15=>k v14 w15)
theorem KD a b c d e:E [.raw,.i .i64] [.raw] [(fF,Qf a),(jo,TN b),(fI,IE c),(dx,Dp d),(iC,Hr e)] 1050675 [] f363=λx=>ug a b c d e x.1 x.2:=be
def ir:=ug bT cw cJ bB dz
theorem KE:SS By (aqN ir):=so func363 (.c DX (.c Gk (.c Fv (.c yP (.c LF .z))))) (KD bT cw cJ bB dz)
def Bf(cz:aqK)(ir:aqM):T1:=λa Y1 w k=>ap (eL a) (k false w) (nn a λn=>ldM w (n.add 2) λp2=>Go.Ev.look Tryz.prog 207 (.map p2) (Iv Y1) true w λo f=>HM [(.i .i64),.b] o fun(e:Int×Bool)=>ap e.2 (nn a λq=>ldM f (q.add 2) λp7=>agx Tryz.prog #[207,3] 0 [(.map p7),Iv Y1] f λt r=>drew r λc=>nn a λg=>nn a λd=>cC c (d.add 1) λh=>ai 1 (d.add 1) c c (cz h #[Iv e.1,Iv Y1] c λj l=>ir (.iface 261 (.pointer (some (g.add 1)))) j l λs m=>k e.2 m)) (k e.2 f))
theorem S8 a c:E [.p,.i .i64] [.b] [(qh,aqL a),(By,aqN c)] 262515 [] f349=λx=>Bf a c x.1 x.2:=be
def lj:=Bf cz ir
theorem S9:SS Hp (qu lj):=so func349 (.c xf (.c KE .z)) (S8 cz ir)
def z0(D:T8)(au:MD)(lj:T1):T0:=λb w k=>D b w λp1 y=>au p1 y λg h=>PJ g 0 λz=>xy .i64 z λx=>nn b λA=>aR h (A.add 0) λp8=>nn p8 λB=>aR h (B.add 17) λp10=>lj p10 x h λC d=>nn b λj=>aR d (j.add 0) λp14=>nn p14 λl=>cC d (l.add 10) λm=>cZ m x 4 λo=>bJ d (o.add 3) (.bool true) λp=>drew p λe=>nn p1 λq=>cC e (q.add 24) λr=>nn p1 λs=>cC e (s.add 24) λt=>Sw r 2 0 (aG .i64 (((t.n:Nat):Int) - 1)) λf=>nn p1 λu=>bJ e (u.add 24) (.slice f.a f.n f.c) λv=>k () v
theorem Q6 a b c:E [.p] [] [(bV,F9 a),(gE,ED b),(Hp,qu c)] 13 [] f329=λx=>z0 a b c x:=be
def dW:=z0 af au lj
theorem Gn:SS zi (bY dW):=so func329 (.c cg (.c iI (.c S9 .z))) (Q6 af au lj)
def wE(aE:Xx)(af:T8)(aK:MD)(au:MD)(ez:T46)(ae:T1)(jc:aqq)(dW:T0)(aH:T0):T0:=λb w k=>aE b w λR P=>ap R (k () P) (af b P λp3 T=>aK b T λv U=>aL U Jd 75 λQ V=>dZ 5 V Q v λW=>drew W λa=>nn b λg=>aR a (g.add 0) λp12=>nn p12 λh=>aR a (h.add 9) λp14=>nn b λi=>aR a (i.add 0) λp16=>nn p16 λj=>aR a (j.add 7) λp18=>nn b λl=>aN .i64 a (l.add 1) λy=>au p3 a λm c=>ai 1 (l.add 1) a c (ai 1 (j.add 7) a c (ai 1 (i.add 0) a c (ai 1 (h.add 9) a c (ai 1 (g.add 0) a c (PJ m 0 λz=>xy .i64 z λA=>ez p14 p18 y A c λd n=>nn b λB=>aR n (B.add 0) λC=>ae C (d.1,d.2).2 n λD e=>ap D (k () e) (cE (S:=ByteArray) (λo=>ap (d.1,d.2).1 (o (ByteArray.mk #[49]) e) (o (ByteArray.mk #[48]) e)) λp q=>nn p3 λF=>PI q (F.add 23) λr=>((((((ByteArray.size r)+(ByteArray.size p)):Nat):Int)≤9223372036854775807))∧(nn p3 λG=>bJ q (G.add 23) (.string (r++p)) λH=>drew H λf=>nn p3 λI=>bD 19 f (I.add 4) λs=>bD 5 f Q λt=>jc s t (d.1,d.2).1 f λu J=>nn p3 λL=>dZ 19 J (L.add 4) u λM=>dW b M λ_u N=>aH b N λ_u O=>k () O))))))))
theorem Nn a b c d e f g h i:E [.p] [] [(jM,Oc a),(bV,F9 b),(kL,ED c),(gE,ED d),(AW,YW e),(bf,qu f),(EA,aqr g),(zi,bY h),(lD,bY i)] 26388279067005 [(8,[(6,.str)])] f335=λx=>wE a b c d e f g h i x:=be
def fg:=wE aE af aK au ez ae jc dW aH
abbrev wF:bn:=bY fg
theorem No:SS lN (bY fg):=so func335 (.c kN (.c cg (.c mU (.c iI (.c HE (.c bj (.c Pf (.c Gn (.c nr .z))))))))) (Nn aE af aK au ez ae jc dW aH)
def DY(o:T6)(p:T42):T46:=λa b f c w k=>o a b c w λg d=>ap (g !=0) (k (false,g) d) (nn a λh=>cC d (h.add 0) λi=>cZ i c 3 λj=>aN .i64 d (j.add 2) λm=>p b f m 0 1 d λe n=>k ((e.1,e.2).1,(e.1,e.2).2) n)
theorem WE a c:E [.p,.p,.i .i64,.i .i64] [.b,.i .i64] [(pH,ry a),(m9,abc c)] 67343 [] f152=λx=>DY a c x.1 x.2.1 x.2.2.1 x.2.2.2:=be
def gD:=DY bq aU
theorem JP:SS Df (YW gD):=so func152 (.c ri (.c pg .z)) (WE bq aU)
def wG(aE:Xx)(af:T8)(au:MD)(gD:T46)(ae:T1)(az:Zs)(aH:T0)(cf:SB):T0:=λa w k=>aE a w λF B=>ap F (k () B) (af a B λp3 G=>drew G λc=>nn a λC=>aR c (C.add 0) λp7=>nn p7 λD=>aR c (D.add 9) λp9=>nn a λe=>aR c (e.add 0) λp11=>nn p11 λf=>aR c (f.add 7) λp13=>nn a λg=>aN .i64 c (g.add 1) λo=>au p3 c λh b=>ai 1 (g.add 1) c b (ai 1 (f.add 7) c b (ai 1 (e.add 0) c b (ai 1 (D.add 9) c b (ai 1 (C.add 0) c b (PJ h 0 λp=>xy .i64 p λq=>gD p9 p13 o q b λi j=>nn a λr=>aR j (r.add 0) λs=>ae s (i.1,i.2).2 j λt d=>ap t (k () d) (nn p3 λu=>bD 19 d (u.add 4) λl=>az l d λm v=>nn p3 λx=>dZ 19 v (x.add 4) m λy=>aH a y λ_u z=>cf a (.func (.func gu) #[.pointer a] #[]) z λ_u A=>k () A)))))))
theorem Np a b c d e f g h:E [.p] [] [(jM,Oc a),(bV,F9 b),(gE,ED c),(Df,YW d),(bf,qu e),(iQ,Od f),(lD,bY g),(sR,EE h)] 549755813973 [] f311=λx=>wG a b c d e f g h x:=be
def fh:=wG aE af au gD ae az aH cf
abbrev wH:bn:=bY fh
theorem Nq:SS j7 (bY fh):=so func311 (.c kN (.c cg (.c iI (.c JP (.c bj (.c kO (.c nr (.c xV .z)))))))) (Np aE af au gD ae az aH cf)
def z5(aE:Xx)(af:T8)(az:Zs)(aH:T0):T0:=λa w k=>aE a w λj h=>ap (!j) (af a h λp3 l=>af a l λp5 i=>nn p5 λm=>bD 19 i (m.add 4) λb=>az b i λc d=>nn p3 λe=>dZ 19 d (e.add 4) c λf=>aH a f λ_u g=>k () g) (k () h)
theorem Q7 a b c d:E [.p] [] [(jM,Oc a),(bV,F9 b),(iQ,Od c),(lD,bY d)] 17 [] f312=λx=>z5 a b c d x:=be
def gW:=z5 aE af az aH
abbrev z6:bn:=bY gW
theorem Q8:SS lC (bY gW):=so func312 (.c kN (.c cg (.c kO (.c nr .z)))) (Q7 aE af az aH)
def yp(aE:Xx)(af:T8)(aK:MD)(az:Zs)(aH:T0)(cv:T41):T0:=λa w k=>aE a w λC A=>ap C (k () A) (af a A λp3 D=>aK a D λi F=>aL F Jd 75 λh G=>dZ 5 G h i λB=>nn p3 λj=>bD 19 B (j.add 4) λf=>az f B λg l=>nn p3 λm=>dZ 19 l (m.add 4) g λn=>aH a n λ_u c=>aN .i64 c (h.add 0) λo=>ap (o==15) (drew c λd=>aN .i64 d (h.add 1) λp=>nn p3 λq=>GG (aY (q.add 4) 2) 8 p 1 λr=>aN .i64 d r λs=>cv a 3 s d λ_u t=>k () t) (drew c λe=>aN .i64 e (h.add 1) λu=>nn p3 λv=>GG (aY (v.add 4) 2) 8 u 1 λx=>aN .i64 e x λy=>cv a 2 y e λ_u z=>k () z))
theorem Pg a b c d e f:E [.p] [] [(jM,Oc a),(bV,F9 b),(kL,ED c),(iQ,Od d),(lD,bY e),(tH,abb f)] 8388701 [] f313=λx=>yp a b c d e f x:=be
def fS:=yp aE af aK az aH cv
abbrev yq:bn:=bY fS
theorem Ph:SS iR (bY fS):=so func313 (.c kN (.c cg (.c mU (.c kO (.c nr (.c zH .z)))))) (Pg aE af aK az aH cv)
def z7(j:T43):T47:=λtW a b c w k=>aL w tW 116 λf e=>aN .i64 e (f.add 0) λg=>j a b (aG .i64 (g+1)) c e λh i=>k h i
theorem Q9 a:E [.ag,.p,.i .i64,.i .i64] [.i .i64] [(lI,abd a)] 286 [] f343=λx=>z7 a x.1 x.2.1 x.2.2.1 x.2.2.2:=be
def kC:=z7 aM
theorem Ra:SS F6 (YX kC):=so func343 (.c nQ .z) (Q9 aM)
def Bg(A:T8)(B:T47)(C:T1):T0:=λa w k=>A a w λp1 v=>cE (S:=Bool) (λt=>drew v λb=>nn p1 λx=>aN .i64 b (x.add 26) λy=>ap (y==4) (t true b) (nn a λu=>aR b (u.add 0) λp8=>nn p1 λz=>bD 1 b (z.add 3) λd=>nn a λg=>aR b (g.add 0) λp12=>nn p12 λh=>aR b (h.add 7) λp14=>nn a λi=>aN .i64 b (i.add 1) λj=>nn p1 λl=>aN .i64 b (l.add 27) λm=>B d p14 j m b λn e=>ai 1 (u.add 0) b e (C p8 n e λo p=>t (!o) p))) λq f=>ap q (nn a λr=>bJ f (r.add 7) (.func (.func nY) #[.pointer a] #[]) λs=>k () s) (k () f)
theorem Ta a c d:E [.p] [] [(bV,F9 a),(F6,YX c),(bf,qu d)] 137438953477 [(1,[(37,.b)])] f326=λx=>Bg a c d x:=be
def iL:=Bg af kC ae
abbrev Bh:bn:=bY iL
theorem Tb:SS nX (bY iL):=so func326 (.c cg (.c Ra (.c bj .z))) (Ta af kC ae)
def z8(i:T42):aqs:=λtW a d ara w k=>aL w tW 116 λf b=>ap (eL a) (k (false,2) b) (ap ((decide (ara<2))||(decide (ara>4))) (k (false,10) b) (aN .i64 b (f.add 0) λg=>i a d (aG .i64 (g+0)) 1 ara b λc h=>k ((c.1,c.2).1,(c.1,c.2).2) h))
theorem Rb a:E [.ag,.p,.i .i64,.i .i64] [.b,.i .i64] [(m9,abc a)] 10014 [] f359=λx=>z8 a x.1 x.2.1 x.2.2.1 x.2.2.2:=be
def kD:=z8 aU
theorem Rd:SS F7 (aqt kD):=so func359 (.c pg .z) (Rb aU)
def Bi(u:T8)(kD:aqs)(ae:T1):T0:=λa w k=>u a w λp1 q=>drew q λb=>nn p1 λr=>bD 1 b (r.add 3) λf=>nn a λs=>aR b (s.add 0) λp7=>nn p7 λt=>aR b (t.add 7) λp9=>nn a λg=>aN .i64 b (g.add 1) λi=>nn p1 λj=>aN .i64 b (j.add 26) λl=>kD f p9 i l b λc d=>nn a λm=>aR d (m.add 0) λp17=>ae p17 (c.1,c.2).2 d λn e=>ap (!n) (nn a λo=>bJ e (o.add 7) (.func (.func nj) #[.pointer a] #[]) λp=>k () p) (k () e)
theorem Tc a b c:E [.p] [] [(bV,F9 a),(F7,aqt b),(bf,qu c)] 68719476757 [] f344=λx=>Bi a b c x:=be
def iM:=Bi af kD ae
abbrev Bj:bn:=bY iM
theorem Td:SS nY (bY iM):=so func344 (.c cg (.c Rd (.c bj .z))) (Tc af kD ae)
def uh(aj:GV):Ux:=λtW b c w k=>aL w tW 116 λf e=>aN .i64 e (f.add 0) λg=>aj b c (aG .i64 (g+2)) e λa h=>k ((a.1,a.2).1,(a.1,a.2).2) h
theorem KF a:E [.ag,.p,.i .i64] [.i .i64,.i .i64] [(dI,yO a)] 206 [] f374=λx=>uh a x.1 x.2.1 x.2.2:=be
def iu:=uh aj
theorem KG:SS Bz (IF iu):=so func374 (.c dX .z) (KF aj)
def z9(u:T8)(iu:Ux)(ae:T1):T0:=λa w k=>drew w λc=>nn a λp=>aR c (p.add 0) λp3=>nn p3 λq=>aR c (q.add 7) λp5=>nn a λr=>aN .i64 c (r.add 1) λt=>u a c λp8 d=>ai 1 (r.add 1) c d (ai 1 (q.add 7) c d (ai 1 (p.add 0) c d (nn p8 λh=>bD 1 d (h.add 3) λe=>iu e p5 t d λb f=>nn a λi=>aR f (i.add 0) λp15=>ae p15 (b.1,b.2).2 f λj g=>ap (!j) (nn a λl=>bJ g (l.add 30) (Iv (b.1,b.2).1) λm=>nn a λn=>bJ m (n.add 7) (.func (.func nk) #[.pointer a] #[]) λo=>k () o) (k () g))))
theorem Re a b c:E [.p] [] [(bV,F9 a),(Bz,IF b),(bf,qu c)] 1073741837 [] f360=λx=>z9 a b c x:=be
def gX:=z9 af iu ae
abbrev Aa:bn:=bY gX
theorem Rf:SS nj (bY gX):=so func360 (.c cg (.c KG (.c bj .z))) (Re af iu ae)
def Bk(o:T6)(p:T36):T46:=λb c f d w k=>o b c d w λh e=>ap (h !=0) (k (false,h) e) (nn b λi=>cC e (i.add 0) λj=>cZ j d 3 λl=>aN .i64 e (l.add 2) λm=>p c f (aG .i64 (m+1)) (-1) e λa n=>(k ((((a.1,a.2).2==0)&&((a.1,a.2).1==1)),(a.1,a.2).2) n))
theorem Te a c:E [.p,.p,.i .i64,.i .i64] [.b,.i .i64] [(pH,ry a),(j6,YV c)] 270095 [] f386=λx=>Bk a c x.1 x.2.1 x.2.2.1 x.2.2.2:=be
def lm:=Bk bq aO
theorem Tf:SS Hq (YW lm):=so func386 (.c ri (.c nq .z)) (Te bq aO)
def Ab(U:T8)(V:T46)(W:T1)(cf:SB):T0:=λb w k=>drew w λe=>nn b λQ=>aR e (Q.add 0) λp3=>nn p3 λR=>aR e (R.add 9) λp5=>nn b λS=>aR e (S.add 0) λp7=>nn p7 λT=>aR e (T.add 7) λp9=>nn b λp=>aN .i64 e (p.add 1) λs=>U b e λp12 d=>ai 1 (p.add 1) e d (ai 1 (T.add 7) e d (ai 1 (S.add 0) e d (ai 1 (R.add 9) e d (ai 1 (Q.add 0) e d (nn p12 λt=>aN .i64 d (t.add 1) λu=>V p5 p9 s u d λh q=>nn b λv=>aR q (v.add 0) λp19=>W p19 (h.1,h.2).2 q λx g=>ap x (k () g) (nn b λy=>cC g (y.add 5) λi=>nn b λz=>cC g (z.add 6) λA=>cZ A (aG .i64 (((i.n:Nat):Int) - 1)) 1 λB=>sX g B λr=>drew g λj=>nn b λC=>cC j (C.add 5) λD=>Sw D 1 0 (aG .i64 (((i.n:Nat):Int) - 1)) λl=>nn b λF=>cC j (F.add 6) λG=>Sw G 1 0 (aG .i64 (((i.n:Nat):Int) - 1)) λm=>nn b λH=>bJ j (H.add 5) (.slice l.a l.n l.c) λI=>nn b λJ=>bJ I (J.add 6) (.slice m.a m.n m.c) λL=>nn b λM=>bJ L (M.add 7) r λo=>nn b λN=>aN .i64 o (N.add 30) λO=>ap ((O !=0)||(h.1,h.2).1) (cf b r o λ_u P=>k () P) (k () o)))))))
theorem Rh a b c d:E [.p] [] [(bV,F9 a),(Hq,YW b),(bf,qu c),(sR,EE d)] 2417851639229533227319357 [] f375=λx=>Ab a b c d x:=be
def gY:=Ab af lm ae cf
abbrev Ac:bn:=bY gY
theorem Ri:SS nk (bY gY):=so func375 (.c cg (.c Tf (.c bj (.c xV .z)))) (Rh af lm ae cf)
def wI(aj:GV):Ux:=λtW b c w k=>aL w tW 116 λf e=>aN .i64 e (f.add 0) λg=>aj b c (aG .i64 (g+0)) e λa h=>k ((a.1,a.2).1,(a.1,a.2).2) h
theorem Nr a:E [.ag,.p,.i .i64] [.i .i64,.i .i64] [(dI,yO a)] 974 [] f367=λx=>wI a x.1 x.2.1 x.2.2:=be
def ju:=wI aj
theorem Ns:SS Dk (IF ju):=so func367 (.c dX .z) (Nr aj)
def yu(ju:Ux)(ae:T1)(bG:SB)(af:T8)(dF:VZ):T0:=λn w k=>aL w #[.pointer n] 141 λb X=>drew X λf=>aR f b λp4=>nn p4 λY=>aR f (Y.add 20) λp6=>nn p6 λZ=>bD 1 f (Z.add 3) λo=>aR f b λp9=>nn p9 λp=>aR f (p.add 0) λp11=>nn p11 λq=>aR f (q.add 7) λp13=>aR f b λp14=>nn p14 λr=>aN .i64 f (r.add 1) λt=>ju o p13 t f λa h=>aR h b λp19=>nn p19 λu=>aR h (u.add 0) λv=>ae v (a.1,a.2).2 h λx g=>ap x (k () g) (aR g b λy=>nn y λz=>aR g (z.add 20) λA=>aL g #[.pointer none] 114 λi B=>bJ B i (.pointer A) λc=>ap ((a.1,a.2).1==0) (aR c b λC=>nn C λD=>sX c (D.add 24) λF=>aL c #[.nilFunc] 1 λj G=>bJ G j F λl=>aR l b λH=>bG H (.func (.func o6) #[] #[.pointer (some b),.pointer (some i),.pointer (some j)]) l λ_u I=>k () I) (ap ((a.1,a.2).1==1) (drew c λd=>aR d b λJ=>aR d b λL=>aR d b λM=>af L d λN e=>ai 1 b d e (ai 1 b d e (nn N λO=>cC e (O.add 24) λP=>cZ P 0 2 λQ=>aN .i64 e (Q.add 1) λR=>dF J R (.func (.func j9) #[.pointer M] #[]) e λ_u S=>k () S))) (aR c b λT=>nn T λU=>bJ c (U.add 21) (Iv (a.1,a.2).1) λm=>aR m b λV=>bG V (.func (.func o7) #[] #[.pointer (some b)]) m λ_u W=>k () W)))
theorem Pj a b c d e:E [.p] [] [(Dk,IF a),(bf,qu b),(qR,EE c),(bV,F9 d),(xE,Lb e)] 36099449230983230 [] f354=λx=>yu a b c d e x:=be
def fT:=yu ju ae bG af dF
abbrev yw:bn:=bY fT
theorem Pk:SS mO (bY fT):=so func354 (.c Ns (.c bj (.c tL (.c cg (.c ES .z))))) (Pj ju ae bG af dF)
def wJ(aj:GV):Ux:=λtW b c w k=>aL w tW 116 λf e=>aN .i64 e (f.add 0) λg=>aj b c (aG .i64 (g+1)) e λa h=>k ((a.1,a.2).1,(a.1,a.2).2) h
theorem Nt a:E [.ag,.p,.i .i64] [.i .i64,.i .i64] [(dI,yO a)] 206 [] f385=λx=>wJ a x.1 x.2.1 x.2.2:=be
def jv:=wJ aj
theorem Nu:SS Dm (IF jv):=so func385 (.c dX .z) (Nt aj)
def yx(eK:T57)(az:Zs)(cX:T49):aqu:=λtW H Sd f w k=>aL w tW 119 λd w2=>aL w2 H 75 λg w4=>aL w4 Dn 119 λe I=>cE (S:=Bool) (λJ=>ap ((decide (Sd<2))||(decide (Sd>4))) (J true I) (bD 5 I g λL=>eK L 9 I λb9 h=>ap (!b9) (bD 5 h g λj=>eK j 10 h λM N=>J (!M) N) (J false h))) λO a=>ap O (bD 19 a d λl=>dZ 19 a e l λm=>bD 19 m e λn=>k (n,(0,false)) m) (cE (S:=Int) (λo=>aN .i64 a (g.add 0) λP=>ap (P==10) (cE (S:=Int) (λp=>ap (Sd==4) (p 0 a) (p f a)) λQ R=>drew R λc=>aN .i64 c (g.add 1) λT=>aN .i64 c (g.add 2) λU=>GG (d.add 2) 8 T 1 λV=>bJ c V (Iv Q) λq=>ai 1 (g.add 2) c q (GG (d.add 2) 8 U 1 λW=>bJ q W (Iv (aG .i64 (Sd - 2))) λr=>bD 19 r d λs=>az s r λt X=>dZ 19 X e t λu=>bD 19 u e λv=>k (v,(0,false)) u)) (ap (Sd==2) (aN .i64 a (g.add 1) λY=>GG (d.add 2) 8 Y 1 λZ=>bJ a Z (Iv f) λx=>bD 19 x d λy=>az y x λz a0=>dZ 19 a0 e z λA=>bD 19 A e λB=>k (B,(0,false)) A) (ap (Sd==4) (o (-1) a) (o f a)))) λa2 i=>bD 19 i d λC=>aN .i64 i (d.add 1) λa4=>cX C a4 i λD a6=>dZ 19 a6 e D λF=>bD 19 F e λG=>k (G,(a2,true)) F)
theorem Pm a c d:E [.ag,.ag,.i .i64,.i .i64] [.ag,.i .i64,.b] [(Di,ag8 a),(iQ,Od c),(tG,abf d)] 588746065724 [(1,[(26,.b)]),(5,[(3,(.i .i64))]),(16,[(3,(.i .i64))])] f192=λx=>yx a c d x.1 x.2.1 x.2.2.1 x.2.2.2:=be
def ik:=yx eK az cX
theorem Pn:SS Ez (aqv ik):=so func192 (.c HV (.c kO (.c DQ .z))) (Pm eK az cX)
def wK(aE:Xx)(af:T8)(aK:MD)(jv:Ux)(ae:T1)(ik:aqu)(aH:T0)(cv:T41):T0:=λa w k=>aE a w λb1 w2=>ap b1 (k () w2) (af a w2 λp3 w4=>aK a w4 λD w6=>aL w6 Jd 75 λC w8=>dZ 5 w8 C D λF=>nn a λG=>aN .i64 F (G.add 21) λH=>cE (S:=Int) (λp=>ap (H !=4) (drew F λe=>nn a λI=>aR e (I.add 20) λp15=>nn p15 λJ=>bD 1 e (J.add 3) λq=>nn a λL=>aR e (L.add 0) λp19=>nn p19 λM=>aR e (M.add 7) λN=>nn a λO=>aN .i64 e (O.add 1) λP=>jv q N P e λf r=>nn a λQ=>aR r (Q.add 0) λR=>ae R (f.1,f.2).2 r λT s=>ap T (k () s) (p (f.1,f.2).1 s)) (p 0 F)) λt U=>cE (S:=(Addr×(Int×Bool))) (λu=>drew U λb=>nn p3 λl=>bD 19 b (l.add 4) λi=>bD 5 b C λj=>nn a λm=>aN .i64 b (m.add 21) λv=>both (ik i j v t b λc V=>aL V Dn 119 λx g=>ai 1 (m.add 21) b g (ai 5 C b g (ai 19 (l.add 4) b g (dZ 19 g x (c.1,(c.2.1,c.2.2)).1 λW=>(u (x,((c.1,(c.2.1,c.2.2)).2.1,(c.1,(c.2.1,c.2.2)).2.2)) W))))) (aL b Dn 119 λy h=>ai 1 (m.add 21) b h (ai 5 C b h (ai 19 (l.add 4) b h (ik i j v t h λd X=>dZ 19 X y (d.1,(d.2.1,d.2.2)).1 λY=>(u (y,((d.1,(d.2.1,d.2.2)).2.1,(d.1,(d.2.1,d.2.2)).2.2)) Y)))))) λn z=>bD 19 z n.1 λA=>nn p3 λZ=>dZ 19 z (Z.add 4) A λa0=>aH a a0 λ_u B=>ap n.2.2 (cv a 3 n.2.1 B λ_u a1=>k () a1) (k () B))
theorem Nv c d e f g h j l:E [.p] [] [(jM,Oc c),(bV,F9 d),(kL,ED e),(Dm,IF f),(bf,qu g),(Ez,aqv h),(lD,bY j),(tH,abb l)] 2361183522909800369149 [(5,[(4,(.i .i64))]),(10,[(7,.a),(8,(.i .i64)),(9,.b)])] f371=λx=>wK c d e f g h j l x:=be
def fj:=wK aE af aK jv ae ik aH cv
abbrev wL:bn:=bY fj
theorem Nw:SS lQ (bY fj):=so func371 (.c kN (.c cg (.c mU (.c Nu (.c bj (.c Pn (.c nr (.c zH .z)))))))) (Nv aE af aK jv ae ik aH cv)
def wM(cj:Ux)(ae:T1)(eG:Zr)(bl:T39)(cm:T0)(cN:T22):T0:=λi w k=>aL w #[.pointer i] 141 λc G=>drew G λe=>aR e c λp4=>nn p4 λH=>bD 2 e (H.add 2) λj=>aR e c λp7=>nn p7 λI=>aR e (I.add 0) λp9=>nn p9 λl=>aR e (l.add 7) λp11=>aR e c λp12=>nn p12 λm=>aN .i64 e (m.add 1) λo=>cj j p11 o e λd f=>aR f c λp17=>nn p17 λp=>aR f (p.add 0) λp19=>ae p19 (d.1,d.2).2 f λq a=>ap q (k () a) (aR a c λr=>nn r λs=>aN .i64 a (s.add 26) λt=>ap (decide ((d.1,d.2).1≤t)) (aR a c λu=>nn u λv=>sX a (v.add 27) λx=>m5 (kw [(qp,(IF cj)),(bf,(qu ae)),(vG,(JJ eG)),(mK,(aa9 bl)),(j9,(bY cm)),(j8,(EF cN))]) x #[] a λy z=>HM [] y fun(J:Unit)=>k () z) (drew a λb=>aR b c λA=>aR b c λB=>nn B λC=>bD 2 b (C.add 2) λg=>eG g b λD h=>ai 1 c b h (bl A D (.func (.func oI) #[] #[.pointer (some c)]) h λ_u F=>k () F)))
theorem Ny a b c d e f:E [.p] [] [(qp,IF a),(bf,qu b),(vG,JJ c),(mK,aa9 d),(j9,bY e),(j8,EF f)] 17448304654 [] f361=λx=>wM a b c d e f x:=be
def fm:=wM cj ae eG bl cm cN
abbrev wN:bn:=bY fm
theorem Nz:SS lP (bY fm):=so func361 (.c xZ (.c bj (.c IP (.c sS (.c zC (.c DN .z)))))) (Ny cj ae eG bl cm cN)
def vc(s:T6)(t:T1):T0:=λa w k=>nn a λn=>bJ w (n.add 14) (.bool false) λo=>drew o λb=>nn a λm=>aR b (m.add 0) λp5=>nn a λp=>aR b (p.add 4) λp7=>nn a λq=>aR b (q.add 0) λp9=>nn p9 λe=>aR b (e.add 7) λp11=>nn a λf=>aN .i64 b (f.add 1) λg=>s p7 p11 g b λh c=>ai 1 (m.add 0) b c (t p5 h c λi d=>ap i (k () d) (nn a λj=>bJ d (j.add 7) (.func (.func kW) #[.pointer a] #[]) λl=>k () l))
theorem LG a b:E [.p] [] [(uz,ry a),(bf,qu b)] 33554433 [] f348=λx=>vc a b x:=be
def eH:=vc cI ae
abbrev ve:bn:=bY eH
theorem LH:SS kV (bY eH):=so func348 (.c Be (.c bj .z)) (LG cI ae)
def Cn(o:T6)(aj:GV):T51:=λa b f c w k=>o a b c w λh d=>ap (h !=0) (k (0,h) d) (nn a λi=>cC d (i.add 0) λj=>cZ j c 3 λl=>aN .i64 d (l.add 2) λm=>aj b f (aG .i64 (m+1)) d λe n=>k ((e.1,e.2).1,(e.1,e.2).2) n)
theorem UR a b:E [.p,.p,.i .i64,.i .i64] [.i .i64,.i .i64] [(pH,ry a),(dI,yO b)] 67343 [] f378=λx=>Cn a b x.1 x.2.1 x.2.2.1 x.2.2.2:=be
def mr:=Cn bq aj
theorem US:SS ID (adO mr):=so func378 (.c ri (.c dX .z)) (UR bq aj)
def vf(A:T8)(au:MD)(mr:T51)(ae:T1)(bG:SB)(cm:T0):T0:=λa w k=>drew w λb=>nn a λj=>aR b (j.add 0) λp3=>nn p3 λl=>aR b (l.add 9) λp5=>nn a λm=>aR b (m.add 0) λp7=>nn p7 λn=>aR b (n.add 7) λp9=>nn a λg=>aN .i64 b (g.add 1) λp=>A a b λp12 c=>ai 1 (g.add 1) b c (ai 1 (n.add 7) b c (ai 1 (m.add 0) b c (ai 1 (l.add 9) b c (ai 1 (j.add 0) b c (au p12 c λh d=>ai 1 (g.add 1) b d (ai 1 (n.add 7) b d (ai 1 (m.add 0) b d (ai 1 (l.add 9) b d (ai 1 (j.add 0) b d (PJ h 0 λq=>xy .i64 q λr=>mr p5 p9 p r d λe i=>nn a λs=>aR i (s.add 0) λt=>ae t (e.1,e.2).2 i λu f=>ap u (k () f) (ap ((e.1,e.2).1==0) (nn a λv=>sX f (v.add 31) λx=>bG a x f λ_u y=>k () y) (cm a f λ_u z=>k () z))))))))))))
theorem LI a b c d e f:E [.p] [] [(bV,F9 a),(gE,ED b),(ID,adO c),(bf,qu d),(qR,EE e),(j9,bY f)] 171798691853 [] f362=λx=>vf a b c d e f x:=be
def eI:=vf af au mr ae bG cm
abbrev vg:bn:=bY eI
theorem LJ:SS kW (bY eI):=so func362 (.c cg (.c iI (.c US (.c bj (.c tL (.c zC .z)))))) (LI af au mr ae bG cm)
def yy(l:T36):T47:=λtW b a abk w k=>aL w tW 116 λg d=>ap (eL b) (k 2 d) (ap ((decide (a<0))||(decide (a>16))) (k 10 d) (drew d λe=>aN .i64 e (g.add 0) λh=>G9 .i64 abk a λi=>l b a (aG .i64 (h+2)) i e λf j=>k (f.1,f.2).2 j))
theorem Po a:E [.ag,.p,.i .i64,.i .i64] [.i .i64] [(j6,YV a)] 19742 [] f389=λx=>yy a x.1 x.2.1 x.2.2.1 x.2.2.2:=be
def dG:=yy aO
theorem EU:SS xF (YX dG):=so func389 (.c nq .z) (Po aO)
def yz(h:T47):Zt:=λtW a b w k=>aL w tW 116 λe d=>bD 1 d e λc=>h c a b 1 d λf g=>k f g
theorem Pp a:E [.ag,.p,.i .i64] [.i .i64] [(xF,YX a)] 78 [] f394=λx=>yz a x.1 x.2.1 x.2.2:=be
def jS:=yz dG
theorem Pq:SS EC (Of jS):=so func394 (.c EU .z) (Pp dG)
def uj(jS:Zt)(ae:T1):T0:=λa w k=>drew w λb=>nn a λr=>aR b (r.add 0) λp3=>nn a λs=>aR b (s.add 20) λp5=>nn p5 λt=>bD 1 b (t.add 3) λe=>nn a λu=>aR b (u.add 0) λp9=>nn p9 λf=>aR b (f.add 7) λp11=>nn a λg=>aN .i64 b (g.add 1) λh=>jS e p11 h b λi d=>ai 1 (r.add 0) b d (ae p3 i d λj c=>ap (!j) (nn a λl=>sX c (l.add 24) λm=>nn a λn=>bJ c (n.add 22) (.bool true) λo=>nn a λp=>bJ o (p.add 7) m λq=>k () q) (k () c))
theorem KH a b:E [.p] [] [(EC,Of a),(bf,qu b)] 67108865 [] f390=λx=>uj a b x:=be
def ec:=uj jS ae
abbrev uk:bn:=bY ec
theorem KI:SS kA (bY ec):=so func390 (.c Pq (.c bj .z)) (KH jS ae)
def yC(u:T40)(v:T1):T0:=λa w k=>drew w λd=>nn a λo=>aR d (o.add 12) λp3=>nn a λp=>aR d (p.add 0) λp5=>nn p5 λq=>aR d (q.add 7) λp7=>nn a λr=>aN .i64 d (r.add 1) λt=>u p3 p7 t d λb e=>nn a λf=>aR e (f.add 0) λp13=>v p13 (b.1,b.2).2 e λg c=>ap ((!g)&&(b.1,b.2).1) (nn a λh=>sX c (h.add 24) λi=>nn a λj=>bJ c (j.add 23) (.bool true) λl=>nn a λm=>bJ l (m.add 7) i λn=>k () n) (k () c)
theorem Pr a b:E [.p] [] [(uQ,aba a),(bf,qu b)] 4294967309 [] f392=λx=>yC a b x:=be
def fU:=yC dy ae
abbrev yD:bn:=bY fU
theorem Ps:SS mR (bY fU):=so func392 (.c Fu (.c bj .z)) (Pr dy ae)
def ul(d:T75):T29:=λa b w k=>aR w a λp1=>aR w b λp2=>d p1 p2 w λ_u c=>k () c
theorem KJ b:E [.a,.a] [] [(vL,aqa b)] 0 [] f351=λx=>ul b x.1 x.2:=be
def cu:=ul cV
abbrev oO:bn:=JL cu
theorem BF:SS eJ (JL cu):=so func351 (.c DW .z) (KJ cV)
def wO(cA:SB):T29:=λa b w k=>aR w a λp1=>sX w b λc=>cA p1 c w λ_u d=>k () d
theorem NA b:E [.a,.a] [] [(tI,EE b)] 0 [] f345=λx=>wO b x.1 x.2:=be
def cG:=wO cA
abbrev pM:bn:=JL cG
theorem DZ:SS fG (JL cG):=so func345 (.c zF .z) (NA cA)
def Ae(c:T0)(i:T29)(j:T29):T0:=λa w k=>nn a λd=>aR w (d.add 4) λp2=>c p2 w λ_u b=>nn a λe=>sX b (e.add 24) λf=>m5 (kw [(uA,(bY c)),(eJ,(JL i)),(fG,(JL j))]) f #[] b λg h=>HM [] g fun(l:Unit)=>k () h
theorem Rj a b c:E [.p] [] [(uA,bY a),(eJ,JL b),(fG,JL c)] 1 [] f393=λx=>Ae a b c x:=be
def gZ:=Ae dY cu cG
abbrev Af:bn:=bY gZ
theorem Rk:SS nl (bY gZ):=so func393 (.c HG (.c BF (.c DZ .z))) (Rj dY cu cG)
def iy:Zr:=λa w k=>aL w a 102 λf e=>bD 3 e f λb=>lz #[Iv 0,Iv 0,Iv 0,Iv 0,Iv 0,Iv 0,Iv 0,.nilFunc] 0 3 b λc=>aL e (eM c 6 (Iv (-1))) 346 λd g=>bJ g (d.add 7) (.func (.func uS) #[.pointer (some d)] #[]) λh=>k (some d) h
theorem NB:SS vM (JJ iy):=sl 14 [] func380
def wP(h:T47):Zt:=λtW a b w k=>aL w tW 116 λe d=>bD 1 d e λc=>h c a b (-1) d λf g=>k f g
theorem NC a:E [.ag,.p,.i .i64] [.i .i64] [(xF,YX a)] 78 [] f381=λx=>wP a x.1 x.2.1 x.2.2:=be
def iz:=wP dG
theorem ND:SS vN (Of iz):=so func381 (.c EU .z) (NC dG)
def vh(bg:VZ):T52:=λb c d w k=>drew w λa=>aR a b λp2=>aR a c λp3=>nn p3 λe=>aN .i64 a (e.add 0) λg=>sX a d λh=>bg p2 g h a λ_u i=>k () i
theorem LK b:E [.a,.a,.a] [] [(oY,Lb b)] 0 [] f368=λx=>vh b x.1 x.2.1 x.2.2:=be
def fy:=vh bg
abbrev CE:bn:=YZ fy
theorem LL:SS o6 (YZ fy):=so func368 (.c qT .z) (LK bg)
def fA:T22:=λa w k=>aR w a λp1=>aR w a λp2=>nn p1 λb=>bJ w (b.add 7) (.func (.func lQ) #[.pointer p2] #[]) λc=>k () c
abbrev CF:bn:=EF fA
theorem LN:SS o7 (EF fA):=sl 0 [] func370
def vj(bg:VZ):T52:=λa b c w k=>aR w a λp1=>aN .i64 w b λe=>sX w c λf=>bg p1 e f w λ_u g=>k () g
theorem LO b:E [.a,.a,.a] [] [(oY,Lb b)] 0 [] f387=λx=>vj b x.1 x.2.1 x.2.2:=be
def fB:=vj bg
abbrev CG:bn:=YZ fB
theorem LP:SS o9 (YZ fB):=so func387 (.c qT .z) (LO bg)
def fC:T22:=λa w k=>aR w a λp1=>aR w a λp2=>nn p1 λb=>bJ w (b.add 7) (.func (.func lN) #[.pointer p2] #[]) λc=>k () c
abbrev CH:bn:=EF fC
theorem LQ:SS o5 (EF fC):=sl 0 [] func334
def um(d:T0)(e:T0):T22:=λa w k=>aR w a λp1=>d p1 w λ_u b=>aR b a λp3=>e p3 b λ_u c=>k () c
theorem KK b c:E [.a] [] [(zi,bY b),(vK,bY c)] 1 [] f328=λx=>um b c x:=be
def eS:=um dW dk
abbrev BG:bn:=EF eS
theorem KL:SS oF (EF eS):=so func328 (.c Gn (.c DO .z)) (KK dW dk)
def yE(iy:Zr)(dy:T40)(ae:T1)(iz:Zt)(bw:T0)(fy:T52)(fA:T22)(fB:T52)(fC:T22)(eS:T22):T0:=λa w k=>nn a λa1=>Jc w (a1.add 23) λb2=>ap b2 (nn a λa3=>aR w (a3.add 12) λp4=>cE (S:=Unit) (λJ5=>ap (eL p4) (nn a λa6=>aR w (a6.add 0) λp7=>nn p7 λa8=>bD 3 w (a8.add 14) λl=>iy l w λp10 m=>nn a λn=>bJ m (n.add 12) (.pointer p10) λo=>J5 () o) (J5 () w)) λb4 p=>drew p λc=>nn a λq=>aR c (q.add 12) λp18=>nn a λr=>aR c (r.add 0) λs=>nn s λt=>aR c (t.add 7) λu=>nn a λv=>aN .i64 c (v.add 1) λy=>dy p18 u y c λd e=>nn a λz=>aR e (z.add 0) λA=>ae A (d.1,d.2).2 e λB f=>ap ((!B)&&(d.1,d.2).1) (nn a λC=>bJ f (C.add 23) (.bool false) λD=>nn a λF=>bJ D (F.add 12) (.pointer none) λG=>k () G) (k () f)) (nn a λH=>Jc w (H.add 22) λI=>ap I (drew w λb=>nn a λg=>aR b (g.add 0) λJ=>nn a λL=>aR b (L.add 20) λM=>nn M λN=>bD 1 b (N.add 3) λh=>nn a λO=>aR b (O.add 0) λP=>nn P λQ=>aR b (Q.add 7) λR=>nn a λT=>aN .i64 b (T.add 1) λU=>iz h R U b λV i=>ai 1 (g.add 0) b i (ae J V i λW j=>ap (!W) (nn a λX=>bJ j (X.add 22) (.bool false) λY=>k () Y) (k () j))) (nn a λZ=>sX w (Z.add 25) λa0=>m5 (kw [(vM,(JJ iy)),(uQ,(aba dy)),(bf,(qu ae)),(vN,(Of iz)),(j1,(bY bw)),(o6,(YZ fy)),(o7,(EF fA)),(o9,(YZ fB)),(o5,(EF fC)),(oF,(EF eS))]) a0 #[] w λa2 a4=>HM [] a2 fun(b5:Unit)=>k () a4))
theorem Pt a b c d e f g h i j:E [.p] [] [(vM,JJ a),(uQ,aba b),(bf,qu c),(vN,Of d),(j1,bY e),(o6,YZ f),(o7,EF g),(o9,YZ h),(o5,EF i),(oF,EF j)] 19807040665747802921957065229 [(4,[])] f366=λx=>yE a b c d e f g h i j x:=be
def fV:=yE iy dy ae iz bw fy fA fB fC eS
abbrev yF:bn:=bY fV
theorem Pu:SS mP (bY fV):=so func366 (.c NB (.c Fu (.c bj (.c ND (.c tq (.c LL (.c LN (.c LP (.c LQ (.c KL .z)))))))))) (Pt iy dy ae iz bw fy fA fB fC eS)
def uB(C:T53)(D:T64)(O:T0)(P:T0)(Q:T0)(R:T0)(T:T0)(U:T0)(V:T0)(W:T0)(X:T0)(Y:T0)(Z:T0)(gT:T0)(fO:T0)(ff:T0)(gU:T0)(gV:T0)(fP:T0)(fQ:T0)(fg:T0)(fh:T0)(gW:T0)(fS:T0)(iL:T0)(iM:T0)(gX:T0)(gY:T0)(fT:T0)(fj:T0)(fm:T0)(eH:T0)(eI:T0)(ec:T0)(fU:T0)(gZ:T0)(fV:T0)(cu:T29)(cG:T29):T1:=λa d w k=>cE (S:=Bool) (λB=>ap (decide (d<0)) (B true w) (nn a λF=>cC w (F.add 19) λG=>(B (decide (d≥((G.n:Nat):Int))) w))) λH h=>ap H (k false h) (nn a λI=>cC h (I.add 19) λJ=>cZ J d 1 λL=>aR h L λp9=>cE (S:=Bool) (λf=>drew h λb=>nn a λi=>bD 3 b (i.add 14) λg=>nn a λj=>aR b (j.add 7) λp15=>nn p9 λl=>aN .i64 b (l.add 1) λm=>C g p15 m b λo c=>ap (!o) (f true c) (nn p9 λp=>aR c (p.add 4) λq=>nn a λr=>aR c (r.add 7) λs=>D q s c λt u=>f t u)) λv e=>ap v (k false e) (nn p9 λx=>sX e (x.add 7) λy=>m5 (kw [(vE,(adP C)),(tF,(alI D)),(kT,(bY O)),(kU,(bY P)),(ni,(bY Q)),(lK,(bY R)),(my,(bY T)),(ng,(bY U)),(lM,(bY V)),(lJ,(bY W)),(mL,(bY X)),(gu,(bY Y)),(fZ,(bY Z)),(lA,(bY gT)),(mM,(bY fO)),(lO,(bY ff)),(jm,(bY gU)),(lB,(bY gV)),(mN,(bY fP)),(kM,(bY fQ)),(lN,(bY fg)),(j7,(bY fh)),(lC,(bY gW)),(iR,(bY fS)),(nX,(bY iL)),(nY,(bY iM)),(nj,(bY gX)),(nk,(bY gY)),(mO,(bY fT)),(lQ,(bY fj)),(lP,(bY fm)),(kV,(bY eH)),(kW,(bY eI)),(kA,(bY ec)),(mR,(bY fU)),(nl,(bY gZ)),(mP,(bY fV)),(eJ,(JL cu)),(fG,(JL cG))]) y #[] e λz A=>HM [] z fun(N:Unit)=>k true A))
theorem Tg a c d e f g h j l m n o q r s t u v y z A B C D F G H I J L M N O P Q R S T U:E [.p,.i .i64] [.b] [(vE,adP a),(tF,alI c),(kT,bY d),(kU,bY e),(ni,bY f),(lK,bY g),(my,bY h),(ng,bY j),(lM,bY l),(lJ,bY m),(mL,bY n),(gu,bY o),(fZ,bY q),(lA,bY r),(mM,bY s),(lO,bY t),(jm,bY u),(lB,bY v),(mN,bY y),(kM,bY z),(lN,bY A),(j7,bY B),(lC,bY C),(iR,bY D),(nX,bY F),(nY,bY G),(nj,bY H),(nk,bY I),(mO,bY J),(lQ,bY L),(lP,bY M),(kV,bY N),(kW,bY O),(kA,bY P),(mR,bY Q),(nl,bY R),(mP,bY S),(eJ,JL T),(fG,JL U)] 281474976776243 [(1,[(16,.b)]),(5,[(48,.b)])] f57=λx=>uB a c d e f g h j l m n o q r s t u v y z A B C D F G H I J L M N O P Q R S T U x.1 x.2:=be
def jH:=uB jB gO eE eF gP e9 iJ gQ fa fe fN gR gS gT fO ff gU gV fP fQ fg fh gW fS iL iM gX gY fT fj fm eH eI ec fU gZ fV cu cG
theorem Th:SS Hg (qu jH):=so func57 (.c UJ (.c QB (.c Lr (.c Lv (.c QO (.c M7 (.c S3 (.c QS (.c M9 (.c Nf (.c O4 (.c QU (.c QW (.c QY (.c O9 (.c Ni (.c Q2 (.c Q4 (.c Pb (.c Pd (.c No (.c Nq (.c Q8 (.c Ph (.c Tb (.c Td (.c Rf (.c Ri (.c Pk (.c Nw (.c Nz (.c LH (.c LJ (.c KI (.c Ps (.c Rk (.c Pu (.c BF (.c DZ .z))))))))))))))))))))))))))))))))))))))) (Tg jB gO eE eF gP e9 iJ gQ fa fe fN gR gS gT fO ff gU gV fP fQ fg fh gW fS iL iM gX gY fT fj fm eH eI ec fU gZ fV cu cG)
def yG(bT:T24)(cJ:T17)(bB:T13)(dz:T20):aqG:=fun h_0 w k=>pF (kw [(fF,(Qf bT)),(fI,(IE cJ)),(dx,(Dp bB)),(iC,(Hr dz))]) Tryz.prog h_0 "Len" #[] w fun v1 w2=>xy .i64 v1 fun i3=>pF (kw [(fF,(Qf bT)),(fI,(IE cJ)),(dx,(Dp bB)),(iC,(Hr dz))]) Tryz.prog h_0 "Swap" #[Iv 0,(Iv (IntKind.wrap .i64 (i3 - 1)))] w2 fun v4 w5=>HM [] v4 fun(u6:Unit)=>bT h_0 0 (IntKind.wrap .i64 (i3 - 1)) w5 fun b7 w8=>pF (kw [(fF,(Qf bT)),(fI,(IE cJ)),(dx,(Dp bB)),(iC,(Hr dz))]) Tryz.prog h_0 "Pop" #[] w8 fun v9 w10=>k v9 w10
theorem Pv a b c d:E [.raw] [.raw] [(fF,Qf a),(fI,IE b),(dx,Dp c),(iC,Hr d)] 13 [] f151=λx=>yG a b c d x:=be
def jT:=yG bT cJ bB dz
theorem Px:SS Ew (aqH jT):=so func151 (.c DX (.c Fv (.c yP (.c LF .z)))) (Pv bT cJ bB dz)
def wQ(jT:aqG):aqC:=λb h w k=>ap (eL b) (k ((Sl.mk none 0 0),2) w) (cE (S:=Bool) (λN=>ap (decide (h<0)) (N true w) (nn b λO=>aN .i64 w (O.add 0) λP=>(N (decide (h>(aG .i64 (1099511627776 - P)))) w))) λQ m=>ap Q (k ((Sl.mk none 0 0),10) m) (nn b λR=>aN .i64 m (R.add 0) λT=>nn b λU=>bJ m (U.add 0) (Iv (aG .i64 (T+h))) λV=>kH (S:=Sl) (λo f p=>cE (S:=Bool) (λi=>drew p λe=>nn b λq=>cC e (q.add 1) λr=>ap (decide (((r.n:Nat):Int)>0)) (nn b λs=>cC e (s.add 1) λt=>cZ t 0 2 λu=>aN .i64 e (u.add 0) λv=>nn b λx=>aN .i64 e (x.add 0) λy=>i (decide (v≤y)) e) (i false e)) λz g=>ap z (nn b λA=>cC g (A.add 1) λB=>cZ B 0 2 λC=>aN .i64 g (C.add 1) λj=>nn b λD=>jT (.iface 261 (.pointer (some (D.add 1)))) g λW l=>nn b λF=>ldM l (F.add 2) λG=>agx Tryz.prog #[207,3] 0 [(.map G),Iv j] l λX H=>aL H #[Iv j] 3 λI J=>qd Tryz.prog #[69,69] 69 [.slice f.a f.n f.c,(.slice (some I) 1 1)] J λL M=>o L M) (k (f,0) g)) (Sl.mk none 0 0) V))
theorem NE a:E [.p,.i .i64] [.s,.i .i64] [(Ew,aqH a)] 1125899906845171 [(5,[(11,.b)]),(11,[(6,.s)]),(12,[(50,.b)])] f97=λx=>wQ a x.1 x.2:=be
def jw:=wQ jT
theorem NF:SS Dd (aqD jw):=so func97 (.c Px .z) (NE jT)
def Co(I:T46)(y:T1)(eA:Zt):T44:=λa b w k=>nn a λz=>cC w (z.add 19) λx=>cE (S:=Unit) (λA=>kH (S:=Int) (λB g h=>ap (decide (g<((b.n:Nat):Int))) (cZ b g 1 λC=>aN .i64 h C λD=>drew h λj=>nn a λl=>aR j (l.add 9) λp11=>nn a λm=>aR j (m.add 7) λp13=>I p11 p13 ((x.n:Nat):Int) D j λd o=>y a (d.1,d.2).2 o λF p=>B (aG .i64 (g+1)) p) (A () h)) 0 w) λG e=>ap (decide (((b.n:Nat):Int)>0)) (drew e λc=>nn a λq=>bD 1 c (q.add 12) λf=>nn a λr=>aR c (r.add 7) λs=>eA f s ((x.n:Nat):Int) c λt u=>y a t u λH v=>k () v) (k () e)
theorem UT a b c:E [.p,.s] [] [(Df,YW a),(bf,qu b),(AU,Of c)] 1099511873875 [(2,[]),(3,[(16,(.i .i64))])] f98=λx=>Co a b c x.1 x.2:=be
def fo:=Co gD ae eA
theorem IQ:SS B7 (apY fo):=so func98 (.c JP (.c bj (.c HF .z))) (UT gD ae eA)
def Bl(jw:aqC)(fo:T44):T1:=λa b w k=>nn a λe=>aR w (e.add 17) λp2=>jw p2 b w λc d=>ap ((c.1,c.2).2 !=0) (k false d) (fo a c.1 d λ_u f=>k true f)
theorem Ti a c:E [.p,.i .i64] [.b] [(Dd,aqD a),(B7,apY c)] 131187 [] f58=λx=>Bl a c x.1 x.2:=be
def lp:=Bl jw fo
theorem Tj:SS Hh (qu lp):=so func58 (.c NF (.c IQ .z)) (Ti jw fo)
def nG:aqA:=λb d w k=>ap (eL b) (k 2 w) (nn b λg=>cC w (g.add 0) λh=>ap (decide (((d.n:Nat):Int)>(aG .i64 (1024 - ((h.n:Nat):Int))))) (k 20 w) (nn b λj=>cC w (j.add 0) λe=>qd Tryz.prog #[156,156] 156 [.slice e.a e.n e.c,.slice d.a d.n d.c] w λf l=>nn b λm=>bJ l (m.add 0) (.slice f.a f.n f.c) λo=>k 0 o))
theorem WG:SS JB (aqB nG):=sl 307 [] func59
def iT:T20:=λa w k=>aL w #[.pointer a] 94 λb c=>k (.func (.func mV) #[] #[.pointer (some b)]) c
abbrev Oh:bn:=Hr iT
theorem Oi:SS xa (Hr iT):=sl 6 [] func62
def dh:T78:=λb w k=>aL w #[.slice b.a b.n b.c] 69 λd e=>k (.func (.func jd) #[] #[.pointer (some d)]) e
abbrev Gp:bn:=alN dh
theorem Gq:SS oa (alN dh):=sl 6 [] func102
def qj(Y:Nat→bn)(rR:Value)(e:Addr)(w:World)(k:Unit→aq):Prop:= cC w e λs1=>kH (S:=Int) (λg b c=>ap (decide (b≥0)) (cC c e λh=>cZ h b 1 λi=>aN .i64 c i λj=>m5 (Jq [] Y) rR #[Iv b,Iv j] c λl f=>HL l λd=>ap (!d) (k () f) (g (aG .i64 (b - 1)) f)) (k () c)) (aG .i64 (((s1.n:Nat):Int) - 1)) w
theorem El(Y:Nat→bn)(x:KT [.raw,.a])(w:World)(k:KT []→aq):N3 Tryz.prog (Jq [] Y) 262411 [(2,[(3,(.i .i64))])] f155 [] (dB [.raw,.a] x) w k=qj Y x.1 x.2 w k:=be
def ob(Y:Nat→bn)(rR:Value)(a:Addr)(w:World)(k:Unit→aq):Prop:=qj Y rR a w k
def je(Y:Nat→bn):bn:=λargs w c=>qJ [.raw,.a] args λx=>ob Y x.1 x.2 w λr w=>c (eV (dB [] r)) w
theorem Em:VQ Tryz.prog jd je:=λY hY=>
 Mo (mask:=262411) (h:=[(2,[(3,(.i .i64))])]) mixed func155 (VG (l:=[]) trivial hY)
 [.raw,.a] [] be (λx w k=>ob Y x.1 x.2 w k) (λx w k=>El Y x w k)
def D0(Y:Nat→bn)(I:Cy)(dw:T35)(dh:T78)(rR:Value)(q:Addr)(w:World)(k:Unit→aq):Prop:= aR w q λp1=>aL w #[Iv 0] 3 λa2 w3=>dw p1 (Sl.mk (some a2) 1 1) w3 λb4 w5=>ap (!b4) (k () w5) (aL w5 #[Iv 0] 3 λa6 w7=>aL w7 #[.slice none 0 0] 69 λf w9=>bJ w9 f (.slice (some a6) 1 1) λr=>kH (S:=(Unit×List Nat)) (λs h b=>cC b f λt=>ap (decide (((t.n:Nat):Int)>0)) (cC b f λu=>cC b f λv=>cZ u (aG .i64 (((v.n:Nat):Int) - 1)) 1 λx=>aN .i64 b x λj=>cC b f λy=>cC b f λz=>Sw y 1 0 (aG .i64 (((z.n:Nat):Int) - 1)) λl=>bJ b f (.slice l.a l.n l.c) λg=>aR g q λA=>nn A λB=>cC g (B.add 0) λC=>cZ C j 3 λD=>aN .i64 g (D.add 0) λF=>m5 (Jq [(tv,(TP dw)),(oa,(alN dh))] Y) rR #[Iv j,Iv F] g λG e=>HL G λH=>ap (!H) (Ir h.2 e λJ=>k () J) (aR e q λL=>nn L λM=>cC e (M.add 0) λN=>cZ N j 3 λO=>cC e (O.add 2) λP=>dh P e λQ R=>BQ I [(.i .i64),(.i .i64)] Q R (fun(T:Int×Int) p U=>cC p f λm=>aL p #[Iv T.2] 3 λV W=>qd Tryz.prog #[69,69] 69 [.slice m.a m.n m.c,(.slice (some V) 1 1)] W λo X=>bJ X f (.slice o.a o.n o.c) λZ=>U Z) λD42 a0=>s ((),(D42::h.2)) a0)) (Ir h.2 b λa1=>k () a1)) ((),[]) r)
theorem WH(Y:Nat→bn)(I:Cy)(dw:T35)(dh:T78)(x:KT [.raw,.a])(w:World)(k:KT []→aq):Ut Tryz.prog (Jq [(tv,(TP dw)),(oa,(alN dh))] Y) I 351981159859227 [(4,[]),(14,[(47,(.i .i64)),(48,(.i .i64))])] f100 [] (dB [.raw,.a] x) w k=D0 Y I dw dh x.1 x.2 w k:=be
def BU(Y:Nat→bn)(rR:Value)(a:Addr)(w:World)(k:Unit→aq):Prop:=D0 Y (Cz [(jd,je)]) dw dh rR a w k
def mW(Y:Nat→bn):bn:=λargs w c=>qJ [.raw,.a] args λx=>BU Y x.1 x.2 w λr w=>c (eV (dB [] r)) w
theorem JQ:VQ Tryz.prog mV mW:=λY hY=>
 It (mask:=351981159859227) (h:=[(4,[]),(14,[(47,(.i .i64)),(48,(.i .i64))])]) mixed func100 (VG (l:=[(tv,Zz),(oa,Gp)]) ⟨GX,Gq,trivial⟩ hY) (K3 (l:=[(jd,je)]) ⟨Em,trivial⟩)
 [.raw,.a] [] be (λx w k=>BU Y x.1 x.2 w k) (λx w k=>WH Y (Cz [(jd,je)]) dw dh x w k)
def D1(I:Cy)(iT:T20)(e:Option Addr)(w:World)(k:(Sl)→aq):Prop:= aL w #[.slice none 0 0] 69 λf s=>iT e s λt u=>BQ I [(.i .i64),(.i .i64)] t u (fun(v:Int×Int) q x=>cC q f λb=>aL q #[Iv v.1] 3 λh j=>qd Tryz.prog #[69,69] 69 [.slice b.a b.n b.c,(.slice (some h) 1 1)] j λd l=>bJ l f (.slice d.a d.n d.c) λm=>x m) λD8 r=>cC r f λo=>Ir [D8] r λp=>k o p
theorem WI(I:Cy)(iT:T20)(x:KT [.p])(w:World)(k:KT [.s]→aq):Ut Tryz.prog (kw [(xa,(Hr iT))]) I 205 [(4,[(7,(.i .i64)),(8,(.i .i64))])] f99 [.s] (dB [.p] x) w k=D1 I iT x w k:=be
def fD:T5:=λa w k=>D1 (Cz [(mV,mW)]) iT a w k
abbrev WJ:bn:=dc5 fD
theorem JR:uG Tryz.prog De WJ:=
 It (mask:=205) (h:=[(4,[(7,(.i .i64)),(8,(.i .i64))])]) mixed func99 (Mm (l:=[(xa,Oh)]) ⟨Oi,trivial⟩) (K3 (l:=[(mV,mW)]) ⟨JQ,trivial⟩)
 [.p] [.s] be (λx w k=>fD x w k) (λx w k=>WI (Cz [(mV,mW)]) iT x w k)
def yH(y:T5):T5:=λf w k=>aL w #[Iv 0] 3 λt r=>nn f λu=>aR r (u.add 8) λp4=>y p4 r λs v=>kH (S:=(Sl×Int)) (λx b e=>ap (decide (b.2<((s.n:Nat):Int))) (cZ s b.2 1 λg=>aN .i64 e g λi=>nn f λj=>cC e (j.add 11) λl=>cZ l i 1 λm=>aR e m λp15=>nn p15 λo=>cC e (o.add 25) λd=>qd Tryz.prog #[69,69] 69 [.slice b.1.a b.1.n b.1.c,.slice d.a d.n d.c] e λp q=>x (p,(aG .i64 (b.2+1))) q) (k b.1 e)) ((Sl.mk (some t) 1 1),0) v
theorem Py a:E [.p] [.s] [(De,dc5 a)] 30765 [(4,[(3,.s),(13,(.i .i64))])] f75=λx=>yH a x:=be
def jU:=yH fD
theorem Pz:SS Et (dc5 jU):=so func75 (.c JR .z) (Py fD)
def Bm(v:T5)(x:T44):T1:=λb a w k=>v b w λs1 p=>cE (S:=Bool) (λo=>drew p λd=>ap ((decide (a<0))||(decide (a≥((s1.n:Nat):Int)))) (o true d) (nn b λq=>cC d (q.add 10) λr=>cZ s1 a 1 λs=>aN .i64 d s λt=>cZ r t 4 λu=>Jc d (u.add 3) λf=>o f d)) λg c=>ap g (k false c) (cZ s1 a 1 λh=>aN .i64 c h λi=>aL c #[Iv i] 3 λj l=>x b (Sl.mk (some j) 1 1) l λ_u m=>k true m)
theorem Tl a c:E [.p,.i .i64] [.b] [(Et,dc5 a),(B7,apY c)] 268435507 [(2,[(28,.b)])] f60=λx=>Bm a c x.1 x.2:=be
def lq:=Bm jU fo
theorem Tm:SS Hi (qu lq):=so func60 (.c Pz (.c IQ .z)) (Tl jU fo)
def D3(D:T1)(F:T1)(nG:aqA)(lq:T1):T16:=λa i w k=>aL w i 34 λe j=>cE (S:=Bool) (λy=>ap (eL a) (y true j) (nn a λz=>aN .i64 j (z.add 21) λA=>y (A !=0) j)) λB c=>ap B (k false c) (aN .i64 c (e.add 0) λh=>ap (h==0) (aN .i64 c (e.add 1) λC=>D a C c λl m=>k l m) (ap (h==1) (aN .i64 c (e.add 1) λn=>F a n c λo p=>k o p) (ap (h==2) (drew c λd=>nn a λf=>aR d (f.add 18) λp17=>aN .i64 d (e.add 1) λq=>aL d #[Iv q] 2 λr g=>ai 1 (f.add 18) d g (nG p17 (Sl.mk (some r) 1 1) g λs t=>k (s==0) t)) (ap (h==3) (aN .i64 c (e.add 1) λu=>lq a u c λv x=>k v x) (k false c)))))
theorem WK a c d e:E [.p,.ag] [.b] [(Hg,qu a),(Hh,qu c),(JB,aqB d),(Hi,qu e)] 550028550169 [(1,[(13,.b)])] f22=λx=>D3 a c d e x.1 x.2:=be
def nH:=D3 jH lp nG lq
theorem WL:SS JA (axW nH):=so func22 (.c Th (.c Tj (.c WG (.c Tm .z)))) (WK jH lp nG lq)
def wR(dJ:Xx)(eD:T3)(nH:T16):T48:=λb pL arb w k=>kH (S:=(Int×Int)) (λm f j=>cE (S:=Bool) (λg=>ap (decide (f.2<arb)) (dJ b j λn l=>ap (!n) (eD b l λo p=>g (o==0) p) (g false l)) (g false j)) λq c=>ap q (kH (S:=(Int×Int)) (λh a d=>ap (decide (a.2<pL)) (nH b #[Iv 0,Iv a.2] d λr i=>h ((aG .i64 (a.1+1)),(aG .i64 (a.2+1))) i) (m (a.1,(aG .i64 (f.2+1))) d)) (f.1,0) c) (k f.1 c)) (0,0) w
theorem NG a c d:E [.p,.i .i64,.i .i64] [.i .i64] [(zc,Oc a),(B6,E9 c),(JA,axW d)] 138412999 [(4,[(7,(.i .i64)),(8,(.i .i64))]),(5,[(22,.b)]),(10,[(7,(.i .i64)),(9,(.i .i64))])] f28=λx=>wR a c d x.1 x.2.1 x.2.2:=be
def iA:=wR dJ eD nH
theorem NH:SS Db (alG iA):=so func28 (.c Gg (.c IM (.c WL .z))) (NG dJ eD nH)
def Bn(s:T5):T5:=λc w k=>nn c λo=>cC w (o.add 11) λi=>Bt Tryz.prog 69 (Iv ((i.n:Nat):Int)) (Iv ((i.n:Nat):Int)) w λj l=>nn c λp=>aR l (p.add 8) λp6=>s p6 l λm q=>kH (S:=Int) (λr a b=>ap (decide (a<((m.n:Nat):Int))) (cZ m a 1 λd=>aN .i64 b d λf=>cZ j f 1 λg=>bJ b g (Iv a) λh=>r (aG .i64 (a+1)) h) (k j b)) 0 q
theorem Tn a:E [.p] [.s] [(De,dc5 a)] 983101 [(4,[(18,(.i .i64))])] f61=λx=>Bn a x:=be
def ko:=Bn fD
abbrev To:bn:=dc5 ko
theorem Tq:SS AQ (dc5 ko):=so func61 (.c JR .z) (Tn fD)
def Ag(I:Cy)(ko:T5)(iT:T20)(dm:T81)(W:Option Addr)(w:World)(k:(Sl)→aq):Prop:= aL w #[.pointer W] 30 λs V=>aR V s λp3=>ap (eL p3) (k (Sl.mk none 0 0) V) (aR V s λp4=>ko p4 V λX w6=>aL w6 #[.slice none 0 0] 69 λD w8=>bJ w8 D (.slice X.a X.n X.c) λw9=>cC w9 D λF=>Bt Tryz.prog 35 (Iv ((F.n:Nat):Int)) (Iv ((F.n:Nat):Int)) w9 λt Y=>aL Y #[.slice none 0 0] 35 λo Z=>bJ Z o (.slice t.a t.n t.c) λu=>aR u s λp16=>nn p16 λa0=>aR u (a0.add 8) λp18=>iT p18 u λa2 a3=>BQ I [(.i .i64),(.i .i64)] a2 a3 (fun(h:Int×Int) p G=>aR p s λa4=>nn a4 λa5=>cC p (a5.add 11) λa6=>cZ a6 h.1 1 λa8=>aR p a8 λj=>drew p λq=>nn j λa9=>bD 1 q (a9.add 3) λH=>aR q s λb0=>nn b0 λb1=>aR q (b1.add 7) λb2=>dm H b2 q λd b3=>cE (S:=Addr) (λJ=>drew b3 λb=>aR b s λb4=>nn b4 λv=>cC b (v.add 10) λb5=>nn j λx=>aN .i64 b (x.add 1) λb6=>cZ b5 b6 4 λy=>aN .i64 b (y.add 1) λL=>nn j λz=>aN .i64 b (aY (z.add 4) 0) λM=>nn j λA=>aN .i64 b (aY (A.add 4) 18) λN=>nn j λB=>PI b (B.add 23) λO=>both (aL b #[Iv 0,Iv 0,Iv 0,Iv 0,Iv 0,Iv 0,(.string (ByteArray.mk #[]))] 49 λP f=>ai 1 (B.add 23) b f (ai 1 (aY (A.add 4) 18) b f (ai 1 (aY (z.add 4) 0) b f (ai 1 (y.add 1) b f (ai 1 (x.add 1) b f (ai 1 (v.add 10) b f (ai 1 s b f (dZ 7 f P #[(Iv (-1)),Iv L,Iv M,(Iv (d.1,(d.2.1,d.2.2)).1),(Iv (d.1,(d.2.1,d.2.2)).2.1),Iv N,(.string O)] λb7=>J P b7)))))))) (aL b #[Iv 0,Iv 0,Iv 0,Iv 0,Iv 0,Iv 0,(.string (ByteArray.mk #[]))] 49 λQ g=>ai 1 (B.add 23) b g (ai 1 (aY (A.add 4) 18) b g (ai 1 (aY (z.add 4) 0) b g (ai 1 (y.add 1) b g (ai 1 (x.add 1) b g (ai 1 (v.add 10) b g (ai 1 s b g (dZ 7 g Q #[(Iv (-1)),Iv L,Iv M,(Iv (d.1,(d.2.1,d.2.2)).1),(Iv (d.1,(d.2.1,d.2.2)).2.1),Iv N,(.string O)] λb8=>J Q b8))))))))) λC r=>ap (decide (h.2≥0)) (cC r D λb9=>cZ b9 h.2 1 λc0=>aN .i64 r c0 λe=>bJ r (C.add 0) (Iv e) λc1=>drew c1 λl=>cC l o λc2=>cC l D λc3=>cZ c3 h.1 1 λc4=>aN .i64 l c4 λc5=>bD 7 l C λR=>cZ c2 c5 7 λc6=>dZ 7 l c6 R λc7=>G c7) (drew r λm=>cC m o λc8=>cC m D λc9=>cZ c9 h.1 1 λd0=>aN .i64 m d0 λd1=>bD 7 m C λT=>cZ c8 d1 7 λd2=>dZ 7 m d2 T λd3=>G d3)) λD24 U=>cC U o λd4=>Ir [D24] U λd5=>k d4 d5)
theorem Rm(I:Cy)(ko:T5)(iT:T20)(dm:T81)(x:KT [.p])(w:World)(k:KT [.s]→aq):Ut Tryz.prog (kw [(AQ,(dc5 ko)),(xa,(Hr iT)),(sO,(alO dm))]) I 37778931862957220441086 [(8,[(24,(.i .i64)),(25,(.i .i64))]),(14,[(11,.a)])] f23 [.s] (dB [.p] x) w k=Ag I ko iT dm x w k:=be
def iY:T5:=λa w k=>Ag (Cz [(mV,mW)]) ko iT dm a w k
abbrev Rn:bn:=dc5 iY
theorem Rq:uG Tryz.prog FW Rn:=
 It (mask:=37778931862957220441086) (h:=[(8,[(24,(.i .i64)),(25,(.i .i64))]),(14,[(11,.a)])]) mixed func23 (Mm (l:=[(AQ,To),(xa,Oh),(sO,OI)]) ⟨Tq,Oi,EM,trivial⟩) (K3 (l:=[(mV,mW)]) ⟨JQ,trivial⟩)
 [.p] [.s] be (λx w k=>iY x w k) (λx w k=>Rm (Cz [(mV,mW)]) ko iT dm x w k)
def kE:T23:=λa b w k=>ap (((a.n:Nat):Int) !=((b.n:Nat):Int)) (k false w) (kH (S:=Int) (λh c g=>ap (decide (c<((a.n:Nat):Int))) (drew g λd=>cZ a c 7 λi=>bD 7 d i λe=>cZ b c 7 λj=>bD 7 d j λf=>Zl ([(0,0)] ++([(1,0)] ++([(2,0)] ++([(3,0)] ++([(4,0)] ++([(5,0)] ++([(6,2)] ++[]))))))) e f λl=>ap (!l) (k false d) (h (aG .i64 (c+1)) d)) (k true g)) 0 w)
theorem Rs:SS FY (axX kE):=sl 33571891 [(6,[(5,(.i .i64))])] func33
def yI(R:T54)(T:T37)(Z:T38)(iA:T48)(dJ:Xx)(eD:T3)(iY:T5)(kE:T23)(w:World)(k:(Bool)→aq):Prop:= lz Jd 0 5 #[Iv 16,Iv 0,Iv 0,Iv 0,Iv 0] λx=>aL w x 75 λU V=>aL V #[Iv 0,.slice none 0 0] 78 λf W=>dZ 2 W f #[Iv 0,(.slice (some U) 1 1)] λX=>cE (S:=((Option Addr)×Int)) (λy=>drew X λe=>bD 2 e f λg=>both (lz #[Iv 0,.slice none 0 0] 0 2 g λh=>aL e h 78 λi j=>both (R 1 0 j λl m=>ai 2 f e m (T #[(.slice (some i) 1 1)] l m λb z=>y ((b.1,b.2).1,(b.1,b.2).2) z)) (R 1 0 j λn o=>ai 2 f e o (T #[(.slice (some i) 1 1)] n o λc A=>y ((c.1,c.2).1,(c.1,c.2).2) A))) (R 1 0 e λp q=>ai 2 f e q (lz #[Iv 0,.slice none 0 0] 0 2 g λr=>aL q r 78 λB C=>T #[(.slice (some B) 1 1)] p C λd D=>y ((d.1,d.2).1,(d.1,d.2).2) D))) λa s=>ap ((a.2 !=0)||(eL a.1)) (k false s) (Z 1 1 1 s λF G=>iA a.1 1 F G λY H=>dJ a.1 H λI t=>ap I (eD a.1 t λJ u=>ap (J==0) (iY a.1 u λL M=>lz #[Iv 0,Iv 0,Iv 0,Iv 0,Iv 0,Iv 0,(.string (ByteArray.mk #[]))] 0 7 #[(Iv (-1)),Iv 0,Iv 0,Iv 2,Iv 0,Iv 1,(.string (ByteArray.mk #[]))] λv=>aL M v 49 λN O=>kE L (Sl.mk (some N) 1 1) O λP Q=>k P Q) (k false u)) (k false t))
theorem PA a c d e f g h j:E [] [.b] [(Es,axY a),(Mz,apX c),(Iz,ag4 d),(Db,alG e),(zc,Oc f),(B6,E9 g),(FW,dc5 h),(FY,axX j)] 1048591 [(2,[(2,.p),(3,(.i .i64))])] f20=λx=>yI a c d e f g h j:=be
def er:=yI g9 j2 jN iA dJ eD iY kE
theorem PB:SS Ep (aq7 er):=so func20 (.c Ot (.c Wm (.c Qx (.c NH (.c Gg (.c IM (.c Rq (.c Rs .z)))))))) (PA g9 j2 jN iA dJ eD iY kE)
def jV:T38:=λIL pL Fh w k=>ap ((((((decide (IL<0))||(decide (IL>1048576)))||(decide (pL<1)))||(decide (pL>16)))||(decide (Fh<1)))||(decide (Fh>1048576))) (k 0 w) ((k (aG .i64 ((aG .i64 ((aG .i64 (1000*Fh))*(aG .i64 (pL+2))))*(aG .i64 (IL+2)))) w))
theorem PC:SS Er (ag4 jV):=sl 268435527 [] func36
def jx:T2:=λHS w k=>aL w HS 43 λc b=>aN .i64 b (c.add 0) λj=>ap (decide (j≥1)) (aN .i64 b (c.add 0) λl=>ap (decide (l≤16)) (aN .i64 b (c.add 1) λm=>ap (decide (m≥0)) (aN .i64 b (c.add 1) λn=>aN .i64 b (c.add 0) λo=>ap (decide (n≤(aG .i64 (16 - o)))) (aN .i64 b (c.add 2) λp=>ap (decide (p≥1)) (aN .i64 b (c.add 2) λq=>ap (decide (q≤1048576)) (aN .i64 b (c.add 3) λd=>ap (decide (d≥0)) (aN .i64 b (c.add 3) λe=>ap (decide (e≤1048576)) (aN .i64 b (c.add 4) λf=>ap (decide (f≥1)) (aN .i64 b (c.add 4) λg=>ap (decide (g≤1000)) (aN .i64 b (c.add 5) λh=>ap (decide (h≥0)) (aN .i64 b (c.add 5) λi=>k (decide (i≤8)) b) (k false b)) (k false b)) (k false b)) (k false b)) (k false b)) (k false b)) (k false b)) (k false b)) (k false b)) (k false b)) (k false b)
theorem NI:SS Dc (Je jx):=sl 6 [] func38
def kF:T30:=λHS arc w k=>aL w HS 43 λd i=>kH (S:=(Int×Int)) (λj b c=>aN .i64 c (d.add 5) λl=>ap (decide (b.2<(aG .i64 (l+2)))) (cE (S:=Int) (λh=>ap (b.2==0) (h (aG .i64 (b.1+1)) c) (h b.1 c)) λm n=>G9 .i64 1 (aG .u64 b.2) λe=>j ((aG .i64 (m+e)),(aG .i64 (b.2+1))) n) (aN .i64 c (d.add 0) λf=>aN .i64 c (d.add 1) λg=>(k (aG .i64 ((aG .i64 (1024+(aG .i64 (32*arc))))+(aG .i64 ((aG .i64 (f+g))*b.1)))) c))) (64,0) i
theorem Rt:SS FX (YU kF):=sl 34934 [(4,[(5,(.i .i64)),(6,(.i .i64))]),(9,[(5,(.i .i64))])] func32
def Bo(e:T3):T3:=λa w k=>ap (eL a) (k 0 w) (nn a λb=>aR w (b.add 7) λp2=>e p2 w λc d=>k c d)
theorem Tr a:E [.p] [.i .i64] [(xC,E9 a)] 21 [] f30=λx=>Bo a x:=be
def kq:=Bo dD
theorem Tt:SS He (E9 kq):=so func30 (.c EN .z) (Tr dD)
def uo(k8:T2)(er:World→((Bool)→aq)→Prop)(j2:T37)(jN:T38)(jV:T38)(gG:T2)(jx:T2)(kF:T30)(kq:T3)(v:Array Value)(x:Array Value)(y:Array Value)(w:World)(k:(Bool)→aq):Prop:= aL w v 24 λz w2=>aL w2 x 43 λl w4=>aL w4 y 55 λd w6=>cE (S:=Bool) (λJ7=>bD 1 w6 z λA=>k8 A w6 λb9 m=>ap (!b9) (J7 true m) (aN .i64 m (l.add 2) λB=>J7 (decide (B>65536)) m)) λC e=>ap C (er e λD F=>k D F) (bD 1 e z λq=>bD 6 e l λr=>j2 q r e λa G=>drew G λb=>aN .i64 b (d.add 0) λH=>aN .i64 b (d.add 1) λI=>aN .i64 b (d.add 2) λJ=>aN .i64 b (d.add 0) λL=>aN .i64 b (d.add 1) λM=>aN .i64 b (d.add 2) λN=>jN H I J b λO f=>ai 1 (d.add 2) b f (ai 1 (d.add 1) b f (ai 1 (d.add 0) b f (jV L M N f λP n=>ap (O !=P) (k false n) (bD 1 n z λs=>gG s n λQ g=>ap (!Q) (ap ((eL (a.1,a.2).1)&&((a.1,a.2).2==24)) (er g λR T=>k R T) (k false g)) (bD 6 g l λt=>jx t g λU o=>ap (!U) (ap ((eL (a.1,a.2).1)&&((a.1,a.2).2==10)) (er o λV W=>k V W) (k false o)) (drew o λh=>aN .i64 h (l.add 2) λX=>bD 6 h l λu=>kF u 0 h λY i=>ai 1 (l.add 2) h i (ap ((decide (X≥Y))||((a.1,a.2).2 !=21)) (drew i λj=>ap (((a.1,a.2).2==0)&&(!(eL (a.1,a.2).1))) (aN .i64 j (l.add 2) λZ=>kq (a.1,a.2).1 j λa0 p=>ai 1 (l.add 2) j p (ap (decide (a0≤Z)) (er p λa2 a4=>k a2 a4) (k false p))) (k false j)) (ap (eL (a.1,a.2).1) (er i λa6 a7=>k a6 a7) (k false i))))))))))
theorem KM a c d e f g h i j:E [.ag,.ag,.ag] [.b] [(Hf,Je a),(Ep,aq7 c),(Mz,apX d),(Iz,ag4 e),(Er,ag4 f),(As,Je g),(Dc,Je h),(FX,YU i),(He,E9 j)] 2361192251107978576376 [(1,[(16,.b)])] f5=λx=>uo a c d e f g h i j x.1 x.2.1 x.2.2:=be
def rU:=uo k8 er j2 jN jV gG jx kF kq
theorem KN:SS Kh (azl rU):=so func5 (.c SC (.c PB (.c Wm (.c Qx (.c PC (.c Ld (.c NI (.c Rt (.c Tt .z))))))))) (KM k8 er j2 jN jV gG jx kF kq)
end Go.Proofs.YthidhjhkmjjckaaGreatDoor
namespace Go.Proofs.YthidhjhkmjjckaaGreatDoor
open Go Go.Ev Go.Proofs
structure bK where
 cells:List Int
 size:Int
 steps:List Int
 deriving DecidableEq
def bI(g:Nat)(M:bK):HP:=FV λp:Sl×Sl=>mG [ax g [.slice p.1.a p.1.n p.1.c,.int .i64 M.size,.slice p.2.a p.2.n p.2.c],bP 1 p.1 (ints M.cells),bP 1 p.2 (ints M.steps)]
theorem wS{w0 w:World}{R:List HP}{g:Nat}{M:bK}(h:St w0 w (bI g M::R)):∃s1 s2:Sl,St w0 w (ax g [.slice s1.a s1.n s1.c,.int .i64 M.size,.slice s2.a s2.n s2.c]::bP 1 s1 (ints M.cells)::bP 1 s2 (ints M.steps)::R):=by
 obtain⟨p,h⟩:=h.some;exact⟨p.1,p.2,h.open⟩
theorem Cq{w0 w:World}{R:List HP}{g:Nat}{M:bK}{s1 s2:Sl}(h:St w0 w (ax g [.slice s1.a s1.n s1.c,.int .i64 M.size,.slice s2.a s2.n s2.c]::bP 1 s1 (ints M.cells)::bP 1 s2 (ints M.steps)::R)):St w0 w (bI g M::R):=
 St.ex (X:=λp:Sl×Sl=>mG [ax g [.slice p.1.a p.1.n p.1.c,.int .i64 M.size,.slice p.2.a p.2.n p.2.c],bP 1 p.1 (ints M.cells),bP 1 p.2 (ints M.steps)]) (s1,s2) (St.shut h)
namespace bK
def caller(M:bK)(w:Int):Bool:=decide (0≤w∧w<M.steps.length)
def given(M:bK)(at_:Int):Bool:=decide (0≤at_∧at_<M.cells.length)
def tick(M:bK)(w:Int):bK:={M with steps:=M.steps.set w.toNat (IntKind.i64.wrap (M.steps.getD w.toNat 0+1))}
def get(M:bK)(at_:Int):Int:=M.cells.getD at_.toNat 0
def put(M:bK)(at_ x:Int):bK:={M with cells:=M.cells.set at_.toNat x}
def can(M:bK)(w at_:Int):Bool:=M.caller w&&M.given at_
end bK
section
variable {w0 w:World} {L:List HP} {g:Nat} {M:bK} {f:HP→List HP}
theorem afC{s:Sl}{xs:List Int}{f':HP→List HP}(h:St w0 w L)[a:At L (bP 1 s) (ints xs) f']:s.n=xs.length:=by
 have:=h.FU (sz:=1) (s:=s) (vs:=ints xs);simp at this;omega
theorem anp{wk:Int}{k:Bool→aq}(h:St w0 w L)[a:At L (bI g) M f](hk:k (M.caller wk) w):gH (some ⟨g,0,none⟩) wk w k:=by
 obtain⟨R,ho,hc⟩:=a.out;obtain⟨s1,s2,hS⟩:=wS (ho h);have l2:=afC (s:=s2) (xs:=M.steps) hS;unfold gH;unfold bK.caller at hk;refine ay (λh=>an (ea hS rfl ?_)) λh=> ?_
 ·simp only[decide_eq_true_eq]at h;rw[show(decide (wk<((s2.n:Nat):Int)))=decide (0≤wk∧wk<M.steps.length) by rw[l2,decide_eq_decide];omega]
  exact hk
 ·simp only[decide_eq_false_iff_not]at h;rwa[decide_eq_false ah]at hk
theorem ahh{at_:Int}{k:Bool→aq}(h:St w0 w L)[a:At L (bI g) M f](hk:k (M.given at_) w):cU (some ⟨g,0,none⟩) at_ w k:=by
 obtain⟨R,ho,hc⟩:=a.out;obtain⟨s1,s2,hS⟩:=wS (ho h);have l1:=afC (s:=s1) (xs:=M.cells) hS;unfold cU;unfold bK.given at hk;refine ay (λh=>an (ea hS rfl ?_)) λh=> ?_
 ·simp only[decide_eq_true_eq]at h;rw[show(decide (at_<((s1.n:Nat):Int)))=decide (0≤at_∧at_<M.cells.length) by rw[l1,decide_eq_decide];omega]
  exact hk
 ·simp only[decide_eq_false_iff_not]at h;rwa[decide_eq_false ah]at hk
theorem Ru{wk n:Int}{right:Value}{b:Bool}{k:Int→aq}(h:St w0 w L)[a:At L (bI g) M f]
  (hr:(right= .func (.func jg) #[.pointer (some ⟨g,0,none⟩)] #[]∧b=M.given n)∨(right= .func (.func Bw) #[] #[]∧b=decide (n≥1)))
  (hk:k (if M.caller wk&&b then 0 else 10) w):aQ (some ⟨g,0,none⟩) wk n right w k:=by
 unfold aQ vO;refine bS (λy w'=>w=w'∧y= !(M.caller wk&&b)) ?_ ?_
 ·intro J hJ;refine anp h (ay (λh1=>hJ _ _ ⟨rfl,?_⟩) λh1=> ?_)
  ·simp only[Bool.not_eq_true']at h1;simp[h1]
  ·simp only[Bool.not_eq_false']at h1;rcases hr with⟨rfl,rfl⟩|⟨rfl,rfl⟩
   ·refine bU (d:=Du) (λ_ _ _=>rfl) ?_;simp only[Du,List.append_toArray,List.cons_append,List.nil_append,List.append_nil,qJ,Zk,toP,xy,if_true,eV,dB,K.v,HL];refine ahh (M:=M) h (hJ _ _ ⟨rfl,?_⟩);simp[h1]
   ·refine bU (d:=TS) (λ_ _ _=>rfl) ?_;simp only[TS,r4,List.append_toArray,List.cons_append,List.nil_append,List.append_nil,qJ,Zk,toP,xy,if_true,eV,dB,K.v,HL];refine hJ _ _ ⟨rfl,?_⟩;simp[h1]
 ·rintro _ _ ⟨rfl,rfl⟩;refine ay (λh1=> ?_) λh1=> ?_
  ·simp only[Bool.not_eq_true']at h1;rw[h1]at hk;exact hk
  ·simp only[Bool.not_eq_false']at h1;rw[h1]at hk;exact hk
theorem afD{wk at_:Int}{k:Int×Int→aq}(h:St w0 w L)[a:At L (bI g) M f](h1:M.can wk at_=true→∀w',St w0 w' (f (bI g (M.tick wk)))→k (M.get at_,0) w')(h2:M.can wk at_=false→k (0,10) w):aj (some ⟨g,0,none⟩) wk at_ w k:=by
 unfold aj xJ;refine bh rfl (Ru h (.inl ⟨rfl,rfl⟩) ?_);by_cases hcan:M.can wk at_=true
 ·have ajJ:=hcan;unfold bK.can at hcan;rw[hcan];refine bh rfl ?_;obtain⟨R,ho,hc⟩:=a.out;obtain⟨s1,s2,hS⟩:=wS (ho h);simp only[iZ,bK.caller,bK.given,decide_eq_true_eq]at hcan;refine an (ea hS rfl (AN (s:=s2) (xs:=M.steps) hS hcan.1.1 hcan.1.2 (y9 (s:=s2) (xs:=M.steps) hS hcan.1.1 hcan.1.2 λw' hS=>an (ea hS rfl (AN (s:=s1) (xs:=M.cells) hS hcan.2.1 hcan.2.2 ?_)))));exact h1 ajJ w' (hc (Cq (M:=M.tick wk) hS))
 ·have hcan:M.can wk at_=false:=by simpa using hcan
  have:=h2 hcan;unfold bK.can at hcan;rw[hcan];exact bO rfl this
theorem ahi{wk at_ x:Int}{k:Int→aq}(h:St w0 w L)[a:At L (bI g) M f](h1:M.can wk at_=true→∀w',St w0 w' (f (bI g ((M.tick wk).put at_ x)))→k 0 w')(h2:M.can wk at_=false→k 10 w):aM (some ⟨g,0,none⟩) wk at_ x w k:=by
 unfold aM vR;refine bh rfl (Ru h (.inl ⟨rfl,rfl⟩) ?_);by_cases hcan:M.can wk at_=true
 ·have ajJ:=hcan;unfold bK.can at hcan;rw[hcan];refine bh rfl ?_;obtain⟨R,ho,hc⟩:=a.out;obtain⟨s1,s2,hS⟩:=wS (ho h);simp only[iZ,bK.caller,bK.given,decide_eq_true_eq]at hcan;refine an (ea hS rfl (AN (s:=s2) (xs:=M.steps) hS hcan.1.1 hcan.1.2 (y9 (s:=s2) (xs:=M.steps) hS hcan.1.1 hcan.1.2 λw' hS=>an (ea hS rfl (y9 (s:=s1) (xs:=M.cells) hS hcan.2.1 hcan.2.2 λw' hS=> ?_)))));exact h1 ajJ w' (hc (Cq (M:=(M.tick wk).put at_ x) hS))
 ·have hcan:M.can wk at_=false:=by simpa using hcan
  have:=h2 hcan;unfold bK.can at hcan;rw[hcan];exact bO rfl this
theorem WM{at_:Int}{k:Int→aq}(h:St w0 w L)[a:At L (bI g) M f](hk:k (if M.given at_ then M.get at_ else 0) w):cq (some ⟨g,0,none⟩) at_ w k:=by
 unfold cq xO;refine bS (λy w'=>w=w'∧y= !M.given at_) (λJ hJ=>bh rfl (ahh h (hJ _ _ ⟨rfl,rfl⟩))) ?_;rintro _ _ ⟨rfl,rfl⟩;refine ay (λh1=> ?_) λh1=> ?_
 ·rw[if_neg (by simpa using h1)]at hk;exact hk
 ·have h1:M.given at_=true:=by simpa using h1
  rw[if_pos h1]at hk;obtain⟨R,ho,hc⟩:=a.out;obtain⟨s1,s2,hS⟩:=wS (ho h);simp only[bK.given,decide_eq_true_eq]at h1;exact an (ea hS rfl (AN (s:=s1) (xs:=M.cells) hS h1.1 h1.2 hk))
theorem alV{k:Int→aq}(h:St w0 w L)[a:At L (bI g) M f](hk:k (M.cells.length:Nat) w):dD (some ⟨g,0,none⟩) w k:=by
 unfold dD;obtain⟨R,ho,hc⟩:=a.out;obtain⟨s1,s2,hS⟩:=wS (ho h);have l1:=afC (s:=s1) (xs:=M.cells) hS;refine bh rfl (an (ea hS rfl ?_));rw[l1];exact hk
theorem elI{P:Program}{t:TypeId}(h:R9 P t=some (1,8,some (.int .i64 0))):GM P t 1 8 (.int .i64 0):=⟨h,rfl⟩
theorem XY(n:Nat)(x:Int):dM n (Value.int .i64 x)=ints (dM n x):=by simp[ints]
def bK.new(size WN:Int):bK:=⟨[],size,dM (WN.toNat+1) 0⟩
def afE(size WN:Int):Bool:=decide (1≤size∧size≤1048576∧1≤WN∧WN≤16)
theorem avD{size wks:Int}{k:Option Addr×Int→aq}(h:St w0 w L)(h1:afE size wks=true→∀g w',St w0 w' (bI g (bK.new size wks)::L)→k (some ⟨g,0,none⟩,0) w')(h2:afE size wks=false→k (none,10) w):sB size wks w k:=by
 unfold sB;unfold afE at h1 h2;refine ay (λhb=> ?_) λhb=> ?_
 ·simp only[Bool.or_eq_true,decide_eq_true_eq]at hb;exact h2 (by rw[decide_eq_false_iff_not];omega)
 ·simp only[kx,decide_eq_false_iff_not]at hb;have hw:IntKind.i64.wrap (wks+1)=((wks.toNat+1:Nat):Int):=by rw[cT ⟨ah,ah⟩];omega
  rw[hw];refine Ao h (elI be) rfl ah ah λs w' hS hn=> ?_;rw[XY]at hS;have hS:=hS.Jv 1;refine av hS λg w'' hS=> ?_;refine h1 (by rw[decide_eq_true_eq];omega) g w'' (Cq (M:=bK.new size wks) (s1:=⟨none,0,0⟩) (s2:=s) hS)
def bK.room(M:bK)(n:Int):Bool:=decide (n≤M.size - M.cells.length)
def bK.grow(M:bK)(n:Int):bK:={M with cells:=M.cells++dM n.toNat 0}
structure bK.OK (M:bK):Prop where
 size:1≤M.size∧M.size≤1048576
 fit:(M.cells.length:Int)≤M.size
theorem Gr{wk n:Int}{k:Int×Int→aq}(h:St w0 w L)[a:At L (bI g) M f](hM:M.OK)
  (h1:M.caller wk=true→1≤n→M.room n=true→∀w',St w0 w' (f (bI g ((M.tick wk).grow n)))→k ((M.cells.length:Nat),0) w')
  (h2:M.caller wk=true→1≤n→M.room n=false→k (0,21) w) (h3:¬(M.caller wk=true∧1≤n)→k (0,10) w):aD (some ⟨g,0,none⟩) wk n w k:=by
 unfold aD vQ;have hM1:=hM.size;have hM2:=hM.fit;refine bh rfl (Ru h (.inr ⟨rfl,rfl⟩) ?_);by_cases hcan:M.caller wk=true∧1≤n
 ·rw[hcan.1,show(decide (n≥1))=true by simpa using hcan.2]
  refine bh rfl ?_;obtain⟨R,ho,hc⟩:=a.out;obtain⟨s1,s2,hS⟩:=wS (ho h);have l1:=afC (s:=s1) (xs:=M.cells) hS;have abl:=hcan.1;simp only[bK.caller,decide_eq_true_eq]at abl;have hsub:IntKind.i64.wrap (M.size - ((s1.n:Nat):Int))=M.size - M.cells.length:=by rw[l1,cT ⟨ah,ah⟩]
  refine an (ea hS rfl (an (cn hS rfl ?_)));rw[hsub];refine ay (λhr=> ?_) λhr=> ?_
  ·exact h2 hcan.1 hcan.2 (by unfold bK.room;rw[decide_eq_false_iff_not];simp only[decide_eq_true_eq]at hr;omega)
  ·simp only[decide_eq_false_iff_not]at hr;have hroom:M.room n=true:=by unfold bK.room;rw[decide_eq_true_eq];omega
   refine an (ea hS rfl (AN (s:=s2) (xs:=M.steps) hS abl.1 abl.2 (y9 (s:=s2) (xs:=M.steps) hS abl.1 abl.2 λw' hS=>an (ea hS rfl ?_))));have hcap:=(hS.own (sz:=1) (s:=s1) (vs:=ints M.cells)).cap;refine au5 (s:=s1) (vs:=ints M.cells) hS bc bc bc (by simp;omega) λd hd1 hd2 hS=> ?_
   have e1:(ints M.cells).take (((s1.n:Nat):Int).toNat*1)=ints M.cells:=List.take_of_length_le (by simp[ints];omega)
   simp only[e1]at hS;have hn:n=((n.toNat:Nat):Int):=ah;rw[hn];simp at hd1 hd2;refine apO (s:=d) (vs:=ints M.cells) hS (elI be) be rfl ah ah ah ah λs' w'' hS hs'=> ?_;refine an (jY hS rfl bc λw3 hS=> ?_);have:=h1 hcan.1 hcan.2 hroom w3 (hc (Cq (M:=(M.tick wk).grow n) (s1:=s') (s2:=s2) (by
    have e2:ints M.cells++dM n.toNat (Value.int .i64 0)=ints (M.cells++dM n.toNat 0):=by simp[ints]
    rw[e2]at hS;exact hS)))
   rw[←l1]at this;exact this
 ·have hb:(M.caller wk&&decide (n≥1))=false:=by
   cases abl:M.caller wk with
   |false=>rfl
   |true=>simp only[Bool.true_and,decide_eq_false_iff_not];intro h;exact hcan ⟨abl,h⟩
  rw[hb];exact bO rfl (h3 hcan)
end
open Go Go.Ev Go.Proofs
theorem D4{n:Nat}(h:n≤8):(2:Nat) ^ n≤256:=Nat.le_trans (Nat.pow_le_pow_right ah h) fY
theorem XZ{m:Nat}(h:m<2 ^ 63):(bv (m:Int)).toNat=m:=by
 rw[BitVec.toNat_ofInt];omega
theorem WO{b:BitVec 64}(h:b.toNat<2 ^ 63):b.toInt=b.toNat:=by
 rw[BitVec.toInt_eq_toNat_cond];split<;>omega
theorem adS{x:Int}{n:Nat}(h:n≤62):oC .i64 x (((2 ^ n - 1:Nat)):Int)=x % ((2 ^ n:Nat):Int):=by
 have hp:2 ^ n≤2 ^ 62:=Nat.pow_le_pow_right ah h;have Fw:0<2 ^ n:=Nat.pow_pos ah;rw[P3];have e1:(bv x&&&bv ((2 ^ n - 1:Nat):Int)).toNat=(bv x).toNat % 2 ^ n:=by
  rw[BitVec.toNat_and,XZ ah,Nat.and_two_pow_sub_one_eq_mod]
 have hlt:=Nat.mod_lt (bv x).toNat Fw;rw[WO (by rw[e1];omega),e1]
 rw[BitVec.toNat_ofInt];have hd:((2 ^ n:Nat):Int)∣((2 ^ 64:Nat):Int):=by
  refine⟨((2 ^ (64 - n):Nat):Int),?_⟩;rw[←Int.natCast_mul,←Nat.pow_add];congr 2;omega
 have hnn:0≤x % ((2 ^ 64:Nat):Int):=Int.emod_nonneg _ ah;rw[Int.natCast_emod,Int.toNat_of_nonneg hnn,Int.emod_emod_of_dvd _ hd]
theorem aBK(x:Int):If .i64 x 4=x / 16:=by
 unfold If;have e:min (4:Int).toNat IntKind.i64.bits=4:=fY;rw[e,Int.fdiv_eq_ediv_of_nonneg _ fY];rfl
theorem azn(x:Int):oC .i64 x 15=x % 16:=by
 have:=adS (x:=x) (n:=4) ah;exact this
theorem aBL{x:Int}(h0:0≤x)(h1:x≤1048576):rX .i64 x 4=16*x:=by
 unfold rX;have e:min (4:Int).toNat IntKind.i64.bits=4:=fY;rw[e,cT ⟨ah,ah⟩];omega
theorem aBM{a l:Nat}(ha:a≤1048576)(hl:l<16):Sx .i64 (16*(a:Int)) (l:Int)=16*a+l:=by
 rw[ae1];have e1:(bv (16*(a:Int))|||bv (l:Int)).toNat=16*a+l:=by
  rw[BitVec.toNat_or,XZ ah];have:(bv (16*(a:Int))).toNat=16*a:=by
   have:=XZ (m:=16*a) ah;rw[←this];simp
  rw[this];have h2:=Nat.shiftLeft_add_eq_or_of_lt (i:=4) (b:=l) ah a;rw[Nat.shiftLeft_eq]at h2;rw[Nat.mul_comm 16 a];exact h2.symm
 rw[WO (by rw[e1];omega),e1];simp
theorem WQ{l:Int}(h0:0≤l)(h1:l≤8):rX .i64 1 l=((2 ^ l.toNat:Nat):Int):=by
 unfold rX;have e:min l.toNat IntKind.i64.bits=l.toNat:=by simp[IntKind.bits];omega
 have:=D4 (n:=l.toNat) ah;have e2:((2:Int) ^ l.toNat)=((2 ^ l.toNat:Nat):Int):=by simp
 rw[e,Int.one_mul,e2];generalize (2 ^ l.toNat:Nat)=m at*
 exact cT ⟨ah,ah⟩
structure Rg where
 At:Int
 CS:Int
 deriving DecidableEq
namespace Rg
abbrev ag(r:Rg):Array Value:=#[.int .i64 r.At,.int .i64 r.CS]
def pw(r:Rg):Nat:=2 ^ r.CS.toNat
def right(r:Rg):Bool:=decide (0≤r.CS∧r.CS≤8∧0≤r.At∧r.At≤1048576 - r.pw)
def size(r:Rg):Int:=if r.right then r.pw else 0
def place(r:Rg)(i:Int):Int:=if r.right then r.At+i % r.pw else -1
def word(r:Rg):Int:=if r.right then 16*r.At+r.CS else -1
def of(word:Int):Rg:=⟨word / 16,word % 16⟩
def zero:Rg:=⟨0,0⟩
end Rg
theorem Rg.Fx{r:Rg}(h:r.right=true):0≤r.CS∧r.CS≤8∧0≤r.At∧r.At≤1048576 - r.pw∧1≤r.pw∧r.pw≤256:=by
 unfold Rg.right at h;simp only[decide_eq_true_eq]at h;have h1:r.pw≤256:=D4 ah;have h2:0<r.pw:=Nat.pow_pos ah;omega
section
variable {w0 w:World} {L:List HP} {r:Rg}
theorem LR{k:Bool→aq}(h:St w0 w L)(hk:∀w',St w0 w' L→k r.right w'):bz r.ag w k:=by
 unfold bz;have hk:=λw' h'=>hk w' h';refine av h λg w1 hS=>aF hS λw2 hS=> ?_;have fin:∀b,b=r.right→k b w2:=λb e=>by rw[e];exact hk w2 hS.drop
 unfold Rg.right at fin;refine cn hS rfl (ay (λh1=> ?_) λh1=>fin _ (by rw[decide_eq_false_iff_not]at h1;exact(decide_eq_false ah).symm))
 refine cn hS rfl (ay (λh2=> ?_) λh2=>fin _ (by rw[decide_eq_false_iff_not]at h2;exact(decide_eq_false ah).symm))
 refine cn hS rfl (ay (λh3=> ?_) λh3=>fin _ (by rw[decide_eq_false_iff_not]at h3;exact(decide_eq_false ah).symm))
 simp only[decide_eq_true_eq]at h1 h2 h3;refine cn hS rfl (cn hS rfl (FE h1 (fin _ ?_)));have hp:r.pw≤256:=D4 (n:=r.CS.toNat) ah;have X0:(2 ^ r.CS.toNat:Nat)=r.pw:=rfl;rw[WQ h1 h2,X0,cT ⟨ah,ah⟩,decide_eq_decide];omega
theorem ZX{k:Int→aq}(h:St w0 w L)(hk:∀w',St w0 w' L→k r.size w'):cW r.ag w k:=by
 unfold cW DA;refine av h λg w1 hS=> ?_;refine jZ hS rfl ?_;refine LR (r:=r) hS λw2 hS=> ?_;refine ay (λh1=> ?_) λh1=> ?_
 ·have:=hk w2 hS.drop;unfold Rg.size at this;rwa[if_neg (by simpa using h1)]at this
 ·have h1:r.right=true:=by simpa using h1
  have hr:=Rg.Fx h1;have:=hk w2 hS.drop;unfold Rg.size at this;rw[if_pos h1]at this;refine cn hS rfl (FE hr.1 ?_);rw[WQ hr.1 hr.2.1];exact this
theorem Rv{i:Int}{k:Int→aq}(h:St w0 w L)(hk:∀w',St w0 w' L→k (r.place i) w'):bF r.ag i w k:=by
 unfold bF Cf;refine av h λg w1 hS=> ?_;refine jZ hS rfl ?_;refine LR (r:=r) hS λw2 hS=> ?_;refine ay (λh1=> ?_) λh1=> ?_
 ·have:=hk w2 hS.drop;unfold Rg.place at this;rwa[if_neg (by simpa using h1)]at this
 ·have h1:r.right=true:=by simpa using h1
  have hr:=Rg.Fx h1;refine aF hS λw3 hS=> ?_;refine cn hS rfl ?_;refine jZ hS rfl ?_;refine ZX (r:=r) hS λw4 hS'=> ?_;refine eT hS hS' ?_;have:=hk w4 hS'.drop;unfold Rg.place at this;rw[if_pos h1]at this;have e:r.size=r.pw:=by unfold Rg.size;rw[if_pos h1]
  have X0:(2 ^ r.CS.toNat:Nat)=r.pw:=rfl;have e2:IntKind.i64.wrap (r.size - 1)=((2 ^ r.CS.toNat - 1:Nat):Int):=by
   rw[e,cT ⟨ah,ah⟩,X0];omega
  have Fw:(0:Int)<(r.pw:Nat):=ah;have hm1:=Int.emod_nonneg i (show((r.pw:Nat):Int)≠0 by omega)
  have hm2:=Int.emod_lt_of_pos i Fw;rw[e2,adS ah,X0];rw[cT ⟨ah,ah⟩];exact this
theorem alW{k:Int→aq}(h:St w0 w L)(hk:∀w',St w0 w' L→k r.word w'):fq r.ag w k:=by
 unfold fq Dw;refine av h λg w1 hS=> ?_;refine jZ hS rfl ?_;refine LR (r:=r) hS λw2 hS=> ?_;have:=hk w2 hS.drop;unfold Rg.word at this;refine ay (λh1=> ?_) λh1=> ?_
 ·rwa[if_neg (by simpa using h1)]at this
 ·have h1:r.right=true:=by simpa using h1
  have hr:=Rg.Fx h1;rw[if_pos h1]at this;refine cn hS rfl (cn hS rfl ?_);have e1:r.At=((r.At.toNat:Nat):Int):=ah;have e2:r.CS=((r.CS.toNat:Nat):Int):=ah;rw[aBL hr.2.2.1 ah];rw[e1,e2,aBM ah ah,←e1,←e2];exact this
theorem aBN{x:Int}{k:Array Value×Int→aq}(h:St w0 w L)(hk:∀w',St w0 w' L→k (if (Rg.of x).right then((Rg.of x).ag,0)else(Rg.zero.ag,11)) w'):BA x w k:=by
 unfold BA UC;refine av h λg w1 hS=>av hS λg2 w2 hS=> ?_;rw[aBK,azn];refine m8 hS rfl rfl (by simp[Value.oneCell']) λw3 hS=> ?_
 refine jZ hS rfl ?_;refine LR (r:=Rg.of x) hS λw4 hS=> ?_;refine ay (λh1=> ?_) λh1=> ?_
 ·refine m8 hS rfl rfl (by simp[Value.oneCell']) λw5 hS=> ?_
  refine jZ hS rfl ?_;have:=hk w5 hS.drop.drop;rwa[if_neg (by simpa using h1)]at this
 ·refine jZ hS rfl ?_;refine m8 hS rfl rfl (by simp[Value.oneCell']) λw5 hS=> ?_
  refine jZ hS rfl ?_;have:=hk w5 hS.drop.drop;rwa[if_pos (by simpa using h1)]at this
end
open Go Go.Ev Go.Proofs
section
variable {w0 w:World} {L:List HP} {r:Rg}
theorem avE{g:Nat}{M:bK}{f:HP→List HP}{wk log:Int}{k:Array Value×Int→aq}(h:St w0 w L)[a:At L (bI g) M f](hM:M.OK)
  (h1:0≤log→log≤8→M.caller wk=true→M.room ((2 ^ log.toNat:Nat):Int)=true→∀w',St w0 w' (f (bI g ((M.tick wk).grow ((2 ^ log.toNat:Nat):Int))))→k (Rg.ag ⟨(M.cells.length:Nat),log⟩,0) w')
  (h2:0≤log→log≤8→M.caller wk=true→M.room ((2 ^ log.toNat:Nat):Int)=false→∀w',St w0 w' L→k (Rg.zero.ag,21) w')
  (h3:¬(0≤log∧log≤8∧M.caller wk=true)→∀w',St w0 w' L→k (Rg.zero.ag,10) w'):xp (some ⟨g,0,none⟩) wk log w k:=by
 unfold xp Ql;refine av h λgn w1 hS=>bh rfl (ay (λhb=> ?_) λhb=> ?_)
 ·simp only[Bool.or_eq_true,decide_eq_true_eq]at hb;refine m8 hS rfl rfl (by simp[Value.oneCell']) λw2 hS=> ?_
  refine jZ hS rfl ?_;exact h3 ah _ hS.drop
 ·simp only[kx,decide_eq_false_iff_not]at hb;refine FE ah ?_;rw[WQ ah ah];have Fw:0<2 ^ log.toNat:=Nat.pow_pos ah;refine Gr (g:=g) (M:=M) hS hM (λk1 k2 k3 w2 hS=> ?_) (λk1 k2 k3=> ?_) λk1=> ?_
  ·refine bh rfl ?_;refine m8 hS rfl rfl (by simp[Value.oneCell']) λw2 hS=> ?_
   refine jZ hS rfl ?_;exact h1 ah ah k1 k3 _ hS.drop
  ·refine bO rfl ?_;refine m8 hS rfl rfl (by simp[Value.oneCell']) λw2 hS=> ?_
   refine jZ hS rfl ?_;exact h2 ah ah k1 k3 _ hS.drop
  ·refine bO rfl ?_;refine m8 hS rfl rfl (by simp[Value.oneCell']) λw2 hS=> ?_
   refine jZ hS rfl ?_;refine h3 (λhh=>k1 ⟨hh.2.2,?_⟩) _ hS.drop;generalize (2 ^ log.toNat:Nat)=m at*
   omega
structure Cp where
 a:Rg
 b:Rg
 at_:Int
 jW:Int
 has:Int
 BV:Bool
def PD(g:Nat)(c:Cp):HP:=ax g [.int .i64 c.a.At,.int .i64 c.a.CS,.int .i64 c.b.At,.int .i64 c.b.CS,.int .i64 c.at_,.int .i64 c.jW,.int .i64 c.has,
 .func (.func (if c.BV then sA else q9)) #[.pointer (some ⟨g,0,none⟩)] #[]]
def Cp.begin(a b:Rg)(from_ jW:Int):Cp:=⟨a,b,from_,jW,0,false⟩
def Rw(a b:Rg)(from_ jW:Int):Int:=if a.right=false∨b.right=false then 1 else if jW<from_∨jW - from_>a.size∨jW - from_>b.size then 10 else 0
theorem ajK{x:Int}(h0:0≤x)(h1:x<18446744073709551616):IntKind.u64.wrap x=x:=by
 simp only[aG,IntKind.bits,IntKind.signed];simp;omega
theorem ajL{x y:Int}(hx:uJ x)(hy:uJ y)(h:y≤x):IntKind.u64.wrap (IntKind.u64.wrap x - IntKind.u64.wrap y)=x - y:=by
 have:=hx.1;have:=hx.2;have:=hy.1;have:=hy.2;simp only[aG,IntKind.bits,IntKind.signed];simp;omega
theorem size_le(r:Rg):0≤r.size∧r.size≤256:=by
 unfold Rg.size;split
 ·rename_i h;have:=Rg.Fx h;omega
 ·omega
theorem avF{a b:Rg}{from_ jW:Int}{k:Option Addr×Int→aq}(hf:uJ from_)(hu:uJ jW)(h:St w0 w L)
  (h1:Rw a b from_ jW=0→∀g w',St w0 w' (PD g (Cp.begin a b from_ jW)::L)→k (some ⟨g,0,none⟩,0) w') (h2:Rw a b from_ jW≠0→∀w',St w0 w' L→k (none,Rw a b from_ jW) w'):ny a.ag b.ag from_ jW w k:=by
 unfold ny DC;refine av h λg1 w1 hS=>av hS λg2 w2 hS=> ?_;refine bS (λy w'=>y=(!a.right|| !b.right)∧St w0 w' (ax g2 b.ag.toList::ax g1 a.ag.toList::L)) ?_ ?_
 ·intro J hJ;refine jZ hS rfl ?_;refine LR (r:=a) hS λw3 hS=> ?_;refine ay (λh1=>hJ _ _ ⟨by revert h1;cases a.right<;>simp,hS⟩) λh1=> ?_
  refine jZ hS rfl ?_;refine LR (r:=b) hS λw4 hS=>hJ _ _ ⟨by revert h1;cases a.right<;>simp,hS⟩
 rintro _ w3 ⟨rfl,hS⟩;refine ay (λh3=> ?_) λh3=> ?_
 ·have e:Rw a b from_ jW=1:=by
   unfold Rw;simp only[Bool.or_eq_true,Bool.not_eq_true']at h3;rw[if_pos h3]
  have:=h2 (by rw[e];omega) _ hS.drop.drop
  rwa[e]at this
 simp only[kx,Bool.not_eq_false']at h3;have sa:=size_le a;have sb:=size_le b;have e:Rw a b from_ jW=if jW<from_∨jW - from_>a.size∨jW - from_>b.size then 10 else 0:=by
  unfold Rw;rw[if_neg (by rw[h3.1,h3.2];simp)]
 refine bS (λy w'=>y=decide (jW<from_∨jW - from_>a.size∨jW - from_>b.size)∧St w0 w' (ax g2 b.ag.toList::ax g1 a.ag.toList::L)) ?_ ?_
 ·intro J hJ;refine aF hS λw4 hS=>ay (λh4=>hJ _ _ ⟨?_,hS⟩) λh4=> ?_
  ·rw[decide_eq_true_eq]at h4;rw[decide_eq_true (.inl h4)]
  ·rw[decide_eq_false_iff_not]at h4;refine jZ hS rfl ?_;refine jZ hS rfl ?_;refine ZX (r:=a) hS λw5 hS5=> ?_;refine eT hS hS5 ?_;refine ZX (r:=b) hS5 λw6 hS=>hJ _ _ ⟨?_,hS⟩;rw[ajL hu hf ah];unfold Vn;rw[decide_eq_decide];split
   ·rw[ajK ah ah];omega
   ·rw[ajK ah ah];omega
 rintro _ w4 ⟨rfl,hS⟩;refine ay (λh4=> ?_) λh4=> ?_
 ·rw[decide_eq_true_eq]at h4;rw[if_pos h4]at e;have:=h2 (by rw[e];omega) _ hS.drop.drop
  rwa[e]at this
 rw[decide_eq_false_iff_not]at h4;rw[if_neg h4]at e;refine jZ hS rfl ?_;refine jZ hS rfl ?_;refine apH _ rfl bc rfl ?_;refine apH _ rfl bc rfl ?_;refine av hS λg w5 hS=> ?_;refine jY hS rfl bc λw6 hS=> ?_;exact h1 e g w6 (show St w0 w6 (PD g (Cp.begin a b from_ jW)::L)from hS.swap.drop.swap.drop)
end
section
variable {w0 w:World} {L:List HP}
def Cp.spot(c:Cp):Int:=if c.BV then c.b.place c.at_ else c.a.place c.at_
def Cp.next(c:Cp)(x:Int):Cp:=if c.BV then{c with at_:=IntKind.i64.wrap (c.at_+1),BV:=false}else{c with has:=x,BV:=true}
theorem avG{g gc:Nat}{M:bK}{c:Cp}{wk:Int}{k:Bool×Int→aq}(h:St w0 w (PD gc c::bI g M::L))
  (h0:c.at_=c.jW→∀w',St w0 w' (PD gc c::bI g M::L)→k (true,0) w')
  (h1:c.at_≠c.jW→M.can wk c.spot=false→∀w',St w0 w' (PD gc c::bI g M::L)→k (false,10) w')
  (h2:c.at_≠c.jW→M.can wk c.spot=true→c.BV=false→∀w',St w0 w' (PD gc (c.next (M.get c.spot))::bI g (M.tick wk)::L)→k (false,0) w')
  (h3:c.at_≠c.jW→M.can wk c.spot=true→c.BV=true→∀w',St w0 w' (PD gc (c.next 0)::bI g ((M.tick wk).put c.spot c.has)::L)→k ((c.next 0).at_==c.jW,0) w'):
  nB (some ⟨gc,0,none⟩) (some ⟨g,0,none⟩) wk w k:=by
 unfold nB DF;refine bh rfl (aF h λw1 hS=> ?_);unfold PD at hS;refine an (cn hS rfl ?_);refine an (cn hS rfl (ay (λhe=>h0 (by simpa using he) _ hS) λhne=> ?_))
 have hne:c.at_≠c.jW:=by simpa using hne
 refine an (Iq hS rfl ?_);cases hl:c.BV with
 |false=>
  have hsp:c.spot=c.a.place c.at_:=by unfold Cp.spot;rw[hl];rfl
  rw[hl]at hS;refine bU (d:=JN) (λ_ _ _=>rfl) ?_;simp only[JN,List.append_toArray,List.cons_append,List.nil_append,List.append_nil,qJ,Zk,toP,xy,if_true,eV,dB,K.v,HL];unfold nA DE;refine aF hS λw2 hS=> ?_;refine an (qz hS bc ?_);refine an (cn hS rfl ?_);refine Rv (r:=c.a) hS λw3 hS=> ?_;refine afD (g:=g) (M:=M) hS (λhcan w4 hS=> ?_) λhcan=> ?_
  ·refine bh rfl (an (jY hS rfl bc λw5 hS=>an (jY hS rfl bc λw6 hS=> ?_)));refine bh rfl (aF hS λw7 hS=> ?_);refine an (cn hS rfl ?_);refine an (cn hS rfl ?_);have:=h2 hne (by rw[hsp];exact hcan) hl w7 (by
    rw[hsp];have e:c.next (M.get (c.a.place c.at_))={c with has:=M.get (c.a.place c.at_),BV:=true}:=by unfold Cp.next;rw[hl];rfl
    rw[e];exact hS)
   rwa[show(c.at_==c.jW)=false by simpa using hne]
  ·refine bO rfl (bO rfl (h1 hne (by rw[hsp];exact hcan) _ ?_))
   unfold PD;rw[hl];exact hS
 |true=>
  have hsp:c.spot=c.b.place c.at_:=by unfold Cp.spot;rw[hl];rfl
  rw[hl]at hS;refine bU (d:=IJ) (λ_ _ _=>rfl) ?_;simp only[IJ,List.append_toArray,List.cons_append,List.nil_append,List.append_nil,qJ,Zk,toP,xy,if_true,eV,dB,K.v,HL];unfold mi Cg;refine aF hS λw2 hS=> ?_;refine an (qz hS bc ?_);refine an (cn hS rfl ?_);refine an (cn hS rfl ?_);refine Rv (r:=c.b) hS λw3 hS3=> ?_;refine eT hS hS3 ?_;refine ahi (g:=g) (M:=M) hS3 (λhcan w4 hS=> ?_) λhcan=> ?_
  ·refine bh rfl (an (cn hS rfl ?_));refine an (jY hS rfl bc λw5 hS=>an (jY hS rfl bc λw6 hS=> ?_));refine bh rfl (aF hS λw7 hS=> ?_);refine an (cn hS rfl ?_);refine an (cn hS rfl ?_);have e:c.next 0={c with at_:=IntKind.i64.wrap (c.at_+1),BV:=false}:=by unfold Cp.next;rw[hl];rfl
   have:=h3 hne (by rw[hsp];exact hcan) hl w7 (by
    rw[hsp,e];exact hS)
   rw[e]at this;exact this
  ·refine bO rfl (bO rfl (h1 hne (by rw[hsp];exact hcan) _ ?_))
   unfold PD;rw[hl];exact hS3
end
def bK.ld(M:bK)(wk a:Int):bK×Int×Int:=if M.can wk a then(M.tick wk,M.get a,0)else(M,0,10)
def bK.st(M:bK)(wk a x:Int):bK×Int:=if M.can wk a then((M.tick wk).put a x,0)else(M,10)
def bK.UU(M:bK)(wk a old x:Int):bK×Bool×Int:=if M.can wk a then(if M.get a=old then((M.tick wk).put a x,true,0)else(M.tick wk,false,0))else(M,false,10)
def wr(x:Int):Int:=aG .i64 x
section
variable {w0 w:World} {L R:List HP} {gm go:Nat} {M:bK} {p:Option Addr} {wk:Int} {f:HP→List HP}
theorem ZY{a':Int}{k:Int×Int→aq}(h:St w0 w L)[a:At L (bI gm) M f](hk:∀w',St w0 w' (f (bI gm (M.ld wk a').1))→k ((M.ld wk a').2.1,(M.ld wk a').2.2) w'):aj (some ⟨gm,0,none⟩) wk a' w k:=by
 unfold bK.ld at hk;refine afD (g:=gm) (M:=M) h (λhc w' h=> ?_) λhc=> ?_
 ·rw[if_pos hc]at hk;exact hk w' h
 ·rw[if_neg (by rw[hc];simp)]at hk;exact hk w (h.same a)
theorem Rx{a' x:Int}{k:Int→aq}(h:St w0 w L)[a:At L (bI gm) M f](hk:∀w',St w0 w' (f (bI gm (M.st wk a' x).1))→k (M.st wk a' x).2 w'):aM (some ⟨gm,0,none⟩) wk a' x w k:=by
 unfold bK.st at hk;refine ahi (g:=gm) (M:=M) h (λhc w' h=> ?_) λhc=> ?_
 ·rw[if_pos hc]at hk;exact hk w' h
 ·rw[if_neg (by rw[hc];simp)]at hk;exact hk w (h.same a)
theorem ajM{a' old x:Int}{k:Bool×Int→aq}(h:St w0 w L)[a:At L (bI gm) M f](hk:∀w',St w0 w' (f (bI gm (M.UU wk a' old x).1))→k ((M.UU wk a' old x).2.1,(M.UU wk a' old x).2.2) w'):aU (some ⟨gm,0,none⟩) wk a' old x w k:=by
 unfold aU zq;unfold bK.UU at hk;refine bh rfl (Ru h (.inl ⟨rfl,rfl⟩) ?_);by_cases hcan:M.can wk a'=true
 ·rw[if_pos hcan]at hk;unfold bK.can at hcan;rw[hcan];refine bh rfl ?_;obtain⟨R,ho,hc⟩:=a.out;obtain⟨s1,s2,hS⟩:=wS (ho h);simp only[iZ,bK.caller,bK.given,decide_eq_true_eq]at hcan;refine an (ea hS rfl (AN (s:=s2) (xs:=M.steps) hS hcan.1.1 hcan.1.2 (y9 (s:=s2) (xs:=M.steps) hS hcan.1.1 hcan.1.2 λw' hS=>an (ea hS rfl (AN (s:=s1) (xs:=M.cells) hS hcan.2.1 hcan.2.2 ?_)))));refine ay (λhb=> ?_) λhb=> ?_
  ·have hne:M.get a'≠old:=by simpa[bK.get]using hb
   rw[if_neg hne]at hk;exact hk w' (hc (Cq (M:=M.tick wk) hS))
  ·have he:M.get a'=old:=by simpa[bK.get]using hb
   rw[if_pos he]at hk;refine an (ea hS rfl (y9 (s:=s1) (xs:=M.cells) hS hcan.2.1 hcan.2.2 λw' hS=> ?_));exact hk w' (hc (Cq (M:=(M.tick wk).put a' x) hS))
 ·have hcan:M.can wk a'=false:=by simpa using hcan
  rw[if_neg (by rw[hcan];simp)]at hk
  unfold bK.can at hcan;rw[hcan];exact bO rfl (hk w (h.same a))
theorem Ah{x:Int}(h:M.can 0 x=true∨M.given x=true)(hM:M.OK):aG .i64 x=x:=by
 have h1:=hM.size;have h2:=hM.fit;have:M.given x=true:=by
  rcases h with h|h
  ·unfold bK.can at h;simp at h;exact h.2
  ·exact h
 unfold bK.given at this;simp only[decide_eq_true_eq]at this;exact lY ⟨ah,ah⟩
theorem oW{wk x:Int}(h:M.can wk x=true):M.given x=true:=by unfold bK.can at h;simp at h;exact h.2
theorem D5{wk x:Int}(h:M.can wk x=true):M.ld wk x=(M.tick wk,M.get x,0):=by unfold bK.ld;rw[if_pos h]
theorem Se{wk x v:Int}(h:M.can wk x=true):M.st wk x v=((M.tick wk).put x v,0):=by unfold bK.st;rw[if_pos h]
theorem ahk{wk x o v:Int}(h:M.can wk x=true):M.UU wk x o v=if M.get x=o then((M.tick wk).put x v,true,0)else(M.tick wk,false,0):=by unfold bK.UU;rw[if_pos h]
theorem ldc{a':Int}{k:Int×Int→aq}(h:St w0 w L)[a:At L (bI gm) M f](hc:M.can wk a'=true)(hk:∀w',St w0 w' (f (bI gm (M.tick wk)))→k (M.get a',0) w'):aj (some ⟨gm,0,none⟩) wk a' w k:=by
 refine ZY (M:=M) h λw h=> ?_;rw[D5 hc]at h ⊢;exact hk w h
theorem stc{a' x:Int}{k:Int→aq}(h:St w0 w L)[a:At L (bI gm) M f](hc:M.can wk a'=true)(hk:∀w',St w0 w' (f (bI gm ((M.tick wk).put a' x)))→k 0 w'):aM (some ⟨gm,0,none⟩) wk a' x w k:=by
 refine Rx (M:=M) h λw h=> ?_;rw[Se hc]at h ⊢;exact hk w h
def bK.cs(M:bK)(wk a old x:Int):bK×Bool:=if M.get a=old then((M.tick wk).put a x,true)else(M.tick wk,false)
theorem alX{a' o x:Int}{k:Bool×Int→aq}(h:St w0 w L)[a:At L (bI gm) M f](hc:M.can wk a'=true)(hk:∀w',St w0 w' (f (bI gm (M.cs wk a' o x).1))→k ((M.cs wk a' o x).2,0) w'):aU (some ⟨gm,0,none⟩) wk a' o x w k:=by
 refine ajM (M:=M) h λw h=> ?_;rw[ahk hc]at h ⊢;unfold bK.cs at hk;split at h
 ·rename_i e;rw[if_pos e]at hk ⊢;exact hk w h
 ·rename_i e;rw[if_neg e]at hk ⊢;exact hk w h
def bK.ad(M:bK)(wk x by_:Int):bK:=(M.tick wk).put x (wr (M.get x+by_))
theorem UW{wk x y:Int}{k:Int×Int→aq}(h:St w0 w L)[a:At L (bI gm) M f](hc:M.can wk x=true)(hk:∀w',St w0 w' (f (bI gm (M.ad wk x y)))→k (M.get x,0) w'):aO (some ⟨gm,0,none⟩) wk x y w k:=by
 unfold aO qS;obtain⟨R,ho,hb⟩:=a.out;have h:=ho h;refine av h λg1 w h=>av h λg2 w h=>av h λg3 w h=> ?_;with_reducible repeat' (first|refine lW h ?_|refine vt h ?_|refine fE ?_|fail)
 refine Ru (g:=gm) (M:=M) h (.inl ⟨rfl,rfl⟩) ?_;have hcan:=hc;unfold bK.can at hcan;rw[hcan];refine bh rfl ?_;simp only[iZ,bK.caller,bK.given,decide_eq_true_eq]at hcan;have hS:=h.front 3 rfl;simp only[Iw]at hS;obtain⟨s1,s2,h⟩:=wS hS;with_reducible repeat' (first|refine an ?_|refine j5 h ?_|refine lW h ?_|fail)
 refine AN (s:=s2) (xs:=M.steps) h hcan.1.1 hcan.1.2 (y9 (s:=s2) (xs:=M.steps) h hcan.1.1 hcan.1.2 λw h=> ?_);with_reducible repeat' (first|refine an ?_|refine aF h λw h=> ?_|refine j5 h ?_|refine lW h ?_|refine vt h ?_|fail)
 refine AN (s:=s1) (xs:=M.cells) h hcan.2.1 hcan.2.2 ?_;unfold tK;with_reducible repeat' (first|refine an ?_|refine aF h λw h=> ?_|refine j5 h ?_|refine lW h ?_|refine vt h ?_|fail)
 refine AN (s:=s1) (xs:=M.cells) h hcan.2.1 hcan.2.2 ?_;with_reducible repeat' (first|refine vt h ?_|fail)
 refine y9 (s:=s1) (xs:=M.cells) h hcan.2.1 hcan.2.2 λw h=> ?_;have h:=Cq (M:=M.ad wk x y) h;exact hk w (hb (((h.rm 1 rfl).rm 1 rfl).rm 1 rfl))
end
structure Nd where
 parent:Int
 nest:Int
 at_:Int
 deriving DecidableEq
abbrev Nd.cells(x:Nd):List Value:=[.int .i64 x.parent,.int .i64 x.nest,.int .i64 x.at_]
def scp(g:Nat)(C:List Nd):HP:=FV λs:Sl=>mG [ax g [.slice s.a s.n s.c],rws 3 s (C.map Nd.cells)]
section
variable {w0 w:World} {L R:List HP} {g gm:Nat} {C:List Nd} {M:bK} {f f2 f3:HP→List HP}
theorem X1(h:St w0 w (scp g C::R)):∃s:Sl,St w0 w (ax g [.slice s.a s.n s.c]::rws 3 s (C.map Nd.cells)::R):=by
 obtain⟨s,h⟩:=h.some;exact⟨s,h.open⟩
theorem adT{s:Sl}(h:St w0 w (ax g [.slice s.a s.n s.c]::rws 3 s (C.map Nd.cells)::R)):St w0 w (scp g C::R):=
 St.ex (X:=λs:Sl=>mG [ax g [.slice s.a s.n s.c],rws 3 s (C.map Nd.cells)]) s (St.shut h)
def TW(C:List Nd)(s:Int):Bool:=decide (0≤s∧s<C.length)
theorem ajN{s:Int}{ga:Nat}{k:Bool→aq}{f':HP→List HP}(h:St w0 w L)[a:At L (scp g) C f][a':At L (ax ga) [.int .i64 s] f'](hk:k (TW C s) w):de (some ⟨g,0,none⟩) ⟨some ⟨ga,0,none⟩,1,1⟩ w k:=by
 unfold de;refine⟨2,?_⟩;unfold jP;have hb:=h.ax (g:=ga) (cs:=[.int .i64 s]);refine bO rfl ?_;refine⟨⟨ah,by show(0:Int)<1;decide⟩,uH (n:=s) (by rw[cY,hb.cell];rfl) (P2 ?_)⟩
 obtain⟨R,ho,hc⟩:=a.out;obtain⟨sl,h2⟩:=X1 (ho h);have hl:=(tE (sz:=3) (s:=sl) (es:=C.map Nd.cells) h2).2 ah;simp only[List.length_map]at hl;refine ay (λh1=> ?_) λh1=> ?_
 ·have h1:s<0:=by simpa using h1
  rw[show TW C s=false by simp[TW];omega]at hk
  exact bO rfl hk
 ·have h1:¬s<0:=by simpa using h1
  refine an (aS h2 rfl ?_);refine ay (λh3=> ?_) λh3=> ?_
  ·have h3:s≥((sl.n:Nat):Int):=of_decide_eq_true h3;rwa[show TW C s=false by simp[TW];omega]at hk
  ·have h3:¬s≥((sl.n:Nat):Int):=of_decide_eq_false h3;unfold jP;refine bh rfl ?_;rwa[show TW C s=true by simp[TW];omega]at hk
theorem GZ{s:Int}{k:Int→aq}(h:St w0 w L)[a:At L (scp g) C f](hs:TW C s=true)(hk:∀w',St w0 w' L→k 0 w'):bq (some ⟨g,0,none⟩) (some ⟨gm,0,none⟩) s w k:=by
 unfold bq Dy;refine bh rfl (av h λga w' h=>ajN (g:=g) (C:=C) h ?_);rw[hs];exact bh rfl (hk w' h.drop)
def oc(C:List Nd)(s:Int):Option Nd:=if 0≤s then C[s.toNat]? else none
theorem sj{s:Int}{x:Nd}(h:oc C s=some x):TW C s=true∧0≤s∧C[s.toNat]?=some x:=by
 unfold oc at h;split at h
 ·have:=(kJ.1 h).1;exact⟨by simp[TW];omega,ah,h⟩
 ·cases h
theorem abm{s:Int}{x:Nd}{j:Nat}{v:Int}{c:Addr→Int→Prop}(h:St w0 w L)[a:At L (scp g) C f](hs:oc C s=some x)(hv:x.cells[j]?=some (.int .i64 v))(hc:∀p,c p v):
  cC w (aY ⟨g,0,none⟩ 0) λs4=>cZ s4 s 3 λa5=>aN .i64 w (aY a5 j) (c a5):=by
 obtain⟨R,ho,hb⟩:=a.out;obtain⟨sl,h2⟩:=X1 (ho h);obtain⟨_,h0,h1⟩:=sj hs;exact aS h2 rfl (rI2 (s:=sl) (sz:=3) h2 h0 (e:=x.cells) (by rw[pz,h1];rfl) hv hc)
theorem ahl{wk s:Int}{x:Nd}{k:Int→aq}(h:St w0 w L)[a:At L (scp g) C f][a2:At L (bI gm) M f2](hs:oc C s=some x)(hc:M.can wk (x.at_+1)=true)(hM:M.OK)
  (hk:∀w',St w0 w' (f2 (bI gm (M.ad wk (x.at_+1) 1)))→k 0 w'):eu (some ⟨g,0,none⟩) (some ⟨gm,0,none⟩) wk s w k:=by
 unfold eu A0;refine GZ (C:=C) h (sj hs).1 λw h=> ?_;with_reducible repeat' (first|refine an ?_|refine fE ?_|refine abm (C:=C) h hs rfl λ_=> ?_|fail)
 rw[Ah (.inr (oW hc)) hM];exact UW (M:=M) h hc λw h=>hk w h
theorem are{wk s:Int}{x:Nd}{k:Bool×Int→aq}(h:St w0 w L)[a:At L (scp g) C f][a2:At L (bI gm) M f2](hs:oc C s=some x)(hc:M.can wk (x.at_+1)=true)(hM:M.OK)
  (hk:∀w',St w0 w' (f2 (bI gm (M.ad wk (x.at_+1) (-1))))→k (M.get (x.at_+1)==1,0) w'):lm (some ⟨g,0,none⟩) (some ⟨gm,0,none⟩) wk s w k:=by
 unfold lm Bk;refine GZ (C:=C) h (sj hs).1 λw h=> ?_;with_reducible repeat' (first|refine an ?_|refine fE ?_|refine abm (C:=C) h hs rfl λ_=> ?_|fail)
 rw[Ah (.inr (oW hc)) hM];exact UW (M:=M) h hc λw h=>hk w h
theorem avH{wk s:Int}{x:Nd}{k:Int×Int→aq}(h:St w0 w L)[a:At L (scp g) C f][a2:At L (bI gm) M f2](hs:oc C s=some x)(hc:M.can wk (x.at_+1)=true)(hM:M.OK)
  (hk:∀w',St w0 w' (f2 (bI gm (M.tick wk)))→k (M.get (x.at_+1),0) w'):mr (some ⟨g,0,none⟩) (some ⟨gm,0,none⟩) wk s w k:=by
 unfold mr Cn;refine GZ (C:=C) h (sj hs).1 λw h=> ?_;with_reducible repeat' (first|refine an ?_|refine fE ?_|refine abm (C:=C) h hs rfl λ_=> ?_|fail)
 rw[Ah (.inr (oW hc)) hM];refine ZY (M:=M) h λw h=> ?_;rw[D5 hc]at h ⊢;exact hk w h
theorem arf{wk s:Int}{x:Nd}{k:Bool×Int→aq}(h:St w0 w L)[a:At L (scp g) C f][a2:At L (bI gm) M f2](hs:oc C s=some x)(hc:M.can wk x.at_=true)
  (hk:∀w',St w0 w' (f2 (bI gm (M.cs wk x.at_ 0 1).1))→k ((M.cs wk x.at_ 0 1).2,0) w'):gD (some ⟨g,0,none⟩) (some ⟨gm,0,none⟩) wk s w k:=by
 unfold gD DY;refine GZ (C:=C) h (sj hs).1 λw h=> ?_;with_reducible repeat' (first|refine an ?_|refine fE ?_|refine abm (C:=C) h hs rfl λ_=> ?_|fail)
 exact alX (M:=M) h hc λw h=>hk w h
theorem ahm{wk s:Int}{x:Nd}{k:Bool×Int→aq}(h:St w0 w L)[a:At L (scp g) C f][a2:At L (bI gm) M f2](hs:oc C s=some x)(hc:M.can wk x.at_=true)
  (hk:∀w',St w0 w' (f2 (bI gm (M.tick wk)))→k (M.get x.at_ !=0,0) w'):ez (some ⟨g,0,none⟩) (some ⟨gm,0,none⟩) wk s w k:=by
 unfold ez A8;refine GZ (C:=C) h (sj hs).1 λw h=> ?_;with_reducible repeat' (first|refine an ?_|refine fE ?_|refine abm (C:=C) h hs rfl λ_=> ?_|fail)
 refine ZY (M:=M) h λw h=> ?_;rw[D5 hc]at h ⊢;exact hk w h
theorem anq{s:Int}{x:Nd}{k:Int→aq}(h:St w0 w L)[a:At L (scp g) C f](hs:oc C s=some x)(hk:∀w',St w0 w' L→k x.parent w'):kB (some ⟨g,0,none⟩) s w k:=by
 unfold kB zD;refine av h λga w h=>ajN (g:=g) (C:=C) h ?_;rw[(sj hs).1];with_reducible repeat' (first|refine an ?_|refine fE ?_|refine abm (C:=C) h hs rfl λ_=> ?_|fail)
 exact hk w h.drop
theorem NJ{n:Nat}{a b:Array Value}{c:Array Value→Prop}(hn:a.size=n)(hb:b.size=n)(hc:c b):lz a 0 n b c:=by
 refine⟨hb,?_⟩;have e:b.zipIdx.foldl (λcs (x:Value×Nat)=>cs.setIfInBounds (0+x.2) x.1) a=b:=by
  apply Array.ext';have key:∀(l:List Value) (k:Nat) (acc:Array Value),acc.size=k+l.length→((l.zipIdx k).foldl (fun(cs:Array Value) (x:Value×Nat)=>cs.setIfInBounds (0+x.2) x.1) acc).toList=acc.toList.take k++l:=by
   intro l;induction l with
   |nil=>intro k acc hk;simp at hk;simp[List.take_of_length_le,hk]
   |cons v l ih=>
    intro k acc hk;simp only[List.length_cons]at hk;rw[List.zipIdx_cons,List.foldl_cons,ih (k+1) _ (by simp;omega)]
    simp only[Nat.zero_add,Array.toList_setIfInBounds];rw[List.take_add_one,uu (by simpa using (by omega:k<acc.size)),List.take_set_of_le ah]
    simp
  have:=key b.toList 0 a (by simp[hn,hb])
  rw[←Array.foldl_toList,Array.toList_zipIdx];simpa using this
 rw[e];exact hc
theorem elN:GM Tryz.prog 233 3 24 (.agg #[.int .i64 0,.int .i64 0,.int .i64 0]):=⟨be,be⟩
theorem afG{wk s:Int}{x:Nd}{k:Int×Int→aq}(h:St w0 w L)[a:At L (scp g) C f][a2:At L (bI gm) M f2][a3:At (f2 (bI gm ((M.tick wk).grow 2))) (scp g) C f3](hs:oc C s=some x)(hw:M.caller wk=true)(hM:M.OK)(hC:C.length≤1000000)
  (h1:wr (x.nest+1)>32→∀w',St w0 w' L→k (0,23) w') (h2:¬wr (x.nest+1)>32→M.room 2=false→∀w',St w0 w' L→k (0,21) w')
  (h3:¬wr (x.nest+1)>32→M.room 2=true→∀w',St w0 w' (f3 (scp g (C++[⟨s,wr (x.nest+1),(M.cells.length:Nat)⟩])))→k ((C.length:Nat),0) w'):cQ (some ⟨g,0,none⟩) (some ⟨gm,0,none⟩) wk s w k:=by
 unfold cQ Cc;refine GZ (C:=C) h (sj hs).1 λw h=> ?_;with_reducible repeat' (first|refine an ?_|refine fE ?_|refine abm (C:=C) h hs rfl λ_=> ?_|fail)
 refine ay (λhb=> ?_) λhb=> ?_
 ·exact h1 (of_decide_eq_true hb) w h
 ·have hb:=of_decide_eq_false hb;refine Gr (M:=M) h hM (λ_ _ hr w h=> ?_) (λ_ _ hr=> ?_) λhn=>(hn ⟨hw,ah⟩).elim
  ·with_reducible repeat' (first|refine an ?_|refine fE ?_|fail)
   obtain⟨R,ho,hc⟩:=a3.out;obtain⟨sl,h⟩:=X1 (ho h);with_reducible repeat' (first|refine j5 h ?_|fail)
   refine NJ rfl rfl ?_;with_reducible repeat' (first|refine av h λgx w h=> ?_|fail)
   refine adL (sz:=3) (s:=sl) (e:=Nd.cells ⟨s,wr (x.nest+1),(M.cells.length:Nat)⟩) h elN be rfl ah (by simp[Nd.cells,Value.oneCell']) (by simpa using hC) ah λs' w h hn=> ?_
   with_reducible repeat' (first|refine an ?_|refine j5 h ?_|refine dO h λw h=> ?_|fail)
   rw[List.length_map]at hn;rw[hn];have e:aG .i64 (((C.length+1:Nat):Int) - 1)=(C.length:Nat):=by rw[lY ⟨ah,ah⟩];omega
   rw[e];refine h3 hb hr w (hc (adT (s:=s') ?_));have:=h.rm 0 rfl;simp only[List.map_append,List.map_cons,List.map_nil];exact this
  ·with_reducible repeat' (first|refine nJ ?_|fail)
   exact h2 hb hr w h
structure Lk where
 at_:Int
 done:Bool
 wT:Bool
def Lk.cells(g:Nat)(x:Lk):List Value:=[.pointer (some ⟨g,0,none⟩),.int .i64 x.at_,.bool x.done,.bool x.wT]
theorem avI{s:Int}{x:Nd}{k:Option Addr×Int→aq}(h:St w0 w L)[a:At L (scp g) C f](hs:oc C s=some x)(hk:∀gl w',St w0 w' (ax gl (Lk.cells g ⟨s,false,false⟩)::L)→k (some ⟨gl,0,none⟩,0) w'):mo (some ⟨g,0,none⟩) s w k:=by
 unfold mo Cl;refine bh rfl (av h λga w h=>ajN (g:=g) (C:=C) h ?_);rw[(sj hs).1];with_reducible repeat' (first|refine av h λgx w h=> ?_|refine fE ?_|fail)
 exact hk _ w (h.rm 1 rfl)
def Lk.go(M:bK)(l:Lk)(x:Nd):Lk:=⟨x.parent,M.get x.at_ !=0||l.at_==0,M.get x.at_ !=0⟩
theorem ahn{gl:Nat}{wk:Int}{x:Nd}{l:Lk}{k:Bool×Bool×Int→aq}(h:St w0 w (ax gl (Lk.cells g l)::scp g C::bI gm M::R))
  (hd:l.done=false) (hs:oc C l.at_=some x) (hc:M.can wk x.at_=true)
  (hk:∀w',St w0 w' (ax gl (Lk.cells g (l.go M x))::scp g C::bI gm (M.tick wk)::R)→k ((l.go M x).done,(l.go M x).wT,0) w'):kX (some ⟨gl,0,none⟩) (some ⟨gm,0,none⟩) wk w k:=by
 unfold kX Cj;obtain⟨la,ld,li⟩:=l;cases hd
 with_reducible repeat' (first|refine an ?_|refine aF h λw h=> ?_|refine da h ?_|refine cS h ?_|refine uL h ?_|refine fE ?_|fail)
 refine ahm (C:=C) (M:=M) h hs hc λw h=> ?_;with_reducible repeat' (first|refine an ?_|refine dO h λw h=> ?_|refine fE ?_|fail)
 refine bS (λ_ w=>St w0 w (ax gl (Lk.cells g ⟨la,M.get x.at_ !=0||la==0,M.get x.at_ !=0⟩)::scp g C::bI gm (M.tick wk)::R)) (λJ hJ=> ?_) ?_
 ·refine ay (λhb=> ?_) λhb=> ?_
  ·have hb:(M.get x.at_ !=0)=true:=hb;with_reducible repeat' (first|refine an ?_|refine dO h λw h=> ?_|fail)
   exact hJ _ _ (by simp only[hb]at h ⊢;exact h)
  ·have hb:(M.get x.at_ !=0)=false:=hb;with_reducible repeat' (first|refine an ?_|refine cS h ?_|refine dO h λw h=> ?_|fail)
   exact hJ _ _ (by simp only[hb]at h ⊢;exact h)
 ·intro _ w h;with_reducible repeat' (first|refine an ?_|refine aF h λw h=> ?_|refine da h ?_|refine cS h ?_|fail)
  refine anq (C:=C) h hs λw h=> ?_;with_reducible repeat' (first|refine an ?_|refine aF h λw h=> ?_|refine uL h ?_|refine dO h λw h=> ?_|fail)
  exact hk _ h
end
section
variable {w0 w:World} {L R:List HP} {g gm gx:Nat} {M:bK} {f f2 f3:HP→List HP} {at_ wk:Int}
theorem arh{k:Array Value×Int→aq}(h:St w0 w L)[a2:At L (bI gm) M f2](hw:M.caller wk=true)(hM:M.OK)
  (hk:M.room 1=true→∀w',St w0 w' (f2 (bI gm ((M.tick wk).grow 1)))→k (#[.int .i64 (M.cells.length:Nat)],0) w') (GI:M.room 1=false→∀w',St w0 w' L→k (#[.int .i64 0],21) w'):
  tX (some ⟨gm,0,none⟩) wk w k:=by
 unfold tX MH;with_reducible repeat' (first|refine av h λgx w h=> ?_|refine fE ?_|fail)
 refine Gr (M:=M) h hM (λ_ _ hr w h=> ?_) (λ_ _ hr=> ?_) λhn=>(hn ⟨hw,ah⟩).elim
 ·with_reducible repeat' (first|refine mI h ?_|refine nW h λw h=> ?_|refine fE ?_|fail)
  exact hk hr w h.drop
 ·with_reducible repeat' (first|refine mI h ?_|refine nW h λw h=> ?_|refine nJ ?_|fail)
  exact GI hr w h.drop
theorem ari{k:Array Value×Int→aq}(h:St w0 w L)[a2:At L (bI gm) M f2](hw:M.caller wk=true)(hM:M.OK)
  (hk:M.room 1=true→∀w',St w0 w' (f2 (bI gm ((M.tick wk).grow 1)))→k (#[.int .i64 (M.cells.length:Nat)],0) w') (GI:M.room 1=false→∀w',St w0 w' L→k (#[.int .i64 0],21) w'):
  xo (some ⟨gm,0,none⟩) wk w k:=by
 unfold xo Qg;with_reducible repeat' (first|refine av h λgx w h=> ?_|refine fE ?_|fail)
 refine Gr (M:=M) h hM (λ_ _ hr w h=> ?_) (λ_ _ hr=> ?_) λhn=>(hn ⟨hw,ah⟩).elim
 ·with_reducible repeat' (first|refine mI h ?_|refine nW h λw h=> ?_|refine fE ?_|fail)
  exact hk hr w h.drop
 ·with_reducible repeat' (first|refine mI h ?_|refine nW h λw h=> ?_|refine nJ ?_|fail)
  exact GI hr w h.drop
theorem avJ{k:Array Value×Int→aq}(h:St w0 w L)[a2:At L (bI gm) M f2](hw:M.caller wk=true)(hM:M.OK)
  (hk:M.room 3=true→∀w',St w0 w' (f2 (bI gm ((M.tick wk).grow 3)))→k (#[.int .i64 (M.cells.length:Nat)],0) w') (GI:M.room 3=false→∀w',St w0 w' L→k (#[.int .i64 0],21) w'):
  r5 (some ⟨gm,0,none⟩) wk w k:=by
 unfold r5 Kq;with_reducible repeat' (first|refine av h λgx w h=> ?_|refine fE ?_|fail)
 refine Gr (M:=M) h hM (λ_ _ hr w h=> ?_) (λ_ _ hr=> ?_) λhn=>(hn ⟨hw,ah⟩).elim
 ·with_reducible repeat' (first|refine mI h ?_|refine nW h λw h=> ?_|refine fE ?_|fail)
  exact hk hr w h.drop
 ·with_reducible repeat' (first|refine mI h ?_|refine nW h λw h=> ?_|refine nJ ?_|fail)
  exact GI hr w h.drop
theorem arj{k:Int×Int→aq}(h:St w0 w L)[a2:At L (bI gm) M f2](hc:M.can wk at_=true)(hk:∀w',St w0 w' (f2 (bI gm (M.tick wk)))→k (M.get at_,0) w'):lf #[.int .i64 at_] (some ⟨gm,0,none⟩) wk w k:=by
 unfold lf Bc;with_reducible repeat' (first|refine cS h ?_|refine av h λgx w h=> ?_|refine ldc (M:=M) h hc λw h=> ?_|fail)
 exact hk w h.drop
theorem alY{k:Int→aq}(h:St w0 w L)[a2:At L (bI gm) M f2](hc:M.can wk at_=true)(hk:∀w',St w0 w' (f2 (bI gm (M.ad wk at_ 1)))→k 0 w'):eA #[.int .i64 at_] (some ⟨gm,0,none⟩) wk w k:=by
 unfold eA A9;with_reducible repeat' (first|refine cS h ?_|refine av h λgx w h=> ?_|refine UW (M:=M) h hc λw h=> ?_|fail)
 exact hk w h.drop
theorem ark{k:Int×Int→aq}(h:St w0 w L)[a2:At L (bI gm) M f2](hc:M.can wk at_=true)(hk:∀w',St w0 w' (f2 (bI gm (M.tick wk)))→k (M.get at_,0) w'):oN #[.int .i64 at_] (some ⟨gm,0,none⟩) wk w k:=by
 unfold oN Fi;with_reducible repeat' (first|refine cS h ?_|refine av h λgx w h=> ?_|refine ldc (M:=M) h hc λw h=> ?_|fail)
 exact hk w h.drop
theorem ajO{seen:Int}{k:Bool→aq}(h:St w0 w L)[a2:At L (bI gm) M f2](hc:M.given at_=true)(hk:∀w',St w0 w' L→k (M.get at_==seen) w'):jQ #[.int .i64 at_] (some ⟨gm,0,none⟩) seen w k:=by
 unfold jQ xR;have hg:=hc;unfold bK.given at hg;simp only[decide_eq_true_eq]at hg;with_reducible repeat' (first|refine aF h λw h=> ?_|refine cS h ?_|refine av h λgx w h=> ?_|refine nJ ?_|fail)
 refine bO (by simpa using hg.1) ?_
 with_reducible repeat' (first|refine cS h ?_|fail)
 refine alV (M:=M) h ?_;with_reducible repeat' (first|refine cP ?_|fail)
 refine bO (by simpa using hg.2) ?_
 with_reducible repeat' (first|refine cS h ?_|fail)
 refine WM (M:=M) h ?_;rw[if_pos hc];exact hk w h.drop
structure Wt where
 how:Int
 seen:Int
def Wt.cells(at_:Int)(x:Wt):List Value:=[.int .i64 at_,.int .i64 x.how,.int .i64 x.seen]
theorem avK{k:Option Addr→aq}(h:St w0 w L)(hk:∀ga w',St w0 w' (ax ga (Wt.cells at_ ⟨0,0⟩)::L)→k (some ⟨ga,0,none⟩) w'):k9 #[.int .i64 at_] w k:=by
 unfold k9;with_reducible repeat' (first|refine mI h ?_|refine av h λgx w h=> ?_|fail)
 refine⟨rfl,?_⟩;with_reducible repeat' (first|refine av h λgx w h=> ?_|fail)
 exact hk _ w (h.rm 1 rfl)
theorem abn{x:Wt}{k:Int→aq}(h:St w0 w (ax g (x.cells at_)::bI gm M::R))(hc:M.can wk at_=true)(hk:∀w',St w0 w' (ax g (Wt.cells at_ ⟨1,M.get at_⟩)::bI gm (M.tick wk)::R)→k 0 w'):cI (some ⟨g,0,none⟩) (some ⟨gm,0,none⟩) wk w k:=by
 unfold cI Bd;with_reducible repeat' (first|refine an ?_|refine mH h ?_|refine fE ?_|fail)
 refine arj (M:=M) h hc λw h=> ?_;with_reducible repeat' (first|refine an ?_|refine dO h λw h=> ?_|refine fE ?_|fail)
 exact hk w h
theorem alZ{x:Wt}{k:Int→aq}(h:St w0 w L)[a:At L (ax g) (x.cells at_) f](hk:∀w',St w0 w' (f (ax g (Wt.cells at_ ⟨if x.how=1 then 2 else x.how,x.seen⟩)))→k (if x.how=1 then 0 else 19) w'):e7 (some ⟨g,0,none⟩) w k:=by
 unfold e7;with_reducible repeat' (first|refine an ?_|refine cS h ?_|refine fE ?_|fail)
 refine ay (λhb=> ?_) λhb=> ?_
 ·have hb:x.how≠1:=by simpa using hb
  rw[if_neg hb,if_neg hb]at hk;exact hk w (h.same a)
 ·have hb:x.how=1:=by simpa using hb
  rw[if_pos hb,if_pos hb]at hk;with_reducible repeat' (first|refine an ?_|refine dO h λw h=> ?_|fail)
  exact hk w h
theorem adU{x:Wt}{k:Unit→aq}(h:St w0 w L)[a:At L (ax g) (x.cells at_) f](hk:∀w',St w0 w' (f (ax g (Wt.cells at_ ⟨0,x.seen⟩)))→k () w'):dY (some ⟨g,0,none⟩) w k:=by
 unfold dY;with_reducible repeat' (first|refine an ?_|refine dO h λw h=> ?_|refine nJ ?_|fail)
 exact hk w h
def Wt.parked(x:Wt)(M:bK)(at_:Int):Bool:=x.how==2&&M.get at_==x.seen
theorem ajP{x:Wt}{k:Bool→aq}(h:St w0 w L)[a:At L (ax g) (x.cells at_) f][a2:At L (bI gm) M f2](hc:M.given at_=true)(hk:∀w',St w0 w' L→k (x.parked M at_) w'):gO (some ⟨g,0,none⟩) (some ⟨gm,0,none⟩) w k:=by
 unfold gO zx;with_reducible repeat' (first|refine an ?_|refine aF h λw h=> ?_|refine cS h ?_|refine nJ ?_|fail)
 unfold Wt.parked at hk;refine ay (λhb=> ?_) λhb=> ?_
 ·rw[hb,Bool.true_and]at hk;with_reducible repeat' (first|refine an ?_|refine cS h ?_|refine mH h ?_|fail)
  exact ajO (M:=M) h hc hk
 ·rw[hb,Bool.false_and]at hk;exact hk w h
def bit(wk:Int)(times:Int):Int:=rX .i64 times wk
theorem aho{y:Int}{k:Int→aq}(h:St w0 w L)[a2:At L (bI gm) M f2](hw:0≤wk∧wk≤16)(hc:M.can wk at_=true)(hk:∀w',St w0 w' (f2 (bI gm (M.ad wk at_ (bit wk y))))→k 0 w'):ix #[.int .i64 at_] (some ⟨gm,0,none⟩) wk y w k:=by
 unfold ix Fj;with_reducible repeat' (first|refine av h λgx w h=> ?_|refine fE ?_|fail)
 refine bh (by simp;omega) ?_
 with_reducible repeat' (first|refine aF h λw h=> ?_|refine cS h ?_|fail)
 refine FE ah ?_;with_reducible repeat' (first|refine UW (M:=M) h hc λw h=> ?_|fail)
 exact hk w h.drop
theorem anr{k:Int→aq}(h:St w0 w L)[a2:At L (bI gm) M f2](hw:0≤wk∧wk≤16)(hc:M.can wk at_=true)(hk:∀w',St w0 w' (f2 (bI gm (M.ad wk at_ (bit wk 1))))→k 0 w'):nD #[.int .i64 at_] (some ⟨gm,0,none⟩) wk w k:=by
 unfold nD DT;with_reducible repeat' (first|refine mI h ?_|refine av h λgx w h=> ?_|fail)
 refine aho (M:=M) h hw hc λw h=> ?_;with_reducible repeat' (first|refine an ?_|refine aF h λw h=> ?_|refine da h ?_|refine cS h ?_|refine uL h ?_|refine j5 h ?_|refine pC h ?_|refine zb h ?_|refine lW h ?_|refine vt h ?_|refine AO h ?_|refine sY h ?_|refine Ar h ?_|refine AP h ?_|refine mH h ?_|refine mI h ?_|refine pN h ?_|refine dO h λw h=> ?_|refine qY h λw h=> ?_|refine vC h λw h=> ?_|refine nW h λw h=> ?_|refine av h λgx w h=> ?_|refine cP ?_|refine ja h ?_|refine mJ h ?_|refine fX ?_ ?_|refine fE ?_|refine nJ ?_|refine xB ?_|fail)
 exact hk w h.drop
theorem ans{k:Int→aq}(h:St w0 w L)[a2:At L (bI gm) M f2](hw:0≤wk∧wk≤16)(hc:M.can wk at_=true)(hk:∀w',St w0 w' (f2 (bI gm (M.ad wk at_ (bit wk (-1)))))→k 0 w'):nE #[.int .i64 at_] (some ⟨gm,0,none⟩) wk w k:=by
 unfold nE DU;with_reducible repeat' (first|refine mI h ?_|refine av h λgx w h=> ?_|fail)
 refine aho (M:=M) h hw hc λw h=> ?_;with_reducible repeat' (first|refine an ?_|refine aF h λw h=> ?_|refine da h ?_|refine cS h ?_|refine uL h ?_|refine j5 h ?_|refine pC h ?_|refine zb h ?_|refine lW h ?_|refine vt h ?_|refine AO h ?_|refine sY h ?_|refine Ar h ?_|refine AP h ?_|refine mH h ?_|refine mI h ?_|refine pN h ?_|refine dO h λw h=> ?_|refine qY h λw h=> ?_|refine vC h λw h=> ?_|refine nW h λw h=> ?_|refine av h λgx w h=> ?_|refine cP ?_|refine ja h ?_|refine mJ h ?_|refine fX ?_ ?_|refine fE ?_|refine nJ ?_|refine xB ?_|fail)
 exact hk w h.drop
theorem ant{k:Int×Int→aq}(h:St w0 w L)[a2:At L (bI gm) M f2](hM:M.OK)(hc:M.can wk (at_+0)=true)(hk:∀w',St w0 w' (f2 (bI gm (M.tick wk)))→k (M.get (at_+0),0) w'):ju #[.int .i64 at_] (some ⟨gm,0,none⟩) wk w k:=by
 unfold ju wI;with_reducible repeat' (first|refine cS h ?_|refine av h λgx w h=> ?_|fail)
 rw[Ah (.inr (oW hc)) hM];with_reducible repeat' (first|refine ldc (M:=M) h hc λw h=> ?_|fail)
 exact hk w h.drop
theorem anu{k:Int×Int→aq}(h:St w0 w L)[a2:At L (bI gm) M f2](hM:M.OK)(hc:M.can wk (at_+1)=true)(hk:∀w',St w0 w' (f2 (bI gm (M.tick wk)))→k (M.get (at_+1),0) w'):jv #[.int .i64 at_] (some ⟨gm,0,none⟩) wk w k:=by
 unfold jv wJ;with_reducible repeat' (first|refine cS h ?_|refine av h λgx w h=> ?_|fail)
 rw[Ah (.inr (oW hc)) hM];with_reducible repeat' (first|refine ldc (M:=M) h hc λw h=> ?_|fail)
 exact hk w h.drop
theorem ahp{k:Int×Int→aq}(h:St w0 w L)[a2:At L (bI gm) M f2](hM:M.OK)(hc:M.can wk (at_+2)=true)(hk:∀w',St w0 w' (f2 (bI gm (M.tick wk)))→k (M.get (at_+2),0) w'):iu #[.int .i64 at_] (some ⟨gm,0,none⟩) wk w k:=by
 unfold iu uh;with_reducible repeat' (first|refine cS h ?_|refine av h λgx w h=> ?_|fail)
 rw[Ah (.inr (oW hc)) hM];with_reducible repeat' (first|refine ldc (M:=M) h hc λw h=> ?_|fail)
 exact hk w h.drop
theorem anv{k:Bool×Int→aq}(h:St w0 w L)[a2:At L (bI gm) M f2](hM:M.OK)(hc:M.can wk (at_+0)=true)(hk:∀w',St w0 w' (f2 (bI gm (M.cs wk (at_+0) 0 1).1))→k ((M.cs wk (at_+0) 0 1).2,0) w'):js #[.int .i64 at_] (some ⟨gm,0,none⟩) wk w k:=by
 unfold js wq;with_reducible repeat' (first|refine cS h ?_|refine av h λgx w h=> ?_|fail)
 rw[Ah (.inr (oW hc)) hM];with_reducible repeat' (first|refine alX (M:=M) h hc λw h=> ?_|fail)
 exact hk w h.drop
theorem avL{v:Int}{k:Int→aq}(h:St w0 w L)[a2:At L (bI gm) M f2](hM:M.OK)(hc:M.can wk (at_+1)=true)(hk:∀w',St w0 w' (f2 (bI gm ((M.tick wk).put (at_+1) v)))→k 0 w'):kC #[.int .i64 at_] (some ⟨gm,0,none⟩) wk v w k:=by
 unfold kC z7;with_reducible repeat' (first|refine cS h ?_|refine av h λgx w h=> ?_|fail)
 rw[Ah (.inr (oW hc)) hM];with_reducible repeat' (first|refine stc (M:=M) h hc λw h=> ?_|fail)
 exact hk w h.drop
theorem avM{to:Int}{k:Bool×Int→aq}(h:St w0 w L)[a2:At L (bI gm) M f2](hM:M.OK)(ht:2≤to∧to≤4)(hc:M.can wk (at_+0)=true)(hk:∀w',St w0 w' (f2 (bI gm (M.cs wk (at_+0) 1 to).1))→k ((M.cs wk (at_+0) 1 to).2,0) w'):kD #[.int .i64 at_] (some ⟨gm,0,none⟩) wk to w k:=by
 unfold kD z8;with_reducible repeat' (first|refine av h λgx w h=> ?_|refine fE ?_|fail)
 refine bh (by simp;omega) ?_
 with_reducible repeat' (first|refine cS h ?_|fail)
 rw[Ah (.inr (oW hc)) hM];with_reducible repeat' (first|refine alX (M:=M) h hc λw h=> ?_|fail)
 exact hk w h.drop
theorem ahq{y:Int}{k:Int→aq}(h:St w0 w L)[a2:At L (bI gm) M f2](hM:M.OK)(hw:0≤wk∧wk≤16)(hc:M.can wk (at_+2)=true)(hk:∀w',St w0 w' (f2 (bI gm (M.ad wk (at_+2) (bit wk y))))→k 0 w'):dG #[.int .i64 at_] (some ⟨gm,0,none⟩) wk y w k:=by
 unfold dG yy;with_reducible repeat' (first|refine av h λgx w h=> ?_|refine fE ?_|fail)
 refine bh (by simp;omega) ?_
 with_reducible repeat' (first|refine aF h λw h=> ?_|refine cS h ?_|fail)
 refine FE ah ?_;rw[Ah (.inr (oW hc)) hM];with_reducible repeat' (first|refine UW (M:=M) h hc λw h=> ?_|fail)
 exact hk w h.drop
theorem arl{k:Int→aq}(h:St w0 w L)[a2:At L (bI gm) M f2](hM:M.OK)(hw:0≤wk∧wk≤16)(hc:M.can wk (at_+2)=true)(hk:∀w',St w0 w' (f2 (bI gm (M.ad wk (at_+2) (bit wk 1))))→k 0 w'):jS #[.int .i64 at_] (some ⟨gm,0,none⟩) wk w k:=by
 unfold jS yz;with_reducible repeat' (first|refine mI h ?_|refine av h λgx w h=> ?_|fail)
 refine ahq (M:=M) h hM hw hc λw h=> ?_;with_reducible repeat' (first|refine an ?_|refine aF h λw h=> ?_|refine da h ?_|refine cS h ?_|refine uL h ?_|refine j5 h ?_|refine pC h ?_|refine zb h ?_|refine lW h ?_|refine vt h ?_|refine AO h ?_|refine sY h ?_|refine Ar h ?_|refine AP h ?_|refine mH h ?_|refine mI h ?_|refine pN h ?_|refine dO h λw h=> ?_|refine qY h λw h=> ?_|refine vC h λw h=> ?_|refine nW h λw h=> ?_|refine av h λgx w h=> ?_|refine cP ?_|refine ja h ?_|refine mJ h ?_|refine fX ?_ ?_|refine fE ?_|refine nJ ?_|refine xB ?_|fail)
 exact hk w h.drop
theorem anw{k:Int→aq}(h:St w0 w L)[a2:At L (bI gm) M f2](hM:M.OK)(hw:0≤wk∧wk≤16)(hc:M.can wk (at_+2)=true)(hk:∀w',St w0 w' (f2 (bI gm (M.ad wk (at_+2) (bit wk (-1)))))→k 0 w'):iz #[.int .i64 at_] (some ⟨gm,0,none⟩) wk w k:=by
 unfold iz wP;with_reducible repeat' (first|refine mI h ?_|refine av h λgx w h=> ?_|fail)
 refine ahq (M:=M) h hM hw hc λw h=> ?_;with_reducible repeat' (first|refine an ?_|refine aF h λw h=> ?_|refine da h ?_|refine cS h ?_|refine uL h ?_|refine j5 h ?_|refine pC h ?_|refine zb h ?_|refine lW h ?_|refine vt h ?_|refine AO h ?_|refine sY h ?_|refine Ar h ?_|refine AP h ?_|refine mH h ?_|refine mI h ?_|refine pN h ?_|refine dO h λw h=> ?_|refine qY h λw h=> ?_|refine vC h λw h=> ?_|refine nW h λw h=> ?_|refine av h λgx w h=> ?_|refine cP ?_|refine ja h ?_|refine mJ h ?_|refine fX ?_ ?_|refine fE ?_|refine nJ ?_|refine xB ?_|fail)
 exact hk w h.drop
theorem ahr{k:Int×Int×Int→aq}(h:St w0 w L)[a2:At L (bI gm) M f2](hM:M.OK)(h0:M.given (at_+0)=true)(h1:M.given (at_+1)=true)(h2:M.given (at_+2)=true)
  (hk:∀w',St w0 w' L→k (M.get (at_+0),if M.get (at_+0)<2 then 0 else M.get (at_+1),M.get (at_+2)) w'):dm #[.int .i64 at_] (some ⟨gm,0,none⟩) w k:=by
 unfold dm xQ;with_reducible repeat' (first|refine av h λgx w h=> ?_|refine fE ?_|fail)
 refine P2 ?_;refine⟨4,?_⟩;unfold jP;with_reducible repeat' (first|refine cS h ?_|refine nJ ?_|fail)
 rw[Ah (.inr h0) hM];refine WM (M:=M) h ?_;rw[if_pos h0];refine tU ah fY ?_;with_reducible repeat' (first|refine qY h λw h=> ?_|fail)
 unfold jP;with_reducible repeat' (first|refine cS h ?_|refine nJ ?_|fail)
 rw[show(aG .i64 ((0:Int)+1))=1 by decide,Ah (.inr h1) hM]
 refine WM (M:=M) h ?_;rw[if_pos h1];refine tU ah fY ?_;with_reducible repeat' (first|refine qY h λw h=> ?_|fail)
 unfold jP;with_reducible repeat' (first|refine cS h ?_|refine nJ ?_|fail)
 rw[show(aG .i64 ((1:Int)+1))=2 by decide,Ah (.inr h2) hM]
 refine WM (M:=M) h ?_;rw[if_pos h2];refine tU ah fY ?_;with_reducible repeat' (first|refine qY h λw h=> ?_|fail)
 unfold jP;with_reducible repeat' (first|refine cS h ?_|refine fE ?_|fail)
 refine ay (λhb=> ?_) λhb=> ?_
 ·have hb:M.get (at_+0)<2:=of_decide_eq_true hb;rw[if_pos hb]at hk;with_reducible repeat' (first|refine aF h λw h=> ?_|refine cS h ?_|refine dO h λw h=> ?_|fail)
  exact hk w h.drop.drop
 ·have hb:¬M.get (at_+0)<2:=of_decide_eq_false hb;rw[if_neg hb]at hk;with_reducible repeat' (first|refine aF h λw h=> ?_|refine cS h ?_|fail)
  exact hk w h.drop.drop
end
structure Kt where
 parent:Int
 nth:Int
 kids:List Int
 deriving DecidableEq
def n7(p:Kt×Sl):List Value:=[.int .i64 p.1.parent,.int .i64 p.1.nth,.slice p.2.a p.2.n p.2.c]
def yQ(p:Kt×Sl):HP:=bP 1 p.2 (ints p.1.kids)
def Cr(g:Nat)(T:List Kt):HP:=FV λq:Sl×List (Kt×Sl)=>Jw (q.2.map (·.1)=T) (mG [ax g [.slice q.1.a q.1.n q.1.c],rws 3 q.1 (q.2.map n7),lZ yQ q.2])
section
variable {w0 w:World} {L R:List HP} {g:Nat} {T:List Kt} {f:HP→List HP}
theorem Sf(h:St w0 w (Cr g T::R)):∃(s:Sl) (l:List (Kt×Sl)),l.map (·.1)=T∧St w0 w (ax g [.slice s.a s.n s.c]::rws 3 s (l.map n7)::lZ yQ l::R):=by
 obtain⟨q,h⟩:=h.some;obtain⟨hp,h⟩:=h.pure;exact⟨q.1,q.2,hp,h.open⟩
theorem X2{s:Sl}{l:List (Kt×Sl)}(hl:l.map (·.1)=T)(h:St w0 w (ax g [.slice s.a s.n s.c]::rws 3 s (l.map n7)::lZ yQ l::R)):St w0 w (Cr g T::R):=
 St.ex (X:=λq:Sl×List (Kt×Sl)=>Jw (q.2.map (·.1)=T) (mG [ax g [.slice q.1.a q.1.n q.1.c],rws 3 q.1 (q.2.map n7),lZ yQ q.2])) (s,l) (St.pur hl (St.shut h))
def AI(T:List Kt)(s:Int):Bool:=decide (0≤s∧s<T.length)
theorem UX{s:Int}{p:Addr}{C:Int→aq}{k:Bool→aq}{i:Int}(h:St w0 w L)[a:At L (Cr g) T f](hp:w.cell? p=some (.int .i64 s))(h1:AI T s=false→k false w)(h2:AI T s=true→C (aG .i64 (i+1)) w):
  aN .i64 w p λi5=>cE (S:=Bool) (λJ6=>ap ((eL (some (⟨g,0,none⟩:Addr)))||(decide (i5<(0:Int)))) (J6 true w) (nn (some ⟨g,0,none⟩) λa7=>cC w (aY a7 0) λs8=>(J6 (decide (i5≥((s8.n:Nat):Int))) w))) λb9 w10=>ap b9 (k false w10) (C (aG .i64 (i+(1:Int))) w10):=by
 refine uH hp (P2 ?_);obtain⟨R,ho,hc⟩:=a.out;obtain⟨sl,l,hl,h3⟩:=Sf (ho h);have hlen:=(tE (sz:=3) (s:=sl) (es:=l.map n7) h3).2 ah;have hlT:T.length=l.length:=by rw[←hl];simp
 simp only[List.length_map]at hlen;refine ay (λhb=> ?_) λhb=> ?_
 ·have hb:s<0:=by simpa using hb
  exact bO rfl (h1 (by simp[AI];omega))
 ·have hb:¬s<0:=by simpa using hb
  refine an (aS h3 rfl ?_);refine ay (λjL=> ?_) λjL=> ?_
  ·have jL:s≥((sl.n:Nat):Int):=of_decide_eq_true jL;exact h1 (by simp[AI];omega)
  ·have jL:¬s≥((sl.n:Nat):Int):=of_decide_eq_false jL;exact h2 (by simp[AI];omega)
theorem al0{s:Int}{ga:Nat}{k:Bool→aq}{f':HP→List HP}(h:St w0 w L)[a:At L (Cr g) T f][a':At L (ax ga) [.int .i64 s] f'](hk:k (AI T s) w):dw (some ⟨g,0,none⟩) ⟨some ⟨ga,0,none⟩,1,1⟩ w k:=by
 unfold dw;refine⟨2,?_⟩;unfold jP;have hb:=h.ax (g:=ga) (cs:=[.int .i64 s]);refine bO rfl ⟨⟨ah,by show(0:Int)<1;decide⟩,UX (T:=T) (i:=0) h (s:=s) (by rw[cY,hb.cell];rfl) (λe=> ?_) λe=> ?_⟩
 ·rw[e]at hk;exact hk
 ·rw[e]at hk;unfold jP;exact bh rfl hk
theorem arm{s t:Int}{ga:Nat}{k:Bool→aq}{f':HP→List HP}(h:St w0 w L)[a:At L (Cr g) T f][a':At L (ax ga) [.int .i64 s,.int .i64 t] f'](hk:k (AI T s&&AI T t) w):dw (some ⟨g,0,none⟩) ⟨some ⟨ga,0,none⟩,2,2⟩ w k:=by
 unfold dw;refine⟨3,?_⟩;unfold jP;have hb:=h.ax (g:=ga) (cs:=[.int .i64 s,.int .i64 t]);refine bO rfl ⟨⟨ah,by show(0:Int)<2;decide⟩,UX (T:=T) (i:=0) h (s:=s) (by rw[cY,hb.cell];rfl) (λe=> ?_) λe=> ?_⟩
 ·rw[e]at hk;exact hk
 ·rw[e,Bool.true_and]at hk;unfold jP;refine bO rfl ⟨⟨fY,by show(1:Int)<2;decide⟩,UX (T:=T) (i:=1) h (s:=t) (by rw[cY,hb.cell];rfl) (λe=> ?_) λe=> ?_⟩
  ·rw[e]at hk;exact hk
  ·rw[e]at hk;unfold jP;exact bh rfl hk
def Gs(T:List Kt)(x:Int):Option Kt:=if 0≤x then T[x.toNat]? else none
theorem xq{s:Int}{x:Kt}(h:Gs T s=some x):AI T s=true∧0≤s∧T[s.toNat]?=some x:=by
 unfold Gs at h;split at h
 ·have:=(kJ.1 h).1;exact⟨by simp[AI];omega,ah,h⟩
 ·cases h
theorem abo{s:Int}(h:AI T s=true):∃x,Gs T s=some x:=by
 unfold AI at h;simp only[decide_eq_true_eq]at h;exact⟨T[s.toNat]' ah,by unfold Gs;rw[if_pos h.1,j4]⟩
theorem map_fst{l:List (Kt×Sl)}{i:Nat}{x:Kt}(hl:l.map (·.1)=T)(h:T[i]?=some x):∃s,l[i]?=some (x,s):=by
 rw[←hl,pz]at h;cases hli:l[i]? with
 |none=>rw[hli]at h;cases h
 |some p=>rw[hli]at h;simp at h;exact⟨p.2,by rw[←h]⟩
theorem arn{s:Int}{x:Kt}{c:Int→Prop}(h:St w0 w L)[a:At L (Cr g) T f](hs:Gs T s=some x)(hc:c x.parent):
  cC w (aY ⟨g,0,none⟩ 0) λs4=>cZ s4 s 3 λa5=>aN .i64 w (aY a5 0) c:=by
 obtain⟨R,ho,hb⟩:=a.out;obtain⟨sl,l,hl,h2⟩:=Sf (ho h);obtain⟨_,h0,h1⟩:=xq hs;obtain⟨si,hi⟩:=map_fst hl h1;exact aS h2 rfl (rI (s:=sl) (sz:=3) h2 h0 (e:=n7 (x,si)) (by rw[pz,hi];rfl) rfl hc)
def abp(T:List Kt):Prop:=∀(i:Nat) (x:Kt),T[i]?=some x→ -1≤x.parent∧x.parent<i∧(x.parent= -1→i=0)
def kup(T:List Kt)(y:Int):Nat→Int→Int
 |0,x=>x
 |n+1,x=>if x>y then(match Gs T x with|some t=>kup T y n t.parent|none=>x)else x
def Ry(T:List Kt)(x y:Int):Bool:=AI T x&&AI T y&&(kup T y T.length x==y)
theorem abq(hT:abp T){y:Int}(hy:0≤y){k:Bool→aq}:∀(n:Nat) (x:Int) (w:World),x<n→x<T.length→St w0 w L→[a:At L (Cr g) T f]→k (kup T y n x==y) w→
  ∃m,jP (S:=Int) (λC5 i6 w7=>ap (decide (i6>y)) (nn (some (⟨g,0,none⟩:Addr)) λa8=>cC w7 (aY a8 0) λs9=>cZ s9 i6 3 λa10=>aN .i64 w7 (aY a10 0) λi11=>(C5 i11 w7)) (k (i6==y) w7)) m x w
 |0,x,w,h0,_,h,_,hk=>by
  refine⟨1,?_⟩;unfold jP;have hk:k (x==y) w:=hk;exact bh (by simp;omega) hk
 |n+1,x,w,h0,hl,h,a,hk=>by
  unfold kup at hk;by_cases hx:x>y
  ·rw[if_pos hx]at hk;obtain⟨t,ht⟩:=abo (T:=T) (s:=x) (by simp[AI];omega)
   rw[ht]at hk;obtain⟨_,hx0,hg⟩:=xq ht;have:=hT _ t hg;obtain⟨m,hm⟩:=abq hT hy n t.parent w ah ah h hk;refine⟨m+1,?_⟩;unfold jP;exact bO (by simpa using hx) (an (arn h ht hm))
  ·rw[if_neg hx]at hk;refine⟨1,?_⟩;unfold jP;exact bh (by simpa using hx) hk
theorem Y2{x y:Int}{k:Bool→aq}(h:St w0 w L)[a:At L (Cr g) T f](hT:abp T)(hk:∀w',St w0 w' L→k (Ry T x y) w'):jK (some ⟨g,0,none⟩) x y w k:=by
 unfold jK zy;refine av h λga w h=>arm (g:=g) (T:=T) h ?_;have hk:=hk w h.drop;unfold Ry at hk;cases hb:AI T x&&AI T y with
 |false=>rw[hb]at hk;exact bO rfl hk
 |true=>
  rw[hb,Bool.true_and]at hk;simp only[iZ,AI,decide_eq_true_eq]at hb;exact bh rfl (abq hT hb.2.1 T.length x w hb.1.2 hb.1.2 h hk)
theorem anx{k:Option Addr→aq}(h:St w0 w L)(hk:∀g w',St w0 w' (Cr g []::L)→k (some ⟨g,0,none⟩) w'):uV w k:=by
 unfold uV;refine av h λg w h=>hk g w ?_;refine X2 (s:=⟨none,0,0⟩) (l:=[]) rfl ?_;have h2:=h.Jv 3;have h3:St w0 w (rws 3 ⟨none,0,0⟩ (([]:List (Kt×Sl)).map n7)::ax g [.slice none 0 0]::L):=St.pur (by intro e he;cases he) h2
 exact(VS (X:=yQ) h3).perm GP
theorem elK:GM Tryz.prog 188 3 40 (.agg #[.int .i64 0,.int .i64 0,.slice none 0 0]):=⟨be,be⟩
theorem aro:GM Tryz.prog 69 1 8 (.int .i64 0):=⟨be,be⟩
def G3(T:List Kt)(p:Int):List Kt:=match Gs T p with
 |some t=>T.set p.toNat {t with kids:=t.kids++[(T.length:Int)]}++[⟨p,t.kids.length,[]⟩]
 |none=>T++[⟨p,0,[]⟩]
theorem avO{p:Int}{k:Int×Int→aq}(h:St w0 w L)[a:At L (Cr g) T f](hp:(p= -1∧T=[])∨∃t,Gs T p=some t∧t.kids.length≤1000000)(hT:T.length≤1000000)
  (hk:∀w',St w0 w' (f (Cr g (G3 T p)))→k ((T.length:Nat),0) w'):pD (some ⟨g,0,none⟩) p w k:=by
 unfold pD GY;refine bh rfl ?_;obtain⟨R,ho,hb⟩:=a.out;replace h:=ho h;refine bS (λb w=>b=false∧St w0 w (Cr g T::R)) (λJ hJ=> ?_) ?_
 ·rcases hp with⟨rfl,rfl⟩|⟨t,ht,_⟩
  ·exact bh rfl (hJ _ _ ⟨rfl,h⟩)
  ·have hh:=xq ht;refine bO (by simp;omega) (av h λga w h=>al0 (g:=g) (T:=T) h (hJ _ _ ⟨by rw[hh.1];rfl,h.drop⟩))
 clear h;rintro _ w ⟨rfl,h0⟩;obtain⟨s,l,hl,h⟩:=Sf h0;clear h0;have hlen:=(tE (sz:=3) (s:=s) (es:=l.map n7) h).2 ah;have hlT:T.length=l.length:=by rw[←hl];simp
 simp only[List.length_map]at hlen;refine bh rfl (bS (λb w'=>b=false∧w'=w) (λJ hJ=> ?_) ?_)
 ·rcases hp with⟨rfl,rfl⟩|⟨t,ht,_⟩
  ·refine bO rfl (an (aS h rfl (hJ _ _ ⟨?_,rfl⟩)));rw[decide_eq_false_iff_not];simp only[List.length_nil]at hlT;show¬((s.n:Nat):Int)>0;omega
  ·have hh:=xq ht;exact bh (by simp;omega) (hJ _ _ ⟨rfl,rfl⟩)
 rintro _ _ ⟨rfl,rfl⟩;refine bh rfl ?_;with_reducible repeat' (first|refine an ?_|refine j5 h ?_|refine nW h λw h=> ?_|refine av h λgx w h=> ?_|fail)
 obtain⟨g15,lS⟩:∃n,n=gx:=⟨_,rfl⟩;subst lS;refine bS (fun(_:Unit) w=> ∃(l':List (Kt×Sl)) (x:Kt),l'.map (·.1)++[x]=G3 T p∧l'.length=l.length∧x.kids=[]∧St w0 w (ax g15 (n7 (x,⟨none,0,0⟩))::ax g [.slice s.a s.n s.c]::rws 3 s (l'.map n7)::lZ yQ l'::R)) (λJ hJ=> ?_) ?_
 ·rcases hp with⟨rfl,rfl⟩|⟨t,ht,htl⟩
  ·refine bh rfl (hJ _ _ ⟨l,⟨-1,0,[]⟩,?_,rfl,rfl,h⟩);rw[hl];rfl
  ·obtain⟨_,h0,h1⟩:=xq ht;obtain⟨si,hi⟩:=map_fst hl h1;refine bO (by simp;omega) ?_
   have hrow:(l.map n7)[p.toNat]?=some (n7 (t,si)):=by rw[pz,hi];rfl
   have ax5:=h.front 3 rfl;simp only[Iw]at ax5;have h:St w0 w (bP 1 si (ints t.kids)::lZ yQ (l.eraseIdx p.toNat)::ax g15 _::ax g _::rws 3 s (l.map n7)::R):=Iy ax5 hi;have hsl:=uN (s:=si) (vs:=ints t.kids) h;with_reducible repeat' (first|refine an ?_|refine j5 h ?_|fail)
   refine rix (s:=s) (sz:=3) h h0 hrow ah λg' o hr hs=> ?_;refine Il (s:=si) (by rw[cY];exact hr h hrow 2 _ rfl) ?_
   with_reducible repeat' (first|refine dO h λw h=> ?_|fail)
   refine Il (s:=si) (by rw[cY];exact hr h hrow 2 _ rfl) ?_
   with_reducible repeat' (first|refine av h λgx w h=> ?_|fail)
   refine K7 (s:=si) (vs:=ints t.kids) h aro be rfl (by simpa using htl) ah λs' w h hn=> ?_
   rw[cY];refine hs h inferInstance hrow 2 _ _ ah rfl λw h=> ?_;have h:=h.rm 0 rfl;refine hJ _ _ ⟨l.set p.toNat ({t with kids:=t.kids++[(T.length:Int)]},s'),⟨p,t.kids.length,[]⟩,?_,bc,rfl,?_⟩
   ·unfold G3;rw[ht];simp[List.map_set,hl]
   ·have e1:(l.map n7).set p.toNat ((n7 (t,si)).set 2 (.slice s'.a s'.n s'.c))=(l.set p.toNat ({t with kids:=t.kids++[(T.length:Int)]},s')).map n7:=by
     rw[List.map_set];rfl
    have GI:((s.n:Nat):Int)=T.length:=ah;have h:St w0 w (yQ ({t with kids:=t.kids++[(T.length:Int)]},s')::lZ yQ (l.eraseIdx p.toNat)::ax g15 (n7 (⟨p,t.kids.length,[]⟩,⟨none,0,0⟩))::ax g [.slice s.a s.n s.c]::rws 3 s ((l.set p.toNat ({t with kids:=t.kids++[(T.length:Int)]},s')).map n7)::R):=by
     rw[←e1];have e2:ints (t.kids++[(T.length:Int)])=ints t.kids++[.int .i64 ((s.n:Nat):Int)]:=by rw[GI];simp[ints]
     unfold yQ;simp only[e2];have e3:((si.n:Nat):Int)=(t.kids.length:Nat):=by simp[ints]at hsl;omega
     unfold n7;simp only[←e3];exact h
    exact(ZV h (kJ.1 hi).1).perm GP
 rintro _ w ⟨l',x,hl',hll,hxk,h⟩;with_reducible repeat' (first|refine an ?_|refine aF h λw h=> ?_|refine j5 h ?_|refine mI h ?_|fail)
 refine NJ rfl rfl ?_;with_reducible repeat' (first|refine av h λgx w h=> ?_|refine ja h ?_|fail)
 refine adL (sz:=3) (s:=s) (es:=l'.map n7) (e:=n7 (x,⟨none,0,0⟩)) h elK be rfl ah (by simp[n7,Value.oneCell']) (by simp;omega) ah λs' w h hn=> ?_
 with_reducible repeat' (first|refine an ?_|refine dO h λw h=> ?_|fail)
 have h:=(h.rm 0 rfl).rm 0 rfl;rw[show((s.n:Nat):Int)=T.length by omega]
 refine hk w (hb (X2 (s:=s') (l:=l'++[(x,⟨none,0,0⟩)]) (by simpa using hl') ?_))
 have h2:St w0 w (yQ (x,⟨none,0,0⟩)::ax g [.slice s'.a s'.n s'.c]::rws 3 s' (l'.map n7++[n7 (x,⟨none,0,0⟩)])::lZ yQ l'::R):=by
  have:=h.Jv 1;unfold yQ;rw[hxk];exact this
 have h3:=VR (X:=yQ) (h2.perm (M:=yQ (x,⟨none,0,0⟩)::lZ yQ l'::ax g [.slice s'.a s'.n s'.c]::rws 3 s' (l'.map n7++[n7 (x,⟨none,0,0⟩)])::R) GP);rw[List.map_append];exact h3.perm GP
end
theorem LS{n:Nat}{d:(Nat→bn)→bn}{Y:Nat→bn}{args:List Value}{w:World}{c:Value→aq}(h:d Y args w c):Cz [(n,d)] n Y args w c:=by
 unfold Cz;rw[Nat.beq_refl];exact h
section
variable {w0 w:World} {L R:List HP} {g:Nat} {T:List Kt} {f:HP→List HP}
abbrev bwI:List (Nat×((Nat→bn)→bn)):=[(jd,je)]
abbrev allI:List (Nat×((Nat→bn)→bn)):=[(mV,mW)]
theorem arp{Y:Nat→bn}{v:Value}{a:Addr}{w:World}{c:Value→aq}(h:ob Y v a w λr w=>c (.tuple #[]) w):je Y [v,.pointer (some a)] w c:=h
theorem anz{Y:Nat→bn}{v:Value}{a:Addr}{w:World}{c:Value→aq}(h:BU Y v a w λr w=>c (.tuple #[]) w):mW Y [v,.pointer (some a)] w c:=h
theorem ahs{G:List Int→HP}{s:Sl}{xs:List Int}{body:Int×Int→World→(aq)→Prop}{fin:Nat→aq}(h:St w0 w (G []::bP 1 s (ints xs)::R))(hx:xs.length≤1000000)
  (hb:∀(zs:List Int) (i x:Int) (w1:World) (Rr:List HP) (C:aq),(∃ys,xs=ys++x::zs)→St w0 w1 (G zs::Rr)→(∀w2,St w0 w2 (G (x::zs)::Rr)→C w2)→body (i,x) w1 C)
  (hf:∀D w',St w0 w' (obj D (.deferred (some []))::G xs::bP 1 s (ints xs)::R)→fin D w'):
  dh s w λv w=>BQ (Cz bwI) [.i .i64,.i .i64] v w body fin:=by
 unfold dh;have xg:s.n=xs.length:=by have:=uN (s:=s) (vs:=ints xs) h;simpa using this
 refine av h λgb w h=> ?_;refine Sb h λlr D Rc w h=> ?_;refine LS (arp (v:= .func (.yield lr) #[] #[]) (a:=⟨gb,0,none⟩) ?_);unfold ob qj;with_reducible repeat' (first|refine sY h ?_|fail)
 have e0:aG .i64 (((s.n:Nat):Int) - 1)=((xs.length:Nat):Int) - 1:=by rw[xg,lY ⟨ah,ah⟩]
 refine⟨xs.length+1,?_⟩;show jP _ _ (aG .i64 (((s.n:Nat):Int) - 1)) _;rw[e0];have key:∀(m:Nat) (w:World),m≤xs.length→St w0 w (obj lr (Rc .ready)::obj D (.deferred (some []))::ax gb #[Value.slice s.a s.n s.c].toList::G (xs.drop m)::bP 1 s (ints xs)::R)→
   jP (S:=Int) (λC2 i3 w4=>ap (decide (i3≥(0:Int))) (cC w4 ⟨gb,0,none⟩ λs5=>cZ s5 i3 1 λa6=>aN .i64 w4 a6 λi7=>m5 (Jq [] (rY lr Rc [.i .i64,.i .i64] body)) (.func (.yield lr) #[] #[]) #[(.int .i64 i3),(.int .i64 i7)] w4 λv8 w9=>HL v8 λb10=>
    ap (!b10) (w9.heap[lr]?=some (Rc .ready)∧fin D (w9.putObj lr (Rc .exhausted))) (C2 (aG .i64 (i3 - (1:Int))) w9)) (w4.heap[lr]?=some (Rc .ready)∧fin D (w4.putObj lr (Rc .exhausted)))) (m+1) ((m:Int) - 1) w:=by
  intro m;induction m with
  |zero=>
   intro w _ h;unfold jP;refine bh fY ?_;refine aa3 (g:=lr) (o:=Rc .ready) (o':=Rc .exhausted) (c:=fin D) h λw h=>hf D w ?_;have h:=(h.rm 2 rfl).rm 0 rfl;simpa using h
  |succ m ih=>
   intro w hm h;have hlt:m<xs.length:=ah;have hd:xs.drop m=xs[m]::xs.drop (m+1):=List.drop_eq_getElem_cons hlt;unfold jP;refine bO bc ?_;with_reducible repeat' (first|refine sY h ?_|fail)
   have ei:(((m+1:Nat):Int) - 1)=(m:Int):=ah;rw[ei];refine vI (s:=s) (vs:=ints xs) h ah (x:=xs[m]) (by simp[ints,hlt]) ?_
   refine P9 ?_;refine alD (l:=lr) (R:=Rc) (kk:=[.i .i64,.i .i64]) ((m:Int),xs[m]) (λc hc=>hc) h λw h=> ?_;have h:=h.front 3 rfl;simp only[Iw]at h;refine hb (xs.drop (m+1)) m xs[m] w _ _ ⟨xs.take m,?_⟩ h λw h=> ?_
   ·rw[←hd,List.take_append_drop]
   refine⟨Da (g:=lr) (o:=Rc .busy) h,?_⟩;replace h:=Aq (g:=lr) (o:=Rc .busy) (Rc .ready) h;generalize w.putObj lr (Rc .ready)=w at h ⊢;refine afb ?_;with_reducible repeat' (first|refine fE ?_|fail)
   rw[lY ⟨ah,ah⟩];refine ih w ah ?_;rw[hd];exact h.perm GP
 exact key xs.length w (iv _) (by simpa using h)
inductive Dfs (T:List Kt):List Int→List (Int×Int)→Prop
 |nil:Dfs T [] []
 |cons {x:Int} {t:Kt} {st:List Int} {l:List (Int×Int)}:Gs T x=some t→Dfs T (t.kids++st) l→Dfs T (x::st) ((x,t.parent)::l)
theorem Dfs.len{st:List Int}{l:List (Int×Int)}(h:Dfs T st l):st.length≤l.length:=by
 induction h with
 |nil=>simp
 |cons _ _ ih=>simp only[tV,List.length_cons]at*;omega
theorem arq{G:List (Int×Int)→HP}{l:List (Int×Int)}{body:Int×Int→World→(aq)→Prop}{fin:Nat→aq}(h:St w0 w (G []::Cr g T::R))(hT:∀(i:Nat) (x:Kt),T[i]?=some x→x.kids.length≤1000000)(hl:l.length≤100000)
  (hD:if T.length=0 then l=[]else Dfs T [0] l)
  (hb:∀(done rest:List (Int×Int)) (p:Int×Int) (w1:World) (Rr:List HP) (C:aq),l=done++p::rest→St w0 w1 (G done::Rr)→(∀w2,St w0 w2 (G (done++[p])::Rr)→C w2)→body p w1 C)
  (hf:∀D w',St w0 w' (obj D (.deferred (some []))::G l::Cr g T::R)→fin D w'):
  iT (some ⟨g,0,none⟩) w λv w=>BQ (Cz allI) [.i .i64,.i .i64] v w body fin:=by
 unfold iT;refine av h λga w h=> ?_;refine Sb h λlr D Rc w h=> ?_;refine LS (anz (v:= .func (.yield lr) #[] #[]) (a:=⟨ga,0,none⟩) ?_);unfold BU D0;with_reducible repeat' (first|refine lW h ?_|refine av h λgx w h=> ?_|fail)
 refine al0 (g:=g) (T:=T) h ?_;by_cases hT0:T.length=0
 ·rw[if_pos hT0]at hD;subst hD;refine bO (by simp[AI,hT0]) ?_
  refine aa3 (g:=lr) (o:=Rc .ready) (o':=Rc .exhausted) (c:=fin D) h λw h=>hf D w ?_;exact((h.rm 0 rfl).rm 2 rfl).rm 0 rfl
 rw[if_neg hT0]at hD;refine bh (by simp[AI];omega) ?_
 have h:=h.rm 0 rfl;simp only[Iw]at h;refine av h λgz w h=>av h λgl w h=> ?_;with_reducible repeat' (first|refine qY h λw h=> ?_|fail)
 have h:=h.front 1 rfl;simp only[Iw]at h;have h:=St.asS (g:=gz) (n:=1) (sz:=1) (cs:=[.int .i64 0]) h (by rfl) ah (by intro x hx;simp at hx;subst hx;rfl)
 have h:=P8 h;refine Qa (G:=List (Int×Int)×List Int×List (Int×Int)×Sl) (λq x w=>l=q.2.2.1++q.1∧Dfs T q.2.1 q.1∧
   St w0 w (Iu x.2::bP 1 q.2.2.2 (ints q.2.1.reverse)::ax gl [.slice q.2.2.2.a q.2.2.2.n q.2.2.2.c]::obj lr (Rc .ready)::obj D (.deferred (some []))::ax ga [Value.pointer (some ⟨g,0,none⟩)]::G q.2.2.1::Cr g T::R)) (λq=>q.1.length)
  (g:=(l,[0],[],⟨some ⟨gz,0,none⟩,1,1⟩)) ⟨rfl,hD,h⟩ ?_
 rintro⟨rest,st,done,s⟩ ⟨_,ds⟩ w ⟨hl',hD',h⟩ C hC;dsimp only at hl' hD' h hC;have xg:=uN (s:=s) (vs:=ints st.reverse) h;have xg:s.n=st.length:=by simpa using xg
 with_reducible repeat' (first|refine sY h ?_|fail)
 have hlen:=hD'.len;have hrl:rest.length≤100000:=by rw[hl']at hl;simp at hl;omega
 cases hD' with
 |nil=>
  refine bh (by simp[xg]) ?_
  refine K5 h λw h=> ?_;rw[List.append_nil]at hl';subst hl';refine aa3 (g:=lr) (o:=Rc .ready) (o':=Rc .exhausted) (c:=fin D) h λw h=>hf D w ?_;exact(((h.rm 0 rfl).rm 0 rfl).rm 0 rfl).rm 1 rfl
 |@cons x t st rest hx hD'=>
  have xg:s.n=st.length+1:=by simpa using xg
  have hxx:=xq hx;simp only[List.length_cons]at hlen hrl;refine bO (by simp[xg]) ?_
  with_reducible repeat' (first|refine sY h ?_|fail)
  have e0:aG .i64 (((s.n:Nat):Int) - 1)=(st.length:Nat):=by rw[xg,lY ⟨ah,ah⟩];omega
  show cZ s (aG .i64 (((s.n:Nat):Int) - 1)) 1 _;rw[e0];refine vI (s:=s) (vs:=ints (x::st).reverse) h ah (x:=x) (by simp[ints]) ?_
  with_reducible repeat' (first|refine sY h ?_|fail)
  show Sw s 1 0 (aG .i64 (((s.n:Nat):Int) - 1)) _;rw[e0];refine alF (s:=s) (vs:=ints (x::st).reverse) h ah (by simp;omega) λs2 Im h=> ?_
  have e1:(ints (x::st).reverse).take ((st.length:Nat):Int).toNat=ints st.reverse:=by
   rw[kR,show ints (x::st).reverse=ints st.reverse++[.int .i64 x] by simp[ints],List.take_append_of_le_length bc,List.take_of_length_le (by simp[ints])]
  rw[e1]at h;with_reducible repeat' (first|refine an ?_|refine lW h ?_|refine qY h λw h=> ?_|fail)
  refine arn (T:=T) h hx ?_;refine P9 ?_;refine alD (l:=lr) (R:=Rc) (kk:=[.i .i64,.i .i64]) (x,t.parent) (λc hc=>hc) h λw h=> ?_;have h:=h.front 6 rfl;simp only[Iw]at h;refine hb done rest (x,t.parent) w _ _ hl' h λw h=> ?_;refine⟨Da (g:=lr) (o:=Rc .busy) h,?_⟩;replace h:=Aq (g:=lr) (o:=Rc .busy) (Rc .ready) h;generalize w.putObj lr (Rc .ready)=w at h ⊢;refine afb ?_;with_reducible repeat' (first|refine an ?_|refine lW h ?_|refine fE ?_|fail)
  have h:=h.front 7 rfl;simp only[Iw]at h;obtain⟨sk,lk,hlk,h⟩:=Sf h;obtain⟨si,hi⟩:=map_fst hlk hxx.2.2;with_reducible repeat' (first|refine j5 h ?_|fail)
  refine rS (s:=sk) (sz:=3) (es:=lk.map n7) h hxx.2.1 (e:=n7 (t,si)) (by rw[pz,hi];rfl) rfl ?_
  have h:=h.front 2 rfl;simp only[Iw]at h;have h:St w0 w (bP 1 si (ints t.kids)::lZ yQ (lk.eraseIdx x.toNat)::ax g [.slice sk.a sk.n sk.c]::rws 3 sk (lk.map n7)::G (done++[(x,t.parent)])::Iu ds::bP 1 s2 (ints st.reverse)::ax gl [.slice s2.a s2.n s2.c]::obj lr (Rc .ready)::obj D (.deferred (some []))::ax ga [Value.pointer (some ⟨g,0,none⟩)]::R):=Iy h hi;have hkl:=hT _ t hxx.2.2;refine ahs (w0:=w0) (G:=λzs=>FV λq:Sl=>mG [bP 1 q (ints (st.reverse++zs.reverse)),ax gl [.slice q.a q.n q.c]]) (s:=si) (xs:=t.kids) (R:=lZ yQ (lk.eraseIdx x.toNat)::ax g [.slice sk.a sk.n sk.c]::rws 3 sk (lk.map n7)::G (done++[(x,t.parent)])::Iu ds::obj lr (Rc .ready)::obj D (.deferred (some []))::ax ga [Value.pointer (some ⟨g,0,none⟩)]::R)
   ?_ hkl (λzs i z w1 Rr C1 hz h GJ=> ?_) λD2 w h=> ?_
  ·refine St.ex (X:=λq:Sl=>mG [bP 1 q (ints (st.reverse++([]:List Int).reverse)),ax gl [.slice q.a q.n q.c]]) s2 (St.shut ?_);simp only[List.reverse_nil,List.append_nil];exact h.perm GP
  ·obtain⟨q,h⟩:=St.some h;have h:=St.open h;simp only[List.cons_append,List.nil_append]at h;with_reducible repeat' (first|refine sY h ?_|refine av h λgx w h=> ?_|fail)
   have hl3:=hD'.len;simp only[tV]at hl3;obtain⟨ys,hys⟩:=hz;have hzl:zs.length≤t.kids.length:=by rw[hys];simp;omega
   refine K7 (s:=q) (vs:=ints (st.reverse++zs.reverse)) h aro be rfl (by simp;omega) ah λs' w h hn=> ?_
   with_reducible repeat' (first|refine qY h λw h=> ?_|fail)
   have h:=h.rm 0 rfl;refine GJ w (St.ex (X:=λq:Sl=>mG [bP 1 q (ints (st.reverse++(z::zs).reverse)),ax gl [.slice q.a q.n q.c]]) s' (St.shut ?_));have e3:ints (st.reverse++(z::zs).reverse)=ints (st.reverse++zs.reverse)++[.int .i64 z]:=by simp[ints]
   rw[e3];exact h
  ·have h:=h.front 1 rfl;simp only[Iw]at h;obtain⟨q,h⟩:=St.some h;have h:=St.open h;simp only[List.cons_append,List.nil_append]at h;have e4:ints (st.reverse++t.kids.reverse)=ints (t.kids++st).reverse:=by simp
   rw[e4]at h;refine hC (rest,t.kids++st,done++[(x,t.parent)],q) ((),D2::ds) w ⟨by rw[hl'];simp,hD',?_⟩ bc
   have h:=h.perm (M:=obj D2 (.deferred (some []))::Iu ds::yQ (t,si)::lZ yQ (lk.eraseIdx x.toNat)::ax g [.slice sk.a sk.n sk.c]::rws 3 sk (lk.map n7)::bP 1 q (ints (t.kids++st).reverse)::ax gl [.slice q.a q.n q.c]::obj lr (Rc .ready)::obj D (.deferred (some []))::ax ga [Value.pointer (some ⟨g,0,none⟩)]::G (done++[(x,t.parent)])::R) (by unfold yQ;repeat' (first|exact List.Perm.refl _|refine bx 0 rfl ?_|refine bx 1 rfl ?_|refine bx 2 rfl ?_|refine bx 3 rfl ?_|refine bx 4 rfl ?_|refine bx 5 rfl ?_|refine bx 6 rfl ?_|refine bx 7 rfl ?_))
   have h:=K4 h;have h:=h.perm (M:=yQ (t,si)::lZ yQ (lk.eraseIdx x.toNat)::ax g [.slice sk.a sk.n sk.c]::rws 3 sk (lk.map n7)::Iu (D2::ds)::bP 1 q (ints (t.kids++st).reverse)::ax gl [.slice q.a q.n q.c]::obj lr (Rc .ready)::obj D (.deferred (some []))::ax ga [Value.pointer (some ⟨g,0,none⟩)]::G (done++[(x,t.parent)])::R) GP;have h:=ZV h (kJ.1 hi).1;have hse:lk.set x.toNat (t,si)=lk:=by
    apply List.ext_getElem?;intro j;by_cases hj:x.toNat=j
    ·subst hj;rw[uu (kJ.1 hi).1,hi]
    ·rw[rK hj]
   rw[hse]at h;have h:=X2 hlk (h.perm (M:=ax g [.slice sk.a sk.n sk.c]::rws 3 sk (lk.map n7)::lZ yQ lk::Iu (D2::ds)::bP 1 q (ints (t.kids++st).reverse)::ax gl [.slice q.a q.n q.c]::obj lr (Rc .ready)::obj D (.deferred (some []))::ax ga [Value.pointer (some ⟨g,0,none⟩)]::G (done++[(x,t.parent)])::R) GP);exact h.perm GP
theorem aht{l:List (Int×Int)}{k:Sl→aq}(h:St w0 w L)[a:At L (Cr g) T f](hT:∀(i:Nat) (x:Kt),T[i]?=some x→x.kids.length≤1000000)(hl:l.length≤100000)
  (hD:if T.length=0 then l=[]else Dfs T [0] l) (hk:∀s w',St w0 w' (bP 1 s (ints (l.map (·.1)))::f (Cr g T))→k s w'):fD (some ⟨g,0,none⟩) w k:=by
 unfold fD D1;obtain⟨R,ho,hb⟩:=a.split;have h:=h.apU ho;refine av h λg1 w h=> ?_;have h:=(h.Jv 1).perm (M:=bP 1 ⟨none,0,0⟩ []::ax g1 [.slice none 0 0]::Cr g T::R) GP;refine arq (w0:=w0) (G:=λdone=>FV λq:Sl=>mG [bP 1 q (ints (done.map (·.1))),ax g1 [.slice q.a q.n q.c]]) (l:=l) (R:=R) ?_ hT hl hD (λdone rest p w Rr C hd h hc=> ?_) λD w h=> ?_
 ·exact St.ex (X:=λq:Sl=>mG [bP 1 q (ints (([]:List (Int×Int)).map (·.1))),ax g1 [.slice q.a q.n q.c]]) ⟨none,0,0⟩ (St.shut h)
 ·obtain⟨q,h⟩:=St.some h;have h:=St.open h;simp only[List.cons_append,List.nil_append]at h;with_reducible repeat' (first|refine sY h ?_|refine av h λgx w h=> ?_|fail)
  have hdl:done.length≤100000:=by rw[hd]at hl;simp at hl;omega
  refine K7 (s:=q) h aro be rfl (by simp;omega) ah λs' w h hn=> ?_
  with_reducible repeat' (first|refine qY h λw h=> ?_|fail)
  have h:=h.rm 0 rfl;refine hc w (St.ex (X:=λq:Sl=>mG [bP 1 q (ints ((done++[p]).map (·.1))),ax g1 [.slice q.a q.n q.c]]) s' (St.shut ?_));have e3:ints ((done++[p]).map (·.1))=ints (done.map (·.1))++[.int .i64 p.1]:=by simp[ints]
  rw[e3];exact h
 ·have h:=h.front 1 rfl;simp only[Iw]at h;obtain⟨q,h⟩:=St.some h;have h:=St.open h;simp only[List.cons_append,List.nil_append]at h;with_reducible repeat' (first|refine sY h ?_|fail)
  have h:=K4 ((P8 h).perm (M:=obj D (.deferred (some []))::Iu []::bP 1 q (ints (l.map (·.1)))::ax g1 [.slice q.a q.n q.c]::Cr g T::R) GP);refine K5 h λw h=>hk q w ?_;exact(h.rm 1 rfl).under hb
end
structure bp where
 at_:Int
 most:Int
 b:Int
 t:Int
 ring:Rg
 x:Int
 won:Bool
 to:Rg
 copy:Option Cp
 next:Nat
 how:Int
 got:Int
 err:Int
def phs:List Nat:=[nL,rL,qM,rP,qO,qQ,oz,qN,om,rM,rN,sy,qP,rQ,qb,o3,o4,qt,pK,oA]
def phF(n:Nat):Value:= .func (.func (phs.getD n oA)) #[] #[]
def bp.cells(O:bp)(p:Option Addr):List Value:=[.int .i64 O.at_,.int .i64 O.most,.int .i64 O.b,.int .i64 O.t,.int .i64 O.ring.At,.int .i64 O.ring.CS,.int .i64 O.x,.bool O.won,.int .i64 O.to.At,.int .i64 O.to.CS,.pointer p,phF O.next,.int .i64 O.how,.int .i64 O.got,.int .i64 O.err]
def uq(g:Nat)(O:bp):HP:=match O.copy with
 |none=>ax g (O.cells none)
 |some c=>FV λgc:Nat=>mG [ax g (O.cells (some ⟨gc,0,none⟩)),PD gc c]
def bp.read(O:bp)(M:bK)(wk:Int):bp×bK×Int:=
 if M.can wk (O.at_+2)then(if (Rg.of (M.get (O.at_+2))).right then({O with ring:=Rg.of (M.get (O.at_+2))},M.tick wk,0)else({O with ring:=Rg.zero},M.tick wk,11))else(O,M,10)
abbrev HW:=bp×bK×Int×Int
section
variable (O:bp) (M:bK) (wk:Int)
def bp.f0:HW:=({O with b:=(M.ld wk (O.at_+1)).2.1,next:=1},(M.ld wk (O.at_+1)).1,0,(M.ld wk (O.at_+1)).2.2)
def bp.f1:HW:=({O with t:=(M.ld wk O.at_).2.1,next:=2},(M.ld wk O.at_).1,0,(M.ld wk O.at_).2.2)
def bp.f2:HW:=if (O.read M wk).2.2 !=0 then((O.read M wk).1,(O.read M wk).2.1,6,(O.read M wk).2.2)
  else if decide (wr ((O.read M wk).1.b - (O.read M wk).1.t)<(O.read M wk).1.ring.size)then({(O.read M wk).1 with next:=6},(O.read M wk).2.1,0,0)
  else if decide ((O.read M wk).1.ring.CS≥(O.read M wk).1.most)then((O.read M wk).1,(O.read M wk).2.1,4,0)
  else({(O.read M wk).1 with next:=3},(O.read M wk).2.1,0,0)
def bp.lg:Int:=wr (O.ring.CS+1)
def bp.LU:Rg:=⟨(M.cells.length:Nat),O.lg⟩
def bp.LV:Int:=((2 ^ O.lg.toNat:Nat):Int)
def bp.f3:HW:=if 0≤O.lg∧O.lg≤8∧M.caller wk=true then
   (if M.room O.LV then
    (if Rw O.ring (O.LU M) O.t O.b=0 then({O with to:=O.LU M,copy:=some (Cp.begin O.ring (O.LU M) O.t O.b),next:=4},(M.tick wk).grow O.LV,0,0)
    else({O with to:=O.LU M,copy:=none,next:=4},(M.tick wk).grow O.LV,0,Rw O.ring (O.LU M) O.t O.b))
   else(O,M,6,21))
  else(O,M,6,10)
def bp.f4(c:Cp):HW:=if c.at_=c.jW then({O with next:=5},M,0,0)
   else if M.can wk c.spot then
    (if c.BV then({O with copy:=some (c.next 0),next:=if (c.next 0).at_=c.jW then 5 else O.next},(M.tick wk).put c.spot c.has,0,0)
    else({O with copy:=some (c.next (M.get c.spot))},M.tick wk,0,0))
   else(O,M,0,10)
def bp.f5:HW:=({O with ring:=O.to,next:=6},(M.st wk (O.at_+2) O.to.word).1,0,(M.st wk (O.at_+2) O.to.word).2)
def bp.f6:HW:=({O with next:=7},(M.st wk (O.ring.place O.b) O.x).1,0,(M.st wk (O.ring.place O.b) O.x).2)
def bp.f7:HW:=(O,(M.st wk (O.at_+1) (wr (O.b+1))).1,1,(M.st wk (O.at_+1) (wr (O.b+1))).2)
def bp.f8:HW:=({O with b:=(M.ld wk (O.at_+1)).2.1,next:=9},(M.ld wk (O.at_+1)).1,0,(M.ld wk (O.at_+1)).2.2)
def bp.f9:HW:=((bp.read {O with next:=10} M wk).1,(bp.read {O with next:=10} M wk).2.1,0,(bp.read {O with next:=10} M wk).2.2)
def bp.f10:HW:=({O with next:=11},(M.st wk (O.at_+1) (wr (O.b - 1))).1,0,(M.st wk (O.at_+1) (wr (O.b - 1))).2)
def bp.f11:HW:=({O with t:=(M.ld wk O.at_).2.1,next:=if decide ((M.ld wk O.at_).2.1>wr (O.b - 1))then 14 else 12},(M.ld wk O.at_).1,0,(M.ld wk O.at_).2.2)
def bp.f12:HW:=({O with got:=(M.ld wk (O.ring.place (wr (O.b - 1)))).2.1,next:=13},(M.ld wk (O.ring.place (wr (O.b - 1)))).1,if decide (O.t<wr (O.b - 1))then 1 else 0,(M.ld wk (O.ring.place (wr (O.b - 1)))).2.2)
def bp.f13:HW:=({O with won:=(M.UU wk O.at_ O.t (wr (O.t+1))).2.1,next:=14},(M.UU wk O.at_ O.t (wr (O.t+1))).1,0,(M.UU wk O.at_ O.t (wr (O.t+1))).2.2)
def bp.f14:HW:=(O,(M.st wk (O.at_+1) O.b).1,if O.won then 1 else 3,(M.st wk (O.at_+1) O.b).2)
def bp.f15:HW:=({O with t:=(M.ld wk O.at_).2.1,next:=16},(M.ld wk O.at_).1,0,(M.ld wk O.at_).2.2)
def bp.f16:HW:=({O with b:=(M.ld wk (O.at_+1)).2.1,next:=17},(M.ld wk (O.at_+1)).1,if decide (O.t≥(M.ld wk (O.at_+1)).2.1)then 3 else 0,(M.ld wk (O.at_+1)).2.2)
def bp.f17:HW:=((bp.read {O with next:=18} M wk).1,(bp.read {O with next:=18} M wk).2.1,0,(bp.read {O with next:=18} M wk).2.2)
def bp.f18:HW:=({O with got:=(M.ld wk (O.ring.place O.t)).2.1,next:=19},(M.ld wk (O.ring.place O.t)).1,2,(M.ld wk (O.ring.place O.t)).2.2)
def bp.f19:HW:=(O,(M.UU wk O.at_ O.t (wr (O.t+1))).1,if !(M.UU wk O.at_ O.t (wr (O.t+1))).2.1 then 5 else 1,(M.UU wk O.at_ O.t (wr (O.t+1))).2.2)
def bp.run:HW:=match O.next with
 |0=>O.f0 M wk
 |1=>O.f1 M wk
 |2=>O.f2 M wk
 |3=>O.f3 M wk
 |4=>match O.copy with
  |none=>(O,M,0,2)
  |some c=>O.f4 M wk c
 |5=>O.f5 M wk
 |6=>O.f6 M wk
 |7=>O.f7 M wk
 |8=>O.f8 M wk
 |9=>O.f9 M wk
 |10=>O.f10 M wk
 |11=>O.f11 M wk
 |12=>O.f12 M wk
 |13=>O.f13 M wk
 |14=>O.f14 M wk
 |15=>O.f15 M wk
 |16=>O.f16 M wk
 |17=>O.f17 M wk
 |18=>O.f18 M wk
 |_=>O.f19 M wk
end
def bp.live(O:bp):Bool:=(O.how==0)||(O.how==2)
def bp.step(O:bp)(M:bK)(wk:Int):bp×bK:=
 if O.live then({(O.run M wk).1 with how:=if (O.run M wk).2.2.2=0 then(O.run M wk).2.2.1 else 6,err:=(O.run M wk).2.2.2},(O.run M wk).2.1)else(O,M)
section
variable {w0 w:World} {L R:List HP} {gm go:Nat} {M:bK} {O:bp} {p:Option Addr} {wk:Int} {f:HP→List HP}
def yY(x:Int):Prop:=0≤x∧x≤1048576
theorem abt{at_ most:Int}{k:Int→aq}(h:St w0 w L)(hk:∀w',St w0 w' L→k at_ w'):bE #[.int .i64 at_,.int .i64 most] w k:=by
 unfold bE;exact av h λg w' h=>cn (g:=g) (o:=0) h rfl (hk w' h.drop)
theorem CI{at_ most:Int}{k:Int→aq}(hA:yY at_)(h:St w0 w L)(hk:∀w',St w0 w' L→k (at_+1) w'):aJ #[.int .i64 at_,.int .i64 most] w k:=by
 unfold aJ;unfold yY at hA;refine av h λg w' h=>cn (g:=g) (o:=0) h rfl ?_;rw[lY ⟨ah,ah⟩];exact hk w' h.drop
theorem abu{at_ most:Int}{k:Int→aq}(hA:yY at_)(h:St w0 w L)(hk:∀w',St w0 w' L→k (at_+2) w'):cH #[.int .i64 at_,.int .i64 most] w k:=by
 unfold cH;unfold yY at hA;refine av h λg w' h=>cn (g:=g) (o:=0) h rfl ?_;rw[lY ⟨ah,ah⟩];exact hk w' h.drop
theorem Gt{cs:List Value}{a':Int}{off:Nat}{nx:Value}{k:Int×Int→aq}(h:St w0 w (ax go cs::bI gm M::R))(ho:off<cs.length)(hn:11<cs.length)(hx:nx.oneCell'=true)
  (hk:∀w',St w0 w' (ax go ((cs.set off (.int .i64 (M.ld wk a').2.1)).set 11 nx)::bI gm (M.ld wk a').1::R)→k (0,(M.ld wk a').2.2) w'):aZ (some ⟨go,0,none⟩) (some ⟨gm,0,none⟩) wk a' (some ⟨go,off,none⟩) nx w k:=by
 unfold aZ Fc;refine ZY (gm:=gm) (M:=M) h λw2 h=>an (jY (g:=go) (o:=off) h rfl ho λw4 h=>an ?_);refine jY (g:=go) (o:=11) h hx (by simpa using hn) λw6 h=>hk w6 h
theorem X3{cs:List Value}{a' x:Int}{nx:Value}{k:Int×Int→aq}(h:St w0 w (ax go cs::bI gm M::R))(hn:11<cs.length)(hx:nx.oneCell'=true)
  (hk:∀w',St w0 w' (ax go (cs.set 11 nx)::bI gm (M.st wk a' x).1::R)→k (0,(M.st wk a' x).2) w'):dg (some ⟨go,0,none⟩) (some ⟨gm,0,none⟩) wk a' x nx w k:=by
 unfold dg DG;refine an (jY (g:=go) (o:=11) h hx hn λw2 h=> ?_);exact Rx (gm:=gm) (M:=M) h λw4 h=>hk w4 h
theorem afH(hA:yY O.at_){k:Int→aq}(h:St w0 w (ax go (O.cells p)::bI gm M::R))(hk:∀w',St w0 w' (ax go ((O.read M wk).1.cells p)::bI gm (O.read M wk).2.1::R)→k (O.read M wk).2.2 w'):dK (some ⟨go,0,none⟩) (some ⟨gm,0,none⟩) wk w k:=by
 unfold dK Fe;refine an (qz (g:=go) (o:=0) h (by simp[bp.cells]) ?_)
 refine abu (most:=O.most) hA h λw4 h=> ?_;unfold bp.read at hk;refine afD (g:=gm) (M:=M) h (λhc w6 h=> ?_) λhc=> ?_
 ·rw[if_pos hc]at hk;refine bh rfl (aBN h λw8 h=> ?_);cases hr:(Rg.of (M.get (O.at_+2))).right with
  |true=>
   rw[if_pos hr]at hk;rw[if_pos rfl];refine an (Xv (g:=go) (o:=4) (n:=2) h rfl (by simp[bp.cells]) (by intro v hv;simp[Rg.ag]at hv;rcases hv with rfl|rfl<;>rfl) λw10 h=>hk w10 h)
  |false=>
   rw[if_neg (by rw[hr];simp)]at hk
   rw[if_neg bc];refine an (Xv (g:=go) (o:=4) (n:=2) h rfl (by simp[bp.cells]) (by intro v hv;simp[Rg.ag,Rg.zero]at hv;rw[hv];rfl) λw10 h=>hk w10 h)
 ·rw[if_neg (by rw[hc];simp)]at hk
  exact bO rfl (hk w4 h)
end
section
variable {w0 w:World} {L R:List HP} {gm go:Nat} {M:bK} {O:bp} {p:Option Addr} {wk:Int} {k:Int×Int→aq}
abbrev NK(w0:World)(go gm:Nat)(p:Option Addr)(R:List HP)(k:Int×Int→aq)(r:HW):Prop:=∀w',St w0 w' (ax go (r.1.cells p)::bI gm r.2.1::R)→k (r.2.2.1,r.2.2.2) w'
theorem p0(hA:yY O.at_)(h:St w0 w (ax go (O.cells p)::bI gm M::R))(hk:NK w0 go gm p R k (O.f0 M wk)):eY (some ⟨go,0,none⟩) (some ⟨gm,0,none⟩) wk w k:=by
 unfold eY vS;refine aF h λw1 h=>an (qz (g:=go) (o:=0) h (by simp[bp.cells]) (an ?_))
 refine CI (most:=O.most) hA h λw6 h=> ?_;exact Gt (off:=2) h (by simp[bp.cells]) (by simp[bp.cells]) rfl λw8 h=>hk w8 h
theorem p1(hA:yY O.at_)(h:St w0 w (ax go (O.cells p)::bI gm M::R))(hk:NK w0 go gm p R k (O.f1 M wk)):iD (some ⟨go,0,none⟩) (some ⟨gm,0,none⟩) wk w k:=by
 unfold iD A1;refine aF h λw1 h=>an (qz (g:=go) (o:=0) h (by simp[bp.cells]) (an ?_))
 refine abt (most:=O.most) h λw6 h=> ?_;exact Gt (off:=3) h (by simp[bp.cells]) (by simp[bp.cells]) rfl λw8 h=>hk w8 h
theorem p2(hA:yY O.at_)(h:St w0 w (ax go (O.cells p)::bI gm M::R))(hk:NK w0 go gm p R k (O.f2 M wk)):gJ (some ⟨go,0,none⟩) (some ⟨gm,0,none⟩) wk w k:=by
 unfold gJ zk;refine afH hA h λw2 h=> ?_;unfold bp.f2 at hk;generalize O.read M wk=r at h hk;refine ay (λhb=> ?_) λhb=> ?_
 ·rw[if_pos hb]at hk;exact hk w2 h
 ·rw[if_neg (by rw[hb];simp)]at hk
  refine aF h λw3 h=>an (cn (g:=go) (o:=2) h rfl (an (cn (g:=go) (o:=3) h rfl (an (qz (g:=go) (o:=4) h (by simp[bp.cells]) ?_)))))
  have h3:=h;refine ZX (r:=r.1.ring) h λw11 h=>eT (g:=go) h3 h (eT (g:=go) h3 h ?_);refine ay (λhb=> ?_) λhb=> ?_
  ·have hb':decide (wr (r.1.b - r.1.t)<r.1.ring.size)=true:=hb;rw[if_pos hb']at hk;exact an (jY (g:=go) (o:=11) h rfl (by simp[bp.cells]) λw13 h=>hk w13 h)
  ·have hb':decide (wr (r.1.b - r.1.t)<r.1.ring.size)=false:=hb;rw[if_neg (by rw[hb'];simp)]at hk
   refine aF h λw14 h=>an (cn (g:=go) (o:=5) h rfl (an (cn (g:=go) (o:=1) h rfl ?_)));refine ay (λhb=> ?_) λhb=> ?_
   ·rw[if_pos hb]at hk;exact hk w14 h
   ·rw[if_neg (by rw[hb];simp)]at hk
    exact an (jY (g:=go) (o:=11) h rfl (by simp[bp.cells]) λw20 h=>hk w20 h)
theorem p5(hA:yY O.at_)(h:St w0 w (ax go (O.cells p)::bI gm M::R))(hk:NK w0 go gm p R k (O.f5 M wk)):gK (some ⟨go,0,none⟩) (some ⟨gm,0,none⟩) wk w k:=by
 unfold gK zm;refine an (qz (g:=go) (o:=8) h (by simp[bp.cells]) (an ?_))
 refine Xv (g:=go) (o:=4) (n:=2) h rfl (by simp[bp.cells]) (by intro v hv;simp[bp.cells]at hv;rcases hv with rfl|rfl<;>rfl) λw4 h=> ?_
 have h:St w0 w4 (ax go (bp.cells {O with ring:=O.to} p)::bI gm M::R):=h;refine aF h λw5 h=>an (qz (g:=go) (o:=0) h (by simp[bp.cells]) (an (qz (g:=go) (o:=4) h (by simp[bp.cells]) ?_)))
 have h5:=h;refine abu (most:=O.most) hA h λw11 h=>eT (g:=go) h5 h ?_;refine alW (r:=O.to) h λw13 h=> ?_;exact X3 h (by simp[bp.cells]) rfl λw15 h=>hk w15 h
theorem p6(hA:yY O.at_)(h:St w0 w (ax go (O.cells p)::bI gm M::R))(hk:NK w0 go gm p R k (O.f6 M wk)):fJ (some ⟨go,0,none⟩) (some ⟨gm,0,none⟩) wk w k:=by
 unfold fJ xK;refine aF h λw1 h=>an (qz (g:=go) (o:=4) h (by simp[bp.cells]) (an (cn (g:=go) (o:=2) h rfl (an (cn (g:=go) (o:=6) h rfl ?_)))))
 have h1:=h;refine Rv (r:=O.ring) h λw9 h=>eT (g:=go) h1 h ?_;exact X3 h (by simp[bp.cells]) rfl λw11 h=>hk w11 h
theorem p7(hA:yY O.at_)(h:St w0 w (ax go (O.cells p)::bI gm M::R))(hk:NK w0 go gm p R k (O.f7 M wk)):gL (some ⟨go,0,none⟩) (some ⟨gm,0,none⟩) wk w k:=by
 unfold gL zn;refine aF h λw1 h=>an (qz (g:=go) (o:=0) h (by simp[bp.cells]) (an (cn (g:=go) (o:=2) h rfl ?_)))
 have h1:=h;refine CI (most:=O.most) hA h λw7 h=>eT (g:=go) h1 h ?_;exact Rx (gm:=gm) (M:=M) h λw9 h=>hk w9 h
theorem p8(hA:yY O.at_)(h:St w0 w (ax go (O.cells p)::bI gm M::R))(hk:NK w0 go gm p R k (O.f8 M wk)):fK (some ⟨go,0,none⟩) (some ⟨gm,0,none⟩) wk w k:=by
 unfold fK xL;refine aF h λw1 h=>an (qz (g:=go) (o:=0) h (by simp[bp.cells]) (an ?_))
 refine CI (most:=O.most) hA h λw6 h=> ?_;exact Gt (off:=2) h (by simp[bp.cells]) (by simp[bp.cells]) rfl λw8 h=>hk w8 h
theorem p9(hA:yY O.at_)(h:St w0 w (ax go (O.cells p)::bI gm M::R))(hk:NK w0 go gm p R k (O.f9 M wk)):iE (some ⟨go,0,none⟩) (some ⟨gm,0,none⟩) wk w k:=by
 unfold iE A3;refine an (jY (g:=go) (o:=11) h rfl (by simp[bp.cells]) λw2 h=> ?_)
 have h:St w0 w2 (ax go (bp.cells {O with next:=10} p)::bI gm M::R):=h
 exact afH (O:={O with next:=10}) hA h λw4 h=>hk w4 h
theorem p10(hA:yY O.at_)(h:St w0 w (ax go (O.cells p)::bI gm M::R))(hk:NK w0 go gm p R k (O.f10 M wk)):iF (some ⟨go,0,none⟩) (some ⟨gm,0,none⟩) wk w k:=by
 unfold iF A4;refine aF h λw1 h=>an (qz (g:=go) (o:=0) h (by simp[bp.cells]) (an (cn (g:=go) (o:=2) h rfl ?_)))
 have h1:=h;refine CI (most:=O.most) hA h λw7 h=>eT (g:=go) h1 h ?_;exact X3 h (by simp[bp.cells]) rfl λw9 h=>hk w9 h
theorem p11(hA:yY O.at_)(h:St w0 w (ax go (O.cells p)::bI gm M::R))(hk:NK w0 go gm p R k (O.f11 M wk)):jA (some ⟨go,0,none⟩) (some ⟨gm,0,none⟩) wk w k:=by
 unfold jA Ch;refine aF h λw1 h=>an (qz (g:=go) (o:=0) h (by simp[bp.cells]) (an ?_))
 refine abt (most:=O.most) h λw6 h=> ?_;unfold bp.f11 at hk;refine Gt (off:=3) h (by simp[bp.cells]) (by simp[bp.cells]) rfl λw8 h=> ?_
 refine aF h λw9 h=>an (cn (g:=go) (o:=3) (n:=(M.ld wk O.at_).2.1) h rfl (an (cn (g:=go) (o:=2) (n:=O.b) h rfl ?_)));refine ay (λhb=> ?_) λhb=> ?_
 ·have hb':decide ((M.ld wk O.at_).2.1>wr (O.b - 1))=true:=hb;rw[if_pos hb']at hk;exact an (jY (g:=go) (o:=11) h rfl (by simp[bp.cells]) λw15 h=>hk w15 h)
 ·have hb':decide ((M.ld wk O.at_).2.1>wr (O.b - 1))=false:=hb;rw[if_neg (by rw[hb'];simp)]at hk
  exact hk w9 h
theorem p12(hA:yY O.at_)(h:St w0 w (ax go (O.cells p)::bI gm M::R))(hk:NK w0 go gm p R k (O.f12 M wk)):gM (some ⟨go,0,none⟩) (some ⟨gm,0,none⟩) wk w k:=by
 unfold gM zo;refine aF h λw1 h=>an (qz (g:=go) (o:=4) h (by simp[bp.cells]) (an (cn (g:=go) (o:=2) h rfl (an ?_))))
 refine Rv (r:=O.ring) h λw8 h=> ?_;unfold bp.f12 at hk;refine Gt (off:=13) h (by simp[bp.cells]) (by simp[bp.cells]) rfl λw10 h=> ?_
 refine aF h λw11 h=>an (cn (g:=go) (o:=3) (n:=O.t) h rfl (an (cn (g:=go) (o:=2) (n:=O.b) h rfl ?_)));refine ay (λhb=> ?_) λhb=> ?_
 ·have hb':decide (O.t<wr (O.b - 1))=true:=hb;rw[if_pos hb']at hk;exact hk w11 h
 ·have hb':decide (O.t<wr (O.b - 1))=false:=hb;rw[if_neg (by rw[hb'];simp)]at hk
  exact hk w11 h
theorem p13(hA:yY O.at_)(h:St w0 w (ax go (O.cells p)::bI gm M::R))(hk:NK w0 go gm p R k (O.f13 M wk)):iG (some ⟨go,0,none⟩) (some ⟨gm,0,none⟩) wk w k:=by
 unfold iG A5;refine aF h λw1 h=>an (qz (g:=go) (o:=0) h (by simp[bp.cells]) (an (cn (g:=go) (o:=3) h rfl (an (cn (g:=go) (o:=3) h rfl ?_)))))
 have h1:=h;refine abt (most:=O.most) h λw9 h=>eT (g:=go) h1 h (eT (g:=go) h1 h ?_);refine ajM (gm:=gm) (M:=M) h λw11 h=>an (jY (g:=go) (o:=7) h rfl (by simp[bp.cells]) λw13 h=>an (jY (g:=go) (o:=11) h rfl (by simp[bp.cells]) λw15 h=>hk w15 h))
theorem p14(hA:yY O.at_)(h:St w0 w (ax go (O.cells p)::bI gm M::R))(hk:NK w0 go gm p R k (O.f14 M wk)):iH (some ⟨go,0,none⟩) (some ⟨gm,0,none⟩) wk w k:=by
 unfold iH A6;refine an (ajl (g:=go) (o:=7) (n:=O.won) h rfl ?_);unfold bp.f14 at hk;refine ay (λhb=> ?_) λhb=> ?_
 ·rw[if_pos hb]at hk;refine aF h λw1 h=>an (qz (g:=go) (o:=0) h (by simp[bp.cells]) (an (cn (g:=go) (o:=2) h rfl ?_)))
  have h1:=h;refine CI (most:=O.most) hA h λw7 h=>eT (g:=go) h1 h ?_;exact Rx (gm:=gm) (M:=M) h λw9 h=>hk w9 h
 ·rw[if_neg (by rw[hb];simp)]at hk
  refine aF h λw1 h=>an (qz (g:=go) (o:=0) h (by simp[bp.cells]) (an (cn (g:=go) (o:=2) h rfl ?_)))
  have h1:=h;refine CI (most:=O.most) hA h λw7 h=>eT (g:=go) h1 h ?_;exact Rx (gm:=gm) (M:=M) h λw9 h=>hk w9 h
theorem p15(hA:yY O.at_)(h:St w0 w (ax go (O.cells p)::bI gm M::R))(hk:NK w0 go gm p R k (O.f15 M wk)):gN (some ⟨go,0,none⟩) (some ⟨gm,0,none⟩) wk w k:=by
 unfold gN zu;refine aF h λw1 h=>an (qz (g:=go) (o:=0) h (by simp[bp.cells]) (an ?_))
 refine abt (most:=O.most) h λw6 h=> ?_;exact Gt (off:=3) h (by simp[bp.cells]) (by simp[bp.cells]) rfl λw8 h=>hk w8 h
theorem p16(hA:yY O.at_)(h:St w0 w (ax go (O.cells p)::bI gm M::R))(hk:NK w0 go gm p R k (O.f16 M wk)):eC (some ⟨go,0,none⟩) (some ⟨gm,0,none⟩) wk w k:=by
 unfold eC uX;refine aF h λw1 h=>an (qz (g:=go) (o:=0) h (by simp[bp.cells]) (an ?_))
 refine CI (most:=O.most) hA h λw6 h=> ?_;unfold bp.f16 at hk;refine Gt (off:=2) h (by simp[bp.cells]) (by simp[bp.cells]) rfl λw8 h=> ?_
 refine aF h λw9 h=>an (cn (g:=go) (o:=3) (n:=O.t) h rfl (an (cn (g:=go) (o:=2) (n:=(M.ld wk (O.at_+1)).2.1) h rfl ?_)));refine ay (λhb=> ?_) λhb=> ?_
 ·rw[if_pos hb]at hk;exact hk w9 h
 ·rw[if_neg (by rw[hb];simp)]at hk;exact hk w9 h
theorem p17(hA:yY O.at_)(h:St w0 w (ax go (O.cells p)::bI gm M::R))(hk:NK w0 go gm p R k (O.f17 M wk)):fL (some ⟨go,0,none⟩) (some ⟨gm,0,none⟩) wk w k:=by
 unfold fL xM;refine an (jY (g:=go) (o:=11) h rfl (by simp[bp.cells]) λw2 h=> ?_)
 have h:St w0 w2 (ax go (bp.cells {O with next:=18} p)::bI gm M::R):=h
 exact afH (O:={O with next:=18}) hA h λw4 h=>hk w4 h
theorem p18(hA:yY O.at_)(h:St w0 w (ax go (O.cells p)::bI gm M::R))(hk:NK w0 go gm p R k (O.f18 M wk)):eZ (some ⟨go,0,none⟩) (some ⟨gm,0,none⟩) wk w k:=by
 unfold eZ vT;refine aF h λw1 h=>an (qz (g:=go) (o:=4) h (by simp[bp.cells]) (an (cn (g:=go) (o:=3) h rfl (an ?_))))
 refine Rv (r:=O.ring) h λw8 h=> ?_;exact Gt (off:=13) h (by simp[bp.cells]) (by simp[bp.cells]) rfl λw10 h=>hk w10 h
theorem p19(hA:yY O.at_)(h:St w0 w (ax go (O.cells p)::bI gm M::R))(hk:NK w0 go gm p R k (O.f19 M wk)):fM (some ⟨go,0,none⟩) (some ⟨gm,0,none⟩) wk w k:=by
 unfold fM xN;refine aF h λw1 h=>an (qz (g:=go) (o:=0) h (by simp[bp.cells]) (an (cn (g:=go) (o:=3) h rfl (an (cn (g:=go) (o:=3) h rfl ?_)))))
 have h1:=h;refine abt (most:=O.most) h λw9 h=>eT (g:=go) h1 h (eT (g:=go) h1 h ?_);unfold bp.f19 at hk;refine ajM (gm:=gm) (M:=M) h λw11 h=> ?_;refine ay (λhb=> ?_) λhb=> ?_
 ·have hb':(!(M.UU wk O.at_ O.t (wr (O.t+1))).2.1)=true:=hb;rw[if_pos hb']at hk;exact hk w11 h
 ·have hb':(!(M.UU wk O.at_ O.t (wr (O.t+1))).2.1)=false:=hb;rw[if_neg (by rw[hb'];simp)]at hk;exact hk w11 h
end
section
variable {w0 w:World} {L R:List HP} {gm go:Nat} {M:bK} {O:bp} {p:Option Addr} {wk:Int} {k:Int×Int→aq}
theorem rj(hc:O.copy=none):uq go O=ax go (O.cells none):=by unfold uq;rw[hc]
theorem adV{c:Cp}(hc:O.copy=some c):uq go O=FV λgc:Nat=>mG [ax go (O.cells (some ⟨gc,0,none⟩)),PD gc c]:=by unfold uq;rw[hc]
theorem Ia{c:Cp}(hc:O.copy=some c)(h:St w0 w (uq go O::R)):∃gc,St w0 w (ax go (O.cells (some ⟨gc,0,none⟩))::PD gc c::R):=by
 rw[adV hc]at h;obtain⟨gc,h⟩:=h.some;exact⟨gc,h.open⟩
theorem CJ{c:Cp}{gc:Nat}(hc:O.copy=some c)(h:St w0 w (ax go (O.cells (some ⟨gc,0,none⟩))::PD gc c::R)):St w0 w (uq go O::R):=by
 rw[adV hc];exact St.ex (X:=λgc:Nat=>mG [ax go (O.cells (some ⟨gc,0,none⟩)),PD gc c]) gc (St.shut h)
theorem ars{a b:Int}{c:aq}(h:St w0 w (uq go O::R))(hk:∀w',St w0 w' (uq go {O with how:=a,err:=b}::R)→c w'):
  bJ w ⟨go,12,none⟩ (.int .i64 a) λw=>bJ w ⟨go,14,none⟩ (.int .i64 b) c:=by
 cases hc:O.copy with
 |none=>
  rw[rj hc]at h;have e:uq go {O with how:=a,err:=b}=ax go (bp.cells {O with how:=a,err:=b} none):=rj hc;rw[e]at hk;exact jY (g:=go) (o:=12) h rfl (by simp[bp.cells]) λw1 h=>jY (g:=go) (o:=14) h rfl (by simp[bp.cells]) λw2 h=>hk w2 h
 |some c=>
  obtain⟨gc,h⟩:=Ia hc h;refine jY (g:=go) (o:=12) h rfl (by simp[bp.cells]) λw1 h=>jY (g:=go) (o:=14) h rfl (by simp[bp.cells]) λw2 h=>hk w2 ?_
  exact CJ (O:={O with how:=a,err:=b}) (gc:=gc) (c:=c) hc h
theorem p3(h:St w0 w (ax go (O.cells none)::bI gm M::R))(hcp:O.copy=none)(hM:M.OK)(hb:uJ O.b)(ht:uJ O.t)(hk:∀w',St w0 w' (uq go (O.f3 M wk).1::bI gm (O.f3 M wk).2.1::R)→k ((O.f3 M wk).2.2.1,(O.f3 M wk).2.2.2) w'):jF (some ⟨go,0,none⟩) (some ⟨gm,0,none⟩) wk w k:=by
 unfold jF A2;refine an (cn (g:=go) (o:=5) (n:=O.ring.CS) h rfl ?_);unfold bp.f3 at hk;refine avE (g:=gm) (M:=M) (log:=O.lg) h hM (λh0 h8 hca hr w4 h=> ?_) (λh0 h8 hca hr w4 h=> ?_) λhno w4 h=> ?_
 ·have hr':M.room O.LV=true:=hr;rw[if_pos ⟨h0,h8,hca⟩,if_pos hr']at hk;refine av h λg5 w6 h=>m8 (g:=g5) h rfl rfl (by intro v hv;simp[Rg.ag]at hv;rcases hv with rfl|rfl<;>rfl) λw7 h=>bh rfl ?_
  refine jZ (g:=g5) h rfl (an ?_);refine Xv (g:=go) (o:=8) (n:=2) h rfl (by simp[bp.cells]) (by intro v hv;simp[Rg.ag]at hv;rcases hv with rfl|rfl<;>rfl) λw10 h=>aF h λw11 h=>an ?_
  have h:St w0 w11 (ax g5 (Rg.ag (O.LU M)).toList::ax go (bp.cells {O with to:=O.LU M} none)::bI gm ((M.tick wk).grow O.LV)::R):=h;refine qz (g:=go) (o:=4) h (by simp[bp.cells]) (jZ (g:=g5) h rfl (an (cn (g:=go) (o:=3) (n:=O.t) h rfl (an (cn (g:=go) (o:=2) (n:=O.b) h rfl ?_)))))
  refine avF (a:=O.ring) (b:=O.LU M) ht hb h (λhe gc w20 h=> ?_) λhe w20 h=> ?_
  ·rw[if_pos he]at hk;refine an (jY (g:=go) (o:=10) h rfl (by simp[bp.cells]) λw22 h=>an (jY (g:=go) (o:=11) h rfl (by simp[bp.cells]) λw24 h=>hk w24 ?_))
   refine CJ (O:={O with to:=O.LU M,copy:=some (Cp.begin O.ring (O.LU M) O.t O.b),next:=4}) (gc:=gc) (c:=Cp.begin O.ring (O.LU M) O.t O.b) rfl ?_
   exact(h.rm 1 rfl).swap
  ·rw[if_neg he]at hk;refine an (jY (g:=go) (o:=10) h rfl (by simp[bp.cells]) λw22 h=>an (jY (g:=go) (o:=11) h rfl (by simp[bp.cells]) λw24 h=>hk w24 ?_))
   rw[rj (O:={O with to:=O.LU M,copy:=none,next:=4}) rfl]
   exact h.drop
 ·have hr':M.room O.LV=false:=hr;rw[if_pos ⟨h0,h8,hca⟩,if_neg (by rw[hr'];simp)]at hk
  refine av h λg5 w6 h=>m8 (g:=g5) h rfl rfl (by intro v hv;simp[Rg.ag,Rg.zero]at hv;rw[hv];rfl) λw7 h=>bO rfl (hk w7 ?_)
  rw[rj hcp];exact h.drop
 ·rw[if_neg hno]at hk;refine av h λg5 w6 h=>m8 (g:=g5) h rfl rfl (by intro v hv;simp[Rg.ag,Rg.zero]at hv;rw[hv];rfl) λw7 h=>bO rfl (hk w7 ?_)
  rw[rj hcp];exact h.drop
theorem p4{c:Cp}{gc:Nat}(h:St w0 w (ax go (O.cells (some ⟨gc,0,none⟩))::PD gc c::bI gm M::R))(hcp:O.copy=some c)(hk:∀w',St w0 w' (uq go (O.f4 M wk c).1::bI gm (O.f4 M wk c).2.1::R)→k ((O.f4 M wk c).2.2.1,(O.f4 M wk c).2.2.2) w'):iV (some ⟨go,0,none⟩) (some ⟨gm,0,none⟩) wk w k:=by
 unfold iV zl;refine an (B5 (g:=go) (o:=10) (n:=some ⟨gc,0,none⟩) h rfl ?_);unfold bp.f4 at hk;have h:St w0 w (PD gc c::bI gm M::ax go (O.cells (some ⟨gc,0,none⟩))::R):=h.perm GP;refine avG h (λhe w4 h=> ?_) (λhne hc w4 h=> ?_) (λhne hc hl w4 h=> ?_) λhne hc hl w4 h=> ?_
 ·rw[if_pos he]at hk;refine bO rfl (an (jY (g:=go) (o:=11) h rfl (by simp[bp.cells]) λw6 h=>hk w6 ?_))
  exact CJ (O:={O with next:=5}) (gc:=gc) (c:=c) hcp (h.perm GP)
 ·rw[if_neg hne,if_neg (by rw[hc];simp)]at hk
  exact bh rfl (hk w4 (CJ (O:=O) (gc:=gc) (c:=c) hcp (h.perm GP)))
 ·rw[if_neg hne,if_pos hc,if_neg (by rw[hl];simp)]at hk
  exact bh rfl (hk w4 (CJ (O:={O with copy:=some (c.next (M.get c.spot))}) (gc:=gc) (c:=c.next (M.get c.spot)) rfl (h.perm GP)))
 ·rw[if_neg hne,if_pos hc,if_pos hl]at hk;refine ay (λhb=> ?_) λhb=> ?_
  ·have hb':(c.next 0).at_=c.jW:=by simpa using hb
   rw[if_pos hb']at hk;refine an (jY (g:=go) (o:=11) h rfl (by simp[bp.cells]) λw6 h=>hk w6 ?_)
   exact CJ (O:={O with copy:=some (c.next 0),next:=5}) (gc:=gc) (c:=c.next 0) rfl (h.perm GP)
  ·have hb':¬(c.next 0).at_=c.jW:=by simpa using hb
   rw[if_neg hb']at hk;exact hk w4 (CJ (O:={O with copy:=some (c.next 0),next:=O.next}) (gc:=gc) (c:=c.next 0) rfl (h.perm GP))
structure bp.Gu (O:bp):Prop where
 n3:O.next=3→O.copy=none∧uJ O.b∧uJ O.t
 n4:O.next=4→∃c,O.copy=some c
 n:O.next≤19
 a:yY O.at_
theorem pi{bX:eb}{id:FuncId}{a b c':Value}{w:World}{c:Value→aq}{d:bn}(e:∀args w c,bX (.func id) args w c=d args.toList w c)(h:d [a,b,c'] w c):m5 bX (.func (.func id) #[] #[]) #[a,b,c'] w c:=
 bU e h
theorem ac2{a b:Option Addr}{i:Int}{w:World}{c:Value→aq}(h:eY a b i w λr w=>c (eV (dB [(.i .i64),(.i .i64)] r)) w):Dz [.pointer a,.pointer b,.int .i64 i] w c:=h
theorem ajT{a b:Option Addr}{i:Int}{w:World}{c:Value→aq}(h:iD a b i w λr w=>c (eV (dB [(.i .i64),(.i .i64)] r)) w):Hw [.pointer a,.pointer b,.int .i64 i] w c:=h
theorem ahu{a b:Option Addr}{i:Int}{w:World}{c:Value→aq}(h:gJ a b i w λr w=>c (eV (dB [(.i .i64),(.i .i64)] r)) w):Ga [.pointer a,.pointer b,.int .i64 i] w c:=h
theorem ajU{a b:Option Addr}{i:Int}{w:World}{c:Value→aq}(h:jF a b i w λr w=>c (eV (dB [(.i .i64),(.i .i64)] r)) w):Hx [.pointer a,.pointer b,.int .i64 i] w c:=h
theorem ahv{a b:Option Addr}{i:Int}{w:World}{c:Value→aq}(h:iV a b i w λr w=>c (eV (dB [(.i .i64),(.i .i64)] r)) w):Gb [.pointer a,.pointer b,.int .i64 i] w c:=h
theorem ahw{a b:Option Addr}{i:Int}{w:World}{c:Value→aq}(h:gK a b i w λr w=>c (eV (dB [(.i .i64),(.i .i64)] r)) w):Gc [.pointer a,.pointer b,.int .i64 i] w c:=h
theorem afI{a b:Option Addr}{i:Int}{w:World}{c:Value→aq}(h:fJ a b i w λr w=>c (eV (dB [(.i .i64),(.i .i64)] r)) w):EI [.pointer a,.pointer b,.int .i64 i] w c:=h
theorem ahx{a b:Option Addr}{i:Int}{w:World}{c:Value→aq}(h:gL a b i w λr w=>c (eV (dB [(.i .i64),(.i .i64)] r)) w):Gd [.pointer a,.pointer b,.int .i64 i] w c:=h
theorem afJ{a b:Option Addr}{i:Int}{w:World}{c:Value→aq}(h:fK a b i w λr w=>c (eV (dB [(.i .i64),(.i .i64)] r)) w):EJ [.pointer a,.pointer b,.int .i64 i] w c:=h
theorem ajV{a b:Option Addr}{i:Int}{w:World}{c:Value→aq}(h:iE a b i w λr w=>c (eV (dB [(.i .i64),(.i .i64)] r)) w):Hy [.pointer a,.pointer b,.int .i64 i] w c:=h
theorem ajW{a b:Option Addr}{i:Int}{w:World}{c:Value→aq}(h:iF a b i w λr w=>c (eV (dB [(.i .i64),(.i .i64)] r)) w):Hz [.pointer a,.pointer b,.int .i64 i] w c:=h
theorem anD{a b:Option Addr}{i:Int}{w:World}{c:Value→aq}(h:jA a b i w λr w=>c (eV (dB [(.i .i64),(.i .i64)] r)) w):IK [.pointer a,.pointer b,.int .i64 i] w c:=h
theorem ahy{a b:Option Addr}{i:Int}{w:World}{c:Value→aq}(h:gM a b i w λr w=>c (eV (dB [(.i .i64),(.i .i64)] r)) w):Ge [.pointer a,.pointer b,.int .i64 i] w c:=h
theorem ajX{a b:Option Addr}{i:Int}{w:World}{c:Value→aq}(h:iG a b i w λr w=>c (eV (dB [(.i .i64),(.i .i64)] r)) w):HA [.pointer a,.pointer b,.int .i64 i] w c:=h
theorem ajY{a b:Option Addr}{i:Int}{w:World}{c:Value→aq}(h:iH a b i w λr w=>c (eV (dB [(.i .i64),(.i .i64)] r)) w):HB [.pointer a,.pointer b,.int .i64 i] w c:=h
theorem ahz{a b:Option Addr}{i:Int}{w:World}{c:Value→aq}(h:gN a b i w λr w=>c (eV (dB [(.i .i64),(.i .i64)] r)) w):Gf [.pointer a,.pointer b,.int .i64 i] w c:=h
theorem abv{a b:Option Addr}{i:Int}{w:World}{c:Value→aq}(h:eC a b i w λr w=>c (eV (dB [(.i .i64),(.i .i64)] r)) w):CB [.pointer a,.pointer b,.int .i64 i] w c:=h
theorem afK{a b:Option Addr}{i:Int}{w:World}{c:Value→aq}(h:fL a b i w λr w=>c (eV (dB [(.i .i64),(.i .i64)] r)) w):EK [.pointer a,.pointer b,.int .i64 i] w c:=h
theorem ac3{a b:Option Addr}{i:Int}{w:World}{c:Value→aq}(h:eZ a b i w λr w=>c (eV (dB [(.i .i64),(.i .i64)] r)) w):DI [.pointer a,.pointer b,.int .i64 i] w c:=h
theorem afL{a b:Option Addr}{i:Int}{w:World}{c:Value→aq}(h:fM a b i w λr w=>c (eV (dB [(.i .i64),(.i .i64)] r)) w):EL [.pointer a,.pointer b,.int .i64 i] w c:=h
theorem EW{r:HW}{F:Option Addr→Option Addr→Int→World→((Int×Int)→aq)→Prop}(h:St w0 w (uq go O::bI gm M::L))(hr:r.1.copy=O.copy)
  (hF:∀{p R},St w0 w (ax go (O.cells p)::bI gm M::R)→NK w0 go gm p R k r→F (some ⟨go,0,none⟩) (some ⟨gm,0,none⟩) wk w k)
  (hk:∀w',St w0 w' (uq go r.1::bI gm r.2.1::L)→k (r.2.2.1,r.2.2.2) w'):F (some ⟨go,0,none⟩) (some ⟨gm,0,none⟩) wk w k:=by
 cases hc:O.copy with
 |none=>
  rw[rj hc]at h;refine hF h λw' h=>hk w' ?_;rw[rj (hr.trans hc)];exact h
 |some c=>
  obtain⟨gc,h⟩:=Ia hc h;refine hF (p:=some ⟨gc,0,none⟩) (R:=PD gc c::L) (h.perm GP) λw' h=>hk w' ?_;exact CJ (O:=r.1) (gc:=gc) (c:=c) (hr.trans hc) (h.perm GP)
end
theorem IR{O:bp}{M:bK}{wk:Int}:(O.read M wk).1.copy=O.copy:=by
 unfold bp.read;split
 ·split<;>rfl
 ·rfl
theorem art{O:bp}{M:bK}{wk:Int}:(O.f2 M wk).1.copy=O.copy:=by
 unfold bp.f2;split
 ·exact IR
 ·split
  ·exact IR
  ·split<;>exact IR
section
variable {w0 w:World} {L:List HP} {gm go:Nat} {M:bK} {O:bp} {wk:Int}
theorem al1{k:Int→aq}(h:St w0 w (uq go O::bI gm M::L))(hf:O.Gu)(hM:M.OK)(hk:∀w',St w0 w' (uq go (O.step M wk).1::bI gm (O.step M wk).2::L)→k (O.step M wk).1.how w'):fH (some ⟨go,0,none⟩) (some ⟨gm,0,none⟩) wk w k:=by
 have how:∀{w:World} {c:Int→Prop},St w0 w (uq go O::bI gm M::L)→c O.how→aN .i64 w (aY ⟨go,0,none⟩ 12) c:=by
  intro w c h hc;cases q:O.copy with
  |none=>rw[rj q]at h;exact cn (g:=go) (o:=12) h rfl hc
  |some c=>obtain⟨gc,h⟩:=Ia q h;exact cn (g:=go) (o:=12) h rfl hc
 have X4:∀{w:World} {c:Value→Prop},St w0 w (uq go O::bI gm M::L)→c (phF O.next)→sX w (aY ⟨go,0,none⟩ 11) c:=by
  intro w c h hc;cases q:O.copy with
  |none=>rw[rj q]at h;exact Iq (g:=go) (o:=11) h rfl hc
  |some c=>obtain⟨gc,h⟩:=Ia q h;exact Iq (g:=go) (o:=11) h rfl hc
 unfold fH Fg;unfold bp.step at hk;refine bh rfl (bS (λb w'=>b= !O.live∧w'=w) (λJ hJ=> ?_) ?_)
 ·unfold bp.live at hJ;refine an (how h (ay (λhb=> ?_) λhb=> ?_))
  ·have hb':(O.how==0)=false:=by simpa[bne]using hb
   rw[hb']at hJ;exact an (how h (hJ _ _ ⟨by simp[bne],rfl⟩))
  ·have hb':(O.how==0)=true:=by simpa[bne]using hb
   rw[hb']at hJ;exact hJ _ _ ⟨rfl,rfl⟩
 rintro b6 w7 ⟨rfl,rfl⟩;refine ay (λhb=> ?_) λhb=> ?_
 ·have hl:O.live=false:=by simpa using hb
  rw[if_neg (by rw[hl];simp)]at hk
  exact an (how h (hk _ h))
 ·have hl:O.live=true:=by simpa using hb
  rw[if_pos hl]at hk;refine an (X4 h ?_);have fin:∀w',St w0 w' (uq go (O.run M wk).1::bI gm (O.run M wk).2.1::L)→HM [(.i .i64),(.i .i64)] (eV (dB [(.i .i64),(.i .i64)] ((O.run M wk).2.2.1,(O.run M wk).2.2.2))) fun(x14:Int×Int)=>
   cE (S:=Int) (λJ15=>
    ap (x14.2 !=(0:Int)) (
     (J15 (6:Int) w')) (
     (J15 x14.1 w'))) λi16 w17=>
   nn (some ⟨go,0,none⟩) λa18=>
   bJ w17 (aY a18 12) (.int .i64 i16) λw19=>
   nn (some ⟨go,0,none⟩) λa20=>
   bJ w19 (aY a20 14) (.int .i64 x14.2) λw21=>
   (k i16 w21):=by
   intro w' h;generalize O.run M wk=r at h hk;show cE (S:=Int) (λJ15=>
    ap (r.2.2.2 !=(0:Int)) (
     (J15 (6:Int) w')) (
     (J15 r.2.2.1 w'))) λi16 w17=>
   nn (some ⟨go,0,none⟩) λa18=>
   bJ w17 (aY a18 12) (.int .i64 i16) λw19=>
   nn (some ⟨go,0,none⟩) λa20=>
   bJ w19 (aY a20 14) (.int .i64 r.2.2.2) λw21=>
   (k i16 w21);refine bS (λn w''=>n=(if r.2.2.2=0 then r.2.2.1 else 6)∧w''=w') (λJ hJ=> ?_) ?_
   ·refine ay (λhb=> ?_) λhb=> ?_
    ·have hb':¬r.2.2.2=0:=by simpa using hb
     exact hJ _ _ ⟨by rw[if_neg hb'],rfl⟩
    ·have hb':r.2.2.2=0:=by simpa using hb
     exact hJ _ _ ⟨by rw[if_pos hb'],rfl⟩
   rintro n w17 ⟨rfl,rfl⟩;exact an (ars h λw21 h=>hk w21 h)
  clear hk;have hn:=hf.n;obtain qX|qX|qX|qX|qX|qX|qX|qX|qX|qX|qX|qX|qX|qX|qX|qX|qX|qX|qX|qX:O.next=0∨O.next=1∨O.next=2∨O.next=3∨O.next=4∨O.next=5∨O.next=6∨O.next=7∨O.next=8∨O.next=9∨O.next=10∨O.next=11∨O.next=12∨O.next=13∨O.next=14∨O.next=15∨O.next=16∨O.next=17∨O.next=18∨O.next=19:=ah;all_goals rw[qX]
  ·have e:O.run M wk=O.f0 M wk:=by unfold bp.run;simp only[qX]
   rw[e]at fin;refine pi (d:=Dz) (λ_ _ _=>rfl) (ac2 ?_);exact EW (F:=eY) h rfl (λh hk=>p0 hf.a h hk) fin
  ·have e:O.run M wk=O.f1 M wk:=by unfold bp.run;simp only[qX]
   rw[e]at fin;refine pi (d:=Hw) (λ_ _ _=>rfl) (ajT ?_);exact EW (F:=iD) h rfl (λh hk=>p1 hf.a h hk) fin
  ·have e:O.run M wk=O.f2 M wk:=by unfold bp.run;simp only[qX]
   rw[e]at fin;refine pi (d:=Ga) (λ_ _ _=>rfl) (ahu ?_);exact EW (F:=gJ) h art (λh hk=>p2 hf.a h hk) fin
  ·have e:O.run M wk=O.f3 M wk:=by unfold bp.run;simp only[qX]
   rw[e]at fin;obtain⟨hc,AM,jL⟩:=hf.n3 qX;rw[rj hc]at h;refine pi (d:=Hx) (λ_ _ _=>rfl) (ajU ?_);exact p3 h hc hM AM jL fin
  ·obtain⟨c,hc⟩:=hf.n4 qX;have e:O.run M wk=O.f4 M wk c:=by unfold bp.run;simp only[qX,hc]
   rw[e]at fin;obtain⟨gc,h⟩:=Ia hc h;refine pi (d:=Gb) (λ_ _ _=>rfl) (ahv ?_);exact p4 h hc fin
  ·have e:O.run M wk=O.f5 M wk:=by unfold bp.run;simp only[qX]
   rw[e]at fin;refine pi (d:=Gc) (λ_ _ _=>rfl) (ahw ?_);exact EW (F:=gK) h rfl (λh hk=>p5 hf.a h hk) fin
  ·have e:O.run M wk=O.f6 M wk:=by unfold bp.run;simp only[qX]
   rw[e]at fin;refine pi (d:=EI) (λ_ _ _=>rfl) (afI ?_);exact EW (F:=fJ) h rfl (λh hk=>p6 hf.a h hk) fin
  ·have e:O.run M wk=O.f7 M wk:=by unfold bp.run;simp only[qX]
   rw[e]at fin;refine pi (d:=Gd) (λ_ _ _=>rfl) (ahx ?_);exact EW (F:=gL) h rfl (λh hk=>p7 hf.a h hk) fin
  ·have e:O.run M wk=O.f8 M wk:=by unfold bp.run;simp only[qX]
   rw[e]at fin;refine pi (d:=EJ) (λ_ _ _=>rfl) (afJ ?_);exact EW (F:=fK) h rfl (λh hk=>p8 hf.a h hk) fin
  ·have e:O.run M wk=O.f9 M wk:=by unfold bp.run;simp only[qX]
   rw[e]at fin;refine pi (d:=Hy) (λ_ _ _=>rfl) (ajV ?_);exact EW (F:=iE) h (IR (O:={O with next:=10})) (λh hk=>p9 hf.a h hk) fin
  ·have e:O.run M wk=O.f10 M wk:=by unfold bp.run;simp only[qX]
   rw[e]at fin;refine pi (d:=Hz) (λ_ _ _=>rfl) (ajW ?_);exact EW (F:=iF) h rfl (λh hk=>p10 hf.a h hk) fin
  ·have e:O.run M wk=O.f11 M wk:=by unfold bp.run;simp only[qX]
   rw[e]at fin;refine pi (d:=IK) (λ_ _ _=>rfl) (anD ?_);exact EW (F:=jA) h rfl (λh hk=>p11 hf.a h hk) fin
  ·have e:O.run M wk=O.f12 M wk:=by unfold bp.run;simp only[qX]
   rw[e]at fin;refine pi (d:=Ge) (λ_ _ _=>rfl) (ahy ?_);exact EW (F:=gM) h rfl (λh hk=>p12 hf.a h hk) fin
  ·have e:O.run M wk=O.f13 M wk:=by unfold bp.run;simp only[qX]
   rw[e]at fin;refine pi (d:=HA) (λ_ _ _=>rfl) (ajX ?_);exact EW (F:=iG) h rfl (λh hk=>p13 hf.a h hk) fin
  ·have e:O.run M wk=O.f14 M wk:=by unfold bp.run;simp only[qX]
   rw[e]at fin;refine pi (d:=HB) (λ_ _ _=>rfl) (ajY ?_);exact EW (F:=iH) h rfl (λh hk=>p14 hf.a h hk) fin
  ·have e:O.run M wk=O.f15 M wk:=by unfold bp.run;simp only[qX]
   rw[e]at fin;refine pi (d:=Gf) (λ_ _ _=>rfl) (ahz ?_);exact EW (F:=gN) h rfl (λh hk=>p15 hf.a h hk) fin
  ·have e:O.run M wk=O.f16 M wk:=by unfold bp.run;simp only[qX]
   rw[e]at fin;refine pi (d:=CB) (λ_ _ _=>rfl) (abv ?_);exact EW (F:=eC) h rfl (λh hk=>p16 hf.a h hk) fin
  ·have e:O.run M wk=O.f17 M wk:=by unfold bp.run;simp only[qX]
   rw[e]at fin;refine pi (d:=EK) (λ_ _ _=>rfl) (afK ?_);exact EW (F:=fL) h (IR (O:={O with next:=18})) (λh hk=>p17 hf.a h hk) fin
  ·have e:O.run M wk=O.f18 M wk:=by unfold bp.run;simp only[qX]
   rw[e]at fin;refine pi (d:=DI) (λ_ _ _=>rfl) (ac3 ?_);exact EW (F:=eZ) h rfl (λh hk=>p18 hf.a h hk) fin
  ·have e:O.run M wk=O.f19 M wk:=by unfold bp.run;simp only[qX]
   rw[e]at fin;refine pi (d:=EL) (λ_ _ _=>rfl) (afL ?_);exact EW (F:=fM) h rfl (λh hk=>p19 hf.a h hk) fin
end
theorem Rz{w0 w:World}{L M:List HP}(h:St w0 w L)(e:L=M):St w0 w M:=e▸h
def bp.CT(at_ most x:Int)(next:Nat):bp:=⟨at_,most,0,0,Rg.zero,x,false,Rg.zero,none,next,0,0,0⟩
section
variable {w0 w:World} {L:List HP} {gm go:Nat} {M:bK} {O:bp} {wk at_ most:Int}
theorem al2{x:Int}{k:Option Addr→aq}(h:St w0 w L)(hk:∀g w',St w0 w' (uq g (bp.CT at_ most x 0)::L)→k (some ⟨g,0,none⟩) w'):ey #[.int .i64 at_,.int .i64 most] x w k:=by
 unfold ey;refine av h λg1 w2 h=>jZ (g:=g1) h rfl ⟨rfl,⟨rfl,ZU rfl ?_⟩⟩;refine av h λg6 w7 h=> ?_;refine hk g6 w7 ?_;rw[rj rfl];exact Rz (M:=ax g6 ((bp.CT at_ most x 0).cells none)::L) (h.rm 1 rfl) be
theorem aru{k:Option Addr→aq}(h:St w0 w L)(hk:∀g w',St w0 w' (uq g (bp.CT at_ most 0 8)::L)→k (some ⟨g,0,none⟩) w'):eG #[.int .i64 at_,.int .i64 most] w k:=by
 unfold eG;refine av h λg1 w2 h=>jZ (g:=g1) h rfl ⟨rfl,⟨rfl,ZU rfl ?_⟩⟩;refine av h λg6 w7 h=> ?_;refine hk g6 w7 ?_;rw[rj rfl];exact Rz (M:=ax g6 ((bp.CT at_ most 0 8).cells none)::L) (h.rm 1 rfl) be
theorem arv{k:Option Addr→aq}(h:St w0 w L)(hk:∀g w',St w0 w' (uq g (bp.CT at_ most 0 15)::L)→k (some ⟨g,0,none⟩) w'):jJ #[.int .i64 at_,.int .i64 most] w k:=by
 unfold jJ;refine av h λg1 w2 h=>jZ (g:=g1) h rfl ⟨rfl,⟨rfl,ZU rfl ?_⟩⟩;refine av h λg6 w7 h=> ?_;refine hk g6 w7 ?_;rw[rj rfl];exact Rz (M:=ax g6 ((bp.CT at_ most 0 15).cells none)::L) (h.rm 1 rfl) be
theorem ZZ{f:HP→List HP}{o:Nat}{n:Int}{c:Int→Prop}(h:St w0 w L)[a:At L (uq go) O f](ho:∀p,(O.cells p)[o]?=some (.int .i64 n))(hc:c n):aN .i64 w ⟨go,o,none⟩ c:=by
 obtain⟨R,hout,hin⟩:=a.out;have h:=hout h;cases q:O.copy with
 |none=>rw[rj q]at h;exact cn (g:=go) (o:=o) h (ho _) hc
 |some c=>obtain⟨gc,h⟩:=Ia q h;exact cn (g:=go) (o:=o) h (ho _) hc
def bp.tell(O:bp):Int:=if O.how=2∨O.how=1 then O.got else 0
theorem azs{f:HP→List HP}{k:Int→aq}(h:St w0 w L)[a:At L (uq go) O f](hk:k O.tell w):cB (some ⟨go,0,none⟩) w k:=by
 unfold cB;unfold bp.tell at hk;refine bS (λb w'=>b=decide (¬(O.how=2∨O.how=1))∧w'=w) (λJ hJ=> ?_) ?_
 ·refine bh rfl (an (ZZ (go:=go) (o:=12) (n:=O.how) h (λ_=>rfl) (ay (λhb=> ?_) λhb=> ?_)))
  ·have hb':¬O.how=2:=by simpa using hb
   refine an (ZZ (go:=go) (o:=12) (n:=O.how) h (λ_=>rfl) (hJ _ _ ⟨?_,rfl⟩));rw[Bool.eq_iff_iff,decide_eq_true_eq];simp[hb']
  ·have hb':O.how=2:=by simpa using hb
   exact hJ _ _ ⟨by simp[hb'],rfl⟩
 rintro b w7 ⟨rfl,rfl⟩;refine ay (λhb=> ?_) λhb=> ?_
 ·rw[if_neg (of_decide_eq_true hb)]at hk;exact hk
 ·rw[if_pos (Classical.byContradiction λq=>of_decide_eq_false hb q)]at hk;exact an (ZZ (go:=go) (o:=13) (n:=O.got) h (λ_=>rfl) hk)
theorem azt{f:HP→List HP}{k:Int→aq}(h:St w0 w L)[a:At L (uq go) O f](hk:k O.err w):iS (some ⟨go,0,none⟩) w k:=by
 unfold iS;exact bh rfl (an (ZZ (go:=go) (o:=14) (n:=O.err) h (λ_=>rfl) hk))
def Z0(log most:Int):Bool:=decide (0≤log∧log≤most∧most≤8)
def En(log:Int):Int:=((2 ^ log.toNat:Nat):Int)
def bK.IS(M:bK)(wk log:Int):bK:=(((M.tick wk).grow (3+En log)).tick wk).put ((M.cells.length:Nat)+2) (Rg.word ⟨(M.cells.length:Nat)+3,log⟩)
theorem abw{log:Int}(h0:0≤log)(h1:log≤8):1≤En log∧En log≤256:=by
 have hp:(2 ^ log.toNat:Nat)≤256:=D4 ah;have Fw:0<2 ^ log.toNat:=Nat.pow_pos ah;unfold En;generalize (2 ^ log.toNat:Nat)=m at*
 omega
theorem xu{M:bK}{n:Int}(h:0≤n):(((M.grow n).cells.length:Nat):Int)=(M.cells.length:Nat)+n:=by
 unfold bK.grow;simp only[tV,List.length_replicate];omega
theorem al3{log:Int}{f:HP→List HP}{k:Array Value×Int→aq}(h:St w0 w L)[a:At L (bI gm) M f](hM:M.OK)(pB:M.caller wk=true)(hl:Z0 log most=true)
  (h1:M.room (3+En log)=true→∀w',St w0 w' (f (bI gm (M.IS wk log)))→k (#[.int .i64 ((M.cells.length:Nat):Int),.int .i64 most],0) w')
  (h2:M.room (3+En log)=false→∀w',St w0 w' (f (bI gm M))→k (#[.int .i64 0,.int .i64 0],21) w'):sD (some ⟨gm,0,none⟩) wk log most w k:=by
 unfold sD ML;unfold Z0 at hl;simp only[decide_eq_true_eq]at hl;obtain⟨hl0,hl1,hl2⟩:=hl;have X0:=abw hl0 ah;obtain⟨R,ho,hb⟩:=a.out;replace h:=ho h;with_reducible repeat' (first|refine av h λgx w h=> ?_|refine fE ?_|fail)
 refine bh (by simp;omega) ?_
 refine FE ah ?_;rw[WQ hl0 ah];have hw:IntKind.i64.wrap (3+((2 ^ log.toNat:Nat):Int))=3+En log:=cT ⟨by unfold En at X0;omega,by unfold En at X0;omega⟩
 rw[hw];have hMs:=hM.size;refine Gr (M:=M) h hM (λ_ _ hr w h=> ?_) (λ_ _ hr=> ?_) λhno=>(hno ⟨pB,ah⟩).elim
 ·have hr2:=hr;unfold bK.room at hr2;simp only[decide_eq_true_eq]at hr2;with_reducible repeat' (first|refine aF h λw h=> ?_|refine mI h ?_|refine nW h λw h=> ?_|refine av h λgx w h=> ?_|refine fE ?_|fail)
  have hA:yY ((M.cells.length:Nat):Int):=⟨ah,ah⟩;refine abu (most:=most) hA h λw h=> ?_;with_reducible repeat' (first|refine mJ h ?_|fail)
  have e3:aG .i64 (((M.cells.length:Nat):Int)+3)=((M.cells.length:Nat):Int)+3:=cT ⟨ah,ah⟩;show fq #[.int .i64 (aG .i64 (((M.cells.length:Nat):Int)+3)),.int .i64 log] _ _;rw[e3];refine alW (r:=⟨((M.cells.length:Nat):Int)+3,log⟩) h λw h=> ?_;have hcan:((M.tick wk).grow (3+En log)).can wk ((M.cells.length:Nat)+2)=true:=by
   have hg:=xu (M:=M.tick wk) (n:=3+En log) ah;have ht:(M.tick wk).cells.length=M.cells.length:=rfl;unfold bK.can bK.given bK.caller at*
   simp only[decide_eq_true_eq,iZ]at*
   refine⟨⟨pB.1,?_⟩,?_⟩
   ·simpa[bK.grow,bK.tick]using pB.2
   ·rw[hg,ht];omega
  refine stc (M:=(M.tick wk).grow (3+En log)) h hcan λw h=> ?_;with_reducible repeat' (first|refine mI h ?_|refine nW h λw h=> ?_|refine fE ?_|fail)
  exact h1 hr w (hb (((h.rm 0 rfl).rm 0 rfl).rm 0 rfl))
 ·with_reducible repeat' (first|refine mI h ?_|refine nW h λw h=> ?_|refine nJ ?_|fail)
  exact h2 hr w (hb h.drop)
theorem UY{f:HP→List HP}{k:Int×Int→aq}(h:St w0 w L)[a:At L (bI gm) M f](hA:yY at_)(hc:M.can wk (at_+1)=true)(hk:∀w',St w0 w' (f (bI gm (M.tick wk)))→k (M.get (at_+1),0) w'):cj #[.int .i64 at_,.int .i64 most] (some ⟨gm,0,none⟩) wk w k:=by
 unfold cj xY;with_reducible repeat' (first|refine mI h ?_|refine av h λgx w h=> ?_|fail)
 refine CI (most:=most) hA h λw h=> ?_;refine ldc (M:=M) h hc λw h=> ?_;exact hk w h.drop
end
theorem elL:ElT Tryz.prog 69 3 8 (.int .i64 0):=⟨be,be⟩
def Y3(self on idle:Int)(x:Nat):Bool:=(x:Int) !=self&&(tb on x&& !tb idle x)
def xh(self on idle:Int)(n:Nat):List Int:=((List.range n).filter (Y3 self on idle)).map Int.ofNat
def UZ(v:Int)(l:List Int):List Int:=l.drop (v % l.length).toNat++l.take (v % l.length).toNat
theorem abx(self on idle:Int)(n:Nat):xh self on idle (n+1)=xh self on idle n++(if Y3 self on idle n then [(n:Int)]else []):=by
 unfold xh;rw[List.range_succ,List.filter_append,List.map_append];congr 1;by_cases h:Y3 self on idle n<;>simp[h]
theorem adW(self on idle:Int)(n:Nat):(xh self on idle n).length≤n:=by
 unfold xh;simpa using List.length_filter_le (Y3 self on idle) (List.range n)
theorem aj0{v m:Int}(hm:0<m)(hm2:m≤16):aab (IntKind.i64.wrap (aab v m+m)) m=v % m:=by
 unfold aab;have h1:v.tmod m<m:=Int.tmod_lt_of_pos _ hm;have h2: -m<v.tmod m:=Int.lt_tmod_of_pos v hm;rw[cT ⟨ah,ah⟩,Int.tmod_eq_emod_of_nonneg ah,Int.add_emod_right,Int.tmod_def,Int.sub_emod,Int.mul_emod_right];simp
theorem azu{L R:List Value}{n f:Nat}(hL:L.length=n)(hf:f≤n)(hR:R.length=n):
  (((R.take 0++((L.drop f).take (n - f)++R.drop (0+(n - f)))).take (n - f))++(L.take f++(R.take 0++((L.drop f).take (n - f)++R.drop (0+(n - f)))).drop (n - f+f)))=L.drop f++L.take f:=by
 have e1:(L.drop f).take (n - f)=L.drop f:=List.take_of_length_le (by simp;omega)
 have e2:(L.drop f).length=n - f:=by simp;omega
 rw[e1,List.take_zero,List.nil_append,Nat.zero_add,List.take_append_of_le_length ah,List.take_of_length_le ah];rw[List.drop_of_length_le (i:=n - f+f) (by simp;omega),List.append_nil]
theorem ac4{v self n on idle:Int}{w:World}{k:Sl×Int→aq}(h1:1≤n)(h2:n≤16)(h3:0≤self)(h4:self<n)
  (hk:∀s w',Ext w w'→Go.Ev.Own w' w.heap.size s (ints (UZ v (xh self on idle n.toNat)))→k (s,0) w'):qU v self n on idle w k:=by
 unfold qU;refine bh (by simp;omega) ?_
 refine bS (λs w'=>Ext w w'∧Go.Ev.Own w' w.heap.size s (ints (xh self on idle n.toNat))) ?_ ?_
 ·intro J hJ;refine og (fun(x:Sl×Int) w'=> ∃i:Nat,x.2=i∧i≤n.toNat∧Ext w w'∧Go.Ev.Own w' w.heap.size x.1 (ints (xh self on idle i))) (λx _=>(n - x.2).toNat) ⟨0,rfl,ah,.refl _ _,by simpa[xh,ints]using Own.nil w _⟩ ?_
  rintro⟨s,x⟩ w1 ⟨i,hx,hi,he,hown⟩ C hC;simp only at hx;subst hx;refine ay (λhlt=> ?_) (λhge=> ?_)
  ·have hlt:(i:Int)<n:=by simpa using hlt
   refine bS (λb w2=>w2=w1∧b=Y3 self on idle i) ?_ ?_
   ·intro J5 hJ5;refine ay (λhne=> ?_) (λheq=> ?_)
    ·refine aly bc (hJ5 _ _ ⟨rfl,?_⟩);simp only;rw[aBf (agT _ _) ah ah,kR,Up _ _ ah];simp only[Y3,hne,Bool.true_and]
    ·refine hJ5 _ _ ⟨rfl,?_⟩;simp only[Y3,heq,Bool.false_and]
   ·rintro b w2 ⟨rfl,rfl⟩;have hw:IntKind.i64.wrap ((i:Int)+1)=((i+1:Nat):Int):=by rw[cT ⟨ah,ah⟩];simp
    refine ay (λhb=> ?_) (λhb=> ?_)
    ·refine jD λg w3 hg Uu sx yZ=> ?_;have hl:=adW self on idle i;refine auZ (s:=s) (x:=⟨some ⟨g,0,none⟩,1,1⟩) (ys:=ints [(i:Int)]) elL rfl elL.1 (hown.ext yZ) (aaH (l:=[_]) sx rfl 1) H8 (by have:=he.size;omega) (by simp;omega) (by simp;omega) λs' w4 yX FR aFF=> ?_
     refine hC _ _ ⟨i+1,hw,ah,?_,?_⟩ (by simp only[hw];omega)
     ·exact(he.trans yZ).then FR (hown.out (iv _))
     ·rw[abx,if_pos hb];simpa[ints]using yX
    ·refine hC _ _ ⟨i+1,hw,ah,he,?_⟩ (by simp only[hw];omega)
     rw[abx,if_neg (by simp[hb]),List.append_nil]
     exact hown
  ·have hge:¬(i:Int)<n:=by simpa using hge
   have:i=n.toNat:=ah;exact hJ _ _ ⟨he,this▸hown⟩
 ·rintro s w1 ⟨he,hown⟩;have hl:=adW self on idle n.toNat;have hlen:=hown.len;simp only[ints,List.length_map]at hlen;refine ay (λh0=> ?_) (λh0=> ?_)
  ·have h0:s.n=0:=by simpa using h0
   have e:xh self on idle n.toNat=[]:=List.eq_nil_of_length_eq_zero ah;refine hk _ _ he ?_;rw[e];simpa[UZ,ints]using Own.nil w1 _
  ·have h0:s.n≠0:=by simpa using h0
   refine alx ah (alx ah ?_);have hf:=aj0 (v:=v) (m:=s.n) ah ah;simp only[aab]at hf;rw[hf];have hf0:0≤v % s.n:=Int.emod_nonneg _ ah;have hf1:v % s.n<s.n:=Int.emod_lt_of_pos _ ah;refine alz (n:=s.n) elL rfl (B:=w.heap.size) he.size ah ah λso w2 X5 uM E7 hc2 jL Im=> ?_;refine aaJ (hown.ext uM) hf0 ah λd hd hdn hdb bN=> ?_;have hne:∀g,so.ax=some g→∀g',s.ax=some g'→g'≠g:=by
    intro g hg g' KW e;have:=(hown.below KW).2;rw[jL]at hg;cases hg;omega
   refine aaK (lo:=0) elL X5 (Part.all so) bN.sls (λv hv=>H8 v (List.mem_of_mem_drop hv)) λw3 U0 ax6 Uu=> ?_;rw[E7,hdn,show min s.n (s.n - (v % s.n).toNat)=s.n - (v % s.n).toNat by omega]at U0 ⊢
   refine aaJ U0 ah ah λd2 hd2 aBW aFG aFH=> ?_;have hs':GK 1 w3 s (ints (xh self on idle n.toNat)):=(hown.ext uM).sls.keep ax6 λp hp hg=>hne _ hg _ (by simp[Sl.ax,hp]) rfl
   refine aaK elL U0 hd2 hs' H8 λw4 Tu aBX hs4=> ?_;refine hk _ _ ?_ ?_
   ·exact((he.trans uM).then ax6 (X5.out (iv _))).then aBX (X5.out (iv _))
   ·have e:UZ v (xh self on idle n.toNat)=(xh self on idle n.toNat).drop (v % s.n).toNat++(xh self on idle n.toNat).take (v % s.n).toNat:=by rw[UZ,hlen]
    rw[e];rw[aBW,E7,show min (s.n - ((s.n - (v % s.n).toNat:Nat):Int).toNat) s.n=(v % s.n).toNat by omega]at Tu
    simp only[kR]at Tu;rw[azu (by simp;omega) ah bc]at Tu
    simpa[ints]using Tu
def KO(g:Nat)(D:List Int):HP:=FV λs:Sl=>mG [ax g [.slice s.a s.n s.c],bP 1 s (ints D)]
section
variable {w0 w:World} {L R:List HP} {g:Nat} {D:List Int} {f:HP→List HP}
theorem adX(h:St w0 w (KO g D::R)):∃s:Sl,St w0 w (ax g [.slice s.a s.n s.c]::bP 1 s (ints D)::R):=by
 obtain⟨s,h⟩:=h.some;exact⟨s,h.open⟩
theorem LX{s:Sl}(h:St w0 w (ax g [.slice s.a s.n s.c]::bP 1 s (ints D)::R)):St w0 w (KO g D::R):=
 St.ex (X:=λs:Sl=>mG [ax g [.slice s.a s.n s.c],bP 1 s (ints D)]) s (St.shut h)
theorem _root_.Go.Ev.qf.ax7{s:Sl}{vs:List Value}(h:qf 1 w s vs):Go.Ev.Own w 0 s vs:=by
 refine⟨by have:=h.len;omega,h.cap,h.max,h.one,h.row.imp id ?_⟩
 rintro⟨g,off,cs,h1,h2,h3,h4⟩;exact⟨g,off,cs,h1,Nat.zero_le _,h2,ah,h4⟩
theorem _root_.Go.Ev.Own.s1{s:Sl}{vs:List Value}{B:Nat}(h:Go.Ev.Own w B s vs):qf 1 w s vs:=by
 refine⟨by have:=h.len;omega,h.cap,h.max,h.one,h.row.imp id ?_⟩
 rintro⟨g,off,cs,h1,_,h2,h3,h4⟩;exact⟨g,off,cs,h1,h2,ah,h4⟩
theorem avQ{P:Program}{t e:TypeId}{ty:TypeId}{b:Nat}{z:Value}{s:Sl}{v:Value}{vs:List Value}{c:Int→aq}(h:St w0 w L)[a:At L (bP 1 s) (v::vs) f](ht:ElT P t e b z)
  (hc:∀w' l,St w0 w' (f (bP 1 s (vs++[l])))→c (vs.length:Nat) w'):slL s 1 (1:Int) λd=>Ue P #[t,t] ty [.slice s.a s.n s.c,.slice d.a d.n d.c] w c:=by
 have hn:=uN (s:=s) (vs:=v::vs) h;have ho:qf 1 w s (v::vs):=h.own;refine aaJ ho.ax7 ah (by simp at hn;omega) λd hp hd _ hod=> ?_
 have hdn:d.n=vs.length:=by rw[hd,hn];simp
 have hmin:min s.n d.n=vs.length:=by rw[hdn,hn];simp
 refine aaK (s:=s) (d:=s) (x:=d) (lo:=0) ht ho.ax7 (Part.all s) hod.sls hod.one λw' yX FR _=> ?_;rw[hmin]at yX ⊢;have hlt:vs.length<(v::vs).length:=by simp
 have e:(v::vs).take 0++(((v::vs).drop (1:Int).toNat).take vs.length++(v::vs).drop (0+vs.length))=vs++[(v::vs)[vs.length]]:=by
  rw[List.take_zero,List.nil_append,Nat.zero_add,List.drop_eq_getElem_cons hlt];simp
 rw[e]at yX;refine hc w' _ (h.Mr a λF1 hF=>⟨FR.mono λk _ hk=>(hF.1 k).2 hk,F1,⟨hF.1,yX.s1⟩,λk hk=> .inl hk⟩)
theorem elD:ElT Tryz.prog 156 2 8 (.int .i64 0):=⟨be,be⟩
theorem arx{k:Option Addr→aq}(h:St w0 w L)(hk:∀g w',St w0 w' (KO g []::L)→k (some ⟨g,0,none⟩) w'):m4 w k:=by
 unfold m4;refine av h λg w h=>hk g w (LX (s:=⟨none,0,0⟩) ?_);exact(h.Jv 1).swap
theorem anF{k:Int→aq}(h:St w0 w L)[a:At L (KO g) D f](hk:∀w',St w0 w' (f (KO g D.tail))→k (D.headD 0) w'):mj (some ⟨g,0,none⟩) w k:=by
 unfold mj;obtain⟨R,ho,hb⟩:=a.out;obtain⟨s,h⟩:=adX (ho h);have hn:=uN (s:=s) (vs:=ints D) h;refine bS (λb w'=>b=D.isEmpty∧w'=w) (λJ hJ=> ?_) ?_
 ·with_reducible repeat' (first|refine an ?_|refine j5 h ?_|refine fE ?_|fail)
  refine hJ _ _ ⟨?_,rfl⟩;cases D with
  |nil=>simp at hn;simp[hn]
  |cons x D=>simp at hn;simp[hn];omega
 rintro _ _ ⟨rfl,rfl⟩;cases D with
 |nil=>exact bO rfl (hk _ (hb (LX h)))
 |cons x D=>
  refine bh rfl ?_;with_reducible repeat' (first|refine an ?_|refine j5 h ?_|fail)
  refine vI (s:=s) (vs:=ints (x::D)) h ah (x:=x) rfl ?_;with_reducible repeat' (first|refine an ?_|refine aF h λw h=> ?_|refine j5 h ?_|fail)
  refine avQ (s:=s) (v:= .int .i64 x) (vs:=ints D) h elD λw l h=> ?_;with_reducible repeat' (first|refine an ?_|refine aF h λw h=> ?_|refine j5 h ?_|fail)
  have E7:s.n=D.length+1:=by simpa using hn
  show Sw s 1 0 (aG .i64 (((s.n:Nat):Int) - 1)) _;have e0:aG .i64 (((s.n:Nat):Int) - 1)=(D.length:Nat):=by
   have:=(h.own (sz:=1) (s:=s) (vs:=ints D++[l])).max;have:=(h.own (sz:=1) (s:=s) (vs:=ints D++[l])).cap;rw[E7,lY ⟨ah,ah⟩];omega
  rw[e0];refine alF (s:=s) (vs:=ints D++[l]) h ah (by simp;omega) λd hd h=> ?_
  have e1:(ints D++[l]).take ((D.length:Nat):Int).toNat=ints D:=by
   rw[kR,List.take_append_of_le_length bc,List.take_of_length_le bc]
  rw[e1]at h;with_reducible repeat' (first|refine an ?_|refine dO h λw h=> ?_|fail)
  exact hk w (hb (LX (s:=d) h))
theorem ary{l:Sl}{x:Int}{gx:Nat}{k:Int→aq}(h:St w0 w (ax gx [.int .i64 x]::KO g D::R))(hk:D.length<1024→∀w',St w0 w' (KO g (D++[x])::R)→k 0 w')(GI:¬D.length<1024→∀w',St w0 w' (KO g D::R)→k 20 w')(hD:D.length≤1024):
  nG (some ⟨g,0,none⟩) ⟨some ⟨gx,0,none⟩,1,1⟩ w k:=by
 unfold nG;obtain⟨s,h⟩:=adX h.swap;have hn:=uN (s:=s) (vs:=ints D) h;have E7:s.n=D.length:=by simpa using hn
 with_reducible repeat' (first|refine an ?_|refine j5 h ?_|refine fE ?_|fail)
 show ap (decide (((1:Nat):Int)>aG .i64 ((1024:Int) - ((s.n:Nat):Int)))) _ _;rw[E7,lY ⟨ah,ah⟩];by_cases hl:D.length<1024
 ·refine bh (by simp;omega) ?_
  with_reducible repeat' (first|refine an ?_|refine j5 h ?_|fail)
  refine K7 (s:=s) (vs:=ints D) h (b:=8) (z:= .int .i64 0) ⟨be,rfl⟩ be rfl (by simp;omega) ah λs' w h hn'=> ?_
  with_reducible repeat' (first|refine an ?_|refine dO h λw h=> ?_|fail)
  refine hk hl w (LX (s:=s') ?_);have e:ints (D++[x])=ints D++[.int .i64 x]:=by simp[ints]
  rw[e];exact h.rm 2 rfl
 ·refine bO (by simp;omega) (GI hl w (LX (s:=s) (h.rm 2 rfl)))
theorem arz{v self n on idle:Int}{k:Sl×Int→aq}(h:St w0 w L)(h1:1≤n)(h2:n≤16)(h3:0≤self)(h4:self<n)
  (hk:∀s w',St w0 w' (bP 1 s (ints (UZ v (xh self on idle n.toNat)))::L)→k (s,0) w'):qU v self n on idle w k:=by
 refine ac4 h1 h2 h3 h4 λs w' he ho=>hk s w' ?_;refine h.new he (F':=λk=>s.ax=some k) ⟨λk=>Iff.rfl,ho.s1⟩ λk hk=>(ho.below hk).1
end
def aBZ(b:Option Code):Array Oper:=match b with|some (.seq _ (.seq _ (.seq (.region _ ops _) _)))=>ops|_=> #[]
noncomputable def arA:Array Oper:=aBZ Tryz.f340.body
def al4(e:Env)(w:World)(k:Int→aq):Prop:=
 aag Tryz.prog (kw []) arA (arA.toList.drop 5) e w λe w=>lH (e.keep 21) λe=>ali Tryz.prog Tryz.f340.results.toList (λl w=>qJ [.i .i64] l λx=>k x w) .ret e w
def arB(x n a m:Int):Env:=[(9,.val (.int .u64 m)),(8,.val (.int .u64 a)),(7,.val (.int .u64 n)),(6,.val (.int .u64 x)),(5,.val (.int .u64 x)),(4,.val (.bool (x==0))),(2,.val (.int .i64 0)),(0,.val (.int .u64 x))]
theorem tzB(x n a m:Int)(w:World)(k:Int→aq):al4 (arB x n a m) w k=GG (Addr.mk 3 0 none) 64 (If .u64 m 58) 1 λa1=>aN .u8 w a1 λi2=>k (aG .i64 i2) w:=by kernel_rfl
theorem tzA(x:Int)(w:World)(k:Int→aq):bR x w k=ap (x==0) (k 64 w)
 (al4 (arB x (aG .u64 (0 - x)) (oC .u64 x (aG .u64 (0 - x))) (aG .u64 ((oC .u64 x (aG .u64 (0 - x)))*285870213051353865))) w k):=by kernel_rfl
def aj1:List Nat:=[0,1,56,2,57,49,28,3,61,58,42,50,38,29,17,4,62,47,59,36,45,43,51,22,53,39,33,30,24,18,12,5,63,55,48,27,60,41,37,16,46,35,44,21,52,32,23,11,54,26,40,15,34,20,31,10,25,14,19,9,13,8,7,6]
def TZ(w:World):Prop:=∀i,i<64→w.cell? ⟨3,i,none⟩=some (.int .u8 (aj1.getD i 0:Nat))
theorem avR:∀i,i<64→aj1.getD ((2 ^ i*285870213051353865 % 2 ^ 64) / 2 ^ 58) 0=i∧(2 ^ i*285870213051353865 % 2 ^ 64) / 2 ^ 58<64:=fY
def low(x i:Nat):Prop:=x.testBit i=true∧∀j,j<i→x.testBit j=false
theorem al5{x:Nat}(h:0<x):∃i,low x i:=by
 obtain⟨j,hj⟩:=Nat.exists_testBit_of_ne_zero (by omega:x≠0)
 induction j using Nat.strongRecOn with
 |_ j ih=>
  by_cases hl:∃i,i<j∧x.testBit i=true
  ·obtain⟨i,hi,hx⟩:=hl;exact ih i hi hx
  ·exact⟨j,hj,λi hi=>by
    cases hb:x.testBit i with
    |false=>rfl
    |true=>exact(hl ⟨i,hi,hb⟩).elim⟩
theorem WR{x i:Nat}(h:low x i)(hx:x<2 ^ 64):i<64:=by
 apply Classical.byContradiction;intro hn;have:=Nat.testBit_lt_two_pow (Nat.lt_of_lt_of_le hx (Nat.pow_le_pow_right ah (by omega:64≤i)))
 rw[h.1]at this;cases this
theorem avS{x i:Nat}(h:low x i)(hx:x<2 ^ 64):(BitVec.ofNat 64 x&&& -(BitVec.ofNat 64 x)).toNat=2 ^ i:=by
 have hi:=WR h hx;apply Nat.eq_of_testBit_eq;intro j;rw[BitVec.testBit_toNat,BitVec.getLsbD_and,BitVec.getLsbD_neg,Nat.testBit_two_pow];by_cases hj:j<64
 ·have hb:∀m,m<64→(BitVec.ofNat 64 x).getLsbD m=x.testBit m:=λm hm=>by rw[BitVec.getLsbD_ofNat];simp[hm]
  rw[hb j hj];simp only[hj,decide_true,Bool.true_and];by_cases hij:i=j
  ·subst hij;rw[h.1];have:¬∃m<i,(BitVec.ofNat 64 x).getLsbD m=true:=by
    rintro⟨m,hm,Vz⟩;rw[hb m ah,h.2 m hm]at Vz;cases Vz
   simp[this]
  ·cases hxj:x.testBit j with
   |false=>simp[hij]
   |true=>
    have hlt:i<j:=by
     apply Classical.byContradiction;intro hn;have:=h.2 j ah;rw[hxj]at this;cases this
    have:∃m<j,(BitVec.ofNat 64 x).getLsbD m=true:=⟨i,hlt,by rw[hb i hi];exact h.1⟩
    simp[this,hij]
 ·have:i≠j:=ah;simp[hj,this];rw[BitVec.getLsbD_of_ge _ _ ah]
theorem CL{x:Int}:IntKind.u64.wrap x=x % 18446744073709551616:=by
 unfold aG;simp[IntKind.bits,IntKind.signed]
theorem ax8{w0 w:World}{L:List HP}{x i:Nat}{k:Int→aq}(h:St w0 w L)(hT:TZ w0)(hl:low x i)(hx:x<2 ^ 64)(hk:k i w):bR (x:Int) w k:=by
 have hi:=WR hl hx;have h0:x≠0:=by
  intro e;subst e;have:=hl.1;simp at this
 rw[tzA,tzB];refine bh (by simp;omega) ?_
 have e1:oC .u64 (x:Int) (aG .u64 (0 - (x:Int)))=((2 ^ i:Nat):Int):=by
  have hand:∀a b:Int,oC .u64 a b=IntKind.u64.wrap ((BitVec.ofInt 64 a&&&BitVec.ofInt 64 b).toNat:Nat):=λ_ _=>rfl;have hw:aG .u64 (0 - (x:Int))=((2 ^ 64 - x:Nat):Int):=by rw[CL];omega
  rw[hw,hand];simp only[BitVec.ofInt_natCast];have hneg:BitVec.ofNat 64 (2 ^ 64 - x)= -(BitVec.ofNat 64 x):=by
   apply BitVec.eq_of_toNat_eq;simp[BitVec.toNat_neg];omega
  rw[hneg,avS hl hx,CL];have:2 ^ i<2 ^ 64:=Nat.pow_lt_pow_right ah hi;generalize 2 ^ i=m at*
  omega
 have e2:If .u64 (aG .u64 (((2 ^ i:Nat):Int)*285870213051353865)) 58=(((2 ^ i*285870213051353865 % 2 ^ 64) / 2 ^ 58:Nat):Int):=by
  unfold If;rw[CL];have hm:min (58:Int).toNat IntKind.u64.bits=58:=fY;rw[hm,Int.fdiv_eq_ediv_of_nonneg _ fY];rw[Int.natCast_ediv,Int.natCast_emod,Int.natCast_mul];rfl
 rw[e1,e2];obtain⟨t1,t2⟩:=avR i hi;refine⟨⟨ah,ah⟩,?_⟩;rw[cY,kR,Nat.zero_add,Nat.mul_one];refine uH (h.ext.cell (hT _ t2)) ?_;rw[t1,lY ⟨ah,ah⟩];exact hk
def bitsOf(x:Nat):List Nat:=(List.range 64).filter x.testBit
theorem ahB{x y i:Nat}(hi:i<64)(h:low x i)(hy:∀j,y.testBit j=(x.testBit j&&decide (j≠i))):bitsOf x=i::bitsOf y:=by
 unfold bitsOf;have e:List.range 64=List.range i++i::(List.range (64 - (i+1))).map (·+(i+1)):=by
  have e1:(64:Nat)=i+((64 - (i+1))+1):=ah;conv=>lhs;rw[e1,List.range_add,List.range_succ_eq_map]
  simp only[List.map_cons,List.map_map,Nat.add_zero];congr 2;apply List.map_congr_left;intro a _;simp only[Function.comp,Nat.succ_eq_add_one];omega
 have f1:(List.range i).filter x.testBit=[]:=List.filter_eq_nil_iff.2 λj hj=>by rw[h.2 j (List.mem_range.1 hj)];simp
 have f2:(List.range i).filter y.testBit=[]:=List.filter_eq_nil_iff.2 λj hj=>by rw[hy,h.2 j (List.mem_range.1 hj)];simp
 rw[e,List.filter_append,List.filter_append,f1,f2,List.filter_cons,List.filter_cons,h.1,hy i,h.1];simp only[if_true,List.nil_append,ne_eq,not_true_eq_false,decide_false,Bool.and_false,Bool.false_eq_true,if_false];congr 1;apply List.filter_congr;intro j hj;obtain⟨m,_,rfl⟩:=List.mem_map.1 hj;rw[hy];have:m+(i+1)≠i:=ah;simp[this]
theorem aj2{x i:Nat}(h:low x i)(hx:x<2 ^ 64):∀j,(x&&&(x - 1)).testBit j=(x.testBit j&&decide (j≠i)):=by
 have hi:=WR h hx;have hx0:0<x:=by
  apply Classical.byContradiction;intro hn;have:x=0:=ah;subst this;have:=h.1;simp at this
 have e:x&&&(x - 1)=(BitVec.ofNat 64 x&&&~~~(-(BitVec.ofNat 64 x))).toNat:=by
  rw[BitVec.toNat_and,BitVec.toNat_not,BitVec.toNat_neg,BitVec.toNat_ofNat,Nat.mod_eq_of_lt hx];congr 1;omega
 intro j;rw[e,BitVec.testBit_toNat,BitVec.getLsbD_and,BitVec.getLsbD_not,BitVec.getLsbD_neg];by_cases hj:j<64
 ·have hb:∀m,m<64→(BitVec.ofNat 64 x).getLsbD m=x.testBit m:=λm hm=>by rw[BitVec.getLsbD_ofNat];simp[hm]
  rw[hb j hj];simp only[hj,decide_true,Bool.true_and];by_cases hij:j=i
  ·subst hij;rw[h.1];have:¬∃m<j,(BitVec.ofNat 64 x).getLsbD m=true:=by
    rintro⟨m,hm,Vz⟩;rw[hb m ah,h.2 m hm]at Vz;cases Vz
   simp[this]
  ·cases hxj:x.testBit j with
   |false=>simp
   |true=>
    have hlt:i<j:=by
     apply Classical.byContradiction;intro hn;have:=h.2 j ah;rw[hxj]at this;cases this
    have:∃m<j,(BitVec.ofNat 64 x).getLsbD m=true:=⟨i,hlt,by rw[hb i hi];exact h.1⟩
    simp[this,hij]
 ·have:=Nat.testBit_lt_two_pow (Nat.lt_of_lt_of_le hx (Nat.pow_le_pow_right ah (by omega:64≤j)))
  rw[this,BitVec.getLsbD_of_ge _ _ ah];simp
theorem arC{x:Nat}(hx:x<2 ^ 64)(h0:0<x):oC .u64 (x:Int) (aG .u64 ((x:Int) - 1))=((x&&&(x - 1):Nat):Int):=by
 have hand:∀a b:Int,oC .u64 a b=IntKind.u64.wrap ((BitVec.ofInt 64 a&&&BitVec.ofInt 64 b).toNat:Nat):=λ_ _=>rfl;have hw:aG .u64 ((x:Int) - 1)=((x - 1:Nat):Int):=by rw[CL];omega
 rw[hw,hand];simp only[BitVec.ofInt_natCast,BitVec.toNat_and,BitVec.toNat_ofNat];rw[Nat.mod_eq_of_lt hx,Nat.mod_eq_of_lt ah,CL];have:x&&&(x - 1)≤x:=Nat.and_le_left;omega
theorem anG:bitsOf 0=[]:=fY
theorem anH{Y:Nat→bn}{v:Value}{a:Addr}{w:World}{c:Value→aq}(h:BT Y v a w λr w=>c (.tuple #[]) w):tM Y [v,.pointer (some a)] w c:=h
section
variable {w0 w:World} {L R:List HP}
theorem adY{x:Nat}{k:Int→aq}(h:St w0 w L)(hT:TZ w0)(hx:x<2 ^ 63)(hk:∀w',St w0 w' L→k ((bitsOf x).length:Nat) w'):kP (x:Int) w k:=by
 unfold kP KB pE;refine av h λgn w h=> ?_;with_reducible repeat' (first|refine qY h λw h=> ?_|refine av h λgx w h=> ?_|fail)
 refine Sb h λlr D Rc w h=> ?_;refine LS (anH (v:= .func (.yield lr) #[] #[]) (a:=⟨gx,0,none⟩) ?_);unfold BT DV;with_reducible repeat' (first|refine vt h ?_|fail)
 have aB0:x<2 ^ 64:=Nat.lt_trans hx fY;have hw:aG .u64 (x:Int)=(x:Int):=by rw[CL];omega
 rw[hw];refine Qa (G:=Nat×Nat) (λq i w=>i=(q.2:Int)∧q.2<2 ^ 64∧q.1+(bitsOf q.2).length=(bitsOf x).length∧St w0 w (ax gx [.int .i64 (x:Int)]::obj lr (Rc .ready)::obj D (.deferred (some []))::ax gn [.int .i64 (q.1:Nat)]::L)) (λq=>(bitsOf q.2).length)
  (g:=(0,x)) ⟨rfl,aB0,bc,h.perm GP⟩ ?_
 rintro⟨m,y⟩ _ w ⟨rfl,hy,hm,h⟩ C hC;dsimp only at hy hm h hC ⊢;have aFI:(bitsOf x).length≤64:=by unfold bitsOf;exact Nat.le_trans (List.length_filter_le _ _) bc
 by_cases hy0:y=0
 ·subst hy0;refine bh bc ?_;refine⟨Da (g:=lr) (o:=Rc .ready) h,?_⟩;replace h:=Aq (g:=lr) (o:=Rc .ready) (Rc .exhausted) h;generalize w.putObj lr (Rc .exhausted)=w at h ⊢;with_reducible repeat' (first|refine vt h ?_|fail)
  have h:=K4 ((P8 h).perm (M:=obj D (.deferred (some []))::Iu []::ax gx [.int .i64 (x:Int)]::obj lr (Rc .exhausted)::ax gn [.int .i64 (m:Nat)]::L) GP);refine K5 h λw h=> ?_;rw[anG]at hm;simp only[List.length_nil,Nat.add_zero]at hm;rw[hm];exact hk w (((h.rm 0 rfl).rm 0 rfl).rm 0 rfl)
 ·obtain⟨i,hl⟩:=al5 (by omega:0<y)
  have hi:=WR hl hy;refine bO (by simp;omega) ?_
  refine ax8 h hT hl hy ?_;refine P9 ?_;refine alD (l:=lr) (R:=Rc) (kk:=[.i .i64]) (i:Int) (λc hc=>hc) h λw h=> ?_;with_reducible repeat' (first|refine vt h ?_|refine qY h λw h=> ?_|fail)
  refine⟨Da (g:=lr) (o:=Rc .busy) h,?_⟩;replace h:=Aq (g:=lr) (o:=Rc .busy) (Rc .ready) h;generalize w.putObj lr (Rc .ready)=w at h ⊢;refine afb ?_;with_reducible repeat' (first|refine fE ?_|fail)
  have hbl:=ahB hi hl (aj2 hl hy);have hlen:(bitsOf y).length=(bitsOf (y&&&(y - 1))).length+1:=by rw[hbl];rfl
  rw[arC hy ah];have hle:y&&&(y - 1)≤y:=Nat.and_le_left;refine hC (m+1,y&&&(y - 1)) _ w ⟨rfl,ah,by dsimp only;omega,?_⟩ (by dsimp only;omega)
  have e:aG .i64 ((m:Int)+1)=((m+1:Nat):Int):=by rw[lY ⟨ah,ah⟩];omega
  rw[←e];exact h
def WS(x:Nat)(n:Int):Int:=match (List.range 64).find? (λj=> !x.testBit j)with|some j=>if (j:Int)≥Vn n 64 then -1 else j|none=> -1
theorem arD{x:Nat}(hx:x<2 ^ 64):Jl .u64 18446744073709551615 (x:Int)=((2 ^ 64 - 1 - x:Nat):Int):=by
 have arE:∀a b:Int,Jl .u64 a b=IntKind.u64.wrap ((BitVec.ofInt 64 a ^^^ BitVec.ofInt 64 b).toNat:Nat):=λ_ _=>rfl;rw[arE];have e1:BitVec.ofInt 64 18446744073709551615=BitVec.allOnes 64:=fY;rw[e1,BitVec.allOnes_xor,BitVec.toNat_not,CL];simp only[BitVec.ofInt_natCast,BitVec.toNat_ofNat];rw[Nat.mod_eq_of_lt hx];omega
theorem aby{x j:Nat}(hx:x<2 ^ 64)(hj:j<64):(2 ^ 64 - 1 - x).testBit j= !x.testBit j:=by
 have:=Nat.testBit_two_pow_sub_succ (x:=x) (n:=64) hx j;rw[show 2 ^ 64 - 1 - x=2 ^ 64 - (x+1) by omega,this]
 simp[hj]
theorem anI{x:Nat}{n:Int}{k:Int→aq}(h:St w0 w L)(hT:TZ w0)(hx:x<2 ^ 63)(hk:∀w',St w0 w' L→k (WS x n) w'):r6 (x:Int) n w k:=by
 unfold r6 KC;have hw:aG .u64 (x:Int)=(x:Int):=by rw[CL];omega
 rw[hw,arD ah];have hpos:0<2 ^ 64 - 1 - x:=ah;obtain⟨i,hl⟩:=al5 hpos;have hi:=WR hl ah;have hk:=hk w h;unfold WS at hk;have hf:(List.range 64).find? (λj=> !x.testBit j)=some i:=by
  rw[List.find?_range_eq_some];refine⟨by rw[←aby ah hi];exact hl.1,by simpa using hi,λj hj=> ?_⟩
  have:=hl.2 j hj;rw[aby ah ah]at this;simpa using this
 rw[hf]at hk;dsimp only at hk;refine ax8 h hT hl ah ?_;refine ay (λhb=> ?_) λhb=> ?_
 ·rw[if_pos (of_decide_eq_true hb)]at hk;exact hk
 ·rw[if_neg (of_decide_eq_false hb)]at hk;exact hk
def yR(x i:Int):Bool:=if 0≤i∧i<64 then oC .i64 (If .i64 x i) 1==1 else false
theorem al6{x i:Int}{k:Bool→aq}(hk:k (yR x i) w):ph x i w k:=by
 unfold ph;unfold yR at hk;refine ay (λhb=> ?_) λhb=> ?_
 ·have hb:0≤i∧i<64:=by simpa using hb
  rw[if_pos hb]at hk;exact aly hb.1 hk
 ·have hb:¬(0≤i∧i<64):=by simpa using hb
  rw[if_neg hb]at hk;exact hk
end
structure Sp where
 at_:Int
 base:Int
 most:Int
def Sp.OK(s:Sp):Prop:=1≤s.base∧s.base≤16∧0≤s.most∧s.most≤16 - s.base
abbrev Sp.ag(s:Sp):Array Value:=#[.int .i64 s.at_,.int .i64 s.base,.int .i64 s.most]
def Sp.bb(s:Sp):Int:=wr (rX .i64 1 s.base - 1)
structure jI where
 self:Int
 wait:Int
 on:Int
 afM:Int
 next:Nat
def spF:Nat→Nat
 |1=>uT
 |2=>uS
 |3=>uP
 |4=>uU
 |5=>uR
 |_=>r9
def azx(g:Nat):Nat→Value
 |0=> .nilFunc
 |n+1=> .func (.func (spF (n+1))) #[.pointer (some ⟨g,0,none⟩)] #[]
def jI.cells(s:Sp)(g:Nat)(o:jI):List Value:=[.int .i64 s.at_,.int .i64 s.base,.int .i64 s.most,.int .i64 o.self,.int .i64 o.wait,.int .i64 o.on,.int .i64 o.afM,azx g o.next]
def Y4(x:Int):Int:=((bitsOf x.toNat).length:Nat)
section
variable (s:Sp) (M:bK) (wk:Int) (o:jI)
def jI.more:jI×bK:=({o with wait:=wr (M.get s.at_+1),next:=4},M.ad wk s.at_ 1)
def jI.less:jI×bK:=({o with next:=0},M.ad wk s.at_ (-1))
def jI.look:jI×bK:=({o with wait:=M.get s.at_,next:=5},M.tick wk)
def jI.need:jI×bK:=(if Y4 (M.get (s.at_+1))<s.most∧Y4 (M.get (s.at_+1))<o.wait then{o with on:=M.get (s.at_+1),self:=WS (Sx .i64 (M.get (s.at_+1)) s.bb).toNat 16,next:=6}else{o with on:=M.get (s.at_+1),next:=0},M.tick wk)
def jI.many:jI×bK:=(if yR (M.get (s.at_+1)) o.self=true∧Y4 (M.get (s.at_+1))>o.wait then{o with on:=M.get (s.at_+1),next:=6}else{o with on:=M.get (s.at_+1),next:=0},M.tick wk)
def jI.adC:jI×bK:=(let r:=M.cs wk (s.at_+1) o.on (Jl .i64 o.on (rX .i64 1 (YD o.self 0)));(if r.2 then{o with afM:=o.self,next:=0}else{o with next:=0},r.1))
def jI.go:jI×bK:=match o.next with
 |0=>(o,M)
 |1=>o.more s M wk
 |2=>o.less s M wk
 |3=>o.look s M wk
 |4=>o.need s M wk
 |5=>o.many s M wk
 |_=>o.adC s M wk
end
section
variable {w0 w:World} {L R:List HP} {g gm:Nat} {s:Sp} {M:bK} {wk:Int} {o:jI} {f:HP→List HP}
theorem U1{k:Bool→aq}(h:St w0 w L)(hs:s.OK)(hk:∀w',St w0 w' L→k true w'):bZ s.ag w k:=by
 obtain⟨h1,h2,h3,h4⟩:=hs;unfold bZ;with_reducible repeat' (first|refine cS h ?_|refine av h λgx w h=> ?_|fail)
 refine bO (by simpa using h1) ?_
 with_reducible repeat' (first|refine cS h ?_|fail)
 refine bO (by simpa using h2) ?_
 with_reducible repeat' (first|refine cS h ?_|fail)
 refine bO (by simpa using h3) ?_
 with_reducible repeat' (first|refine cS h ?_|fail)
 show k (decide (s.most≤aG .i64 (16 - s.base))) w;rw[lY ⟨ah,ah⟩,decide_eq_true h4];exact hk w h.drop
theorem adZ{k:Int→aq}(h:St w0 w L)(hs:s.OK)(hk:∀w',St w0 w' L→k s.bb w'):dS s.ag w k:=by
 obtain⟨h1,h2,h3,h4⟩:=hs;unfold dS;with_reducible repeat' (first|refine cS h ?_|refine av h λgx w h=> ?_|fail)
 refine FE ah ?_;exact hk w h.drop
def Sp.bits(s:Sp)(M:bK):Int:=Sx .i64 s.bb (M.get (s.at_+1))
theorem ad0{k:Int→aq}(h:St w0 w L)[a:At L (bI gm) M f](hs:s.OK)(hM:M.OK)(hc:M.given (s.at_+1)=true)(hk:∀w',St w0 w' L→k (s.bits M) w'):dU s.ag (some ⟨gm,0,none⟩) w k:=by
 unfold dU zw;refine av h λga w h=> ?_;refine bS (λb w=>b=false∧St w0 w (ax ga s.ag.toList::L)) (λJ hJ=> ?_) ?_
 ·with_reducible repeat' (first|refine mI h ?_|refine fE ?_|fail)
  refine U1 (s:=s) h hs λw h=> ?_;exact hJ _ _ ⟨rfl,h⟩
 rintro _ w ⟨rfl,h⟩;with_reducible repeat' (first|refine aF h λw h=> ?_|refine cS h ?_|refine mI h ?_|refine fE ?_|fail)
 refine adZ (s:=s) h hs λw h=> ?_;with_reducible repeat' (first|refine ja h ?_|fail)
 rw[Ah (.inr hc) hM];refine WM (M:=M) h ?_;rw[if_pos hc];exact hk w h.drop
theorem avT{i:Int}{k:Bool→aq}(h:St w0 w L)[a:At L (bI gm) M f](hs:s.OK)(hM:M.OK)(hc:M.given (s.at_+1)=true)(hk:∀w',St w0 w' L→k (yR (s.bits M) i) w'):jB s.ag (some ⟨gm,0,none⟩) i w k:=by
 unfold jB Ci;refine av h λga w h=> ?_;with_reducible repeat' (first|refine mI h ?_|fail)
 refine ad0 (s:=s) h hs hM hc λw h=>al6 ?_;exact hk w h.drop
theorem arF{base most:Int}{k:Array Value×Int→aq}(h:St w0 w L)[a2:At L (bI gm) M f](hs:Sp.OK ⟨0,base,most⟩)(hw:M.caller wk=true)(hM:M.OK)
  (hk:M.room 2=true→∀w',St w0 w' (f (bI gm ((M.tick wk).grow 2)))→k (Sp.ag ⟨(M.cells.length:Nat),base,most⟩,0) w') (GI:M.room 2=false→∀w',St w0 w' L→k (Sp.ag ⟨0,0,0⟩,21) w'):
  tZ (some ⟨gm,0,none⟩) wk base most w k:=by
 unfold tZ MJ;with_reducible repeat' (first|refine mI h ?_|refine nW h λw h=> ?_|refine av h λgx w h=> ?_|refine fE ?_|fail)
 refine U1 (s:=⟨0,base,most⟩) h hs λw h=> ?_;with_reducible repeat' (first|refine fE ?_|fail)
 refine Gr (M:=M) h hM (λ_ _ hr w h=> ?_) (λ_ _ hr=> ?_) λhn=>(hn ⟨hw,ah⟩).elim
 ·with_reducible repeat' (first|refine mI h ?_|refine dO h λw h=> ?_|refine nW h λw h=> ?_|refine fE ?_|fail)
  exact hk hr w h.drop.drop
 ·with_reducible repeat' (first|refine mI h ?_|refine nW h λw h=> ?_|refine nJ ?_|fail)
  exact GI hr w h.drop.drop
def jI.CT(self:Int)(n:Nat):jI:=⟨self,0,0, -1,n⟩
theorem arG{k:Option Addr→aq}(h:St w0 w L)(hk:∀g w',St w0 w' (ax g (jI.cells s g (jI.CT 0 1))::L)→k (some ⟨g,0,none⟩) w'):jR s.ag w k:=by
 unfold jR;with_reducible repeat' (first|refine mI h ?_|refine av h λgx w h=> ?_|fail)
 refine⟨rfl,?_⟩;refine av h λgz w h=> ?_;with_reducible repeat' (first|refine dO h λw h=> ?_|fail)
 exact hk gz w (h.rm 1 rfl)
theorem anJ{k:Option Addr→aq}(h:St w0 w L)(hk:∀g w',St w0 w' (ax g (jI.cells s g (jI.CT 0 2))::L)→k (some ⟨g,0,none⟩) w'):iy s.ag w k:=by
 unfold iy;with_reducible repeat' (first|refine mI h ?_|refine av h λgx w h=> ?_|fail)
 refine⟨rfl,?_⟩;refine av h λgz w h=> ?_;with_reducible repeat' (first|refine dO h λw h=> ?_|fail)
 exact hk gz w (h.rm 1 rfl)
theorem anK{self:Int}{k:Option Addr→aq}(h:St w0 w L)(hk:∀g w',St w0 w' (ax g (jI.cells s g (jI.CT self 3))::L)→k (some ⟨g,0,none⟩) w'):jr s.ag self w k:=by
 unfold jr;with_reducible repeat' (first|refine mI h ?_|refine av h λgx w h=> ?_|fail)
 refine⟨rfl,?_⟩;refine av h λgz w h=> ?_;with_reducible repeat' (first|refine dO h λw h=> ?_|fail)
 exact hk gz w (h.rm 1 rfl)
theorem arH{k:Int→aq}(h:St w0 w L)[a:At L (ax g) (jI.cells s g o) f](hk:k o.afM w):nF (some ⟨g,0,none⟩) w k:=by
 unfold nF;with_reducible repeat' (first|refine an ?_|refine cS h ?_|refine fE ?_|fail)
 exact hk
end
abbrev ad1(w0:World)(s:Sp)(g gm:Nat)(R:List HP)(k:Int→aq)(r:jI×bK):Prop:=∀w',St w0 w' (ax g (jI.cells s g r.1)::bI gm r.2::R)→k 0 w'
section
variable {w0 w:World} {R:List HP} {g gm:Nat} {s:Sp} {M:bK} {wk:Int} {o:jI} {k:Int→aq}
theorem sp1(h:St w0 w (ax g (jI.cells s g o)::bI gm M::R))(hc:M.can wk s.at_=true)(hk:ad1 w0 s g gm R k (o.more s M wk)):l7 (some ⟨g,0,none⟩) (some ⟨gm,0,none⟩) wk w k:=by
 unfold l7 Fk;with_reducible repeat' (first|refine an ?_|fail)
 refine cn (g:=g) (o:=0) h rfl ?_;refine UW (M:=M) h hc λw h=> ?_;with_reducible repeat' (first|refine an ?_|refine dO h λw h=> ?_|refine nJ ?_|fail)
 exact hk w h
theorem sp2(h:St w0 w (ax g (jI.cells s g o)::bI gm M::R))(hc:M.can wk s.at_=true)(hk:ad1 w0 s g gm R k (o.less s M wk)):l8 (some ⟨g,0,none⟩) (some ⟨gm,0,none⟩) wk w k:=by
 unfold l8 Fm;with_reducible repeat' (first|refine an ?_|fail)
 refine cn (g:=g) (o:=0) h rfl ?_;refine UW (M:=M) h hc λw h=> ?_;with_reducible repeat' (first|refine an ?_|refine dO h λw h=> ?_|refine nJ ?_|fail)
 exact hk w h
theorem sp3(h:St w0 w (ax g (jI.cells s g o)::bI gm M::R))(hc:M.can wk s.at_=true)(hk:ad1 w0 s g gm R k (o.look s M wk)):l9 (some ⟨g,0,none⟩) (some ⟨gm,0,none⟩) wk w k:=by
 unfold l9 Fo;with_reducible repeat' (first|refine an ?_|fail)
 refine cn (g:=g) (o:=0) h rfl ?_;refine ldc (M:=M) h hc λw h=> ?_;with_reducible repeat' (first|refine an ?_|refine dO h λw h=> ?_|refine nJ ?_|fail)
 exact hk w h
theorem avU{a b:Nat}(ha:a<2 ^ 63)(hb:b<2 ^ 63):Sx .i64 (a:Int) (b:Int)=((a|||b:Nat):Int)∧a|||b<2 ^ 63:=by
 have h:a|||b<2 ^ 63:=Nat.or_lt_two_pow ha hb;have hor:∀a b:Int,Sx .i64 a b=IntKind.i64.wrap ((BitVec.ofInt 64 a|||BitVec.ofInt 64 b).toNat:Nat):=λ_ _=>rfl
 refine⟨?_,h⟩;rw[hor];simp only[BitVec.ofInt_natCast,BitVec.toNat_or,BitVec.toNat_ofNat];rw[Nat.mod_eq_of_lt ah,Nat.mod_eq_of_lt ah,lY ⟨ah,ah⟩]
theorem avV(hs:s.OK):∃b:Nat,s.bb=b∧b<2 ^ 63:=by
 obtain⟨h1,h2,_⟩:=hs;have key:∀n:Nat,n<17→wr (rX .i64 1 (n:Int) - 1)=((2 ^ n - 1:Nat):Int)∧2 ^ n - 1<2 ^ 63:=fY;obtain⟨hb,hlt⟩:=key s.base.toNat ah;refine⟨2 ^ s.base.toNat - 1,?_,hlt⟩;unfold Sp.bb;rw[show s.base=(s.base.toNat:Int) by omega];exact hb
theorem sp4(h:St w0 w (ax g (jI.cells s g o)::bI gm M::R))(hT:TZ w0)(hs:s.OK)(hM:M.OK)(hc:M.can wk (s.at_+1)=true)(hx:∃x:Nat,M.get (s.at_+1)=x∧x<2 ^ 63)(hk:ad1 w0 s g gm R k (o.need s M wk)):mb (some ⟨g,0,none⟩) (some ⟨gm,0,none⟩) wk w k:=by
 unfold mb Fp;obtain⟨x,hx,hx2⟩:=hx;unfold jI.need at hk;rw[hx]at hk;have hp:Y4 (x:Int)=((bitsOf x).length:Nat):=rfl;with_reducible repeat' (first|refine an ?_|fail)
 refine cn (g:=g) (o:=0) h rfl ?_;rw[Ah (.inr (oW hc)) hM];refine ldc (M:=M) h hc λw h=> ?_;rw[hx];with_reducible repeat' (first|refine an ?_|refine dO h λw h=> ?_|refine fE ?_|fail)
 refine adY h hT hx2 λw h=> ?_;rw[←hp];refine bS (λb w'=>w'=w∧b=decide (Y4 (x:Int)<s.most∧Y4 (x:Int)<o.wait)) (λJ hJ=> ?_) ?_
 ·with_reducible repeat' (first|refine an ?_|fail)
  refine cn (g:=g) (o:=2) h rfl ?_;refine ay (λhb=> ?_) λhb=> ?_
  ·have hb:=of_decide_eq_true hb;with_reducible repeat' (first|refine an ?_|refine cS h ?_|fail)
   refine hJ _ _ ⟨rfl,?_⟩;simp[hb,jI.cells]
  ·have hb:=of_decide_eq_false hb;refine hJ _ _ ⟨rfl,?_⟩;simp[hb]
 rintro _ _ ⟨rfl,rfl⟩;refine ay (λhb=> ?_) λhb=> ?_
 ·rw[if_pos (of_decide_eq_true hb)]at hk;with_reducible repeat' (first|refine an ?_|refine mH h ?_|fail)
  refine adZ (s:=s) h hs λw h=> ?_;obtain⟨b,AM,jL⟩:=avV hs;have ho:=avU hx2 jL;rw[AM,ho.1]at hk ⊢;refine anI h hT ho.2 λw h=> ?_;with_reducible repeat' (first|refine an ?_|refine dO h λw h=> ?_|fail)
  exact hk w h
 ·rw[if_neg (of_decide_eq_false hb)]at hk;exact hk _ h
theorem sp5(h:St w0 w (ax g (jI.cells s g o)::bI gm M::R))(hT:TZ w0)(hs:s.OK)(hM:M.OK)(hc:M.can wk (s.at_+1)=true)(hx:∃x:Nat,M.get (s.at_+1)=x∧x<2 ^ 63)(hk:ad1 w0 s g gm R k (o.many s M wk)):mg (some ⟨g,0,none⟩) (some ⟨gm,0,none⟩) wk w k:=by
 unfold mg Fq;obtain⟨x,hx,hx2⟩:=hx;unfold jI.many at hk;rw[hx]at hk;have hp:Y4 (x:Int)=((bitsOf x).length:Nat):=rfl;with_reducible repeat' (first|refine an ?_|fail)
 refine cn (g:=g) (o:=0) h rfl ?_;rw[Ah (.inr (oW hc)) hM];refine ldc (M:=M) h hc λw h=> ?_;rw[hx];with_reducible repeat' (first|refine an ?_|refine dO h λw h=> ?_|refine fE ?_|fail)
 refine bS (λb w'=>St w0 w' (ax g (jI.cells s g {o with on:=(x:Int),next:=0})::bI gm (M.tick wk)::R)∧b=decide (yR (x:Int) o.self=true∧Y4 (x:Int)>o.wait)) (λJ hJ=> ?_) ?_
 ·with_reducible repeat' (first|refine an ?_|refine aF h λw h=> ?_|refine cS h ?_|fail)
  refine al6 (ay (λhb=> ?_) λhb=> ?_)
  ·with_reducible repeat' (first|refine an ?_|refine cS h ?_|fail)
   refine adY h hT hx2 λw h=> ?_;with_reducible repeat' (first|refine ja h ?_|fail)
   rw[←hp];refine hJ _ _ ⟨h,?_⟩;have hb:yR (x:Int) o.self=true:=hb;simp[hb,jI.cells]
  ·refine hJ _ _ ⟨h,?_⟩;have hb:yR (x:Int) o.self=false:=hb;simp[hb]
 rintro _ w ⟨h,rfl⟩;refine ay (λhb=> ?_) λhb=> ?_
 ·rw[if_pos (of_decide_eq_true hb)]at hk;with_reducible repeat' (first|refine an ?_|refine dO h λw h=> ?_|fail)
  exact hk w h
 ·rw[if_neg (of_decide_eq_false hb)]at hk;exact hk _ h
theorem sp6(h:St w0 w (ax g (jI.cells s g o)::bI gm M::R))(hM:M.OK)(hc:M.can wk (s.at_+1)=true)(hk:ad1 w0 s g gm R k (o.adC s M wk)):mh (some ⟨g,0,none⟩) (some ⟨gm,0,none⟩) wk w k:=by
 unfold mh Fs;unfold jI.adC at hk;with_reducible repeat' (first|refine an ?_|refine aF h λw h=> ?_|fail)
 refine cn (g:=g) (o:=0) h rfl ?_;with_reducible repeat' (first|refine an ?_|refine cS h ?_|fail)
 refine FE (by unfold YD;split<;>simp_all) ?_
 rw[Ah (.inr (oW hc)) hM];refine alX (M:=M) h hc λw h=> ?_;with_reducible repeat' (first|refine an ?_|refine dO h λw h=> ?_|refine fE ?_|fail)
 refine ay (λhb=> ?_) λhb=> ?_
 ·have hb:(M.cs wk (s.at_+1) o.on (Jl .i64 o.on (rX .i64 1 (YD o.self 0)))).2=true:=hb;simp only[hb,if_true]at hk;with_reducible repeat' (first|refine an ?_|refine cS h ?_|refine dO h λw h=> ?_|fail)
  exact hk w h
 ·have hb:(M.cs wk (s.at_+1) o.on (Jl .i64 o.on (rX .i64 1 (YD o.self 0)))).2=false:=hb;simp only[hb,Bool.false_eq_true,if_false]at hk;exact hk w h
theorem arI{a b:Option Addr}{i:Int}{w:World}{c:Value→aq}(h:l7 a b i w λr w=>c (.int .i64 r) w):Lx [.pointer a,.pointer b,.int .i64 i] w c:=h
theorem arJ{a b:Option Addr}{i:Int}{w:World}{c:Value→aq}(h:l8 a b i w λr w=>c (.int .i64 r) w):Ly [.pointer a,.pointer b,.int .i64 i] w c:=h
theorem arK{a b:Option Addr}{i:Int}{w:World}{c:Value→aq}(h:l9 a b i w λr w=>c (.int .i64 r) w):Lz [.pointer a,.pointer b,.int .i64 i] w c:=h
theorem arL{a b:Option Addr}{i:Int}{w:World}{c:Value→aq}(h:mb a b i w λr w=>c (.int .i64 r) w):LA [.pointer a,.pointer b,.int .i64 i] w c:=h
theorem arM{a b:Option Addr}{i:Int}{w:World}{c:Value→aq}(h:mg a b i w λr w=>c (.int .i64 r) w):LB [.pointer a,.pointer b,.int .i64 i] w c:=h
theorem arN{a b:Option Addr}{i:Int}{w:World}{c:Value→aq}(h:mh a b i w λr w=>c (.int .i64 r) w):LC [.pointer a,.pointer b,.int .i64 i] w c:=h
structure jI.Gu (s:Sp) (M:bK) (wk:Int) (o:jI):Prop where
 n:o.next≤6
 c:M.can wk s.at_=true
 c1:M.can wk (s.at_+1)=true
 x:∃x:Nat,M.get (s.at_+1)=x∧x<2 ^ 63
theorem X6{k:Bool×Int→aq}(h:St w0 w (ax g (jI.cells s g o)::bI gm M::R))(hT:TZ w0)(hs:s.OK)(hM:M.OK)(hf:o.Gu s M wk)
  (hk:∀w',St w0 w' (ax g (jI.cells s g (o.go s M wk).1)::bI gm (o.go s M wk).2::R)→k ((o.go s M wk).1.next==0,0) w'):dy (some ⟨g,0,none⟩) (some ⟨gm,0,none⟩) wk w k:=by
 obtain⟨hn,hc,GJ,hx⟩:=hf;unfold dy Ft;with_reducible repeat' (first|refine an ?_|refine mH h ?_|refine fE ?_|fail)
 refine U1 (s:=s) h hs λw h=> ?_;with_reducible repeat' (first|refine an ?_|refine pC h ?_|refine fE ?_|fail)
 obtain⟨sf,wt,on,mv,nx⟩:=o;dsimp only at hn;have fin:∀(r:jI×bK) w,(∀w',St w0 w' (ax g (jI.cells s g r.1)::bI gm r.2::R)→k (r.1.next==0,0) w')→St w0 w (ax g (jI.cells s g r.1)::bI gm r.2::R)→
   sX w (aY ⟨g,0,none⟩ 7) λv14=>aac v14 λb15=>k (b15,(0:Int)) w:=by
  intro r w hk h;with_reducible repeat' (first|refine pC h ?_|fail)
  have hk:=hk w h;cases hr:r.1.next with
  |zero=>
   rw[hr]at hk;exact alE hk
  |succ n=>
   rw[hr]at hk;exact My hk
 match nx,hn with
 |0,_=>
  refine alE ?_;with_reducible repeat' (first|refine nJ ?_|fail)
  exact hk w h
 |1,_=>
  refine My ?_;with_reducible repeat' (first|refine an ?_|refine pC h ?_|refine fE ?_|fail)
  refine bU (d:=Lx) (λ_ _ _=>rfl) (arI ?_);refine sp1 h hc λw h=> ?_;exact Io (bh rfl (fin _ w hk h))
 |2,_=>
  refine My ?_;with_reducible repeat' (first|refine an ?_|refine pC h ?_|refine fE ?_|fail)
  refine bU (d:=Ly) (λ_ _ _=>rfl) (arJ ?_);refine sp2 h hc λw h=> ?_;exact Io (bh rfl (fin _ w hk h))
 |3,_=>
  refine My ?_;with_reducible repeat' (first|refine an ?_|refine pC h ?_|refine fE ?_|fail)
  refine bU (d:=Lz) (λ_ _ _=>rfl) (arK ?_);refine sp3 h hc λw h=> ?_;exact Io (bh rfl (fin _ w hk h))
 |4,_=>
  refine My ?_;with_reducible repeat' (first|refine an ?_|refine pC h ?_|refine fE ?_|fail)
  refine bU (d:=LA) (λ_ _ _=>rfl) (arL ?_);refine sp4 h hT hs hM GJ hx λw h=> ?_;exact Io (bh rfl (fin _ w hk h))
 |5,_=>
  refine My ?_;with_reducible repeat' (first|refine an ?_|refine pC h ?_|refine fE ?_|fail)
  refine bU (d:=LB) (λ_ _ _=>rfl) (arM ?_);refine sp5 h hT hs hM GJ hx λw h=> ?_;exact Io (bh rfl (fin _ w hk h))
 |6,_=>
  refine My ?_;with_reducible repeat' (first|refine an ?_|refine pC h ?_|refine fE ?_|fail)
  refine bU (d:=LC) (λ_ _ _=>rfl) (arN ?_);refine sp6 h hM GJ λw h=> ?_;exact Io (bh rfl (fin _ w hk h))
end
end Go.Proofs.YthidhjhkmjjckaaGreatDoor
namespace Go.Proofs.YthidhjhkmjjckaaGreatDoor.Fr
open Go Go.Ev Go.Proofs
def Ax(f:List Int)(pc:Int):List Int:=(f.set 1 pc).set 18 (IntKind.i64.wrap ((f.set 1 pc).getD 18 0+1))
def nu(f:List Int):List Int:=Ax f (IntKind.i64.wrap (f.getD 1 0+1))
theorem qv{f:List Int}{pc:Int}:(Ax f pc).length=f.length:=by simp[Ax]
theorem kr{f:List Int}:(nu f).length=f.length:=qv
abbrev Z(n:Nat):List Int:=dM n 0
theorem arO{f:List Int}{pc:Int}{w:World}{k:Array Value→aq}(hf:f.length=19)(hk:∀w',Ext w w'→k (eU (Ax f pc)) w'):cX (eU f) pc w k:=by
 unfold cX;refine jD λg1 w1 ZE hs1 AM Ai=>jD λg2 w2 Mq Im jL uM=> ?_;have vl:BI w2 g1 f:=AM.ext uM;simp only[cY,Nat.zero_add];refine B4 vl ah λw3 sx Uu U0=> ?_;refine jX sx (by simp;omega) ?_
 refine B4 sx (by simp;omega) λw4 IT hs4 Tu=> ?_
 refine kS IT (by simp[hf]) ?_
 have yS:=(jL.keep U0 ah).keep Tu ah;refine xA yS rfl (by simp[hf]) λw5 U2 hs5 ZF=>kS U2 (by simp[hf]) ?_
 exact hk _ ((((Ai.trans uM).then U0 λg hg=>by omega).then Tu λg hg=>by omega).then ZF λg hg=>by have:=Ai.size;omega)
theorem abz{f:List Int}{w:World}{k:Array Value→aq}(hf:f.length=19)(hk:∀w',Ext w w'→k (eU (nu f)) w'):az (eU f) w k:=by
 unfold az xX;refine jD λg1 w1 ZE hs1 AM Ai=>jD λg2 w2 Mq Im jL uM=> ?_;have vl:BI w2 g1 f:=AM.ext uM;simp only[cY,Nat.zero_add];refine kS vl hf (jX vl ah (arO hf λw3 yZ=> ?_));refine xA (jL.ext yZ) rfl (by simp[qv,hf]) λw5 U2 hs5 ZF=>kS U2 (by simp[qv,hf]) ?_
 exact hk _ (((Ai.trans uM).trans yZ).then ZF λg hg=>by have:=Ai.size;omega)
theorem afN{l:List Int}(h:l.length=19):∃a b c d e f g h i j k m n o p q r s t,l=[a,b,c,d,e,f,g,h,i,j,k,m,n,o,p,q,r,s,t]:=by
 match l,h with
 |[a,b,c,d,e,f,g,h,i,j,k,m,n,o,p,q,r,s,t],_=>exact⟨a,b,c,d,e,f,g,h,i,j,k,m,n,o,p,q,r,s,t,rfl⟩
def nR:List Int:=[0,0,0,0,0,0,0,0,0,0, -1, -1, -1, -1, -1, -1, -1, -1,0]
theorem anL{i:Nat}(h:i<8):(dM 10 (0:Int)++(dM i (-1)++dM (9 - i) 0)).set (10+i) (-1)=dM 10 0++(dM (i+1) (-1)++dM (9 - (i+1)) 0):=by
 match i,h with
 |0,_=>rfl
 |1,_=>rfl
 |2,_=>rfl
 |3,_=>rfl
 |4,_=>rfl
 |5,_=>rfl
 |6,_=>rfl
 |7,_=>rfl
theorem al7{w:World}{k:Array Value→aq}(hk:∀w',Ext w w'→k (eU nR) w'):lF w k:=by
 unfold lF;refine jD λg1 w1 ZE hs1 AM Ai=>jD λg2 w2 Mq Im jL uM=> ?_;simp only[cY,Nat.zero_add];have aB1:BI w2 g2 (dM 10 0++(dM 0 (-1)++dM (9 - 0) 0)):=by
  have e:(dM 10 (0:Int)++(dM 0 (-1)++dM (9 - 0) 0))=Z 19:=fY;rw[e];exact jL
 refine og (fun(x:Int) w'=> ∃i:Nat,x=i∧i≤8∧BI w' g2 (dM 10 0++(dM i (-1)++dM (9 - i) 0))∧oU (λk=>k=g2) w2 w') (λx _=>(8 - x).toNat) ⟨0,rfl,ah,aB1,.refl _ _⟩ ?_;rintro _ w3 ⟨i,rfl,hi,sx,U0⟩ C hC;refine ay (λhlt=> ?_) (λhge=> ?_)
 ·have hlt:i<8:=by
    have:(i:Int)<8:=by simpa using hlt
    omega
  refine tU ah ah ?_;simp only[kR,Nat.mul_one];refine B4 sx (by simp;omega) λw4 IT hs4 Tu=> ?_
  have hw:IntKind.i64.wrap ((i:Int)+1)=((i+1:Nat):Int):=by rw[cT ⟨ah,ah⟩];simp
  exact hC _ _ ⟨i+1,hw,ah,by rw[←anL hlt];exact IT,U0.trans Tu (λ_ _ h=>h) λ_ _ h=>h⟩ (by rw[hw];omega)
 ·have hge:i=8:=by
    have:¬(i:Int)<8:=by simpa using hge
    omega
  subst hge;refine kS (l:=nR) sx rfl ?_;refine xA (l:=nR) ((AM.ext uM).keep U0 ah) rfl rfl λw5 U2 hs5 ZF=>kS U2 rfl ?_;exact hk _ (((Ai.trans uM).then U0 λg hg=>by have:=Ai.size;omega).then ZF λg hg=>by omega)
def nS:List Int:=[1,0,0,5,1,1,0,0,1,1,1,0,1,1,1,0,1,1,1,0,1,1,1,0,0,0,0,2,1,0,0,2,1,0,0,3,1,1,0,0,1,1,1,0,0,0,0,4,1,0,0,0,0,0,0,0,0,0,0,0,1,0,0,0,1,0,0,0]
def U3(k:Int):Int×Int:=if k=1 then(0,7)else if k=2 then(0,127)else if k=3 then(0,31)else if k=4 then(0,65535)else if k=5 then(-2147483648,2147483647)else(0,0)
def pP(op j:Nat):Int×Int:=U3 (nS.getD (4*op+j) 0)
def FG(i:List Int)(j:Nat):Bool:=decide ((pP (i.getD 0 0).toNat j).1≤i.getD (j+1) 0∧i.getD (j+1) 0≤(pP (i.getD 0 0).toNat j).2)
def oP(i:List Int):Int:=if i.getD 0 0<0∨i.getD 0 0≥17 then 13 else if FG i 0&&FG i 1&&FG i 2&&FG i 3 then 0 else 10
theorem afO{x:Int}{w:World}{k:Int×Int→aq}(hk:k (U3 x) w):rz x w k:=by
 unfold rz;unfold U3 at hk;refine ay (λh=> ?_) (λh=> ?_)
 ·rw[if_pos (by simpa using h)]at hk;exact hk
 rw[if_neg (by simpa using h)]at hk
 refine ay (λh=> ?_) (λh=> ?_)
 ·rw[if_pos (by simpa using h)]at hk;exact hk
 rw[if_neg (by simpa using h)]at hk
 refine ay (λh=> ?_) (λh=> ?_)
 ·rw[if_pos (by simpa using h)]at hk;exact hk
 rw[if_neg (by simpa using h)]at hk
 refine ay (λh=> ?_) (λh=> ?_)
 ·rw[if_pos (by simpa using h)]at hk;exact hk
 rw[if_neg (by simpa using h)]at hk
 refine ay (λh=> ?_) (λh=> ?_)
 ·rw[if_pos (by simpa using h)]at hk;exact hk
 rw[if_neg (by simpa using h)]at hk
 exact hk
theorem RA{op:Int}{w:World}{k:Array Value→aq}(h0:0≤op)(h1:op<17)(hk:∀w',Ext w w'→k (eU ((nS.drop (op.toNat*4)).take 4)) w'):l6 op w k:=by
 unfold l6;refine jD λg1 w1 ZE hs1 AM Ai=> ?_;refine qK (eU (nS.take 4++Z 64)) rfl rfl ?_;refine qK (eU (nS.take 8++Z 60)) rfl rfl ?_;refine qK (eU (nS.take 12++Z 56)) rfl rfl ?_;refine qK (eU (nS.take 16++Z 52)) rfl rfl ?_;refine qK (eU (nS.take 20++Z 48)) rfl rfl ?_;refine qK (eU (nS.take 24++Z 44)) rfl rfl ?_;refine qK (eU (nS.take 28++Z 40)) rfl rfl ?_;refine qK (eU (nS.take 32++Z 36)) rfl rfl ?_;refine qK (eU (nS.take 36++Z 32)) rfl rfl ?_;refine qK (eU (nS.take 40++Z 28)) rfl rfl ?_;refine qK (eU (nS.take 44++Z 24)) rfl rfl ?_;refine qK (eU (nS.take 48++Z 20)) rfl rfl ?_;refine qK (eU (nS.take 52++Z 16)) rfl rfl ?_;refine qK (eU (nS.take 56++Z 12)) rfl rfl ?_;refine qK (eU (nS.take 60++Z 8)) rfl rfl ?_;refine qK (eU (nS.take 64++Z 4)) rfl rfl ?_;refine qK (eU nS) rfl rfl ?_;refine jD λg2 w2 Mq Im jL uM=> ?_;refine xA jL rfl rfl λw3 sx Uu U0=> ?_;have vl:=(AM.ext uM).keep U0 ah;refine tU h0 ah ?_;rw[Nat.zero_add];have hl:nS.length=68:=rfl;refine apF sx ah ?_;refine xA vl rfl (by simp[hl];omega) λw4 IT hs4 Tu=>kS IT (by simp[hl];omega) ?_
 exact hk _ (((Ai.trans uM).then U0 λg hg=>by have:=Ai.size;omega).then Tu λg hg=>by omega)
theorem four{j:Nat}(h:j<4):j=0∨j=1∨j=2∨j=3:=ah
theorem arP{i:List Int}{j:Nat}(h0:¬(i.getD 0 0<0∨i.getD 0 0≥17))(hj:j<4)(hb:FG i j=false):oP i=10:=by
 unfold oP;rw[if_neg h0];rcases four hj with rfl|rfl|rfl|rfl<;>simp[hb]
theorem ad2{i:List Int}(h0:¬(i.getD 0 0<0∨i.getD 0 0≥17))(hb:∀j,j<4→FG i j=true):oP i=0:=by
 unfold oP;rw[if_neg h0];simp[hb 0 ah,hb 1 ah,hb 2 ah,hb 3 ah]
theorem aj3{op j:Nat}(h:op<17)(hj:j<4):((nS.drop (op*4)).take 4).getD j 0=nS.getD (4*op+j) 0:=by
 rw[nI,List.getElem?_take_of_lt hj,List.getElem?_drop,nI,Nat.mul_comm]
theorem azy{i:List Int}{j:Nat}(hj:j<4):[i.getD 1 0,i.getD 2 0,i.getD 3 0,i.getD 4 0].getD j 0=i.getD (j+1) 0:=by
 rcases four hj with rfl|rfl|rfl|rfl<;>rfl
theorem ahE{i:List Int}{w:World}{k:Int→aq}(hi:i.length=5)(hk:∀w',Ext w w'→k (oP i) w'):eW (eU i) w k:=by
 unfold eW FF;refine jD λg1 w1 ZE hs1 AM Ai=> ?_;have vl:BI w1 g1 i:=AM;simp only[cY,Nat.zero_add];refine bS (λb w'=>b=decide (i.getD 0 0<0∨i.getD 0 0≥17)∧w1=w') ?_ ?_
 ·intro J hJ;refine jX vl ah (ay (λh=>hJ _ _ ⟨?_,rfl⟩) λh=> ?_)
  ·simp only[decide_eq_true_eq]at h;exact(decide_eq_true (.inl h)).symm
  ·simp only[decide_eq_false_iff_not]at h;refine jX vl ah (hJ _ _ ⟨?_,rfl⟩);rw[decide_eq_decide];omega
 rintro _ _ ⟨rfl,rfl⟩;refine ay (λh=> ?_) λh=> ?_
 ·have h:=of_decide_eq_true h;have e:oP i=13:=by unfold oP;rw[if_pos h]
  rw[←e];exact hk _ Ai
 have h:=of_decide_eq_false h;refine jX vl ah (RA ah ah λw2 uM=> ?_);refine jD λg3 w3 hg3 Uu sx yZ=> ?_;have hl:((nS.drop ((i.getD 0 0).toNat*4)).take 4).length=4:=by
  have:nS.length=68:=rfl;rw[List.length_take,List.length_drop,this];omega
 refine xA sx rfl hl λw4 IT hs4 Tu=> ?_;have LY:Ext w1 w4:=(uM.trans yZ).then Tu λg hg=>by have:=uM.size;omega
 have yT:BI w4 g1 i:=vl.ext LY;refine jX yT ah (jX yT ah (jX yT ah (jX yT ah ?_)));refine og (fun(x:Int×Int) w'=>w4=w'∧x.1=0∧∃j:Nat,x.2=j∧j≤4∧∀m,m<j→FG i m=true) (λx _=>(4 - x.2).toNat) ⟨rfl,rfl,0,rfl,ah,λm hm=>by omega⟩ ?_
 rintro⟨out,_⟩ _ ⟨rfl,ho,j,hj,hj4,n9⟩ C hC;simp only at ho hj;subst ho;subst hj;refine ay (λhlt=> ?_) λhge=> ?_
 ·have hlt:j<4:=by
    have:(j:Int)<4:=by simpa using hlt
    omega
  refine apG (l:=[i.getD 1 0,i.getD 2 0,i.getD 3 0,i.getD 4 0]) bc (by simp;omega) rfl ?_
  rw[kR,azy hlt];refine Io (tU ah ah ?_);rw[kR,Nat.mul_one,Nat.zero_add];refine jX IT ah ?_;rw[aj3 ah hlt];refine afO ?_;have e:((decide (i.getD (j+1) 0<(U3 (nS.getD (4*(i.getD 0 0).toNat+j) 0)).1))||(decide (i.getD (j+1) 0>(U3 (nS.getD (4*(i.getD 0 0).toNat+j) 0)).2)))= !FG i j:=by
   unfold FG pP;rw[Bool.eq_iff_iff];simp only[Bool.or_eq_true,decide_eq_true_eq,Bool.not_eq_true',decide_eq_false_iff_not];omega
  rw[e];refine ay (λhb=> ?_) λhb=> ?_
  ·rw[←arP h hlt (by simpa using hb)]
   exact hk _ (Ai.trans LY)
  ·have hw:IntKind.i64.wrap ((j:Int)+1)=((j+1:Nat):Int):=by rw[cT ⟨ah,ah⟩];simp
   refine hC _ _ ⟨rfl,rfl,j+1,hw,ah,λm hm=> ?_⟩ (by simp only[hw];omega)
   by_cases hmj:m=j
   ·subst hmj;simpa using hb
   ·exact n9 m ah
 ·have hge:j=4:=by
    have:¬(j:Int)<4:=by simpa using hge
    omega
  subst hge;simp only;rw[←ad2 h n9];exact hk _ (Ai.trans LY)
theorem aB3{op:Int}(h0:0≤op)(h1:op<17):op=0∨op=1∨op=2∨op=3∨op=4∨op=5∨op=6∨op=7∨op=8∨op=9∨op=10∨op=11∨op=12∨op=13∨op=14∨op=15∨op=16:=ah
def oT(i:List Int)(op:Int):Bool:=i.getD 0 0==op&&oP i==0
theorem GZ{i:List Int}{op:Int}{w:World}{k:Bool→aq}(hi:i.length=5)(hk:∀w',Ext w w'→k (oT i op) w'):eK (eU i) op w k:=by
 unfold eK Ng;refine jD λg1 w1 ZE hs1 AM Ai=> ?_;have vl:BI w1 g1 i:=AM;simp only[cY,Nat.zero_add];unfold oT at hk;refine jX vl ah (ay (λh=> ?_) λh=> ?_)
 ·refine kS vl hi (ahE hi λw2 uM=> ?_);have:=hk _ (Ai.trans uM);rwa[h,Bool.true_and]at this
 ·have:=hk _ Ai;rwa[h,Bool.false_and]at this
theorem arR{b:Bool}{w:World}{k:Int→aq}(hk:k (if b then 1 else 0) w):mT b w k:=by
 unfold mT;cases b<;>exact hk
theorem afP{i:List Int}(h:oP i=0):0≤i.getD 0 0∧i.getD 0 0<17∧∀j,j<4→(pP (i.getD 0 0).toNat j).1≤i.getD (j+1) 0∧i.getD (j+1) 0≤(pP (i.getD 0 0).toNat j).2:=by
 unfold oP at h;split at h
 ·cases h
 ·rename_i h0;split at h
  ·rename_i h1;simp only[iZ]at h1;refine⟨ah,ah,λj hj=> ?_⟩;rcases four hj with rfl|rfl|rfl|rfl
   ·exact of_decide_eq_true h1.1.1.1
   ·exact of_decide_eq_true h1.1.1.2
   ·exact of_decide_eq_true h1.1.2
   ·exact of_decide_eq_true h1.2
  ·cases h
theorem X7:∀op,op<17→∀j,j<3→0≤(pP op j).1∧(pP op j).2≤7:=fY
theorem vn{i:List Int}(h:oP i=0):(0≤i.getD 1 0∧i.getD 1 0<8)∧(0≤i.getD 2 0∧i.getD 2 0<8)∧0≤i.getD 3 0∧i.getD 3 0<8:=by
 obtain⟨h0,h1,hs⟩:=afP h;have a:=hs 0 ah;have b:=hs 1 ah;have c:=hs 2 ah;have a':=X7 (i.getD 0 0).toNat ah 0 ah;have b':=X7 (i.getD 0 0).toNat ah 1 ah;have c':=X7 (i.getD 0 0).toNat ah 2 ah;simp only[Nat.zero_add,Nat.reduceAdd]at a b c;omega
abbrev fR(f:List Int)(r:Int):Int:=f.getD (2+r.toNat) 0
def RB(f i:List Int):Int:=
 if i.getD 0 0=0 then i.getD 4 0 else if i.getD 0 0=1 then fR f (i.getD 2 0)else if i.getD 0 0=2 then IntKind.i64.wrap (fR f (i.getD 2 0)+fR f (i.getD 3 0))
 else if i.getD 0 0=3 then IntKind.i64.wrap (fR f (i.getD 2 0) - fR f (i.getD 3 0))else if i.getD 0 0=4 then IntKind.i64.wrap (fR f (i.getD 2 0)*fR f (i.getD 3 0))
 else if fR f (i.getD 2 0)<fR f (i.getD 3 0)then 1 else 0
def dQ(f i:List Int):List Int×Bool:=
 if oP i≠0 then(f,false)
 else if i.getD 0 0=6∨(i.getD 0 0=7∧fR f (i.getD 1 0)≠0)then(Ax f (i.getD 4 0),true)
 else if i.getD 0 0=7 then(nu f,true)
 else if i.getD 0 0>5 then(f,false)
 else(nu (f.set (2+(i.getD 1 0).toNat) (RB f i)),true)
theorem qi{f i:List Int}(hf:f.length=19):(dQ f i).1.length=19:=by
 unfold dQ;split
 ·exact hf
 ·split
  ·simp only[qv,hf]
  ·split
   ·simp only[kr,hf]
   ·split
    ·exact hf
    ·simp only[kr,List.length_set,hf]
def arS(g3 gb gc:Nat):Array Value:=#[.func (.func ot) #[] #[.pointer (some ⟨g3,0,none⟩)],.func (.func ou) #[] #[.pointer (some ⟨gb,0,none⟩)],.func (.func ov) #[] #[.pointer (some ⟨gb,0,none⟩),.pointer (some ⟨gc,0,none⟩)],
 .func (.func ow) #[] #[.pointer (some ⟨gb,0,none⟩),.pointer (some ⟨gc,0,none⟩)],.func (.func ox) #[] #[.pointer (some ⟨gb,0,none⟩),.pointer (some ⟨gc,0,none⟩)],.func (.func oy) #[] #[.pointer (some ⟨gb,0,none⟩),.pointer (some ⟨gc,0,none⟩)]]
theorem avX{f i:List Int}{w:World}{k:Sl→aq}(hf:f.length=19)(hi:i.length=5)(hB:0≤i.getD 2 0∧i.getD 2 0<8)(hC:0≤i.getD 3 0∧i.getD 3 0<8)
  (hk:∀w' g g3 gb gc,Ext w w'→pG w' g (arS g3 gb gc)→BI w' g3 i→BI w' gb [fR f (i.getD 2 0)]→BI w' gc [fR f (i.getD 3 0)]→k ⟨some ⟨g,0,none⟩,6,6⟩ w'):kg (eU f) (eU i) w k:=by
 unfold kg;refine jD λg1 w1 ZE hs1 AM Ai=>jD λg2 w2 Mq Im jL uM=> ?_;have vl:BI w2 g1 f:=AM.ext uM;have yS:BI w2 g2 i:=jL;simp only[cY,Nat.zero_add];refine bS (λx w'=>Ext w2 w'∧∃gb gc,x=(⟨gb,0,none⟩,⟨gc,0,none⟩)∧BI w' gb [fR f (i.getD 2 0)]∧BI w' gc [fR f (i.getD 3 0)]) ?_ ?_
 ·intro J hJ;refine Mp λw3 hh3 yZ=> ?_;have abA:BI w3 g1 f:=vl.ext yZ;have al8:BI w3 g2 i:=yS.ext yZ;refine jX al8 ah (tU hB.1 ah (jX abA ah ?_));refine jX al8 ah (tU hC.1 ah (jX abA ah ?_));simp only[Nat.mul_one];have st:∀{w':World} {n o:Nat} {c:Prop},Ext w3 w'→c→ai n ⟨g1,o,none⟩ w3 w' c:=λhe hc=>Bu abA (abA.ext he) hc;have X8:∀{w':World} {n o:Nat} {c:Prop},Ext w3 w'→c→ai n ⟨g2,o,none⟩ w3 w' c:=λhe hc=>Bu al8 (al8.ext he) hc;refine⟨?_,?_⟩
  ·refine jD λg4 w4 hg4 hs4 IT qI=>st qI (X8 qI (st qI (X8 qI ?_)));refine jD λg5 w5 hg5 hs5 U2 Fy=> ?_;have JS:=qI.trans Fy;refine st JS (X8 JS (st JS (X8 JS ?_)));refine B4 (l:=[0]) (IT.ext Fy) bc λw6 hb6 hs6 ZG=> ?_;have Oj:=JS.then ZG λg hg=>by omega
   refine st Oj (X8 Oj ?_);refine B4 (l:=[0]) (U2.keep ZG ah) bc λw7 hb7 hs7 X9=> ?_;exact hJ _ _ ⟨yZ.trans (Oj.then X9 λg hg=>by omega),g4,g5,rfl,hb6.keep X9 ah,hb7⟩
  ·refine jD λg4 w4 hg4 hs4 IT qI=>st qI (X8 qI (st qI (X8 qI ?_)));refine jD λg5 w5 hg5 hs5 U2 Fy=> ?_;have JS:=qI.trans Fy;refine st JS (X8 JS (st JS (X8 JS ?_)));refine B4 (l:=[0]) U2 bc λw6 hb6 hs6 ZG=> ?_;have Oj:=JS.then ZG λg hg=>by omega
   refine st Oj (X8 Oj ?_);refine B4 (l:=[0]) ((IT.ext Fy).keep ZG ah) bc λw7 hb7 hs7 X9=> ?_;exact hJ _ _ ⟨yZ.trans (Oj.then X9 λg hg=>by omega),g5,g4,rfl,hb6.keep X9 ah,hb7⟩
 ·rintro x w3 ⟨yZ,gb,gc,rfl,ZH,hbc⟩;refine⟨rfl,⟨rfl,⟨rfl,⟨rfl,⟨rfl,⟨rfl,jD λg4 w4 hg4 hs4 IT qI=> ?_⟩⟩⟩⟩⟩⟩;exact hk w4 g4 g2 gb gc (((Ai.trans uM).trans yZ).trans qI) IT ((yS.ext yZ).ext qI) (ZH.ext qI) (hbc.ext qI)
theorem arT{f i:List Int}{w:World}{k:Array Value×Bool→aq}(hf:f.length=19)(hi:i.length=5)(hk:∀w',Ext w w'→k (eU (dQ f i).1,(dQ f i).2) w'):iW (eU f) (eU i) w k:=by
 unfold iW zI;refine jD λg1 w1 ZE hs1 AM Ai=>jD λg2 w2 Mq Im jL uM=>jD λg3 w3 hg3 Uu sx yZ=> ?_;have Ol:=(Ai.trans uM).trans yZ;have vl:BI w3 g1 f:=(AM.ext uM).ext yZ;have yS:BI w3 g2 i:=jL.ext yZ;have hsz:=Ai.size;simp only[cY,Nat.zero_add];have fin:∀(l:List Int) (b:Bool) (w':World),Ext w3 w'→l.length=19→(dQ f i)=(l,b)→(dZ 19 w' ⟨g3,0,none⟩ (eU l) λw9=>bD 19 w9 ⟨g3,0,none⟩ λcs=>k (cs,b) w9):=by
  intro l b w' he hl e;refine xA (sx.ext he) rfl hl λw9 hb9 hs9 ho9=>kS hb9 hl ?_;have:=hk w9 ((Ol.trans he).then ho9 λg hg=>by omega)
  rwa[e]at this
 refine kS yS hi (ahE hi λw4 qI=> ?_);have yT:BI w4 g1 f:=vl.ext qI;have Gv:BI w4 g2 i:=yS.ext qI;refine ay (λh=>kS yT hf (fin f false w4 qI hf ?_)) λh=> ?_
 ·unfold dQ;rw[if_pos (by simpa using h)]
 have h:oP i=0:=by simpa using h
 obtain⟨hA,hB,hC⟩:=vn h;obtain⟨h0,h17,_⟩:=afP h;refine jX Gv ah ?_;refine bS (λb w'=>b=decide (i.getD 0 0=6∨(i.getD 0 0=7∧fR f (i.getD 1 0)≠0))∧w4=w') ?_ ?_
 ·intro J hJ;refine ay (λh6=> ?_) λh6=> ?_
  ·refine hJ _ _ ⟨?_,rfl⟩;rw[h6];exact(decide_eq_true (.inl (by simpa using h6))).symm
  ·have h6:i.getD 0 0≠6:=by simpa using h6
   refine jX Gv ah (ay (λh7=> ?_) λh7=> ?_)
   ·have h7:i.getD 0 0=7:=by simpa using h7
    refine jX Gv ah (tU hA.1 ah (jX yT ah (hJ _ _ ⟨?_,rfl⟩)));rw[Nat.mul_one,Bool.eq_iff_iff];simp only[bne_iff_ne,decide_eq_true_eq];constructor
    ·intro hne;exact .inr ⟨h7,hne⟩
    ·rintro(h|⟨_,h⟩)
     ·omega
     ·exact h
   ·have h7:i.getD 0 0≠7:=by simpa using h7
    exact hJ _ _ ⟨(decide_eq_false ah).symm,rfl⟩
 rintro _ _ ⟨rfl,rfl⟩;refine ay (λh1=> ?_) λh1=> ?_
 ·have h1:=of_decide_eq_true h1;refine kS yT hf (jX Gv ah (arO hf λw5 Fy=>fin _ true w5 (qI.trans Fy) (by rw[qv,hf]) ?_))
  unfold dQ;rw[if_neg (by simp[h]),if_pos h1]
 have h1:=of_decide_eq_false h1;refine jX Gv ah (ay (λh7=> ?_) λh7=> ?_)
 ·have h7:i.getD 0 0=7:=by simpa using h7
  refine kS yT hf (abz hf λw5 Fy=>fin _ true w5 (qI.trans Fy) (by rw[kr,hf]) ?_)
  unfold dQ;rw[if_neg (by simp[h]),if_neg h1,if_pos h7]
 have h7:i.getD 0 0≠7:=by simpa using h7
 refine jX Gv ah (ay (λh5=> ?_) λh5=> ?_)
 ·have h5:i.getD 0 0>5:=by simpa using h5
  refine kS yT hf (fin f false w4 qI hf ?_);unfold dQ;rw[if_neg (by simp[h]),if_neg h1,if_neg h7,if_pos h5]
 have h5:¬i.getD 0 0>5:=by simpa using h5
 refine Mp λw5 hh5 Fy=> ?_;have al9:BI w5 g1 f:=yT.ext Fy;have Om:BI w5 g2 i:=Gv.ext Fy;refine jX Om ah (kS al9 hf (kS Om hi (jX Om ah ?_)));refine avX hf hi hB hC λw6 g ga gb gc he6 hbg hba ZH hbc=> ?_;have aB4:BI w6 g1 f:=al9.ext he6;have arU:BI w6 g2 i:=Om.ext he6;refine Bu Om arU (Bu Om arU ?_);have tail:∀(v:Value),v= .int .i64 (RB f i)→(xy .i64 v λi48=>ai 1 ⟨g2,1,none⟩ w5 w6 (GG ⟨g1,2,none⟩ 8 (i.getD 1 0) 1 λa49=>bJ w6 a49 (.int .i64 i48) λw50=>bD 19 w50 ⟨g1,0,none⟩ λcs51=>
   az cs51 w50 λcs52 w53=>dZ 19 w53 ⟨g3,0,none⟩ cs52 λw54=>bD 19 w54 ⟨g3,0,none⟩ λcs55=>k (cs55,true) w54)):=by
  rintro _ rfl;refine Io (Bu Om arU (tU hA.1 ah ?_));rw[Nat.mul_one];refine B4 aB4 ah λw7 hb7 hs7 X9=> ?_;have he7:Ext w3 w7∨True:= .inr trivial;refine kS hb7 (by simp[hf]) (abz (by simp[hf]) λw8 he8=> ?_)
  have aB5:=(((((sx.ext qI).ext Fy).ext he6).keep X9 ah).ext he8);refine xA aB5 rfl (by rw[kr];simp[hf]) λw9 hb9 hs9 ho9=>kS hb9 (by rw[kr];simp[hf]) ?_
  have e:dQ f i=(nu (f.set (2+(i.getD 1 0).toNat) (RB f i)),true):=by
   unfold dQ;rw[if_neg (by simp[h]),if_neg h1,if_neg h7,if_neg h5]
  have:=hk w9 ((((((Ol.trans qI).trans Fy).trans he6).then X9 λg hg=>by omega).trans he8).then ho9 λg hg=>by omega)
  rwa[e]at this
 have h6:i.getD 0 0≠6:=λe=>h1 (.inl e);have hop:i.getD 0 0=0∨i.getD 0 0=1∨i.getD 0 0=2∨i.getD 0 0=3∨i.getD 0 0=4∨i.getD 0 0=5:=ah;refine apI h0 ah ?_;rw[Nat.mul_one,Nat.zero_add];have hcell:∀n:Nat,w6.cell? ⟨g,n,none⟩=(arS ga gb gc)[n]?:=λn=>hbg.cell n;rcases hop with e|e|e|e|e|e;all_goals
  rw[e];refine ajh (by rw[hcell];rfl) ?_
 ·show aN .i64 w6 (aY ⟨ga,0,none⟩ 4) _;rw[cY];refine jX hba ah (tail _ ?_);simp only[RB,e];rfl
 ·show aN .i64 w6 ⟨gb,0,none⟩ _;refine jX ZH bc (tail _ ?_);simp only[RB,e];rfl
 ·show aN .i64 w6 ⟨gb,0,none⟩ λi1=>aN .i64 w6 ⟨gc,0,none⟩ λi2=> _;refine jX ZH bc (jX hbc bc (tail _ ?_));simp only[RB,e];rfl
 ·show aN .i64 w6 ⟨gb,0,none⟩ λi1=>aN .i64 w6 ⟨gc,0,none⟩ λi2=> _;refine jX ZH bc (jX hbc bc (tail _ ?_));simp only[RB,e];rfl
 ·show aN .i64 w6 ⟨gb,0,none⟩ λi1=>aN .i64 w6 ⟨gc,0,none⟩ λi2=> _;refine jX ZH bc (jX hbc bc (tail _ ?_));simp only[RB,e];rfl
 ·show aN .i64 w6 ⟨gb,0,none⟩ λi1=>aN .i64 w6 ⟨gc,0,none⟩ λi2=>mT (decide (i1<i2)) w6 λi3 w4=> _;refine jX ZH bc (jX hbc bc (arR (tail _ ?_)));have e1:List.getD [fR f (i.getD 2 0)] 0 0=fR f (i.getD 2 0):=rfl;have e2:List.getD [fR f (i.getD 3 0)] 0 0=fR f (i.getD 3 0):=rfl;rw[e1,e2];simp only[RB,e];by_cases hlt:fR f (i.getD 2 0)<fR f (i.getD 3 0)
  ·rw[decide_eq_true hlt,if_pos hlt];rfl
  ·rw[decide_eq_false hlt,if_neg hlt];rfl
theorem Ya{f:List Int}(hf:f.length=19):((f.drop 2).take 8).length=8:=by
 rw[List.length_take,List.length_drop,hf];rfl
theorem Fz{i:List Int}{op:Int}(h:oT i op=true):i.getD 0 0=op∧oP i=0:=by
 unfold oT at h;simp only[iZ,beq_iff_eq]at h;exact h
def iB(f i:List Int)(asked:Bool):List Int:=if oT i 12 then nu (f.set (2+(i.getD 1 0).toNat) (if asked then 1 else 0))else f
def eB(f i:List Int)(id:Int):List Int:=if oT i 8 then nu (f.set (10+(i.getD 1 0).toNat) id)else f
def dc(f i:List Int)(kind v:Int):List Int×Int×Bool:=
 if kind<2∨kind>4∨(oT i 9=false∧oT i 10=false)then(f,0,false)
 else if oT i 10 then(nu ((f.set (2+(i.getD 1 0).toNat) (if kind=4 then 0 else v)).set (2+(i.getD 2 0).toNat) (IntKind.i64.wrap (kind - 2))),0,false)
 else if kind=2 then(nu (f.set (2+(i.getD 1 0).toNat) v),0,false)
 else(Ax f (f.getD 1 0),if kind=4 then -1 else v,true)
theorem pQ{f i:List Int}{b:Bool}:(iB f i b).length=f.length:=by
 unfold iB;split
 ·rw[kr,List.length_set]
 ·rfl
theorem pR{f i:List Int}{b:Int}:(eB f i b).length=f.length:=by
 unfold eB;split
 ·rw[kr,List.length_set]
 ·rfl
theorem pS{f i:List Int}{kind v:Int}:(dc f i kind v).1.length=f.length:=by
 unfold dc;split
 ·rfl
 ·split
  ·simp only[kr,List.length_set]
  ·split
   ·simp only[kr,List.length_set]
   ·simp only[qv]
theorem anM{f i:List Int}{b:Bool}{w:World}{k:Array Value→aq}(hf:f.length=19)(hi:i.length=5)(hk:∀w',Ext w w'→k (eU (iB f i b)) w'):jc (eU f) (eU i) b w k:=by
 unfold jc yo;refine jD λg1 w1 ZE hs1 AM Ai=>jD λg2 w2 Mq Im jL uM=>jD λg3 w3 hg3 Uu sx yZ=> ?_;have Ol:=(Ai.trans uM).trans yZ;have vl:BI w3 g1 f:=(AM.ext uM).ext yZ;have yS:BI w3 g2 i:=jL.ext yZ;have hsz:=Ai.size;simp only[cY,Nat.zero_add];refine kS vl hf (jD λg4 w4 hg4 hs4 IT qI=>xA IT rfl hf λw5 U2 hs5 ZF=> ?_);have JS:Ext w3 w5:=qI.then ZF λg hg=>by omega
 simp only[cY,Nat.zero_add];refine kS (yS.ext JS) hi (GZ hi λw6 he6=> ?_);have Oj:=JS.trans he6;refine ay (λh=> ?_) λh=> ?_
 ·obtain⟨hA,hB,hC⟩:=vn (Fz h).2;refine Mp λw7 hh7 he7=> ?_;have arV:=Oj.trans he7;have arW:BI w7 g2 i:=yS.ext arV;refine jX arW ah (arR (Bu arW arW (tU hA.1 ah ?_)));rw[Nat.mul_one];refine B4 ((U2.ext he6).ext he7) ah λw8 hb8 hs8 ho8=>kS hb8 (by simp[hf]) (abz (by simp[hf]) λw9 he9=> ?_)
  refine xA (((sx.ext arV).keep ho8 ah).ext he9) rfl (by rw[kr];simp[hf]) λw10 TX ama WU=>kS TX (by rw[kr];simp[hf]) ?_
  have:=hk w10 ((((Ol.trans arV).then ho8 λg hg=>by omega).trans he9).then WU λg hg=>by omega)
  unfold iB at this;rwa[if_pos h]at this
 ·refine kS (vl.ext Oj) hf (xA (sx.ext Oj) rfl hf λw10 TX ama WU=>kS TX hf ?_);have:=hk w10 ((Ol.trans Oj).then WU λg hg=>by omega)
  unfold iB at this;rwa[if_neg (by simp[h])]at this
theorem anN{f i:List Int}{id:Int}{w:World}{k:Array Value→aq}(hf:f.length=19)(hi:i.length=5)(hk:∀w',Ext w w'→k (eU (eB f i id)) w'):jb (eU f) (eU i) id w k:=by
 unfold jb yf;refine jD λg1 w1 ZE hs1 AM Ai=>jD λg2 w2 Mq Im jL uM=>jD λg3 w3 hg3 Uu sx yZ=> ?_;have Ol:=(Ai.trans uM).trans yZ;have vl:BI w3 g1 f:=(AM.ext uM).ext yZ;have yS:BI w3 g2 i:=jL.ext yZ;have hsz:=Ai.size;simp only[cY,Nat.zero_add];refine kS yS hi (GZ hi λw4 qI=> ?_);have yT:BI w4 g1 f:=vl.ext qI;have Gv:BI w4 g2 i:=yS.ext qI;refine ay (λh=> ?_) λh=> ?_
 ·refine kS yT hf (xA (sx.ext qI) rfl hf λw10 TX ama WU=>kS TX hf ?_);have:=hk w10 ((Ol.trans qI).then WU λg hg=>by omega)
  unfold eB at this;rwa[if_neg (by simpa using h)]at this
 ·have h:oT i 8=true:=by simpa using h
  obtain⟨hA,hB,hC⟩:=vn (Fz h).2;refine jX Gv ah (tU hA.1 ah ?_);rw[Nat.mul_one];refine B4 yT ah λw8 hb8 hs8 ho8=>kS hb8 (by simp[hf]) (abz (by simp[hf]) λw9 he9=> ?_)
  refine xA (((sx.ext qI).keep ho8 ah).ext he9) rfl (by rw[kr];simp[hf]) λw10 TX ama WU=>kS TX (by rw[kr];simp[hf]) ?_
  have:=hk w10 ((((Ol.trans qI).then ho8 λg hg=>by omega).trans he9).then WU λg hg=>by omega)
  unfold eB at this;rwa[if_pos h]at this
theorem anO{f i:List Int}{kind v:Int}{w:World}{k:Array Value×Int×Bool→aq}(hf:f.length=19)(hi:i.length=5)(hk:∀w',Ext w w'→k (eU (dc f i kind v).1,(dc f i kind v).2.1,(dc f i kind v).2.2) w'):ik (eU f) (eU i) kind v w k:=by
 unfold ik yx;refine jD λg1 w1 ZE hs1 AM Ai=>jD λg2 w2 Mq Im jL uM=>jD λg3 w3 hg3 Uu sx yZ=> ?_;have Ol:=(Ai.trans uM).trans yZ;have vl:BI w3 g1 f:=(AM.ext uM).ext yZ;have yS:BI w3 g2 i:=jL.ext yZ;have hsz:=Ai.size;simp only[cY,Nat.zero_add];have fin:∀(l:List Int) (a:Int) (b:Bool) (w':World),Ext w w'→pG w' g3 (eU (Z 19))→l.length=19→dc f i kind v=(l,a,b)→(dZ 19 w' ⟨g3,0,none⟩ (eU l) λw9=>bD 19 w9 ⟨g3,0,none⟩ λcs=>k (cs,(a,b)) w9):=by
  intro l a b w' he hb hl e;refine xA hb rfl hl λw9 hb9 hs9 ho9=>kS hb9 hl ?_;have:=hk w9 (he.then ho9 λg hg=>by omega)
  rwa[e]at this
 have ad3:pG w3 g3 (eU (Z 19)):=sx;refine bS (λx w'=>x=decide (kind<2∨kind>4∨(oT i 9=false∧oT i 10=false))∧Ext w3 w') ?_ ?_
 ·intro J hJ;refine ay (λh=>hJ _ _ ⟨?_,.refl _ _⟩) λh=> ?_
  ·simp only[Bool.or_eq_true,decide_eq_true_eq]at h;exact(decide_eq_true ah).symm
  ·simp only[kx,decide_eq_false_iff_not]at h;refine kS yS hi (GZ hi λw4 qI=> ?_);refine ay (λh9=> ?_) λh9=> ?_
   ·have h9:oT i 9=false:=by simpa using h9
    refine kS (yS.ext qI) hi (GZ hi λw5 Fy=>hJ _ _ ⟨?_,qI.trans Fy⟩);rw[Bool.eq_iff_iff];simp only[Bool.not_eq_true',decide_eq_true_eq];constructor
    ·intro h10;exact .inr (.inr ⟨h9,h10⟩)
    ·rintro(h'|h'|⟨_,h'⟩)
     ·omega
     ·omega
     ·exact h'
   ·have h9:oT i 9=true:=by simpa using h9
    refine hJ _ _ ⟨?_,qI⟩;rw[eq_comm,decide_eq_false_iff_not];rintro(h'|h'|⟨h',_⟩)
    ·omega
    ·omega
    ·rw[h9]at h';cases h'
 rintro _ w4 ⟨rfl,qI⟩;have LY:=Ol.trans qI;have yT:BI w4 g1 f:=vl.ext qI;have Gv:BI w4 g2 i:=yS.ext qI;refine ay (λh=> ?_) λh=> ?_
 ·have h:=of_decide_eq_true h;refine kS yT hf (fin f 0 false w4 LY (ad3.ext qI) hf ?_);unfold dc;rw[if_pos h]
 have h:=of_decide_eq_false h;have ads:oP i=0∧(i.getD 0 0=10↔oT i 10=true):=by
  cases h10:oT i 10 with
  |true=>exact⟨(Fz h10).2,λ_=>rfl,λ_=>(Fz h10).1⟩
  |false=>
   cases h9:oT i 9 with
   |true=>exact⟨(Fz h9).2,λe=>(by have:=(Fz h9).1;omega),λe=>by cases e⟩
   |false=>exact absurd (.inr (.inr ⟨h9,h10⟩)) h
 obtain⟨hA,hB,hC⟩:=vn ads.1;refine bS (λx w'=>w4=w'∧dc f i kind v=(Ax f (f.getD 1 0),x,true)) ?_ ?_
 ·intro J hJ;refine jX Gv ah (ay (λh10=> ?_) λh10=> ?_)
  ·have h10:oT i 10=true:=ads.2.1 (by simpa using h10)
   refine bS (λx w'=>w4=w'∧x=if kind=4 then 0 else v) ?_ ?_
   ·intro J2 hJ2;refine ay (λh4=>hJ2 _ _ ⟨rfl,?_⟩) λh4=>hJ2 _ _ ⟨rfl,?_⟩
    ·rw[if_pos (by simpa using h4)]
    ·rw[if_neg (by simpa using h4)]
   rintro _ _ ⟨rfl,rfl⟩;refine Mp λw5 hh5 Fy=> ?_;have al9:BI w5 g1 f:=yT.ext Fy;have Om:BI w5 g2 i:=Gv.ext Fy;refine jX Om ah (jX Om ah (tU hA.1 ah ?_));rw[Nat.mul_one];refine B4 al9 ah λw6 hb6 hs6 ZG=>Bu Om (Om.keep ZG ah) (tU hB.1 ah ?_);rw[Nat.mul_one];refine B4 hb6 (by rw[List.length_set];omega) λw7 hb7 hs7 X9=>kS hb7 (by simp[hf]) (abz (by simp[hf]) λw8 he8=> ?_)
   refine fin _ 0 false w8 (((((LY.trans Fy).then ZG λg hg=>by omega).then X9 λg hg=>by omega).trans he8)) (((((ad3.ext qI).ext Fy).keep ZG ah).keep X9 ah).ext he8) (by rw[kr];simp[hf]) ?_
   unfold dc;rw[if_neg h,if_pos h10]
  ·have h10':oT i 10=false:=by
    cases h':oT i 10 with
    |false=>rfl
    |true=>exact absurd (ads.2.2 h') (by simpa using h10)
   refine ay (λh2=> ?_) λh2=> ?_
   ·have h2:kind=2:=by simpa using h2
    refine jX Gv ah (tU hA.1 ah ?_);rw[Nat.mul_one];refine B4 yT ah λw6 hb6 hs6 ZG=>kS hb6 (by simp[hf]) (abz (by simp[hf]) λw8 he8=> ?_)
    refine fin _ 0 false w8 ((LY.then ZG λg hg=>by omega).trans he8) (((ad3.ext qI).keep ZG ah).ext he8) (by rw[kr];simp[hf]) ?_
    unfold dc;rw[if_neg h,if_neg (by simp[h10']),if_pos h2]
   ·have h2:kind≠2:=by simpa using h2
    refine ay (λh4=>hJ _ _ ⟨rfl,?_⟩) λh4=>hJ _ _ ⟨rfl,?_⟩
    ·unfold dc;rw[if_neg h,if_neg (by simp[h10']),if_neg h2,if_pos (by simpa using h4)]
    ·unfold dc;rw[if_neg h,if_neg (by simp[h10']),if_neg h2,if_neg (by simpa using h4)]
 ·rintro x _ ⟨rfl,e⟩;exact kS yT hf (jX yT ah (arO hf λw5 Fy=>fin _ x true w5 (LY.trans Fy) ((ad3.ext qI).ext Fy) (by rw[qv,hf]) e))
theorem av0{h:Nat}(hh:h<63):bv (rX .i64 1 (h:Int))=BitVec.twoPow 64 h:=by
 unfold rX;have e:min ((h:Int).toNat) IntKind.i64.bits=h:=by simp[IntKind.bits];omega
 rw[e,apD,CZ,Int.one_mul];apply BitVec.eq_of_toNat_eq;rw[BitVec.toNat_ofInt,BitVec.toNat_twoPow];have h2:(2 ^ h:Nat)<2 ^ 64:=Nat.pow_lt_pow_right ah ah;have h3:((2:Int) ^ h)=((2 ^ h:Nat):Int):=by simp
 rw[h3,Nat.mod_eq_of_lt h2];generalize (2 ^ h:Nat)=m at*
 omega
theorem ar0{x:Int}{h:Nat}(hh:h<63):(oC .i64 x (rX .i64 1 (h:Int)) !=0)=tb x h:=by
 rw[P3,av0 hh,BitVec.and_twoPow];unfold tb;cases hb:(bv x).getLsbD h with
 |false=>rfl
 |true=>
  simp only[if_true];have:(BitVec.twoPow 64 h).toInt≠0:=by
   intro e;have h1:BitVec.twoPow 64 h=0#64:=by
    apply BitVec.eq_of_toInt_eq;rw[e];rfl
   have h2:=congrArg (λb=>b.getLsbD h) h1;simp at h2;omega
  simpa using this
def fHs(f:List Int)(aX:Int)(n:Nat):List Int:=(List.range n).map λh=>if tb aX h then f.getD (10+h) 0 else -1
def jj(f:List Int)(n aX:Int):List Int:=[n,0] ++((f.drop 2).take 8++(fHs f aX 8++[0]))
def KP(f:List Int)(n aX:Int)(j:Nat):List Int:=[n,0] ++((f.drop 2).take 8++(fHs f aX j++(dM (8 - j) (-1)++[0])))
theorem WV{f:List Int}{aX:Int}{n:Nat}:(fHs f aX n).length=n:=by simp[fHs]
theorem ad4{f:List Int}{aX:Int}{n:Nat}:fHs f aX (n+1)=fHs f aX n++[if tb aX n then f.getD (10+n) 0 else -1]:=by
 simp[fHs,List.range_succ]
theorem abC{f:List Int}{n aX:Int}{j:Nat}(hf:f.length=19)(hj:j≤8):(KP f n aX j).length=19:=by
 unfold KP;simp only[tV,List.length_cons,List.length_nil,WV,List.length_replicate,Ya hf];omega
theorem ahG{f:List Int}{n aX:Int}(hf:f.length=19):KP f n aX 0=((nR.set 0 n).take 2++((f.drop 2).take 8++(nR.set 0 n).drop (2+8))):=rfl
theorem aj6{f:List Int}{n aX:Int}{j:Nat}(hf:f.length=19)(hj:j<8)(hb:tb aX j=true):(KP f n aX j).set (10+j) (f.getD (10+j) 0)=KP f n aX (j+1):=by
 unfold KP;have hr:=Ya hf;have e8:8 - j=(8 - (j+1))+1:=ah;rw[List.set_append_right _ _ (by simp;omega),List.set_append_right _ _ (by simp[hr];omega),List.set_append_right _ _ (by simp[hr,WV];omega)]
 rw[ad4,hb,e8,List.replicate_succ];have e0:10+j - 2 - 8 - j=0:=ah;simp[hr,WV,e0]
theorem anP{f:List Int}{n aX:Int}{j:Nat}(hj:j<8)(hb:tb aX j=false):KP f n aX j=KP f n aX (j+1):=by
 unfold KP;have e8:8 - j=(8 - (j+1))+1:=ah;rw[ad4,hb,e8,List.replicate_succ];simp
def av1(x:Int×Sl):List Value:=[.int .i64 x.1,.slice x.2.a x.2.n x.2.c]
def NL(w:World)(s:Sl)(fs:List (Int×Sl)):Prop:=Uq 2 w s (fs.map av1)
theorem NL.len{w:World}{s:Sl}{fs:List (Int×Sl)}(h:NL w s fs):s.n=fs.length:=by have:=Uq.len h;simp at this;omega
theorem NL.ext{w w':World}{s:Sl}{fs:List (Int×Sl)}(h:NL w s fs)(he:Ext w w'):NL w' s fs:=Uq.ext h he
theorem ixF{w:World}{s:Sl}{fs:List (Int×Sl)}{i:Int}{x:Int×Sl}{c:Addr→Prop}(h:NL w s fs)(h0:0≤i)(hi:fs[i.toNat]?=some x)
  (hc:∀p:Addr,w.cell? (p.add 0)=some (.int .i64 x.1)→w.cell? (p.add 1)=some (.slice x.2.a x.2.n x.2.c)→c p):cZ s i 2 c:=by
 have hl:=NL.len h;have hlt:=(kJ.1 hi).1;refine aji h h0 ah λp e he _ hcell=> ?_;rw[pz,hi]at he;cases he
 exact hc p (hcell 0 _ rfl) (hcell 1 _ rfl)
theorem av2{i:List Int}(h:oT i 8=true):0≤i.getD 4 0∧i.getD 4 0≤31:=by
 obtain⟨h8,hc⟩:=Fz h;obtain⟨_,_,hs⟩:=afP hc;have:=hs 3 ah;rw[h8]at this;exact this
theorem ar1{f i:List Int}{s:Sl}{fs:List (Int×Sl)}{w:World}{k:Array Value×Int→aq}(hf:f.length=19)(hi:i.length=5)(hp:NL w s fs)
  (h1:oT i 8=false→∀w',Ext w w'→k (eU (Z 19),1) w') (h2:oT i 8=true→fs.length≤(i.getD 4 0).toNat→∀w',Ext w w'→k (eU (Z 19),17) w')
  (h3:oT i 8=true→∀x,fs[(i.getD 4 0).toNat]?=some x→∀w',Ext w w'→k (eU (jj f (i.getD 4 0) x.1),0) w'):iX (eU f) #[.slice s.a s.n s.c] (eU i) w k:=by
 unfold iX zU;refine jD λg1 w1 ZE hs1 AM Ai=>jD λgp wp hgp hsp hbp hep=>jD λg2 w2 Mq Im jL uM=>jD λg3 w3 hg3 Uu sx yZ=> ?_;have Ol:=((Ai.trans hep).trans uM).trans yZ;have vl:BI w3 g1 f:=((AM.ext hep).ext uM).ext yZ;have yS:BI w3 g2 i:=jL.ext yZ;have aB7:pG w3 gp #[.slice s.a s.n s.c]:=(hbp.ext uM).ext yZ;have hsz:=Ai.size;have hln:=hp.len;simp only[cY,Nat.zero_add];refine kS yS hi (GZ hi λw4 qI=> ?_);have yT:BI w4 g1 f:=vl.ext qI;have Gv:BI w4 g2 i:=yS.ext qI;have ax9:=aB7.ext qI;have LY:=Ol.trans qI;refine ay (λh=> ?_) λh=> ?_
 ·refine xA (l:=Z 19) (sx.ext qI) rfl rfl λw5 U2 hs5 ZF=>kS U2 rfl ?_;exact h1 (by simpa using h) _ (LY.then ZF λg hg=>by omega)
 have h:oT i 8=true:=by simpa using h
 obtain⟨hN0,hN1⟩:=av2 h;refine jX Gv ah (Il (s:=s) (ax9.cell 0) (ay (λhge=> ?_) λhlt=> ?_))
 ·have hge:i.getD 4 0≥s.n:=of_decide_eq_true hge;refine xA (l:=Z 19) (sx.ext qI) rfl rfl λw5 U2 hs5 ZF=>kS U2 rfl ?_;exact h2 h ah _ (LY.then ZF λg hg=>by omega)
 have hlt:i.getD 4 0<s.n:=by have:=of_decide_eq_false hlt;omega
 obtain⟨x,hx⟩:∃x,fs[(i.getD 4 0).toNat]?=some x:=⟨_,j4 ah⟩;refine al7 λw5 Fy=>jD λg6 w6 hg6 hs6 hb6 he6=> ?_;simp only[cY,Nat.zero_add];refine xA (l:=nR) hb6 rfl rfl λw7 hb7 hs7 X9=> ?_;have hs5:=Fy.size;have aB8:Ext w4 w7:=(Fy.trans he6).then X9 λg hg=>by omega
 refine Mp λw8 hh8 he8=> ?_;have ar2:=aB8.trans he8;have ar3:BI w8 g1 f:=yT.ext ar2;have aB9:BI w8 g2 i:=Gv.ext ar2;refine jX aB9 ah (apF ar3 ah ?_);have aCa:g1≠g6:=by have:=yT.lt;omega
 refine B4 (hb7.ext he8) fY λw9 hb9 hs9 ho9=>Bu ar3 (ar3.keep ho9 aCa) ?_;refine ayN hb9 (Ya hf) (by rw[List.length_set];decide) λw10 TX ama WU=> ?_
 rw[←ahG (aX:=x.1) hf]at TX;have aCb:Ext w4 w10:=(ar2.then ho9 λg hg=>by omega).then WU λg hg=>by omega
 refine og (fun(y:Int) w'=> ∃j:Nat,y=j∧j≤8∧Ext w4 w'∧BI w' g6 (KP f (i.getD 4 0) x.1 j)) (λy _=>(8 - y).toNat) ⟨0,rfl,ah,aCb,TX⟩ ?_;rintro _ w11 ⟨j,rfl,hj,ar4,ar5⟩ C hC;refine ay (λaCc=> ?_) λhge=> ?_
 ·have hj8:j<8:=by
    have:(j:Int)<8:=by simpa using aCc
    omega
  have hw:IntKind.i64.wrap ((j:Int)+1)=((j+1:Nat):Int):=by rw[cT ⟨ah,ah⟩];simp
  refine Mp λw12 aFJ ar6=> ?_;have Yb:=ar4.trans ar6;refine Il (s:=s) ((ax9.ext Yb).cell 0) (jX (Gv.ext Yb) ah ?_);refine ixF (hp.ext (LY.trans Yb)) hN0 hx λp hc0 GJ=>uH hc0 (FE ah ?_);rw[ar0 ah];refine ay (λhb=> ?_) λhb=> ?_
  ·refine tU ah ah (jX (yT.ext Yb) (by simp;omega) (tU ah ah ?_))
   simp only[kR,Nat.mul_one];have hl:=abC (n:=i.getD 4 0) (aX:=x.1) hf hj;refine B4 (ar5.ext ar6) ah λw13 abA aFK aCd=> ?_;rw[aj6 hf hj8 hb]at abA;exact hC _ _ ⟨j+1,hw,ah,Yb.then aCd λg hg=>by omega,abA⟩ (by rw[hw];omega)
  ·refine hC _ _ ⟨j+1,hw,ah,Yb,?_⟩ (by rw[hw];omega)
   rw[←anP hj8 hb];exact ar5.ext ar6
 ·have hj8:j=8:=by
    have:¬(j:Int)<8:=by simpa using hge
    omega
  subst hj8;have hl:=abC (n:=i.getD 4 0) (aX:=x.1) hf hj;refine kS ar5 hl (xA ((sx.ext qI).ext ar4) rfl hl λw12 aCe aFL aCf=>kS aCe hl ?_);exact h3 h x hx _ ((LY.trans ar4).then aCf λg hg=>by omega)
end Go.Proofs.YthidhjhkmjjckaaGreatDoor.Fr
namespace Go.Ev
open Go Go.RowKit
def KQ(t:List (Int×Int×Nat)):List MapEntry:=t.map λx=>⟨.int .i64 x.1,.int .i64 x.2.1,x.2.2⟩
def mp(g:Nat)(l:List (Int×Int)):HP:=FV λq:{t:List (Int×Int×Nat) // t.map (λx=>(x.1,x.2.1))=l}×Nat=>obj g (.map (KQ q.1.1).toArray q.2)
def fnd(k:Int):List (Int×Int×Nat)→Nat→Option (Nat×Value)
 |[],_=>none
 |x::r,i=>if x.1=k then some (i,.int .i64 x.2.1)else fnd k r (i+1)
theorem HX(k:Int):∀(t:List (Int×Int×Nat)) (i:Nat),Instr.findNow (.int .i64) (.int .i64 k) (KQ t) i=some (fnd k t i)
 |[],i=>rfl
 |x::r,i=>by
  unfold KQ;simp only[List.map_cons,Instr.findNow,Instr.sameNow,if_true];by_cases h:x.1=k
  ·have:(k==x.1)=true:=by simp[h]
   rw[this];simp[fnd,h]
  ·have:(k==x.1)=false:=by rw[beq_eq_false_iff_ne];exact λq=>h q.symm
   rw[this];have ih:=HX k r (i+1);unfold KQ at ih;simp only[ih,fnd,if_neg h]
def HI(l:List (Int×Int))(k:Int):Option Int:=(l.find? λx=>x.1==k).map (·.2)
theorem Yc{k:Int}:∀{t:List (Int×Int×Nat)} {i:Nat},fnd k t i=none→HI (t.map λx=>(x.1,x.2.1)) k=none
 |[],_,_=>rfl
 |x::r,i,h=>by
  unfold fnd at h;split at h
  ·cases h
  ·rename_i hx;have:=Yc h;unfold HI at this ⊢;simp only[List.map_cons,List.find?_cons];rw[show(x.1==k)=false by rw[beq_eq_false_iff_ne];exact hx]
   exact this
theorem Sg{k:Int}:∀{t:List (Int×Int×Nat)} {i j:Nat} {v:Value},fnd k t i=some (j,v)→i≤j∧∃n x,v= .int .i64 n∧HI (t.map λx=>(x.1,x.2.1)) k=some n∧t[j - i]?=some x∧x.1=k
 |[],_,_,_,h=>by cases h
 |x::r,i,j,v,h=>by
  unfold fnd at h;split at h
  ·rename_i hx;cases h
   refine⟨iv _,x.2.1,x,rfl,?_,bc,hx⟩;unfold HI;simp only[List.map_cons,List.find?_cons];rw[show(x.1==k)=true by simp[hx]]
   rfl
  ·rename_i hx;obtain⟨h1,n,y,h2,h3,h4,h5⟩:=Sg h;refine⟨ah,n,y,h2,?_,?_,h5⟩
   ·unfold HI at h3 ⊢;simp only[List.map_cons,List.find?_cons];rw[show(x.1==k)=false by rw[beq_eq_false_iff_ne];exact hx]
    exact h3
   ·rw[show j - i=(j - (i+1))+1 by omega];simpa using h4
section
variable {P:Program} {w0 w:World} {L:List HP} {g:Nat} {l:List (Int×Int)} {f:HP→List HP}
theorem azC(h:St w0 w L)[a:At L (mp g) l f]:∃(t:List (Int×Int×Nat)) (n:Nat),t.map (λx=>(x.1,x.2.1))=l∧w.heap[g]?=some (.map (KQ t).toArray n):=by
 obtain⟨R,ho,hc⟩:=a.out;obtain⟨⟨⟨t,ht⟩,n⟩,h⟩:=(ho h).some;exact⟨t,n,ht,Da (g:=g) h⟩
theorem ahH(h:St w0 w (mp g l::L)):∃(t:List (Int×Int×Nat)) (n:Nat),t.map (λx=>(x.1,x.2.1))=l∧St w0 w (obj g (.map (KQ t).toArray n)::L):=by
 obtain⟨⟨⟨t,ht⟩,n⟩,h⟩:=h.some;exact⟨t,n,ht,h⟩
theorem abE{t:List (Int×Int×Nat)}{n:Nat}(h:St w0 w (obj g (.map (KQ t).toArray n)::L)):St w0 w (mp g (t.map λx=>(x.1,x.2.1))::L):=
 St.ex (X:=λq:{t':List (Int×Int×Nat) // t'.map (λx=>(x.1,x.2.1))=t.map (λx=>(x.1,x.2.1))}×Nat=>obj g (.map (KQ q.1.1).toArray q.2)) (⟨t,rfl⟩,n) h
structure MpT (P:Program) (m k e:TypeId):Prop where
 m:P.underlying m=some (.map k e)
 k:P.underlying k=some (.int .i64)
 z:zOf P e=some (.int .i64 0)
theorem U4(k:Int):MapKept.IsKey (.int .i64) (.int .i64 k):=by simp[MapKept.IsKey]
theorem ar7{m:TypeId}{c:Option Nat→aq}(h:St w0 w L)(hc:∀g w',St w0 w' (mp g []::L)→c (some g) w'):mkMap P m none w c:=by
 have hr:(Instr.makeMap m none).run P w= .ok (.map (some w.heap.size)) (w.alloc (.map #[] 0)):=by
  simp only[Instr.makeMap,cL,run_newObj,cF,cK,World.alloc_eq]
 unfold mkMap;rw[hr];show c (some w.heap.size) _;refine hc _ _ ?_;have h2:=aa2 (.map #[] 0) h;exact abE (t:=[]) (n:=0) h2
theorem amb{m kt et:TypeId}{k:Int}{c:Value→aq}(ht:MpT P m kt et)(h:St w0 w L)[a:At L (mp g) l f](hc:c (.tuple #[.int .i64 ((HI l k).getD 0),.bool (HI l k).isSome]) w):look P m (.map (some g)) (.int .i64 k) true w c:=by
 obtain⟨t,n,htl,hb⟩:=azC (g:=g) h;have hf:=MapKept.run_findKey (P:=P) (w:=w) (kt:=kt) (l:=KQ t) ht.k (HX k t 0);have hck:∀e,(Instr.checkKey e 10000 kt (.int .i64 k)).run P w= .ok () w:=λe=>MapKept.run_checkKey (P:=P) ht.k (U4 k) e 9999;have hz:(zeroValue et).run P w= .ok (.int .i64 0) w:=KX ht.z;unfold look;cases hq:fnd k t 0 with
 |none=>
  rw[hq]at hf;have hm:=Yc hq;rw[htl]at hm;rw[hm]at hc;have hr:(Instr.lookup m (.map (some g)) (.int .i64 k) true).run P w= .ok (.tuple #[.int .i64 0,.bool false]) w:=by
   simp only[Instr.lookup,cL,jl ht.m,cF,MapKept.run_getObj_map hb,cK,hck,hf,hz,if_true]
  rw[hr];exact hc
 |some r=>
  obtain⟨j,v⟩:=r;rw[hq]at hf;obtain⟨_,n2,x,rfl,hm,_⟩:=Sg hq;rw[htl]at hm;rw[hm]at hc;have hr:(Instr.lookup m (.map (some g)) (.int .i64 k) true).run P w= .ok (.tuple #[.int .i64 n2,.bool true]) w:=by
   simp only[Instr.lookup,cL,jl ht.m,cF,MapKept.run_getObj_map hb,cK,hck,hf,if_true]
  rw[hr];exact hc
theorem abG{α β:Type}(f:α→β):∀(l:List α) (i:Nat),(l.eraseIdx i).map f=(l.map f).eraseIdx i
 |[],_=>rfl
 |_::_,0=>rfl
 |_::l,i+1=>by simp[abG f l i]
theorem anQ{m kt et:TypeId}{k x:Int}{c:aq}(ht:MpT P m kt et)(h:St w0 w L)[a:At L (mp g) l f](hno:HI l k=none)(hc:∀w',St w0 w' (f (mp g (l++[(k,x)])))→c w'):Ma P m (.map (some g)) (.int .i64 k) (.int .i64 x) w c:=by
 obtain⟨R,ho,pB⟩:=a.out;obtain⟨t,n,htl,h⟩:=ahH (ho h);have hb:=Da (g:=g) h;have hf:=MapKept.run_findKey (P:=P) (w:=w) (kt:=kt) (l:=KQ t) ht.k (HX k t 0);have hck:(Instr.checkKey false 10000 kt (.int .i64 k)).run P w= .ok () w:=MapKept.run_checkKey (P:=P) ht.k (U4 k) false 9999;cases hq:fnd k t 0 with
 |some r=>
  obtain⟨j,v⟩:=r;obtain⟨_,n2,x,rfl,hm,_⟩:=Sg hq;rw[htl,hno]at hm;cases hm
 |none=>
  rw[hq]at hf;have TY:∀o,(setObj g o).run P w= .ok () (w.putObj g o):=λo=>by
   rw[MapKept.run_setObj_map o hb];rfl
  have hr:(Instr.mapUpdate m (.map (some g)) (.int .i64 k) (.int .i64 x)).run P w= .ok () (w.putObj g (.map ((KQ t).toArray.push ⟨.int .i64 k,.int .i64 x,n⟩) (n+1))):=by
   simp only[Instr.mapUpdate,cL,jl ht.m,cF,MapKept.run_getObj_map hb,cK,hck,hf,TY]
  unfold Ma;rw[hr];refine hc _ (pB ?_);have e:(KQ t).toArray.push ⟨.int .i64 k,.int .i64 x,n⟩=(KQ (t++[(k,x,n)])).toArray:=by simp[KQ]
  rw[e];have h2:=Aq (g:=g) (.map (KQ (t++[(k,x,n)])).toArray (n+1)) h;have h3:=abE h2;rw[List.map_append,htl]at h3;exact h3
theorem LZ{k:Int}:∀{t:List (Int×Int×Nat)} {j:Nat} {x},(t.map (·.1)).Nodup→t[j]?=some x→x.1=k→(t.eraseIdx j).map (λx=>(x.1,x.2.1))=(t.map λx=>(x.1,x.2.1)).filter λx=>x.1≠k
 |[],j,x,_,h,_=>by simp at h
 |y::r,0,x,hn,h,hx=>by
  simp only[List.getElem?_cons_zero,Option.some.injEq]at h;subst h;rw[List.map_cons,List.nodup_cons]at hn;simp only[List.eraseIdx_cons_zero,List.map_cons];rw[List.filter_cons_of_neg (by simp[hx])]
  symm;rw[List.filter_eq_self];intro z hz;obtain⟨u,hu,rfl⟩:=List.mem_map.1 hz;simp only[ne_eq,decide_eq_true_eq];rintro rfl;exact hn.1 (List.mem_map.2 ⟨u,hu,hx.symm⟩)
 |y::r,j+1,x,hn,h,hx=>by
  simp only[List.getElem?_cons_succ]at h;rw[List.map_cons,List.nodup_cons]at hn;have ih:=LZ hn.2 h hx;simp only[List.eraseIdx_cons_succ,List.map_cons];rw[List.filter_cons_of_pos,ih];simp only[ne_eq,decide_eq_true_eq];rintro e;exact hn.1 (List.mem_map.2 ⟨x,q6 h,by rw[hx,e]⟩)
theorem amc{m kt et t2:TypeId}{k:Int}{c:Value→aq}(ht:MpT P m kt et)(h:St w0 w L)[a:At L (mp g) l f](hnd:(l.map (·.1)).Nodup)(hin:(HI l k).isSome=true)(hc:∀w',St w0 w' (f (mp g (l.filter λx=>x.1≠k)))→c (.tuple #[]) w'):agx P #[m,kt] t2 [.map (some g),.int .i64 k] w c:=by
 obtain⟨R,ho,pB⟩:=a.out;obtain⟨t,n,htl,h⟩:=ahH (ho h);have hb:=Da (g:=g) h;have hf:=MapKept.run_findKey (P:=P) (w:=w) (kt:=kt) (l:=KQ t) ht.k (HX k t 0);have hck:∀e,(Instr.checkKey e 10000 kt (.int .i64 k)).run P w= .ok () w:=λe=>MapKept.run_checkKey (P:=P) ht.k (U4 k) e 9999;have TY:∀o,(setObj g o).run P w= .ok () (w.putObj g o):=λo=>by
  rw[MapKept.run_setObj_map o hb];rfl
 cases hq:fnd k t 0 with
 |none=>
  have hm:=Yc hq;rw[htl]at hm;rw[hm]at hin;cases hin
 |some r=>
  obtain⟨j,v⟩:=r;rw[hq]at hf;obtain⟨_,n2,x,rfl,hm,hx,hxk⟩:=Sg hq;rw[Nat.sub_zero]at hx;have hr:(Builtin.delete_ #[m,kt] t2 #[.map (some g),.int .i64 k]).run P w= .ok (.tuple #[]) (w.putObj g (.map ((KQ t).toArray.eraseIdxIfInBounds j) n)):=by
   have e0:(#[m,kt]:Array TypeId)[0]?=some m:=rfl;have e1:(#[Value.map (some g),.int .i64 k]:Array Value)[0]?=some (.map (some g)):=rfl;have e2:(#[Value.map (some g),.int .i64 k]:Array Value)[1]?=some (.int .i64 k):=rfl;simp only[Builtin.delete_,e0,e1,e2,cL,jl ht.m,cF,MapKept.run_getObj_map hb,cK,hck,hf,TY]
  unfold agx;have e3:([Value.map (some g),.int .i64 k]:List Value).toArray=#[.map (some g),.int .i64 k]:=rfl;rw[e3,hr];refine hc _ (pB ?_);have hjl:j<t.length:=(kJ.1 hx).1;have e:(KQ t).toArray.eraseIdxIfInBounds j=(KQ (t.eraseIdx j)).toArray:=by
   unfold KQ;rw[abG];simp[Array.eraseIdxIfInBounds,hjl]
  rw[e];have h2:=Aq (g:=g) (.map (KQ (t.eraseIdx j)).toArray n) h;have h3:=abE h2;have aCg:(t.map (·.1)).Nodup:=by rw[←htl,List.map_map]at hnd;exact hnd
  rw[LZ aCg hx hxk,htl]at h3;exact h3
end
section
variable {P:Program} {w:World} {t e:TypeId} {i:TypeInfo} {m:Method} {name:String} {a:Addr} {f:FuncId} {bX:eb} {args:Array Value} {c:Value→aq}
theorem ac7{n:Nat}(hi:P.info? t=some i)(hm:(i.methods.find? λm=>m.name==name)=some m)(hp:m.path=#[])(hf:m.func=some (f,true))(hu:P.underlying t=some (.pointer e)):
  (method (n+1) t (.pointer (some a)) name).run P w= .ok (f,.pointer (some a)) w:=by
 have Yd:(typeInfo t).run P w= .ok i w:=by simp[typeInfo,hi]
 simp only[method,cL,Yd,cF,hm,hp,Array.toList_empty,List.isEmpty_nil,follow,cK,hf,receiverAt,jl hu,Place.get]
theorem anR:(#[]:Array FieldStep).isEmpty=true:=rfl
theorem anS{ts:Array TypeId}{t2:TypeId}{x y:String}:(Builtin.ssaWrapNilChk_ ts t2 #[.pointer (some a),strVal x,strVal y]).run P w= .ok (.pointer (some a)) w:=rfl
theorem ac8{n:Nat}{s:Sl}{e2:TypeId}(hi:P.info? t=some i)(hm:(i.methods.find? λm=>m.name==name)=some m)(hp:m.path=#[])(hf:m.func=some (f,false))(hu:P.underlying t=some (.pointer e))(hk:rH P e= .s)(he:P.underlying e=some (.slice e2))(hcell:w.cell? a=some (.slice s.a s.n s.c)):
  (method (n+1) t (.pointer (some a)) name).run P w= .ok (f,.slice s.a s.n s.c) w:=by
 have Yd:(typeInfo t).run P w= .ok i w:=by simp[typeInfo,hi]
 have hl:(loadVar e a).run P w= .ok (.slice s.a s.n s.c) w:=by
  simp only[cL,loadVar,Xn he (by rw[hk];simp),Bool.false_eq_true,if_false,run_load,hcell,cF]
 simp only[method,cL,Yd,cF,hm,hp,Array.toList_empty,List.isEmpty_nil,follow,cK,hf,receiverAt,jl hu,Place.get,anR,if_true,anS,asAddr,hl]
theorem ar8(hi:P.info? t=some i)(hm:(i.methods.find? λm=>m.name==name)=some m)(hp:m.path=#[])(hf:m.func=some (f,true))(hu:P.underlying t=some (.pointer e))(hn:P.types.size≠0)
  (h:bX (.func f) (#[.pointer (some a)] ++args) w c):pF bX P (.iface t (.pointer (some a))) name args w c:=by
 obtain⟨n,hn⟩:∃n,P.types.size+Made.depth=n+1:=⟨P.types.size+Made.depth - 1,ah⟩;unfold pF;dsimp only;rw[hn,ac7 hi hm hp hf hu];exact h
theorem ar9{s:Sl}{e2:TypeId}(hi:P.info? t=some i)(hm:(i.methods.find? λm=>m.name==name)=some m)(hp:m.path=#[])(hf:m.func=some (f,false))(hu:P.underlying t=some (.pointer e))(hk:rH P e= .s)(he:P.underlying e=some (.slice e2))(hn:P.types.size≠0)(hcell:w.cell? a=some (.slice s.a s.n s.c))
  (h:bX (.func f) (#[.slice s.a s.n s.c] ++args) w c):pF bX P (.iface t (.pointer (some a))) name args w c:=by
 obtain⟨n,hn⟩:∃n,P.types.size+Made.depth=n+1:=⟨P.types.size+Made.depth - 1,ah⟩;unfold pF;dsimp only;rw[hn,ac8 hi hm hp hf hu hk he hcell];exact h
end
end Go.Ev
namespace Go.Proofs.YthidhjhkmjjckaaGreatDoor.Ko
open Go Go.Ev Go.Proofs
abbrev DL:=List (Int×Int)
def rC(a b:Int×Int):Prop:=a.1<b.1∨(a.1=b.1∧a.2<b.2)
instance (a b:Int×Int):Decidable (rC a b):=by unfold rC;infer_instance
def gd(d:DL)(k:Nat):Int×Int:=d.getD k (0,0)
def qZ(k:Nat):Nat:=(k - 1) / 2
def HH(d:DL)(n:Nat):Prop:=∀k,1≤k→k<n→¬rC (gd d k) (gd d (qZ k))
structure HU (d:DL) (n j:Nat):Prop where
 a:∀k,1≤k→k<n→k≠j→¬rC (gd d k) (gd d (qZ k))
 b:∀k,1≤k→k<n→qZ k=j→1≤j→¬rC (gd d k) (gd d (qZ j))
structure HD (d:DL) (n i0 i:Nat):Prop where
 a:∀k,1≤k→k<n→qZ k≠i→¬(k=i0∧i=i0)→¬rC (gd d k) (gd d (qZ k))
 b:∀k,1≤k→k<n→qZ k=i→1≤i→¬rC (gd d k) (gd d (qZ i))
def KR(d:DL)(i j:Nat):DL:=(d.set i (gd d j)).set j (gd d i)
theorem ahI(d:DL)(i j:Nat):(KR d i j).length=d.length:=by simp[KR]
theorem Sh{d:DL}{i j k:Nat}(hi:i<d.length)(hj:j<d.length):gd (KR d i j) k=if k=j then gd d i else if k=i then gd d j else gd d k:=by
 unfold gd KR;simp only[nI,List.getElem?_set,List.length_set];by_cases h1:k=j
 ·subst h1;simp[hj,gd,nI]
 ·by_cases h2:k=i
  ·subst h2;rw[if_neg (λq=>h1 q.symm),if_pos rfl,if_pos hi,if_neg h1,if_pos rfl];rfl
  ·rw[if_neg (λq=>h1 q.symm),if_neg (λq=>h2 q.symm),if_neg h1,if_neg h2]
theorem Ye{d:DL}{i j:Nat}(hi:i<d.length)(hj:j<d.length):(KR d i j).Perm d:=by
 have e1:gd d j=d[j]:=by unfold gd;rw[nI,j4 hj];rfl
 have e2:gd d i=d[i]:=by unfold gd;rw[nI,j4 hi];rfl
 unfold KR;rw[e1,e2];exact List.set_set_perm hi hj
theorem NM{a b c:Int×Int}(h1:¬rC a b)(h2:¬rC b c):¬rC a c:=by unfold rC at*;omega
theorem av5{a b c:Int×Int}(h1:¬rC a b)(h2:rC c b):¬rC a c:=by unfold rC at*;omega
theorem U5{a b:Int×Int}(h:rC a b):¬rC b a:=by unfold rC at*;omega
theorem av6{a b c:Int×Int}(h1:rC a b)(h2:rC b c):rC a c:=by unfold rC at*;omega
theorem abI(a:Int×Int):¬rC a a:=by unfold rC;omega
theorem asa{a b:Int×Int}(h:¬rC a b)(hn:a≠b):rC b a:=by
 obtain⟨a1,a2⟩:=a;obtain⟨b1,b2⟩:=b;unfold rC at*
 dsimp only at*
 have:¬(a1=b1∧a2=b2):=λq=>hn (by rw[q.1,q.2])
 omega
theorem tN{k:Nat}(h:1≤k):qZ k<k:=by unfold qZ;omega
theorem asb{d:DL}{n j:Nat}(h:HU d n j)(hn:n≤d.length)(h1:1≤j)(hj:j<n)(hl:rC (gd d j) (gd d (qZ j))):HU (KR d (qZ j) j) n (qZ j):=by
 have hp:=tN h1;have g:∀k,gd (KR d (qZ j) j) k=if k=j then gd d (qZ j)else if k=qZ j then gd d j else gd d k:=λk=>Sh ah ah
 refine⟨λk k1 kn kj=> ?_,λk k1 kn kp p1=> ?_⟩
 ·rw[g,g];have hpk:=tN k1;by_cases e1:k=j
  ·subst e1;rw[if_pos rfl,if_neg ah,if_pos rfl];exact U5 hl
  ·rw[if_neg e1,if_neg kj];by_cases e2:qZ k=j
   ·rw[if_pos e2];exact h.b k k1 kn e2 h1
   ·rw[if_neg e2];by_cases e3:qZ k=qZ j
    ·rw[if_pos e3];have:=h.a k k1 kn e1;rw[e3]at this;exact av5 this hl
    ·rw[if_neg e3];exact h.a k k1 kn e1
 ·have hpk:=tN k1;have hpp:=tN p1;have h0:=h.a (qZ j) p1 ah ah;have eg:gd (KR d (qZ j) j) (qZ (qZ j))=gd d (qZ (qZ j)):=by rw[g,if_neg ah,if_neg ah]
  rw[eg];by_cases e1:k=j
  ·rw[g,if_pos e1];exact h0
  ·rw[g,if_neg e1,if_neg ah];have:=h.a k k1 kn e1;rw[kp]at this;exact NM this h0
theorem amd{d:DL}{n j:Nat}(h:HU d n j)(he:j=0∨¬rC (gd d j) (gd d (qZ j))):HH d n:=by
 intro k k1 kn;by_cases e:k=j
 ·subst e;rcases he with he|he
  ·omega
  ·exact he
 ·exact h.a k k1 kn e
theorem asc{d:DL}{n i0 i j:Nat}(h:HD d n i0 i)(hn:n≤d.length)(Xt:i0≤i)(h1:1≤j)(hj:j<n)(hp:qZ j=i)(hm:∀k,1≤k→k<n→qZ k=i→¬rC (gd d k) (gd d j))(hl:rC (gd d j) (gd d i)):HD (KR d i j) n i0 j:=by
 have hpj:=tN h1;rw[hp]at hpj;have g:∀k,gd (KR d i j) k=if k=j then gd d i else if k=i then gd d j else gd d k:=λk=>Sh ah ah
 refine⟨λk k1 kn kj _=> ?_,λk k1 kn kp _=> ?_⟩
 ·have hpk:=tN k1;rw[g,g];by_cases e1:k=j
  ·subst e1;rw[if_pos rfl,if_neg ah,if_pos hp];exact U5 hl
  ·rw[if_neg e1,if_neg kj];by_cases e2:k=i
   ·subst e2;rw[if_pos rfl,if_neg ah];exact h.b j h1 hj hp k1
   ·rw[if_neg e2];by_cases e3:qZ k=i
    ·rw[if_pos e3];exact hm k k1 kn e3
    ·rw[if_neg e3];exact h.a k k1 kn e3 ah
 ·have hpk:=tN k1;rw[g,g,hp,if_neg ah,if_neg ah,if_neg ah,if_pos rfl];have:=h.a k k1 kn ah ah;rw[kp]at this;exact this
theorem av7{d:DL}{n i0 i:Nat}(h:HD d n i0 i)(he:∀k,1≤k→k<n→qZ k=i→¬rC (gd d k) (gd d i)):(i≠i0→HH d n)∧(i=i0→HU d n i0):=by
 refine⟨λhi k k1 kn=> ?_,λhi=>⟨λk k1 kn kj=> ?_,λk k1 kn kp p1=> ?_⟩⟩
 ·by_cases e:qZ k=i
  ·rw[e];exact he k k1 kn e
  ·exact h.a k k1 kn e ah
 ·by_cases e:qZ k=i
  ·rw[e];exact he k k1 kn e
  ·exact h.a k k1 kn e ah
 ·subst hi;exact h.b k k1 kn kp p1
theorem asd{d:DL}{n:Nat}(h:HH d n):∀k,k<n→¬rC (gd d k) (gd d 0):=by
 intro k;induction k using Nat.strongRecOn with
 |_ k ih=>
  intro hk;by_cases e:k=0
  ·subst e;exact abI _
  ·have:=tN (k:=k) ah;exact NM (h k ah hk) (ih (qZ k) this ah)
theorem ame{d:DL}{x:Int×Int}{k:Nat}(h:k<d.length):gd (d++[x]) k=gd d k:=by
 unfold gd;rw[nI,nI,sZ h]
theorem ase{d:DL}{x:Int×Int}(h:HH d d.length):HU (d++[x]) (d.length+1) d.length:=by
 refine⟨λk k1 kn kj=> ?_,λk k1 kn kp p1=> ?_⟩
 ·have:=tN k1;rw[ame ah,ame ah];exact h k k1 ah
 ·have:=tN k1;omega
theorem amf{d:DL}{i m:Nat}(h:HH d d.length)(hm:m+1=d.length)(hi:i<m):HD (KR d i m) m i i:=by
 have g:∀k,gd (KR d i m) k=if k=m then gd d i else if k=i then gd d m else gd d k:=λk=>Sh ah ah
 refine⟨λk k1 kn kp kk=> ?_,λk k1 kn kp p1=> ?_⟩
 ·have:=tN k1;rw[g,g,if_neg ah,if_neg ah,if_neg ah,if_neg kp];exact h k k1 ah
 ·have h1:=tN k1;have h2:=tN p1;rw[g,g (qZ i),if_neg ah,if_neg ah,if_neg ah,if_neg ah];have h3:=h k k1 ah;rw[kp]at h3;exact NM h3 (h i p1 ah)
theorem ahJ{d:DL}{m k:Nat}(h:k<m):gd (d.take m) k=gd d k:=by
 unfold gd;rw[nI,nI,List.getElem?_take_of_lt h]
theorem abJ{d:DL}{m:Nat}(h:HH d m)(hm:m≤d.length):HH (d.take m) (d.take m).length:=by
 intro k k1 kn;rw[List.length_take]at kn;have:=tN k1;rw[ahJ ah,ahJ ah];exact h k k1 ah
abbrev Srt(S:DL):Prop:=S.Pairwise rC
def ins(x:Int×Int):DL→DL
 |[]=>[x]
 |y::r=>if rC x y then x::y::r else y::ins x r
theorem Ib(x:Int×Int):∀S:DL,(ins x S).Perm (x::S)
 |[]=> .refl _
 |y::r=>by
  unfold ins;split
  ·exact .refl _
  ·exact((Ib x r).cons y).trans (.swap _ _ _)
theorem ahK{x:Int×Int}:∀{S:DL},Srt S→x ∉ S→Srt (ins x S)
 |[],_,_=>by unfold ins;simp
 |y::r,h,hx=>by
  unfold ins;replace h:=List.pairwise_cons.1 h;split
  ·rename_i hl;refine List.pairwise_cons.2 ⟨λz hz=> ?_,List.pairwise_cons.2 h⟩;rcases List.mem_cons.1 hz with rfl|hz
   ·exact hl
   ·exact av6 hl (h.1 z hz)
  ·rename_i hl;refine List.pairwise_cons.2 ⟨λz hz=> ?_,ahK h.2 λq=>hx (by simp[q])⟩
   rcases List.mem_cons.1 ((Ib x r).subset hz)with rfl|hz
   ·exact asa hl λq=>hx (by simp[q])
   ·exact h.1 z hz
theorem Y5{S:DL}(h:Srt S)(p:Int×Int→Bool):Srt (S.filter p):=h.filter p
end Go.Proofs.YthidhjhkmjjckaaGreatDoor.Ko
