/-
  Parts of the proof of LSteals: printed by a program out of longer texts.
-/
import Derived.Test.YthidhjhkmjjckaaGreatDoorPSteals6
set_option linter.unusedSimpArgs false
set_option linter.unusedVariables false
set_option maxRecDepth 100000
set_option linter.defProp false
open List renaming getElem?_eq_some_iff→kB,getElem?_eq_getElem→iH,getD_eq_getElem?_getD→m0,getElem?_append_left→tJ,getElem?_append_right→u0,getElem?_set_ne→r0,getElem?_set_self→uO,mem_of_getElem?→qn,getElem?_map→l8,eraseIdx→I7,insertIdx_succ_cons→aBT,insertIdx_zero→aBU,replicate→dU,mem_append→zw,length_append→uv,all_eq_true→tL
open Go.Sem renaming run_pure→cP,run_bind→cR
open Go.Result renaming andThen_ok→cK
open Bool renaming or_eq_false_iff→kf,and_eq_true→iY
open Option renaming isNone→eA
open Go.IntKind renaming wrap→aF
open Int renaming toNat_natCast→iZ
open Array renaming setIfInBounds→eS,getElem?_eq_some_iff→Bf
open Nat renaming le_refl→iw
open Go.Addr renaming add→aY
namespace Go.Proofs.YthidhjhkmjjckaaGreatDoor
open Go Go.Ev Go.Proofs
open Ko (ni CK)
def aFD(T:List Kt):Nat→List Int→Option (List (Int×Int))
 |0,_=>none
 |_+1,[]=>some []
 |n+1,x::st=>match GV T x with
  |none=>none
  |some t=>(aFD T n (t.kids++st)).map λo=>(x,t.parent)::o
def aIn{T:List Kt}{n:Nat}{st:List Int}{o:List (Int×Int)}(h:aFD T n st=some o):Dfs T st o:=by
 induction n generalizing st o with
 |zero=>cases h
 |succ n ih=>
  cases st with
  |nil=>cases h;exact .nil
  |cons x st=>
   unfold aFD at h;split at h
   ·cases h
   ·rename_i t e;obtain⟨o',h',rfl⟩:=Option.map_eq_some_iff.1 h;exact .cons e (ih h')
def orN(n:Nat):List (Int×Int):=(0, -1)::(List.range n).map λi:Nat=>((i:Int)+1,0)
def ok1(n:Nat)(G:Gl):Bool:=decide (G.ts.length=n+1)&&(aFD G.T 12 [0]==some (orN n))
def sdF(G:Gl):Nat→Option Nat
 |0=>some 0
 |k+1=>match sdF G k with
  |none=>none
  |some d=>bif decide (2≤G.K (k+1))then(bif decide (d=k)&&decide (G.V (k+1)=7)then some (k+1)else none)else some d
def itD(l:Lc)(P:List dB)(who:Int)(n:Nat):Nat→Nat→Sg_→Option Sg_
 |0,_,_=>none
 |m+1,d,S=>bif decide (d<n)then(bif ok1 n (pkF l P who S).1.1 then match sdF (pkF l P who S).1.1 n with
   |none=>none
   |some d'=>itD l P who n m d' (pkF l P who S).1 else none)else bif decide (d=n)then some S else none
def aIp(n:Nat)(S:Sg_):Bool:=decide (S.1.ts.length<n+1)||decide (dq0 S<n)
def aoN(l:Lc)(P:List dB)(n:Nat)(who:Int)(S:Sg_):Bool:=
 match itF (λS=>(pkF l P 0 S).1) (aIp n) 400 S with
 |none=>false
 |some aQo=>match itD l P who n 1000 0 aQo with
  |none=>false
  |some aQp=>ok1 n aQp.1&&decide (dq0 aQp=0)&&decide (aQp.1.K 0=1)&&decide (afM l aQp.1 1+afM l aQp.1 2+afM l aQp.1 3=afM l aQp.1 who)&&decide (0≤afM l aQp.1 1∧afM l aQp.1 1≤1000000∧0≤afM l aQp.1 2∧afM l aQp.1 2≤1000000∧0≤afM l aQp.1 3∧afM l aQp.1 3≤1000000)
def aQt:Lm:=⟨4,0,65536,1048576,1000,3⟩
def aQu:List (List Int):=[[0,0,0,0,7],[16,0,0,0,0]]
def sev(i:Nat):Int:=(i:Int)*7
def Th(d:Nat)(T:List Int):Sg_:=({eY aQt with D:=(List.range d).map sev++T},Bd aQt)
section
variable{a:Ad}{ps s t:Sl}{x0 x1 x2 x3:Nat}{T:List Int}
def aMG:([1,2,3].all λwho=>aoN (gJ a ps aQt [x0,x1,x2,x3]) (aQn s t 1 aQu) 1 who (Th 1 T)&&(List.range 1).all λd=>aoN (gJ a ps aQt [x0,x1,x2,x3]) (aQn s t 1 aQu) 1 who (Th d []))=true:=by kernel_rfl
def aMH:([1,2,3].all λwho=>aoN (gJ a ps aQt [x0,x1,x2,x3]) (aQn s t 2 aQu) 2 who (Th 2 T)&&(List.range 2).all λd=>aoN (gJ a ps aQt [x0,x1,x2,x3]) (aQn s t 2 aQu) 2 who (Th d []))=true:=by kernel_rfl
def aMI:([1,2,3].all λwho=>aoN (gJ a ps aQt [x0,x1,x2,x3]) (aQn s t 3 aQu) 3 who (Th 3 T)&&(List.range 3).all λd=>aoN (gJ a ps aQt [x0,x1,x2,x3]) (aQn s t 3 aQu) 3 who (Th d []))=true:=by kernel_rfl
def aMJ:([1,2,3].all λwho=>aoN (gJ a ps aQt [x0,x1,x2,x3]) (aQn s t 4 aQu) 4 who (Th 4 T)&&(List.range 4).all λd=>aoN (gJ a ps aQt [x0,x1,x2,x3]) (aQn s t 4 aQu) 4 who (Th d []))=true:=by kernel_rfl
def aML:([1,2,3].all λwho=>aoN (gJ a ps aQt [x0,x1,x2,x3]) (aQn s t 5 aQu) 5 who (Th 5 T)&&(List.range 5).all λd=>aoN (gJ a ps aQt [x0,x1,x2,x3]) (aQn s t 5 aQu) 5 who (Th d []))=true:=by kernel_rfl
end
section
variable{a:Ad}{ps s t:Sl}{x0 x1 x2 x3:Nat}{T:List Int}
def aLg:(aoN (gJ a ps aQt [x0,x1,x2,x3]) (aQn s t 6 aQu) 6 1 (Th 6 T)&&(List.range 6).all λd=>aoN (gJ a ps aQt [x0,x1,x2,x3]) (aQn s t 6 aQu) 6 1 (Th d []))=true:=by kernel_rfl
def aLh:(aoN (gJ a ps aQt [x0,x1,x2,x3]) (aQn s t 6 aQu) 6 2 (Th 6 T)&&(List.range 6).all λd=>aoN (gJ a ps aQt [x0,x1,x2,x3]) (aQn s t 6 aQu) 6 2 (Th d []))=true:=by kernel_rfl
def aLi:(aoN (gJ a ps aQt [x0,x1,x2,x3]) (aQn s t 6 aQu) 6 3 (Th 6 T)&&(List.range 6).all λd=>aoN (gJ a ps aQt [x0,x1,x2,x3]) (aQn s t 6 aQu) 6 3 (Th d []))=true:=by kernel_rfl
def aLl:(aoN (gJ a ps aQt [x0,x1,x2,x3]) (aQn s t 7 aQu) 7 1 (Th 7 T)&&(List.range 7).all λd=>aoN (gJ a ps aQt [x0,x1,x2,x3]) (aQn s t 7 aQu) 7 1 (Th d []))=true:=by kernel_rfl
def aLm:(aoN (gJ a ps aQt [x0,x1,x2,x3]) (aQn s t 7 aQu) 7 2 (Th 7 T)&&(List.range 7).all λd=>aoN (gJ a ps aQt [x0,x1,x2,x3]) (aQn s t 7 aQu) 7 2 (Th d []))=true:=by kernel_rfl
def aLn:(aoN (gJ a ps aQt [x0,x1,x2,x3]) (aQn s t 7 aQu) 7 3 (Th 7 T)&&(List.range 7).all λd=>aoN (gJ a ps aQt [x0,x1,x2,x3]) (aQn s t 7 aQu) 7 3 (Th d []))=true:=by kernel_rfl
end
end Go.Proofs.YthidhjhkmjjckaaGreatDoor
