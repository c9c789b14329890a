/-
  For every run and every number, SchedHolds of package pelotonlaw19 returns true, panics never, and leaves what it was given as it was. Conditions: none.
-/
import Derived.Test.YthidhjhkmjjckaaGreatDoorPHolds7
import Derived.Test.YthidhjhkmjjckaaGreatDoorTie
import Derived.Test.YthidhjhkmjjckaaGreatDoorCards
import Derived.Lib.LaidTab
set_option linter.unusedSimpArgs false
set_option linter.unusedVariables false
set_option maxRecDepth 100000
namespace Go.Proofs.YthidhjhkmjjckaaGreatDoor.SchedHolds
open Go Go.Ev Go.Proofs Go.Proofs.YthidhjhkmjjckaaGreatDoor Go.RowKit Go.ChangeShapes Go.WideShapes
theorem awy:laidOutB Tryz.prog=true:=by kernel_rfl
theorem azL:Tryz.prog.inits.idxOf? 10=none:=by kernel_rfl
theorem own:ownKnob Tryz.prog.godebug=none:=by kernel_rfl
theorem adP:∀(l:List Nat) (i:Nat),(l.map λn:Nat=>(n:Int)).getD i 0=((l.getD i 0:Nat):Int)
 |[],_=>by simp
 |_::_,0=>by simp
 |_::l,i+1=>by simpa using adP l i
theorem aAt:Tryz.prog.globalNamed "math/bits.deBruijn64tab" =some 3:=by kernel_rfl
theorem aCS:(Tryz.prog.globals[3]?).map (·.type)=some 394:=by kernel_rfl
theorem table{W:World}(h:laidMetH Tryz.prog Rows.schedHoldsRow.laid W):Lib.TabIs Tryz.prog W "math/bits.deBruijn64tab" .u8 (alk.map fun n:Nat=>(n:Int)):=by
 rw[MakeChecks.laidMetH_plain _ _ _ (by kernel_rfl)]at h
 exact Lib.tabIs_of_head (rest:=[]) aAt aCS Tryz.underlying394 Tryz.underlying5 (by kernel_rfl) (by kernel_rfl) h
theorem tzW{W:World}(h:laidMetH Tryz.prog Rows.schedHoldsRow.laid W):TZ W:=λi hi=>by
 have:=(table h).cell aAt i (by rw[List.length_map];exact hi)
 rwa[adP]at this
theorem walk(W:World)(args:Array Value)(hA:WO Tryz.prog W Tryz.f10.params.toList args.toList)(hL:laidMetH Tryz.prog Rows.schedHoldsRow.laid W):
  Calls Tryz.prog 10 args W λe W'=>e= .returned (.bool true)/\Below W.heap.size W W':=by
 have hT:TZ W:=tzW hL;rw[Tryz.params10]at hA;obtain⟨v0,_,e0,h0,hA⟩:=hA.cons;obtain⟨v1,_,rfl,h1,hA⟩:=hA.cons;obtain rfl:=hA.nil;obtain rfl:args=#[v0,v1]:=by cases args;simp_all
 obtain⟨ps,sc,P,b,s,lg,evs,rfl,hF,hR,hev⟩:=aww h0;obtain⟨dp,rfl,_⟩:=h1.int Tryz.underlying3;refine uY.call (qm:=[.ag,.i .i64]) (ur:=[.b]) (F:=λx w k=>ad1 x.1 x.2 w k) aip (U0 ps sc b s lg,dp) rfl ?_;exact aHA hF hT hR (λx hx=>(hev x hx).1) λw' hS=>⟨rfl,hS.below⟩
theorem lifted(os:Os)(started:os.Started)(H:Type)(enc:TypeId×Value->H):
  ReturnsInHanded {} Tryz.checked os 10 .any (λw args=>(Rows.schedHoldsSpec.pre enc Tryz.prog Tryz.f10 [] false w args/\laidMetH Tryz.prog Rows.schedHoldsRow.laid w)/\sizedMet enc Tryz.prog Tryz.f10 (OpenSpec.ofChange Rows.schedHoldsSpec) false w args)
   (Rows.schedHoldsSpec.post enc Tryz.prog Tryz.f10 false true false false):=
 ahO (C:=Tryz.checked) (X:=λw _=>laidMetH Tryz.prog Rows.schedHoldsRow.laid w) (λ_ _ _ hh h=>h.of_heap hh) own started azL Tryz.func10
  (ChangeSpec.witness_shaped (enc:=enc) (C:=Tryz.checked) (os:=os) (X:=λw _=>laidMetH Tryz.prog Rows.schedHoldsRow.laid w) false (World.laidAll Tryz.prog os Rows.schedHoldsRow.laid) #[.agg #[.slice none 0 0,.int .i64 0,.int .i64 0,.int .i64 0,.slice none 0 0],.int .i64 0] 8 (World.laidAll_os _ _ _)
   (World.shaped_of_ZipB aZ aZ) aZ aZ aZ
   (by rw[MakeChecks.laidMetH_plain _ _ _ aZ];exact laidMet_laidAll _ aZ aZ))
  rfl awy aZ (tb:=4) aZ aZ
  (λds h=>by
   match ds,h with
   |[_,_],_=>rfl)
  walk
theorem amx:(Rows.schedHoldsRow.inPlace==Tryz.prog.inPlace 10)=true:=by kernel_rfl
theorem aCT:(Rows.schedHoldsRow.unfollowed==Tryz.prog.unfollowed 10)=true:=by kernel_rfl
theorem aCU:(Rows.schedHoldsRow.recurses==Tryz.prog.recurses 10)=true:=by kernel_rfl
theorem aCV:(Rows.schedHoldsRow.named==Tryz.prog.varsNamed 10)=true:=by kernel_rfl
theorem aCW:mapsRowed Tryz.prog=true:=by kernel_rfl
theorem azM:(Tryz.prog.stops==[])=true:=by kernel_rfl
theorem azN:(Tryz.prog.stopKnobs==[])=true:=by kernel_rfl
theorem azO:(Rows.schedHoldsRow.plainKeys==Tryz.prog.plainKeys)=true:=by kernel_rfl
theorem awz:Tryz.prog.stopsHeard=true:=by kernel_rfl
theorem awA:Tryz.prog.mayEnter=true:=by kernel_rfl
theorem azP:(Rows.schedHoldsRow.lifted==Tryz.prog.liftsFinal)=true:=by kernel_rfl
theorem aqR:joinedFacts Tryz.prog 10 Tryz.f10 Rows.schedHoldsSpec Rows.schedHoldsRow=true:=by
 unfold joinedFacts;rw[amx,aCT,aCU,aCV,awy,aCW,azM,azN,azO,awz,awA,azP];kernel_rfl
theorem akg:Tryz.prog.funcNamed "peloton/pelotonlaw19.SchedHolds" =some 10:=by kernel_rfl
theorem over:Rows.schedHoldsRow.holds Tryz.pinned (OpenSpec.ofChange Rows.schedHoldsSpec):=
 OpenClaim.holds_of_wide 10 Tryz.f10 rfl rfl rfl rfl rfl rfl rfl ⟨rfl,rfl,rfl,rfl,rfl⟩ rfl rfl rfl rfl rfl akg Tryz.func10 aqR
  (of_decide_eq_true aZ) (by unfold Func.isWrapper;first|(rw[if_pos (by decide+kernel)];kernel_rfl)|(rw[if_neg (by decide+kernel)];exact⟨rfl,rfl⟩))
  (λos started H enc _=>lifted os started H enc)
theorem awB:true=Tryz.prog.looks []:=by kernel_rfl
theorem awC:([27,3].all λu=> !Tryz.prog.wantsStandIn u)=true:=by kernel_rfl
theorem azQ:false=Rows.schedHoldsRow.goesBy Tryz.prog:=by kernel_rfl
theorem azR:Tryz.prog.mainIs=some ((true,Rows.schedHoldsCard.stood.harness.2).1,(true,Rows.schedHoldsCard.stood.harness.2).2.toList):=by kernel_rfl
theorem azS:Rows.schedHoldsRow.wfByText (OpenSpec.ofChange Rows.schedHoldsSpec)=true:=by kernel_rfl
theorem proved:Rows.SchedHoldsCardSaid:=
 Claim7.holds_tied_plain_at .later [] [.data] true (true,Rows.schedHoldsCard.stood.harness.2) true
  over (λ_ h=>by cases h) azS (λ_ h=>by cases h) schedHolds_row_tie rfl ⟨rfl,rfl⟩ azR rfl
  (λf fn hf hfn=>by
   obtain rfl:f=10:=Option.some.inj (akg.symm.trans hf)|>.symm;obtain rfl:fn=Tryz.f10:=(Option.some.inj (Tryz.func10.symm.trans hfn)).symm;exact⟨awB,λj t ht=>by
    rw[Tryz.params10]at ht;have hm:t∈ [27,3]:=by simpa using Array.mem_of_getElem? ht
    exact(show Tryz.prog.wantsStandIn t=false by simpa using List.all_eq_true.1 awC t hm)⟩)
  azQ
#print axioms proved
end Go.Proofs.YthidhjhkmjjckaaGreatDoor.SchedHolds
