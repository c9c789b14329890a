/-
  For every run, SchedOnce of package pelotonlaw19 returns true, panics never, and leaves what it was given as it was. Conditions: none.
-/
import Derived.Test.YthidhjhkmjjckaaGreatDoorPOnce7
import Derived.Test.YthidhjhkmjjckaaGreatDoorTie
import Derived.Test.YthidhjhkmjjckaaGreatDoorCards
import Derived.Lib.LaidTab
set_option linter.unusedSimpArgs false
set_option linter.unusedVariables false
set_option maxRecDepth 100000
namespace Go.Proofs.YthidhjhkmjjckaaGreatDoor.SchedOnce
open Go Go.Ev Go.Proofs Go.Proofs.YthidhjhkmjjckaaGreatDoor Go.RowKit Go.ChangeShapes Go.WideShapes
theorem awy:laidOutB Tryz.prog=true:=by kernel_rfl
theorem azL:Tryz.prog.inits.idxOf? 17=none:=by kernel_rfl
theorem own:ownKnob Tryz.prog.godebug=none:=by kernel_rfl
theorem adP:∀(l:List Nat) (i:Nat),(l.map λn:Nat=>(n:Int)).getD i 0=((l.getD i 0:Nat):Int)
 |[],_=>by simp
 |_::_,0=>by simp
 |_::l,i+1=>by simpa using adP l i
theorem aAt:Tryz.prog.globalNamed "math/bits.deBruijn64tab" =some 3:=by kernel_rfl
theorem aCS:(Tryz.prog.globals[3]?).map (·.type)=some 394:=by kernel_rfl
theorem table{W:World}(h:laidMetH Tryz.prog Rows.schedOnceRow.laid W):Lib.TabIs Tryz.prog W "math/bits.deBruijn64tab" .u8 (alk.map fun n:Nat=>(n:Int)):=by
 rw[MakeChecks.laidMetH_plain _ _ _ (by kernel_rfl)]at h
 exact Lib.tabIs_of_head (rest:=_) aAt aCS Tryz.underlying394 Tryz.underlying5 (by kernel_rfl) (by kernel_rfl) h
theorem tzW{W:World}(h:laidMetH Tryz.prog Rows.schedOnceRow.laid W):TZ W:=λi hi=>by
 have:=(table h).cell aAt i (by rw[List.length_map];exact hi)
 rwa[adP]at this
theorem walk(W:World)(args:Array Value)(hA:WO Tryz.prog W Tryz.f17.params.toList args.toList)(hL:laidMetH Tryz.prog Rows.schedOnceRow.laid W):
  Calls Tryz.prog 17 args W λe W'=>e= .returned (.bool true)/\Below W.heap.size W W':=by
 have hT:TZ W:=tzW hL;rw[Tryz.params17]at hA;obtain⟨v0,_,e0,h0,hA⟩:=hA.cons;obtain rfl:=hA.nil;obtain rfl:args=#[v0]:=by cases args;simp_all
 obtain⟨ps,sc,P,b,s,lg,evs,rfl,hF,hR,hev⟩:=aww h0;refine uY.call (qm:=[.ag]) (ur:=[.b]) (F:=λx w k=>arL x w k) aAM (U0 ps sc b s lg) rfl ?_;exact aOu hF hT hR (λx hx=>(hev x hx).1) λw' hS=>⟨rfl,hS.below⟩
theorem lifted(os:Os)(started:os.Started)(H:Type)(enc:TypeId×Value->H):
  ReturnsInHanded {} Tryz.checked os 17 .any (λw args=>(Rows.schedOnceSpec.pre enc Tryz.prog Tryz.f17 [] false w args/\laidMetH Tryz.prog Rows.schedOnceRow.laid w)/\sizedMet enc Tryz.prog Tryz.f17 (OpenSpec.ofChange Rows.schedOnceSpec) false w args)
   (Rows.schedOnceSpec.post enc Tryz.prog Tryz.f17 false true false false):=
 ahO (C:=Tryz.checked) (X:=λw _=>laidMetH Tryz.prog Rows.schedOnceRow.laid w) (λ_ _ _ hh h=>h.of_heap hh) own started azL Tryz.func17
  (ChangeSpec.witness_shaped (enc:=enc) (C:=Tryz.checked) (os:=os) (X:=λw _=>laidMetH Tryz.prog Rows.schedOnceRow.laid w) false (World.laidAll Tryz.prog os Rows.schedOnceRow.laid) #[.agg #[.slice none 0 0,.int .i64 0,.int .i64 0,.int .i64 0,.slice none 0 0]] 8 (World.laidAll_os _ _ _)
   (World.shaped_of_ZipB aZ aZ) aZ aZ aZ
   (by rw[MakeChecks.laidMetH_plain _ _ _ aZ];exact laidMet_laidAll _ aZ aZ))
  rfl awy aZ aZ Tryz.underlying4
  (λds h=>by
   match ds,h with
   |[_],_=>rfl)
  walk
theorem amx:(Rows.schedOnceRow.inPlace==Tryz.prog.inPlace 17)=true:=by kernel_rfl
theorem aCT:(Rows.schedOnceRow.unfollowed==Tryz.prog.unfollowed 17)=true:=by kernel_rfl
theorem aCU:(Rows.schedOnceRow.recurses==Tryz.prog.recurses 17)=true:=by kernel_rfl
theorem aCV:(Rows.schedOnceRow.named==Tryz.prog.varsNamed 17)=true:=by kernel_rfl
theorem aCW:mapsRowed Tryz.prog=true:=by kernel_rfl
theorem azM:(Tryz.prog.stops==[])=true:=by kernel_rfl
theorem azN:(Tryz.prog.stopKnobs==[])=true:=by kernel_rfl
theorem azO:(Rows.schedOnceRow.plainKeys==Tryz.prog.plainKeys)=true:=by kernel_rfl
theorem awz:Tryz.prog.stopsHeard=true:=by kernel_rfl
theorem awA:Tryz.prog.mayEnter=true:=by kernel_rfl
theorem azP:(Rows.schedOnceRow.lifted==Tryz.prog.liftsFinal)=true:=by kernel_rfl
theorem aqR:joinedFacts Tryz.prog 17 Tryz.f17 Rows.schedOnceSpec Rows.schedOnceRow=true:=by
 unfold joinedFacts;rw[amx,aCT,aCU,aCV,awy,aCW,azM,azN,azO,awz,awA,azP];kernel_rfl
theorem akg:Tryz.prog.funcNamed "peloton/pelotonlaw19.SchedOnce" =some 17:=by kernel_rfl
theorem over:Rows.schedOnceRow.holds Tryz.pinned (OpenSpec.ofChange Rows.schedOnceSpec):=
 OpenClaim.holds_of_wide 17 Tryz.f17 rfl rfl rfl rfl rfl rfl rfl ⟨rfl,rfl,rfl,rfl,rfl⟩ rfl rfl rfl rfl rfl akg Tryz.func17 aqR
  (of_decide_eq_true aZ) (by unfold Func.isWrapper;first|(rw[if_pos (by decide+kernel)];kernel_rfl)|(rw[if_neg (by decide+kernel)];exact⟨rfl,rfl⟩))
  (λos started H enc _=>lifted os started H enc)
theorem awB:true=Tryz.prog.looks []:=by kernel_rfl
theorem awC:([27].all λu=> !Tryz.prog.wantsStandIn u)=true:=by kernel_rfl
theorem azQ:false=Rows.schedOnceRow.goesBy Tryz.prog:=by kernel_rfl
theorem azR:Tryz.prog.mainIs=some ((true,Rows.schedOnceCard.stood.harness.2).1,(true,Rows.schedOnceCard.stood.harness.2).2.toList):=by kernel_rfl
theorem azS:Rows.schedOnceRow.wfByText (OpenSpec.ofChange Rows.schedOnceSpec)=true:=by kernel_rfl
theorem proved:Rows.SchedOnceCardSaid:=
 Claim7.holds_tied_plain_at .later [] [.data,.data,.pinned] true (true,Rows.schedOnceCard.stood.harness.2) true
  over (λ_ h=>by cases h) azS (λ_ h=>by cases h) schedOnce_row_tie rfl ⟨rfl,rfl⟩ azR rfl
  (λf fn hf hfn=>by
   obtain rfl:f=17:=Option.some.inj (akg.symm.trans hf)|>.symm;obtain rfl:fn=Tryz.f17:=(Option.some.inj (Tryz.func17.symm.trans hfn)).symm;exact⟨awB,λj t ht=>by
    rw[Tryz.params17]at ht;have hm:t∈ [27]:=by simpa using Array.mem_of_getElem? ht
    exact(show Tryz.prog.wantsStandIn t=false by simpa using List.all_eq_true.1 awC t hm)⟩)
  azQ
#print axioms proved
end Go.Proofs.YthidhjhkmjjckaaGreatDoor.SchedOnce
