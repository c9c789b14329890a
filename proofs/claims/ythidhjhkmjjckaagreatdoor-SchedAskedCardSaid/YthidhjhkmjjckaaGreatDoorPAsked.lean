/-
  For every run, SchedAsked of package pelotonlaw19 returns true, panics never, and leaves what it was given as it was. Conditions: none.
-/
import Derived.Test.YthidhjhkmjjckaaGreatDoorPAsked6
import Derived.Test.YthidhjhkmjjckaaGreatDoorTie
import Derived.Test.YthidhjhkmjjckaaGreatDoorCards
import Derived.Lib.LaidTab
set_option linter.unusedSimpArgs false
set_option linter.unusedVariables false
set_option maxRecDepth 100000
namespace Go.Proofs.YthidhjhkmjjckaaGreatDoor.SchedAsked
open Go Go.Ev Go.Proofs Go.Proofs.YthidhjhkmjjckaaGreatDoor Go.RowKit Go.ChangeShapes Go.WideShapes
theorem awy:laidOutB Tryz.prog=true:=by kernel_rfl
theorem azL:Tryz.prog.inits.idxOf? 6=none:=by kernel_rfl
theorem own:ownKnob Tryz.prog.godebug=none:=by kernel_rfl
theorem adP:∀(l:List Nat) (i:Nat),(l.map λn:Nat=>(n:Int)).getD i 0=((l.getD i 0:Nat):Int)
 |[],_=>by simp
 |_::_,0=>by simp
 |_::l,i+1=>by simpa using adP l i
theorem aAt:Tryz.prog.globalNamed "math/bits.deBruijn64tab" =some 3:=by kernel_rfl
theorem aCS:(Tryz.prog.globals[3]?).map (·.type)=some 394:=by kernel_rfl
theorem table{W:World}(h:laidMetH Tryz.prog Rows.schedAskedRow.laid W):Lib.TabIs Tryz.prog W "math/bits.deBruijn64tab" .u8 (alk.map fun n:Nat=>(n:Int)):=by
 rw[MakeChecks.laidMetH_plain _ _ _ (by kernel_rfl)]at h
 exact Lib.tabIs_of_head (rest:=[]) aAt aCS Tryz.underlying394 Tryz.underlying5 (by kernel_rfl) (by kernel_rfl) h
theorem tzW{W:World}(h:laidMetH Tryz.prog Rows.schedAskedRow.laid W):TZ W:=λi hi=>by
 have:=(table h).cell aAt i (by rw[List.length_map];exact hi)
 rwa[adP]at this
theorem walk(W:World)(args:Array Value)(hA:WO Tryz.prog W Tryz.f6.params.toList args.toList)(hL:laidMetH Tryz.prog Rows.schedAskedRow.laid W):
  Calls Tryz.prog 6 args W λe W'=>e= .returned (.bool true)∧Below W.heap.size W W':=by
 have hT:TZ W:=tzW hL;rw[Tryz.params6]at hA;obtain⟨v0,_,e0,h0,hA⟩:=hA.cons;obtain rfl:=hA.nil;obtain rfl:args=#[v0]:=by cases args;simp_all
 obtain⟨ps,sc,P,b,s,lg,evs,rfl,hF,hR,hev⟩:=aww h0;refine uY.call (qm:=[.ag]) (ur:=[.b]) (F:=λx w k=>acK x w k) ahc (U0 ps sc b s lg) rfl ?_;exact aDN hF hT hR (λx hx=>(hev x hx).1) λw' hS=>⟨rfl,hS.below⟩
theorem lifted(os:Os)(started:os.Started)(H:Type)(enc:TypeId×Value→H):
  ReturnsInHanded {} Tryz.checked os 6 .any (λw args=>(Rows.schedAskedSpec.pre enc Tryz.prog Tryz.f6 [] false w args∧laidMetH Tryz.prog Rows.schedAskedRow.laid w)∧sizedMet enc Tryz.prog Tryz.f6 (OpenSpec.ofChange Rows.schedAskedSpec) false w args)
   (Rows.schedAskedSpec.post enc Tryz.prog Tryz.f6 false true false false):=
 ahO (C:=Tryz.checked) (X:=λw _=>laidMetH Tryz.prog Rows.schedAskedRow.laid w) (λ_ _ _ hh h=>h.of_heap hh) own started azL Tryz.func6
  (ChangeSpec.witness_shaped (enc:=enc) (C:=Tryz.checked) (os:=os) (X:=λw _=>laidMetH Tryz.prog Rows.schedAskedRow.laid w) false (World.laidAll Tryz.prog os Rows.schedAskedRow.laid) #[.agg #[.slice none 0 0,.int .i64 0,.int .i64 0,.int .i64 0,.slice none 0 0]] 8 (World.laidAll_os _ _ _)
   (World.shaped_of_ZipB aZ aZ) aZ aZ aZ
   (by rw[MakeChecks.laidMetH_plain _ _ _ aZ];exact laidMet_laidAll _ aZ aZ))
  rfl awy aZ (tb:=4) aZ aZ
  (λds h=>by
   match ds,h with
   |[_],_=>rfl)
  walk
theorem amx:(Rows.schedAskedRow.inPlace==Tryz.prog.inPlace 6)=true:=by kernel_rfl
theorem aCT:(Rows.schedAskedRow.unfollowed==Tryz.prog.unfollowed 6)=true:=by kernel_rfl
theorem aCU:(Rows.schedAskedRow.recurses==Tryz.prog.recurses 6)=true:=by kernel_rfl
theorem aCV:(Rows.schedAskedRow.named==Tryz.prog.varsNamed 6)=true:=by kernel_rfl
theorem aCW:mapsRowed Tryz.prog=true:=by kernel_rfl
theorem azM:(Tryz.prog.stops==[])=true:=by kernel_rfl
theorem azN:(Tryz.prog.stopKnobs==[])=true:=by kernel_rfl
theorem azO:(Rows.schedAskedRow.plainKeys==Tryz.prog.plainKeys)=true:=by kernel_rfl
theorem awz:Tryz.prog.stopsHeard=true:=by kernel_rfl
theorem awA:Tryz.prog.mayEnter=true:=by kernel_rfl
theorem azP:(Rows.schedAskedRow.lifted==Tryz.prog.liftsFinal)=true:=by kernel_rfl
theorem aqR:joinedFacts Tryz.prog 6 Tryz.f6 Rows.schedAskedSpec Rows.schedAskedRow=true:=by
 unfold joinedFacts;rw[amx,aCT,aCU,aCV,awy,aCW,azM,azN,azO,awz,awA,azP];kernel_rfl
theorem akg:Tryz.prog.funcNamed "peloton/pelotonlaw19.SchedAsked" =some 6:=by kernel_rfl
theorem over:Rows.schedAskedRow.holds Tryz.pinned (OpenSpec.ofChange Rows.schedAskedSpec):=
 OpenClaim.holds_of_wide 6 Tryz.f6 rfl rfl rfl rfl rfl rfl rfl ⟨rfl,rfl,rfl,rfl,rfl⟩ rfl rfl rfl rfl rfl akg Tryz.func6 aqR
  (of_decide_eq_true aZ) (by unfold Func.isWrapper;first|(rw[if_pos (by decide+kernel)];kernel_rfl)|(rw[if_neg (by decide+kernel)];exact⟨rfl,rfl⟩))
  (λos started H enc _=>lifted os started H enc)
theorem awB:true=Tryz.prog.looks []:=by kernel_rfl
theorem awC:([27].all λu=> !Tryz.prog.wantsStandIn u)=true:=by kernel_rfl
theorem azQ:false=Rows.schedAskedRow.goesBy Tryz.prog:=by kernel_rfl
theorem azR:Tryz.prog.mainIs=some ((true,Rows.schedAskedCard.stood.harness.2).1,(true,Rows.schedAskedCard.stood.harness.2).2.toList):=by kernel_rfl
theorem azS:Rows.schedAskedRow.wfByText (OpenSpec.ofChange Rows.schedAskedSpec)=true:=by kernel_rfl
theorem proved:Rows.SchedAskedCardSaid:=
 Claim7.holds_tied_plain_at .later [] [.data] true (true,Rows.schedAskedCard.stood.harness.2) true
  over (λ_ h=>by cases h) azS (λ_ h=>by cases h) schedAsked_row_tie rfl ⟨rfl,rfl⟩ azR rfl
  (λf fn hf hfn=>by
   obtain rfl:f=6:=Option.some.inj (akg.symm.trans hf)|>.symm;obtain rfl:fn=Tryz.f6:=(Option.some.inj (Tryz.func6.symm.trans hfn)).symm;exact⟨awB,λj t ht=>by
    rw[Tryz.params6]at ht;have hm:t∈ [27]:=by simpa using Array.mem_of_getElem? ht
    exact(show Tryz.prog.wantsStandIn t=false by simpa using List.all_eq_true.1 awC t hm)⟩)
  azQ
#print axioms proved
end Go.Proofs.YthidhjhkmjjckaaGreatDoor.SchedAsked
