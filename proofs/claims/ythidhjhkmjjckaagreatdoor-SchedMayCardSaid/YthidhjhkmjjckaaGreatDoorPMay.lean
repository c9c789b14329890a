/-
  For every program, all limits and any three numbers, SchedMay of package pelotonlaw19 returns true, panics never, and leaves what it was given as it was. Conditions: none.
-/
import Derived.Test.YthidhjhkmjjckaaGreatDoorPMay7
import Derived.Test.YthidhjhkmjjckaaGreatDoorTie
import Derived.Test.YthidhjhkmjjckaaGreatDoorCards
import Derived.Lib.LaidTab
set_option linter.unusedSimpArgs false
set_option linter.unusedVariables false
set_option maxRecDepth 100000
namespace Go.Proofs.YthidhjhkmjjckaaGreatDoor.SchedMay
open Go Go.Ev Go.Proofs Go.Proofs.YthidhjhkmjjckaaGreatDoor Go.RowKit Go.ChangeShapes Go.WideShapes
theorem auD:laidOutB Tryz.prog=true:=by kernel_rfl
theorem axG:Tryz.prog.inits.idxOf? 5=none:=by kernel_rfl
theorem own:ownKnob Tryz.prog.godebug=none:=by kernel_rfl
theorem acu:∀(l:List Nat) (i:Nat),(l.map λn:Nat=>(n:Int)).getD i 0=((l.getD i 0:Nat):Int)
 |[],_=>by simp
 |_::_,0=>by simp
 |_::l,i+1=>by simpa using acu l i
theorem ayo:Tryz.prog.globalNamed "math/bits.deBruijn64tab" =some 3:=by kernel_rfl
theorem aAR:(Tryz.prog.globals[3]?).map (·.type)=some 394:=by kernel_rfl
theorem table{W:World}(h:laidMetH Tryz.prog Rows.schedMayRow.laid W):Lib.TabIs Tryz.prog W "math/bits.deBruijn64tab" .u8 (aj1.map fun n:Nat=>(n:Int)):=by
 rw[MakeChecks.laidMetH_plain _ _ _ (by kernel_rfl)]at h
 exact Lib.tabIs_of_head (rest:=[]) ayo aAR Tryz.underlying394 Tryz.underlying5 (by kernel_rfl) (by kernel_rfl) h
theorem tzW{W:World}(h:laidMetH Tryz.prog Rows.schedMayRow.laid W):TZ W:=λi hi=>by
 have:=(table h).cell ayo i (by rw[List.length_map];exact hi)
 rwa[acu]at this
theorem walk(W:World)(args:Array Value)(hA:VK Tryz.prog W Tryz.f5.params.toList args.toList)(hL:laidMetH Tryz.prog Rows.schedMayRow.laid W):
  Calls Tryz.prog 5 args W λe W'=>e= .returned (.bool true)∧Below W.heap.size W W':=by
 have hT:TZ W:=tzW hL;rw[Tryz.params5]at hA;obtain⟨v0,_,e0,h0,hA⟩:=hA.cons;obtain⟨v1,_,rfl,h1,hA⟩:=hA.cons;obtain⟨v2,_,rfl,h2,hA⟩:=hA.cons;obtain rfl:=hA.nil;obtain rfl:args=#[v0,v1,v2]:=by cases args;simp_all
 obtain⟨ps,P,rfl,hF⟩:=h0.program Ck.azR;obtain⟨xs,rfl,hx,_⟩:=h1.flat (n:=10) (k:=6) (.inr ⟨_,Tryz.underlying43⟩) be be;obtain⟨x1,x2,x3,x4,x5,x6,rfl⟩:∃a b c d e f,xs=[a,b,c,d,e,f]:=by
  match xs,hx with
  |[a,b,c,d,e,f],_=>exact⟨a,b,c,d,e,f,rfl⟩
 obtain⟨ys,rfl,hy,_⟩:=h2.flat (n:=10) (k:=3) (.inl ⟨_,_,Tryz.underlying55⟩) be be;obtain⟨b1,b2,b3,rfl⟩:∃a b c,ys=[a,b,c]:=by
  match ys,hy with
  |[a,b,c],_=>exact⟨a,b,c,rfl⟩
 refine uG.call (qc:=[.ag,.ag,.ag]) (tT:=[.b]) (F:=λx w k=>rU x.1 x.2.1 x.2.2 w k) KN (#[.slice ps.a ps.n ps.c],Vg ⟨x1,x2,x3,x4,x5,x6⟩,#[.int .i64 b1,.int .i64 b2,.int .i64 b3]) rfl ?_;exact agt (m:=⟨x1,x2,x3,x4,x5,x6⟩) hF hT λw' hS=>⟨rfl,hS.below⟩
theorem lifted(os:Os)(started:os.Started)(H:Type)(enc:TypeId×Value→H):
  ReturnsInHanded {} Tryz.checked os 5 .any (λw args=>(Rows.schedMaySpec.pre enc Tryz.prog Tryz.f5 [] false w args∧laidMetH Tryz.prog Rows.schedMayRow.laid w)∧sizedMet enc Tryz.prog Tryz.f5 (OpenSpec.ofChange Rows.schedMaySpec) false w args)
   (Rows.schedMaySpec.post enc Tryz.prog Tryz.f5 false true false false):=
 agu (C:=Tryz.checked) (X:=λw _=>laidMetH Tryz.prog Rows.schedMayRow.laid w) (λ_ _ _ hh h=>h.of_heap hh) own started axG Tryz.func5
  (ChangeSpec.witness_shaped (enc:=enc) (C:=Tryz.checked) (os:=os) (X:=λw _=>laidMetH Tryz.prog Rows.schedMayRow.laid w) false (World.laidAll Tryz.prog os Rows.schedMayRow.laid) #[.agg #[.slice none 0 0],.agg #[.int .i64 0,.int .i64 0,.int .i64 0,.int .i64 0,.int .i64 0,.int .i64 0],.agg #[.int .i64 0,.int .i64 0,.int .i64 0]] 8 (World.laidAll_os _ _ _)
   (World.shaped_of_ZipB be be) be be be
   (by rw[MakeChecks.laidMetH_plain _ _ _ be];exact laidMet_laidAll _ be be))
  rfl auD be (tb:=4) be be
  (λds h=>by
   match ds,h with
   |[_,_,_],_=>rfl)
  walk
theorem ak9:(Rows.schedMayRow.inPlace==Tryz.prog.inPlace 5)=true:=by kernel_rfl
theorem aAS:(Rows.schedMayRow.unfollowed==Tryz.prog.unfollowed 5)=true:=by kernel_rfl
theorem aAT:(Rows.schedMayRow.recurses==Tryz.prog.recurses 5)=true:=by kernel_rfl
theorem aAU:(Rows.schedMayRow.named==Tryz.prog.varsNamed 5)=true:=by kernel_rfl
theorem aAV:mapsRowed Tryz.prog=true:=by kernel_rfl
theorem axH:(Tryz.prog.stops==[])=true:=by kernel_rfl
theorem axI:(Tryz.prog.stopKnobs==[])=true:=by kernel_rfl
theorem axJ:(Rows.schedMayRow.plainKeys==Tryz.prog.plainKeys)=true:=by kernel_rfl
theorem auE:Tryz.prog.stopsHeard=true:=by kernel_rfl
theorem auF:Tryz.prog.mayEnter=true:=by kernel_rfl
theorem axK:(Rows.schedMayRow.lifted==Tryz.prog.liftsFinal)=true:=by kernel_rfl
theorem ao7:joinedFacts Tryz.prog 5 Tryz.f5 Rows.schedMaySpec Rows.schedMayRow=true:=by
 unfold joinedFacts;rw[ak9,aAS,aAT,aAU,auD,aAV,axH,axI,axJ,auE,auF,axK];kernel_rfl
theorem aiV:Tryz.prog.funcNamed "peloton/pelotonlaw19.SchedMay" =some 5:=by kernel_rfl
theorem over:Rows.schedMayRow.holds Tryz.pinned (OpenSpec.ofChange Rows.schedMaySpec):=
 OpenClaim.holds_of_wide 5 Tryz.f5 rfl rfl rfl rfl rfl rfl rfl ⟨rfl,rfl,rfl,rfl,rfl⟩ rfl rfl rfl rfl rfl aiV Tryz.func5 ao7
  (of_decide_eq_true be) (by unfold Func.isWrapper;first|(rw[if_pos (by decide+kernel)];kernel_rfl)|(rw[if_neg (by decide+kernel)];exact⟨rfl,rfl⟩))
  (λos started H enc _=>lifted os started H enc)
theorem auG:true=Tryz.prog.looks []:=by kernel_rfl
theorem auH:([24,43,55].all λu=> !Tryz.prog.wantsStandIn u)=true:=by kernel_rfl
theorem axL:false=Rows.schedMayRow.goesBy Tryz.prog:=by kernel_rfl
theorem axM:Tryz.prog.mainIs=some ((true,Rows.schedMayCard.stood.harness.2).1,(true,Rows.schedMayCard.stood.harness.2).2.toList):=by kernel_rfl
theorem axN:Rows.schedMayRow.wfByText (OpenSpec.ofChange Rows.schedMaySpec)=true:=by kernel_rfl
theorem proved:Rows.SchedMayCardSaid:=
 Claim7.holds_tied_plain_at .later [] [.data] true (true,Rows.schedMayCard.stood.harness.2) true
  over (λ_ h=>by cases h) axN (λ_ h=>by cases h) schedMay_row_tie rfl ⟨rfl,rfl⟩ axM rfl
  (λf fn hf hfn=>by
   obtain rfl:f=5:=Option.some.inj (aiV.symm.trans hf)|>.symm;obtain rfl:fn=Tryz.f5:=(Option.some.inj (Tryz.func5.symm.trans hfn)).symm;exact⟨auG,λj t ht=>by
    rw[Tryz.params5]at ht;have hm:t∈ [24,43,55]:=by simpa using Array.mem_of_getElem? ht
    exact(show Tryz.prog.wantsStandIn t=false by simpa using List.all_eq_true.1 auH t hm)⟩)
  axL
#print axioms proved
end Go.Proofs.YthidhjhkmjjckaaGreatDoor.SchedMay
