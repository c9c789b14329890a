/-
  The functions that reach maps.Clone, as the evaluator gives them: printed by a program; maps.clone has no body.
-/
import Derived.Test.YtheallacpidcmaaFc
import Derived.KernelRfl
set_option maxRecDepth 100000
set_option linter.unusedVariables false
namespace Go.Ev
open Go
theorem run_callFunc_extern {P : Program} {w : World} {f : FuncId} {fn : Func} {e : Array Value → Sem Value} (hf : P.funcs[f]? = some fn) (hname : (fn.name == "runtime.NumGoroutine") = false)
    (hb : fn.body.isNone = true) (hn : Extern.findNext fn = none) (he : Extern.find fn = some e) (args : Array Value) :
    (callFunc f args).run P w = ((e args).run P w).andThen fun v w => .ok (.value v) w := by
  have h1 : fn.name ≠ "runtime.NumGoroutine" := by simpa using hname
  have h2 : fn.body = none := by simpa using hb
  simp only [callFunc, Sem.run_bind, run_program, Result.andThen_ok, hf, h1, h2, beq_iff_eq, Option.isNone_none, hn, he, run_mark, if_true, if_false, Sem.run_pure, ↓reduceIte]
end Go.Ev
namespace Go.Proofs.Ytheallacpidcmaa
open Go Go.Ev
abbrev n_maps_Clone_map_int_int64_int_int64_ : Nat := 88
abbrev n_clock_Clock_Clone : Nat := 56
abbrev n_pelotonlaw13_ClockActs : Nat := 11
abbrev n_pelotonlaw13_ClockSplits : Nat := 12
abbrev n_pelotonlaw13_ClockNil : Nat := 13
abbrev n_maps_clone : Nat := 104
/-- maps.clone: the model's own -/
def maps_clone (m_0 : Value) (w : World) (k : Value → World → Prop) : Prop := runV ((Extern.MapsClone.clone #[m_0]).run Go.Proofs.Try.prog w) k
def d_maps_clone : Dec := fun args w c => unL [.raw] args fun x => maps_clone x w fun r w => c (packV (valL [.raw] r)) w
theorem ok_maps_clone : OrcOK Go.Proofs.Try.prog (orcOf [(n_maps_clone, d_maps_clone)]) := fun fn args w c h => by
  cases fn with
  | func f =>
    refine .inr ?_
    unfold orcOf lookD at h
    dsimp only at h
    split at h
    · rename_i hf
      have hf := Nat.eq_of_beq_eq_true hf
      subst hf
      match hl : args.toList, h with
      | [x], h =>
        have ea : args = #[x] := by cases args; simp_all
        subst ea
        obtain ⟨v, w', hr, hc⟩ := runV_inv (r := (Extern.MapsClone.clone #[x]).run Go.Proofs.Try.prog w) h
        refine ⟨v, w', ?_, hc⟩
        rw [run_callFunc_extern (fn := Go.Proofs.Try.f104) (e := Extern.MapsClone.clone) Go.Proofs.Try.func104 (by kernel_rfl) (by kernel_rfl) (by kernel_rfl) (by kernel_rfl)]
        rw [hr]; rfl
    · exact h.elim
  | _ => exact h.elim

/-- maps.Clone[map[int]int64,int,int64] -/
def maps_Clone_map_int_int64_int_int64__b (maps_clone : Value → World → ((Value) → World → Prop) → Prop) (m_0 : Option Nat) (w : World) (k : (Option Nat) → World → Prop) : Prop :=
  iteB (Option.isNone m_0) (
    (k none w)) (
    maps_clone (.iface 135 (.map m_0)) w fun v1 w2 =>
    tyA Go.Proofs.Try.prog v1 20 135 false w2 fun v3 w4 =>
    toM v3 fun p5 =>
    (k p5 w4))
theorem e_maps_Clone_map_int_int64_int_int64_ (maps_clone : Value → World → ((Value) → World → Prop) → Prop) (x : KT [.m]) (w : World) (k : KT [.m] → World → Prop) : evFn Go.Proofs.Try.prog (orcOf [(n_maps_clone, (fun args w c => unL [.raw] args fun x => maps_clone x w fun r w => c (packV (valL [.raw] r)) w))]) 21 [] Go.Proofs.Try.f88 [.m] (valL [.m] x) w k = maps_Clone_map_int_int64_int_int64__b maps_clone x w k := by kernel_rfl
def maps_Clone_map_int_int64_int_int64_ (m_0 : Option Nat) (w : World) (k : (Option Nat) → World → Prop) : Prop := maps_Clone_map_int_int64_int_int64__b maps_clone m_0 w k
def d_maps_Clone_map_int_int64_int_int64_ : Dec := fun args w c => unL [.m] args fun x => maps_Clone_map_int_int64_int_int64_ x w fun r w => c (packV (valL [.m] r)) w
theorem s_maps_Clone_map_int_int64_int_int64_ : Sound Go.Proofs.Try.prog n_maps_Clone_map_int_int64_int_int64_ d_maps_Clone_map_int_int64_int_int64_ :=
  sound_orc (mask := 21) (h := []) (orc := orcOf [(n_maps_clone, d_maps_clone)]) mixed Go.Proofs.Try.func88 ok_maps_clone
    [.m] [.m] (by kernel_rfl) (fun x w k => maps_Clone_map_int_int64_int_int64_ x w k) (fun x w k => e_maps_Clone_map_int_int64_int_int64_ maps_clone x w k)

/-- (*peloton/clock.Clock).Clone -/
def clock_Clock_Clone_b (slices_Clone_clock_due_clock_deadline_ : Sl → World → ((Sl) → World → Prop) → Prop) (maps_Clone_map_int_int64_int_int64_ : Option Nat → World → ((Option Nat) → World → Prop) → Prop) (c_0 : Option Addr) (w : World) (k : (Option Addr) → World → Prop) : Prop :=
  iteB (Option.isNone c_0) (
    (k none w)) (
    drew w fun w1 =>
    nn c_0 fun a2 =>
    ldI .i64 w1 (Addr.add a2 0) fun i3 =>
    nn c_0 fun a4 =>
    ldS w1 (Addr.add a4 1) fun s5 =>
    nn c_0 fun a6 =>
    ldM w1 (Addr.add a6 2) fun p7 =>
    slices_Clone_clock_due_clock_deadline_ s5 w1 fun s8 w9 =>
    samec 1 (Addr.add a6 2) w1 w9 (
    samec 1 (Addr.add a2 0) w1 w9 (
    maps_Clone_map_int_int64_int_int64_ p7 w9 fun p10 w11 =>
    samec 1 (Addr.add a2 0) w1 w11 (
    newC w11 #[(.int .i64 i3), (.slice s8.a s8.n s8.c), (.map p10)] 139 fun a12 w13 =>
    (k (some a12) w13)))))
theorem e_clock_Clock_Clone (slices_Clone_clock_due_clock_deadline_ : Sl → World → ((Sl) → World → Prop) → Prop) (maps_Clone_map_int_int64_int_int64_ : Option Nat → World → ((Option Nat) → World → Prop) → Prop) (x : KT [.p]) (w : World) (k : KT [.p] → World → Prop) : evFn Go.Proofs.Try.prog (orcOf [(n_slices_Clone_clock_due_clock_deadline_, (fun args w c => unL [.s] args fun x => slices_Clone_clock_due_clock_deadline_ x w fun r w => c (packV (valL [.s] r)) w)), (n_maps_Clone_map_int_int64_int_int64_, (fun args w c => unL [.m] args fun x => maps_Clone_map_int_int64_int_int64_ x w fun r w => c (packV (valL [.m] r)) w))]) 21 [] Go.Proofs.Try.f56 [.p] (valL [.p] x) w k = clock_Clock_Clone_b slices_Clone_clock_due_clock_deadline_ maps_Clone_map_int_int64_int_int64_ x w k := by kernel_rfl
def clock_Clock_Clone (c_0 : Option Addr) (w : World) (k : (Option Addr) → World → Prop) : Prop := clock_Clock_Clone_b slices_Clone_clock_due_clock_deadline_ maps_Clone_map_int_int64_int_int64_ c_0 w k
def d_clock_Clock_Clone : Dec := fun args w c => unL [.p] args fun x => clock_Clock_Clone x w fun r w => c (packV (valL [.p] r)) w
theorem s_clock_Clock_Clone : Sound Go.Proofs.Try.prog n_clock_Clock_Clone d_clock_Clock_Clone :=
  sound_of (mask := 21) (h := []) (ds := [(n_slices_Clone_clock_due_clock_deadline_, d_slices_Clone_clock_due_clock_deadline_), (n_maps_Clone_map_int_int64_int_int64_, d_maps_Clone_map_int_int64_int_int64_)]) mixed Go.Proofs.Try.func56 ⟨s_slices_Clone_clock_due_clock_deadline_, s_maps_Clone_map_int_int64_int_int64_, trivial⟩
    [.p] [.p] (by kernel_rfl) (fun x w k => clock_Clock_Clone x w k) (fun x w k => e_clock_Clock_Clone slices_Clone_clock_due_clock_deadline_ maps_Clone_map_int_int64_int_int64_ x w k)

/-- peloton/pelotonlaw13.ClockActs -/
def pelotonlaw13_ClockActs_b (clock_New : World → ((Option Addr) → World → Prop) → Prop) (pelotonlaw13_is : Option Addr → Option Addr → World → ((Bool) → World → Prop) → Prop) (pelotonlaw13_awake : World → ((Bool) → World → Prop) → Prop) (pelotonref13_Clock_Copy : Option Addr → World → ((Option Addr) → World → Prop) → Prop) (pelotonlaw13_do : Option Addr → Array Value → World → ((Sl × Bool × Int) → World → Prop) → Prop) (pelotonref13_Clock_Set : Option Addr → Int → Int → World → ((Int) → World → Prop) → Prop) (pelotonref13_Clock_Drop : Option Addr → Int → World → ((Bool) → World → Prop) → Prop) (pelotonref13_Clock_Advance : Option Addr → Int → World → ((Sl × Int) → World → Prop) → Prop) (pelotonlaw13_same : Sl → Sl → World → ((Bool) → World → Prop) → Prop) (clock_Clock_Clone : Option Addr → World → ((Option Addr) → World → Prop) → Prop) (clock_Clock_Next : Option Addr → World → ((Int × Int × Bool) → World → Prop) → Prop) (clock_Clock_Len : Option Addr → World → ((Int) → World → Prop) → Prop) (clock_Clock_Drop : Option Addr → Int → World → ((Bool) → World → Prop) → Prop) (clock_Clock_Now : Option Addr → World → ((Int) → World → Prop) → Prop) (clock_Clock_Advance : Option Addr → Int → World → ((Sl × Int) → World → Prop) → Prop) (l_0 : Sl) (at_1 : Int) (w : World) (k : (Bool) → World → Prop) : Prop :=
  clock_New  w fun p1 w2 =>
  newC w2 #[(.int .i64 (0 : Int)), (.slice none 0 0)] 100 fun a3 w4 =>
  joinP (S := Bool) (fun J5 =>
    iteB (Option.isNone p1) (
      (J5 true w4)) (
      pelotonlaw13_is p1 (some a3) w4 fun b6 w7 =>
      (J5 (!b6) w7))) fun b8 w9 =>
  iteB b8 (
    (k false w9)) (
    iteB (decide (((l_0.n : Nat) : Int) > (300 : Int))) (
      pelotonlaw13_awake  w9 fun b10 w11 =>
      (k b10 w11)) (
      pelotonref13_Clock_Copy (some a3) w9 fun p12 w13 =>
      joinP (S := ((Option Addr) × (Option Addr))) (fun J14 =>
        loopP (S := ((Option Addr) × ((Option Addr) × Int))) (fun C15 x16 w17 =>
          iteB (decide (x16.2.2 < ((l_0.n : Nat) : Int))) (
            ixS l_0 x16.2.2 3 fun a18 =>
            ldA 3 w17 a18 fun cs19 =>
            pelotonlaw13_do p1 cs19 w17 fun x20 w21 =>
            ixS l_0 x16.2.2 3 fun a22 =>
            ldI .i64 w21 (Addr.add a22 0) fun i23 =>
            joinP (S := Unit) (fun J24 =>
              iteB (i23 == (0 : Int)) (
                drew w21 fun w25 =>
                ixS l_0 x16.2.2 3 fun a26 =>
                ldI .i64 w25 (Addr.add a26 1) fun i27 =>
                ixS l_0 x16.2.2 3 fun a28 =>
                ldI .i64 w25 (Addr.add a28 2) fun i29 =>
                pelotonref13_Clock_Set (some a3) i27 i29 w25 fun i30 w31 =>
                iteB ((x20.1, (x20.2.1, x20.2.2)).2.2 != i30) (
                  (k false w31)) (
                  (J24 () w31))) (
                iteB (i23 == (1 : Int)) (
                  ixS l_0 x16.2.2 3 fun a32 =>
                  ldI .i64 w21 (Addr.add a32 1) fun i33 =>
                  pelotonref13_Clock_Drop (some a3) i33 w21 fun b34 w35 =>
                  iteB (!((x20.1, (x20.2.1, x20.2.2)).2.1 == b34)) (
                    (k false w35)) (
                    (J24 () w35))) (
                  iteB (i23 == (2 : Int)) (
                    ixS l_0 x16.2.2 3 fun a36 =>
                    ldI .i64 w21 (Addr.add a36 2) fun i37 =>
                    pelotonref13_Clock_Advance (some a3) i37 w21 fun x38 w39 =>
                    joinP (S := Bool) (fun J40 =>
                      iteB ((x20.1, (x20.2.1, x20.2.2)).2.2 != (x38.1, x38.2).2) (
                        (J40 true w39)) (
                        pelotonlaw13_same x20.1 x38.1 w39 fun b41 w42 =>
                        (J40 (!b41) w42))) fun b43 w44 =>
                    iteB b43 (
                      (k false w44)) (
                      (J24 () w44))) (
                    (J24 () w21))))) fun u45 w46 =>
            pelotonlaw13_is p1 (some a3) w46 fun b47 w48 =>
            iteB (!b47) (
              (k false w48)) (
              iteB (x16.2.2 == at_1) (
                clock_Clock_Clone p1 w48 fun p49 w50 =>
                pelotonref13_Clock_Copy (some a3) w50 fun p51 w52 =>
                (C15 (p49, (p51, (IntKind.wrap .i64 (x16.2.2 + (1 : Int))))) w52)) (
                (C15 (x16.1, (x16.2.1, (IntKind.wrap .i64 (x16.2.2 + (1 : Int))))) w48)))) (
            (J14 (x16.1, x16.2.1) w17))) (none, (p12, (0 : Int))) w13) fun x53 w54 =>
      iteB ((decide (at_1 < (0 : Int))) || (decide (at_1 ≥ ((l_0.n : Nat) : Int)))) (
        pelotonlaw13_awake  w54 fun b55 w56 =>
        (k b55 w56)) (
        loopP (S := Int) (fun C57 i58 w59 =>
          iteB (decide (i58 < (300 : Int))) (
            pelotonlaw13_is x53.1 x53.2 w59 fun b60 w61 =>
            iteB (!b60) (
              (k false w61)) (
              clock_Clock_Next x53.1 w61 fun x62 w63 =>
              iteB (!(x62.1, (x62.2.1, x62.2.2)).2.2) (
                clock_Clock_Len x53.1 w63 fun i64 w65 =>
                iteB (i64 == (0 : Int)) (
                  pelotonlaw13_is p1 (some a3) w65 fun b66 w67 =>
                  iteB b66 (
                    pelotonlaw13_awake  w67 fun b68 w69 =>
                    (k b68 w69)) (
                    (k false w67))) (
                  (k false w65))) (
                iteB (((remV i58 (2 : Int)) == (0 : Int)) || (decide ((x62.1, (x62.2.1, x62.2.2)).1 > (1099511627776 : Int)))) (
                  joinP (S := Bool) (fun J70 =>
                    clock_Clock_Drop x53.1 (x62.1, (x62.2.1, x62.2.2)).2.1 w63 fun b71 w72 =>
                    iteB (!b71) (
                      (J70 true w72)) (
                      pelotonref13_Clock_Drop x53.2 (x62.1, (x62.2.1, x62.2.2)).2.1 w72 fun b73 w74 =>
                      (J70 (!b73) w74))) fun b75 w76 =>
                  iteB b75 (
                    (k false w76)) (
                    (C57 (IntKind.wrap .i64 (i58 + (1 : Int))) w76))) (
                  clock_Clock_Now x53.1 w63 fun i77 w78 =>
                  clock_Clock_Advance x53.1 (IntKind.wrap .i64 ((x62.1, (x62.2.1, x62.2.2)).1 - i77)) w78 fun x79 w80 =>
                  nn x53.2 fun a81 =>
                  ldI .i64 w80 (Addr.add a81 0) fun i82 =>
                  pelotonref13_Clock_Advance x53.2 (IntKind.wrap .i64 ((x62.1, (x62.2.1, x62.2.2)).1 - i82)) w80 fun x83 w84 =>
                  joinP (S := Bool) (fun J85 =>
                    iteB ((x79.1, x79.2).2 != (x83.1, x83.2).2) (
                      (J85 true w84)) (
                      pelotonlaw13_same x79.1 x83.1 w84 fun b86 w87 =>
                      (J85 (!b86) w87))) fun b88 w89 =>
                  iteB b88 (
                    (k false w89)) (
                    (C57 (IntKind.wrap .i64 (i58 + (1 : Int))) w89)))))) (
            clock_Clock_Len x53.1 w59 fun i90 w91 =>
            iteB (i90 == (0 : Int)) (
              pelotonlaw13_is p1 (some a3) w91 fun b92 w93 =>
              iteB b92 (
                pelotonlaw13_awake  w93 fun b94 w95 =>
                (k b94 w95)) (
                (k false w93))) (
              (k false w91)))) (0 : Int) w54)))
theorem e_pelotonlaw13_ClockActs (clock_New : World → ((Option Addr) → World → Prop) → Prop) (pelotonlaw13_is : Option Addr → Option Addr → World → ((Bool) → World → Prop) → Prop) (pelotonlaw13_awake : World → ((Bool) → World → Prop) → Prop) (pelotonref13_Clock_Copy : Option Addr → World → ((Option Addr) → World → Prop) → Prop) (pelotonlaw13_do : Option Addr → Array Value → World → ((Sl × Bool × Int) → World → Prop) → Prop) (pelotonref13_Clock_Set : Option Addr → Int → Int → World → ((Int) → World → Prop) → Prop) (pelotonref13_Clock_Drop : Option Addr → Int → World → ((Bool) → World → Prop) → Prop) (pelotonref13_Clock_Advance : Option Addr → Int → World → ((Sl × Int) → World → Prop) → Prop) (pelotonlaw13_same : Sl → Sl → World → ((Bool) → World → Prop) → Prop) (clock_Clock_Clone : Option Addr → World → ((Option Addr) → World → Prop) → Prop) (clock_Clock_Next : Option Addr → World → ((Int × Int × Bool) → World → Prop) → Prop) (clock_Clock_Len : Option Addr → World → ((Int) → World → Prop) → Prop) (clock_Clock_Drop : Option Addr → Int → World → ((Bool) → World → Prop) → Prop) (clock_Clock_Now : Option Addr → World → ((Int) → World → Prop) → Prop) (clock_Clock_Advance : Option Addr → Int → World → ((Sl × Int) → World → Prop) → Prop) (x : KT [.s, (.i .i64)]) (w : World) (k : KT [.b] → World → Prop) : evFn Go.Proofs.Try.prog (orcOf [(n_clock_New, (fun args w c => unL [] args fun x => clock_New  w fun r w => c (packV (valL [.p] r)) w)), (n_pelotonlaw13_is, (fun args w c => unL [.p, .p] args fun x => pelotonlaw13_is x.1 x.2 w fun r w => c (packV (valL [.b] r)) w)), (n_pelotonlaw13_awake, (fun args w c => unL [] args fun x => pelotonlaw13_awake  w fun r w => c (packV (valL [.b] r)) w)), (n_pelotonref13_Clock_Copy, (fun args w c => unL [.p] args fun x => pelotonref13_Clock_Copy x w fun r w => c (packV (valL [.p] r)) w)), (n_pelotonlaw13_do, (fun args w c => unL [.p, .ag] args fun x => pelotonlaw13_do x.1 x.2 w fun r w => c (packV (valL [.s, .b, (.i .i64)] r)) w)), (n_pelotonref13_Clock_Set, (fun args w c => unL [.p, (.i .i64), (.i .i64)] args fun x => pelotonref13_Clock_Set x.1 x.2.1 x.2.2 w fun r w => c (packV (valL [(.i .i64)] r)) w)), (n_pelotonref13_Clock_Drop, (fun args w c => unL [.p, (.i .i64)] args fun x => pelotonref13_Clock_Drop x.1 x.2 w fun r w => c (packV (valL [.b] r)) w)), (n_pelotonref13_Clock_Advance, (fun args w c => unL [.p, (.i .i64)] args fun x => pelotonref13_Clock_Advance x.1 x.2 w fun r w => c (packV (valL [.s, (.i .i64)] r)) w)), (n_pelotonlaw13_same, (fun args w c => unL [.s, .s] args fun x => pelotonlaw13_same x.1 x.2 w fun r w => c (packV (valL [.b] r)) w)), (n_clock_Clock_Clone, (fun args w c => unL [.p] args fun x => clock_Clock_Clone x w fun r w => c (packV (valL [.p] r)) w)), (n_clock_Clock_Next, (fun args w c => unL [.p] args fun x => clock_Clock_Next x w fun r w => c (packV (valL [(.i .i64), (.i .i64), .b] r)) w)), (n_clock_Clock_Len, (fun args w c => unL [.p] args fun x => clock_Clock_Len x w fun r w => c (packV (valL [(.i .i64)] r)) w)), (n_clock_Clock_Drop, (fun args w c => unL [.p, (.i .i64)] args fun x => clock_Clock_Drop x.1 x.2 w fun r w => c (packV (valL [.b] r)) w)), (n_clock_Clock_Now, (fun args w c => unL [.p] args fun x => clock_Clock_Now x w fun r w => c (packV (valL [(.i .i64)] r)) w)), (n_clock_Clock_Advance, (fun args w c => unL [.p, (.i .i64)] args fun x => clock_Clock_Advance x.1 x.2 w fun r w => c (packV (valL [.s, (.i .i64)] r)) w))]) 1569275436772550350394967280689759035391577301394036621299 [(3, [(33, .b)]), (12, [(7, .p), (8, .p)]), (13, [(7, .p), (8, .p), (9, (.i .i64))]), (21, []), (33, [(108, .b)]), (49, [(15, (.i .i64))]), (61, [(161, .b)]), (66, [(190, .b)])] Go.Proofs.Try.f11 [.b] (valL [.s, (.i .i64)] x) w k = pelotonlaw13_ClockActs_b clock_New pelotonlaw13_is pelotonlaw13_awake pelotonref13_Clock_Copy pelotonlaw13_do pelotonref13_Clock_Set pelotonref13_Clock_Drop pelotonref13_Clock_Advance pelotonlaw13_same clock_Clock_Clone clock_Clock_Next clock_Clock_Len clock_Clock_Drop clock_Clock_Now clock_Clock_Advance x.1 x.2 w k := by kernel_rfl
def pelotonlaw13_ClockActs (l_0 : Sl) (at_1 : Int) (w : World) (k : (Bool) → World → Prop) : Prop := pelotonlaw13_ClockActs_b clock_New pelotonlaw13_is pelotonlaw13_awake pelotonref13_Clock_Copy pelotonlaw13_do pelotonref13_Clock_Set pelotonref13_Clock_Drop pelotonref13_Clock_Advance pelotonlaw13_same clock_Clock_Clone clock_Clock_Next clock_Clock_Len clock_Clock_Drop clock_Clock_Now clock_Clock_Advance l_0 at_1 w k
def d_pelotonlaw13_ClockActs : Dec := fun args w c => unL [.s, (.i .i64)] args fun x => pelotonlaw13_ClockActs x.1 x.2 w fun r w => c (packV (valL [.b] r)) w
theorem s_pelotonlaw13_ClockActs : Sound Go.Proofs.Try.prog n_pelotonlaw13_ClockActs d_pelotonlaw13_ClockActs :=
  sound_of (mask := 1569275436772550350394967280689759035391577301394036621299) (h := [(3, [(33, .b)]), (12, [(7, .p), (8, .p)]), (13, [(7, .p), (8, .p), (9, (.i .i64))]), (21, []), (33, [(108, .b)]), (49, [(15, (.i .i64))]), (61, [(161, .b)]), (66, [(190, .b)])]) (ds := [(n_clock_New, d_clock_New), (n_pelotonlaw13_is, d_pelotonlaw13_is), (n_pelotonlaw13_awake, d_pelotonlaw13_awake), (n_pelotonref13_Clock_Copy, d_pelotonref13_Clock_Copy), (n_pelotonlaw13_do, d_pelotonlaw13_do), (n_pelotonref13_Clock_Set, d_pelotonref13_Clock_Set), (n_pelotonref13_Clock_Drop, d_pelotonref13_Clock_Drop), (n_pelotonref13_Clock_Advance, d_pelotonref13_Clock_Advance), (n_pelotonlaw13_same, d_pelotonlaw13_same), (n_clock_Clock_Clone, d_clock_Clock_Clone), (n_clock_Clock_Next, d_clock_Clock_Next), (n_clock_Clock_Len, d_clock_Clock_Len), (n_clock_Clock_Drop, d_clock_Clock_Drop), (n_clock_Clock_Now, d_clock_Clock_Now), (n_clock_Clock_Advance, d_clock_Clock_Advance)]) mixed Go.Proofs.Try.func11 ⟨s_clock_New, s_pelotonlaw13_is, s_pelotonlaw13_awake, s_pelotonref13_Clock_Copy, s_pelotonlaw13_do, s_pelotonref13_Clock_Set, s_pelotonref13_Clock_Drop, s_pelotonref13_Clock_Advance, s_pelotonlaw13_same, s_clock_Clock_Clone, s_clock_Clock_Next, s_clock_Clock_Len, s_clock_Clock_Drop, s_clock_Clock_Now, s_clock_Clock_Advance, trivial⟩
    [.s, (.i .i64)] [.b] (by kernel_rfl) (fun x w k => pelotonlaw13_ClockActs x.1 x.2 w k) (fun x w k => e_pelotonlaw13_ClockActs clock_New pelotonlaw13_is pelotonlaw13_awake pelotonref13_Clock_Copy pelotonlaw13_do pelotonref13_Clock_Set pelotonref13_Clock_Drop pelotonref13_Clock_Advance pelotonlaw13_same clock_Clock_Clone clock_Clock_Next clock_Clock_Len clock_Clock_Drop clock_Clock_Now clock_Clock_Advance x w k)

/-- peloton/pelotonlaw13.ClockSplits -/
def pelotonlaw13_ClockSplits_b (clock_New : World → ((Option Addr) → World → Prop) → Prop) (pelotonlaw13_awake : World → ((Bool) → World → Prop) → Prop) (pelotonlaw13_do : Option Addr → Array Value → World → ((Sl × Bool × Int) → World → Prop) → Prop) (clock_Clock_Clone : Option Addr → World → ((Option Addr) → World → Prop) → Prop) (clock_Clock_Now : Option Addr → World → ((Int) → World → Prop) → Prop) (clock_Clock_Len : Option Addr → World → ((Int) → World → Prop) → Prop) (clock_Clock_Advance : Option Addr → Int → World → ((Sl × Int) → World → Prop) → Prop) (pelotonlaw13_same : Sl → Sl → World → ((Bool) → World → Prop) → Prop) (l_0 : Sl) (a_1 : Int) (b_2 : Int) (w : World) (k : (Bool) → World → Prop) : Prop :=
  clock_New  w fun p1 w2 =>
  iteB (Option.isNone p1) (
    (k false w2)) (
    iteB (decide (((l_0.n : Nat) : Int) > (200 : Int))) (
      pelotonlaw13_awake  w2 fun b3 w4 =>
      (k b3 w4)) (
      joinP (S := Unit) (fun J5 =>
        loopP (S := Int) (fun C6 i7 w8 =>
          iteB (decide (i7 < ((l_0.n : Nat) : Int))) (
            ixS l_0 i7 3 fun a9 =>
            ldA 3 w8 a9 fun cs10 =>
            pelotonlaw13_do p1 cs10 w8 fun x11 w12 =>
            (C6 (IntKind.wrap .i64 (i7 + (1 : Int))) w12)) (
            (J5 () w8))) (0 : Int) w2) fun u13 w14 =>
      iteB ((((decide (a_1 < (0 : Int))) || (decide (b_2 < (0 : Int)))) || (decide (a_1 > (1099511627776 : Int)))) || (decide (b_2 > (1099511627776 : Int)))) (
        pelotonlaw13_awake  w14 fun b15 w16 =>
        (k b15 w16)) (
        clock_Clock_Clone p1 w14 fun p17 w18 =>
        iteB (Option.isNone p17) (
          (k false w18)) (
          clock_Clock_Now p1 w18 fun i19 w20 =>
          clock_Clock_Len p1 w20 fun i21 w22 =>
          clock_Clock_Advance p1 (IntKind.wrap .i64 (a_1 + b_2)) w22 fun x23 w24 =>
          iteB ((x23.1, x23.2).2 != (0 : Int)) (
            iteB (((x23.1, x23.2).2 == (10 : Int)) && (decide ((IntKind.wrap .i64 ((IntKind.wrap .i64 (i19 + a_1)) + b_2)) > (1099511627776 : Int)))) (
              clock_Clock_Now p1 w24 fun i25 w26 =>
              iteB (i25 == i19) (
                clock_Clock_Len p1 w26 fun i27 w28 =>
                iteB (i27 == i21) (
                  pelotonlaw13_awake  w28 fun b29 w30 =>
                  (k b29 w30)) (
                  (k false w28))) (
                (k false w26))) (
              (k false w24))) (
            clock_Clock_Advance p17 a_1 w24 fun x31 w32 =>
            clock_Clock_Now p17 w32 fun i33 w34 =>
            clock_Clock_Advance p17 b_2 w34 fun x35 w36 =>
            joinP (S := Bool) (fun J37 =>
              iteB ((((x31.1, x31.2).2 != (0 : Int)) || ((x35.1, x35.2).2 != (0 : Int))) || (i33 != (IntKind.wrap .i64 (i19 + a_1)))) (
                (J37 true w36)) (
                newC w36 #[] 3 fun a38 w39 =>
                bApp Go.Proofs.Try.prog #[47, 47] 47 [(.slice (some a38) 0 0), (.slice x31.1.a x31.1.n x31.1.c)] w39 fun s40 w41 =>
                bApp Go.Proofs.Try.prog #[47, 47] 47 [(.slice s40.a s40.n s40.c), (.slice x35.1.a x35.1.n x35.1.c)] w41 fun s42 w43 =>
                pelotonlaw13_same x23.1 s42 w43 fun b44 w45 =>
                (J37 (!b44) w45))) fun b46 w47 =>
            iteB b46 (
              (k false w47)) (
              clock_Clock_Now p1 w47 fun i48 w49 =>
              iteB (i48 == (IntKind.wrap .i64 ((IntKind.wrap .i64 (i19 + a_1)) + b_2))) (
                clock_Clock_Now p17 w49 fun i50 w51 =>
                clock_Clock_Now p1 w51 fun i52 w53 =>
                iteB (i50 == i52) (
                  clock_Clock_Len p1 w53 fun i54 w55 =>
                  iteB (i54 == (IntKind.wrap .i64 (i21 - ((x23.1.n : Nat) : Int)))) (
                    clock_Clock_Len p17 w55 fun i56 w57 =>
                    clock_Clock_Len p1 w57 fun i58 w59 =>
                    iteB (i56 == i58) (
                      pelotonlaw13_awake  w59 fun b60 w61 =>
                      (k b60 w61)) (
                      (k false w59))) (
                    (k false w55))) (
                  (k false w53))) (
                (k false w49))))))))
theorem e_pelotonlaw13_ClockSplits (clock_New : World → ((Option Addr) → World → Prop) → Prop) (pelotonlaw13_awake : World → ((Bool) → World → Prop) → Prop) (pelotonlaw13_do : Option Addr → Array Value → World → ((Sl × Bool × Int) → World → Prop) → Prop) (clock_Clock_Clone : Option Addr → World → ((Option Addr) → World → Prop) → Prop) (clock_Clock_Now : Option Addr → World → ((Int) → World → Prop) → Prop) (clock_Clock_Len : Option Addr → World → ((Int) → World → Prop) → Prop) (clock_Clock_Advance : Option Addr → Int → World → ((Sl × Int) → World → Prop) → Prop) (pelotonlaw13_same : Sl → Sl → World → ((Bool) → World → Prop) → Prop) (x : KT [.s, (.i .i64), (.i .i64)]) (w : World) (k : KT [.b] → World → Prop) : evFn Go.Proofs.Try.prog (orcOf [(n_clock_New, (fun args w c => unL [] args fun x => clock_New  w fun r w => c (packV (valL [.p] r)) w)), (n_pelotonlaw13_awake, (fun args w c => unL [] args fun x => pelotonlaw13_awake  w fun r w => c (packV (valL [.b] r)) w)), (n_pelotonlaw13_do, (fun args w c => unL [.p, .ag] args fun x => pelotonlaw13_do x.1 x.2 w fun r w => c (packV (valL [.s, .b, (.i .i64)] r)) w)), (n_clock_Clock_Clone, (fun args w c => unL [.p] args fun x => clock_Clock_Clone x w fun r w => c (packV (valL [.p] r)) w)), (n_clock_Clock_Now, (fun args w c => unL [.p] args fun x => clock_Clock_Now x w fun r w => c (packV (valL [(.i .i64)] r)) w)), (n_clock_Clock_Len, (fun args w c => unL [.p] args fun x => clock_Clock_Len x w fun r w => c (packV (valL [(.i .i64)] r)) w)), (n_clock_Clock_Advance, (fun args w c => unL [.p, (.i .i64)] args fun x => clock_Clock_Advance x.1 x.2 w fun r w => c (packV (valL [.s, (.i .i64)] r)) w)), (n_pelotonlaw13_same, (fun args w c => unL [.s, .s] args fun x => pelotonlaw13_same x.1 x.2 w fun r w => c (packV (valL [.b] r)) w))]) 5444517870735015416594659649020110569415 [(9, []), (10, [(8, (.i .i64))]), (32, [(132, .b)])] Go.Proofs.Try.f12 [.b] (valL [.s, (.i .i64), (.i .i64)] x) w k = pelotonlaw13_ClockSplits_b clock_New pelotonlaw13_awake pelotonlaw13_do clock_Clock_Clone clock_Clock_Now clock_Clock_Len clock_Clock_Advance pelotonlaw13_same x.1 x.2.1 x.2.2 w k := by kernel_rfl
def pelotonlaw13_ClockSplits (l_0 : Sl) (a_1 : Int) (b_2 : Int) (w : World) (k : (Bool) → World → Prop) : Prop := pelotonlaw13_ClockSplits_b clock_New pelotonlaw13_awake pelotonlaw13_do clock_Clock_Clone clock_Clock_Now clock_Clock_Len clock_Clock_Advance pelotonlaw13_same l_0 a_1 b_2 w k
def d_pelotonlaw13_ClockSplits : Dec := fun args w c => unL [.s, (.i .i64), (.i .i64)] args fun x => pelotonlaw13_ClockSplits x.1 x.2.1 x.2.2 w fun r w => c (packV (valL [.b] r)) w
theorem s_pelotonlaw13_ClockSplits : Sound Go.Proofs.Try.prog n_pelotonlaw13_ClockSplits d_pelotonlaw13_ClockSplits :=
  sound_of (mask := 5444517870735015416594659649020110569415) (h := [(9, []), (10, [(8, (.i .i64))]), (32, [(132, .b)])]) (ds := [(n_clock_New, d_clock_New), (n_pelotonlaw13_awake, d_pelotonlaw13_awake), (n_pelotonlaw13_do, d_pelotonlaw13_do), (n_clock_Clock_Clone, d_clock_Clock_Clone), (n_clock_Clock_Now, d_clock_Clock_Now), (n_clock_Clock_Len, d_clock_Clock_Len), (n_clock_Clock_Advance, d_clock_Clock_Advance), (n_pelotonlaw13_same, d_pelotonlaw13_same)]) mixed Go.Proofs.Try.func12 ⟨s_clock_New, s_pelotonlaw13_awake, s_pelotonlaw13_do, s_clock_Clock_Clone, s_clock_Clock_Now, s_clock_Clock_Len, s_clock_Clock_Advance, s_pelotonlaw13_same, trivial⟩
    [.s, (.i .i64), (.i .i64)] [.b] (by kernel_rfl) (fun x w k => pelotonlaw13_ClockSplits x.1 x.2.1 x.2.2 w k) (fun x w k => e_pelotonlaw13_ClockSplits clock_New pelotonlaw13_awake pelotonlaw13_do clock_Clock_Clone clock_Clock_Now clock_Clock_Len clock_Clock_Advance pelotonlaw13_same x w k)

/-- peloton/pelotonlaw13.ClockNil -/
def pelotonlaw13_ClockNil_b (clock_Clock_Next : Option Addr → World → ((Int × Int × Bool) → World → Prop) → Prop) (clock_Clock_Advance : Option Addr → Int → World → ((Sl × Int) → World → Prop) → Prop) (clock_Clock_Now : Option Addr → World → ((Int) → World → Prop) → Prop) (clock_Clock_Set : Option Addr → Int → Int → World → ((Int) → World → Prop) → Prop) (clock_Clock_Drop : Option Addr → Int → World → ((Bool) → World → Prop) → Prop) (clock_Clock_Len : Option Addr → World → ((Int) → World → Prop) → Prop) (clock_Clock_Clone : Option Addr → World → ((Option Addr) → World → Prop) → Prop) (clock_New : World → ((Option Addr) → World → Prop) → Prop) (pelotonlaw13_do : Option Addr → Array Value → World → ((Sl × Bool × Int) → World → Prop) → Prop) (pelotonlaw13_awake : World → ((Bool) → World → Prop) → Prop) (a_0 : Array Value) (id_1 : Int) (n_2 : Int) (w : World) (k : (Bool) → World → Prop) : Prop :=
  newC w a_0 88 fun a1 w2 =>
  clock_Clock_Next none w2 fun x3 w4 =>
  clock_Clock_Advance none n_2 w4 fun x5 w6 =>
  joinP (S := Bool) (fun J7 =>
    clock_Clock_Now none w6 fun i8 w9 =>
    iteB (i8 != (0 : Int)) (
      (J7 true w9)) (
      clock_Clock_Set none id_1 n_2 w9 fun i10 w11 =>
      iteB (i10 != (2 : Int)) (
        (J7 true w11)) (
        clock_Clock_Drop none id_1 w11 fun b12 w13 =>
        iteB (((((b12 || ((x3.1, (x3.2.1, x3.2.2)).1 != (0 : Int))) || ((x3.1, (x3.2.1, x3.2.2)).2.1 != (0 : Int))) || (x3.1, (x3.2.1, x3.2.2)).2.2) || (((x5.1.n : Nat) : Int) != (0 : Int))) || ((x5.1, x5.2).2 != (2 : Int))) (
          (J7 true w13)) (
          clock_Clock_Len none w13 fun i14 w15 =>
          iteB (i14 != (0 : Int)) (
            (J7 true w15)) (
            clock_Clock_Clone none w15 fun p16 w17 =>
            (J7 (!(Option.isNone p16)) w17)))))) fun b18 w19 =>
  iteB b18 (
    (k false w19)) (
    clock_New  w19 fun p20 w21 =>
    iteB (Option.isNone p20) (
      (k false w21)) (
      ldA 3 w21 a1 fun cs22 =>
      pelotonlaw13_do p20 cs22 w21 fun x23 w24 =>
      clock_Clock_Now p20 w24 fun i25 w26 =>
      joinP (S := Int) (fun J27 =>
        iteB (((decide (id_1 < (0 : Int))) || (decide (n_2 < (1 : Int)))) || (decide (n_2 > (1099511627776 : Int)))) (
          (J27 (10 : Int) w26)) (
          joinP (S := Bool) (fun J28 =>
            ldI .i64 w26 (Addr.add a1 0) fun i29 =>
            iteB (i29 == (0 : Int)) (
              ldI .i64 w26 (Addr.add a1 1) fun i30 =>
              iteB (i30 == id_1) (
                ldI .i64 w26 (Addr.add a1 2) fun i31 =>
                iteB (decide (i31 ≥ (1 : Int))) (
                  ldI .i64 w26 (Addr.add a1 2) fun i32 =>
                  (J28 (decide (i32 ≤ (1099511627776 : Int))) w26)) (
                  (J28 false w26))) (
                (J28 false w26))) (
              (J28 false w26))) fun b33 w34 =>
          iteB b33 (
            (J27 (18 : Int) w34)) (
            (J27 (0 : Int) w34)))) fun i35 w36 =>
      clock_Clock_Set p20 id_1 n_2 w36 fun i37 w38 =>
      iteB (i37 != i35) (
        (k false w38)) (
        clock_Clock_Advance p20 (IntKind.wrap .i64 ((1099511627776 : Int) - i25)) w38 fun x39 w40 =>
        clock_Clock_Advance p20 (1 : Int) w40 fun x41 w42 =>
        clock_Clock_Advance p20 (-(1 : Int)) w42 fun x43 w44 =>
        clock_Clock_Advance p20 (0 : Int) w44 fun x45 w46 =>
        iteB (((((x39.1, x39.2).2 == (0 : Int)) && ((x41.1, x41.2).2 == (10 : Int))) && ((x43.1, x43.2).2 == (10 : Int))) && ((x45.1, x45.2).2 == (0 : Int))) (
          clock_Clock_Now p20 w46 fun i47 w48 =>
          iteB (i47 == (1099511627776 : Int)) (
            clock_Clock_Set p20 (andI .i64 id_1 (7 : Int)) (1 : Int) w48 fun i49 w50 =>
            iteB (i49 != (10 : Int)) (
              pelotonlaw13_awake  w50 fun b51 w52 =>
              (k b51 w52)) (
              (k false w50))) (
            (k false w48))) (
          (k false w46)))))
theorem e_pelotonlaw13_ClockNil (clock_Clock_Next : Option Addr → World → ((Int × Int × Bool) → World → Prop) → Prop) (clock_Clock_Advance : Option Addr → Int → World → ((Sl × Int) → World → Prop) → Prop) (clock_Clock_Now : Option Addr → World → ((Int) → World → Prop) → Prop) (clock_Clock_Set : Option Addr → Int → Int → World → ((Int) → World → Prop) → Prop) (clock_Clock_Drop : Option Addr → Int → World → ((Bool) → World → Prop) → Prop) (clock_Clock_Len : Option Addr → World → ((Int) → World → Prop) → Prop) (clock_Clock_Clone : Option Addr → World → ((Option Addr) → World → Prop) → Prop) (clock_New : World → ((Option Addr) → World → Prop) → Prop) (pelotonlaw13_do : Option Addr → Array Value → World → ((Sl × Bool × Int) → World → Prop) → Prop) (pelotonlaw13_awake : World → ((Bool) → World → Prop) → Prop) (x : KT [.ag, (.i .i64), (.i .i64)]) (w : World) (k : KT [.b] → World → Prop) : evFn Go.Proofs.Try.prog (orcOf [(n_clock_Clock_Next, (fun args w c => unL [.p] args fun x => clock_Clock_Next x w fun r w => c (packV (valL [(.i .i64), (.i .i64), .b] r)) w)), (n_clock_Clock_Advance, (fun args w c => unL [.p, (.i .i64)] args fun x => clock_Clock_Advance x.1 x.2 w fun r w => c (packV (valL [.s, (.i .i64)] r)) w)), (n_clock_Clock_Now, (fun args w c => unL [.p] args fun x => clock_Clock_Now x w fun r w => c (packV (valL [(.i .i64)] r)) w)), (n_clock_Clock_Set, (fun args w c => unL [.p, (.i .i64), (.i .i64)] args fun x => clock_Clock_Set x.1 x.2.1 x.2.2 w fun r w => c (packV (valL [(.i .i64)] r)) w)), (n_clock_Clock_Drop, (fun args w c => unL [.p, (.i .i64)] args fun x => clock_Clock_Drop x.1 x.2 w fun r w => c (packV (valL [.b] r)) w)), (n_clock_Clock_Len, (fun args w c => unL [.p] args fun x => clock_Clock_Len x w fun r w => c (packV (valL [(.i .i64)] r)) w)), (n_clock_Clock_Clone, (fun args w c => unL [.p] args fun x => clock_Clock_Clone x w fun r w => c (packV (valL [.p] r)) w)), (n_clock_New, (fun args w c => unL [] args fun x => clock_New  w fun r w => c (packV (valL [.p] r)) w)), (n_pelotonlaw13_do, (fun args w c => unL [.p, .ag] args fun x => pelotonlaw13_do x.1 x.2 w fun r w => c (packV (valL [.s, .b, (.i .i64)] r)) w)), (n_pelotonlaw13_awake, (fun args w c => unL [] args fun x => pelotonlaw13_awake  w fun r w => c (packV (valL [.b] r)) w))]) 2699994445668992964194328600384307150 [(4, [(78, .b)]), (15, [(15, (.i .i64))]), (17, [(115, .b)])] Go.Proofs.Try.f13 [.b] (valL [.ag, (.i .i64), (.i .i64)] x) w k = pelotonlaw13_ClockNil_b clock_Clock_Next clock_Clock_Advance clock_Clock_Now clock_Clock_Set clock_Clock_Drop clock_Clock_Len clock_Clock_Clone clock_New pelotonlaw13_do pelotonlaw13_awake x.1 x.2.1 x.2.2 w k := by kernel_rfl
def pelotonlaw13_ClockNil (a_0 : Array Value) (id_1 : Int) (n_2 : Int) (w : World) (k : (Bool) → World → Prop) : Prop := pelotonlaw13_ClockNil_b clock_Clock_Next clock_Clock_Advance clock_Clock_Now clock_Clock_Set clock_Clock_Drop clock_Clock_Len clock_Clock_Clone clock_New pelotonlaw13_do pelotonlaw13_awake a_0 id_1 n_2 w k
def d_pelotonlaw13_ClockNil : Dec := fun args w c => unL [.ag, (.i .i64), (.i .i64)] args fun x => pelotonlaw13_ClockNil x.1 x.2.1 x.2.2 w fun r w => c (packV (valL [.b] r)) w
theorem s_pelotonlaw13_ClockNil : Sound Go.Proofs.Try.prog n_pelotonlaw13_ClockNil d_pelotonlaw13_ClockNil :=
  sound_of (mask := 2699994445668992964194328600384307150) (h := [(4, [(78, .b)]), (15, [(15, (.i .i64))]), (17, [(115, .b)])]) (ds := [(n_clock_Clock_Next, d_clock_Clock_Next), (n_clock_Clock_Advance, d_clock_Clock_Advance), (n_clock_Clock_Now, d_clock_Clock_Now), (n_clock_Clock_Set, d_clock_Clock_Set), (n_clock_Clock_Drop, d_clock_Clock_Drop), (n_clock_Clock_Len, d_clock_Clock_Len), (n_clock_Clock_Clone, d_clock_Clock_Clone), (n_clock_New, d_clock_New), (n_pelotonlaw13_do, d_pelotonlaw13_do), (n_pelotonlaw13_awake, d_pelotonlaw13_awake)]) mixed Go.Proofs.Try.func13 ⟨s_clock_Clock_Next, s_clock_Clock_Advance, s_clock_Clock_Now, s_clock_Clock_Set, s_clock_Clock_Drop, s_clock_Clock_Len, s_clock_Clock_Clone, s_clock_New, s_pelotonlaw13_do, s_pelotonlaw13_awake, trivial⟩
    [.ag, (.i .i64), (.i .i64)] [.b] (by kernel_rfl) (fun x w k => pelotonlaw13_ClockNil x.1 x.2.1 x.2.2 w k) (fun x w k => e_pelotonlaw13_ClockNil clock_Clock_Next clock_Clock_Advance clock_Clock_Now clock_Clock_Set clock_Clock_Drop clock_Clock_Len clock_Clock_Clone clock_New pelotonlaw13_do pelotonlaw13_awake x w k)

end Go.Proofs.Ytheallacpidcmaa
