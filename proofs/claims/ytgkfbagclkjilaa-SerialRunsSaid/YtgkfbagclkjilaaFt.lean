/-
  What stands on serial.Run: printed by a program.
-/
import Derived.Test.YtgkfbagclkjilaaFs
set_option maxRecDepth 100000
set_option linter.unusedVariables false
namespace Go.Proofs.Ytgkfbagclkjilaa
open Go Go.Ev

/-- peloton/pelotonlaw06.awake -/
def pelotonlaw06_awake_b (serial_Run : Array Value → Int → World → ((Sl × Int × Int) → World → Prop) → Prop) (pelotonlaw06_Rows : Sl → Sl → World → ((Bool) → World → Prop) → Prop)  (w : World) (k : (Bool) → World → Prop) : Prop :=
  spl #[(.int .i64 (0 : Int)), (.int .i64 (0 : Int)), (.int .i64 (0 : Int)), (.int .i64 (0 : Int)), (.int .i64 (0 : Int)), (.int .i64 (0 : Int)), (.int .i64 (0 : Int)), (.int .i64 (0 : Int)), (.int .i64 (0 : Int)), (.int .i64 (0 : Int))] 0 5 #[(.int .i64 (0 : Int)), (.int .i64 (2 : Int)), (.int .i64 (0 : Int)), (.int .i64 (0 : Int)), (.int .i64 (5 : Int))] fun cs1 =>
  spl cs1 5 5 #[(.int .i64 (16 : Int)), (.int .i64 (2 : Int)), (.int .i64 (0 : Int)), (.int .i64 (0 : Int)), (.int .i64 (0 : Int))] fun cs2 =>
  newC w cs2 43 fun a3 w4 =>
  newC w4 #[(.int .i64 (0 : Int)), (.slice none 0 0)] 40 fun a5 w6 =>
  stA 2 w6 a5 #[(.int .i64 (0 : Int)), (.slice (some a3) 2 2)] fun w7 =>
  spl #[(.int .i64 (0 : Int)), (.int .i64 (0 : Int)), (.int .i64 (0 : Int)), (.int .i64 (0 : Int)), (.int .i64 (0 : Int)), (.int .i64 (0 : Int)), (.int .i64 (0 : Int)), (.int .i64 (0 : Int)), (.int .i64 (0 : Int)), (.int .i64 (0 : Int)), (.int .i64 (0 : Int)), (.int .i64 (0 : Int)), (.int .i64 (0 : Int)), (.int .i64 (0 : Int)), (.int .i64 (0 : Int))] 0 5 #[(.int .i64 (8 : Int)), (.int .i64 (1 : Int)), (.int .i64 (0 : Int)), (.int .i64 (0 : Int)), (.int .i64 (1 : Int))] fun cs8 =>
  spl cs8 5 5 #[(.int .i64 (9 : Int)), (.int .i64 (0 : Int)), (.int .i64 (1 : Int)), (.int .i64 (0 : Int)), (.int .i64 (0 : Int))] fun cs9 =>
  spl cs9 10 5 #[(.int .i64 (16 : Int)), (.int .i64 (0 : Int)), (.int .i64 (0 : Int)), (.int .i64 (0 : Int)), (.int .i64 (0 : Int))] fun cs10 =>
  newC w7 cs10 43 fun a11 w12 =>
  ldA 2 w12 a5 fun cs13 =>
  spl #[(.int .i64 (0 : Int)), (.slice none 0 0), (.int .i64 (0 : Int)), (.slice none 0 0)] 0 2 #[(.int .i64 (0 : Int)), (.slice (some a11) 3 3)] fun cs14 =>
  spl cs14 2 2 cs13 fun cs15 =>
  newC w12 cs15 40 fun a16 w17 =>
  newC w17 #[(.slice none 0 0)] 24 fun a18 w19 =>
  stA 1 w19 a18 #[(.slice (some a16) 2 2)] fun w20 =>
  spl #[(.int .i64 (0 : Int)), (.int .i64 (0 : Int)), (.int .i64 (0 : Int)), (.int .i64 (0 : Int)), (.int .i64 (0 : Int)), (.int .i64 (0 : Int)), (.int .i64 (0 : Int)), (.int .i64 (0 : Int)), (.int .i64 (0 : Int)), (.int .i64 (0 : Int)), (.int .i64 (0 : Int)), (.int .i64 (0 : Int)), (.int .i64 (0 : Int)), (.int .i64 (0 : Int)), (.int .i64 (0 : Int)), (.int .i64 (0 : Int)), (.int .i64 (0 : Int)), (.int .i64 (0 : Int)), (.int .i64 (0 : Int)), (.int .i64 (0 : Int)), (.int .i64 (0 : Int)), (.int .i64 (0 : Int)), (.int .i64 (0 : Int)), (.int .i64 (0 : Int)), (.int .i64 (0 : Int))] 0 5 #[(.int .i64 (11 : Int)), (.int .i64 (0 : Int)), (.int .i64 (0 : Int)), (.int .i64 (0 : Int)), (.int .i64 (0 : Int))] fun cs21 =>
  spl cs21 5 5 #[(.int .i64 (13 : Int)), (.int .i64 (0 : Int)), (.int .i64 (0 : Int)), (.int .i64 (0 : Int)), (.int .i64 (0 : Int))] fun cs22 =>
  spl cs22 10 5 #[(.int .i64 (8 : Int)), (.int .i64 (1 : Int)), (.int .i64 (0 : Int)), (.int .i64 (0 : Int)), (.int .i64 (1 : Int))] fun cs23 =>
  spl cs23 15 5 #[(.int .i64 (12 : Int)), (.int .i64 (3 : Int)), (.int .i64 (0 : Int)), (.int .i64 (0 : Int)), (.int .i64 (0 : Int))] fun cs24 =>
  spl cs24 20 5 #[(.int .i64 (16 : Int)), (.int .i64 (3 : Int)), (.int .i64 (0 : Int)), (.int .i64 (0 : Int)), (.int .i64 (0 : Int))] fun cs25 =>
  newC w20 cs25 43 fun a26 w27 =>
  ldA 2 w27 a5 fun cs28 =>
  spl #[(.int .i64 (0 : Int)), (.slice none 0 0), (.int .i64 (0 : Int)), (.slice none 0 0)] 0 2 #[(.int .i64 (0 : Int)), (.slice (some a26) 5 5)] fun cs29 =>
  spl cs29 2 2 cs28 fun cs30 =>
  newC w27 cs30 40 fun a31 w32 =>
  newC w32 #[(.slice none 0 0)] 24 fun a33 w34 =>
  stA 1 w34 a33 #[(.slice (some a31) 2 2)] fun w35 =>
  ldA 1 w35 a18 fun cs36 =>
  serial_Run cs36 (100 : Int) w35 fun x37 w38 =>
  ldA 1 w38 a33 fun cs39 =>
  serial_Run cs39 (100 : Int) w38 fun x40 w41 =>
  iteB (((((x37.1, (x37.2.1, x37.2.2)).2.2 == (0 : Int)) && ((x40.1, (x40.2.1, x40.2.2)).2.2 == (0 : Int))) && ((x37.1, (x37.2.1, x37.2.2)).2.1 == (5 : Int))) && ((x40.1, (x40.2.1, x40.2.2)).2.1 == (5 : Int))) (
    spl #[(.int .i64 (0 : Int)), (.int .i64 (0 : Int)), (.int .i64 (0 : Int)), (.int .i64 (0 : Int)), (.int .i64 (0 : Int)), (.int .i64 (0 : Int)), (.string (ByteArray.mk #[])), (.int .i64 (0 : Int)), (.int .i64 (0 : Int)), (.int .i64 (0 : Int)), (.int .i64 (0 : Int)), (.int .i64 (0 : Int)), (.int .i64 (0 : Int)), (.string (ByteArray.mk #[]))] 0 7 #[(.int .i64 (-(1 : Int))), (.int .i64 (0 : Int)), (.int .i64 (0 : Int)), (.int .i64 (2 : Int)), (.int .i64 (5 : Int)), (.int .i64 (3 : Int)), (.string (ByteArray.mk #[]))] fun cs42 =>
    spl cs42 7 7 #[(.int .i64 (0 : Int)), (.int .i64 (0 : Int)), (.int .i64 (1 : Int)), (.int .i64 (2 : Int)), (.int .i64 (5 : Int)), (.int .i64 (2 : Int)), (.string (ByteArray.mk #[]))] fun cs43 =>
    newC w41 cs43 34 fun a44 w45 =>
    pelotonlaw06_Rows x37.1 (Sl.mk (some a44) 2 2) w45 fun b46 w47 =>
    iteB b46 (
      spl #[(.int .i64 (0 : Int)), (.int .i64 (0 : Int)), (.int .i64 (0 : Int)), (.int .i64 (0 : Int)), (.int .i64 (0 : Int)), (.int .i64 (0 : Int)), (.string (ByteArray.mk #[])), (.int .i64 (0 : Int)), (.int .i64 (0 : Int)), (.int .i64 (0 : Int)), (.int .i64 (0 : Int)), (.int .i64 (0 : Int)), (.int .i64 (0 : Int)), (.string (ByteArray.mk #[]))] 0 7 #[(.int .i64 (-(1 : Int))), (.int .i64 (0 : Int)), (.int .i64 (0 : Int)), (.int .i64 (2 : Int)), (.int .i64 (1 : Int)), (.int .i64 (5 : Int)), (.string (ByteArray.mk #[49]))] fun cs48 =>
      spl cs48 7 7 #[(.int .i64 (0 : Int)), (.int .i64 (1 : Int)), (.int .i64 (1 : Int)), (.int .i64 (4 : Int)), (.int .i64 (0 : Int)), (.int .i64 (0 : Int)), (.string (ByteArray.mk #[]))] fun cs49 =>
      newC w47 cs49 34 fun a50 w51 =>
      pelotonlaw06_Rows x40.1 (Sl.mk (some a50) 2 2) w51 fun b52 w53 =>
      (k b52 w53)) (
      (k false w47))) (
    (k false w41))
theorem e_pelotonlaw06_awake (serial_Run : Array Value → Int → World → ((Sl × Int × Int) → World → Prop) → Prop) (pelotonlaw06_Rows : Sl → Sl → World → ((Bool) → World → Prop) → Prop) (x : KT []) (w : World) (k : KT [.b] → World → Prop) : evFn Go.Proofs.Try.prog (orcOf [(n_serial_Run, (fun args w c => unL [.ag, (.i .i64)] args fun x => serial_Run x.1 x.2 w fun r w => c (packV (valL [.s, (.i .i64), (.i .i64)] r)) w)), (n_pelotonlaw06_Rows, (fun args w c => unL [.s, .s] args fun x => pelotonlaw06_Rows x.1 x.2 w fun r w => c (packV (valL [.b] r)) w))]) 1023 [] Go.Proofs.Try.f10 [.b] (valL [] x) w k = pelotonlaw06_awake_b serial_Run pelotonlaw06_Rows  w k := by kernel_rfl
def pelotonlaw06_awake  (w : World) (k : (Bool) → World → Prop) : Prop := pelotonlaw06_awake_b serial_Run pelotonlaw06_Rows  w k
def d_pelotonlaw06_awake : Dec := fun args w c => unL [] args fun x => pelotonlaw06_awake  w fun r w => c (packV (valL [.b] r)) w
theorem s_pelotonlaw06_awake : Sound Go.Proofs.Try.prog n_pelotonlaw06_awake d_pelotonlaw06_awake :=
  sound_of (mask := 1023) (h := []) (ds := [(n_serial_Run, d_serial_Run), (n_pelotonlaw06_Rows, d_pelotonlaw06_Rows)]) mixed Go.Proofs.Try.func10 ⟨s_serial_Run, s_pelotonlaw06_Rows, trivial⟩
    [] [.b] (by kernel_rfl) (fun x w k => pelotonlaw06_awake  w k) (fun x w k => e_pelotonlaw06_awake serial_Run pelotonlaw06_Rows x w k)

/-- peloton/pelotonlaw06.SerialRuns -/
def pelotonlaw06_SerialRuns_b (pelotonlaw06_small : Array Value → Int → World → ((Bool) → World → Prop) → Prop) (pelotonlaw02_Few : Array Value → World → ((Bool) → World → Prop) → Prop) (pelotonlaw06_awake : World → ((Bool) → World → Prop) → Prop) (serial_Run : Array Value → Int → World → ((Sl × Int × Int) → World → Prop) → Prop) (pelotonref06_Run : Array Value → Int → World → ((Sl × Int × Int) → World → Prop) → Prop) (pelotonlaw06_Rows : Sl → Sl → World → ((Bool) → World → Prop) → Prop) (p_0 : Array Value) (fuel_1 : Int) (w : World) (k : (Bool) → World → Prop) : Prop :=
  newC w p_0 24 fun a1 w2 =>
  joinP (S := Bool) (fun J3 =>
    ldA 1 w2 a1 fun cs4 =>
    pelotonlaw06_small cs4 fuel_1 w2 fun b5 w6 =>
    iteB (!b5) (
      iteB (decide (fuel_1 ≤ (1048576 : Int))) (
        (J3 true w6)) (
        ldA 1 w6 a1 fun cs7 =>
        pelotonlaw02_Few cs7 w6 fun b8 w9 =>
        (J3 (!b8) w9))) (
      (J3 false w6))) fun b10 w11 =>
  iteB b10 (
    pelotonlaw06_awake  w11 fun b12 w13 =>
    (k b12 w13)) (
    ldA 1 w11 a1 fun cs14 =>
    serial_Run cs14 fuel_1 w11 fun x15 w16 =>
    ldA 1 w16 a1 fun cs17 =>
    pelotonref06_Run cs17 fuel_1 w16 fun x18 w19 =>
    pelotonlaw06_Rows x15.1 x18.1 w19 fun b20 w21 =>
    iteB ((b20 && ((x15.1, (x15.2.1, x15.2.2)).2.1 == (x18.1, (x18.2.1, x18.2.2)).2.1)) && ((x15.1, (x15.2.1, x15.2.2)).2.2 == (x18.1, (x18.2.1, x18.2.2)).2.2)) (
      pelotonlaw06_awake  w21 fun b22 w23 =>
      (k b22 w23)) (
      (k false w21)))
theorem e_pelotonlaw06_SerialRuns (pelotonlaw06_small : Array Value → Int → World → ((Bool) → World → Prop) → Prop) (pelotonlaw02_Few : Array Value → World → ((Bool) → World → Prop) → Prop) (pelotonlaw06_awake : World → ((Bool) → World → Prop) → Prop) (serial_Run : Array Value → Int → World → ((Sl × Int × Int) → World → Prop) → Prop) (pelotonref06_Run : Array Value → Int → World → ((Sl × Int × Int) → World → Prop) → Prop) (pelotonlaw06_Rows : Sl → Sl → World → ((Bool) → World → Prop) → Prop) (x : KT [.ag, (.i .i64)]) (w : World) (k : KT [.b] → World → Prop) : evFn Go.Proofs.Try.prog (orcOf [(n_pelotonlaw06_small, (fun args w c => unL [.ag, (.i .i64)] args fun x => pelotonlaw06_small x.1 x.2 w fun r w => c (packV (valL [.b] r)) w)), (n_pelotonlaw02_Few, (fun args w c => unL [.ag] args fun x => pelotonlaw02_Few x w fun r w => c (packV (valL [.b] r)) w)), (n_pelotonlaw06_awake, (fun args w c => unL [] args fun x => pelotonlaw06_awake  w fun r w => c (packV (valL [.b] r)) w)), (n_serial_Run, (fun args w c => unL [.ag, (.i .i64)] args fun x => serial_Run x.1 x.2 w fun r w => c (packV (valL [.s, (.i .i64), (.i .i64)] r)) w)), (n_pelotonref06_Run, (fun args w c => unL [.ag, (.i .i64)] args fun x => pelotonref06_Run x.1 x.2 w fun r w => c (packV (valL [.s, (.i .i64), (.i .i64)] r)) w)), (n_pelotonlaw06_Rows, (fun args w c => unL [.s, .s] args fun x => pelotonlaw06_Rows x.1 x.2 w fun r w => c (packV (valL [.b] r)) w))]) 8390646 [(1, [(23, .b)])] Go.Proofs.Try.f3 [.b] (valL [.ag, (.i .i64)] x) w k = pelotonlaw06_SerialRuns_b pelotonlaw06_small pelotonlaw02_Few pelotonlaw06_awake serial_Run pelotonref06_Run pelotonlaw06_Rows x.1 x.2 w k := by kernel_rfl
def pelotonlaw06_SerialRuns (p_0 : Array Value) (fuel_1 : Int) (w : World) (k : (Bool) → World → Prop) : Prop := pelotonlaw06_SerialRuns_b pelotonlaw06_small pelotonlaw02_Few pelotonlaw06_awake serial_Run pelotonref06_Run pelotonlaw06_Rows p_0 fuel_1 w k
def d_pelotonlaw06_SerialRuns : Dec := fun args w c => unL [.ag, (.i .i64)] args fun x => pelotonlaw06_SerialRuns x.1 x.2 w fun r w => c (packV (valL [.b] r)) w
theorem s_pelotonlaw06_SerialRuns : Sound Go.Proofs.Try.prog n_pelotonlaw06_SerialRuns d_pelotonlaw06_SerialRuns :=
  sound_of (mask := 8390646) (h := [(1, [(23, .b)])]) (ds := [(n_pelotonlaw06_small, d_pelotonlaw06_small), (n_pelotonlaw02_Few, d_pelotonlaw02_Few), (n_pelotonlaw06_awake, d_pelotonlaw06_awake), (n_serial_Run, d_serial_Run), (n_pelotonref06_Run, d_pelotonref06_Run), (n_pelotonlaw06_Rows, d_pelotonlaw06_Rows)]) mixed Go.Proofs.Try.func3 ⟨s_pelotonlaw06_small, s_pelotonlaw02_Few, s_pelotonlaw06_awake, s_serial_Run, s_pelotonref06_Run, s_pelotonlaw06_Rows, trivial⟩
    [.ag, (.i .i64)] [.b] (by kernel_rfl) (fun x w k => pelotonlaw06_SerialRuns x.1 x.2 w k) (fun x w k => e_pelotonlaw06_SerialRuns pelotonlaw06_small pelotonlaw02_Few pelotonlaw06_awake serial_Run pelotonref06_Run pelotonlaw06_Rows x w k)

/-- peloton/pelotonlaw06.SerialFuel -/
def pelotonlaw06_SerialFuel_b (pelotonlaw06_small : Array Value → Int → World → ((Bool) → World → Prop) → Prop) (pelotonlaw06_awake : World → ((Bool) → World → Prop) → Prop) (serial_Run : Array Value → Int → World → ((Sl × Int × Int) → World → Prop) → Prop) (pelotonlaw06_Rows : Sl → Sl → World → ((Bool) → World → Prop) → Prop) (p_0 : Array Value) (fuel_1 : Int) (more_2 : Int) (w : World) (k : (Bool) → World → Prop) : Prop :=
  newC w p_0 24 fun a1 w2 =>
  ldA 1 w2 a1 fun cs3 =>
  pelotonlaw06_small cs3 fuel_1 w2 fun b4 w5 =>
  iteB ((((!b4) || (decide (more_2 < (0 : Int)))) || (decide (more_2 > (3000 : Int)))) || (decide (fuel_1 < (0 : Int)))) (
    pelotonlaw06_awake  w5 fun b6 w7 =>
    (k b6 w7)) (
    ldA 1 w5 a1 fun cs8 =>
    serial_Run cs8 fuel_1 w5 fun x9 w10 =>
    ldA 1 w10 a1 fun cs11 =>
    serial_Run cs11 (IntKind.wrap .i64 (fuel_1 + more_2)) w10 fun x12 w13 =>
    iteB ((x9.1, (x9.2.1, x9.2.2)).2.2 != (0 : Int)) (
      iteB (((((x9.1.n : Nat) : Int) == (0 : Int)) && ((x9.1, (x9.2.1, x9.2.2)).2.1 == (0 : Int))) && (((x9.1, (x9.2.1, x9.2.2)).2.2 == (x12.1, (x12.2.1, x12.2.2)).2.2) || ((x9.1, (x9.2.1, x9.2.2)).2.2 == (22 : Int)))) (
        pelotonlaw06_awake  w13 fun b14 w15 =>
        (k b14 w15)) (
        (k false w13))) (
      ldA 1 w13 a1 fun cs16 =>
      serial_Run cs16 (x9.1, (x9.2.1, x9.2.2)).2.1 w13 fun x17 w18 =>
      joinP (S := Bool) (fun J19 =>
        iteB (((((((x12.1, (x12.2.1, x12.2.2)).2.2 != (0 : Int)) || ((x17.1, (x17.2.1, x17.2.2)).2.2 != (0 : Int))) || ((x12.1, (x12.2.1, x12.2.2)).2.1 != (x9.1, (x9.2.1, x9.2.2)).2.1)) || ((x17.1, (x17.2.1, x17.2.2)).2.1 != (x9.1, (x9.2.1, x9.2.2)).2.1)) || (decide ((x9.1, (x9.2.1, x9.2.2)).2.1 > fuel_1))) || (decide ((x9.1, (x9.2.1, x9.2.2)).2.1 < (1 : Int)))) (
          (J19 true w18)) (
          pelotonlaw06_Rows x9.1 x12.1 w18 fun b20 w21 =>
          iteB (!b20) (
            (J19 true w21)) (
            pelotonlaw06_Rows x9.1 x17.1 w21 fun b22 w23 =>
            (J19 (!b22) w23)))) fun b24 w25 =>
      iteB b24 (
        (k false w25)) (
        ldA 1 w25 a1 fun cs26 =>
        serial_Run cs26 (IntKind.wrap .i64 ((x9.1, (x9.2.1, x9.2.2)).2.1 - (1 : Int))) w25 fun x27 w28 =>
        loopP (S := (Int × Int)) (fun C29 x30 w31 =>
          iteB (decide (x30.2 < ((x9.1.n : Nat) : Int))) (
            joinP (S := Bool) (fun J32 =>
              ixS x9.1 x30.2 7 fun a33 =>
              ldI .i64 w31 (Addr.add a33 0) fun i34 =>
              iteB (decide (i34 ≥ x30.2)) (
                (J32 true w31)) (
                ixS x9.1 x30.2 7 fun a35 =>
                ldI .i64 w31 (Addr.add a35 0) fun i36 =>
                iteB (decide (i36 < (-(1 : Int)))) (
                  (J32 true w31)) (
                  ixS x9.1 x30.2 7 fun a37 =>
                  ldI .i64 w31 (Addr.add a37 0) fun i38 =>
                  (J32 (!((decide (i38 < (0 : Int))) == (x30.2 == (0 : Int)))) w31)))) fun b39 w40 =>
            iteB b39 (
              (k false w40)) (
              ixS x9.1 x30.2 7 fun a41 =>
              ldI .i64 w40 (Addr.add a41 5) fun i42 =>
              (C29 ((IntKind.wrap .i64 (x30.1 + i42)), (IntKind.wrap .i64 (x30.2 + (1 : Int)))) w40))) (
            iteB (((x27.1, (x27.2.1, x27.2.2)).2.2 == (22 : Int)) && (x30.1 == (x9.1, (x9.2.1, x9.2.2)).2.1)) (
              pelotonlaw06_awake  w31 fun b43 w44 =>
              (k b43 w44)) (
              (k false w31)))) ((0 : Int), (0 : Int)) w28)))
theorem e_pelotonlaw06_SerialFuel (pelotonlaw06_small : Array Value → Int → World → ((Bool) → World → Prop) → Prop) (pelotonlaw06_awake : World → ((Bool) → World → Prop) → Prop) (serial_Run : Array Value → Int → World → ((Sl × Int × Int) → World → Prop) → Prop) (pelotonlaw06_Rows : Sl → Sl → World → ((Bool) → World → Prop) → Prop) (x : KT [.ag, (.i .i64), (.i .i64)]) (w : World) (k : KT [.b] → World → Prop) : evFn Go.Proofs.Try.prog (orcOf [(n_pelotonlaw06_small, (fun args w c => unL [.ag, (.i .i64)] args fun x => pelotonlaw06_small x.1 x.2 w fun r w => c (packV (valL [.b] r)) w)), (n_pelotonlaw06_awake, (fun args w c => unL [] args fun x => pelotonlaw06_awake  w fun r w => c (packV (valL [.b] r)) w)), (n_serial_Run, (fun args w c => unL [.ag, (.i .i64)] args fun x => serial_Run x.1 x.2 w fun r w => c (packV (valL [.s, (.i .i64), (.i .i64)] r)) w)), (n_pelotonlaw06_Rows, (fun args w c => unL [.s, .s] args fun x => pelotonlaw06_Rows x.1 x.2 w fun r w => c (packV (valL [.b] r)) w))]) 365375410694187504233621291000831165271866408910 [(10, [(118, .b)]), (17, [(19, (.i .i64)), (20, (.i .i64))]), (21, [(158, .b)])] Go.Proofs.Try.f4 [.b] (valL [.ag, (.i .i64), (.i .i64)] x) w k = pelotonlaw06_SerialFuel_b pelotonlaw06_small pelotonlaw06_awake serial_Run pelotonlaw06_Rows x.1 x.2.1 x.2.2 w k := by kernel_rfl
def pelotonlaw06_SerialFuel (p_0 : Array Value) (fuel_1 : Int) (more_2 : Int) (w : World) (k : (Bool) → World → Prop) : Prop := pelotonlaw06_SerialFuel_b pelotonlaw06_small pelotonlaw06_awake serial_Run pelotonlaw06_Rows p_0 fuel_1 more_2 w k
def d_pelotonlaw06_SerialFuel : Dec := fun args w c => unL [.ag, (.i .i64), (.i .i64)] args fun x => pelotonlaw06_SerialFuel x.1 x.2.1 x.2.2 w fun r w => c (packV (valL [.b] r)) w
theorem s_pelotonlaw06_SerialFuel : Sound Go.Proofs.Try.prog n_pelotonlaw06_SerialFuel d_pelotonlaw06_SerialFuel :=
  sound_of (mask := 365375410694187504233621291000831165271866408910) (h := [(10, [(118, .b)]), (17, [(19, (.i .i64)), (20, (.i .i64))]), (21, [(158, .b)])]) (ds := [(n_pelotonlaw06_small, d_pelotonlaw06_small), (n_pelotonlaw06_awake, d_pelotonlaw06_awake), (n_serial_Run, d_serial_Run), (n_pelotonlaw06_Rows, d_pelotonlaw06_Rows)]) mixed Go.Proofs.Try.func4 ⟨s_pelotonlaw06_small, s_pelotonlaw06_awake, s_serial_Run, s_pelotonlaw06_Rows, trivial⟩
    [.ag, (.i .i64), (.i .i64)] [.b] (by kernel_rfl) (fun x w k => pelotonlaw06_SerialFuel x.1 x.2.1 x.2.2 w k) (fun x w k => e_pelotonlaw06_SerialFuel pelotonlaw06_small pelotonlaw06_awake serial_Run pelotonlaw06_Rows x w k)

/-- peloton/pelotonlaw06.SerialTwice -/
def pelotonlaw06_SerialTwice_b (pelotonlaw06_small : Array Value → Int → World → ((Bool) → World → Prop) → Prop) (check_Accepts : Array Value → World → ((Bool) → World → Prop) → Prop) (pelotonlaw06_awake : World → ((Bool) → World → Prop) → Prop) (pelotonlaw06_with : Array Value → Sl → World → ((Array Value) → World → Prop) → Prop) (serial_Run : Array Value → Int → World → ((Sl × Int × Int) → World → Prop) → Prop) (p_0 : Array Value) (fuel_1 : Int) (x_2 : Array Value) (w : World) (k : (Bool) → World → Prop) : Prop :=
  newC w p_0 24 fun a1 w2 =>
  newC w2 x_2 37 fun a3 w4 =>
  joinP (S := Bool) (fun J5 =>
    ldA 1 w4 a1 fun cs6 =>
    pelotonlaw06_small cs6 fuel_1 w4 fun b7 w8 =>
    iteB (!b7) (
      (J5 true w8)) (
      ldA 1 w8 a1 fun cs9 =>
      check_Accepts cs9 w8 fun b10 w11 =>
      iteB (!b10) (
        (J5 true w11)) (
        ldI .i64 w11 (Addr.add a3 0) fun i12 =>
        iteB (decide (i12 < (1 : Int))) (
          (J5 true w11)) (
          ldI .i64 w11 (Addr.add a3 0) fun i13 =>
          ldS w11 (Addr.add a1 0) fun s14 =>
          iteB (decide (i13 ≥ ((s14.n : Nat) : Int))) (
            (J5 true w11)) (
            ldS w11 (Addr.add a1 0) fun s15 =>
            ldI .i64 w11 (Addr.add a3 0) fun i16 =>
            ixS s15 i16 2 fun a17 =>
            ldI .i64 w11 (Addr.add a17 0) fun i18 =>
            iteB (i18 != (0 : Int)) (
              (J5 true w11)) (
              ldI .i64 w11 (Addr.add a3 1) fun i19 =>
              iteB (decide (i19 < (-(2147483648 : Int)))) (
                (J5 true w11)) (
                ldI .i64 w11 (Addr.add a3 1) fun i20 =>
                (J5 (decide (i20 > (2147483647 : Int))) w11)))))))) fun b21 w22 =>
  iteB b21 (
    pelotonlaw06_awake  w22 fun b23 w24 =>
    (k b23 w24)) (
    ldA 1 w22 a1 fun cs25 =>
    ldI .i64 w22 (Addr.add a3 1) fun i26 =>
    ldI .i64 w22 (Addr.add a3 0) fun i27 =>
    ldI .i64 w22 (Addr.add a3 0) fun i28 =>
    spl #[(.int .i64 (0 : Int)), (.int .i64 (0 : Int)), (.int .i64 (0 : Int)), (.int .i64 (0 : Int)), (.int .i64 (0 : Int)), (.int .i64 (0 : Int)), (.int .i64 (0 : Int)), (.int .i64 (0 : Int)), (.int .i64 (0 : Int)), (.int .i64 (0 : Int)), (.int .i64 (0 : Int)), (.int .i64 (0 : Int)), (.int .i64 (0 : Int)), (.int .i64 (0 : Int)), (.int .i64 (0 : Int)), (.int .i64 (0 : Int)), (.int .i64 (0 : Int)), (.int .i64 (0 : Int)), (.int .i64 (0 : Int)), (.int .i64 (0 : Int))] 0 5 #[(.int .i64 (0 : Int)), (.int .i64 (1 : Int)), (.int .i64 (0 : Int)), (.int .i64 (0 : Int)), (.int .i64 i26)] fun cs29 =>
    spl cs29 5 5 #[(.int .i64 (8 : Int)), (.int .i64 (1 : Int)), (.int .i64 (0 : Int)), (.int .i64 (0 : Int)), (.int .i64 i27)] fun cs30 =>
    spl cs30 10 5 #[(.int .i64 (8 : Int)), (.int .i64 (2 : Int)), (.int .i64 (0 : Int)), (.int .i64 (0 : Int)), (.int .i64 i28)] fun cs31 =>
    spl cs31 15 5 #[(.int .i64 (16 : Int)), (.int .i64 (0 : Int)), (.int .i64 (0 : Int)), (.int .i64 (0 : Int)), (.int .i64 (0 : Int))] fun cs32 =>
    newC w22 cs32 43 fun a33 w34 =>
    pelotonlaw06_with cs25 (Sl.mk (some a33) 4 4) w34 fun cs35 w36 =>
    newC w36 #[(.slice none 0 0)] 24 fun a37 w38 =>
    stA 1 w38 a37 cs35 fun w39 =>
    ldA 1 w39 a37 fun cs40 =>
    serial_Run cs40 fuel_1 w39 fun x41 w42 =>
    iteB ((x41.1, (x41.2.1, x41.2.2)).2.2 != (0 : Int)) (
      iteB ((((x41.1, (x41.2.1, x41.2.2)).2.2 == (22 : Int)) || ((x41.1, (x41.2.1, x41.2.2)).2.2 == (23 : Int))) || (((x41.1, (x41.2.1, x41.2.2)).2.2 == (10 : Int)) && (decide (fuel_1 < (0 : Int))))) (
        pelotonlaw06_awake  w42 fun b43 w44 =>
        (k b43 w44)) (
        (k false w42))) (
      joinP (S := Bool) (fun J45 =>
        iteB ((((x41.1.n : Nat) : Int) != (IntKind.wrap .i64 ((IntKind.wrap .i64 ((2 : Int) * (divV .i64 (IntKind.wrap .i64 (((x41.1.n : Nat) : Int) - (1 : Int))) (2 : Int)))) + (1 : Int)))) || (decide ((divV .i64 (IntKind.wrap .i64 (((x41.1.n : Nat) : Int) - (1 : Int))) (2 : Int)) < (1 : Int)))) (
          (J45 true w42)) (
          ixS x41.1 (1 : Int) 7 fun a46 =>
          ldI .i64 w42 (Addr.add a46 0) fun i47 =>
          iteB (i47 != (0 : Int)) (
            (J45 true w42)) (
            ixS x41.1 (IntKind.wrap .i64 ((divV .i64 (IntKind.wrap .i64 (((x41.1.n : Nat) : Int) - (1 : Int))) (2 : Int)) + (1 : Int))) 7 fun a48 =>
            ldI .i64 w42 (Addr.add a48 0) fun i49 =>
            (J45 (i49 != (0 : Int)) w42)))) fun b50 w51 =>
      iteB b50 (
        (k false w51)) (
        loopP (S := Int) (fun C52 i53 w54 =>
          iteB (decide (i53 ≤ (divV .i64 (IntKind.wrap .i64 (((x41.1.n : Nat) : Int) - (1 : Int))) (2 : Int)))) (
            ixS x41.1 i53 7 fun a55 =>
            ldA 7 w54 a55 fun cs56 =>
            newC w54 #[(.int .i64 (0 : Int)), (.int .i64 (0 : Int)), (.int .i64 (0 : Int)), (.int .i64 (0 : Int)), (.int .i64 (0 : Int)), (.int .i64 (0 : Int)), (.string (ByteArray.mk #[]))] 34 fun a57 w58 =>
            stA 7 w58 a57 cs56 fun w59 =>
            ixS x41.1 (IntKind.wrap .i64 ((divV .i64 (IntKind.wrap .i64 (((x41.1.n : Nat) : Int) - (1 : Int))) (2 : Int)) + i53)) 7 fun a60 =>
            ldA 7 w59 a60 fun cs61 =>
            newC w59 #[(.int .i64 (0 : Int)), (.int .i64 (0 : Int)), (.int .i64 (0 : Int)), (.int .i64 (0 : Int)), (.int .i64 (0 : Int)), (.int .i64 (0 : Int)), (.string (ByteArray.mk #[]))] 34 fun a62 w63 =>
            stA 7 w63 a62 cs61 fun w64 =>
            joinP (S := Unit) (fun J65 =>
              iteB (decide (i53 > (1 : Int))) (
                ldI .i64 w64 (Addr.add a62 0) fun i66 =>
                stC w64 (Addr.add a62 0) (.int .i64 (IntKind.wrap .i64 (i66 - (divV .i64 (IntKind.wrap .i64 (((x41.1.n : Nat) : Int) - (1 : Int))) (2 : Int))))) fun w67 =>
                (J65 () w67)) (
                (J65 () w64))) fun u68 w69 =>
            ldA 7 w69 a57 fun cs70 =>
            ldA 7 w69 a62 fun cs71 =>
            eqA ([(0, 0)] ++ ([(1, 0)] ++ ([(2, 0)] ++ ([(3, 0)] ++ ([(4, 0)] ++ ([(5, 0)] ++ ([(6, 2)] ++ []))))))) cs70 cs71 fun b72 =>
            iteB (!b72) (
              (k false w69)) (
              (C52 (IntKind.wrap .i64 (i53 + (1 : Int))) w69))) (
            pelotonlaw06_awake  w54 fun b73 w74 =>
            (k b73 w74))) (1 : Int) w51)))
theorem e_pelotonlaw06_SerialTwice (pelotonlaw06_small : Array Value → Int → World → ((Bool) → World → Prop) → Prop) (check_Accepts : Array Value → World → ((Bool) → World → Prop) → Prop) (pelotonlaw06_awake : World → ((Bool) → World → Prop) → Prop) (pelotonlaw06_with : Array Value → Sl → World → ((Array Value) → World → Prop) → Prop) (serial_Run : Array Value → Int → World → ((Sl × Int × Int) → World → Prop) → Prop) (x : KT [.ag, (.i .i64), .ag]) (w : World) (k : KT [.b] → World → Prop) : evFn Go.Proofs.Try.prog (orcOf [(n_pelotonlaw06_small, (fun args w c => unL [.ag, (.i .i64)] args fun x => pelotonlaw06_small x.1 x.2 w fun r w => c (packV (valL [.b] r)) w)), (n_check_Accepts, (fun args w c => unL [.ag] args fun x => check_Accepts x w fun r w => c (packV (valL [.b] r)) w)), (n_pelotonlaw06_awake, (fun args w c => unL [] args fun x => pelotonlaw06_awake  w fun r w => c (packV (valL [.b] r)) w)), (n_pelotonlaw06_with, (fun args w c => unL [.ag, .s] args fun x => pelotonlaw06_with x.1 x.2 w fun r w => c (packV (valL [.ag] r)) w)), (n_serial_Run, (fun args w c => unL [.ag, (.i .i64)] args fun x => serial_Run x.1 x.2 w fun r w => c (packV (valL [.s, (.i .i64), (.i .i64)] r)) w))]) 2865646523646510645799487053610046083622272490 [(1, [(56, .b)]), (10, [(126, .b)]), (15, [(12, (.i .i64))]), (22, [])] Go.Proofs.Try.f5 [.b] (valL [.ag, (.i .i64), .ag] x) w k = pelotonlaw06_SerialTwice_b pelotonlaw06_small check_Accepts pelotonlaw06_awake pelotonlaw06_with serial_Run x.1 x.2.1 x.2.2 w k := by kernel_rfl
def pelotonlaw06_SerialTwice (p_0 : Array Value) (fuel_1 : Int) (x_2 : Array Value) (w : World) (k : (Bool) → World → Prop) : Prop := pelotonlaw06_SerialTwice_b pelotonlaw06_small check_Accepts pelotonlaw06_awake pelotonlaw06_with serial_Run p_0 fuel_1 x_2 w k
def d_pelotonlaw06_SerialTwice : Dec := fun args w c => unL [.ag, (.i .i64), .ag] args fun x => pelotonlaw06_SerialTwice x.1 x.2.1 x.2.2 w fun r w => c (packV (valL [.b] r)) w
theorem s_pelotonlaw06_SerialTwice : Sound Go.Proofs.Try.prog n_pelotonlaw06_SerialTwice d_pelotonlaw06_SerialTwice :=
  sound_of (mask := 2865646523646510645799487053610046083622272490) (h := [(1, [(56, .b)]), (10, [(126, .b)]), (15, [(12, (.i .i64))]), (22, [])]) (ds := [(n_pelotonlaw06_small, d_pelotonlaw06_small), (n_check_Accepts, d_check_Accepts), (n_pelotonlaw06_awake, d_pelotonlaw06_awake), (n_pelotonlaw06_with, d_pelotonlaw06_with), (n_serial_Run, d_serial_Run)]) mixed Go.Proofs.Try.func5 ⟨s_pelotonlaw06_small, s_check_Accepts, s_pelotonlaw06_awake, s_pelotonlaw06_with, s_serial_Run, trivial⟩
    [.ag, (.i .i64), .ag] [.b] (by kernel_rfl) (fun x w k => pelotonlaw06_SerialTwice x.1 x.2.1 x.2.2 w k) (fun x w k => e_pelotonlaw06_SerialTwice pelotonlaw06_small check_Accepts pelotonlaw06_awake pelotonlaw06_with serial_Run x w k)

/-- peloton/pelotonlaw06.SerialScopes -/
def pelotonlaw06_SerialScopes_b (pelotonlaw06_small : Array Value → Int → World → ((Bool) → World → Prop) → Prop) (check_Accepts : Array Value → World → ((Bool) → World → Prop) → Prop) (pelotonlaw06_awake : World → ((Bool) → World → Prop) → Prop) (pelotonlaw06_with : Array Value → Sl → World → ((Array Value) → World → Prop) → Prop) (serial_Run : Array Value → Int → World → ((Sl × Int × Int) → World → Prop) → Prop) (p_0 : Array Value) (fuel_1 : Int) (k_2 : Int) (w : World) (k : (Bool) → World → Prop) : Prop :=
  newC w p_0 24 fun a1 w2 =>
  joinP (S := Bool) (fun J3 =>
    ldA 1 w2 a1 fun cs4 =>
    pelotonlaw06_small cs4 fuel_1 w2 fun b5 w6 =>
    iteB (!b5) (
      (J3 true w6)) (
      ldA 1 w6 a1 fun cs7 =>
      check_Accepts cs7 w6 fun b8 w9 =>
      iteB ((!b8) || (decide (k_2 < (1 : Int)))) (
        (J3 true w9)) (
        ldS w9 (Addr.add a1 0) fun s10 =>
        iteB (decide (k_2 ≥ ((s10.n : Nat) : Int))) (
          (J3 true w9)) (
          ldS w9 (Addr.add a1 0) fun s11 =>
          ixS s11 k_2 2 fun a12 =>
          ldI .i64 w9 (Addr.add a12 0) fun i13 =>
          (J3 (i13 != (0 : Int)) w9))))) fun b14 w15 =>
  iteB b14 (
    pelotonlaw06_awake  w15 fun b16 w17 =>
    (k b16 w17)) (
    ldA 1 w15 a1 fun cs18 =>
    spl #[(.int .i64 (0 : Int)), (.int .i64 (0 : Int)), (.int .i64 (0 : Int)), (.int .i64 (0 : Int)), (.int .i64 (0 : Int)), (.int .i64 (0 : Int)), (.int .i64 (0 : Int)), (.int .i64 (0 : Int)), (.int .i64 (0 : Int)), (.int .i64 (0 : Int)), (.int .i64 (0 : Int)), (.int .i64 (0 : Int)), (.int .i64 (0 : Int)), (.int .i64 (0 : Int)), (.int .i64 (0 : Int)), (.int .i64 (0 : Int)), (.int .i64 (0 : Int)), (.int .i64 (0 : Int)), (.int .i64 (0 : Int)), (.int .i64 (0 : Int)), (.int .i64 (0 : Int)), (.int .i64 (0 : Int)), (.int .i64 (0 : Int)), (.int .i64 (0 : Int)), (.int .i64 (0 : Int)), (.int .i64 (0 : Int)), (.int .i64 (0 : Int)), (.int .i64 (0 : Int)), (.int .i64 (0 : Int)), (.int .i64 (0 : Int)), (.int .i64 (0 : Int)), (.int .i64 (0 : Int)), (.int .i64 (0 : Int)), (.int .i64 (0 : Int)), (.int .i64 (0 : Int)), (.int .i64 (0 : Int)), (.int .i64 (0 : Int)), (.int .i64 (0 : Int)), (.int .i64 (0 : Int)), (.int .i64 (0 : Int)), (.int .i64 (0 : Int)), (.int .i64 (0 : Int)), (.int .i64 (0 : Int)), (.int .i64 (0 : Int)), (.int .i64 (0 : Int)), (.int .i64 (0 : Int)), (.int .i64 (0 : Int)), (.int .i64 (0 : Int)), (.int .i64 (0 : Int)), (.int .i64 (0 : Int)), (.int .i64 (0 : Int)), (.int .i64 (0 : Int)), (.int .i64 (0 : Int)), (.int .i64 (0 : Int)), (.int .i64 (0 : Int)), (.int .i64 (0 : Int)), (.int .i64 (0 : Int)), (.int .i64 (0 : Int)), (.int .i64 (0 : Int)), (.int .i64 (0 : Int))] 0 5 #[(.int .i64 (11 : Int)), (.int .i64 (0 : Int)), (.int .i64 (0 : Int)), (.int .i64 (0 : Int)), (.int .i64 (0 : Int))] fun cs19 =>
    spl cs19 5 5 #[(.int .i64 (8 : Int)), (.int .i64 (0 : Int)), (.int .i64 (0 : Int)), (.int .i64 (0 : Int)), (.int .i64 k_2)] fun cs20 =>
    spl cs20 10 5 #[(.int .i64 (13 : Int)), (.int .i64 (0 : Int)), (.int .i64 (0 : Int)), (.int .i64 (0 : Int)), (.int .i64 (0 : Int))] fun cs21 =>
    spl cs21 15 5 #[(.int .i64 (8 : Int)), (.int .i64 (1 : Int)), (.int .i64 (0 : Int)), (.int .i64 (0 : Int)), (.int .i64 k_2)] fun cs22 =>
    spl cs22 20 5 #[(.int .i64 (11 : Int)), (.int .i64 (0 : Int)), (.int .i64 (0 : Int)), (.int .i64 (0 : Int)), (.int .i64 (0 : Int))] fun cs23 =>
    spl cs23 25 5 #[(.int .i64 (8 : Int)), (.int .i64 (1 : Int)), (.int .i64 (0 : Int)), (.int .i64 (0 : Int)), (.int .i64 k_2)] fun cs24 =>
    spl cs24 30 5 #[(.int .i64 (12 : Int)), (.int .i64 (2 : Int)), (.int .i64 (0 : Int)), (.int .i64 (0 : Int)), (.int .i64 (0 : Int))] fun cs25 =>
    spl cs25 35 5 #[(.int .i64 (12 : Int)), (.int .i64 (3 : Int)), (.int .i64 (0 : Int)), (.int .i64 (0 : Int)), (.int .i64 (0 : Int))] fun cs26 =>
    spl cs26 40 5 #[(.int .i64 (0 : Int)), (.int .i64 (2 : Int)), (.int .i64 (0 : Int)), (.int .i64 (0 : Int)), (.int .i64 (0 : Int))] fun cs27 =>
    spl cs27 45 5 #[(.int .i64 (0 : Int)), (.int .i64 (3 : Int)), (.int .i64 (0 : Int)), (.int .i64 (0 : Int)), (.int .i64 (0 : Int))] fun cs28 =>
    spl cs28 50 5 #[(.int .i64 (8 : Int)), (.int .i64 (2 : Int)), (.int .i64 (0 : Int)), (.int .i64 (0 : Int)), (.int .i64 k_2)] fun cs29 =>
    spl cs29 55 5 #[(.int .i64 (16 : Int)), (.int .i64 (0 : Int)), (.int .i64 (0 : Int)), (.int .i64 (0 : Int)), (.int .i64 (0 : Int))] fun cs30 =>
    newC w15 cs30 43 fun a31 w32 =>
    pelotonlaw06_with cs18 (Sl.mk (some a31) 12 12) w32 fun cs33 w34 =>
    newC w34 #[(.slice none 0 0)] 24 fun a35 w36 =>
    stA 1 w36 a35 cs33 fun w37 =>
    ldA 1 w37 a35 fun cs38 =>
    serial_Run cs38 fuel_1 w37 fun x39 w40 =>
    iteB ((x39.1, (x39.2.1, x39.2.2)).2.2 != (0 : Int)) (
      iteB (((x39.1.n : Nat) : Int) == (0 : Int)) (
        pelotonlaw06_awake  w40 fun b41 w42 =>
        (k b41 w42)) (
        (k false w40))) (
      joinP (S := Sl) (fun J43 =>
        loopP (S := (Sl × Int)) (fun C44 x45 w46 =>
          iteB (decide (x45.2 < ((x39.1.n : Nat) : Int))) (
            ixS x39.1 x45.2 7 fun a47 =>
            ldI .i64 w46 (Addr.add a47 0) fun i48 =>
            iteB (i48 == (0 : Int)) (
              ixS x39.1 x45.2 7 fun a49 =>
              ldA 7 w46 a49 fun cs50 =>
              spl #[(.int .i64 (0 : Int)), (.int .i64 (0 : Int)), (.int .i64 (0 : Int)), (.int .i64 (0 : Int)), (.int .i64 (0 : Int)), (.int .i64 (0 : Int)), (.string (ByteArray.mk #[]))] 0 7 cs50 fun cs51 =>
              newC w46 cs51 34 fun a52 w53 =>
              bApp Go.Proofs.Try.prog #[28, 28] 28 [(.slice x45.1.a x45.1.n x45.1.c), (.slice (some a52) 1 1)] w53 fun s54 w55 =>
              (C44 (s54, (IntKind.wrap .i64 (x45.2 + (1 : Int)))) w55)) (
              (C44 (x45.1, (IntKind.wrap .i64 (x45.2 + (1 : Int)))) w46))) (
            (J43 x45.1 w46))) ((Sl.mk none 0 0), (1 : Int)) w40) fun s56 w57 =>
      joinP (S := Bool) (fun J58 =>
        iteB (((s56.n : Nat) : Int) != (4 : Int)) (
          (J58 true w57)) (
          ixS x39.1 (0 : Int) 7 fun a59 =>
          ldStr w57 (Addr.add a59 6) fun t60 =>
          iteB (!(strEqB t60 (ByteArray.mk #[48, 49]))) (
            (J58 true w57)) (
            ixS x39.1 (0 : Int) 7 fun a61 =>
            ldI .i64 w57 (Addr.add a61 3) fun i62 =>
            (J58 (i62 != (2 : Int)) w57)))) fun b63 w64 =>
      iteB b63 (
        (k false w64)) (
        newC w64 #[(.int .i64 (0 : Int)), (.int .i64 (0 : Int)), (.int .i64 (0 : Int)), (.int .i64 (0 : Int)), (.int .i64 (0 : Int)), (.int .i64 (0 : Int)), (.string (ByteArray.mk #[]))] 34 fun a65 w66 =>
        stA 7 w66 a65 #[(.int .i64 (0 : Int)), (.int .i64 (0 : Int)), (.int .i64 k_2), (.int .i64 (4 : Int)), (.int .i64 (0 : Int)), (.int .i64 (0 : Int)), (.string (ByteArray.mk #[]))] fun w67 =>
        stC w67 (Addr.add a65 1) (.int .i64 (1 : Int)) fun w68 =>
        ldA 7 w68 a65 fun cs69 =>
        newC w68 #[(.int .i64 (0 : Int)), (.int .i64 (0 : Int)), (.int .i64 (0 : Int)), (.int .i64 (0 : Int)), (.int .i64 (0 : Int)), (.int .i64 (0 : Int)), (.string (ByteArray.mk #[]))] 34 fun a70 w71 =>
        stA 7 w71 a70 cs69 fun w72 =>
        stC w72 (Addr.add a70 1) (.int .i64 (2 : Int)) fun w73 =>
        ixS s56 (3 : Int) 7 fun a74 =>
        ldA 7 w73 a74 fun cs75 =>
        newC w73 #[(.int .i64 (0 : Int)), (.int .i64 (0 : Int)), (.int .i64 (0 : Int)), (.int .i64 (0 : Int)), (.int .i64 (0 : Int)), (.int .i64 (0 : Int)), (.string (ByteArray.mk #[]))] 34 fun a76 w77 =>
        stA 7 w77 a76 cs75 fun w78 =>
        stC w78 (Addr.add a76 1) (.int .i64 (1 : Int)) fun w79 =>
        drew w79 fun w80 =>
        ixS s56 (0 : Int) 7 fun a81 =>
        ldI .i64 w80 (Addr.add a81 3) fun i82 =>
        iteB (i82 != (4 : Int)) (
          ixS s56 (1 : Int) 7 fun a83 =>
          ldA 7 w80 a83 fun cs84 =>
          ldA 7 w80 a65 fun cs85 =>
          eqA ([(0, 0)] ++ ([(1, 0)] ++ ([(2, 0)] ++ ([(3, 0)] ++ ([(4, 0)] ++ ([(5, 0)] ++ ([(6, 2)] ++ []))))))) cs84 cs85 fun b86 =>
          iteB b86 (
            ixS s56 (2 : Int) 7 fun a87 =>
            ldA 7 w80 a87 fun cs88 =>
            ldA 7 w80 a70 fun cs89 =>
            eqA ([(0, 0)] ++ ([(1, 0)] ++ ([(2, 0)] ++ ([(3, 0)] ++ ([(4, 0)] ++ ([(5, 0)] ++ ([(6, 2)] ++ []))))))) cs88 cs89 fun b90 =>
            iteB b90 (
              ixS s56 (0 : Int) 7 fun a91 =>
              ldA 7 w80 a91 fun cs92 =>
              ldA 7 w80 a76 fun cs93 =>
              eqA ([(0, 0)] ++ ([(1, 0)] ++ ([(2, 0)] ++ ([(3, 0)] ++ ([(4, 0)] ++ ([(5, 0)] ++ ([(6, 2)] ++ []))))))) cs92 cs93 fun b94 =>
              iteB b94 (
                pelotonlaw06_awake  w80 fun b95 w96 =>
                (k b95 w96)) (
                (k false w80))) (
              (k false w80))) (
            (k false w80))) (
          (k false w80)))))
theorem e_pelotonlaw06_SerialScopes (pelotonlaw06_small : Array Value → Int → World → ((Bool) → World → Prop) → Prop) (check_Accepts : Array Value → World → ((Bool) → World → Prop) → Prop) (pelotonlaw06_awake : World → ((Bool) → World → Prop) → Prop) (pelotonlaw06_with : Array Value → Sl → World → ((Array Value) → World → Prop) → Prop) (serial_Run : Array Value → Int → World → ((Sl × Int × Int) → World → Prop) → Prop) (x : KT [.ag, (.i .i64), (.i .i64)]) (w : World) (k : KT [.b] → World → Prop) : evFn Go.Proofs.Try.prog (orcOf [(n_pelotonlaw06_small, (fun args w c => unL [.ag, (.i .i64)] args fun x => pelotonlaw06_small x.1 x.2 w fun r w => c (packV (valL [.b] r)) w)), (n_check_Accepts, (fun args w c => unL [.ag] args fun x => check_Accepts x w fun r w => c (packV (valL [.b] r)) w)), (n_pelotonlaw06_awake, (fun args w c => unL [] args fun x => pelotonlaw06_awake  w fun r w => c (packV (valL [.b] r)) w)), (n_pelotonlaw06_with, (fun args w c => unL [.ag, .s] args fun x => pelotonlaw06_with x.1 x.2 w fun r w => c (packV (valL [.ag] r)) w)), (n_serial_Run, (fun args w c => unL [.ag, (.i .i64)] args fun x => serial_Run x.1 x.2 w fun r w => c (packV (valL [.s, (.i .i64), (.i .i64)] r)) w))]) 41538377353839550888904885306195406 [(1, [(44, .b)]), (11, [(11, .s)]), (12, [(11, .s), (12, (.i .i64))]), (20, [(115, .b)])] Go.Proofs.Try.f6 [.b] (valL [.ag, (.i .i64), (.i .i64)] x) w k = pelotonlaw06_SerialScopes_b pelotonlaw06_small check_Accepts pelotonlaw06_awake pelotonlaw06_with serial_Run x.1 x.2.1 x.2.2 w k := by kernel_rfl
def pelotonlaw06_SerialScopes (p_0 : Array Value) (fuel_1 : Int) (k_2 : Int) (w : World) (k : (Bool) → World → Prop) : Prop := pelotonlaw06_SerialScopes_b pelotonlaw06_small check_Accepts pelotonlaw06_awake pelotonlaw06_with serial_Run p_0 fuel_1 k_2 w k
def d_pelotonlaw06_SerialScopes : Dec := fun args w c => unL [.ag, (.i .i64), (.i .i64)] args fun x => pelotonlaw06_SerialScopes x.1 x.2.1 x.2.2 w fun r w => c (packV (valL [.b] r)) w
theorem s_pelotonlaw06_SerialScopes : Sound Go.Proofs.Try.prog n_pelotonlaw06_SerialScopes d_pelotonlaw06_SerialScopes :=
  sound_of (mask := 41538377353839550888904885306195406) (h := [(1, [(44, .b)]), (11, [(11, .s)]), (12, [(11, .s), (12, (.i .i64))]), (20, [(115, .b)])]) (ds := [(n_pelotonlaw06_small, d_pelotonlaw06_small), (n_check_Accepts, d_check_Accepts), (n_pelotonlaw06_awake, d_pelotonlaw06_awake), (n_pelotonlaw06_with, d_pelotonlaw06_with), (n_serial_Run, d_serial_Run)]) mixed Go.Proofs.Try.func6 ⟨s_pelotonlaw06_small, s_check_Accepts, s_pelotonlaw06_awake, s_pelotonlaw06_with, s_serial_Run, trivial⟩
    [.ag, (.i .i64), (.i .i64)] [.b] (by kernel_rfl) (fun x w k => pelotonlaw06_SerialScopes x.1 x.2.1 x.2.2 w k) (fun x w k => e_pelotonlaw06_SerialScopes pelotonlaw06_small check_Accepts pelotonlaw06_awake pelotonlaw06_with serial_Run x w k)

/-- peloton/pelotonlaw06.SerialPlain -/
def pelotonlaw06_SerialPlain_b (pelotonlaw06_small : Array Value → Int → World → ((Bool) → World → Prop) → Prop) (check_Plain : Array Value → World → ((Bool) → World → Prop) → Prop) (pelotonlaw06_awake : World → ((Bool) → World → Prop) → Prop) (serial_Run : Array Value → Int → World → ((Sl × Int × Int) → World → Prop) → Prop) (p_0 : Array Value) (fuel_1 : Int) (w : World) (k : (Bool) → World → Prop) : Prop :=
  newC w p_0 24 fun a1 w2 =>
  joinP (S := Bool) (fun J3 =>
    ldA 1 w2 a1 fun cs4 =>
    pelotonlaw06_small cs4 fuel_1 w2 fun b5 w6 =>
    iteB (!b5) (
      (J3 true w6)) (
      ldA 1 w6 a1 fun cs7 =>
      check_Plain cs7 w6 fun b8 w9 =>
      (J3 (!b8) w9))) fun b10 w11 =>
  iteB b10 (
    pelotonlaw06_awake  w11 fun b12 w13 =>
    (k b12 w13)) (
    ldA 1 w11 a1 fun cs14 =>
    serial_Run cs14 fuel_1 w11 fun x15 w16 =>
    loopP (S := Int) (fun C17 i18 w19 =>
      iteB (decide (i18 < ((x15.1.n : Nat) : Int))) (
        joinP (S := Bool) (fun J20 =>
          ixS x15.1 i18 7 fun a21 =>
          ldI .i64 w19 (Addr.add a21 3) fun i22 =>
          iteB (i22 != (2 : Int)) (
            ixS x15.1 i18 7 fun a23 =>
            ldI .i64 w19 (Addr.add a23 3) fun i24 =>
            (J20 (i24 != (3 : Int)) w19)) (
            (J20 false w19))) fun b25 w26 =>
        iteB b25 (
          (k false w26)) (
          loopP (S := Int) (fun C27 i28 w29 =>
            ixS x15.1 i18 7 fun a30 =>
            ldStr w29 (Addr.add a30 6) fun t31 =>
            iteB (decide (i28 < (((ByteArray.size t31) : Nat) : Int))) (
              ixS x15.1 i18 7 fun a32 =>
              ldStr w29 (Addr.add a32 6) fun t33 =>
              ixStr t33 i28 fun i34 =>
              iteB (i34 != (48 : Int)) (
                (k false w29)) (
                (C27 (IntKind.wrap .i64 (i28 + (1 : Int))) w29))) (
              (C17 (IntKind.wrap .i64 (i18 + (1 : Int))) w29))) (0 : Int) w26)) (
        pelotonlaw06_awake  w19 fun b35 w36 =>
        (k b35 w36))) (0 : Int) w16)
theorem e_pelotonlaw06_SerialPlain (pelotonlaw06_small : Array Value → Int → World → ((Bool) → World → Prop) → Prop) (check_Plain : Array Value → World → ((Bool) → World → Prop) → Prop) (pelotonlaw06_awake : World → ((Bool) → World → Prop) → Prop) (serial_Run : Array Value → Int → World → ((Sl × Int × Int) → World → Prop) → Prop) (x : KT [.ag, (.i .i64)]) (w : World) (k : KT [.b] → World → Prop) : evFn Go.Proofs.Try.prog (orcOf [(n_pelotonlaw06_small, (fun args w c => unL [.ag, (.i .i64)] args fun x => pelotonlaw06_small x.1 x.2 w fun r w => c (packV (valL [.b] r)) w)), (n_check_Plain, (fun args w c => unL [.ag] args fun x => check_Plain x w fun r w => c (packV (valL [.b] r)) w)), (n_pelotonlaw06_awake, (fun args w c => unL [] args fun x => pelotonlaw06_awake  w fun r w => c (packV (valL [.b] r)) w)), (n_serial_Run, (fun args w c => unL [.ag, (.i .i64)] args fun x => serial_Run x.1 x.2 w fun r w => c (packV (valL [.s, (.i .i64), (.i .i64)] r)) w))]) 18464828842037216054 [(1, [(18, .b)]), (7, [(8, (.i .i64))]), (11, [(46, .b)]), (16, [(9, (.i .i64))])] Go.Proofs.Try.f7 [.b] (valL [.ag, (.i .i64)] x) w k = pelotonlaw06_SerialPlain_b pelotonlaw06_small check_Plain pelotonlaw06_awake serial_Run x.1 x.2 w k := by kernel_rfl
def pelotonlaw06_SerialPlain (p_0 : Array Value) (fuel_1 : Int) (w : World) (k : (Bool) → World → Prop) : Prop := pelotonlaw06_SerialPlain_b pelotonlaw06_small check_Plain pelotonlaw06_awake serial_Run p_0 fuel_1 w k
def d_pelotonlaw06_SerialPlain : Dec := fun args w c => unL [.ag, (.i .i64)] args fun x => pelotonlaw06_SerialPlain x.1 x.2 w fun r w => c (packV (valL [.b] r)) w
theorem s_pelotonlaw06_SerialPlain : Sound Go.Proofs.Try.prog n_pelotonlaw06_SerialPlain d_pelotonlaw06_SerialPlain :=
  sound_of (mask := 18464828842037216054) (h := [(1, [(18, .b)]), (7, [(8, (.i .i64))]), (11, [(46, .b)]), (16, [(9, (.i .i64))])]) (ds := [(n_pelotonlaw06_small, d_pelotonlaw06_small), (n_check_Plain, d_check_Plain), (n_pelotonlaw06_awake, d_pelotonlaw06_awake), (n_serial_Run, d_serial_Run)]) mixed Go.Proofs.Try.func7 ⟨s_pelotonlaw06_small, s_check_Plain, s_pelotonlaw06_awake, s_serial_Run, trivial⟩
    [.ag, (.i .i64)] [.b] (by kernel_rfl) (fun x w k => pelotonlaw06_SerialPlain x.1 x.2 w k) (fun x w k => e_pelotonlaw06_SerialPlain pelotonlaw06_small check_Plain pelotonlaw06_awake serial_Run x w k)

end Go.Proofs.Ytgkfbagclkjilaa
