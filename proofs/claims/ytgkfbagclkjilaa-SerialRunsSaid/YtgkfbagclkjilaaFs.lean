/-
  Package serial, as the evaluator gives it: panics, recursion, a deferred closure that recovers.
-/
import Derived.Test.YtgkfbagclkjilaaFu
set_option maxRecDepth 100000
set_option linter.unusedVariables false
namespace Go.Proofs.Ytgkfbagclkjilaa
open Go Go.Ev

/-- peloton/serial.deep -/
def serial_deep_b  (s_0 : Option Addr) (w : World) (q : Value → World → Prop) (k : Unit → World → Prop) : Prop :=
  nn s_0 fun a1 =>
  ldI .i64 w (Addr.add a1 3) fun i2 =>
  iteB (decide (i2 ≥ (32 : Int))) (
    (q (.iface 45 (.int .i64 (23 : Int))) w)) (
    (k () w))
theorem e_serial_deep  (x : KT [.p]) (w : World) (k : KT [] → World → Prop) (q : Value → World → Prop) : evFn Go.Proofs.Try.prog (orcP [] q) 64 [] Go.Proofs.Try.f31 [] (valL [.p] x) w k = serial_deep_b  x w q k := by kernel_rfl
theorem s_serial_deep_b   : SoundP Go.Proofs.Try.prog n_serial_deep fun args w c q => unL [.p] args fun x => serial_deep_b  x w q fun r w => c (packV (valL [] r)) w :=
  sound_p (mask := 64) (h := []) (ds := []) mixed Go.Proofs.Try.func31 trivial
    [.p] [] (by kernel_rfl) (fun x w k q => serial_deep_b  x w q k) (fun x w k q => e_serial_deep  x w k q)
def serial_deep (s_0 : Option Addr) (w : World) (q : Value → World → Prop) (k : Unit → World → Prop) : Prop := serial_deep_b  s_0 w q k
def d_serial_deep : DecP := fun args w c q => unL [.p] args fun x => serial_deep x w q fun r w => c (packV (valL [] r)) w
theorem s_serial_deep : SoundP Go.Proofs.Try.prog n_serial_deep d_serial_deep := s_serial_deep_b  

/-- (*peloton/serial.scope).within -/
def serial_scope_within (s_0 : Option Addr) (k_1 : Int) (w : World) (k : (Option Addr) → World → Prop) : Prop :=
  nn s_0 fun a1 =>
  ldI .i64 w (Addr.add a1 3) fun i2 =>
  newC w #[(.pointer s_0), (.bool false), (.int .i64 k_1), (.int .i64 (IntKind.wrap .i64 (i2 + (1 : Int))))] 61 fun a3 w4 =>
  (k (some a3) w4)
def d_serial_scope_within : Dec := fun args w c => unL [.p, (.i .i64)] args fun x => serial_scope_within x.1 x.2 w fun r w => c (packV (valL [.p] r)) w
theorem s_serial_scope_within : Sound Go.Proofs.Try.prog n_serial_scope_within d_serial_scope_within :=
  sound_of (mask := 19) (h := []) (ds := []) mixed Go.Proofs.Try.func19 trivial
    [.p, (.i .i64)] [.p] (by kernel_rfl) (fun x w k => serial_scope_within x.1 x.2 w k) (fun x w k => by kernel_rfl)

/-- (*peloton/serial.scope).cancelled -/
def serial_scope_cancelled (s_0 : Option Addr) (w : World) (k : (Bool) → World → Prop) : Prop :=
  loopP (S := (Option Addr)) (fun C1 p2 w3 =>
    iteB (!(Option.isNone p2)) (
      nn p2 fun a4 =>
      ldB w3 (Addr.add a4 1) fun b5 =>
      iteB b5 (
        (k true w3)) (
        nn p2 fun a6 =>
        ldP w3 (Addr.add a6 0) fun p7 =>
        (C1 p7 w3))) (
      (k false w3))) s_0 w
def d_serial_scope_cancelled : Dec := fun args w c => unL [.p] args fun x => serial_scope_cancelled x w fun r w => c (packV (valL [.b] r)) w
theorem s_serial_scope_cancelled : Sound Go.Proofs.Try.prog n_serial_scope_cancelled d_serial_scope_cancelled :=
  sound_of (mask := 4117) (h := [(2, [(0, .p)])]) (ds := []) mixed Go.Proofs.Try.func29 trivial
    [.p] [.b] (by kernel_rfl) (fun x w k => serial_scope_cancelled x w k) (fun x w k => by kernel_rfl)

/-- (*peloton/serial.machine).end -/
def serial_machine_end (m_0 : Option Addr) (t_1 : Option Addr) (kind_2 : Int) (v_3 : Int) (w : World) (k : Unit → World → Prop) : Prop :=
  drew w fun w1 =>
  nn m_0 fun a2 =>
  ldS w1 (Addr.add a2 3) fun s3 =>
  nn t_1 fun a4 =>
  ldI .i64 w1 (Addr.add a4 19) fun i5 =>
  ixS s3 i5 7 fun a6 =>
  nn t_1 fun a7 =>
  ldI .i64 w1 (Addr.add (Addr.add a7 0) 18) fun i8 =>
  stC w1 (Addr.add a6 3) (.int .i64 kind_2) fun w9 =>
  stC w9 (Addr.add a6 4) (.int .i64 v_3) fun w10 =>
  stC w10 (Addr.add a6 5) (.int .i64 i8) fun w11 =>
  nn t_1 fun a12 =>
  stC w11 (Addr.add a12 23) (.bool true) fun w13 =>
  (k () w13)
def d_serial_machine_end : Dec := fun args w c => unL [.p, .p, (.i .i64), (.i .i64)] args fun x => serial_machine_end x.1 x.2.1 x.2.2.1 x.2.2.2 w fun r w => c (packV (valL [] r)) w
theorem s_serial_machine_end : Sound Go.Proofs.Try.prog n_serial_machine_end d_serial_machine_end :=
  sound_of (mask := 270) (h := []) (ds := []) mixed Go.Proofs.Try.func30 trivial
    [.p, .p, (.i .i64), (.i .i64)] [] (by kernel_rfl) (fun x w k => serial_machine_end x.1 x.2.1 x.2.2.1 x.2.2.2 w k) (fun x w k => by kernel_rfl)

/-- (*peloton/serial.machine).join -/
def serial_machine_join_b (frame_Frame_Joined : Array Value → Array Value → Int → Int → World → ((Array Value × Int × Bool) → World → Prop) → Prop) (serial_machine_end : Option Addr → Option Addr → Int → Int → World → (Unit → World → Prop) → Prop) (m_0 : Option Addr) (t_1 : Option Addr) (i_2 : Array Value) (w : World) (k : Unit → World → Prop) : Prop :=
  newC w i_2 43 fun a1 w2 =>
  ldI .i64 w2 (Addr.add a1 2) fun i3 =>
  ldI .i64 w2 (Addr.add a1 0) fun i4 =>
  joinP (S := Int) (fun J5 =>
    iteB (i4 == (10 : Int)) (
      ldI .i64 w2 (Addr.add a1 3) fun i6 =>
      (J5 i6 w2)) (
      (J5 i3 w2))) fun i7 w8 =>
  drew w8 fun w9 =>
  nn m_0 fun a10 =>
  ldS w9 (Addr.add a10 3) fun s11 =>
  nn t_1 fun a12 =>
  ixP (Addr.add (Addr.add a12 0) 10) 8 i7 1 fun a13 =>
  ldI .i64 w9 a13 fun i14 =>
  ixS s11 i14 7 fun a15 =>
  ldA 7 w9 a15 fun cs16 =>
  newC w9 #[(.int .i64 (0 : Int)), (.int .i64 (0 : Int)), (.int .i64 (0 : Int)), (.int .i64 (0 : Int)), (.int .i64 (0 : Int)), (.int .i64 (0 : Int)), (.string (ByteArray.mk #[]))] 34 fun a17 w18 =>
  samec 7 a15 w9 w18 (
  samec 1 a13 w9 w18 (
  samec 1 (Addr.add a10 3) w9 w18 (
  stA 7 w18 a17 cs16 fun w19 =>
  joinP (S := (Addr × (Int × Bool))) (fun J20 =>
    drew w19 fun w21 =>
    nn t_1 fun a22 =>
    ldA 19 w21 (Addr.add a22 0) fun cs23 =>
    ldA 5 w21 a1 fun cs24 =>
    ldI .i64 w21 (Addr.add a17 3) fun i25 =>
    ldI .i64 w21 (Addr.add a17 4) fun i26 =>
    both (
      frame_Frame_Joined cs23 cs24 i25 i26 w21 fun x27 w28 =>
      newC w28 #[(.int .i64 (0 : Int)), (.int .i64 (0 : Int)), (.int .i64 (0 : Int)), (.int .i64 (0 : Int)), (.int .i64 (0 : Int)), (.int .i64 (0 : Int)), (.int .i64 (0 : Int)), (.int .i64 (0 : Int)), (.int .i64 (0 : Int)), (.int .i64 (0 : Int)), (.int .i64 (0 : Int)), (.int .i64 (0 : Int)), (.int .i64 (0 : Int)), (.int .i64 (0 : Int)), (.int .i64 (0 : Int)), (.int .i64 (0 : Int)), (.int .i64 (0 : Int)), (.int .i64 (0 : Int)), (.int .i64 (0 : Int))] 54 fun a29 w30 =>
      samec 1 (Addr.add a17 4) w21 w30 (
      samec 1 (Addr.add a17 3) w21 w30 (
      samec 5 a1 w21 w30 (
      samec 19 (Addr.add a22 0) w21 w30 (
      stA 19 w30 a29 (x27.1, (x27.2.1, x27.2.2)).1 fun w31 =>
      (J20 (a29, ((x27.1, (x27.2.1, x27.2.2)).2.1, (x27.1, (x27.2.1, x27.2.2)).2.2)) w31)))))) (
      newC w21 #[(.int .i64 (0 : Int)), (.int .i64 (0 : Int)), (.int .i64 (0 : Int)), (.int .i64 (0 : Int)), (.int .i64 (0 : Int)), (.int .i64 (0 : Int)), (.int .i64 (0 : Int)), (.int .i64 (0 : Int)), (.int .i64 (0 : Int)), (.int .i64 (0 : Int)), (.int .i64 (0 : Int)), (.int .i64 (0 : Int)), (.int .i64 (0 : Int)), (.int .i64 (0 : Int)), (.int .i64 (0 : Int)), (.int .i64 (0 : Int)), (.int .i64 (0 : Int)), (.int .i64 (0 : Int)), (.int .i64 (0 : Int))] 54 fun a32 w33 =>
      samec 1 (Addr.add a17 4) w21 w33 (
      samec 1 (Addr.add a17 3) w21 w33 (
      samec 5 a1 w21 w33 (
      samec 19 (Addr.add a22 0) w21 w33 (
      frame_Frame_Joined cs23 cs24 i25 i26 w33 fun x34 w35 =>
      stA 19 w35 a32 (x34.1, (x34.2.1, x34.2.2)).1 fun w36 =>
      (J20 (a32, ((x34.1, (x34.2.1, x34.2.2)).2.1, (x34.1, (x34.2.1, x34.2.2)).2.2)) w36))))))) fun x37 w38 =>
  ldA 19 w38 x37.1 fun cs39 =>
  nn t_1 fun a40 =>
  stA 19 w38 (Addr.add a40 0) cs39 fun w41 =>
  iteB x37.2.2 (
    serial_machine_end m_0 t_1 (3 : Int) x37.2.1 w41 fun _u w42 =>
    (k () w42)) (
    (k () w41)))))
theorem e_serial_machine_join (frame_Frame_Joined : Array Value → Array Value → Int → Int → World → ((Array Value × Int × Bool) → World → Prop) → Prop) (serial_machine_end : Option Addr → Option Addr → Int → Int → World → (Unit → World → Prop) → Prop) (x : KT [.p, .p, .ag]) (w : World) (k : KT [] → World → Prop) : evFn Go.Proofs.Try.prog (orcOf [(n_frame_Frame_Joined, (fun args w c => unL [.ag, .ag, (.i .i64), (.i .i64)] args fun x => frame_Frame_Joined x.1 x.2.1 x.2.2.1 x.2.2.2 w fun r w => c (packV (valL [.ag, (.i .i64), .b] r)) w)), (n_serial_machine_end, (fun args w c => unL [.p, .p, (.i .i64), (.i .i64)] args fun x => serial_machine_end x.1 x.2.1 x.2.2.1 x.2.2.2 w fun r w => c (packV (valL [] r)) w))]) 562949953456099 [(3, [(6, (.i .i64))]), (6, [(8, .a), (9, (.i .i64)), (10, .b)])] Go.Proofs.Try.f34 [] (valL [.p, .p, .ag] x) w k = serial_machine_join_b frame_Frame_Joined serial_machine_end x.1 x.2.1 x.2.2 w k := by kernel_rfl
def serial_machine_join (m_0 : Option Addr) (t_1 : Option Addr) (i_2 : Array Value) (w : World) (k : Unit → World → Prop) : Prop := serial_machine_join_b frame_Frame_Joined serial_machine_end m_0 t_1 i_2 w k
def d_serial_machine_join : Dec := fun args w c => unL [.p, .p, .ag] args fun x => serial_machine_join x.1 x.2.1 x.2.2 w fun r w => c (packV (valL [] r)) w
theorem s_serial_machine_join : Sound Go.Proofs.Try.prog n_serial_machine_join d_serial_machine_join :=
  sound_of (mask := 562949953456099) (h := [(3, [(6, (.i .i64))]), (6, [(8, .a), (9, (.i .i64)), (10, .b)])]) (ds := [(n_frame_Frame_Joined, d_frame_Frame_Joined), (n_serial_machine_end, d_serial_machine_end)]) mixed Go.Proofs.Try.func34 ⟨s_frame_Frame_Joined, s_serial_machine_end, trivial⟩
    [.p, .p, .ag] [] (by kernel_rfl) (fun x w k => serial_machine_join x.1 x.2.1 x.2.2 w k) (fun x w k => e_serial_machine_join frame_Frame_Joined serial_machine_end x w k)

/-- (*peloton/serial.machine).open -/
def serial_machine_open_b (serial_scope_within : Option Addr → Int → World → ((Option Addr) → World → Prop) → Prop) (frame_Frame_Passed : Array Value → World → ((Array Value) → World → Prop) → Prop) (m_0 : Option Addr) (t_1 : Option Addr) (_2 : Array Value) (w : World) (k : Unit → World → Prop) : Prop :=
  newC w _2 43 fun a1 w2 =>
  nn t_1 fun a3 =>
  ldI .i64 w2 (Addr.add a3 22) fun i4 =>
  nn t_1 fun a5 =>
  stC w2 (Addr.add a5 22) (.int .i64 (IntKind.wrap .i64 (i4 + (1 : Int)))) fun w6 =>
  drew w6 fun w7 =>
  nn t_1 fun a8 =>
  ldP w7 (Addr.add a8 21) fun p9 =>
  nn t_1 fun a10 =>
  ldI .i64 w7 (Addr.add a10 22) fun i11 =>
  serial_scope_within p9 i11 w7 fun p12 w13 =>
  nn t_1 fun a14 =>
  stC w13 (Addr.add a14 21) (.pointer p12) fun w15 =>
  nn t_1 fun a16 =>
  ldA 19 w15 (Addr.add a16 0) fun cs17 =>
  frame_Frame_Passed cs17 w15 fun cs18 w19 =>
  nn t_1 fun a20 =>
  stA 19 w19 (Addr.add a20 0) cs18 fun w21 =>
  (k () w21)
theorem e_serial_machine_open (serial_scope_within : Option Addr → Int → World → ((Option Addr) → World → Prop) → Prop) (frame_Frame_Passed : Array Value → World → ((Array Value) → World → Prop) → Prop) (x : KT [.p, .p, .ag]) (w : World) (k : KT [] → World → Prop) : evFn Go.Proofs.Try.prog (orcOf [(n_serial_scope_within, (fun args w c => unL [.p, (.i .i64)] args fun x => serial_scope_within x.1 x.2 w fun r w => c (packV (valL [.p] r)) w)), (n_frame_Frame_Passed, (fun args w c => unL [.ag] args fun x => frame_Frame_Passed x w fun r w => c (packV (valL [.ag] r)) w))]) 2 [] Go.Proofs.Try.f35 [] (valL [.p, .p, .ag] x) w k = serial_machine_open_b serial_scope_within frame_Frame_Passed x.1 x.2.1 x.2.2 w k := by kernel_rfl
def serial_machine_open (m_0 : Option Addr) (t_1 : Option Addr) (_2 : Array Value) (w : World) (k : Unit → World → Prop) : Prop := serial_machine_open_b serial_scope_within frame_Frame_Passed m_0 t_1 _2 w k
def d_serial_machine_open : Dec := fun args w c => unL [.p, .p, .ag] args fun x => serial_machine_open x.1 x.2.1 x.2.2 w fun r w => c (packV (valL [] r)) w
theorem s_serial_machine_open : Sound Go.Proofs.Try.prog n_serial_machine_open d_serial_machine_open :=
  sound_of (mask := 2) (h := []) (ds := [(n_serial_scope_within, d_serial_scope_within), (n_frame_Frame_Passed, d_frame_Frame_Passed)]) mixed Go.Proofs.Try.func35 ⟨s_serial_scope_within, s_frame_Frame_Passed, trivial⟩
    [.p, .p, .ag] [] (by kernel_rfl) (fun x w k => serial_machine_open x.1 x.2.1 x.2.2 w k) (fun x w k => e_serial_machine_open serial_scope_within frame_Frame_Passed x w k)

/-- (*peloton/serial.machine).close -/
def serial_machine_close_b (frame_Frame_Closed : Array Value → Array Value → Bool → World → ((Array Value) → World → Prop) → Prop) (m_0 : Option Addr) (t_1 : Option Addr) (i_2 : Array Value) (w : World) (k : Unit → World → Prop) : Prop :=
  newC w i_2 43 fun a1 w2 =>
  nn t_1 fun a3 =>
  ldP w2 (Addr.add a3 21) fun p4 =>
  nn p4 fun a5 =>
  ldB w2 (Addr.add a5 1) fun b6 =>
  joinP (S := ByteArray) (fun J7 =>
    iteB b6 (
      (J7 (ByteArray.mk #[49]) w2)) (
      (J7 (ByteArray.mk #[48]) w2))) fun t8 w9 =>
  drew w9 fun w10 =>
  nn m_0 fun a11 =>
  ldS w10 (Addr.add a11 3) fun s12 =>
  nn t_1 fun a13 =>
  ldI .i64 w10 (Addr.add a13 19) fun i14 =>
  ixS s12 i14 7 fun a15 =>
  ldStr w10 (Addr.add a15 6) fun t16 =>
  ((((((ByteArray.size t16) + (ByteArray.size t8)) : Nat) : Int) ≤ (9223372036854775807 : Int))) ∧ (
    ixS s12 i14 7 fun a17 =>
    stC w10 (Addr.add a17 6) (.string (t16 ++ t8)) fun w18 =>
    drew w18 fun w19 =>
    nn t_1 fun a20 =>
    ldA 19 w19 (Addr.add a20 0) fun cs21 =>
    ldA 5 w19 a1 fun cs22 =>
    nn t_1 fun a23 =>
    ldP w19 (Addr.add a23 21) fun p24 =>
    nn p24 fun a25 =>
    ldB w19 (Addr.add a25 1) fun b26 =>
    frame_Frame_Closed cs21 cs22 b26 w19 fun cs27 w28 =>
    nn t_1 fun a29 =>
    stA 19 w28 (Addr.add a29 0) cs27 fun w30 =>
    nn t_1 fun a31 =>
    ldP w30 (Addr.add a31 21) fun p32 =>
    nn p32 fun a33 =>
    ldP w30 (Addr.add a33 0) fun p34 =>
    nn t_1 fun a35 =>
    stC w30 (Addr.add a35 21) (.pointer p34) fun w36 =>
    (k () w36))
theorem e_serial_machine_close (frame_Frame_Closed : Array Value → Array Value → Bool → World → ((Array Value) → World → Prop) → Prop) (x : KT [.p, .p, .ag]) (w : World) (k : KT [] → World → Prop) : evFn Go.Proofs.Try.prog (orcOf [(n_frame_Frame_Closed, (fun args w c => unL [.ag, .ag, .b] args fun x => frame_Frame_Closed x.1 x.2.1 x.2.2 w fun r w => c (packV (valL [.ag] r)) w))]) 8291 [(3, [(6, .str)])] Go.Proofs.Try.f36 [] (valL [.p, .p, .ag] x) w k = serial_machine_close_b frame_Frame_Closed x.1 x.2.1 x.2.2 w k := by kernel_rfl
def serial_machine_close (m_0 : Option Addr) (t_1 : Option Addr) (i_2 : Array Value) (w : World) (k : Unit → World → Prop) : Prop := serial_machine_close_b frame_Frame_Closed m_0 t_1 i_2 w k
def d_serial_machine_close : Dec := fun args w c => unL [.p, .p, .ag] args fun x => serial_machine_close x.1 x.2.1 x.2.2 w fun r w => c (packV (valL [] r)) w
theorem s_serial_machine_close : Sound Go.Proofs.Try.prog n_serial_machine_close d_serial_machine_close :=
  sound_of (mask := 8291) (h := [(3, [(6, .str)])]) (ds := [(n_frame_Frame_Closed, d_frame_Frame_Closed)]) mixed Go.Proofs.Try.func36 ⟨s_frame_Frame_Closed, trivial⟩
    [.p, .p, .ag] [] (by kernel_rfl) (fun x w k => serial_machine_close x.1 x.2.1 x.2.2 w k) (fun x w k => e_serial_machine_close frame_Frame_Closed x w k)

/-- (*peloton/serial.machine).cancel -/
def serial_machine_cancel_b (frame_Frame_Passed : Array Value → World → ((Array Value) → World → Prop) → Prop) (m_0 : Option Addr) (t_1 : Option Addr) (_2 : Array Value) (w : World) (k : Unit → World → Prop) : Prop :=
  newC w _2 43 fun a1 w2 =>
  nn t_1 fun a3 =>
  ldP w2 (Addr.add a3 21) fun p4 =>
  nn p4 fun a5 =>
  stC w2 (Addr.add a5 1) (.bool true) fun w6 =>
  nn t_1 fun a7 =>
  ldA 19 w6 (Addr.add a7 0) fun cs8 =>
  frame_Frame_Passed cs8 w6 fun cs9 w10 =>
  nn t_1 fun a11 =>
  stA 19 w10 (Addr.add a11 0) cs9 fun w12 =>
  (k () w12)
theorem e_serial_machine_cancel (frame_Frame_Passed : Array Value → World → ((Array Value) → World → Prop) → Prop) (x : KT [.p, .p, .ag]) (w : World) (k : KT [] → World → Prop) : evFn Go.Proofs.Try.prog (orcOf [(n_frame_Frame_Passed, (fun args w c => unL [.ag] args fun x => frame_Frame_Passed x w fun r w => c (packV (valL [.ag] r)) w))]) 2 [] Go.Proofs.Try.f37 [] (valL [.p, .p, .ag] x) w k = serial_machine_cancel_b frame_Frame_Passed x.1 x.2.1 x.2.2 w k := by kernel_rfl
def serial_machine_cancel (m_0 : Option Addr) (t_1 : Option Addr) (_2 : Array Value) (w : World) (k : Unit → World → Prop) : Prop := serial_machine_cancel_b frame_Frame_Passed m_0 t_1 _2 w k
def d_serial_machine_cancel : Dec := fun args w c => unL [.p, .p, .ag] args fun x => serial_machine_cancel x.1 x.2.1 x.2.2 w fun r w => c (packV (valL [] r)) w
theorem s_serial_machine_cancel : Sound Go.Proofs.Try.prog n_serial_machine_cancel d_serial_machine_cancel :=
  sound_of (mask := 2) (h := []) (ds := [(n_frame_Frame_Passed, d_frame_Frame_Passed)]) mixed Go.Proofs.Try.func37 ⟨s_frame_Frame_Passed, trivial⟩
    [.p, .p, .ag] [] (by kernel_rfl) (fun x w k => serial_machine_cancel x.1 x.2.1 x.2.2 w k) (fun x w k => e_serial_machine_cancel frame_Frame_Passed x w k)

/-- (*peloton/serial.machine).pass -/
def serial_machine_pass_b (frame_Frame_Passed : Array Value → World → ((Array Value) → World → Prop) → Prop) (m_0 : Option Addr) (t_1 : Option Addr) (_2 : Array Value) (w : World) (k : Unit → World → Prop) : Prop :=
  newC w _2 43 fun a1 w2 =>
  nn t_1 fun a3 =>
  ldA 19 w2 (Addr.add a3 0) fun cs4 =>
  frame_Frame_Passed cs4 w2 fun cs5 w6 =>
  nn t_1 fun a7 =>
  stA 19 w6 (Addr.add a7 0) cs5 fun w8 =>
  (k () w8)
theorem e_serial_machine_pass (frame_Frame_Passed : Array Value → World → ((Array Value) → World → Prop) → Prop) (x : KT [.p, .p, .ag]) (w : World) (k : KT [] → World → Prop) : evFn Go.Proofs.Try.prog (orcOf [(n_frame_Frame_Passed, (fun args w c => unL [.ag] args fun x => frame_Frame_Passed x w fun r w => c (packV (valL [.ag] r)) w))]) 2 [] Go.Proofs.Try.f38 [] (valL [.p, .p, .ag] x) w k = serial_machine_pass_b frame_Frame_Passed x.1 x.2.1 x.2.2 w k := by kernel_rfl
def serial_machine_pass (m_0 : Option Addr) (t_1 : Option Addr) (_2 : Array Value) (w : World) (k : Unit → World → Prop) : Prop := serial_machine_pass_b frame_Frame_Passed m_0 t_1 _2 w k
def d_serial_machine_pass : Dec := fun args w c => unL [.p, .p, .ag] args fun x => serial_machine_pass x.1 x.2.1 x.2.2 w fun r w => c (packV (valL [] r)) w
theorem s_serial_machine_pass : Sound Go.Proofs.Try.prog n_serial_machine_pass d_serial_machine_pass :=
  sound_of (mask := 2) (h := []) (ds := [(n_frame_Frame_Passed, d_frame_Frame_Passed)]) mixed Go.Proofs.Try.func38 ⟨s_frame_Frame_Passed, trivial⟩
    [.p, .p, .ag] [] (by kernel_rfl) (fun x w k => serial_machine_pass x.1 x.2.1 x.2.2 w k) (fun x w k => e_serial_machine_pass frame_Frame_Passed x w k)

/-- (*peloton/serial.machine).leave -/
def serial_machine_leave_b (frame_Frame_Passed : Array Value → World → ((Array Value) → World → Prop) → Prop) (serial_machine_end : Option Addr → Option Addr → Int → Int → World → (Unit → World → Prop) → Prop) (m_0 : Option Addr) (t_1 : Option Addr) (i_2 : Array Value) (w : World) (k : Unit → World → Prop) : Prop :=
  newC w i_2 43 fun a1 w2 =>
  nn t_1 fun a3 =>
  ldA 19 w2 (Addr.add a3 0) fun cs4 =>
  frame_Frame_Passed cs4 w2 fun cs5 w6 =>
  nn t_1 fun a7 =>
  stA 19 w6 (Addr.add a7 0) cs5 fun w8 =>
  ldI .i64 w8 (Addr.add a1 0) fun i9 =>
  iteB (i9 == (15 : Int)) (
    drew w8 fun w10 =>
    ldI .i64 w10 (Addr.add a1 1) fun i11 =>
    nn t_1 fun a12 =>
    ixP (Addr.add (Addr.add a12 0) 2) 8 i11 1 fun a13 =>
    ldI .i64 w10 a13 fun i14 =>
    serial_machine_end m_0 t_1 (3 : Int) i14 w10 fun _u w15 =>
    (k () w15)) (
    drew w8 fun w16 =>
    ldI .i64 w16 (Addr.add a1 1) fun i17 =>
    nn t_1 fun a18 =>
    ixP (Addr.add (Addr.add a18 0) 2) 8 i17 1 fun a19 =>
    ldI .i64 w16 a19 fun i20 =>
    serial_machine_end m_0 t_1 (2 : Int) i20 w16 fun _u w21 =>
    (k () w21))
theorem e_serial_machine_leave (frame_Frame_Passed : Array Value → World → ((Array Value) → World → Prop) → Prop) (serial_machine_end : Option Addr → Option Addr → Int → Int → World → (Unit → World → Prop) → Prop) (x : KT [.p, .p, .ag]) (w : World) (k : KT [] → World → Prop) : evFn Go.Proofs.Try.prog (orcOf [(n_frame_Frame_Passed, (fun args w c => unL [.ag] args fun x => frame_Frame_Passed x w fun r w => c (packV (valL [.ag] r)) w)), (n_serial_machine_end, (fun args w c => unL [.p, .p, (.i .i64), (.i .i64)] args fun x => serial_machine_end x.1 x.2.1 x.2.2.1 x.2.2.2 w fun r w => c (packV (valL [] r)) w))]) 131171 [] Go.Proofs.Try.f39 [] (valL [.p, .p, .ag] x) w k = serial_machine_leave_b frame_Frame_Passed serial_machine_end x.1 x.2.1 x.2.2 w k := by kernel_rfl
def serial_machine_leave (m_0 : Option Addr) (t_1 : Option Addr) (i_2 : Array Value) (w : World) (k : Unit → World → Prop) : Prop := serial_machine_leave_b frame_Frame_Passed serial_machine_end m_0 t_1 i_2 w k
def d_serial_machine_leave : Dec := fun args w c => unL [.p, .p, .ag] args fun x => serial_machine_leave x.1 x.2.1 x.2.2 w fun r w => c (packV (valL [] r)) w
theorem s_serial_machine_leave : Sound Go.Proofs.Try.prog n_serial_machine_leave d_serial_machine_leave :=
  sound_of (mask := 131171) (h := []) (ds := [(n_frame_Frame_Passed, d_frame_Frame_Passed), (n_serial_machine_end, d_serial_machine_end)]) mixed Go.Proofs.Try.func39 ⟨s_frame_Frame_Passed, s_serial_machine_end, trivial⟩
    [.p, .p, .ag] [] (by kernel_rfl) (fun x w k => serial_machine_leave x.1 x.2.1 x.2.2 w k) (fun x w k => e_serial_machine_leave frame_Frame_Passed serial_machine_end x w k)

/-- (*peloton/serial.machine).fork -/
def serial_machine_fork_b (frame_Frame_Child : Array Value → Array Value → Array Value → World → ((Array Value × Int) → World → Prop) → Prop) (frame_Frame_Forked : Array Value → Array Value → Int → World → ((Array Value) → World → Prop) → Prop) (serial_Run_2 : Array Value → Int → Option Addr → Addr → World → (Value → World → Prop) → ((Int) → World → Prop) → Prop) (m_0 : Option Addr) (t_1 : Option Addr) (i_2 : Array Value) (w : World) (q : Value → World → Prop) (k : Unit → World → Prop) : Prop :=
  newC w i_2 43 fun a1 w2 =>
  joinP (S := Addr) (fun J3 =>
    drew w2 fun w4 =>
    nn t_1 fun a5 =>
    ldA 19 w4 (Addr.add a5 0) fun cs6 =>
    nn m_0 fun a7 =>
    ldA 1 w4 (Addr.add a7 0) fun cs8 =>
    ldA 5 w4 a1 fun cs9 =>
    both (
      frame_Frame_Child cs6 cs8 cs9 w4 fun x10 w11 =>
      newC w11 #[(.int .i64 (0 : Int)), (.int .i64 (0 : Int)), (.int .i64 (0 : Int)), (.int .i64 (0 : Int)), (.int .i64 (0 : Int)), (.int .i64 (0 : Int)), (.int .i64 (0 : Int)), (.int .i64 (0 : Int)), (.int .i64 (0 : Int)), (.int .i64 (0 : Int)), (.int .i64 (0 : Int)), (.int .i64 (0 : Int)), (.int .i64 (0 : Int)), (.int .i64 (0 : Int)), (.int .i64 (0 : Int)), (.int .i64 (0 : Int)), (.int .i64 (0 : Int)), (.int .i64 (0 : Int)), (.int .i64 (0 : Int))] 54 fun a12 w13 =>
      samec 5 a1 w4 w13 (
      samec 1 (Addr.add a7 0) w4 w13 (
      samec 19 (Addr.add a5 0) w4 w13 (
      stA 19 w13 a12 (x10.1, x10.2).1 fun w14 =>
      (J3 a12 w14))))) (
      newC w4 #[(.int .i64 (0 : Int)), (.int .i64 (0 : Int)), (.int .i64 (0 : Int)), (.int .i64 (0 : Int)), (.int .i64 (0 : Int)), (.int .i64 (0 : Int)), (.int .i64 (0 : Int)), (.int .i64 (0 : Int)), (.int .i64 (0 : Int)), (.int .i64 (0 : Int)), (.int .i64 (0 : Int)), (.int .i64 (0 : Int)), (.int .i64 (0 : Int)), (.int .i64 (0 : Int)), (.int .i64 (0 : Int)), (.int .i64 (0 : Int)), (.int .i64 (0 : Int)), (.int .i64 (0 : Int)), (.int .i64 (0 : Int))] 54 fun a15 w16 =>
      samec 5 a1 w4 w16 (
      samec 1 (Addr.add a7 0) w4 w16 (
      samec 19 (Addr.add a5 0) w4 w16 (
      frame_Frame_Child cs6 cs8 cs9 w16 fun x17 w18 =>
      stA 19 w18 a15 (x17.1, x17.2).1 fun w19 =>
      (J3 a15 w19)))))) fun a20 w21 =>
  drew w21 fun w22 =>
  nn t_1 fun a23 =>
  ldA 19 w22 (Addr.add a23 0) fun cs24 =>
  ldA 5 w22 a1 fun cs25 =>
  nn m_0 fun a26 =>
  ldV w22 (Addr.add a26 4) fun v27 =>
  ldA 19 w22 a20 fun cs28 =>
  nn t_1 fun a29 =>
  ldI .i64 w22 (Addr.add a29 19) fun i30 =>
  nn t_1 fun a31 =>
  ldP w22 (Addr.add a31 21) fun p32 =>
  callF (orcP [(n_frame_Frame_Child, (fun args w c _ => unL [.ag, .ag, .ag] args fun x => frame_Frame_Child x.1 x.2.1 x.2.2 w fun r w => c (packV (valL [.ag, (.i .i64)] r)) w)), (n_frame_Frame_Forked, (fun args w c _ => unL [.ag, .ag, (.i .i64)] args fun x => frame_Frame_Forked x.1 x.2.1 x.2.2 w fun r w => c (packV (valL [.ag] r)) w)), (n_serial_Run_2, (fun args w c q => unL [.ag, (.i .i64), .p, .a] args fun x => serial_Run_2 x.1 x.2.1 x.2.2.1 x.2.2.2 w q fun r w => c (packV (valL [(.i .i64)] r)) w))] q) v27 #[(.agg cs28), (.int .i64 i30), (.pointer p32)] w22 fun v33 w34 =>
  toI .i64 v33 fun i35 =>
  samec 5 a1 w22 w34 (
  samec 19 (Addr.add a23 0) w22 w34 (
  frame_Frame_Forked cs24 cs25 i35 w34 fun cs36 w37 =>
  nn t_1 fun a38 =>
  stA 19 w37 (Addr.add a38 0) cs36 fun w39 =>
  (k () w39)))
theorem e_serial_machine_fork (frame_Frame_Child : Array Value → Array Value → Array Value → World → ((Array Value × Int) → World → Prop) → Prop) (frame_Frame_Forked : Array Value → Array Value → Int → World → ((Array Value) → World → Prop) → Prop) (serial_Run_2 : Array Value → Int → Option Addr → Addr → World → (Value → World → Prop) → ((Int) → World → Prop) → Prop) (x : KT [.p, .p, .ag]) (w : World) (k : KT [] → World → Prop) (q : Value → World → Prop) : evFn Go.Proofs.Try.prog (orcP [(n_frame_Frame_Child, (fun args w c _ => unL [.ag, .ag, .ag] args fun x => frame_Frame_Child x.1 x.2.1 x.2.2 w fun r w => c (packV (valL [.ag, (.i .i64)] r)) w)), (n_frame_Frame_Forked, (fun args w c _ => unL [.ag, .ag, (.i .i64)] args fun x => frame_Frame_Forked x.1 x.2.1 x.2.2 w fun r w => c (packV (valL [.ag] r)) w)), (n_serial_Run_2, (fun args w c q => unL [.ag, (.i .i64), .p, .a] args fun x => serial_Run_2 x.1 x.2.1 x.2.2.1 x.2.2.2 w q fun r w => c (packV (valL [(.i .i64)] r)) w))] q) 99 [(1, [(6, .a)])] Go.Proofs.Try.f33 [] (valL [.p, .p, .ag] x) w k = serial_machine_fork_b frame_Frame_Child frame_Frame_Forked serial_Run_2 x.1 x.2.1 x.2.2 w q k := by kernel_rfl
theorem s_serial_machine_fork_b (frame_Frame_Child : Array Value → Array Value → Array Value → World → ((Array Value × Int) → World → Prop) → Prop) (frame_Frame_Forked : Array Value → Array Value → Int → World → ((Array Value) → World → Prop) → Prop) (serial_Run_2 : Array Value → Int → Option Addr → Addr → World → (Value → World → Prop) → ((Int) → World → Prop) → Prop) (h_frame_Frame_Child : SoundP Go.Proofs.Try.prog n_frame_Frame_Child (fun args w c _ => unL [.ag, .ag, .ag] args fun x => frame_Frame_Child x.1 x.2.1 x.2.2 w fun r w => c (packV (valL [.ag, (.i .i64)] r)) w)) (h_frame_Frame_Forked : SoundP Go.Proofs.Try.prog n_frame_Frame_Forked (fun args w c _ => unL [.ag, .ag, (.i .i64)] args fun x => frame_Frame_Forked x.1 x.2.1 x.2.2 w fun r w => c (packV (valL [.ag] r)) w)) (h_serial_Run_2 : SoundP Go.Proofs.Try.prog n_serial_Run_2 (fun args w c q => unL [.ag, (.i .i64), .p, .a] args fun x => serial_Run_2 x.1 x.2.1 x.2.2.1 x.2.2.2 w q fun r w => c (packV (valL [(.i .i64)] r)) w)) : SoundP Go.Proofs.Try.prog n_serial_machine_fork fun args w c q => unL [.p, .p, .ag] args fun x => serial_machine_fork_b frame_Frame_Child frame_Frame_Forked serial_Run_2 x.1 x.2.1 x.2.2 w q fun r w => c (packV (valL [] r)) w :=
  sound_p (mask := 99) (h := [(1, [(6, .a)])]) (ds := [(n_frame_Frame_Child, (fun args w c _ => unL [.ag, .ag, .ag] args fun x => frame_Frame_Child x.1 x.2.1 x.2.2 w fun r w => c (packV (valL [.ag, (.i .i64)] r)) w)), (n_frame_Frame_Forked, (fun args w c _ => unL [.ag, .ag, (.i .i64)] args fun x => frame_Frame_Forked x.1 x.2.1 x.2.2 w fun r w => c (packV (valL [.ag] r)) w)), (n_serial_Run_2, (fun args w c q => unL [.ag, (.i .i64), .p, .a] args fun x => serial_Run_2 x.1 x.2.1 x.2.2.1 x.2.2.2 w q fun r w => c (packV (valL [(.i .i64)] r)) w))]) mixed Go.Proofs.Try.func33 ⟨h_frame_Frame_Child, h_frame_Frame_Forked, h_serial_Run_2, trivial⟩
    [.p, .p, .ag] [] (by kernel_rfl) (fun x w k q => serial_machine_fork_b frame_Frame_Child frame_Frame_Forked serial_Run_2 x.1 x.2.1 x.2.2 w q k) (fun x w k q => e_serial_machine_fork frame_Frame_Child frame_Frame_Forked serial_Run_2 x w k q)

/-- (*peloton/serial.machine).step -/
def serial_machine_step_b (frame_Frame_Next : Array Value → Array Value → World → ((Array Value × Int) → World → Prop) → Prop) (serial_scope_cancelled : Option Addr → World → ((Bool) → World → Prop) → Prop) (code_Point : Int → World → ((Bool) → World → Prop) → Prop) (serial_machine_end : Option Addr → Option Addr → Int → Int → World → (Unit → World → Prop) → Prop) (serial_deep : Option Addr → World → (Value → World → Prop) → (Unit → World → Prop) → Prop) (frame_Frame_Plain : Array Value → Array Value → World → ((Array Value × Bool) → World → Prop) → Prop) (serial_machine_fork : Option Addr → Option Addr → Array Value → World → (Value → World → Prop) → (Unit → World → Prop) → Prop) (serial_machine_join : Option Addr → Option Addr → Array Value → World → (Unit → World → Prop) → Prop) (serial_machine_open : Option Addr → Option Addr → Array Value → World → (Unit → World → Prop) → Prop) (serial_machine_close : Option Addr → Option Addr → Array Value → World → (Unit → World → Prop) → Prop) (serial_machine_cancel : Option Addr → Option Addr → Array Value → World → (Unit → World → Prop) → Prop) (serial_machine_pass : Option Addr → Option Addr → Array Value → World → (Unit → World → Prop) → Prop) (serial_machine_leave : Option Addr → Option Addr → Array Value → World → (Unit → World → Prop) → Prop) (m_0 : Option Addr) (t_1 : Option Addr) (w : World) (q : Value → World → Prop) (k : Unit → World → Prop) : Prop :=
  joinP (S := (Addr × Int)) (fun J1 =>
    drew w fun w2 =>
    nn t_1 fun a3 =>
    ldA 19 w2 (Addr.add a3 0) fun cs4 =>
    nn m_0 fun a5 =>
    ldA 1 w2 (Addr.add a5 0) fun cs6 =>
    both (
      frame_Frame_Next cs4 cs6 w2 fun x7 w8 =>
      newC w8 #[(.int .i64 (0 : Int)), (.int .i64 (0 : Int)), (.int .i64 (0 : Int)), (.int .i64 (0 : Int)), (.int .i64 (0 : Int))] 43 fun a9 w10 =>
      samec 1 (Addr.add a5 0) w2 w10 (
      samec 19 (Addr.add a3 0) w2 w10 (
      stA 5 w10 a9 (x7.1, x7.2).1 fun w11 =>
      (J1 (a9, (x7.1, x7.2).2) w11)))) (
      newC w2 #[(.int .i64 (0 : Int)), (.int .i64 (0 : Int)), (.int .i64 (0 : Int)), (.int .i64 (0 : Int)), (.int .i64 (0 : Int))] 43 fun a12 w13 =>
      samec 1 (Addr.add a5 0) w2 w13 (
      samec 19 (Addr.add a3 0) w2 w13 (
      frame_Frame_Next cs4 cs6 w13 fun x14 w15 =>
      stA 5 w15 a12 (x14.1, x14.2).1 fun w16 =>
      (J1 (a12, (x14.1, x14.2).2) w16))))) fun x17 w18 =>
  joinP (S := Unit) (fun J19 =>
    iteB (x17.2 != (0 : Int)) (
      (q (.iface 45 (.int .i64 x17.2)) w18)) (
      (J19 () w18))) fun u20 w21 =>
  joinP (S := Bool) (fun J22 =>
    nn t_1 fun a23 =>
    ldI .i64 w21 (Addr.add (Addr.add a23 0) 18) fun i24 =>
    iteB (i24 == (0 : Int)) (
      nn t_1 fun a25 =>
      ldP w21 (Addr.add a25 20) fun p26 =>
      serial_scope_cancelled p26 w21 fun b27 w28 =>
      (J22 b27 w28)) (
      ldI .i64 w21 (Addr.add x17.1 0) fun i29 =>
      code_Point i29 w21 fun b30 w31 =>
      iteB b30 (
        nn t_1 fun a32 =>
        ldP w31 (Addr.add a32 20) fun p33 =>
        serial_scope_cancelled p33 w31 fun b34 w35 =>
        (J22 b34 w35)) (
        (J22 false w31)))) fun b36 w37 =>
  iteB b36 (
    serial_machine_end m_0 t_1 (4 : Int) (0 : Int) w37 fun _u w38 =>
    (k () w38)) (
    drew w37 fun w39 =>
    nn m_0 fun a40 =>
    ldI .i64 w39 (Addr.add a40 2) fun i41 =>
    nn m_0 fun a42 =>
    ldI .i64 w39 (Addr.add a42 1) fun i43 =>
    joinP (S := Unit) (fun J44 =>
      iteB (decide (i41 ≥ i43)) (
        (q (.iface 45 (.int .i64 (22 : Int))) w39)) (
        (J44 () w39))) fun u45 w46 =>
    joinP (S := Bool) (fun J47 =>
      ldI .i64 w46 (Addr.add x17.1 0) fun i48 =>
      iteB (i48 == (8 : Int)) (
        (J47 true w46)) (
        ldI .i64 w46 (Addr.add x17.1 0) fun i49 =>
        (J47 (i49 == (11 : Int)) w46))) fun b50 w51 =>
    joinP (S := Unit) (fun J52 =>
      iteB b50 (
        nn t_1 fun a53 =>
        ldP w51 (Addr.add a53 21) fun p54 =>
        serial_deep p54 w51 q fun _u w55 =>
        (J52 () w55)) (
        (J52 () w51))) fun u56 w57 =>
    nn m_0 fun a58 =>
    ldI .i64 w57 (Addr.add a58 2) fun i59 =>
    nn m_0 fun a60 =>
    stC w57 (Addr.add a60 2) (.int .i64 (IntKind.wrap .i64 (i59 + (1 : Int)))) fun w61 =>
    joinP (S := (Addr × Bool)) (fun J62 =>
      drew w61 fun w63 =>
      nn t_1 fun a64 =>
      ldA 19 w63 (Addr.add a64 0) fun cs65 =>
      ldA 5 w63 x17.1 fun cs66 =>
      both (
        frame_Frame_Plain cs65 cs66 w63 fun x67 w68 =>
        newC w68 #[(.int .i64 (0 : Int)), (.int .i64 (0 : Int)), (.int .i64 (0 : Int)), (.int .i64 (0 : Int)), (.int .i64 (0 : Int)), (.int .i64 (0 : Int)), (.int .i64 (0 : Int)), (.int .i64 (0 : Int)), (.int .i64 (0 : Int)), (.int .i64 (0 : Int)), (.int .i64 (0 : Int)), (.int .i64 (0 : Int)), (.int .i64 (0 : Int)), (.int .i64 (0 : Int)), (.int .i64 (0 : Int)), (.int .i64 (0 : Int)), (.int .i64 (0 : Int)), (.int .i64 (0 : Int)), (.int .i64 (0 : Int))] 54 fun a69 w70 =>
        samec 5 x17.1 w63 w70 (
        samec 19 (Addr.add a64 0) w63 w70 (
        stA 19 w70 a69 (x67.1, x67.2).1 fun w71 =>
        (J62 (a69, (x67.1, x67.2).2) w71)))) (
        newC w63 #[(.int .i64 (0 : Int)), (.int .i64 (0 : Int)), (.int .i64 (0 : Int)), (.int .i64 (0 : Int)), (.int .i64 (0 : Int)), (.int .i64 (0 : Int)), (.int .i64 (0 : Int)), (.int .i64 (0 : Int)), (.int .i64 (0 : Int)), (.int .i64 (0 : Int)), (.int .i64 (0 : Int)), (.int .i64 (0 : Int)), (.int .i64 (0 : Int)), (.int .i64 (0 : Int)), (.int .i64 (0 : Int)), (.int .i64 (0 : Int)), (.int .i64 (0 : Int)), (.int .i64 (0 : Int)), (.int .i64 (0 : Int))] 54 fun a72 w73 =>
        samec 5 x17.1 w63 w73 (
        samec 19 (Addr.add a64 0) w63 w73 (
        frame_Frame_Plain cs65 cs66 w73 fun x74 w75 =>
        stA 19 w75 a72 (x74.1, x74.2).1 fun w76 =>
        (J62 (a72, (x74.1, x74.2).2) w76))))) fun x77 w78 =>
    iteB x77.2 (
      ldA 19 w78 x77.1 fun cs79 =>
      nn t_1 fun a80 =>
      stA 19 w78 (Addr.add a80 0) cs79 fun w81 =>
      (k () w81)) (
      newC w78 #[(.func (.func n_serial_machine_fork) #[(.pointer m_0)] #[]), (.func (.func n_serial_machine_join) #[(.pointer m_0)] #[]), (.func (.func n_serial_machine_join) #[(.pointer m_0)] #[]), (.func (.func n_serial_machine_open) #[(.pointer m_0)] #[]), (.func (.func n_serial_machine_close) #[(.pointer m_0)] #[]), (.func (.func n_serial_machine_cancel) #[(.pointer m_0)] #[]), (.func (.func n_serial_machine_pass) #[(.pointer m_0)] #[]), (.func (.func n_serial_machine_leave) #[(.pointer m_0)] #[]), (.func (.func n_serial_machine_leave) #[(.pointer m_0)] #[])] 81 fun a82 w83 =>
      drew w83 fun w84 =>
      ldI .i64 w84 (Addr.add x17.1 0) fun i85 =>
      ixS (Sl.mk (some a82) 9 9) (IntKind.wrap .i64 (i85 - (8 : Int))) 1 fun a86 =>
      ldV w84 a86 fun v87 =>
      ldA 5 w84 x17.1 fun cs88 =>
      callF (orcP [(n_frame_Frame_Next, (fun args w c _ => unL [.ag, .ag] args fun x => frame_Frame_Next x.1 x.2 w fun r w => c (packV (valL [.ag, (.i .i64)] r)) w)), (n_serial_scope_cancelled, (fun args w c _ => unL [.p] args fun x => serial_scope_cancelled x w fun r w => c (packV (valL [.b] r)) w)), (n_code_Point, (fun args w c _ => unL [(.i .i64)] args fun x => code_Point x w fun r w => c (packV (valL [.b] r)) w)), (n_serial_machine_end, (fun args w c _ => unL [.p, .p, (.i .i64), (.i .i64)] args fun x => serial_machine_end x.1 x.2.1 x.2.2.1 x.2.2.2 w fun r w => c (packV (valL [] r)) w)), (n_serial_deep, (fun args w c q => unL [.p] args fun x => serial_deep x w q fun r w => c (packV (valL [] r)) w)), (n_frame_Frame_Plain, (fun args w c _ => unL [.ag, .ag] args fun x => frame_Frame_Plain x.1 x.2 w fun r w => c (packV (valL [.ag, .b] r)) w)), (n_serial_machine_fork, (fun args w c q => unL [.p, .p, .ag] args fun x => serial_machine_fork x.1 x.2.1 x.2.2 w q fun r w => c (packV (valL [] r)) w)), (n_serial_machine_join, (fun args w c _ => unL [.p, .p, .ag] args fun x => serial_machine_join x.1 x.2.1 x.2.2 w fun r w => c (packV (valL [] r)) w)), (n_serial_machine_open, (fun args w c _ => unL [.p, .p, .ag] args fun x => serial_machine_open x.1 x.2.1 x.2.2 w fun r w => c (packV (valL [] r)) w)), (n_serial_machine_close, (fun args w c _ => unL [.p, .p, .ag] args fun x => serial_machine_close x.1 x.2.1 x.2.2 w fun r w => c (packV (valL [] r)) w)), (n_serial_machine_cancel, (fun args w c _ => unL [.p, .p, .ag] args fun x => serial_machine_cancel x.1 x.2.1 x.2.2 w fun r w => c (packV (valL [] r)) w)), (n_serial_machine_pass, (fun args w c _ => unL [.p, .p, .ag] args fun x => serial_machine_pass x.1 x.2.1 x.2.2 w fun r w => c (packV (valL [] r)) w)), (n_serial_machine_leave, (fun args w c _ => unL [.p, .p, .ag] args fun x => serial_machine_leave x.1 x.2.1 x.2.2 w fun r w => c (packV (valL [] r)) w))] q) v87 #[(.pointer t_1), (.agg cs88)] w84 fun v89 w90 =>
      unT [] v89 fun (u91 : Unit) =>
      (k () w90)))
theorem e_serial_machine_step (frame_Frame_Next : Array Value → Array Value → World → ((Array Value × Int) → World → Prop) → Prop) (serial_scope_cancelled : Option Addr → World → ((Bool) → World → Prop) → Prop) (code_Point : Int → World → ((Bool) → World → Prop) → Prop) (serial_machine_end : Option Addr → Option Addr → Int → Int → World → (Unit → World → Prop) → Prop) (serial_deep : Option Addr → World → (Value → World → Prop) → (Unit → World → Prop) → Prop) (frame_Frame_Plain : Array Value → Array Value → World → ((Array Value × Bool) → World → Prop) → Prop) (serial_machine_fork : Option Addr → Option Addr → Array Value → World → (Value → World → Prop) → (Unit → World → Prop) → Prop) (serial_machine_join : Option Addr → Option Addr → Array Value → World → (Unit → World → Prop) → Prop) (serial_machine_open : Option Addr → Option Addr → Array Value → World → (Unit → World → Prop) → Prop) (serial_machine_close : Option Addr → Option Addr → Array Value → World → (Unit → World → Prop) → Prop) (serial_machine_cancel : Option Addr → Option Addr → Array Value → World → (Unit → World → Prop) → Prop) (serial_machine_pass : Option Addr → Option Addr → Array Value → World → (Unit → World → Prop) → Prop) (serial_machine_leave : Option Addr → Option Addr → Array Value → World → (Unit → World → Prop) → Prop) (x : KT [.p, .p]) (w : World) (k : KT [] → World → Prop) (q : Value → World → Prop) : evFn Go.Proofs.Try.prog (orcP [(n_frame_Frame_Next, (fun args w c _ => unL [.ag, .ag] args fun x => frame_Frame_Next x.1 x.2 w fun r w => c (packV (valL [.ag, (.i .i64)] r)) w)), (n_serial_scope_cancelled, (fun args w c _ => unL [.p] args fun x => serial_scope_cancelled x w fun r w => c (packV (valL [.b] r)) w)), (n_code_Point, (fun args w c _ => unL [(.i .i64)] args fun x => code_Point x w fun r w => c (packV (valL [.b] r)) w)), (n_serial_machine_end, (fun args w c _ => unL [.p, .p, (.i .i64), (.i .i64)] args fun x => serial_machine_end x.1 x.2.1 x.2.2.1 x.2.2.2 w fun r w => c (packV (valL [] r)) w)), (n_serial_deep, (fun args w c q => unL [.p] args fun x => serial_deep x w q fun r w => c (packV (valL [] r)) w)), (n_frame_Frame_Plain, (fun args w c _ => unL [.ag, .ag] args fun x => frame_Frame_Plain x.1 x.2 w fun r w => c (packV (valL [.ag, .b] r)) w)), (n_serial_machine_fork, (fun args w c q => unL [.p, .p, .ag] args fun x => serial_machine_fork x.1 x.2.1 x.2.2 w q fun r w => c (packV (valL [] r)) w)), (n_serial_machine_join, (fun args w c _ => unL [.p, .p, .ag] args fun x => serial_machine_join x.1 x.2.1 x.2.2 w fun r w => c (packV (valL [] r)) w)), (n_serial_machine_open, (fun args w c _ => unL [.p, .p, .ag] args fun x => serial_machine_open x.1 x.2.1 x.2.2 w fun r w => c (packV (valL [] r)) w)), (n_serial_machine_close, (fun args w c _ => unL [.p, .p, .ag] args fun x => serial_machine_close x.1 x.2.1 x.2.2 w fun r w => c (packV (valL [] r)) w)), (n_serial_machine_cancel, (fun args w c _ => unL [.p, .p, .ag] args fun x => serial_machine_cancel x.1 x.2.1 x.2.2 w fun r w => c (packV (valL [] r)) w)), (n_serial_machine_pass, (fun args w c _ => unL [.p, .p, .ag] args fun x => serial_machine_pass x.1 x.2.1 x.2.2 w fun r w => c (packV (valL [] r)) w)), (n_serial_machine_leave, (fun args w c _ => unL [.p, .p, .ag] args fun x => serial_machine_leave x.1 x.2.1 x.2.2 w fun r w => c (packV (valL [] r)) w))] q) 38685635469058967005561331 [(0, [(4, .a), (5, (.i .i64))]), (2, []), (4, [(42, .b)]), (8, []), (10, [(63, .b)]), (11, []), (14, [(6, .a), (7, .b)])] Go.Proofs.Try.f20 [] (valL [.p, .p] x) w k = serial_machine_step_b frame_Frame_Next serial_scope_cancelled code_Point serial_machine_end serial_deep frame_Frame_Plain serial_machine_fork serial_machine_join serial_machine_open serial_machine_close serial_machine_cancel serial_machine_pass serial_machine_leave x.1 x.2 w q k := by kernel_rfl
theorem s_serial_machine_step_b (frame_Frame_Next : Array Value → Array Value → World → ((Array Value × Int) → World → Prop) → Prop) (serial_scope_cancelled : Option Addr → World → ((Bool) → World → Prop) → Prop) (code_Point : Int → World → ((Bool) → World → Prop) → Prop) (serial_machine_end : Option Addr → Option Addr → Int → Int → World → (Unit → World → Prop) → Prop) (serial_deep : Option Addr → World → (Value → World → Prop) → (Unit → World → Prop) → Prop) (frame_Frame_Plain : Array Value → Array Value → World → ((Array Value × Bool) → World → Prop) → Prop) (serial_machine_fork : Option Addr → Option Addr → Array Value → World → (Value → World → Prop) → (Unit → World → Prop) → Prop) (serial_machine_join : Option Addr → Option Addr → Array Value → World → (Unit → World → Prop) → Prop) (serial_machine_open : Option Addr → Option Addr → Array Value → World → (Unit → World → Prop) → Prop) (serial_machine_close : Option Addr → Option Addr → Array Value → World → (Unit → World → Prop) → Prop) (serial_machine_cancel : Option Addr → Option Addr → Array Value → World → (Unit → World → Prop) → Prop) (serial_machine_pass : Option Addr → Option Addr → Array Value → World → (Unit → World → Prop) → Prop) (serial_machine_leave : Option Addr → Option Addr → Array Value → World → (Unit → World → Prop) → Prop) (h_frame_Frame_Next : SoundP Go.Proofs.Try.prog n_frame_Frame_Next (fun args w c _ => unL [.ag, .ag] args fun x => frame_Frame_Next x.1 x.2 w fun r w => c (packV (valL [.ag, (.i .i64)] r)) w)) (h_serial_scope_cancelled : SoundP Go.Proofs.Try.prog n_serial_scope_cancelled (fun args w c _ => unL [.p] args fun x => serial_scope_cancelled x w fun r w => c (packV (valL [.b] r)) w)) (h_code_Point : SoundP Go.Proofs.Try.prog n_code_Point (fun args w c _ => unL [(.i .i64)] args fun x => code_Point x w fun r w => c (packV (valL [.b] r)) w)) (h_serial_machine_end : SoundP Go.Proofs.Try.prog n_serial_machine_end (fun args w c _ => unL [.p, .p, (.i .i64), (.i .i64)] args fun x => serial_machine_end x.1 x.2.1 x.2.2.1 x.2.2.2 w fun r w => c (packV (valL [] r)) w)) (h_serial_deep : SoundP Go.Proofs.Try.prog n_serial_deep (fun args w c q => unL [.p] args fun x => serial_deep x w q fun r w => c (packV (valL [] r)) w)) (h_frame_Frame_Plain : SoundP Go.Proofs.Try.prog n_frame_Frame_Plain (fun args w c _ => unL [.ag, .ag] args fun x => frame_Frame_Plain x.1 x.2 w fun r w => c (packV (valL [.ag, .b] r)) w)) (h_serial_machine_fork : SoundP Go.Proofs.Try.prog n_serial_machine_fork (fun args w c q => unL [.p, .p, .ag] args fun x => serial_machine_fork x.1 x.2.1 x.2.2 w q fun r w => c (packV (valL [] r)) w)) (h_serial_machine_join : SoundP Go.Proofs.Try.prog n_serial_machine_join (fun args w c _ => unL [.p, .p, .ag] args fun x => serial_machine_join x.1 x.2.1 x.2.2 w fun r w => c (packV (valL [] r)) w)) (h_serial_machine_open : SoundP Go.Proofs.Try.prog n_serial_machine_open (fun args w c _ => unL [.p, .p, .ag] args fun x => serial_machine_open x.1 x.2.1 x.2.2 w fun r w => c (packV (valL [] r)) w)) (h_serial_machine_close : SoundP Go.Proofs.Try.prog n_serial_machine_close (fun args w c _ => unL [.p, .p, .ag] args fun x => serial_machine_close x.1 x.2.1 x.2.2 w fun r w => c (packV (valL [] r)) w)) (h_serial_machine_cancel : SoundP Go.Proofs.Try.prog n_serial_machine_cancel (fun args w c _ => unL [.p, .p, .ag] args fun x => serial_machine_cancel x.1 x.2.1 x.2.2 w fun r w => c (packV (valL [] r)) w)) (h_serial_machine_pass : SoundP Go.Proofs.Try.prog n_serial_machine_pass (fun args w c _ => unL [.p, .p, .ag] args fun x => serial_machine_pass x.1 x.2.1 x.2.2 w fun r w => c (packV (valL [] r)) w)) (h_serial_machine_leave : SoundP Go.Proofs.Try.prog n_serial_machine_leave (fun args w c _ => unL [.p, .p, .ag] args fun x => serial_machine_leave x.1 x.2.1 x.2.2 w fun r w => c (packV (valL [] r)) w)) : SoundP Go.Proofs.Try.prog n_serial_machine_step fun args w c q => unL [.p, .p] args fun x => serial_machine_step_b frame_Frame_Next serial_scope_cancelled code_Point serial_machine_end serial_deep frame_Frame_Plain serial_machine_fork serial_machine_join serial_machine_open serial_machine_close serial_machine_cancel serial_machine_pass serial_machine_leave x.1 x.2 w q fun r w => c (packV (valL [] r)) w :=
  sound_p (mask := 38685635469058967005561331) (h := [(0, [(4, .a), (5, (.i .i64))]), (2, []), (4, [(42, .b)]), (8, []), (10, [(63, .b)]), (11, []), (14, [(6, .a), (7, .b)])]) (ds := [(n_frame_Frame_Next, (fun args w c _ => unL [.ag, .ag] args fun x => frame_Frame_Next x.1 x.2 w fun r w => c (packV (valL [.ag, (.i .i64)] r)) w)), (n_serial_scope_cancelled, (fun args w c _ => unL [.p] args fun x => serial_scope_cancelled x w fun r w => c (packV (valL [.b] r)) w)), (n_code_Point, (fun args w c _ => unL [(.i .i64)] args fun x => code_Point x w fun r w => c (packV (valL [.b] r)) w)), (n_serial_machine_end, (fun args w c _ => unL [.p, .p, (.i .i64), (.i .i64)] args fun x => serial_machine_end x.1 x.2.1 x.2.2.1 x.2.2.2 w fun r w => c (packV (valL [] r)) w)), (n_serial_deep, (fun args w c q => unL [.p] args fun x => serial_deep x w q fun r w => c (packV (valL [] r)) w)), (n_frame_Frame_Plain, (fun args w c _ => unL [.ag, .ag] args fun x => frame_Frame_Plain x.1 x.2 w fun r w => c (packV (valL [.ag, .b] r)) w)), (n_serial_machine_fork, (fun args w c q => unL [.p, .p, .ag] args fun x => serial_machine_fork x.1 x.2.1 x.2.2 w q fun r w => c (packV (valL [] r)) w)), (n_serial_machine_join, (fun args w c _ => unL [.p, .p, .ag] args fun x => serial_machine_join x.1 x.2.1 x.2.2 w fun r w => c (packV (valL [] r)) w)), (n_serial_machine_open, (fun args w c _ => unL [.p, .p, .ag] args fun x => serial_machine_open x.1 x.2.1 x.2.2 w fun r w => c (packV (valL [] r)) w)), (n_serial_machine_close, (fun args w c _ => unL [.p, .p, .ag] args fun x => serial_machine_close x.1 x.2.1 x.2.2 w fun r w => c (packV (valL [] r)) w)), (n_serial_machine_cancel, (fun args w c _ => unL [.p, .p, .ag] args fun x => serial_machine_cancel x.1 x.2.1 x.2.2 w fun r w => c (packV (valL [] r)) w)), (n_serial_machine_pass, (fun args w c _ => unL [.p, .p, .ag] args fun x => serial_machine_pass x.1 x.2.1 x.2.2 w fun r w => c (packV (valL [] r)) w)), (n_serial_machine_leave, (fun args w c _ => unL [.p, .p, .ag] args fun x => serial_machine_leave x.1 x.2.1 x.2.2 w fun r w => c (packV (valL [] r)) w))]) mixed Go.Proofs.Try.func20 ⟨h_frame_Frame_Next, h_serial_scope_cancelled, h_code_Point, h_serial_machine_end, h_serial_deep, h_frame_Frame_Plain, h_serial_machine_fork, h_serial_machine_join, h_serial_machine_open, h_serial_machine_close, h_serial_machine_cancel, h_serial_machine_pass, h_serial_machine_leave, trivial⟩
    [.p, .p] [] (by kernel_rfl) (fun x w k q => serial_machine_step_b frame_Frame_Next serial_scope_cancelled code_Point serial_machine_end serial_deep frame_Frame_Plain serial_machine_fork serial_machine_join serial_machine_open serial_machine_close serial_machine_cancel serial_machine_pass serial_machine_leave x.1 x.2 w q k) (fun x w k q => e_serial_machine_step frame_Frame_Next serial_scope_cancelled code_Point serial_machine_end serial_deep frame_Frame_Plain serial_machine_fork serial_machine_join serial_machine_open serial_machine_close serial_machine_cancel serial_machine_pass serial_machine_leave x w k q)

/-- peloton/serial.Run$2 -/
def serial_Run_2_b (serial_scope_within : Option Addr → Int → World → ((Option Addr) → World → Prop) → Prop) (serial_machine_step : Option Addr → Option Addr → World → (Value → World → Prop) → (Unit → World → Prop) → Prop) (f_0 : Array Value) (parent_1 : Int) (in_2 : Option Addr) (_3 : Addr) (w : World) (q : Value → World → Prop) (k : (Int) → World → Prop) : Prop :=
  newC w f_0 54 fun a1 w2 =>
  drew w2 fun w3 =>
  ldA 19 w3 a1 fun cs4 =>
  ldP w3 _3 fun p5 =>
  nn p5 fun a6 =>
  ldS w3 (Addr.add a6 3) fun s7 =>
  serial_scope_within in_2 (0 : Int) w3 fun p8 w9 =>
  samec 1 (Addr.add a6 3) w3 w9 (
  samec 1 _3 w3 w9 (
  samec 19 a1 w3 w9 (
  spl #[(.int .i64 (0 : Int)), (.int .i64 (0 : Int)), (.int .i64 (0 : Int)), (.int .i64 (0 : Int)), (.int .i64 (0 : Int)), (.int .i64 (0 : Int)), (.int .i64 (0 : Int)), (.int .i64 (0 : Int)), (.int .i64 (0 : Int)), (.int .i64 (0 : Int)), (.int .i64 (0 : Int)), (.int .i64 (0 : Int)), (.int .i64 (0 : Int)), (.int .i64 (0 : Int)), (.int .i64 (0 : Int)), (.int .i64 (0 : Int)), (.int .i64 (0 : Int)), (.int .i64 (0 : Int)), (.int .i64 (0 : Int)), (.int .i64 (0 : Int)), (.pointer none), (.pointer none), (.int .i64 (0 : Int)), (.bool false)] 0 19 cs4 fun cs10 =>
  newC w9 (Array.setIfInBounds (Array.setIfInBounds (Array.setIfInBounds cs10 19 (.int .i64 ((s7.n : Nat) : Int))) 20 (.pointer in_2)) 21 (.pointer p8)) 59 fun a11 w12 =>
  nn in_2 fun a13 =>
  ldI .i64 w12 (Addr.add a13 2) fun i14 =>
  joinP (S := Int) (fun J15 =>
    iteB (decide (parent_1 < (0 : Int))) (
      (J15 (0 : Int) w12)) (
      (J15 i14 w12))) fun i16 w17 =>
  drew w17 fun w18 =>
  ldP w18 _3 fun p19 =>
  ldP w18 _3 fun p20 =>
  nn p20 fun a21 =>
  ldS w18 (Addr.add a21 3) fun s22 =>
  ldI .i64 w18 (Addr.add a1 0) fun i23 =>
  samec 1 (Addr.add a21 3) w18 w18 (
  samec 1 _3 w18 w18 (
  samec 1 _3 w18 w18 (
  spl #[(.int .i64 (0 : Int)), (.int .i64 (0 : Int)), (.int .i64 (0 : Int)), (.int .i64 (0 : Int)), (.int .i64 (0 : Int)), (.int .i64 (0 : Int)), (.string (ByteArray.mk #[]))] 0 7 #[(.int .i64 parent_1), (.int .i64 i16), (.int .i64 i23), (.int .i64 (0 : Int)), (.int .i64 (0 : Int)), (.int .i64 (0 : Int)), (.string (ByteArray.mk #[]))] fun cs24 =>
  newC w18 cs24 34 fun a25 w26 =>
  samec 1 (Addr.add a21 3) w18 w26 (
  samec 1 _3 w18 w26 (
  samec 1 _3 w18 w26 (
  bApp Go.Proofs.Try.prog #[28, 28] 28 [(.slice s22.a s22.n s22.c), (.slice (some a25) 1 1)] w26 fun s27 w28 =>
  samec 1 _3 w18 w28 (
  nn p19 fun a29 =>
  stC w28 (Addr.add a29 3) (.slice s27.a s27.n s27.c) fun w30 =>
  loopP (S := Unit) (fun C31 u32 w33 =>
    ldB w33 (Addr.add a11 23) fun b34 =>
    iteB (!b34) (
      ldP w33 _3 fun p35 =>
      serial_machine_step p35 (some a11) w33 q fun _u w36 =>
      (C31 () w36)) (
      ldI .i64 w33 (Addr.add a11 19) fun i37 =>
      (k i37 w33))) () w30))))))))))
theorem e_serial_Run_2 (serial_scope_within : Option Addr → Int → World → ((Option Addr) → World → Prop) → Prop) (serial_machine_step : Option Addr → Option Addr → World → (Value → World → Prop) → (Unit → World → Prop) → Prop) (x : KT [.ag, (.i .i64), .p, .a]) (w : World) (k : KT [(.i .i64)] → World → Prop) (q : Value → World → Prop) : evFn Go.Proofs.Try.prog (orcP [(n_serial_scope_within, (fun args w c _ => unL [.p, (.i .i64)] args fun x => serial_scope_within x.1 x.2 w fun r w => c (packV (valL [.p] r)) w)), (n_serial_machine_step, (fun args w c q => unL [.p, .p] args fun x => serial_machine_step x.1 x.2 w q fun r w => c (packV (valL [] r)) w))] q) 35184439198622 [(4, [(9, (.i .i64))]), (8, [])] Go.Proofs.Try.f18 [(.i .i64)] (valL [.ag, (.i .i64), .p, .a] x) w k = serial_Run_2_b serial_scope_within serial_machine_step x.1 x.2.1 x.2.2.1 x.2.2.2 w q k := by kernel_rfl
theorem s_serial_Run_2_b (serial_scope_within : Option Addr → Int → World → ((Option Addr) → World → Prop) → Prop) (serial_machine_step : Option Addr → Option Addr → World → (Value → World → Prop) → (Unit → World → Prop) → Prop) (h_serial_scope_within : SoundP Go.Proofs.Try.prog n_serial_scope_within (fun args w c _ => unL [.p, (.i .i64)] args fun x => serial_scope_within x.1 x.2 w fun r w => c (packV (valL [.p] r)) w)) (h_serial_machine_step : SoundP Go.Proofs.Try.prog n_serial_machine_step (fun args w c q => unL [.p, .p] args fun x => serial_machine_step x.1 x.2 w q fun r w => c (packV (valL [] r)) w)) : SoundP Go.Proofs.Try.prog n_serial_Run_2 fun args w c q => unL [.ag, (.i .i64), .p, .a] args fun x => serial_Run_2_b serial_scope_within serial_machine_step x.1 x.2.1 x.2.2.1 x.2.2.2 w q fun r w => c (packV (valL [(.i .i64)] r)) w :=
  sound_p (mask := 35184439198622) (h := [(4, [(9, (.i .i64))]), (8, [])]) (ds := [(n_serial_scope_within, (fun args w c _ => unL [.p, (.i .i64)] args fun x => serial_scope_within x.1 x.2 w fun r w => c (packV (valL [.p] r)) w)), (n_serial_machine_step, (fun args w c q => unL [.p, .p] args fun x => serial_machine_step x.1 x.2 w q fun r w => c (packV (valL [] r)) w))]) mixed Go.Proofs.Try.func18 ⟨h_serial_scope_within, h_serial_machine_step, trivial⟩
    [.ag, (.i .i64), .p, .a] [(.i .i64)] (by kernel_rfl) (fun x w k q => serial_Run_2_b serial_scope_within serial_machine_step x.1 x.2.1 x.2.2.1 x.2.2.2 w q k) (fun x w k q => e_serial_Run_2 serial_scope_within serial_machine_step x w k q)

/-- peloton/serial.Run$1 -/
def serial_Run_1_R (c_0 : Addr) (c_1 : Addr) (c_2 : Addr) (w : World) (k : World → Prop) : Prop :=
  (k w)
def serial_Run_1_P (c_0 : Addr) (c_1 : Addr) (c_2 : Addr) (t : TypeId) (v : Value) (w : World) (k : World → Prop) : Prop :=
  tyA Go.Proofs.Try.prog (.iface t v) 20 45 true w fun v1 w2 =>
  unT [(.i .i64), .b] v1 fun (x3 : Int × Bool) =>
  iteB (!x3.2) (
    False) (
    stC w2 c_0 (.slice none 0 0) fun w4 =>
    stC w4 c_1 (.int .i64 (0 : Int)) fun w5 =>
    stC w5 c_2 (.int .i64 x3.1) fun w6 =>
    (k w6))
def serial_Run_1_Q (c_0 : Addr) (c_1 : Addr) (c_2 : Addr) (rv : Value) (w : World) (k : World → Prop) : Prop := match rv with | .iface t v => serial_Run_1_P c_0 c_1 c_2 t v w k | _ => False
theorem e_serial_Run_1_R (x : KT [.a, .a, .a]) (w : World) (k : World → Prop) : evRecv Go.Proofs.Try.prog (orcOf []) 262143 (dOf (rRc Go.Proofs.Try.f17)) (dOf (rAs Go.Proofs.Try.f17)) (rRest Go.Proofs.Try.f17) (valL [.a, .a, .a] x) .nilIface w k = serial_Run_1_R x.1 x.2.1 x.2.2 w k := by kernel_rfl
theorem e_serial_Run_1_P (x : KT [.a, .a, .a]) (t : TypeId) (v : Value) (w : World) (k : World → Prop) : evRecv Go.Proofs.Try.prog (orcOf []) 262143 (dOf (rRc Go.Proofs.Try.f17)) (dOf (rAs Go.Proofs.Try.f17)) (rRest Go.Proofs.Try.f17) (valL [.a, .a, .a] x) (.iface t v) w k = serial_Run_1_P x.1 x.2.1 x.2.2 t v w k := by kernel_rfl
theorem sr_serial_Run_1 : DR Go.Proofs.Try.prog n_serial_Run_1 fun l w k => unL [.a, .a, .a] l fun x => serial_Run_1_R x.1 x.2.1 x.2.2 w k := fun l w k h => by
  obtain ⟨x, rfl, h⟩ := unL_inv h
  exact recv_ret (mask := 262143) (rid := (rParts Go.Proofs.Try.f17).1) (rc := rRc Go.Proofs.Try.f17) (as_ := rAs Go.Proofs.Try.f17) (r := dOf (rRc Go.Proofs.Try.f17)) (s := dOf (rAs Go.Proofs.Try.f17)) (rest := rRest Go.Proofs.Try.f17) (n := 3) mixed Go.Proofs.Try.func17 (by kernel_rfl) (by kernel_rfl) (by kernel_rfl) (by kernel_rfl) (by kernel_rfl) ⟨by kernel_rfl, by kernel_rfl, by kernel_rfl, by kernel_rfl, by kernel_rfl, by kernel_rfl⟩ (orc_ok (l := []) trivial) _ w k ⟨by rfl, by rw [e_serial_Run_1_R]; exact h⟩
theorem sp_serial_Run_1 : DP Go.Proofs.Try.prog n_serial_Run_1 fun l v w k => unL [.a, .a, .a] l fun x => serial_Run_1_Q x.1 x.2.1 x.2.2 v w k := fun l rv w k h => by
  obtain ⟨x, rfl, h⟩ := unL_inv h
  cases rv with
  | iface t v => exact recv_pan (mask := 262143) (rid := (rParts Go.Proofs.Try.f17).1) (rc := rRc Go.Proofs.Try.f17) (as_ := rAs Go.Proofs.Try.f17) (r := dOf (rRc Go.Proofs.Try.f17)) (s := dOf (rAs Go.Proofs.Try.f17)) (rest := rRest Go.Proofs.Try.f17) (n := 3) mixed Go.Proofs.Try.func17 (by kernel_rfl) (by kernel_rfl) (by kernel_rfl) (by kernel_rfl) (by kernel_rfl) ⟨by kernel_rfl, by kernel_rfl, by kernel_rfl, by kernel_rfl, by kernel_rfl, by kernel_rfl⟩ (orc_ok (l := []) trivial) _ _ w k ⟨by rfl, by rw [e_serial_Run_1_P]; exact h⟩
  | _ => exact h.elim

/-- peloton/serial.Run -/
def serial_Run_b (check_Accepts : Array Value → World → ((Bool) → World → Prop) → Prop) (frame_Root : World → ((Array Value) → World → Prop) → Prop) (serial_Run_2 : Array Value → Int → Option Addr → Addr → World → (Value → World → Prop) → ((Int) → World → Prop) → Prop) (R : Addr → Addr → Addr → World → (World → Prop) → Prop) (Q : Addr → Addr → Addr → Value → World → (World → Prop) → Prop) (p_0 : Array Value) (fuel_1 : Int) (w : World) (k : (Sl × Int × Int) → World → Prop) : Prop :=
  newC w p_0 24 fun a1 w2 =>
  newC w2 #[(.slice none 0 0)] 28 fun a3 w4 =>
  newC w4 #[(.int .i64 (0 : Int))] 3 fun a5 w6 =>
  newC w6 #[(.int .i64 (0 : Int))] 29 fun a7 w8 =>
  ldA 1 w8 a1 fun cs9 =>
  check_Accepts cs9 w8 fun b10 w11 =>
  iteB (!b10) (
    stC w11 a3 (.slice none 0 0) fun w12 =>
    stC w12 a5 (.int .i64 (0 : Int)) fun w13 =>
    stC w13 a7 (.int .i64 (24 : Int)) fun w14 =>
    ldS w14 a3 fun s15 =>
    ldI .i64 w14 a5 fun i16 =>
    ldI .i64 w14 a7 fun i17 =>
    (k (s15, (i16, i17)) w14)) (
    iteB ((decide (fuel_1 < (0 : Int))) || (decide (fuel_1 > (1048576 : Int)))) (
      stC w11 a3 (.slice none 0 0) fun w18 =>
      stC w18 a5 (.int .i64 (0 : Int)) fun w19 =>
      stC w19 a7 (.int .i64 (10 : Int)) fun w20 =>
      ldS w20 a3 fun s21 =>
      ldI .i64 w20 a5 fun i22 =>
      ldI .i64 w20 a7 fun i23 =>
      (k (s21, (i22, i23)) w20)) (
      ldA 1 w11 a1 fun cs24 =>
      spl #[(.slice none 0 0), (.int .i64 (0 : Int)), (.int .i64 (0 : Int)), (.slice none 0 0), .nilFunc] 0 1 cs24 fun cs25 =>
      newC w11 (Array.setIfInBounds cs25 1 (.int .i64 fuel_1)) 50 fun a26 w27 =>
      newC w27 #[(.pointer none)] 47 fun a28 w29 =>
      stC w29 a28 (.pointer (some a26)) fun w30 =>
      ldP w30 a28 fun p31 =>
      nn p31 fun a32 =>
      stC w30 (Addr.add a32 4) (.func (.func n_serial_Run_2) #[] #[(.pointer (some a28))]) fun w33 =>
      drew w33 fun w34 =>
      ldP w34 a28 fun p35 =>
      nn p35 fun a36 =>
      ldV w34 (Addr.add a36 4) fun v37 =>
      both (
        frame_Root  w34 fun cs44 w45 =>
        samec 1 (Addr.add a36 4) w34 w45 (
        samec 1 a28 w34 w45 (
        samec 1 (Addr.add a36 4) w34 w45 (
        samec 1 a28 w34 w45 (
        newC w45 #[(.pointer none), (.bool false), (.int .i64 (0 : Int)), (.int .i64 (0 : Int))] 61 fun a46 w47 =>
        samec 1 (Addr.add a36 4) w34 w47 (
        samec 1 a28 w34 w47 (
        callF (orcP [(n_check_Accepts, (fun args w c _ => unL [.ag] args fun x => check_Accepts x w fun r w => c (packV (valL [.b] r)) w)), (n_frame_Root, (fun args w c _ => unL [] args fun x => frame_Root  w fun r w => c (packV (valL [.ag] r)) w)), (n_serial_Run_2, (fun args w c q => unL [.ag, (.i .i64), .p, .a] args fun x => serial_Run_2 x.1 x.2.1 x.2.2.1 x.2.2.2 w q fun r w => c (packV (valL [(.i .i64)] r)) w))] (fun v48 w49 =>
        Q a3 a5 a7 v48 w49 fun w50 =>
        ldS w50 a3 fun s51 =>
        ldI .i64 w50 a5 fun i52 =>
        ldI .i64 w50 a7 fun i53 =>
        (k (s51, (i52, i53)) w50))) v37 #[(.agg cs44), (.int .i64 (-(1 : Int))), (.pointer (some a46))] w47 fun v54 w55 =>
        toI .i64 v54 fun i56 =>
        drew w55 fun w57 =>
        ldP w57 a28 fun p58 =>
        nn p58 fun a59 =>
        ldS w57 (Addr.add a59 3) fun s60 =>
        ldP w57 a28 fun p61 =>
        nn p61 fun a62 =>
        ldI .i64 w57 (Addr.add a62 2) fun i63 =>
        stC w57 a3 (.slice s60.a s60.n s60.c) fun w64 =>
        samec 1 (Addr.add a62 2) w57 w64 (
        samec 1 a28 w57 w64 (
        stC w64 a5 (.int .i64 i63) fun w65 =>
        stC w65 a7 (.int .i64 (0 : Int)) fun w66 =>
        R a3 a5 a7 w66 fun w67 =>
        ldS w67 a3 fun s68 =>
        ldI .i64 w67 a5 fun i69 =>
        ldI .i64 w67 a7 fun i70 =>
        (k (s68, (i69, i70)) w67)))))))))) (
        samec 1 (Addr.add a36 4) w34 w34 (
        samec 1 a28 w34 w34 (
        both (
          frame_Root  w34 fun cs77 w78 =>
          samec 1 (Addr.add a36 4) w34 w78 (
          samec 1 a28 w34 w78 (
          newC w78 #[(.pointer none), (.bool false), (.int .i64 (0 : Int)), (.int .i64 (0 : Int))] 61 fun a79 w80 =>
          samec 1 (Addr.add a36 4) w34 w80 (
          samec 1 a28 w34 w80 (
          callF (orcP [(n_check_Accepts, (fun args w c _ => unL [.ag] args fun x => check_Accepts x w fun r w => c (packV (valL [.b] r)) w)), (n_frame_Root, (fun args w c _ => unL [] args fun x => frame_Root  w fun r w => c (packV (valL [.ag] r)) w)), (n_serial_Run_2, (fun args w c q => unL [.ag, (.i .i64), .p, .a] args fun x => serial_Run_2 x.1 x.2.1 x.2.2.1 x.2.2.2 w q fun r w => c (packV (valL [(.i .i64)] r)) w))] (fun v81 w82 =>
          Q a3 a5 a7 v81 w82 fun w83 =>
          ldS w83 a3 fun s84 =>
          ldI .i64 w83 a5 fun i85 =>
          ldI .i64 w83 a7 fun i86 =>
          (k (s84, (i85, i86)) w83))) v37 #[(.agg cs77), (.int .i64 (-(1 : Int))), (.pointer (some a79))] w80 fun v87 w88 =>
          toI .i64 v87 fun i89 =>
          drew w88 fun w90 =>
          ldP w90 a28 fun p91 =>
          nn p91 fun a92 =>
          ldS w90 (Addr.add a92 3) fun s93 =>
          ldP w90 a28 fun p94 =>
          nn p94 fun a95 =>
          ldI .i64 w90 (Addr.add a95 2) fun i96 =>
          stC w90 a3 (.slice s93.a s93.n s93.c) fun w97 =>
          samec 1 (Addr.add a95 2) w90 w97 (
          samec 1 a28 w90 w97 (
          stC w97 a5 (.int .i64 i96) fun w98 =>
          stC w98 a7 (.int .i64 (0 : Int)) fun w99 =>
          R a3 a5 a7 w99 fun w100 =>
          ldS w100 a3 fun s101 =>
          ldI .i64 w100 a5 fun i102 =>
          ldI .i64 w100 a7 fun i103 =>
          (k (s101, (i102, i103)) w100)))))))) (
          newC w34 #[(.pointer none), (.bool false), (.int .i64 (0 : Int)), (.int .i64 (0 : Int))] 61 fun a104 w105 =>
          samec 1 (Addr.add a36 4) w34 w105 (
          samec 1 a28 w34 w105 (
          frame_Root  w105 fun cs112 w113 =>
          samec 1 (Addr.add a36 4) w34 w113 (
          samec 1 a28 w34 w113 (
          callF (orcP [(n_check_Accepts, (fun args w c _ => unL [.ag] args fun x => check_Accepts x w fun r w => c (packV (valL [.b] r)) w)), (n_frame_Root, (fun args w c _ => unL [] args fun x => frame_Root  w fun r w => c (packV (valL [.ag] r)) w)), (n_serial_Run_2, (fun args w c q => unL [.ag, (.i .i64), .p, .a] args fun x => serial_Run_2 x.1 x.2.1 x.2.2.1 x.2.2.2 w q fun r w => c (packV (valL [(.i .i64)] r)) w))] (fun v114 w115 =>
          Q a3 a5 a7 v114 w115 fun w116 =>
          ldS w116 a3 fun s117 =>
          ldI .i64 w116 a5 fun i118 =>
          ldI .i64 w116 a7 fun i119 =>
          (k (s117, (i118, i119)) w116))) v37 #[(.agg cs112), (.int .i64 (-(1 : Int))), (.pointer (some a104))] w113 fun v120 w121 =>
          toI .i64 v120 fun i122 =>
          drew w121 fun w123 =>
          ldP w123 a28 fun p124 =>
          nn p124 fun a125 =>
          ldS w123 (Addr.add a125 3) fun s126 =>
          ldP w123 a28 fun p127 =>
          nn p127 fun a128 =>
          ldI .i64 w123 (Addr.add a128 2) fun i129 =>
          stC w123 a3 (.slice s126.a s126.n s126.c) fun w130 =>
          samec 1 (Addr.add a128 2) w123 w130 (
          samec 1 a28 w123 w130 (
          stC w130 a5 (.int .i64 i129) fun w131 =>
          stC w131 a7 (.int .i64 (0 : Int)) fun w132 =>
          R a3 a5 a7 w132 fun w133 =>
          ldS w133 a3 fun s134 =>
          ldI .i64 w133 a5 fun i135 =>
          ldI .i64 w133 a7 fun i136 =>
          (k (s134, (i135, i136)) w133)))))))))))))
theorem e_serial_Run (check_Accepts : Array Value → World → ((Bool) → World → Prop) → Prop) (frame_Root : World → ((Array Value) → World → Prop) → Prop) (serial_Run_2 : Array Value → Int → Option Addr → Addr → World → (Value → World → Prop) → ((Int) → World → Prop) → Prop) (R : Addr → Addr → Addr → World → (World → Prop) → Prop) (Q : Addr → Addr → Addr → Value → World → (World → Prop) → Prop) (x : KT [.ag, (.i .i64)]) (w : World) (k : KT [.s, (.i .i64), (.i .i64)] → World → Prop) : evFnX Go.Proofs.Try.prog (orcOf [(n_check_Accepts, (fun args w c => unL [.ag] args fun x => check_Accepts x w fun r w => c (packV (valL [.b] r)) w)), (n_frame_Root, (fun args w c => unL [] args fun x => frame_Root  w fun r w => c (packV (valL [.ag] r)) w))]) (fun q => orcP [(n_check_Accepts, (fun args w c _ => unL [.ag] args fun x => check_Accepts x w fun r w => c (packV (valL [.b] r)) w)), (n_frame_Root, (fun args w c _ => unL [] args fun x => frame_Root  w fun r w => c (packV (valL [.ag] r)) w)), (n_serial_Run_2, (fun args w c q => unL [.ag, (.i .i64), .p, .a] args fun x => serial_Run_2 x.1 x.2.1 x.2.2.1 x.2.2.2 w q fun r w => c (packV (valL [(.i .i64)] r)) w))] q) (fun l w k => unL [.a, .a, .a] l fun x => R x.1 x.2.1 x.2.2 w k) (fun l v w k => unL [.a, .a, .a] l fun x => Q x.1 x.2.1 x.2.2 v w k) 4398046511103 (xPre Go.Proofs.Try.f11) (xD Go.Proofs.Try.f11) (xG Go.Proofs.Try.f11) (xCaps Go.Proofs.Try.f11) (xPost Go.Proofs.Try.f11) Go.Proofs.Try.f11 [.s, (.i .i64), (.i .i64)] (valL [.ag, (.i .i64)] x) w k = serial_Run_b check_Accepts frame_Root serial_Run_2 R Q x.1 x.2 w k := by kernel_rfl
theorem s_serial_Run_b (check_Accepts : Array Value → World → ((Bool) → World → Prop) → Prop) (frame_Root : World → ((Array Value) → World → Prop) → Prop) (serial_Run_2 : Array Value → Int → Option Addr → Addr → World → (Value → World → Prop) → ((Int) → World → Prop) → Prop) (R : Addr → Addr → Addr → World → (World → Prop) → Prop) (Q : Addr → Addr → Addr → Value → World → (World → Prop) → Prop) (hpre : AllSound Go.Proofs.Try.prog [(n_check_Accepts, (fun args w c => unL [.ag] args fun x => check_Accepts x w fun r w => c (packV (valL [.b] r)) w)), (n_frame_Root, (fun args w c => unL [] args fun x => frame_Root  w fun r w => c (packV (valL [.ag] r)) w))]) (hpost : AllSoundP Go.Proofs.Try.prog [(n_check_Accepts, (fun args w c _ => unL [.ag] args fun x => check_Accepts x w fun r w => c (packV (valL [.b] r)) w)), (n_frame_Root, (fun args w c _ => unL [] args fun x => frame_Root  w fun r w => c (packV (valL [.ag] r)) w)), (n_serial_Run_2, (fun args w c q => unL [.ag, (.i .i64), .p, .a] args fun x => serial_Run_2 x.1 x.2.1 x.2.2.1 x.2.2.2 w q fun r w => c (packV (valL [(.i .i64)] r)) w))]) (hR : DR Go.Proofs.Try.prog n_serial_Run_1 fun l w k => unL [.a, .a, .a] l fun x => R x.1 x.2.1 x.2.2 w k) (hP : DP Go.Proofs.Try.prog n_serial_Run_1 fun l v w k => unL [.a, .a, .a] l fun x => Q x.1 x.2.1 x.2.2 v w k) : Sound Go.Proofs.Try.prog n_serial_Run fun args w c => unL [.ag, (.i .i64)] args fun x => serial_Run_b check_Accepts frame_Root serial_Run_2 R Q x.1 x.2 w fun r w => c (packV (valL [.s, (.i .i64), (.i .i64)] r)) w :=
  sound_x (mask := 4398046511103) (rid := xRid Go.Proofs.Try.f11) (mk := xMk Go.Proofs.Try.f11) (df := xDf Go.Proofs.Try.f11) mixed Go.Proofs.Try.func11 (by kernel_rfl) ⟨by kernel_rfl, by kernel_rfl, by kernel_rfl, by kernel_rfl, by kernel_rfl, by kernel_rfl⟩ (by kernel_rfl) (by kernel_rfl) (orc_ok hpre) (fun q => orcP_ok hpost) hR hP [.ag, (.i .i64)] [.s, (.i .i64), (.i .i64)] (by kernel_rfl) (fun x w k => serial_Run_b check_Accepts frame_Root serial_Run_2 R Q x.1 x.2 w k) (fun x w k => e_serial_Run check_Accepts frame_Root serial_Run_2 R Q x w k)

/-! ### the knot -/
abbrev RunT := Array Value → Int → Option Addr → Addr → World → (Value → World → Prop) → (Int → World → Prop) → Prop
def forkOf (run : RunT) := serial_machine_fork_b frame_Frame_Child frame_Frame_Forked run
def stepOf (run : RunT) := serial_machine_step_b frame_Frame_Next serial_scope_cancelled code_Point serial_machine_end serial_deep frame_Frame_Plain (forkOf run) serial_machine_join serial_machine_open serial_machine_close serial_machine_cancel serial_machine_pass serial_machine_leave
def runN : Nat → RunT
  | 0 => fun _ _ _ _ _ _ _ => False
  | n + 1 => serial_Run_2_b serial_scope_within (stepOf (runN n))
def decRun (run : RunT) : DecP := fun args w c q => unL [.ag, (.i .i64), .p, .a] args fun x => run x.1 x.2.1 x.2.2.1 x.2.2.2 w q fun r w => c (packV (valL [(.i .i64)] r)) w
theorem s_forkOf (run : RunT) (h : SoundP Go.Proofs.Try.prog n_serial_Run_2 (decRun run)) : SoundP Go.Proofs.Try.prog n_serial_machine_fork fun args w c q => unL [.p, .p, .ag] args fun x => forkOf run x.1 x.2.1 x.2.2 w q fun r w => c (packV (valL [] r)) w := s_serial_machine_fork_b frame_Frame_Child frame_Frame_Forked run (Sound.p s_frame_Frame_Child) (Sound.p s_frame_Frame_Forked) h
theorem s_stepOf (run : RunT) (h : SoundP Go.Proofs.Try.prog n_serial_Run_2 (decRun run)) : SoundP Go.Proofs.Try.prog n_serial_machine_step fun args w c q => unL [.p, .p] args fun x => stepOf run x.1 x.2 w q fun r w => c (packV (valL [] r)) w := s_serial_machine_step_b frame_Frame_Next serial_scope_cancelled code_Point serial_machine_end serial_deep frame_Frame_Plain (forkOf run) serial_machine_join serial_machine_open serial_machine_close serial_machine_cancel serial_machine_pass serial_machine_leave (Sound.p s_frame_Frame_Next) (Sound.p s_serial_scope_cancelled) (Sound.p s_code_Point) (Sound.p s_serial_machine_end) s_serial_deep (Sound.p s_frame_Frame_Plain) (s_forkOf run h) (Sound.p s_serial_machine_join) (Sound.p s_serial_machine_open) (Sound.p s_serial_machine_close) (Sound.p s_serial_machine_cancel) (Sound.p s_serial_machine_pass) (Sound.p s_serial_machine_leave)
theorem s_runN : ∀ n, SoundP Go.Proofs.Try.prog n_serial_Run_2 (decRun (runN n))
  | 0 => ⟨⟨_, Go.Proofs.Try.func18, by kernel_rfl, by kernel_rfl⟩, fun args w c q h => by
    obtain ⟨x, _, h⟩ := unL_inv h
    exact h.elim⟩
  | n + 1 => s_serial_Run_2_b serial_scope_within (stepOf (runN n)) (Sound.p s_serial_scope_within) (s_stepOf _ (s_runN n))
/-- m.run: as deep as it takes -/
def serial_Run_2 : RunT := fun f p i c w q k => ∃ n, runN n f p i c w q k
theorem s_serial_Run_2 : SoundP Go.Proofs.Try.prog n_serial_Run_2 (decRun serial_Run_2) := ⟨(s_runN 0).1, fun args w c q h => by
  obtain ⟨x, hx, n, h⟩ := unL_inv h
  refine (s_runN n).2 args w c q ?_
  unfold decRun
  rw [hx, unL_val]
  exact h⟩
def serial_Run (p_0 : Array Value) (fuel_1 : Int) (w : World) (k : (Sl × Int × Int) → World → Prop) : Prop := serial_Run_b check_Accepts frame_Root serial_Run_2 serial_Run_1_R serial_Run_1_Q p_0 fuel_1 w k
def d_serial_Run : Dec := fun args w c => unL [.ag, (.i .i64)] args fun x => serial_Run x.1 x.2 w fun r w => c (packV (valL [.s, (.i .i64), (.i .i64)] r)) w
theorem s_serial_Run : Sound Go.Proofs.Try.prog n_serial_Run d_serial_Run := s_serial_Run_b check_Accepts frame_Root serial_Run_2 serial_Run_1_R serial_Run_1_Q ⟨s_check_Accepts, s_frame_Root, trivial⟩ ⟨(Sound.p s_check_Accepts), (Sound.p s_frame_Root), s_serial_Run_2, trivial⟩ sr_serial_Run_1 sp_serial_Run_1

end Go.Proofs.Ytgkfbagclkjilaa
