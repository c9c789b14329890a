/-
  The functions of this seat, as the evaluator gives them: printed by a program; each tied to its function by the kernel.
  The functions of this seat, as the evaluator gives them: printed by a program; each tied to its function by the kernel.
  Blocks of numbers; calls that leave what was there.
  Layer 5, and what it asks of layer 2: tasks, what passes on, which instructions may be.
  Layer 5, and what it asks of layer 2: which instructions may be; what concerns registers alone.
  Layer 5: what concerns registers alone.
  Layer 5: the document's answer, for what concerns registers alone; the chapter's example.
  Layer 5: closes, forks, joins.
  Layer 5: children.
  What a proof holds of memory, as a list of parts that lie apart: blocks, slices; a rule for each primitive.
  Ranges over functions, over parts: a loop's record, marks, yields.
  Arguments that are programs: functions, their instructions.
-/
import Derived.Test.YtgkfbagclkjilaaDoorPBegins2
set_option maxRecDepth 100000
set_option linter.unusedVariables false
set_option linter.unusedSimpArgs false
namespace Go.Proofs.YtgkfbagclkjilaaDoor
open Go Go.Ev
abbrev ltFu20 : Array Value := #[(.slice none 0 0), (.slice none 0 0), (.bool false), (.map none), (.map none)]
abbrev ltFu21 : Array Value := #[(.int .i64 (0 : Int)), (.int .i64 (0 : Int)), (.int .i64 (0 : Int)), (.int .i64 (0 : Int)), (.int .i64 (0 : Int)), (.int .i64 (0 : Int)), (.int .i64 (0 : Int)), (.int .i64 (0 : Int)), (.int .i64 (0 : Int)), (.int .i64 (0 : Int)), (.int .i64 (0 : Int)), (.int .i64 (0 : Int)), (.int .i64 (0 : Int)), (.int .i64 (0 : Int)), (.int .i64 (0 : Int)), (.int .i64 (0 : Int)), (.int .i64 (0 : Int)), (.int .i64 (0 : Int)), (.int .i64 (0 : Int)), (.int .i64 (0 : Int)), (.int .i64 (0 : Int))]
def fits_all_b (check_Accepts : Array Value → World → ((Bool) → World → Prop) → Prop) (table_Check : Sl → World → ((Int) → World → Prop) → Prop) (frame_Root : World → ((Array Value) → World → Prop) → Prop) (fits_world : World → ((Array Value) → World → Prop) → Prop) (fits_all_1 : Value → Addr → World → ((Int × Int) → World → Prop) → Prop) (p_0 : Array Value) (l_1 : Sl) (quiet_2 : Bool) (w : World) (k : (Int × Int) → World → Prop) : Prop :=
 newC w p_0 24 fun a1 w2 =>
 newC w2 #[(.slice l_1.a l_1.n l_1.c)] 25 fun a3 w4 =>
 ldA 1 w4 a1 fun cs5 =>
 check_Accepts cs5 w4 fun b6 w7 =>
 iteB (!b6) (
 (k ((0 : Int), (24 : Int)) w7)) (
 ldS w7 a3 fun s8 =>
 table_Check s8 w7 fun i9 w10 =>
 iteB (i9 != (0 : Int)) (
 (k ((0 : Int), i9) w10)) (
 joinP (S := Addr) (fun J11 =>
 drew w10 fun w12 =>
 ldA 1 w12 a1 fun cs13 =>
 ldS w12 a3 fun s14 =>
 both (
 mkMap Go.Proofs.Tryd.prog 59 none w12 fun p15 w16 =>
 samec 1 a3 w12 w16 (
 samec 1 a1 w12 w16 (
 both (
 frame_Root  w16 fun cs17 w18 =>
 samec 1 a3 w12 w18 (
 samec 1 a1 w12 w18 (
 both (
 fits_world  w18 fun cs19 w20 =>
 samec 1 a3 w12 w20 (
 samec 1 a1 w12 w20 (
 both (
 spl ltFu21 0 19 cs17 fun cs21 =>
 spl cs21 19 2 cs19 fun cs22 =>
 samec 1 a3 w12 w20 (
 samec 1 a1 w12 w20 (
 both (
 mapPut Go.Proofs.Tryd.prog 59 (.map p15) (.int .i64 (0 : Int)) (.agg cs22) w20 fun w23 =>
 samec 1 a3 w12 w23 (
 samec 1 a1 w12 w23 (
 both (
 mkMap Go.Proofs.Tryd.prog 60 none w23 fun p24 w25 =>
 samec 1 a3 w12 w25 (
 samec 1 a1 w12 w25 (
 both (
 spl ltFu20 0 1 cs13 fun cs26 =>
 both (
 newC w25 (Array.setIfInBounds (Array.setIfInBounds (Array.setIfInBounds (Array.setIfInBounds cs26 1 (.slice s14.a s14.n s14.c)) 2 (.bool quiet_2)) 3 (.map p15)) 4 (.map p24)) 62 fun a27 w28 =>
 newC w28 #[(.pointer none)] 48 fun a29 w30 =>
 samec 1 a3 w12 w30 (
 samec 1 a1 w12 w30 (
 stC w30 a29 (.pointer (some a27)) fun w31 =>
 (J11 a29 w31)))) (
 newC w25 #[(.pointer none)] 48 fun a32 w33 =>
 samec 1 a3 w12 w33 (
 samec 1 a1 w12 w33 (
 newC w33 (Array.setIfInBounds (Array.setIfInBounds (Array.setIfInBounds (Array.setIfInBounds cs26 1 (.slice s14.a s14.n s14.c)) 2 (.bool quiet_2)) 3 (.map p15)) 4 (.map p24)) 62 fun a34 w35 =>
 stC w35 a32 (.pointer (some a34)) fun w36 =>
 (J11 a32 w36))))) (
 newC w25 #[(.pointer none)] 48 fun a37 w38 =>
 samec 1 a3 w12 w38 (
 samec 1 a1 w12 w38 (
 spl ltFu20 0 1 cs13 fun cs39 =>
 newC w38 (Array.setIfInBounds (Array.setIfInBounds (Array.setIfInBounds (Array.setIfInBounds cs39 1 (.slice s14.a s14.n s14.c)) 2 (.bool quiet_2)) 3 (.map p15)) 4 (.map p24)) 62 fun a40 w41 =>
 stC w41 a37 (.pointer (some a40)) fun w42 =>
 (J11 a37 w42))))))) (
 newC w23 #[(.pointer none)] 48 fun a43 w44 =>
 samec 1 a3 w12 w44 (
 samec 1 a1 w12 w44 (
 mkMap Go.Proofs.Tryd.prog 60 none w44 fun p45 w46 =>
 samec 1 a3 w12 w46 (
 samec 1 a1 w12 w46 (
 spl ltFu20 0 1 cs13 fun cs47 =>
 newC w46 (Array.setIfInBounds (Array.setIfInBounds (Array.setIfInBounds (Array.setIfInBounds cs47 1 (.slice s14.a s14.n s14.c)) 2 (.bool quiet_2)) 3 (.map p15)) 4 (.map p45)) 62 fun a48 w49 =>
 stC w49 a43 (.pointer (some a48)) fun w50 =>
 (J11 a43 w50))))))))) (
 both (
 mkMap Go.Proofs.Tryd.prog 60 none w20 fun p51 w52 =>
 samec 1 a3 w12 w52 (
 samec 1 a1 w12 w52 (
 both (
 mapPut Go.Proofs.Tryd.prog 59 (.map p15) (.int .i64 (0 : Int)) (.agg cs22) w52 fun w53 =>
 samec 1 a3 w12 w53 (
 samec 1 a1 w12 w53 (
 both (
 spl ltFu20 0 1 cs13 fun cs54 =>
 both (
 newC w53 (Array.setIfInBounds (Array.setIfInBounds (Array.setIfInBounds (Array.setIfInBounds cs54 1 (.slice s14.a s14.n s14.c)) 2 (.bool quiet_2)) 3 (.map p15)) 4 (.map p51)) 62 fun a55 w56 =>
 newC w56 #[(.pointer none)] 48 fun a57 w58 =>
 samec 1 a3 w12 w58 (
 samec 1 a1 w12 w58 (
 stC w58 a57 (.pointer (some a55)) fun w59 =>
 (J11 a57 w59)))) (
 newC w53 #[(.pointer none)] 48 fun a60 w61 =>
 samec 1 a3 w12 w61 (
 samec 1 a1 w12 w61 (
 newC w61 (Array.setIfInBounds (Array.setIfInBounds (Array.setIfInBounds (Array.setIfInBounds cs54 1 (.slice s14.a s14.n s14.c)) 2 (.bool quiet_2)) 3 (.map p15)) 4 (.map p51)) 62 fun a62 w63 =>
 stC w63 a60 (.pointer (some a62)) fun w64 =>
 (J11 a60 w64))))) (
 newC w53 #[(.pointer none)] 48 fun a65 w66 =>
 samec 1 a3 w12 w66 (
 samec 1 a1 w12 w66 (
 spl ltFu20 0 1 cs13 fun cs67 =>
 newC w66 (Array.setIfInBounds (Array.setIfInBounds (Array.setIfInBounds (Array.setIfInBounds cs67 1 (.slice s14.a s14.n s14.c)) 2 (.bool quiet_2)) 3 (.map p15)) 4 (.map p51)) 62 fun a68 w69 =>
 stC w69 a65 (.pointer (some a68)) fun w70 =>
 (J11 a65 w70))))))) (
 newC w52 #[(.pointer none)] 48 fun a71 w72 =>
 samec 1 a3 w12 w72 (
 samec 1 a1 w12 w72 (
 mapPut Go.Proofs.Tryd.prog 59 (.map p15) (.int .i64 (0 : Int)) (.agg cs22) w72 fun w73 =>
 samec 1 a3 w12 w73 (
 samec 1 a1 w12 w73 (
 spl ltFu20 0 1 cs13 fun cs74 =>
 newC w73 (Array.setIfInBounds (Array.setIfInBounds (Array.setIfInBounds (Array.setIfInBounds cs74 1 (.slice s14.a s14.n s14.c)) 2 (.bool quiet_2)) 3 (.map p15)) 4 (.map p51)) 62 fun a75 w76 =>
 stC w76 a71 (.pointer (some a75)) fun w77 =>
 (J11 a71 w77))))))))) (
 newC w20 #[(.pointer none)] 48 fun a78 w79 =>
 samec 1 a3 w12 w79 (
 samec 1 a1 w12 w79 (
 both (
 mapPut Go.Proofs.Tryd.prog 59 (.map p15) (.int .i64 (0 : Int)) (.agg cs22) w79 fun w80 =>
 samec 1 a3 w12 w80 (
 samec 1 a1 w12 w80 (
 mkMap Go.Proofs.Tryd.prog 60 none w80 fun p81 w82 =>
 samec 1 a3 w12 w82 (
 samec 1 a1 w12 w82 (
 spl ltFu20 0 1 cs13 fun cs83 =>
 newC w82 (Array.setIfInBounds (Array.setIfInBounds (Array.setIfInBounds (Array.setIfInBounds cs83 1 (.slice s14.a s14.n s14.c)) 2 (.bool quiet_2)) 3 (.map p15)) 4 (.map p81)) 62 fun a84 w85 =>
 stC w85 a78 (.pointer (some a84)) fun w86 =>
 (J11 a78 w86)))))) (
 mkMap Go.Proofs.Tryd.prog 60 none w79 fun p87 w88 =>
 samec 1 a3 w12 w88 (
 samec 1 a1 w12 w88 (
 mapPut Go.Proofs.Tryd.prog 59 (.map p15) (.int .i64 (0 : Int)) (.agg cs22) w88 fun w89 =>
 samec 1 a3 w12 w89 (
 samec 1 a1 w12 w89 (
 spl ltFu20 0 1 cs13 fun cs90 =>
 newC w89 (Array.setIfInBounds (Array.setIfInBounds (Array.setIfInBounds (Array.setIfInBounds cs90 1 (.slice s14.a s14.n s14.c)) 2 (.bool quiet_2)) 3 (.map p15)) 4 (.map p87)) 62 fun a91 w92 =>
 stC w92 a78 (.pointer (some a91)) fun w93 =>
 (J11 a78 w93))))))))))))) (
 both (
 mkMap Go.Proofs.Tryd.prog 60 none w20 fun p94 w95 =>
 samec 1 a3 w12 w95 (
 samec 1 a1 w12 w95 (
 both (
 spl ltFu21 0 19 cs17 fun cs96 =>
 spl cs96 19 2 cs19 fun cs97 =>
 samec 1 a3 w12 w95 (
 samec 1 a1 w12 w95 (
 both (
 mapPut Go.Proofs.Tryd.prog 59 (.map p15) (.int .i64 (0 : Int)) (.agg cs97) w95 fun w98 =>
 samec 1 a3 w12 w98 (
 samec 1 a1 w12 w98 (
 both (
 spl ltFu20 0 1 cs13 fun cs99 =>
 both (
 newC w98 (Array.setIfInBounds (Array.setIfInBounds (Array.setIfInBounds (Array.setIfInBounds cs99 1 (.slice s14.a s14.n s14.c)) 2 (.bool quiet_2)) 3 (.map p15)) 4 (.map p94)) 62 fun a100 w101 =>
 newC w101 #[(.pointer none)] 48 fun a102 w103 =>
 samec 1 a3 w12 w103 (
 samec 1 a1 w12 w103 (
 stC w103 a102 (.pointer (some a100)) fun w104 =>
 (J11 a102 w104)))) (
 newC w98 #[(.pointer none)] 48 fun a105 w106 =>
 samec 1 a3 w12 w106 (
 samec 1 a1 w12 w106 (
 newC w106 (Array.setIfInBounds (Array.setIfInBounds (Array.setIfInBounds (Array.setIfInBounds cs99 1 (.slice s14.a s14.n s14.c)) 2 (.bool quiet_2)) 3 (.map p15)) 4 (.map p94)) 62 fun a107 w108 =>
 stC w108 a105 (.pointer (some a107)) fun w109 =>
 (J11 a105 w109))))) (
 newC w98 #[(.pointer none)] 48 fun a110 w111 =>
 samec 1 a3 w12 w111 (
 samec 1 a1 w12 w111 (
 spl ltFu20 0 1 cs13 fun cs112 =>
 newC w111 (Array.setIfInBounds (Array.setIfInBounds (Array.setIfInBounds (Array.setIfInBounds cs112 1 (.slice s14.a s14.n s14.c)) 2 (.bool quiet_2)) 3 (.map p15)) 4 (.map p94)) 62 fun a113 w114 =>
 stC w114 a110 (.pointer (some a113)) fun w115 =>
 (J11 a110 w115))))))) (
 newC w95 #[(.pointer none)] 48 fun a116 w117 =>
 samec 1 a3 w12 w117 (
 samec 1 a1 w12 w117 (
 mapPut Go.Proofs.Tryd.prog 59 (.map p15) (.int .i64 (0 : Int)) (.agg cs97) w117 fun w118 =>
 samec 1 a3 w12 w118 (
 samec 1 a1 w12 w118 (
 spl ltFu20 0 1 cs13 fun cs119 =>
 newC w118 (Array.setIfInBounds (Array.setIfInBounds (Array.setIfInBounds (Array.setIfInBounds cs119 1 (.slice s14.a s14.n s14.c)) 2 (.bool quiet_2)) 3 (.map p15)) 4 (.map p94)) 62 fun a120 w121 =>
 stC w121 a116 (.pointer (some a120)) fun w122 =>
 (J11 a116 w122))))))))) (
 newC w95 #[(.pointer none)] 48 fun a123 w124 =>
 samec 1 a3 w12 w124 (
 samec 1 a1 w12 w124 (
 spl ltFu21 0 19 cs17 fun cs125 =>
 spl cs125 19 2 cs19 fun cs126 =>
 samec 1 a3 w12 w124 (
 samec 1 a1 w12 w124 (
 mapPut Go.Proofs.Tryd.prog 59 (.map p15) (.int .i64 (0 : Int)) (.agg cs126) w124 fun w127 =>
 samec 1 a3 w12 w127 (
 samec 1 a1 w12 w127 (
 spl ltFu20 0 1 cs13 fun cs128 =>
 newC w127 (Array.setIfInBounds (Array.setIfInBounds (Array.setIfInBounds (Array.setIfInBounds cs128 1 (.slice s14.a s14.n s14.c)) 2 (.bool quiet_2)) 3 (.map p15)) 4 (.map p94)) 62 fun a129 w130 =>
 stC w130 a123 (.pointer (some a129)) fun w131 =>
 (J11 a123 w131))))))))))) (
 newC w20 #[(.pointer none)] 48 fun a132 w133 =>
 samec 1 a3 w12 w133 (
 samec 1 a1 w12 w133 (
 both (
 spl ltFu21 0 19 cs17 fun cs134 =>
 spl cs134 19 2 cs19 fun cs135 =>
 samec 1 a3 w12 w133 (
 samec 1 a1 w12 w133 (
 both (
 mapPut Go.Proofs.Tryd.prog 59 (.map p15) (.int .i64 (0 : Int)) (.agg cs135) w133 fun w136 =>
 samec 1 a3 w12 w136 (
 samec 1 a1 w12 w136 (
 mkMap Go.Proofs.Tryd.prog 60 none w136 fun p137 w138 =>
 samec 1 a3 w12 w138 (
 samec 1 a1 w12 w138 (
 spl ltFu20 0 1 cs13 fun cs139 =>
 newC w138 (Array.setIfInBounds (Array.setIfInBounds (Array.setIfInBounds (Array.setIfInBounds cs139 1 (.slice s14.a s14.n s14.c)) 2 (.bool quiet_2)) 3 (.map p15)) 4 (.map p137)) 62 fun a140 w141 =>
 stC w141 a132 (.pointer (some a140)) fun w142 =>
 (J11 a132 w142)))))) (
 mkMap Go.Proofs.Tryd.prog 60 none w133 fun p143 w144 =>
 samec 1 a3 w12 w144 (
 samec 1 a1 w12 w144 (
 mapPut Go.Proofs.Tryd.prog 59 (.map p15) (.int .i64 (0 : Int)) (.agg cs135) w144 fun w145 =>
 samec 1 a3 w12 w145 (
 samec 1 a1 w12 w145 (
 spl ltFu20 0 1 cs13 fun cs146 =>
 newC w145 (Array.setIfInBounds (Array.setIfInBounds (Array.setIfInBounds (Array.setIfInBounds cs146 1 (.slice s14.a s14.n s14.c)) 2 (.bool quiet_2)) 3 (.map p15)) 4 (.map p143)) 62 fun a147 w148 =>
 stC w148 a132 (.pointer (some a147)) fun w149 =>
 (J11 a132 w149))))))))) (
 mkMap Go.Proofs.Tryd.prog 60 none w133 fun p150 w151 =>
 samec 1 a3 w12 w151 (
 samec 1 a1 w12 w151 (
 spl ltFu21 0 19 cs17 fun cs152 =>
 spl cs152 19 2 cs19 fun cs153 =>
 samec 1 a3 w12 w151 (
 samec 1 a1 w12 w151 (
 mapPut Go.Proofs.Tryd.prog 59 (.map p15) (.int .i64 (0 : Int)) (.agg cs153) w151 fun w154 =>
 samec 1 a3 w12 w154 (
 samec 1 a1 w12 w154 (
 spl ltFu20 0 1 cs13 fun cs155 =>
 newC w154 (Array.setIfInBounds (Array.setIfInBounds (Array.setIfInBounds (Array.setIfInBounds cs155 1 (.slice s14.a s14.n s14.c)) 2 (.bool quiet_2)) 3 (.map p15)) 4 (.map p150)) 62 fun a156 w157 =>
 stC w157 a132 (.pointer (some a156)) fun w158 =>
 (J11 a132 w158))))))))))))))) (
 both (
 mkMap Go.Proofs.Tryd.prog 60 none w18 fun p159 w160 =>
 samec 1 a3 w12 w160 (
 samec 1 a1 w12 w160 (
 both (
 fits_world  w160 fun cs161 w162 =>
 samec 1 a3 w12 w162 (
 samec 1 a1 w12 w162 (
 both (
 spl ltFu21 0 19 cs17 fun cs163 =>
 spl cs163 19 2 cs161 fun cs164 =>
 samec 1 a3 w12 w162 (
 samec 1 a1 w12 w162 (
 both (
 mapPut Go.Proofs.Tryd.prog 59 (.map p15) (.int .i64 (0 : Int)) (.agg cs164) w162 fun w165 =>
 samec 1 a3 w12 w165 (
 samec 1 a1 w12 w165 (
 both (
 spl ltFu20 0 1 cs13 fun cs166 =>
 both (
 newC w165 (Array.setIfInBounds (Array.setIfInBounds (Array.setIfInBounds (Array.setIfInBounds cs166 1 (.slice s14.a s14.n s14.c)) 2 (.bool quiet_2)) 3 (.map p15)) 4 (.map p159)) 62 fun a167 w168 =>
 newC w168 #[(.pointer none)] 48 fun a169 w170 =>
 samec 1 a3 w12 w170 (
 samec 1 a1 w12 w170 (
 stC w170 a169 (.pointer (some a167)) fun w171 =>
 (J11 a169 w171)))) (
 newC w165 #[(.pointer none)] 48 fun a172 w173 =>
 samec 1 a3 w12 w173 (
 samec 1 a1 w12 w173 (
 newC w173 (Array.setIfInBounds (Array.setIfInBounds (Array.setIfInBounds (Array.setIfInBounds cs166 1 (.slice s14.a s14.n s14.c)) 2 (.bool quiet_2)) 3 (.map p15)) 4 (.map p159)) 62 fun a174 w175 =>
 stC w175 a172 (.pointer (some a174)) fun w176 =>
 (J11 a172 w176))))) (
 newC w165 #[(.pointer none)] 48 fun a177 w178 =>
 samec 1 a3 w12 w178 (
 samec 1 a1 w12 w178 (
 spl ltFu20 0 1 cs13 fun cs179 =>
 newC w178 (Array.setIfInBounds (Array.setIfInBounds (Array.setIfInBounds (Array.setIfInBounds cs179 1 (.slice s14.a s14.n s14.c)) 2 (.bool quiet_2)) 3 (.map p15)) 4 (.map p159)) 62 fun a180 w181 =>
 stC w181 a177 (.pointer (some a180)) fun w182 =>
 (J11 a177 w182))))))) (
 newC w162 #[(.pointer none)] 48 fun a183 w184 =>
 samec 1 a3 w12 w184 (
 samec 1 a1 w12 w184 (
 mapPut Go.Proofs.Tryd.prog 59 (.map p15) (.int .i64 (0 : Int)) (.agg cs164) w184 fun w185 =>
 samec 1 a3 w12 w185 (
 samec 1 a1 w12 w185 (
 spl ltFu20 0 1 cs13 fun cs186 =>
 newC w185 (Array.setIfInBounds (Array.setIfInBounds (Array.setIfInBounds (Array.setIfInBounds cs186 1 (.slice s14.a s14.n s14.c)) 2 (.bool quiet_2)) 3 (.map p15)) 4 (.map p159)) 62 fun a187 w188 =>
 stC w188 a183 (.pointer (some a187)) fun w189 =>
 (J11 a183 w189))))))))) (
 newC w162 #[(.pointer none)] 48 fun a190 w191 =>
 samec 1 a3 w12 w191 (
 samec 1 a1 w12 w191 (
 spl ltFu21 0 19 cs17 fun cs192 =>
 spl cs192 19 2 cs161 fun cs193 =>
 samec 1 a3 w12 w191 (
 samec 1 a1 w12 w191 (
 mapPut Go.Proofs.Tryd.prog 59 (.map p15) (.int .i64 (0 : Int)) (.agg cs193) w191 fun w194 =>
 samec 1 a3 w12 w194 (
 samec 1 a1 w12 w194 (
 spl ltFu20 0 1 cs13 fun cs195 =>
 newC w194 (Array.setIfInBounds (Array.setIfInBounds (Array.setIfInBounds (Array.setIfInBounds cs195 1 (.slice s14.a s14.n s14.c)) 2 (.bool quiet_2)) 3 (.map p15)) 4 (.map p159)) 62 fun a196 w197 =>
 stC w197 a190 (.pointer (some a196)) fun w198 =>
 (J11 a190 w198))))))))))) (
 newC w160 #[(.pointer none)] 48 fun a199 w200 =>
 samec 1 a3 w12 w200 (
 samec 1 a1 w12 w200 (
 fits_world  w200 fun cs201 w202 =>
 samec 1 a3 w12 w202 (
 samec 1 a1 w12 w202 (
 spl ltFu21 0 19 cs17 fun cs203 =>
 spl cs203 19 2 cs201 fun cs204 =>
 samec 1 a3 w12 w202 (
 samec 1 a1 w12 w202 (
 mapPut Go.Proofs.Tryd.prog 59 (.map p15) (.int .i64 (0 : Int)) (.agg cs204) w202 fun w205 =>
 samec 1 a3 w12 w205 (
 samec 1 a1 w12 w205 (
 spl ltFu20 0 1 cs13 fun cs206 =>
 newC w205 (Array.setIfInBounds (Array.setIfInBounds (Array.setIfInBounds (Array.setIfInBounds cs206 1 (.slice s14.a s14.n s14.c)) 2 (.bool quiet_2)) 3 (.map p15)) 4 (.map p159)) 62 fun a207 w208 =>
 stC w208 a199 (.pointer (some a207)) fun w209 =>
 (J11 a199 w209))))))))))))) (
 newC w18 #[(.pointer none)] 48 fun a210 w211 =>
 samec 1 a3 w12 w211 (
 samec 1 a1 w12 w211 (
 both (
 fits_world  w211 fun cs212 w213 =>
 samec 1 a3 w12 w213 (
 samec 1 a1 w12 w213 (
 both (
 spl ltFu21 0 19 cs17 fun cs214 =>
 spl cs214 19 2 cs212 fun cs215 =>
 samec 1 a3 w12 w213 (
 samec 1 a1 w12 w213 (
 both (
 mapPut Go.Proofs.Tryd.prog 59 (.map p15) (.int .i64 (0 : Int)) (.agg cs215) w213 fun w216 =>
 samec 1 a3 w12 w216 (
 samec 1 a1 w12 w216 (
 mkMap Go.Proofs.Tryd.prog 60 none w216 fun p217 w218 =>
 samec 1 a3 w12 w218 (
 samec 1 a1 w12 w218 (
 spl ltFu20 0 1 cs13 fun cs219 =>
 newC w218 (Array.setIfInBounds (Array.setIfInBounds (Array.setIfInBounds (Array.setIfInBounds cs219 1 (.slice s14.a s14.n s14.c)) 2 (.bool quiet_2)) 3 (.map p15)) 4 (.map p217)) 62 fun a220 w221 =>
 stC w221 a210 (.pointer (some a220)) fun w222 =>
 (J11 a210 w222)))))) (
 mkMap Go.Proofs.Tryd.prog 60 none w213 fun p223 w224 =>
 samec 1 a3 w12 w224 (
 samec 1 a1 w12 w224 (
 mapPut Go.Proofs.Tryd.prog 59 (.map p15) (.int .i64 (0 : Int)) (.agg cs215) w224 fun w225 =>
 samec 1 a3 w12 w225 (
 samec 1 a1 w12 w225 (
 spl ltFu20 0 1 cs13 fun cs226 =>
 newC w225 (Array.setIfInBounds (Array.setIfInBounds (Array.setIfInBounds (Array.setIfInBounds cs226 1 (.slice s14.a s14.n s14.c)) 2 (.bool quiet_2)) 3 (.map p15)) 4 (.map p223)) 62 fun a227 w228 =>
 stC w228 a210 (.pointer (some a227)) fun w229 =>
 (J11 a210 w229))))))))) (
 mkMap Go.Proofs.Tryd.prog 60 none w213 fun p230 w231 =>
 samec 1 a3 w12 w231 (
 samec 1 a1 w12 w231 (
 spl ltFu21 0 19 cs17 fun cs232 =>
 spl cs232 19 2 cs212 fun cs233 =>
 samec 1 a3 w12 w231 (
 samec 1 a1 w12 w231 (
 mapPut Go.Proofs.Tryd.prog 59 (.map p15) (.int .i64 (0 : Int)) (.agg cs233) w231 fun w234 =>
 samec 1 a3 w12 w234 (
 samec 1 a1 w12 w234 (
 spl ltFu20 0 1 cs13 fun cs235 =>
 newC w234 (Array.setIfInBounds (Array.setIfInBounds (Array.setIfInBounds (Array.setIfInBounds cs235 1 (.slice s14.a s14.n s14.c)) 2 (.bool quiet_2)) 3 (.map p15)) 4 (.map p230)) 62 fun a236 w237 =>
 stC w237 a210 (.pointer (some a236)) fun w238 =>
 (J11 a210 w238))))))))))) (
 mkMap Go.Proofs.Tryd.prog 60 none w211 fun p239 w240 =>
 samec 1 a3 w12 w240 (
 samec 1 a1 w12 w240 (
 fits_world  w240 fun cs241 w242 =>
 samec 1 a3 w12 w242 (
 samec 1 a1 w12 w242 (
 spl ltFu21 0 19 cs17 fun cs243 =>
 spl cs243 19 2 cs241 fun cs244 =>
 samec 1 a3 w12 w242 (
 samec 1 a1 w12 w242 (
 mapPut Go.Proofs.Tryd.prog 59 (.map p15) (.int .i64 (0 : Int)) (.agg cs244) w242 fun w245 =>
 samec 1 a3 w12 w245 (
 samec 1 a1 w12 w245 (
 spl ltFu20 0 1 cs13 fun cs246 =>
 newC w245 (Array.setIfInBounds (Array.setIfInBounds (Array.setIfInBounds (Array.setIfInBounds cs246 1 (.slice s14.a s14.n s14.c)) 2 (.bool quiet_2)) 3 (.map p15)) 4 (.map p239)) 62 fun a247 w248 =>
 stC w248 a210 (.pointer (some a247)) fun w249 =>
 (J11 a210 w249))))))))))))))))) (
 both (
 mkMap Go.Proofs.Tryd.prog 60 none w16 fun p250 w251 =>
 samec 1 a3 w12 w251 (
 samec 1 a1 w12 w251 (
 both (
 frame_Root  w251 fun cs252 w253 =>
 samec 1 a3 w12 w253 (
 samec 1 a1 w12 w253 (
 both (
 fits_world  w253 fun cs254 w255 =>
 samec 1 a3 w12 w255 (
 samec 1 a1 w12 w255 (
 both (
 spl ltFu21 0 19 cs252 fun cs256 =>
 spl cs256 19 2 cs254 fun cs257 =>
 samec 1 a3 w12 w255 (
 samec 1 a1 w12 w255 (
 both (
 mapPut Go.Proofs.Tryd.prog 59 (.map p15) (.int .i64 (0 : Int)) (.agg cs257) w255 fun w258 =>
 samec 1 a3 w12 w258 (
 samec 1 a1 w12 w258 (
 both (
 spl ltFu20 0 1 cs13 fun cs259 =>
 both (
 newC w258 (Array.setIfInBounds (Array.setIfInBounds (Array.setIfInBounds (Array.setIfInBounds cs259 1 (.slice s14.a s14.n s14.c)) 2 (.bool quiet_2)) 3 (.map p15)) 4 (.map p250)) 62 fun a260 w261 =>
 newC w261 #[(.pointer none)] 48 fun a262 w263 =>
 samec 1 a3 w12 w263 (
 samec 1 a1 w12 w263 (
 stC w263 a262 (.pointer (some a260)) fun w264 =>
 (J11 a262 w264)))) (
 newC w258 #[(.pointer none)] 48 fun a265 w266 =>
 samec 1 a3 w12 w266 (
 samec 1 a1 w12 w266 (
 newC w266 (Array.setIfInBounds (Array.setIfInBounds (Array.setIfInBounds (Array.setIfInBounds cs259 1 (.slice s14.a s14.n s14.c)) 2 (.bool quiet_2)) 3 (.map p15)) 4 (.map p250)) 62 fun a267 w268 =>
 stC w268 a265 (.pointer (some a267)) fun w269 =>
 (J11 a265 w269))))) (
 newC w258 #[(.pointer none)] 48 fun a270 w271 =>
 samec 1 a3 w12 w271 (
 samec 1 a1 w12 w271 (
 spl ltFu20 0 1 cs13 fun cs272 =>
 newC w271 (Array.setIfInBounds (Array.setIfInBounds (Array.setIfInBounds (Array.setIfInBounds cs272 1 (.slice s14.a s14.n s14.c)) 2 (.bool quiet_2)) 3 (.map p15)) 4 (.map p250)) 62 fun a273 w274 =>
 stC w274 a270 (.pointer (some a273)) fun w275 =>
 (J11 a270 w275))))))) (
 newC w255 #[(.pointer none)] 48 fun a276 w277 =>
 samec 1 a3 w12 w277 (
 samec 1 a1 w12 w277 (
 mapPut Go.Proofs.Tryd.prog 59 (.map p15) (.int .i64 (0 : Int)) (.agg cs257) w277 fun w278 =>
 samec 1 a3 w12 w278 (
 samec 1 a1 w12 w278 (
 spl ltFu20 0 1 cs13 fun cs279 =>
 newC w278 (Array.setIfInBounds (Array.setIfInBounds (Array.setIfInBounds (Array.setIfInBounds cs279 1 (.slice s14.a s14.n s14.c)) 2 (.bool quiet_2)) 3 (.map p15)) 4 (.map p250)) 62 fun a280 w281 =>
 stC w281 a276 (.pointer (some a280)) fun w282 =>
 (J11 a276 w282))))))))) (
 newC w255 #[(.pointer none)] 48 fun a283 w284 =>
 samec 1 a3 w12 w284 (
 samec 1 a1 w12 w284 (
 spl ltFu21 0 19 cs252 fun cs285 =>
 spl cs285 19 2 cs254 fun cs286 =>
 samec 1 a3 w12 w284 (
 samec 1 a1 w12 w284 (
 mapPut Go.Proofs.Tryd.prog 59 (.map p15) (.int .i64 (0 : Int)) (.agg cs286) w284 fun w287 =>
 samec 1 a3 w12 w287 (
 samec 1 a1 w12 w287 (
 spl ltFu20 0 1 cs13 fun cs288 =>
 newC w287 (Array.setIfInBounds (Array.setIfInBounds (Array.setIfInBounds (Array.setIfInBounds cs288 1 (.slice s14.a s14.n s14.c)) 2 (.bool quiet_2)) 3 (.map p15)) 4 (.map p250)) 62 fun a289 w290 =>
 stC w290 a283 (.pointer (some a289)) fun w291 =>
 (J11 a283 w291))))))))))) (
 newC w253 #[(.pointer none)] 48 fun a292 w293 =>
 samec 1 a3 w12 w293 (
 samec 1 a1 w12 w293 (
 fits_world  w293 fun cs294 w295 =>
 samec 1 a3 w12 w295 (
 samec 1 a1 w12 w295 (
 spl ltFu21 0 19 cs252 fun cs296 =>
 spl cs296 19 2 cs294 fun cs297 =>
 samec 1 a3 w12 w295 (
 samec 1 a1 w12 w295 (
 mapPut Go.Proofs.Tryd.prog 59 (.map p15) (.int .i64 (0 : Int)) (.agg cs297) w295 fun w298 =>
 samec 1 a3 w12 w298 (
 samec 1 a1 w12 w298 (
 spl ltFu20 0 1 cs13 fun cs299 =>
 newC w298 (Array.setIfInBounds (Array.setIfInBounds (Array.setIfInBounds (Array.setIfInBounds cs299 1 (.slice s14.a s14.n s14.c)) 2 (.bool quiet_2)) 3 (.map p15)) 4 (.map p250)) 62 fun a300 w301 =>
 stC w301 a292 (.pointer (some a300)) fun w302 =>
 (J11 a292 w302))))))))))))) (
 newC w251 #[(.pointer none)] 48 fun a303 w304 =>
 samec 1 a3 w12 w304 (
 samec 1 a1 w12 w304 (
 frame_Root  w304 fun cs305 w306 =>
 samec 1 a3 w12 w306 (
 samec 1 a1 w12 w306 (
 fits_world  w306 fun cs307 w308 =>
 samec 1 a3 w12 w308 (
 samec 1 a1 w12 w308 (
 spl ltFu21 0 19 cs305 fun cs309 =>
 spl cs309 19 2 cs307 fun cs310 =>
 samec 1 a3 w12 w308 (
 samec 1 a1 w12 w308 (
 mapPut Go.Proofs.Tryd.prog 59 (.map p15) (.int .i64 (0 : Int)) (.agg cs310) w308 fun w311 =>
 samec 1 a3 w12 w311 (
 samec 1 a1 w12 w311 (
 spl ltFu20 0 1 cs13 fun cs312 =>
 newC w311 (Array.setIfInBounds (Array.setIfInBounds (Array.setIfInBounds (Array.setIfInBounds cs312 1 (.slice s14.a s14.n s14.c)) 2 (.bool quiet_2)) 3 (.map p15)) 4 (.map p250)) 62 fun a313 w314 =>
 stC w314 a303 (.pointer (some a313)) fun w315 =>
 (J11 a303 w315))))))))))))))) (
 newC w16 #[(.pointer none)] 48 fun a316 w317 =>
 samec 1 a3 w12 w317 (
 samec 1 a1 w12 w317 (
 both (
 frame_Root  w317 fun cs318 w319 =>
 samec 1 a3 w12 w319 (
 samec 1 a1 w12 w319 (
 both (
 fits_world  w319 fun cs320 w321 =>
 samec 1 a3 w12 w321 (
 samec 1 a1 w12 w321 (
 both (
 spl ltFu21 0 19 cs318 fun cs322 =>
 spl cs322 19 2 cs320 fun cs323 =>
 samec 1 a3 w12 w321 (
 samec 1 a1 w12 w321 (
 both (
 mapPut Go.Proofs.Tryd.prog 59 (.map p15) (.int .i64 (0 : Int)) (.agg cs323) w321 fun w324 =>
 samec 1 a3 w12 w324 (
 samec 1 a1 w12 w324 (
 mkMap Go.Proofs.Tryd.prog 60 none w324 fun p325 w326 =>
 samec 1 a3 w12 w326 (
 samec 1 a1 w12 w326 (
 spl ltFu20 0 1 cs13 fun cs327 =>
 newC w326 (Array.setIfInBounds (Array.setIfInBounds (Array.setIfInBounds (Array.setIfInBounds cs327 1 (.slice s14.a s14.n s14.c)) 2 (.bool quiet_2)) 3 (.map p15)) 4 (.map p325)) 62 fun a328 w329 =>
 stC w329 a316 (.pointer (some a328)) fun w330 =>
 (J11 a316 w330)))))) (
 mkMap Go.Proofs.Tryd.prog 60 none w321 fun p331 w332 =>
 samec 1 a3 w12 w332 (
 samec 1 a1 w12 w332 (
 mapPut Go.Proofs.Tryd.prog 59 (.map p15) (.int .i64 (0 : Int)) (.agg cs323) w332 fun w333 =>
 samec 1 a3 w12 w333 (
 samec 1 a1 w12 w333 (
 spl ltFu20 0 1 cs13 fun cs334 =>
 newC w333 (Array.setIfInBounds (Array.setIfInBounds (Array.setIfInBounds (Array.setIfInBounds cs334 1 (.slice s14.a s14.n s14.c)) 2 (.bool quiet_2)) 3 (.map p15)) 4 (.map p331)) 62 fun a335 w336 =>
 stC w336 a316 (.pointer (some a335)) fun w337 =>
 (J11 a316 w337))))))))) (
 mkMap Go.Proofs.Tryd.prog 60 none w321 fun p338 w339 =>
 samec 1 a3 w12 w339 (
 samec 1 a1 w12 w339 (
 spl ltFu21 0 19 cs318 fun cs340 =>
 spl cs340 19 2 cs320 fun cs341 =>
 samec 1 a3 w12 w339 (
 samec 1 a1 w12 w339 (
 mapPut Go.Proofs.Tryd.prog 59 (.map p15) (.int .i64 (0 : Int)) (.agg cs341) w339 fun w342 =>
 samec 1 a3 w12 w342 (
 samec 1 a1 w12 w342 (
 spl ltFu20 0 1 cs13 fun cs343 =>
 newC w342 (Array.setIfInBounds (Array.setIfInBounds (Array.setIfInBounds (Array.setIfInBounds cs343 1 (.slice s14.a s14.n s14.c)) 2 (.bool quiet_2)) 3 (.map p15)) 4 (.map p338)) 62 fun a344 w345 =>
 stC w345 a316 (.pointer (some a344)) fun w346 =>
 (J11 a316 w346))))))))))) (
 mkMap Go.Proofs.Tryd.prog 60 none w319 fun p347 w348 =>
 samec 1 a3 w12 w348 (
 samec 1 a1 w12 w348 (
 fits_world  w348 fun cs349 w350 =>
 samec 1 a3 w12 w350 (
 samec 1 a1 w12 w350 (
 spl ltFu21 0 19 cs318 fun cs351 =>
 spl cs351 19 2 cs349 fun cs352 =>
 samec 1 a3 w12 w350 (
 samec 1 a1 w12 w350 (
 mapPut Go.Proofs.Tryd.prog 59 (.map p15) (.int .i64 (0 : Int)) (.agg cs352) w350 fun w353 =>
 samec 1 a3 w12 w353 (
 samec 1 a1 w12 w353 (
 spl ltFu20 0 1 cs13 fun cs354 =>
 newC w353 (Array.setIfInBounds (Array.setIfInBounds (Array.setIfInBounds (Array.setIfInBounds cs354 1 (.slice s14.a s14.n s14.c)) 2 (.bool quiet_2)) 3 (.map p15)) 4 (.map p347)) 62 fun a355 w356 =>
 stC w356 a316 (.pointer (some a355)) fun w357 =>
 (J11 a316 w357))))))))))))) (
 mkMap Go.Proofs.Tryd.prog 60 none w317 fun p358 w359 =>
 samec 1 a3 w12 w359 (
 samec 1 a1 w12 w359 (
 frame_Root  w359 fun cs360 w361 =>
 samec 1 a3 w12 w361 (
 samec 1 a1 w12 w361 (
 fits_world  w361 fun cs362 w363 =>
 samec 1 a3 w12 w363 (
 samec 1 a1 w12 w363 (
 spl ltFu21 0 19 cs360 fun cs364 =>
 spl cs364 19 2 cs362 fun cs365 =>
 samec 1 a3 w12 w363 (
 samec 1 a1 w12 w363 (
 mapPut Go.Proofs.Tryd.prog 59 (.map p15) (.int .i64 (0 : Int)) (.agg cs365) w363 fun w366 =>
 samec 1 a3 w12 w366 (
 samec 1 a1 w12 w366 (
 spl ltFu20 0 1 cs13 fun cs367 =>
 newC w366 (Array.setIfInBounds (Array.setIfInBounds (Array.setIfInBounds (Array.setIfInBounds cs367 1 (.slice s14.a s14.n s14.c)) 2 (.bool quiet_2)) 3 (.map p15)) 4 (.map p358)) 62 fun a368 w369 =>
 stC w369 a316 (.pointer (some a368)) fun w370 =>
 (J11 a316 w370))))))))))))))))))) (
 both (
 frame_Root  w12 fun cs371 w372 =>
 samec 1 a3 w12 w372 (
 samec 1 a1 w12 w372 (
 both (
 mkMap Go.Proofs.Tryd.prog 59 none w372 fun p373 w374 =>
 samec 1 a3 w12 w374 (
 samec 1 a1 w12 w374 (
 both (
 fits_world  w374 fun cs375 w376 =>
 samec 1 a3 w12 w376 (
 samec 1 a1 w12 w376 (
 both (
 spl ltFu21 0 19 cs371 fun cs377 =>
 spl cs377 19 2 cs375 fun cs378 =>
 samec 1 a3 w12 w376 (
 samec 1 a1 w12 w376 (
 both (
 mapPut Go.Proofs.Tryd.prog 59 (.map p373) (.int .i64 (0 : Int)) (.agg cs378) w376 fun w379 =>
 samec 1 a3 w12 w379 (
 samec 1 a1 w12 w379 (
 both (
 mkMap Go.Proofs.Tryd.prog 60 none w379 fun p380 w381 =>
 samec 1 a3 w12 w381 (
 samec 1 a1 w12 w381 (
 both (
 spl ltFu20 0 1 cs13 fun cs382 =>
 both (
 newC w381 (Array.setIfInBounds (Array.setIfInBounds (Array.setIfInBounds (Array.setIfInBounds cs382 1 (.slice s14.a s14.n s14.c)) 2 (.bool quiet_2)) 3 (.map p373)) 4 (.map p380)) 62 fun a383 w384 =>
 newC w384 #[(.pointer none)] 48 fun a385 w386 =>
 samec 1 a3 w12 w386 (
 samec 1 a1 w12 w386 (
 stC w386 a385 (.pointer (some a383)) fun w387 =>
 (J11 a385 w387)))) (
 newC w381 #[(.pointer none)] 48 fun a388 w389 =>
 samec 1 a3 w12 w389 (
 samec 1 a1 w12 w389 (
 newC w389 (Array.setIfInBounds (Array.setIfInBounds (Array.setIfInBounds (Array.setIfInBounds cs382 1 (.slice s14.a s14.n s14.c)) 2 (.bool quiet_2)) 3 (.map p373)) 4 (.map p380)) 62 fun a390 w391 =>
 stC w391 a388 (.pointer (some a390)) fun w392 =>
 (J11 a388 w392))))) (
 newC w381 #[(.pointer none)] 48 fun a393 w394 =>
 samec 1 a3 w12 w394 (
 samec 1 a1 w12 w394 (
 spl ltFu20 0 1 cs13 fun cs395 =>
 newC w394 (Array.setIfInBounds (Array.setIfInBounds (Array.setIfInBounds (Array.setIfInBounds cs395 1 (.slice s14.a s14.n s14.c)) 2 (.bool quiet_2)) 3 (.map p373)) 4 (.map p380)) 62 fun a396 w397 =>
 stC w397 a393 (.pointer (some a396)) fun w398 =>
 (J11 a393 w398))))))) (
 newC w379 #[(.pointer none)] 48 fun a399 w400 =>
 samec 1 a3 w12 w400 (
 samec 1 a1 w12 w400 (
 mkMap Go.Proofs.Tryd.prog 60 none w400 fun p401 w402 =>
 samec 1 a3 w12 w402 (
 samec 1 a1 w12 w402 (
 spl ltFu20 0 1 cs13 fun cs403 =>
 newC w402 (Array.setIfInBounds (Array.setIfInBounds (Array.setIfInBounds (Array.setIfInBounds cs403 1 (.slice s14.a s14.n s14.c)) 2 (.bool quiet_2)) 3 (.map p373)) 4 (.map p401)) 62 fun a404 w405 =>
 stC w405 a399 (.pointer (some a404)) fun w406 =>
 (J11 a399 w406))))))))) (
 both (
 mkMap Go.Proofs.Tryd.prog 60 none w376 fun p407 w408 =>
 samec 1 a3 w12 w408 (
 samec 1 a1 w12 w408 (
 both (
 mapPut Go.Proofs.Tryd.prog 59 (.map p373) (.int .i64 (0 : Int)) (.agg cs378) w408 fun w409 =>
 samec 1 a3 w12 w409 (
 samec 1 a1 w12 w409 (
 both (
 spl ltFu20 0 1 cs13 fun cs410 =>
 both (
 newC w409 (Array.setIfInBounds (Array.setIfInBounds (Array.setIfInBounds (Array.setIfInBounds cs410 1 (.slice s14.a s14.n s14.c)) 2 (.bool quiet_2)) 3 (.map p373)) 4 (.map p407)) 62 fun a411 w412 =>
 newC w412 #[(.pointer none)] 48 fun a413 w414 =>
 samec 1 a3 w12 w414 (
 samec 1 a1 w12 w414 (
 stC w414 a413 (.pointer (some a411)) fun w415 =>
 (J11 a413 w415)))) (
 newC w409 #[(.pointer none)] 48 fun a416 w417 =>
 samec 1 a3 w12 w417 (
 samec 1 a1 w12 w417 (
 newC w417 (Array.setIfInBounds (Array.setIfInBounds (Array.setIfInBounds (Array.setIfInBounds cs410 1 (.slice s14.a s14.n s14.c)) 2 (.bool quiet_2)) 3 (.map p373)) 4 (.map p407)) 62 fun a418 w419 =>
 stC w419 a416 (.pointer (some a418)) fun w420 =>
 (J11 a416 w420))))) (
 newC w409 #[(.pointer none)] 48 fun a421 w422 =>
 samec 1 a3 w12 w422 (
 samec 1 a1 w12 w422 (
 spl ltFu20 0 1 cs13 fun cs423 =>
 newC w422 (Array.setIfInBounds (Array.setIfInBounds (Array.setIfInBounds (Array.setIfInBounds cs423 1 (.slice s14.a s14.n s14.c)) 2 (.bool quiet_2)) 3 (.map p373)) 4 (.map p407)) 62 fun a424 w425 =>
 stC w425 a421 (.pointer (some a424)) fun w426 =>
 (J11 a421 w426))))))) (
 newC w408 #[(.pointer none)] 48 fun a427 w428 =>
 samec 1 a3 w12 w428 (
 samec 1 a1 w12 w428 (
 mapPut Go.Proofs.Tryd.prog 59 (.map p373) (.int .i64 (0 : Int)) (.agg cs378) w428 fun w429 =>
 samec 1 a3 w12 w429 (
 samec 1 a1 w12 w429 (
 spl ltFu20 0 1 cs13 fun cs430 =>
 newC w429 (Array.setIfInBounds (Array.setIfInBounds (Array.setIfInBounds (Array.setIfInBounds cs430 1 (.slice s14.a s14.n s14.c)) 2 (.bool quiet_2)) 3 (.map p373)) 4 (.map p407)) 62 fun a431 w432 =>
 stC w432 a427 (.pointer (some a431)) fun w433 =>
 (J11 a427 w433))))))))) (
 newC w376 #[(.pointer none)] 48 fun a434 w435 =>
 samec 1 a3 w12 w435 (
 samec 1 a1 w12 w435 (
 both (
 mapPut Go.Proofs.Tryd.prog 59 (.map p373) (.int .i64 (0 : Int)) (.agg cs378) w435 fun w436 =>
 samec 1 a3 w12 w436 (
 samec 1 a1 w12 w436 (
 mkMap Go.Proofs.Tryd.prog 60 none w436 fun p437 w438 =>
 samec 1 a3 w12 w438 (
 samec 1 a1 w12 w438 (
 spl ltFu20 0 1 cs13 fun cs439 =>
 newC w438 (Array.setIfInBounds (Array.setIfInBounds (Array.setIfInBounds (Array.setIfInBounds cs439 1 (.slice s14.a s14.n s14.c)) 2 (.bool quiet_2)) 3 (.map p373)) 4 (.map p437)) 62 fun a440 w441 =>
 stC w441 a434 (.pointer (some a440)) fun w442 =>
 (J11 a434 w442)))))) (
 mkMap Go.Proofs.Tryd.prog 60 none w435 fun p443 w444 =>
 samec 1 a3 w12 w444 (
 samec 1 a1 w12 w444 (
 mapPut Go.Proofs.Tryd.prog 59 (.map p373) (.int .i64 (0 : Int)) (.agg cs378) w444 fun w445 =>
 samec 1 a3 w12 w445 (
 samec 1 a1 w12 w445 (
 spl ltFu20 0 1 cs13 fun cs446 =>
 newC w445 (Array.setIfInBounds (Array.setIfInBounds (Array.setIfInBounds (Array.setIfInBounds cs446 1 (.slice s14.a s14.n s14.c)) 2 (.bool quiet_2)) 3 (.map p373)) 4 (.map p443)) 62 fun a447 w448 =>
 stC w448 a434 (.pointer (some a447)) fun w449 =>
 (J11 a434 w449))))))))))))) (
 both (
 mkMap Go.Proofs.Tryd.prog 60 none w376 fun p450 w451 =>
 samec 1 a3 w12 w451 (
 samec 1 a1 w12 w451 (
 both (
 spl ltFu21 0 19 cs371 fun cs452 =>
 spl cs452 19 2 cs375 fun cs453 =>
 samec 1 a3 w12 w451 (
 samec 1 a1 w12 w451 (
 both (
 mapPut Go.Proofs.Tryd.prog 59 (.map p373) (.int .i64 (0 : Int)) (.agg cs453) w451 fun w454 =>
 samec 1 a3 w12 w454 (
 samec 1 a1 w12 w454 (
 both (
 spl ltFu20 0 1 cs13 fun cs455 =>
 both (
 newC w454 (Array.setIfInBounds (Array.setIfInBounds (Array.setIfInBounds (Array.setIfInBounds cs455 1 (.slice s14.a s14.n s14.c)) 2 (.bool quiet_2)) 3 (.map p373)) 4 (.map p450)) 62 fun a456 w457 =>
 newC w457 #[(.pointer none)] 48 fun a458 w459 =>
 samec 1 a3 w12 w459 (
 samec 1 a1 w12 w459 (
 stC w459 a458 (.pointer (some a456)) fun w460 =>
 (J11 a458 w460)))) (
 newC w454 #[(.pointer none)] 48 fun a461 w462 =>
 samec 1 a3 w12 w462 (
 samec 1 a1 w12 w462 (
 newC w462 (Array.setIfInBounds (Array.setIfInBounds (Array.setIfInBounds (Array.setIfInBounds cs455 1 (.slice s14.a s14.n s14.c)) 2 (.bool quiet_2)) 3 (.map p373)) 4 (.map p450)) 62 fun a463 w464 =>
 stC w464 a461 (.pointer (some a463)) fun w465 =>
 (J11 a461 w465))))) (
 newC w454 #[(.pointer none)] 48 fun a466 w467 =>
 samec 1 a3 w12 w467 (
 samec 1 a1 w12 w467 (
 spl ltFu20 0 1 cs13 fun cs468 =>
 newC w467 (Array.setIfInBounds (Array.setIfInBounds (Array.setIfInBounds (Array.setIfInBounds cs468 1 (.slice s14.a s14.n s14.c)) 2 (.bool quiet_2)) 3 (.map p373)) 4 (.map p450)) 62 fun a469 w470 =>
 stC w470 a466 (.pointer (some a469)) fun w471 =>
 (J11 a466 w471))))))) (
 newC w451 #[(.pointer none)] 48 fun a472 w473 =>
 samec 1 a3 w12 w473 (
 samec 1 a1 w12 w473 (
 mapPut Go.Proofs.Tryd.prog 59 (.map p373) (.int .i64 (0 : Int)) (.agg cs453) w473 fun w474 =>
 samec 1 a3 w12 w474 (
 samec 1 a1 w12 w474 (
 spl ltFu20 0 1 cs13 fun cs475 =>
 newC w474 (Array.setIfInBounds (Array.setIfInBounds (Array.setIfInBounds (Array.setIfInBounds cs475 1 (.slice s14.a s14.n s14.c)) 2 (.bool quiet_2)) 3 (.map p373)) 4 (.map p450)) 62 fun a476 w477 =>
 stC w477 a472 (.pointer (some a476)) fun w478 =>
 (J11 a472 w478))))))))) (
 newC w451 #[(.pointer none)] 48 fun a479 w480 =>
 samec 1 a3 w12 w480 (
 samec 1 a1 w12 w480 (
 spl ltFu21 0 19 cs371 fun cs481 =>
 spl cs481 19 2 cs375 fun cs482 =>
 samec 1 a3 w12 w480 (
 samec 1 a1 w12 w480 (
 mapPut Go.Proofs.Tryd.prog 59 (.map p373) (.int .i64 (0 : Int)) (.agg cs482) w480 fun w483 =>
 samec 1 a3 w12 w483 (
 samec 1 a1 w12 w483 (
 spl ltFu20 0 1 cs13 fun cs484 =>
 newC w483 (Array.setIfInBounds (Array.setIfInBounds (Array.setIfInBounds (Array.setIfInBounds cs484 1 (.slice s14.a s14.n s14.c)) 2 (.bool quiet_2)) 3 (.map p373)) 4 (.map p450)) 62 fun a485 w486 =>
 stC w486 a479 (.pointer (some a485)) fun w487 =>
 (J11 a479 w487))))))))))) (
 newC w376 #[(.pointer none)] 48 fun a488 w489 =>
 samec 1 a3 w12 w489 (
 samec 1 a1 w12 w489 (
 both (
 spl ltFu21 0 19 cs371 fun cs490 =>
 spl cs490 19 2 cs375 fun cs491 =>
 samec 1 a3 w12 w489 (
 samec 1 a1 w12 w489 (
 both (
 mapPut Go.Proofs.Tryd.prog 59 (.map p373) (.int .i64 (0 : Int)) (.agg cs491) w489 fun w492 =>
 samec 1 a3 w12 w492 (
 samec 1 a1 w12 w492 (
 mkMap Go.Proofs.Tryd.prog 60 none w492 fun p493 w494 =>
 samec 1 a3 w12 w494 (
 samec 1 a1 w12 w494 (
 spl ltFu20 0 1 cs13 fun cs495 =>
 newC w494 (Array.setIfInBounds (Array.setIfInBounds (Array.setIfInBounds (Array.setIfInBounds cs495 1 (.slice s14.a s14.n s14.c)) 2 (.bool quiet_2)) 3 (.map p373)) 4 (.map p493)) 62 fun a496 w497 =>
 stC w497 a488 (.pointer (some a496)) fun w498 =>
 (J11 a488 w498)))))) (
 mkMap Go.Proofs.Tryd.prog 60 none w489 fun p499 w500 =>
 samec 1 a3 w12 w500 (
 samec 1 a1 w12 w500 (
 mapPut Go.Proofs.Tryd.prog 59 (.map p373) (.int .i64 (0 : Int)) (.agg cs491) w500 fun w501 =>
 samec 1 a3 w12 w501 (
 samec 1 a1 w12 w501 (
 spl ltFu20 0 1 cs13 fun cs502 =>
 newC w501 (Array.setIfInBounds (Array.setIfInBounds (Array.setIfInBounds (Array.setIfInBounds cs502 1 (.slice s14.a s14.n s14.c)) 2 (.bool quiet_2)) 3 (.map p373)) 4 (.map p499)) 62 fun a503 w504 =>
 stC w504 a488 (.pointer (some a503)) fun w505 =>
 (J11 a488 w505))))))))) (
 mkMap Go.Proofs.Tryd.prog 60 none w489 fun p506 w507 =>
 samec 1 a3 w12 w507 (
 samec 1 a1 w12 w507 (
 spl ltFu21 0 19 cs371 fun cs508 =>
 spl cs508 19 2 cs375 fun cs509 =>
 samec 1 a3 w12 w507 (
 samec 1 a1 w12 w507 (
 mapPut Go.Proofs.Tryd.prog 59 (.map p373) (.int .i64 (0 : Int)) (.agg cs509) w507 fun w510 =>
 samec 1 a3 w12 w510 (
 samec 1 a1 w12 w510 (
 spl ltFu20 0 1 cs13 fun cs511 =>
 newC w510 (Array.setIfInBounds (Array.setIfInBounds (Array.setIfInBounds (Array.setIfInBounds cs511 1 (.slice s14.a s14.n s14.c)) 2 (.bool quiet_2)) 3 (.map p373)) 4 (.map p506)) 62 fun a512 w513 =>
 stC w513 a488 (.pointer (some a512)) fun w514 =>
 (J11 a488 w514))))))))))))))) (
 both (
 mkMap Go.Proofs.Tryd.prog 60 none w374 fun p515 w516 =>
 samec 1 a3 w12 w516 (
 samec 1 a1 w12 w516 (
 both (
 fits_world  w516 fun cs517 w518 =>
 samec 1 a3 w12 w518 (
 samec 1 a1 w12 w518 (
 both (
 spl ltFu21 0 19 cs371 fun cs519 =>
 spl cs519 19 2 cs517 fun cs520 =>
 samec 1 a3 w12 w518 (
 samec 1 a1 w12 w518 (
 both (
 mapPut Go.Proofs.Tryd.prog 59 (.map p373) (.int .i64 (0 : Int)) (.agg cs520) w518 fun w521 =>
 samec 1 a3 w12 w521 (
 samec 1 a1 w12 w521 (
 both (
 spl ltFu20 0 1 cs13 fun cs522 =>
 both (
 newC w521 (Array.setIfInBounds (Array.setIfInBounds (Array.setIfInBounds (Array.setIfInBounds cs522 1 (.slice s14.a s14.n s14.c)) 2 (.bool quiet_2)) 3 (.map p373)) 4 (.map p515)) 62 fun a523 w524 =>
 newC w524 #[(.pointer none)] 48 fun a525 w526 =>
 samec 1 a3 w12 w526 (
 samec 1 a1 w12 w526 (
 stC w526 a525 (.pointer (some a523)) fun w527 =>
 (J11 a525 w527)))) (
 newC w521 #[(.pointer none)] 48 fun a528 w529 =>
 samec 1 a3 w12 w529 (
 samec 1 a1 w12 w529 (
 newC w529 (Array.setIfInBounds (Array.setIfInBounds (Array.setIfInBounds (Array.setIfInBounds cs522 1 (.slice s14.a s14.n s14.c)) 2 (.bool quiet_2)) 3 (.map p373)) 4 (.map p515)) 62 fun a530 w531 =>
 stC w531 a528 (.pointer (some a530)) fun w532 =>
 (J11 a528 w532))))) (
 newC w521 #[(.pointer none)] 48 fun a533 w534 =>
 samec 1 a3 w12 w534 (
 samec 1 a1 w12 w534 (
 spl ltFu20 0 1 cs13 fun cs535 =>
 newC w534 (Array.setIfInBounds (Array.setIfInBounds (Array.setIfInBounds (Array.setIfInBounds cs535 1 (.slice s14.a s14.n s14.c)) 2 (.bool quiet_2)) 3 (.map p373)) 4 (.map p515)) 62 fun a536 w537 =>
 stC w537 a533 (.pointer (some a536)) fun w538 =>
 (J11 a533 w538))))))) (
 newC w518 #[(.pointer none)] 48 fun a539 w540 =>
 samec 1 a3 w12 w540 (
 samec 1 a1 w12 w540 (
 mapPut Go.Proofs.Tryd.prog 59 (.map p373) (.int .i64 (0 : Int)) (.agg cs520) w540 fun w541 =>
 samec 1 a3 w12 w541 (
 samec 1 a1 w12 w541 (
 spl ltFu20 0 1 cs13 fun cs542 =>
 newC w541 (Array.setIfInBounds (Array.setIfInBounds (Array.setIfInBounds (Array.setIfInBounds cs542 1 (.slice s14.a s14.n s14.c)) 2 (.bool quiet_2)) 3 (.map p373)) 4 (.map p515)) 62 fun a543 w544 =>
 stC w544 a539 (.pointer (some a543)) fun w545 =>
 (J11 a539 w545))))))))) (
 newC w518 #[(.pointer none)] 48 fun a546 w547 =>
 samec 1 a3 w12 w547 (
 samec 1 a1 w12 w547 (
 spl ltFu21 0 19 cs371 fun cs548 =>
 spl cs548 19 2 cs517 fun cs549 =>
 samec 1 a3 w12 w547 (
 samec 1 a1 w12 w547 (
 mapPut Go.Proofs.Tryd.prog 59 (.map p373) (.int .i64 (0 : Int)) (.agg cs549) w547 fun w550 =>
 samec 1 a3 w12 w550 (
 samec 1 a1 w12 w550 (
 spl ltFu20 0 1 cs13 fun cs551 =>
 newC w550 (Array.setIfInBounds (Array.setIfInBounds (Array.setIfInBounds (Array.setIfInBounds cs551 1 (.slice s14.a s14.n s14.c)) 2 (.bool quiet_2)) 3 (.map p373)) 4 (.map p515)) 62 fun a552 w553 =>
 stC w553 a546 (.pointer (some a552)) fun w554 =>
 (J11 a546 w554))))))))))) (
 newC w516 #[(.pointer none)] 48 fun a555 w556 =>
 samec 1 a3 w12 w556 (
 samec 1 a1 w12 w556 (
 fits_world  w556 fun cs557 w558 =>
 samec 1 a3 w12 w558 (
 samec 1 a1 w12 w558 (
 spl ltFu21 0 19 cs371 fun cs559 =>
 spl cs559 19 2 cs557 fun cs560 =>
 samec 1 a3 w12 w558 (
 samec 1 a1 w12 w558 (
 mapPut Go.Proofs.Tryd.prog 59 (.map p373) (.int .i64 (0 : Int)) (.agg cs560) w558 fun w561 =>
 samec 1 a3 w12 w561 (
 samec 1 a1 w12 w561 (
 spl ltFu20 0 1 cs13 fun cs562 =>
 newC w561 (Array.setIfInBounds (Array.setIfInBounds (Array.setIfInBounds (Array.setIfInBounds cs562 1 (.slice s14.a s14.n s14.c)) 2 (.bool quiet_2)) 3 (.map p373)) 4 (.map p515)) 62 fun a563 w564 =>
 stC w564 a555 (.pointer (some a563)) fun w565 =>
 (J11 a555 w565))))))))))))) (
 newC w374 #[(.pointer none)] 48 fun a566 w567 =>
 samec 1 a3 w12 w567 (
 samec 1 a1 w12 w567 (
 both (
 fits_world  w567 fun cs568 w569 =>
 samec 1 a3 w12 w569 (
 samec 1 a1 w12 w569 (
 both (
 spl ltFu21 0 19 cs371 fun cs570 =>
 spl cs570 19 2 cs568 fun cs571 =>
 samec 1 a3 w12 w569 (
 samec 1 a1 w12 w569 (
 both (
 mapPut Go.Proofs.Tryd.prog 59 (.map p373) (.int .i64 (0 : Int)) (.agg cs571) w569 fun w572 =>
 samec 1 a3 w12 w572 (
 samec 1 a1 w12 w572 (
 mkMap Go.Proofs.Tryd.prog 60 none w572 fun p573 w574 =>
 samec 1 a3 w12 w574 (
 samec 1 a1 w12 w574 (
 spl ltFu20 0 1 cs13 fun cs575 =>
 newC w574 (Array.setIfInBounds (Array.setIfInBounds (Array.setIfInBounds (Array.setIfInBounds cs575 1 (.slice s14.a s14.n s14.c)) 2 (.bool quiet_2)) 3 (.map p373)) 4 (.map p573)) 62 fun a576 w577 =>
 stC w577 a566 (.pointer (some a576)) fun w578 =>
 (J11 a566 w578)))))) (
 mkMap Go.Proofs.Tryd.prog 60 none w569 fun p579 w580 =>
 samec 1 a3 w12 w580 (
 samec 1 a1 w12 w580 (
 mapPut Go.Proofs.Tryd.prog 59 (.map p373) (.int .i64 (0 : Int)) (.agg cs571) w580 fun w581 =>
 samec 1 a3 w12 w581 (
 samec 1 a1 w12 w581 (
 spl ltFu20 0 1 cs13 fun cs582 =>
 newC w581 (Array.setIfInBounds (Array.setIfInBounds (Array.setIfInBounds (Array.setIfInBounds cs582 1 (.slice s14.a s14.n s14.c)) 2 (.bool quiet_2)) 3 (.map p373)) 4 (.map p579)) 62 fun a583 w584 =>
 stC w584 a566 (.pointer (some a583)) fun w585 =>
 (J11 a566 w585))))))))) (
 mkMap Go.Proofs.Tryd.prog 60 none w569 fun p586 w587 =>
 samec 1 a3 w12 w587 (
 samec 1 a1 w12 w587 (
 spl ltFu21 0 19 cs371 fun cs588 =>
 spl cs588 19 2 cs568 fun cs589 =>
 samec 1 a3 w12 w587 (
 samec 1 a1 w12 w587 (
 mapPut Go.Proofs.Tryd.prog 59 (.map p373) (.int .i64 (0 : Int)) (.agg cs589) w587 fun w590 =>
 samec 1 a3 w12 w590 (
 samec 1 a1 w12 w590 (
 spl ltFu20 0 1 cs13 fun cs591 =>
 newC w590 (Array.setIfInBounds (Array.setIfInBounds (Array.setIfInBounds (Array.setIfInBounds cs591 1 (.slice s14.a s14.n s14.c)) 2 (.bool quiet_2)) 3 (.map p373)) 4 (.map p586)) 62 fun a592 w593 =>
 stC w593 a566 (.pointer (some a592)) fun w594 =>
 (J11 a566 w594))))))))))) (
 mkMap Go.Proofs.Tryd.prog 60 none w567 fun p595 w596 =>
 samec 1 a3 w12 w596 (
 samec 1 a1 w12 w596 (
 fits_world  w596 fun cs597 w598 =>
 samec 1 a3 w12 w598 (
 samec 1 a1 w12 w598 (
 spl ltFu21 0 19 cs371 fun cs599 =>
 spl cs599 19 2 cs597 fun cs600 =>
 samec 1 a3 w12 w598 (
 samec 1 a1 w12 w598 (
 mapPut Go.Proofs.Tryd.prog 59 (.map p373) (.int .i64 (0 : Int)) (.agg cs600) w598 fun w601 =>
 samec 1 a3 w12 w601 (
 samec 1 a1 w12 w601 (
 spl ltFu20 0 1 cs13 fun cs602 =>
 newC w601 (Array.setIfInBounds (Array.setIfInBounds (Array.setIfInBounds (Array.setIfInBounds cs602 1 (.slice s14.a s14.n s14.c)) 2 (.bool quiet_2)) 3 (.map p373)) 4 (.map p595)) 62 fun a603 w604 =>
 stC w604 a566 (.pointer (some a603)) fun w605 =>
 (J11 a566 w605))))))))))))))))) (
 both (
 fits_world  w372 fun cs606 w607 =>
 samec 1 a3 w12 w607 (
 samec 1 a1 w12 w607 (
 both (
 mkMap Go.Proofs.Tryd.prog 59 none w607 fun p608 w609 =>
 samec 1 a3 w12 w609 (
 samec 1 a1 w12 w609 (
 both (
 spl ltFu21 0 19 cs371 fun cs610 =>
 spl cs610 19 2 cs606 fun cs611 =>
 samec 1 a3 w12 w609 (
 samec 1 a1 w12 w609 (
 both (
 mapPut Go.Proofs.Tryd.prog 59 (.map p608) (.int .i64 (0 : Int)) (.agg cs611) w609 fun w612 =>
 samec 1 a3 w12 w612 (
 samec 1 a1 w12 w612 (
 both (
 mkMap Go.Proofs.Tryd.prog 60 none w612 fun p613 w614 =>
 samec 1 a3 w12 w614 (
 samec 1 a1 w12 w614 (
 both (
 spl ltFu20 0 1 cs13 fun cs615 =>
 both (
 newC w614 (Array.setIfInBounds (Array.setIfInBounds (Array.setIfInBounds (Array.setIfInBounds cs615 1 (.slice s14.a s14.n s14.c)) 2 (.bool quiet_2)) 3 (.map p608)) 4 (.map p613)) 62 fun a616 w617 =>
 newC w617 #[(.pointer none)] 48 fun a618 w619 =>
 samec 1 a3 w12 w619 (
 samec 1 a1 w12 w619 (
 stC w619 a618 (.pointer (some a616)) fun w620 =>
 (J11 a618 w620)))) (
 newC w614 #[(.pointer none)] 48 fun a621 w622 =>
 samec 1 a3 w12 w622 (
 samec 1 a1 w12 w622 (
 newC w622 (Array.setIfInBounds (Array.setIfInBounds (Array.setIfInBounds (Array.setIfInBounds cs615 1 (.slice s14.a s14.n s14.c)) 2 (.bool quiet_2)) 3 (.map p608)) 4 (.map p613)) 62 fun a623 w624 =>
 stC w624 a621 (.pointer (some a623)) fun w625 =>
 (J11 a621 w625))))) (
 newC w614 #[(.pointer none)] 48 fun a626 w627 =>
 samec 1 a3 w12 w627 (
 samec 1 a1 w12 w627 (
 spl ltFu20 0 1 cs13 fun cs628 =>
 newC w627 (Array.setIfInBounds (Array.setIfInBounds (Array.setIfInBounds (Array.setIfInBounds cs628 1 (.slice s14.a s14.n s14.c)) 2 (.bool quiet_2)) 3 (.map p608)) 4 (.map p613)) 62 fun a629 w630 =>
 stC w630 a626 (.pointer (some a629)) fun w631 =>
 (J11 a626 w631))))))) (
 newC w612 #[(.pointer none)] 48 fun a632 w633 =>
 samec 1 a3 w12 w633 (
 samec 1 a1 w12 w633 (
 mkMap Go.Proofs.Tryd.prog 60 none w633 fun p634 w635 =>
 samec 1 a3 w12 w635 (
 samec 1 a1 w12 w635 (
 spl ltFu20 0 1 cs13 fun cs636 =>
 newC w635 (Array.setIfInBounds (Array.setIfInBounds (Array.setIfInBounds (Array.setIfInBounds cs636 1 (.slice s14.a s14.n s14.c)) 2 (.bool quiet_2)) 3 (.map p608)) 4 (.map p634)) 62 fun a637 w638 =>
 stC w638 a632 (.pointer (some a637)) fun w639 =>
 (J11 a632 w639))))))))) (
 both (
 mkMap Go.Proofs.Tryd.prog 60 none w609 fun p640 w641 =>
 samec 1 a3 w12 w641 (
 samec 1 a1 w12 w641 (
 both (
 mapPut Go.Proofs.Tryd.prog 59 (.map p608) (.int .i64 (0 : Int)) (.agg cs611) w641 fun w642 =>
 samec 1 a3 w12 w642 (
 samec 1 a1 w12 w642 (
 both (
 spl ltFu20 0 1 cs13 fun cs643 =>
 both (
 newC w642 (Array.setIfInBounds (Array.setIfInBounds (Array.setIfInBounds (Array.setIfInBounds cs643 1 (.slice s14.a s14.n s14.c)) 2 (.bool quiet_2)) 3 (.map p608)) 4 (.map p640)) 62 fun a644 w645 =>
 newC w645 #[(.pointer none)] 48 fun a646 w647 =>
 samec 1 a3 w12 w647 (
 samec 1 a1 w12 w647 (
 stC w647 a646 (.pointer (some a644)) fun w648 =>
 (J11 a646 w648)))) (
 newC w642 #[(.pointer none)] 48 fun a649 w650 =>
 samec 1 a3 w12 w650 (
 samec 1 a1 w12 w650 (
 newC w650 (Array.setIfInBounds (Array.setIfInBounds (Array.setIfInBounds (Array.setIfInBounds cs643 1 (.slice s14.a s14.n s14.c)) 2 (.bool quiet_2)) 3 (.map p608)) 4 (.map p640)) 62 fun a651 w652 =>
 stC w652 a649 (.pointer (some a651)) fun w653 =>
 (J11 a649 w653))))) (
 newC w642 #[(.pointer none)] 48 fun a654 w655 =>
 samec 1 a3 w12 w655 (
 samec 1 a1 w12 w655 (
 spl ltFu20 0 1 cs13 fun cs656 =>
 newC w655 (Array.setIfInBounds (Array.setIfInBounds (Array.setIfInBounds (Array.setIfInBounds cs656 1 (.slice s14.a s14.n s14.c)) 2 (.bool quiet_2)) 3 (.map p608)) 4 (.map p640)) 62 fun a657 w658 =>
 stC w658 a654 (.pointer (some a657)) fun w659 =>
 (J11 a654 w659))))))) (
 newC w641 #[(.pointer none)] 48 fun a660 w661 =>
 samec 1 a3 w12 w661 (
 samec 1 a1 w12 w661 (
 mapPut Go.Proofs.Tryd.prog 59 (.map p608) (.int .i64 (0 : Int)) (.agg cs611) w661 fun w662 =>
 samec 1 a3 w12 w662 (
 samec 1 a1 w12 w662 (
 spl ltFu20 0 1 cs13 fun cs663 =>
 newC w662 (Array.setIfInBounds (Array.setIfInBounds (Array.setIfInBounds (Array.setIfInBounds cs663 1 (.slice s14.a s14.n s14.c)) 2 (.bool quiet_2)) 3 (.map p608)) 4 (.map p640)) 62 fun a664 w665 =>
 stC w665 a660 (.pointer (some a664)) fun w666 =>
 (J11 a660 w666))))))))) (
 newC w609 #[(.pointer none)] 48 fun a667 w668 =>
 samec 1 a3 w12 w668 (
 samec 1 a1 w12 w668 (
 both (
 mapPut Go.Proofs.Tryd.prog 59 (.map p608) (.int .i64 (0 : Int)) (.agg cs611) w668 fun w669 =>
 samec 1 a3 w12 w669 (
 samec 1 a1 w12 w669 (
 mkMap Go.Proofs.Tryd.prog 60 none w669 fun p670 w671 =>
 samec 1 a3 w12 w671 (
 samec 1 a1 w12 w671 (
 spl ltFu20 0 1 cs13 fun cs672 =>
 newC w671 (Array.setIfInBounds (Array.setIfInBounds (Array.setIfInBounds (Array.setIfInBounds cs672 1 (.slice s14.a s14.n s14.c)) 2 (.bool quiet_2)) 3 (.map p608)) 4 (.map p670)) 62 fun a673 w674 =>
 stC w674 a667 (.pointer (some a673)) fun w675 =>
 (J11 a667 w675)))))) (
 mkMap Go.Proofs.Tryd.prog 60 none w668 fun p676 w677 =>
 samec 1 a3 w12 w677 (
 samec 1 a1 w12 w677 (
 mapPut Go.Proofs.Tryd.prog 59 (.map p608) (.int .i64 (0 : Int)) (.agg cs611) w677 fun w678 =>
 samec 1 a3 w12 w678 (
 samec 1 a1 w12 w678 (
 spl ltFu20 0 1 cs13 fun cs679 =>
 newC w678 (Array.setIfInBounds (Array.setIfInBounds (Array.setIfInBounds (Array.setIfInBounds cs679 1 (.slice s14.a s14.n s14.c)) 2 (.bool quiet_2)) 3 (.map p608)) 4 (.map p676)) 62 fun a680 w681 =>
 stC w681 a667 (.pointer (some a680)) fun w682 =>
 (J11 a667 w682))))))))))))) (
 both (
 mkMap Go.Proofs.Tryd.prog 60 none w609 fun p683 w684 =>
 samec 1 a3 w12 w684 (
 samec 1 a1 w12 w684 (
 both (
 spl ltFu21 0 19 cs371 fun cs685 =>
 spl cs685 19 2 cs606 fun cs686 =>
 samec 1 a3 w12 w684 (
 samec 1 a1 w12 w684 (
 both (
 mapPut Go.Proofs.Tryd.prog 59 (.map p608) (.int .i64 (0 : Int)) (.agg cs686) w684 fun w687 =>
 samec 1 a3 w12 w687 (
 samec 1 a1 w12 w687 (
 both (
 spl ltFu20 0 1 cs13 fun cs688 =>
 both (
 newC w687 (Array.setIfInBounds (Array.setIfInBounds (Array.setIfInBounds (Array.setIfInBounds cs688 1 (.slice s14.a s14.n s14.c)) 2 (.bool quiet_2)) 3 (.map p608)) 4 (.map p683)) 62 fun a689 w690 =>
 newC w690 #[(.pointer none)] 48 fun a691 w692 =>
 samec 1 a3 w12 w692 (
 samec 1 a1 w12 w692 (
 stC w692 a691 (.pointer (some a689)) fun w693 =>
 (J11 a691 w693)))) (
 newC w687 #[(.pointer none)] 48 fun a694 w695 =>
 samec 1 a3 w12 w695 (
 samec 1 a1 w12 w695 (
 newC w695 (Array.setIfInBounds (Array.setIfInBounds (Array.setIfInBounds (Array.setIfInBounds cs688 1 (.slice s14.a s14.n s14.c)) 2 (.bool quiet_2)) 3 (.map p608)) 4 (.map p683)) 62 fun a696 w697 =>
 stC w697 a694 (.pointer (some a696)) fun w698 =>
 (J11 a694 w698))))) (
 newC w687 #[(.pointer none)] 48 fun a699 w700 =>
 samec 1 a3 w12 w700 (
 samec 1 a1 w12 w700 (
 spl ltFu20 0 1 cs13 fun cs701 =>
 newC w700 (Array.setIfInBounds (Array.setIfInBounds (Array.setIfInBounds (Array.setIfInBounds cs701 1 (.slice s14.a s14.n s14.c)) 2 (.bool quiet_2)) 3 (.map p608)) 4 (.map p683)) 62 fun a702 w703 =>
 stC w703 a699 (.pointer (some a702)) fun w704 =>
 (J11 a699 w704))))))) (
 newC w684 #[(.pointer none)] 48 fun a705 w706 =>
 samec 1 a3 w12 w706 (
 samec 1 a1 w12 w706 (
 mapPut Go.Proofs.Tryd.prog 59 (.map p608) (.int .i64 (0 : Int)) (.agg cs686) w706 fun w707 =>
 samec 1 a3 w12 w707 (
 samec 1 a1 w12 w707 (
 spl ltFu20 0 1 cs13 fun cs708 =>
 newC w707 (Array.setIfInBounds (Array.setIfInBounds (Array.setIfInBounds (Array.setIfInBounds cs708 1 (.slice s14.a s14.n s14.c)) 2 (.bool quiet_2)) 3 (.map p608)) 4 (.map p683)) 62 fun a709 w710 =>
 stC w710 a705 (.pointer (some a709)) fun w711 =>
 (J11 a705 w711))))))))) (
 newC w684 #[(.pointer none)] 48 fun a712 w713 =>
 samec 1 a3 w12 w713 (
 samec 1 a1 w12 w713 (
 spl ltFu21 0 19 cs371 fun cs714 =>
 spl cs714 19 2 cs606 fun cs715 =>
 samec 1 a3 w12 w713 (
 samec 1 a1 w12 w713 (
 mapPut Go.Proofs.Tryd.prog 59 (.map p608) (.int .i64 (0 : Int)) (.agg cs715) w713 fun w716 =>
 samec 1 a3 w12 w716 (
 samec 1 a1 w12 w716 (
 spl ltFu20 0 1 cs13 fun cs717 =>
 newC w716 (Array.setIfInBounds (Array.setIfInBounds (Array.setIfInBounds (Array.setIfInBounds cs717 1 (.slice s14.a s14.n s14.c)) 2 (.bool quiet_2)) 3 (.map p608)) 4 (.map p683)) 62 fun a718 w719 =>
 stC w719 a712 (.pointer (some a718)) fun w720 =>
 (J11 a712 w720))))))))))) (
 newC w609 #[(.pointer none)] 48 fun a721 w722 =>
 samec 1 a3 w12 w722 (
 samec 1 a1 w12 w722 (
 both (
 spl ltFu21 0 19 cs371 fun cs723 =>
 spl cs723 19 2 cs606 fun cs724 =>
 samec 1 a3 w12 w722 (
 samec 1 a1 w12 w722 (
 both (
 mapPut Go.Proofs.Tryd.prog 59 (.map p608) (.int .i64 (0 : Int)) (.agg cs724) w722 fun w725 =>
 samec 1 a3 w12 w725 (
 samec 1 a1 w12 w725 (
 mkMap Go.Proofs.Tryd.prog 60 none w725 fun p726 w727 =>
 samec 1 a3 w12 w727 (
 samec 1 a1 w12 w727 (
 spl ltFu20 0 1 cs13 fun cs728 =>
 newC w727 (Array.setIfInBounds (Array.setIfInBounds (Array.setIfInBounds (Array.setIfInBounds cs728 1 (.slice s14.a s14.n s14.c)) 2 (.bool quiet_2)) 3 (.map p608)) 4 (.map p726)) 62 fun a729 w730 =>
 stC w730 a721 (.pointer (some a729)) fun w731 =>
 (J11 a721 w731)))))) (
 mkMap Go.Proofs.Tryd.prog 60 none w722 fun p732 w733 =>
 samec 1 a3 w12 w733 (
 samec 1 a1 w12 w733 (
 mapPut Go.Proofs.Tryd.prog 59 (.map p608) (.int .i64 (0 : Int)) (.agg cs724) w733 fun w734 =>
 samec 1 a3 w12 w734 (
 samec 1 a1 w12 w734 (
 spl ltFu20 0 1 cs13 fun cs735 =>
 newC w734 (Array.setIfInBounds (Array.setIfInBounds (Array.setIfInBounds (Array.setIfInBounds cs735 1 (.slice s14.a s14.n s14.c)) 2 (.bool quiet_2)) 3 (.map p608)) 4 (.map p732)) 62 fun a736 w737 =>
 stC w737 a721 (.pointer (some a736)) fun w738 =>
 (J11 a721 w738))))))))) (
 mkMap Go.Proofs.Tryd.prog 60 none w722 fun p739 w740 =>
 samec 1 a3 w12 w740 (
 samec 1 a1 w12 w740 (
 spl ltFu21 0 19 cs371 fun cs741 =>
 spl cs741 19 2 cs606 fun cs742 =>
 samec 1 a3 w12 w740 (
 samec 1 a1 w12 w740 (
 mapPut Go.Proofs.Tryd.prog 59 (.map p608) (.int .i64 (0 : Int)) (.agg cs742) w740 fun w743 =>
 samec 1 a3 w12 w743 (
 samec 1 a1 w12 w743 (
 spl ltFu20 0 1 cs13 fun cs744 =>
 newC w743 (Array.setIfInBounds (Array.setIfInBounds (Array.setIfInBounds (Array.setIfInBounds cs744 1 (.slice s14.a s14.n s14.c)) 2 (.bool quiet_2)) 3 (.map p608)) 4 (.map p739)) 62 fun a745 w746 =>
 stC w746 a721 (.pointer (some a745)) fun w747 =>
 (J11 a721 w747))))))))))))))) (
 both (
 spl ltFu21 0 19 cs371 fun cs748 =>
 spl cs748 19 2 cs606 fun cs749 =>
 samec 1 a3 w12 w607 (
 samec 1 a1 w12 w607 (
 both (
 mkMap Go.Proofs.Tryd.prog 59 none w607 fun p750 w751 =>
 samec 1 a3 w12 w751 (
 samec 1 a1 w12 w751 (
 both (
 mapPut Go.Proofs.Tryd.prog 59 (.map p750) (.int .i64 (0 : Int)) (.agg cs749) w751 fun w752 =>
 samec 1 a3 w12 w752 (
 samec 1 a1 w12 w752 (
 both (
 mkMap Go.Proofs.Tryd.prog 60 none w752 fun p753 w754 =>
 samec 1 a3 w12 w754 (
 samec 1 a1 w12 w754 (
 both (
 spl ltFu20 0 1 cs13 fun cs755 =>
 both (
 newC w754 (Array.setIfInBounds (Array.setIfInBounds (Array.setIfInBounds (Array.setIfInBounds cs755 1 (.slice s14.a s14.n s14.c)) 2 (.bool quiet_2)) 3 (.map p750)) 4 (.map p753)) 62 fun a756 w757 =>
 newC w757 #[(.pointer none)] 48 fun a758 w759 =>
 samec 1 a3 w12 w759 (
 samec 1 a1 w12 w759 (
 stC w759 a758 (.pointer (some a756)) fun w760 =>
 (J11 a758 w760)))) (
 newC w754 #[(.pointer none)] 48 fun a761 w762 =>
 samec 1 a3 w12 w762 (
 samec 1 a1 w12 w762 (
 newC w762 (Array.setIfInBounds (Array.setIfInBounds (Array.setIfInBounds (Array.setIfInBounds cs755 1 (.slice s14.a s14.n s14.c)) 2 (.bool quiet_2)) 3 (.map p750)) 4 (.map p753)) 62 fun a763 w764 =>
 stC w764 a761 (.pointer (some a763)) fun w765 =>
 (J11 a761 w765))))) (
 newC w754 #[(.pointer none)] 48 fun a766 w767 =>
 samec 1 a3 w12 w767 (
 samec 1 a1 w12 w767 (
 spl ltFu20 0 1 cs13 fun cs768 =>
 newC w767 (Array.setIfInBounds (Array.setIfInBounds (Array.setIfInBounds (Array.setIfInBounds cs768 1 (.slice s14.a s14.n s14.c)) 2 (.bool quiet_2)) 3 (.map p750)) 4 (.map p753)) 62 fun a769 w770 =>
 stC w770 a766 (.pointer (some a769)) fun w771 =>
 (J11 a766 w771))))))) (
 newC w752 #[(.pointer none)] 48 fun a772 w773 =>
 samec 1 a3 w12 w773 (
 samec 1 a1 w12 w773 (
 mkMap Go.Proofs.Tryd.prog 60 none w773 fun p774 w775 =>
 samec 1 a3 w12 w775 (
 samec 1 a1 w12 w775 (
 spl ltFu20 0 1 cs13 fun cs776 =>
 newC w775 (Array.setIfInBounds (Array.setIfInBounds (Array.setIfInBounds (Array.setIfInBounds cs776 1 (.slice s14.a s14.n s14.c)) 2 (.bool quiet_2)) 3 (.map p750)) 4 (.map p774)) 62 fun a777 w778 =>
 stC w778 a772 (.pointer (some a777)) fun w779 =>
 (J11 a772 w779))))))))) (
 both (
 mkMap Go.Proofs.Tryd.prog 60 none w751 fun p780 w781 =>
 samec 1 a3 w12 w781 (
 samec 1 a1 w12 w781 (
 both (
 mapPut Go.Proofs.Tryd.prog 59 (.map p750) (.int .i64 (0 : Int)) (.agg cs749) w781 fun w782 =>
 samec 1 a3 w12 w782 (
 samec 1 a1 w12 w782 (
 both (
 spl ltFu20 0 1 cs13 fun cs783 =>
 both (
 newC w782 (Array.setIfInBounds (Array.setIfInBounds (Array.setIfInBounds (Array.setIfInBounds cs783 1 (.slice s14.a s14.n s14.c)) 2 (.bool quiet_2)) 3 (.map p750)) 4 (.map p780)) 62 fun a784 w785 =>
 newC w785 #[(.pointer none)] 48 fun a786 w787 =>
 samec 1 a3 w12 w787 (
 samec 1 a1 w12 w787 (
 stC w787 a786 (.pointer (some a784)) fun w788 =>
 (J11 a786 w788)))) (
 newC w782 #[(.pointer none)] 48 fun a789 w790 =>
 samec 1 a3 w12 w790 (
 samec 1 a1 w12 w790 (
 newC w790 (Array.setIfInBounds (Array.setIfInBounds (Array.setIfInBounds (Array.setIfInBounds cs783 1 (.slice s14.a s14.n s14.c)) 2 (.bool quiet_2)) 3 (.map p750)) 4 (.map p780)) 62 fun a791 w792 =>
 stC w792 a789 (.pointer (some a791)) fun w793 =>
 (J11 a789 w793))))) (
 newC w782 #[(.pointer none)] 48 fun a794 w795 =>
 samec 1 a3 w12 w795 (
 samec 1 a1 w12 w795 (
 spl ltFu20 0 1 cs13 fun cs796 =>
 newC w795 (Array.setIfInBounds (Array.setIfInBounds (Array.setIfInBounds (Array.setIfInBounds cs796 1 (.slice s14.a s14.n s14.c)) 2 (.bool quiet_2)) 3 (.map p750)) 4 (.map p780)) 62 fun a797 w798 =>
 stC w798 a794 (.pointer (some a797)) fun w799 =>
 (J11 a794 w799))))))) (
 newC w781 #[(.pointer none)] 48 fun a800 w801 =>
 samec 1 a3 w12 w801 (
 samec 1 a1 w12 w801 (
 mapPut Go.Proofs.Tryd.prog 59 (.map p750) (.int .i64 (0 : Int)) (.agg cs749) w801 fun w802 =>
 samec 1 a3 w12 w802 (
 samec 1 a1 w12 w802 (
 spl ltFu20 0 1 cs13 fun cs803 =>
 newC w802 (Array.setIfInBounds (Array.setIfInBounds (Array.setIfInBounds (Array.setIfInBounds cs803 1 (.slice s14.a s14.n s14.c)) 2 (.bool quiet_2)) 3 (.map p750)) 4 (.map p780)) 62 fun a804 w805 =>
 stC w805 a800 (.pointer (some a804)) fun w806 =>
 (J11 a800 w806))))))))) (
 newC w751 #[(.pointer none)] 48 fun a807 w808 =>
 samec 1 a3 w12 w808 (
 samec 1 a1 w12 w808 (
 both (
 mapPut Go.Proofs.Tryd.prog 59 (.map p750) (.int .i64 (0 : Int)) (.agg cs749) w808 fun w809 =>
 samec 1 a3 w12 w809 (
 samec 1 a1 w12 w809 (
 mkMap Go.Proofs.Tryd.prog 60 none w809 fun p810 w811 =>
 samec 1 a3 w12 w811 (
 samec 1 a1 w12 w811 (
 spl ltFu20 0 1 cs13 fun cs812 =>
 newC w811 (Array.setIfInBounds (Array.setIfInBounds (Array.setIfInBounds (Array.setIfInBounds cs812 1 (.slice s14.a s14.n s14.c)) 2 (.bool quiet_2)) 3 (.map p750)) 4 (.map p810)) 62 fun a813 w814 =>
 stC w814 a807 (.pointer (some a813)) fun w815 =>
 (J11 a807 w815)))))) (
 mkMap Go.Proofs.Tryd.prog 60 none w808 fun p816 w817 =>
 samec 1 a3 w12 w817 (
 samec 1 a1 w12 w817 (
 mapPut Go.Proofs.Tryd.prog 59 (.map p750) (.int .i64 (0 : Int)) (.agg cs749) w817 fun w818 =>
 samec 1 a3 w12 w818 (
 samec 1 a1 w12 w818 (
 spl ltFu20 0 1 cs13 fun cs819 =>
 newC w818 (Array.setIfInBounds (Array.setIfInBounds (Array.setIfInBounds (Array.setIfInBounds cs819 1 (.slice s14.a s14.n s14.c)) 2 (.bool quiet_2)) 3 (.map p750)) 4 (.map p816)) 62 fun a820 w821 =>
 stC w821 a807 (.pointer (some a820)) fun w822 =>
 (J11 a807 w822))))))))))))) (
 both (
 mkMap Go.Proofs.Tryd.prog 60 none w607 fun p823 w824 =>
 samec 1 a3 w12 w824 (
 samec 1 a1 w12 w824 (
 both (
 mkMap Go.Proofs.Tryd.prog 59 none w824 fun p825 w826 =>
 samec 1 a3 w12 w826 (
 samec 1 a1 w12 w826 (
 both (
 mapPut Go.Proofs.Tryd.prog 59 (.map p825) (.int .i64 (0 : Int)) (.agg cs749) w826 fun w827 =>
 samec 1 a3 w12 w827 (
 samec 1 a1 w12 w827 (
 both (
 spl ltFu20 0 1 cs13 fun cs828 =>
 both (
 newC w827 (Array.setIfInBounds (Array.setIfInBounds (Array.setIfInBounds (Array.setIfInBounds cs828 1 (.slice s14.a s14.n s14.c)) 2 (.bool quiet_2)) 3 (.map p825)) 4 (.map p823)) 62 fun a829 w830 =>
 newC w830 #[(.pointer none)] 48 fun a831 w832 =>
 samec 1 a3 w12 w832 (
 samec 1 a1 w12 w832 (
 stC w832 a831 (.pointer (some a829)) fun w833 =>
 (J11 a831 w833)))) (
 newC w827 #[(.pointer none)] 48 fun a834 w835 =>
 samec 1 a3 w12 w835 (
 samec 1 a1 w12 w835 (
 newC w835 (Array.setIfInBounds (Array.setIfInBounds (Array.setIfInBounds (Array.setIfInBounds cs828 1 (.slice s14.a s14.n s14.c)) 2 (.bool quiet_2)) 3 (.map p825)) 4 (.map p823)) 62 fun a836 w837 =>
 stC w837 a834 (.pointer (some a836)) fun w838 =>
 (J11 a834 w838))))) (
 newC w827 #[(.pointer none)] 48 fun a839 w840 =>
 samec 1 a3 w12 w840 (
 samec 1 a1 w12 w840 (
 spl ltFu20 0 1 cs13 fun cs841 =>
 newC w840 (Array.setIfInBounds (Array.setIfInBounds (Array.setIfInBounds (Array.setIfInBounds cs841 1 (.slice s14.a s14.n s14.c)) 2 (.bool quiet_2)) 3 (.map p825)) 4 (.map p823)) 62 fun a842 w843 =>
 stC w843 a839 (.pointer (some a842)) fun w844 =>
 (J11 a839 w844))))))) (
 newC w826 #[(.pointer none)] 48 fun a845 w846 =>
 samec 1 a3 w12 w846 (
 samec 1 a1 w12 w846 (
 mapPut Go.Proofs.Tryd.prog 59 (.map p825) (.int .i64 (0 : Int)) (.agg cs749) w846 fun w847 =>
 samec 1 a3 w12 w847 (
 samec 1 a1 w12 w847 (
 spl ltFu20 0 1 cs13 fun cs848 =>
 newC w847 (Array.setIfInBounds (Array.setIfInBounds (Array.setIfInBounds (Array.setIfInBounds cs848 1 (.slice s14.a s14.n s14.c)) 2 (.bool quiet_2)) 3 (.map p825)) 4 (.map p823)) 62 fun a849 w850 =>
 stC w850 a845 (.pointer (some a849)) fun w851 =>
 (J11 a845 w851))))))))) (
 newC w824 #[(.pointer none)] 48 fun a852 w853 =>
 samec 1 a3 w12 w853 (
 samec 1 a1 w12 w853 (
 mkMap Go.Proofs.Tryd.prog 59 none w853 fun p854 w855 =>
 samec 1 a3 w12 w855 (
 samec 1 a1 w12 w855 (
 mapPut Go.Proofs.Tryd.prog 59 (.map p854) (.int .i64 (0 : Int)) (.agg cs749) w855 fun w856 =>
 samec 1 a3 w12 w856 (
 samec 1 a1 w12 w856 (
 spl ltFu20 0 1 cs13 fun cs857 =>
 newC w856 (Array.setIfInBounds (Array.setIfInBounds (Array.setIfInBounds (Array.setIfInBounds cs857 1 (.slice s14.a s14.n s14.c)) 2 (.bool quiet_2)) 3 (.map p854)) 4 (.map p823)) 62 fun a858 w859 =>
 stC w859 a852 (.pointer (some a858)) fun w860 =>
 (J11 a852 w860))))))))))) (
 newC w607 #[(.pointer none)] 48 fun a861 w862 =>
 samec 1 a3 w12 w862 (
 samec 1 a1 w12 w862 (
 both (
 mkMap Go.Proofs.Tryd.prog 59 none w862 fun p863 w864 =>
 samec 1 a3 w12 w864 (
 samec 1 a1 w12 w864 (
 both (
 mapPut Go.Proofs.Tryd.prog 59 (.map p863) (.int .i64 (0 : Int)) (.agg cs749) w864 fun w865 =>
 samec 1 a3 w12 w865 (
 samec 1 a1 w12 w865 (
 mkMap Go.Proofs.Tryd.prog 60 none w865 fun p866 w867 =>
 samec 1 a3 w12 w867 (
 samec 1 a1 w12 w867 (
 spl ltFu20 0 1 cs13 fun cs868 =>
 newC w867 (Array.setIfInBounds (Array.setIfInBounds (Array.setIfInBounds (Array.setIfInBounds cs868 1 (.slice s14.a s14.n s14.c)) 2 (.bool quiet_2)) 3 (.map p863)) 4 (.map p866)) 62 fun a869 w870 =>
 stC w870 a861 (.pointer (some a869)) fun w871 =>
 (J11 a861 w871)))))) (
 mkMap Go.Proofs.Tryd.prog 60 none w864 fun p872 w873 =>
 samec 1 a3 w12 w873 (
 samec 1 a1 w12 w873 (
 mapPut Go.Proofs.Tryd.prog 59 (.map p863) (.int .i64 (0 : Int)) (.agg cs749) w873 fun w874 =>
 samec 1 a3 w12 w874 (
 samec 1 a1 w12 w874 (
 spl ltFu20 0 1 cs13 fun cs875 =>
 newC w874 (Array.setIfInBounds (Array.setIfInBounds (Array.setIfInBounds (Array.setIfInBounds cs875 1 (.slice s14.a s14.n s14.c)) 2 (.bool quiet_2)) 3 (.map p863)) 4 (.map p872)) 62 fun a876 w877 =>
 stC w877 a861 (.pointer (some a876)) fun w878 =>
 (J11 a861 w878))))))))) (
 mkMap Go.Proofs.Tryd.prog 60 none w862 fun p879 w880 =>
 samec 1 a3 w12 w880 (
 samec 1 a1 w12 w880 (
 mkMap Go.Proofs.Tryd.prog 59 none w880 fun p881 w882 =>
 samec 1 a3 w12 w882 (
 samec 1 a1 w12 w882 (
 mapPut Go.Proofs.Tryd.prog 59 (.map p881) (.int .i64 (0 : Int)) (.agg cs749) w882 fun w883 =>
 samec 1 a3 w12 w883 (
 samec 1 a1 w12 w883 (
 spl ltFu20 0 1 cs13 fun cs884 =>
 newC w883 (Array.setIfInBounds (Array.setIfInBounds (Array.setIfInBounds (Array.setIfInBounds cs884 1 (.slice s14.a s14.n s14.c)) 2 (.bool quiet_2)) 3 (.map p881)) 4 (.map p879)) 62 fun a885 w886 =>
 stC w886 a861 (.pointer (some a885)) fun w887 =>
 (J11 a861 w887))))))))))))))) (
 both (
 mkMap Go.Proofs.Tryd.prog 60 none w607 fun p888 w889 =>
 samec 1 a3 w12 w889 (
 samec 1 a1 w12 w889 (
 both (
 mkMap Go.Proofs.Tryd.prog 59 none w889 fun p890 w891 =>
 samec 1 a3 w12 w891 (
 samec 1 a1 w12 w891 (
 both (
 spl ltFu21 0 19 cs371 fun cs892 =>
 spl cs892 19 2 cs606 fun cs893 =>
 samec 1 a3 w12 w891 (
 samec 1 a1 w12 w891 (
 both (
 mapPut Go.Proofs.Tryd.prog 59 (.map p890) (.int .i64 (0 : Int)) (.agg cs893) w891 fun w894 =>
 samec 1 a3 w12 w894 (
 samec 1 a1 w12 w894 (
 both (
 spl ltFu20 0 1 cs13 fun cs895 =>
 both (
 newC w894 (Array.setIfInBounds (Array.setIfInBounds (Array.setIfInBounds (Array.setIfInBounds cs895 1 (.slice s14.a s14.n s14.c)) 2 (.bool quiet_2)) 3 (.map p890)) 4 (.map p888)) 62 fun a896 w897 =>
 newC w897 #[(.pointer none)] 48 fun a898 w899 =>
 samec 1 a3 w12 w899 (
 samec 1 a1 w12 w899 (
 stC w899 a898 (.pointer (some a896)) fun w900 =>
 (J11 a898 w900)))) (
 newC w894 #[(.pointer none)] 48 fun a901 w902 =>
 samec 1 a3 w12 w902 (
 samec 1 a1 w12 w902 (
 newC w902 (Array.setIfInBounds (Array.setIfInBounds (Array.setIfInBounds (Array.setIfInBounds cs895 1 (.slice s14.a s14.n s14.c)) 2 (.bool quiet_2)) 3 (.map p890)) 4 (.map p888)) 62 fun a903 w904 =>
 stC w904 a901 (.pointer (some a903)) fun w905 =>
 (J11 a901 w905))))) (
 newC w894 #[(.pointer none)] 48 fun a906 w907 =>
 samec 1 a3 w12 w907 (
 samec 1 a1 w12 w907 (
 spl ltFu20 0 1 cs13 fun cs908 =>
 newC w907 (Array.setIfInBounds (Array.setIfInBounds (Array.setIfInBounds (Array.setIfInBounds cs908 1 (.slice s14.a s14.n s14.c)) 2 (.bool quiet_2)) 3 (.map p890)) 4 (.map p888)) 62 fun a909 w910 =>
 stC w910 a906 (.pointer (some a909)) fun w911 =>
 (J11 a906 w911))))))) (
 newC w891 #[(.pointer none)] 48 fun a912 w913 =>
 samec 1 a3 w12 w913 (
 samec 1 a1 w12 w913 (
 mapPut Go.Proofs.Tryd.prog 59 (.map p890) (.int .i64 (0 : Int)) (.agg cs893) w913 fun w914 =>
 samec 1 a3 w12 w914 (
 samec 1 a1 w12 w914 (
 spl ltFu20 0 1 cs13 fun cs915 =>
 newC w914 (Array.setIfInBounds (Array.setIfInBounds (Array.setIfInBounds (Array.setIfInBounds cs915 1 (.slice s14.a s14.n s14.c)) 2 (.bool quiet_2)) 3 (.map p890)) 4 (.map p888)) 62 fun a916 w917 =>
 stC w917 a912 (.pointer (some a916)) fun w918 =>
 (J11 a912 w918))))))))) (
 newC w891 #[(.pointer none)] 48 fun a919 w920 =>
 samec 1 a3 w12 w920 (
 samec 1 a1 w12 w920 (
 spl ltFu21 0 19 cs371 fun cs921 =>
 spl cs921 19 2 cs606 fun cs922 =>
 samec 1 a3 w12 w920 (
 samec 1 a1 w12 w920 (
 mapPut Go.Proofs.Tryd.prog 59 (.map p890) (.int .i64 (0 : Int)) (.agg cs922) w920 fun w923 =>
 samec 1 a3 w12 w923 (
 samec 1 a1 w12 w923 (
 spl ltFu20 0 1 cs13 fun cs924 =>
 newC w923 (Array.setIfInBounds (Array.setIfInBounds (Array.setIfInBounds (Array.setIfInBounds cs924 1 (.slice s14.a s14.n s14.c)) 2 (.bool quiet_2)) 3 (.map p890)) 4 (.map p888)) 62 fun a925 w926 =>
 stC w926 a919 (.pointer (some a925)) fun w927 =>
 (J11 a919 w927))))))))))) (
 both (
 spl ltFu21 0 19 cs371 fun cs928 =>
 spl cs928 19 2 cs606 fun cs929 =>
 samec 1 a3 w12 w889 (
 samec 1 a1 w12 w889 (
 both (
 mkMap Go.Proofs.Tryd.prog 59 none w889 fun p930 w931 =>
 samec 1 a3 w12 w931 (
 samec 1 a1 w12 w931 (
 both (
 mapPut Go.Proofs.Tryd.prog 59 (.map p930) (.int .i64 (0 : Int)) (.agg cs929) w931 fun w932 =>
 samec 1 a3 w12 w932 (
 samec 1 a1 w12 w932 (
 both (
 spl ltFu20 0 1 cs13 fun cs933 =>
 both (
 newC w932 (Array.setIfInBounds (Array.setIfInBounds (Array.setIfInBounds (Array.setIfInBounds cs933 1 (.slice s14.a s14.n s14.c)) 2 (.bool quiet_2)) 3 (.map p930)) 4 (.map p888)) 62 fun a934 w935 =>
 newC w935 #[(.pointer none)] 48 fun a936 w937 =>
 samec 1 a3 w12 w937 (
 samec 1 a1 w12 w937 (
 stC w937 a936 (.pointer (some a934)) fun w938 =>
 (J11 a936 w938)))) (
 newC w932 #[(.pointer none)] 48 fun a939 w940 =>
 samec 1 a3 w12 w940 (
 samec 1 a1 w12 w940 (
 newC w940 (Array.setIfInBounds (Array.setIfInBounds (Array.setIfInBounds (Array.setIfInBounds cs933 1 (.slice s14.a s14.n s14.c)) 2 (.bool quiet_2)) 3 (.map p930)) 4 (.map p888)) 62 fun a941 w942 =>
 stC w942 a939 (.pointer (some a941)) fun w943 =>
 (J11 a939 w943))))) (
 newC w932 #[(.pointer none)] 48 fun a944 w945 =>
 samec 1 a3 w12 w945 (
 samec 1 a1 w12 w945 (
 spl ltFu20 0 1 cs13 fun cs946 =>
 newC w945 (Array.setIfInBounds (Array.setIfInBounds (Array.setIfInBounds (Array.setIfInBounds cs946 1 (.slice s14.a s14.n s14.c)) 2 (.bool quiet_2)) 3 (.map p930)) 4 (.map p888)) 62 fun a947 w948 =>
 stC w948 a944 (.pointer (some a947)) fun w949 =>
 (J11 a944 w949))))))) (
 newC w931 #[(.pointer none)] 48 fun a950 w951 =>
 samec 1 a3 w12 w951 (
 samec 1 a1 w12 w951 (
 mapPut Go.Proofs.Tryd.prog 59 (.map p930) (.int .i64 (0 : Int)) (.agg cs929) w951 fun w952 =>
 samec 1 a3 w12 w952 (
 samec 1 a1 w12 w952 (
 spl ltFu20 0 1 cs13 fun cs953 =>
 newC w952 (Array.setIfInBounds (Array.setIfInBounds (Array.setIfInBounds (Array.setIfInBounds cs953 1 (.slice s14.a s14.n s14.c)) 2 (.bool quiet_2)) 3 (.map p930)) 4 (.map p888)) 62 fun a954 w955 =>
 stC w955 a950 (.pointer (some a954)) fun w956 =>
 (J11 a950 w956))))))))) (
 newC w889 #[(.pointer none)] 48 fun a957 w958 =>
 samec 1 a3 w12 w958 (
 samec 1 a1 w12 w958 (
 mkMap Go.Proofs.Tryd.prog 59 none w958 fun p959 w960 =>
 samec 1 a3 w12 w960 (
 samec 1 a1 w12 w960 (
 mapPut Go.Proofs.Tryd.prog 59 (.map p959) (.int .i64 (0 : Int)) (.agg cs929) w960 fun w961 =>
 samec 1 a3 w12 w961 (
 samec 1 a1 w12 w961 (
 spl ltFu20 0 1 cs13 fun cs962 =>
 newC w961 (Array.setIfInBounds (Array.setIfInBounds (Array.setIfInBounds (Array.setIfInBounds cs962 1 (.slice s14.a s14.n s14.c)) 2 (.bool quiet_2)) 3 (.map p959)) 4 (.map p888)) 62 fun a963 w964 =>
 stC w964 a957 (.pointer (some a963)) fun w965 =>
 (J11 a957 w965))))))))))) (
 newC w889 #[(.pointer none)] 48 fun a966 w967 =>
 samec 1 a3 w12 w967 (
 samec 1 a1 w12 w967 (
 both (
 mkMap Go.Proofs.Tryd.prog 59 none w967 fun p968 w969 =>
 samec 1 a3 w12 w969 (
 samec 1 a1 w12 w969 (
 spl ltFu21 0 19 cs371 fun cs970 =>
 spl cs970 19 2 cs606 fun cs971 =>
 samec 1 a3 w12 w969 (
 samec 1 a1 w12 w969 (
 mapPut Go.Proofs.Tryd.prog 59 (.map p968) (.int .i64 (0 : Int)) (.agg cs971) w969 fun w972 =>
 samec 1 a3 w12 w972 (
 samec 1 a1 w12 w972 (
 spl ltFu20 0 1 cs13 fun cs973 =>
 newC w972 (Array.setIfInBounds (Array.setIfInBounds (Array.setIfInBounds (Array.setIfInBounds cs973 1 (.slice s14.a s14.n s14.c)) 2 (.bool quiet_2)) 3 (.map p968)) 4 (.map p888)) 62 fun a974 w975 =>
 stC w975 a966 (.pointer (some a974)) fun w976 =>
 (J11 a966 w976)))))))) (
 spl ltFu21 0 19 cs371 fun cs977 =>
 spl cs977 19 2 cs606 fun cs978 =>
 samec 1 a3 w12 w967 (
 samec 1 a1 w12 w967 (
 mkMap Go.Proofs.Tryd.prog 59 none w967 fun p979 w980 =>
 samec 1 a3 w12 w980 (
 samec 1 a1 w12 w980 (
 mapPut Go.Proofs.Tryd.prog 59 (.map p979) (.int .i64 (0 : Int)) (.agg cs978) w980 fun w981 =>
 samec 1 a3 w12 w981 (
 samec 1 a1 w12 w981 (
 spl ltFu20 0 1 cs13 fun cs982 =>
 newC w981 (Array.setIfInBounds (Array.setIfInBounds (Array.setIfInBounds (Array.setIfInBounds cs982 1 (.slice s14.a s14.n s14.c)) 2 (.bool quiet_2)) 3 (.map p979)) 4 (.map p888)) 62 fun a983 w984 =>
 stC w984 a966 (.pointer (some a983)) fun w985 =>
 (J11 a966 w985))))))))))))))) (
 newC w607 #[(.pointer none)] 48 fun a986 w987 =>
 samec 1 a3 w12 w987 (
 samec 1 a1 w12 w987 (
 both (
 mkMap Go.Proofs.Tryd.prog 59 none w987 fun p988 w989 =>
 samec 1 a3 w12 w989 (
 samec 1 a1 w12 w989 (
 both (
 spl ltFu21 0 19 cs371 fun cs990 =>
 spl cs990 19 2 cs606 fun cs991 =>
 samec 1 a3 w12 w989 (
 samec 1 a1 w12 w989 (
 both (
 mapPut Go.Proofs.Tryd.prog 59 (.map p988) (.int .i64 (0 : Int)) (.agg cs991) w989 fun w992 =>
 samec 1 a3 w12 w992 (
 samec 1 a1 w12 w992 (
 mkMap Go.Proofs.Tryd.prog 60 none w992 fun p993 w994 =>
 samec 1 a3 w12 w994 (
 samec 1 a1 w12 w994 (
 spl ltFu20 0 1 cs13 fun cs995 =>
 newC w994 (Array.setIfInBounds (Array.setIfInBounds (Array.setIfInBounds (Array.setIfInBounds cs995 1 (.slice s14.a s14.n s14.c)) 2 (.bool quiet_2)) 3 (.map p988)) 4 (.map p993)) 62 fun a996 w997 =>
 stC w997 a986 (.pointer (some a996)) fun w998 =>
 (J11 a986 w998)))))) (
 mkMap Go.Proofs.Tryd.prog 60 none w989 fun p999 w1000 =>
 samec 1 a3 w12 w1000 (
 samec 1 a1 w12 w1000 (
 mapPut Go.Proofs.Tryd.prog 59 (.map p988) (.int .i64 (0 : Int)) (.agg cs991) w1000 fun w1001 =>
 samec 1 a3 w12 w1001 (
 samec 1 a1 w12 w1001 (
 spl ltFu20 0 1 cs13 fun cs1002 =>
 newC w1001 (Array.setIfInBounds (Array.setIfInBounds (Array.setIfInBounds (Array.setIfInBounds cs1002 1 (.slice s14.a s14.n s14.c)) 2 (.bool quiet_2)) 3 (.map p988)) 4 (.map p999)) 62 fun a1003 w1004 =>
 stC w1004 a986 (.pointer (some a1003)) fun w1005 =>
 (J11 a986 w1005))))))))) (
 mkMap Go.Proofs.Tryd.prog 60 none w989 fun p1006 w1007 =>
 samec 1 a3 w12 w1007 (
 samec 1 a1 w12 w1007 (
 spl ltFu21 0 19 cs371 fun cs1008 =>
 spl cs1008 19 2 cs606 fun cs1009 =>
 samec 1 a3 w12 w1007 (
 samec 1 a1 w12 w1007 (
 mapPut Go.Proofs.Tryd.prog 59 (.map p988) (.int .i64 (0 : Int)) (.agg cs1009) w1007 fun w1010 =>
 samec 1 a3 w12 w1010 (
 samec 1 a1 w12 w1010 (
 spl ltFu20 0 1 cs13 fun cs1011 =>
 newC w1010 (Array.setIfInBounds (Array.setIfInBounds (Array.setIfInBounds (Array.setIfInBounds cs1011 1 (.slice s14.a s14.n s14.c)) 2 (.bool quiet_2)) 3 (.map p988)) 4 (.map p1006)) 62 fun a1012 w1013 =>
 stC w1013 a986 (.pointer (some a1012)) fun w1014 =>
 (J11 a986 w1014))))))))))) (
 both (
 spl ltFu21 0 19 cs371 fun cs1015 =>
 spl cs1015 19 2 cs606 fun cs1016 =>
 samec 1 a3 w12 w987 (
 samec 1 a1 w12 w987 (
 both (
 mkMap Go.Proofs.Tryd.prog 59 none w987 fun p1017 w1018 =>
 samec 1 a3 w12 w1018 (
 samec 1 a1 w12 w1018 (
 both (
 mapPut Go.Proofs.Tryd.prog 59 (.map p1017) (.int .i64 (0 : Int)) (.agg cs1016) w1018 fun w1019 =>
 samec 1 a3 w12 w1019 (
 samec 1 a1 w12 w1019 (
 mkMap Go.Proofs.Tryd.prog 60 none w1019 fun p1020 w1021 =>
 samec 1 a3 w12 w1021 (
 samec 1 a1 w12 w1021 (
 spl ltFu20 0 1 cs13 fun cs1022 =>
 newC w1021 (Array.setIfInBounds (Array.setIfInBounds (Array.setIfInBounds (Array.setIfInBounds cs1022 1 (.slice s14.a s14.n s14.c)) 2 (.bool quiet_2)) 3 (.map p1017)) 4 (.map p1020)) 62 fun a1023 w1024 =>
 stC w1024 a986 (.pointer (some a1023)) fun w1025 =>
 (J11 a986 w1025)))))) (
 mkMap Go.Proofs.Tryd.prog 60 none w1018 fun p1026 w1027 =>
 samec 1 a3 w12 w1027 (
 samec 1 a1 w12 w1027 (
 mapPut Go.Proofs.Tryd.prog 59 (.map p1017) (.int .i64 (0 : Int)) (.agg cs1016) w1027 fun w1028 =>
 samec 1 a3 w12 w1028 (
 samec 1 a1 w12 w1028 (
 spl ltFu20 0 1 cs13 fun cs1029 =>
 newC w1028 (Array.setIfInBounds (Array.setIfInBounds (Array.setIfInBounds (Array.setIfInBounds cs1029 1 (.slice s14.a s14.n s14.c)) 2 (.bool quiet_2)) 3 (.map p1017)) 4 (.map p1026)) 62 fun a1030 w1031 =>
 stC w1031 a986 (.pointer (some a1030)) fun w1032 =>
 (J11 a986 w1032))))))))) (
 mkMap Go.Proofs.Tryd.prog 60 none w987 fun p1033 w1034 =>
 samec 1 a3 w12 w1034 (
 samec 1 a1 w12 w1034 (
 mkMap Go.Proofs.Tryd.prog 59 none w1034 fun p1035 w1036 =>
 samec 1 a3 w12 w1036 (
 samec 1 a1 w12 w1036 (
 mapPut Go.Proofs.Tryd.prog 59 (.map p1035) (.int .i64 (0 : Int)) (.agg cs1016) w1036 fun w1037 =>
 samec 1 a3 w12 w1037 (
 samec 1 a1 w12 w1037 (
 spl ltFu20 0 1 cs13 fun cs1038 =>
 newC w1037 (Array.setIfInBounds (Array.setIfInBounds (Array.setIfInBounds (Array.setIfInBounds cs1038 1 (.slice s14.a s14.n s14.c)) 2 (.bool quiet_2)) 3 (.map p1035)) 4 (.map p1033)) 62 fun a1039 w1040 =>
 stC w1040 a986 (.pointer (some a1039)) fun w1041 =>
 (J11 a986 w1041))))))))))) (
 mkMap Go.Proofs.Tryd.prog 60 none w987 fun p1042 w1043 =>
 samec 1 a3 w12 w1043 (
 samec 1 a1 w12 w1043 (
 both (
 mkMap Go.Proofs.Tryd.prog 59 none w1043 fun p1044 w1045 =>
 samec 1 a3 w12 w1045 (
 samec 1 a1 w12 w1045 (
 spl ltFu21 0 19 cs371 fun cs1046 =>
 spl cs1046 19 2 cs606 fun cs1047 =>
 samec 1 a3 w12 w1045 (
 samec 1 a1 w12 w1045 (
 mapPut Go.Proofs.Tryd.prog 59 (.map p1044) (.int .i64 (0 : Int)) (.agg cs1047) w1045 fun w1048 =>
 samec 1 a3 w12 w1048 (
 samec 1 a1 w12 w1048 (
 spl ltFu20 0 1 cs13 fun cs1049 =>
 newC w1048 (Array.setIfInBounds (Array.setIfInBounds (Array.setIfInBounds (Array.setIfInBounds cs1049 1 (.slice s14.a s14.n s14.c)) 2 (.bool quiet_2)) 3 (.map p1044)) 4 (.map p1042)) 62 fun a1050 w1051 =>
 stC w1051 a986 (.pointer (some a1050)) fun w1052 =>
 (J11 a986 w1052)))))))) (
 spl ltFu21 0 19 cs371 fun cs1053 =>
 spl cs1053 19 2 cs606 fun cs1054 =>
 samec 1 a3 w12 w1043 (
 samec 1 a1 w12 w1043 (
 mkMap Go.Proofs.Tryd.prog 59 none w1043 fun p1055 w1056 =>
 samec 1 a3 w12 w1056 (
 samec 1 a1 w12 w1056 (
 mapPut Go.Proofs.Tryd.prog 59 (.map p1055) (.int .i64 (0 : Int)) (.agg cs1054) w1056 fun w1057 =>
 samec 1 a3 w12 w1057 (
 samec 1 a1 w12 w1057 (
 spl ltFu20 0 1 cs13 fun cs1058 =>
 newC w1057 (Array.setIfInBounds (Array.setIfInBounds (Array.setIfInBounds (Array.setIfInBounds cs1058 1 (.slice s14.a s14.n s14.c)) 2 (.bool quiet_2)) 3 (.map p1055)) 4 (.map p1042)) 62 fun a1059 w1060 =>
 stC w1060 a986 (.pointer (some a1059)) fun w1061 =>
 (J11 a986 w1061)))))))))))))))))))) (
 both (
 mkMap Go.Proofs.Tryd.prog 60 none w372 fun p1062 w1063 =>
 samec 1 a3 w12 w1063 (
 samec 1 a1 w12 w1063 (
 both (
 mkMap Go.Proofs.Tryd.prog 59 none w1063 fun p1064 w1065 =>
 samec 1 a3 w12 w1065 (
 samec 1 a1 w12 w1065 (
 both (
 fits_world  w1065 fun cs1066 w1067 =>
 samec 1 a3 w12 w1067 (
 samec 1 a1 w12 w1067 (
 both (
 spl ltFu21 0 19 cs371 fun cs1068 =>
 spl cs1068 19 2 cs1066 fun cs1069 =>
 samec 1 a3 w12 w1067 (
 samec 1 a1 w12 w1067 (
 both (
 mapPut Go.Proofs.Tryd.prog 59 (.map p1064) (.int .i64 (0 : Int)) (.agg cs1069) w1067 fun w1070 =>
 samec 1 a3 w12 w1070 (
 samec 1 a1 w12 w1070 (
 both (
 spl ltFu20 0 1 cs13 fun cs1071 =>
 both (
 newC w1070 (Array.setIfInBounds (Array.setIfInBounds (Array.setIfInBounds (Array.setIfInBounds cs1071 1 (.slice s14.a s14.n s14.c)) 2 (.bool quiet_2)) 3 (.map p1064)) 4 (.map p1062)) 62 fun a1072 w1073 =>
 newC w1073 #[(.pointer none)] 48 fun a1074 w1075 =>
 samec 1 a3 w12 w1075 (
 samec 1 a1 w12 w1075 (
 stC w1075 a1074 (.pointer (some a1072)) fun w1076 =>
 (J11 a1074 w1076)))) (
 newC w1070 #[(.pointer none)] 48 fun a1077 w1078 =>
 samec 1 a3 w12 w1078 (
 samec 1 a1 w12 w1078 (
 newC w1078 (Array.setIfInBounds (Array.setIfInBounds (Array.setIfInBounds (Array.setIfInBounds cs1071 1 (.slice s14.a s14.n s14.c)) 2 (.bool quiet_2)) 3 (.map p1064)) 4 (.map p1062)) 62 fun a1079 w1080 =>
 stC w1080 a1077 (.pointer (some a1079)) fun w1081 =>
 (J11 a1077 w1081))))) (
 newC w1070 #[(.pointer none)] 48 fun a1082 w1083 =>
 samec 1 a3 w12 w1083 (
 samec 1 a1 w12 w1083 (
 spl ltFu20 0 1 cs13 fun cs1084 =>
 newC w1083 (Array.setIfInBounds (Array.setIfInBounds (Array.setIfInBounds (Array.setIfInBounds cs1084 1 (.slice s14.a s14.n s14.c)) 2 (.bool quiet_2)) 3 (.map p1064)) 4 (.map p1062)) 62 fun a1085 w1086 =>
 stC w1086 a1082 (.pointer (some a1085)) fun w1087 =>
 (J11 a1082 w1087))))))) (
 newC w1067 #[(.pointer none)] 48 fun a1088 w1089 =>
 samec 1 a3 w12 w1089 (
 samec 1 a1 w12 w1089 (
 mapPut Go.Proofs.Tryd.prog 59 (.map p1064) (.int .i64 (0 : Int)) (.agg cs1069) w1089 fun w1090 =>
 samec 1 a3 w12 w1090 (
 samec 1 a1 w12 w1090 (
 spl ltFu20 0 1 cs13 fun cs1091 =>
 newC w1090 (Array.setIfInBounds (Array.setIfInBounds (Array.setIfInBounds (Array.setIfInBounds cs1091 1 (.slice s14.a s14.n s14.c)) 2 (.bool quiet_2)) 3 (.map p1064)) 4 (.map p1062)) 62 fun a1092 w1093 =>
 stC w1093 a1088 (.pointer (some a1092)) fun w1094 =>
 (J11 a1088 w1094))))))))) (
 newC w1067 #[(.pointer none)] 48 fun a1095 w1096 =>
 samec 1 a3 w12 w1096 (
 samec 1 a1 w12 w1096 (
 spl ltFu21 0 19 cs371 fun cs1097 =>
 spl cs1097 19 2 cs1066 fun cs1098 =>
 samec 1 a3 w12 w1096 (
 samec 1 a1 w12 w1096 (
 mapPut Go.Proofs.Tryd.prog 59 (.map p1064) (.int .i64 (0 : Int)) (.agg cs1098) w1096 fun w1099 =>
 samec 1 a3 w12 w1099 (
 samec 1 a1 w12 w1099 (
 spl ltFu20 0 1 cs13 fun cs1100 =>
 newC w1099 (Array.setIfInBounds (Array.setIfInBounds (Array.setIfInBounds (Array.setIfInBounds cs1100 1 (.slice s14.a s14.n s14.c)) 2 (.bool quiet_2)) 3 (.map p1064)) 4 (.map p1062)) 62 fun a1101 w1102 =>
 stC w1102 a1095 (.pointer (some a1101)) fun w1103 =>
 (J11 a1095 w1103))))))))))) (
 newC w1065 #[(.pointer none)] 48 fun a1104 w1105 =>
 samec 1 a3 w12 w1105 (
 samec 1 a1 w12 w1105 (
 fits_world  w1105 fun cs1106 w1107 =>
 samec 1 a3 w12 w1107 (
 samec 1 a1 w12 w1107 (
 spl ltFu21 0 19 cs371 fun cs1108 =>
 spl cs1108 19 2 cs1106 fun cs1109 =>
 samec 1 a3 w12 w1107 (
 samec 1 a1 w12 w1107 (
 mapPut Go.Proofs.Tryd.prog 59 (.map p1064) (.int .i64 (0 : Int)) (.agg cs1109) w1107 fun w1110 =>
 samec 1 a3 w12 w1110 (
 samec 1 a1 w12 w1110 (
 spl ltFu20 0 1 cs13 fun cs1111 =>
 newC w1110 (Array.setIfInBounds (Array.setIfInBounds (Array.setIfInBounds (Array.setIfInBounds cs1111 1 (.slice s14.a s14.n s14.c)) 2 (.bool quiet_2)) 3 (.map p1064)) 4 (.map p1062)) 62 fun a1112 w1113 =>
 stC w1113 a1104 (.pointer (some a1112)) fun w1114 =>
 (J11 a1104 w1114))))))))))))) (
 both (
 fits_world  w1063 fun cs1115 w1116 =>
 samec 1 a3 w12 w1116 (
 samec 1 a1 w12 w1116 (
 both (
 mkMap Go.Proofs.Tryd.prog 59 none w1116 fun p1117 w1118 =>
 samec 1 a3 w12 w1118 (
 samec 1 a1 w12 w1118 (
 both (
 spl ltFu21 0 19 cs371 fun cs1119 =>
 spl cs1119 19 2 cs1115 fun cs1120 =>
 samec 1 a3 w12 w1118 (
 samec 1 a1 w12 w1118 (
 both (
 mapPut Go.Proofs.Tryd.prog 59 (.map p1117) (.int .i64 (0 : Int)) (.agg cs1120) w1118 fun w1121 =>
 samec 1 a3 w12 w1121 (
 samec 1 a1 w12 w1121 (
 both (
 spl ltFu20 0 1 cs13 fun cs1122 =>
 both (
 newC w1121 (Array.setIfInBounds (Array.setIfInBounds (Array.setIfInBounds (Array.setIfInBounds cs1122 1 (.slice s14.a s14.n s14.c)) 2 (.bool quiet_2)) 3 (.map p1117)) 4 (.map p1062)) 62 fun a1123 w1124 =>
 newC w1124 #[(.pointer none)] 48 fun a1125 w1126 =>
 samec 1 a3 w12 w1126 (
 samec 1 a1 w12 w1126 (
 stC w1126 a1125 (.pointer (some a1123)) fun w1127 =>
 (J11 a1125 w1127)))) (
 newC w1121 #[(.pointer none)] 48 fun a1128 w1129 =>
 samec 1 a3 w12 w1129 (
 samec 1 a1 w12 w1129 (
 newC w1129 (Array.setIfInBounds (Array.setIfInBounds (Array.setIfInBounds (Array.setIfInBounds cs1122 1 (.slice s14.a s14.n s14.c)) 2 (.bool quiet_2)) 3 (.map p1117)) 4 (.map p1062)) 62 fun a1130 w1131 =>
 stC w1131 a1128 (.pointer (some a1130)) fun w1132 =>
 (J11 a1128 w1132))))) (
 newC w1121 #[(.pointer none)] 48 fun a1133 w1134 =>
 samec 1 a3 w12 w1134 (
 samec 1 a1 w12 w1134 (
 spl ltFu20 0 1 cs13 fun cs1135 =>
 newC w1134 (Array.setIfInBounds (Array.setIfInBounds (Array.setIfInBounds (Array.setIfInBounds cs1135 1 (.slice s14.a s14.n s14.c)) 2 (.bool quiet_2)) 3 (.map p1117)) 4 (.map p1062)) 62 fun a1136 w1137 =>
 stC w1137 a1133 (.pointer (some a1136)) fun w1138 =>
 (J11 a1133 w1138))))))) (
 newC w1118 #[(.pointer none)] 48 fun a1139 w1140 =>
 samec 1 a3 w12 w1140 (
 samec 1 a1 w12 w1140 (
 mapPut Go.Proofs.Tryd.prog 59 (.map p1117) (.int .i64 (0 : Int)) (.agg cs1120) w1140 fun w1141 =>
 samec 1 a3 w12 w1141 (
 samec 1 a1 w12 w1141 (
 spl ltFu20 0 1 cs13 fun cs1142 =>
 newC w1141 (Array.setIfInBounds (Array.setIfInBounds (Array.setIfInBounds (Array.setIfInBounds cs1142 1 (.slice s14.a s14.n s14.c)) 2 (.bool quiet_2)) 3 (.map p1117)) 4 (.map p1062)) 62 fun a1143 w1144 =>
 stC w1144 a1139 (.pointer (some a1143)) fun w1145 =>
 (J11 a1139 w1145))))))))) (
 newC w1118 #[(.pointer none)] 48 fun a1146 w1147 =>
 samec 1 a3 w12 w1147 (
 samec 1 a1 w12 w1147 (
 spl ltFu21 0 19 cs371 fun cs1148 =>
 spl cs1148 19 2 cs1115 fun cs1149 =>
 samec 1 a3 w12 w1147 (
 samec 1 a1 w12 w1147 (
 mapPut Go.Proofs.Tryd.prog 59 (.map p1117) (.int .i64 (0 : Int)) (.agg cs1149) w1147 fun w1150 =>
 samec 1 a3 w12 w1150 (
 samec 1 a1 w12 w1150 (
 spl ltFu20 0 1 cs13 fun cs1151 =>
 newC w1150 (Array.setIfInBounds (Array.setIfInBounds (Array.setIfInBounds (Array.setIfInBounds cs1151 1 (.slice s14.a s14.n s14.c)) 2 (.bool quiet_2)) 3 (.map p1117)) 4 (.map p1062)) 62 fun a1152 w1153 =>
 stC w1153 a1146 (.pointer (some a1152)) fun w1154 =>
 (J11 a1146 w1154))))))))))) (
 both (
 spl ltFu21 0 19 cs371 fun cs1155 =>
 spl cs1155 19 2 cs1115 fun cs1156 =>
 samec 1 a3 w12 w1116 (
 samec 1 a1 w12 w1116 (
 both (
 mkMap Go.Proofs.Tryd.prog 59 none w1116 fun p1157 w1158 =>
 samec 1 a3 w12 w1158 (
 samec 1 a1 w12 w1158 (
 both (
 mapPut Go.Proofs.Tryd.prog 59 (.map p1157) (.int .i64 (0 : Int)) (.agg cs1156) w1158 fun w1159 =>
 samec 1 a3 w12 w1159 (
 samec 1 a1 w12 w1159 (
 both (
 spl ltFu20 0 1 cs13 fun cs1160 =>
 both (
 newC w1159 (Array.setIfInBounds (Array.setIfInBounds (Array.setIfInBounds (Array.setIfInBounds cs1160 1 (.slice s14.a s14.n s14.c)) 2 (.bool quiet_2)) 3 (.map p1157)) 4 (.map p1062)) 62 fun a1161 w1162 =>
 newC w1162 #[(.pointer none)] 48 fun a1163 w1164 =>
 samec 1 a3 w12 w1164 (
 samec 1 a1 w12 w1164 (
 stC w1164 a1163 (.pointer (some a1161)) fun w1165 =>
 (J11 a1163 w1165)))) (
 newC w1159 #[(.pointer none)] 48 fun a1166 w1167 =>
 samec 1 a3 w12 w1167 (
 samec 1 a1 w12 w1167 (
 newC w1167 (Array.setIfInBounds (Array.setIfInBounds (Array.setIfInBounds (Array.setIfInBounds cs1160 1 (.slice s14.a s14.n s14.c)) 2 (.bool quiet_2)) 3 (.map p1157)) 4 (.map p1062)) 62 fun a1168 w1169 =>
 stC w1169 a1166 (.pointer (some a1168)) fun w1170 =>
 (J11 a1166 w1170))))) (
 newC w1159 #[(.pointer none)] 48 fun a1171 w1172 =>
 samec 1 a3 w12 w1172 (
 samec 1 a1 w12 w1172 (
 spl ltFu20 0 1 cs13 fun cs1173 =>
 newC w1172 (Array.setIfInBounds (Array.setIfInBounds (Array.setIfInBounds (Array.setIfInBounds cs1173 1 (.slice s14.a s14.n s14.c)) 2 (.bool quiet_2)) 3 (.map p1157)) 4 (.map p1062)) 62 fun a1174 w1175 =>
 stC w1175 a1171 (.pointer (some a1174)) fun w1176 =>
 (J11 a1171 w1176))))))) (
 newC w1158 #[(.pointer none)] 48 fun a1177 w1178 =>
 samec 1 a3 w12 w1178 (
 samec 1 a1 w12 w1178 (
 mapPut Go.Proofs.Tryd.prog 59 (.map p1157) (.int .i64 (0 : Int)) (.agg cs1156) w1178 fun w1179 =>
 samec 1 a3 w12 w1179 (
 samec 1 a1 w12 w1179 (
 spl ltFu20 0 1 cs13 fun cs1180 =>
 newC w1179 (Array.setIfInBounds (Array.setIfInBounds (Array.setIfInBounds (Array.setIfInBounds cs1180 1 (.slice s14.a s14.n s14.c)) 2 (.bool quiet_2)) 3 (.map p1157)) 4 (.map p1062)) 62 fun a1181 w1182 =>
 stC w1182 a1177 (.pointer (some a1181)) fun w1183 =>
 (J11 a1177 w1183))))))))) (
 newC w1116 #[(.pointer none)] 48 fun a1184 w1185 =>
 samec 1 a3 w12 w1185 (
 samec 1 a1 w12 w1185 (
 mkMap Go.Proofs.Tryd.prog 59 none w1185 fun p1186 w1187 =>
 samec 1 a3 w12 w1187 (
 samec 1 a1 w12 w1187 (
 mapPut Go.Proofs.Tryd.prog 59 (.map p1186) (.int .i64 (0 : Int)) (.agg cs1156) w1187 fun w1188 =>
 samec 1 a3 w12 w1188 (
 samec 1 a1 w12 w1188 (
 spl ltFu20 0 1 cs13 fun cs1189 =>
 newC w1188 (Array.setIfInBounds (Array.setIfInBounds (Array.setIfInBounds (Array.setIfInBounds cs1189 1 (.slice s14.a s14.n s14.c)) 2 (.bool quiet_2)) 3 (.map p1186)) 4 (.map p1062)) 62 fun a1190 w1191 =>
 stC w1191 a1184 (.pointer (some a1190)) fun w1192 =>
 (J11 a1184 w1192))))))))))) (
 newC w1116 #[(.pointer none)] 48 fun a1193 w1194 =>
 samec 1 a3 w12 w1194 (
 samec 1 a1 w12 w1194 (
 both (
 mkMap Go.Proofs.Tryd.prog 59 none w1194 fun p1195 w1196 =>
 samec 1 a3 w12 w1196 (
 samec 1 a1 w12 w1196 (
 spl ltFu21 0 19 cs371 fun cs1197 =>
 spl cs1197 19 2 cs1115 fun cs1198 =>
 samec 1 a3 w12 w1196 (
 samec 1 a1 w12 w1196 (
 mapPut Go.Proofs.Tryd.prog 59 (.map p1195) (.int .i64 (0 : Int)) (.agg cs1198) w1196 fun w1199 =>
 samec 1 a3 w12 w1199 (
 samec 1 a1 w12 w1199 (
 spl ltFu20 0 1 cs13 fun cs1200 =>
 newC w1199 (Array.setIfInBounds (Array.setIfInBounds (Array.setIfInBounds (Array.setIfInBounds cs1200 1 (.slice s14.a s14.n s14.c)) 2 (.bool quiet_2)) 3 (.map p1195)) 4 (.map p1062)) 62 fun a1201 w1202 =>
 stC w1202 a1193 (.pointer (some a1201)) fun w1203 =>
 (J11 a1193 w1203)))))))) (
 spl ltFu21 0 19 cs371 fun cs1204 =>
 spl cs1204 19 2 cs1115 fun cs1205 =>
 samec 1 a3 w12 w1194 (
 samec 1 a1 w12 w1194 (
 mkMap Go.Proofs.Tryd.prog 59 none w1194 fun p1206 w1207 =>
 samec 1 a3 w12 w1207 (
 samec 1 a1 w12 w1207 (
 mapPut Go.Proofs.Tryd.prog 59 (.map p1206) (.int .i64 (0 : Int)) (.agg cs1205) w1207 fun w1208 =>
 samec 1 a3 w12 w1208 (
 samec 1 a1 w12 w1208 (
 spl ltFu20 0 1 cs13 fun cs1209 =>
 newC w1208 (Array.setIfInBounds (Array.setIfInBounds (Array.setIfInBounds (Array.setIfInBounds cs1209 1 (.slice s14.a s14.n s14.c)) 2 (.bool quiet_2)) 3 (.map p1206)) 4 (.map p1062)) 62 fun a1210 w1211 =>
 stC w1211 a1193 (.pointer (some a1210)) fun w1212 =>
 (J11 a1193 w1212))))))))))))))) (
 newC w1063 #[(.pointer none)] 48 fun a1213 w1214 =>
 samec 1 a3 w12 w1214 (
 samec 1 a1 w12 w1214 (
 both (
 mkMap Go.Proofs.Tryd.prog 59 none w1214 fun p1215 w1216 =>
 samec 1 a3 w12 w1216 (
 samec 1 a1 w12 w1216 (
 fits_world  w1216 fun cs1217 w1218 =>
 samec 1 a3 w12 w1218 (
 samec 1 a1 w12 w1218 (
 spl ltFu21 0 19 cs371 fun cs1219 =>
 spl cs1219 19 2 cs1217 fun cs1220 =>
 samec 1 a3 w12 w1218 (
 samec 1 a1 w12 w1218 (
 mapPut Go.Proofs.Tryd.prog 59 (.map p1215) (.int .i64 (0 : Int)) (.agg cs1220) w1218 fun w1221 =>
 samec 1 a3 w12 w1221 (
 samec 1 a1 w12 w1221 (
 spl ltFu20 0 1 cs13 fun cs1222 =>
 newC w1221 (Array.setIfInBounds (Array.setIfInBounds (Array.setIfInBounds (Array.setIfInBounds cs1222 1 (.slice s14.a s14.n s14.c)) 2 (.bool quiet_2)) 3 (.map p1215)) 4 (.map p1062)) 62 fun a1223 w1224 =>
 stC w1224 a1213 (.pointer (some a1223)) fun w1225 =>
 (J11 a1213 w1225)))))))))) (
 fits_world  w1214 fun cs1226 w1227 =>
 samec 1 a3 w12 w1227 (
 samec 1 a1 w12 w1227 (
 both (
 mkMap Go.Proofs.Tryd.prog 59 none w1227 fun p1228 w1229 =>
 samec 1 a3 w12 w1229 (
 samec 1 a1 w12 w1229 (
 spl ltFu21 0 19 cs371 fun cs1230 =>
 spl cs1230 19 2 cs1226 fun cs1231 =>
 samec 1 a3 w12 w1229 (
 samec 1 a1 w12 w1229 (
 mapPut Go.Proofs.Tryd.prog 59 (.map p1228) (.int .i64 (0 : Int)) (.agg cs1231) w1229 fun w1232 =>
 samec 1 a3 w12 w1232 (
 samec 1 a1 w12 w1232 (
 spl ltFu20 0 1 cs13 fun cs1233 =>
 newC w1232 (Array.setIfInBounds (Array.setIfInBounds (Array.setIfInBounds (Array.setIfInBounds cs1233 1 (.slice s14.a s14.n s14.c)) 2 (.bool quiet_2)) 3 (.map p1228)) 4 (.map p1062)) 62 fun a1234 w1235 =>
 stC w1235 a1213 (.pointer (some a1234)) fun w1236 =>
 (J11 a1213 w1236)))))))) (
 spl ltFu21 0 19 cs371 fun cs1237 =>
 spl cs1237 19 2 cs1226 fun cs1238 =>
 samec 1 a3 w12 w1227 (
 samec 1 a1 w12 w1227 (
 mkMap Go.Proofs.Tryd.prog 59 none w1227 fun p1239 w1240 =>
 samec 1 a3 w12 w1240 (
 samec 1 a1 w12 w1240 (
 mapPut Go.Proofs.Tryd.prog 59 (.map p1239) (.int .i64 (0 : Int)) (.agg cs1238) w1240 fun w1241 =>
 samec 1 a3 w12 w1241 (
 samec 1 a1 w12 w1241 (
 spl ltFu20 0 1 cs13 fun cs1242 =>
 newC w1241 (Array.setIfInBounds (Array.setIfInBounds (Array.setIfInBounds (Array.setIfInBounds cs1242 1 (.slice s14.a s14.n s14.c)) 2 (.bool quiet_2)) 3 (.map p1239)) 4 (.map p1062)) 62 fun a1243 w1244 =>
 stC w1244 a1213 (.pointer (some a1243)) fun w1245 =>
 (J11 a1213 w1245)))))))))))))))))) (
 newC w372 #[(.pointer none)] 48 fun a1246 w1247 =>
 samec 1 a3 w12 w1247 (
 samec 1 a1 w12 w1247 (
 both (
 mkMap Go.Proofs.Tryd.prog 59 none w1247 fun p1248 w1249 =>
 samec 1 a3 w12 w1249 (
 samec 1 a1 w12 w1249 (
 both (
 fits_world  w1249 fun cs1250 w1251 =>
 samec 1 a3 w12 w1251 (
 samec 1 a1 w12 w1251 (
 both (
 spl ltFu21 0 19 cs371 fun cs1252 =>
 spl cs1252 19 2 cs1250 fun cs1253 =>
 samec 1 a3 w12 w1251 (
 samec 1 a1 w12 w1251 (
 both (
 mapPut Go.Proofs.Tryd.prog 59 (.map p1248) (.int .i64 (0 : Int)) (.agg cs1253) w1251 fun w1254 =>
 samec 1 a3 w12 w1254 (
 samec 1 a1 w12 w1254 (
 mkMap Go.Proofs.Tryd.prog 60 none w1254 fun p1255 w1256 =>
 samec 1 a3 w12 w1256 (
 samec 1 a1 w12 w1256 (
 spl ltFu20 0 1 cs13 fun cs1257 =>
 newC w1256 (Array.setIfInBounds (Array.setIfInBounds (Array.setIfInBounds (Array.setIfInBounds cs1257 1 (.slice s14.a s14.n s14.c)) 2 (.bool quiet_2)) 3 (.map p1248)) 4 (.map p1255)) 62 fun a1258 w1259 =>
 stC w1259 a1246 (.pointer (some a1258)) fun w1260 =>
 (J11 a1246 w1260)))))) (
 mkMap Go.Proofs.Tryd.prog 60 none w1251 fun p1261 w1262 =>
 samec 1 a3 w12 w1262 (
 samec 1 a1 w12 w1262 (
 mapPut Go.Proofs.Tryd.prog 59 (.map p1248) (.int .i64 (0 : Int)) (.agg cs1253) w1262 fun w1263 =>
 samec 1 a3 w12 w1263 (
 samec 1 a1 w12 w1263 (
 spl ltFu20 0 1 cs13 fun cs1264 =>
 newC w1263 (Array.setIfInBounds (Array.setIfInBounds (Array.setIfInBounds (Array.setIfInBounds cs1264 1 (.slice s14.a s14.n s14.c)) 2 (.bool quiet_2)) 3 (.map p1248)) 4 (.map p1261)) 62 fun a1265 w1266 =>
 stC w1266 a1246 (.pointer (some a1265)) fun w1267 =>
 (J11 a1246 w1267))))))))) (
 mkMap Go.Proofs.Tryd.prog 60 none w1251 fun p1268 w1269 =>
 samec 1 a3 w12 w1269 (
 samec 1 a1 w12 w1269 (
 spl ltFu21 0 19 cs371 fun cs1270 =>
 spl cs1270 19 2 cs1250 fun cs1271 =>
 samec 1 a3 w12 w1269 (
 samec 1 a1 w12 w1269 (
 mapPut Go.Proofs.Tryd.prog 59 (.map p1248) (.int .i64 (0 : Int)) (.agg cs1271) w1269 fun w1272 =>
 samec 1 a3 w12 w1272 (
 samec 1 a1 w12 w1272 (
 spl ltFu20 0 1 cs13 fun cs1273 =>
 newC w1272 (Array.setIfInBounds (Array.setIfInBounds (Array.setIfInBounds (Array.setIfInBounds cs1273 1 (.slice s14.a s14.n s14.c)) 2 (.bool quiet_2)) 3 (.map p1248)) 4 (.map p1268)) 62 fun a1274 w1275 =>
 stC w1275 a1246 (.pointer (some a1274)) fun w1276 =>
 (J11 a1246 w1276))))))))))) (
 mkMap Go.Proofs.Tryd.prog 60 none w1249 fun p1277 w1278 =>
 samec 1 a3 w12 w1278 (
 samec 1 a1 w12 w1278 (
 fits_world  w1278 fun cs1279 w1280 =>
 samec 1 a3 w12 w1280 (
 samec 1 a1 w12 w1280 (
 spl ltFu21 0 19 cs371 fun cs1281 =>
 spl cs1281 19 2 cs1279 fun cs1282 =>
 samec 1 a3 w12 w1280 (
 samec 1 a1 w12 w1280 (
 mapPut Go.Proofs.Tryd.prog 59 (.map p1248) (.int .i64 (0 : Int)) (.agg cs1282) w1280 fun w1283 =>
 samec 1 a3 w12 w1283 (
 samec 1 a1 w12 w1283 (
 spl ltFu20 0 1 cs13 fun cs1284 =>
 newC w1283 (Array.setIfInBounds (Array.setIfInBounds (Array.setIfInBounds (Array.setIfInBounds cs1284 1 (.slice s14.a s14.n s14.c)) 2 (.bool quiet_2)) 3 (.map p1248)) 4 (.map p1277)) 62 fun a1285 w1286 =>
 stC w1286 a1246 (.pointer (some a1285)) fun w1287 =>
 (J11 a1246 w1287))))))))))))) (
 both (
 fits_world  w1247 fun cs1288 w1289 =>
 samec 1 a3 w12 w1289 (
 samec 1 a1 w12 w1289 (
 both (
 mkMap Go.Proofs.Tryd.prog 59 none w1289 fun p1290 w1291 =>
 samec 1 a3 w12 w1291 (
 samec 1 a1 w12 w1291 (
 both (
 spl ltFu21 0 19 cs371 fun cs1292 =>
 spl cs1292 19 2 cs1288 fun cs1293 =>
 samec 1 a3 w12 w1291 (
 samec 1 a1 w12 w1291 (
 both (
 mapPut Go.Proofs.Tryd.prog 59 (.map p1290) (.int .i64 (0 : Int)) (.agg cs1293) w1291 fun w1294 =>
 samec 1 a3 w12 w1294 (
 samec 1 a1 w12 w1294 (
 mkMap Go.Proofs.Tryd.prog 60 none w1294 fun p1295 w1296 =>
 samec 1 a3 w12 w1296 (
 samec 1 a1 w12 w1296 (
 spl ltFu20 0 1 cs13 fun cs1297 =>
 newC w1296 (Array.setIfInBounds (Array.setIfInBounds (Array.setIfInBounds (Array.setIfInBounds cs1297 1 (.slice s14.a s14.n s14.c)) 2 (.bool quiet_2)) 3 (.map p1290)) 4 (.map p1295)) 62 fun a1298 w1299 =>
 stC w1299 a1246 (.pointer (some a1298)) fun w1300 =>
 (J11 a1246 w1300)))))) (
 mkMap Go.Proofs.Tryd.prog 60 none w1291 fun p1301 w1302 =>
 samec 1 a3 w12 w1302 (
 samec 1 a1 w12 w1302 (
 mapPut Go.Proofs.Tryd.prog 59 (.map p1290) (.int .i64 (0 : Int)) (.agg cs1293) w1302 fun w1303 =>
 samec 1 a3 w12 w1303 (
 samec 1 a1 w12 w1303 (
 spl ltFu20 0 1 cs13 fun cs1304 =>
 newC w1303 (Array.setIfInBounds (Array.setIfInBounds (Array.setIfInBounds (Array.setIfInBounds cs1304 1 (.slice s14.a s14.n s14.c)) 2 (.bool quiet_2)) 3 (.map p1290)) 4 (.map p1301)) 62 fun a1305 w1306 =>
 stC w1306 a1246 (.pointer (some a1305)) fun w1307 =>
 (J11 a1246 w1307))))))))) (
 mkMap Go.Proofs.Tryd.prog 60 none w1291 fun p1308 w1309 =>
 samec 1 a3 w12 w1309 (
 samec 1 a1 w12 w1309 (
 spl ltFu21 0 19 cs371 fun cs1310 =>
 spl cs1310 19 2 cs1288 fun cs1311 =>
 samec 1 a3 w12 w1309 (
 samec 1 a1 w12 w1309 (
 mapPut Go.Proofs.Tryd.prog 59 (.map p1290) (.int .i64 (0 : Int)) (.agg cs1311) w1309 fun w1312 =>
 samec 1 a3 w12 w1312 (
 samec 1 a1 w12 w1312 (
 spl ltFu20 0 1 cs13 fun cs1313 =>
 newC w1312 (Array.setIfInBounds (Array.setIfInBounds (Array.setIfInBounds (Array.setIfInBounds cs1313 1 (.slice s14.a s14.n s14.c)) 2 (.bool quiet_2)) 3 (.map p1290)) 4 (.map p1308)) 62 fun a1314 w1315 =>
 stC w1315 a1246 (.pointer (some a1314)) fun w1316 =>
 (J11 a1246 w1316))))))))))) (
 both (
 spl ltFu21 0 19 cs371 fun cs1317 =>
 spl cs1317 19 2 cs1288 fun cs1318 =>
 samec 1 a3 w12 w1289 (
 samec 1 a1 w12 w1289 (
 both (
 mkMap Go.Proofs.Tryd.prog 59 none w1289 fun p1319 w1320 =>
 samec 1 a3 w12 w1320 (
 samec 1 a1 w12 w1320 (
 both (
 mapPut Go.Proofs.Tryd.prog 59 (.map p1319) (.int .i64 (0 : Int)) (.agg cs1318) w1320 fun w1321 =>
 samec 1 a3 w12 w1321 (
 samec 1 a1 w12 w1321 (
 mkMap Go.Proofs.Tryd.prog 60 none w1321 fun p1322 w1323 =>
 samec 1 a3 w12 w1323 (
 samec 1 a1 w12 w1323 (
 spl ltFu20 0 1 cs13 fun cs1324 =>
 newC w1323 (Array.setIfInBounds (Array.setIfInBounds (Array.setIfInBounds (Array.setIfInBounds cs1324 1 (.slice s14.a s14.n s14.c)) 2 (.bool quiet_2)) 3 (.map p1319)) 4 (.map p1322)) 62 fun a1325 w1326 =>
 stC w1326 a1246 (.pointer (some a1325)) fun w1327 =>
 (J11 a1246 w1327)))))) (
 mkMap Go.Proofs.Tryd.prog 60 none w1320 fun p1328 w1329 =>
 samec 1 a3 w12 w1329 (
 samec 1 a1 w12 w1329 (
 mapPut Go.Proofs.Tryd.prog 59 (.map p1319) (.int .i64 (0 : Int)) (.agg cs1318) w1329 fun w1330 =>
 samec 1 a3 w12 w1330 (
 samec 1 a1 w12 w1330 (
 spl ltFu20 0 1 cs13 fun cs1331 =>
 newC w1330 (Array.setIfInBounds (Array.setIfInBounds (Array.setIfInBounds (Array.setIfInBounds cs1331 1 (.slice s14.a s14.n s14.c)) 2 (.bool quiet_2)) 3 (.map p1319)) 4 (.map p1328)) 62 fun a1332 w1333 =>
 stC w1333 a1246 (.pointer (some a1332)) fun w1334 =>
 (J11 a1246 w1334))))))))) (
 mkMap Go.Proofs.Tryd.prog 60 none w1289 fun p1335 w1336 =>
 samec 1 a3 w12 w1336 (
 samec 1 a1 w12 w1336 (
 mkMap Go.Proofs.Tryd.prog 59 none w1336 fun p1337 w1338 =>
 samec 1 a3 w12 w1338 (
 samec 1 a1 w12 w1338 (
 mapPut Go.Proofs.Tryd.prog 59 (.map p1337) (.int .i64 (0 : Int)) (.agg cs1318) w1338 fun w1339 =>
 samec 1 a3 w12 w1339 (
 samec 1 a1 w12 w1339 (
 spl ltFu20 0 1 cs13 fun cs1340 =>
 newC w1339 (Array.setIfInBounds (Array.setIfInBounds (Array.setIfInBounds (Array.setIfInBounds cs1340 1 (.slice s14.a s14.n s14.c)) 2 (.bool quiet_2)) 3 (.map p1337)) 4 (.map p1335)) 62 fun a1341 w1342 =>
 stC w1342 a1246 (.pointer (some a1341)) fun w1343 =>
 (J11 a1246 w1343))))))))))) (
 mkMap Go.Proofs.Tryd.prog 60 none w1289 fun p1344 w1345 =>
 samec 1 a3 w12 w1345 (
 samec 1 a1 w12 w1345 (
 both (
 mkMap Go.Proofs.Tryd.prog 59 none w1345 fun p1346 w1347 =>
 samec 1 a3 w12 w1347 (
 samec 1 a1 w12 w1347 (
 spl ltFu21 0 19 cs371 fun cs1348 =>
 spl cs1348 19 2 cs1288 fun cs1349 =>
 samec 1 a3 w12 w1347 (
 samec 1 a1 w12 w1347 (
 mapPut Go.Proofs.Tryd.prog 59 (.map p1346) (.int .i64 (0 : Int)) (.agg cs1349) w1347 fun w1350 =>
 samec 1 a3 w12 w1350 (
 samec 1 a1 w12 w1350 (
 spl ltFu20 0 1 cs13 fun cs1351 =>
 newC w1350 (Array.setIfInBounds (Array.setIfInBounds (Array.setIfInBounds (Array.setIfInBounds cs1351 1 (.slice s14.a s14.n s14.c)) 2 (.bool quiet_2)) 3 (.map p1346)) 4 (.map p1344)) 62 fun a1352 w1353 =>
 stC w1353 a1246 (.pointer (some a1352)) fun w1354 =>
 (J11 a1246 w1354)))))))) (
 spl ltFu21 0 19 cs371 fun cs1355 =>
 spl cs1355 19 2 cs1288 fun cs1356 =>
 samec 1 a3 w12 w1345 (
 samec 1 a1 w12 w1345 (
 mkMap Go.Proofs.Tryd.prog 59 none w1345 fun p1357 w1358 =>
 samec 1 a3 w12 w1358 (
 samec 1 a1 w12 w1358 (
 mapPut Go.Proofs.Tryd.prog 59 (.map p1357) (.int .i64 (0 : Int)) (.agg cs1356) w1358 fun w1359 =>
 samec 1 a3 w12 w1359 (
 samec 1 a1 w12 w1359 (
 spl ltFu20 0 1 cs13 fun cs1360 =>
 newC w1359 (Array.setIfInBounds (Array.setIfInBounds (Array.setIfInBounds (Array.setIfInBounds cs1360 1 (.slice s14.a s14.n s14.c)) 2 (.bool quiet_2)) 3 (.map p1357)) 4 (.map p1344)) 62 fun a1361 w1362 =>
 stC w1362 a1246 (.pointer (some a1361)) fun w1363 =>
 (J11 a1246 w1363))))))))))))))) (
 mkMap Go.Proofs.Tryd.prog 60 none w1247 fun p1364 w1365 =>
 samec 1 a3 w12 w1365 (
 samec 1 a1 w12 w1365 (
 both (
 mkMap Go.Proofs.Tryd.prog 59 none w1365 fun p1366 w1367 =>
 samec 1 a3 w12 w1367 (
 samec 1 a1 w12 w1367 (
 fits_world  w1367 fun cs1368 w1369 =>
 samec 1 a3 w12 w1369 (
 samec 1 a1 w12 w1369 (
 spl ltFu21 0 19 cs371 fun cs1370 =>
 spl cs1370 19 2 cs1368 fun cs1371 =>
 samec 1 a3 w12 w1369 (
 samec 1 a1 w12 w1369 (
 mapPut Go.Proofs.Tryd.prog 59 (.map p1366) (.int .i64 (0 : Int)) (.agg cs1371) w1369 fun w1372 =>
 samec 1 a3 w12 w1372 (
 samec 1 a1 w12 w1372 (
 spl ltFu20 0 1 cs13 fun cs1373 =>
 newC w1372 (Array.setIfInBounds (Array.setIfInBounds (Array.setIfInBounds (Array.setIfInBounds cs1373 1 (.slice s14.a s14.n s14.c)) 2 (.bool quiet_2)) 3 (.map p1366)) 4 (.map p1364)) 62 fun a1374 w1375 =>
 stC w1375 a1246 (.pointer (some a1374)) fun w1376 =>
 (J11 a1246 w1376)))))))))) (
 fits_world  w1365 fun cs1377 w1378 =>
 samec 1 a3 w12 w1378 (
 samec 1 a1 w12 w1378 (
 both (
 mkMap Go.Proofs.Tryd.prog 59 none w1378 fun p1379 w1380 =>
 samec 1 a3 w12 w1380 (
 samec 1 a1 w12 w1380 (
 spl ltFu21 0 19 cs371 fun cs1381 =>
 spl cs1381 19 2 cs1377 fun cs1382 =>
 samec 1 a3 w12 w1380 (
 samec 1 a1 w12 w1380 (
 mapPut Go.Proofs.Tryd.prog 59 (.map p1379) (.int .i64 (0 : Int)) (.agg cs1382) w1380 fun w1383 =>
 samec 1 a3 w12 w1383 (
 samec 1 a1 w12 w1383 (
 spl ltFu20 0 1 cs13 fun cs1384 =>
 newC w1383 (Array.setIfInBounds (Array.setIfInBounds (Array.setIfInBounds (Array.setIfInBounds cs1384 1 (.slice s14.a s14.n s14.c)) 2 (.bool quiet_2)) 3 (.map p1379)) 4 (.map p1364)) 62 fun a1385 w1386 =>
 stC w1386 a1246 (.pointer (some a1385)) fun w1387 =>
 (J11 a1246 w1387)))))))) (
 spl ltFu21 0 19 cs371 fun cs1388 =>
 spl cs1388 19 2 cs1377 fun cs1389 =>
 samec 1 a3 w12 w1378 (
 samec 1 a1 w12 w1378 (
 mkMap Go.Proofs.Tryd.prog 59 none w1378 fun p1390 w1391 =>
 samec 1 a3 w12 w1391 (
 samec 1 a1 w12 w1391 (
 mapPut Go.Proofs.Tryd.prog 59 (.map p1390) (.int .i64 (0 : Int)) (.agg cs1389) w1391 fun w1392 =>
 samec 1 a3 w12 w1392 (
 samec 1 a1 w12 w1392 (
 spl ltFu20 0 1 cs13 fun cs1393 =>
 newC w1392 (Array.setIfInBounds (Array.setIfInBounds (Array.setIfInBounds (Array.setIfInBounds cs1393 1 (.slice s14.a s14.n s14.c)) 2 (.bool quiet_2)) 3 (.map p1390)) 4 (.map p1364)) 62 fun a1394 w1395 =>
 stC w1395 a1246 (.pointer (some a1394)) fun w1396 =>
 (J11 a1246 w1396))))))))))))))))))))))) (
 both (
 mkMap Go.Proofs.Tryd.prog 60 none w12 fun p1397 w1398 =>
 samec 1 a3 w12 w1398 (
 samec 1 a1 w12 w1398 (
 both (
 mkMap Go.Proofs.Tryd.prog 59 none w1398 fun p1399 w1400 =>
 samec 1 a3 w12 w1400 (
 samec 1 a1 w12 w1400 (
 both (
 frame_Root  w1400 fun cs1401 w1402 =>
 samec 1 a3 w12 w1402 (
 samec 1 a1 w12 w1402 (
 both (
 fits_world  w1402 fun cs1403 w1404 =>
 samec 1 a3 w12 w1404 (
 samec 1 a1 w12 w1404 (
 both (
 spl ltFu21 0 19 cs1401 fun cs1405 =>
 spl cs1405 19 2 cs1403 fun cs1406 =>
 samec 1 a3 w12 w1404 (
 samec 1 a1 w12 w1404 (
 both (
 mapPut Go.Proofs.Tryd.prog 59 (.map p1399) (.int .i64 (0 : Int)) (.agg cs1406) w1404 fun w1407 =>
 samec 1 a3 w12 w1407 (
 samec 1 a1 w12 w1407 (
 both (
 spl ltFu20 0 1 cs13 fun cs1408 =>
 both (
 newC w1407 (Array.setIfInBounds (Array.setIfInBounds (Array.setIfInBounds (Array.setIfInBounds cs1408 1 (.slice s14.a s14.n s14.c)) 2 (.bool quiet_2)) 3 (.map p1399)) 4 (.map p1397)) 62 fun a1409 w1410 =>
 newC w1410 #[(.pointer none)] 48 fun a1411 w1412 =>
 samec 1 a3 w12 w1412 (
 samec 1 a1 w12 w1412 (
 stC w1412 a1411 (.pointer (some a1409)) fun w1413 =>
 (J11 a1411 w1413)))) (
 newC w1407 #[(.pointer none)] 48 fun a1414 w1415 =>
 samec 1 a3 w12 w1415 (
 samec 1 a1 w12 w1415 (
 newC w1415 (Array.setIfInBounds (Array.setIfInBounds (Array.setIfInBounds (Array.setIfInBounds cs1408 1 (.slice s14.a s14.n s14.c)) 2 (.bool quiet_2)) 3 (.map p1399)) 4 (.map p1397)) 62 fun a1416 w1417 =>
 stC w1417 a1414 (.pointer (some a1416)) fun w1418 =>
 (J11 a1414 w1418))))) (
 newC w1407 #[(.pointer none)] 48 fun a1419 w1420 =>
 samec 1 a3 w12 w1420 (
 samec 1 a1 w12 w1420 (
 spl ltFu20 0 1 cs13 fun cs1421 =>
 newC w1420 (Array.setIfInBounds (Array.setIfInBounds (Array.setIfInBounds (Array.setIfInBounds cs1421 1 (.slice s14.a s14.n s14.c)) 2 (.bool quiet_2)) 3 (.map p1399)) 4 (.map p1397)) 62 fun a1422 w1423 =>
 stC w1423 a1419 (.pointer (some a1422)) fun w1424 =>
 (J11 a1419 w1424))))))) (
 newC w1404 #[(.pointer none)] 48 fun a1425 w1426 =>
 samec 1 a3 w12 w1426 (
 samec 1 a1 w12 w1426 (
 mapPut Go.Proofs.Tryd.prog 59 (.map p1399) (.int .i64 (0 : Int)) (.agg cs1406) w1426 fun w1427 =>
 samec 1 a3 w12 w1427 (
 samec 1 a1 w12 w1427 (
 spl ltFu20 0 1 cs13 fun cs1428 =>
 newC w1427 (Array.setIfInBounds (Array.setIfInBounds (Array.setIfInBounds (Array.setIfInBounds cs1428 1 (.slice s14.a s14.n s14.c)) 2 (.bool quiet_2)) 3 (.map p1399)) 4 (.map p1397)) 62 fun a1429 w1430 =>
 stC w1430 a1425 (.pointer (some a1429)) fun w1431 =>
 (J11 a1425 w1431))))))))) (
 newC w1404 #[(.pointer none)] 48 fun a1432 w1433 =>
 samec 1 a3 w12 w1433 (
 samec 1 a1 w12 w1433 (
 spl ltFu21 0 19 cs1401 fun cs1434 =>
 spl cs1434 19 2 cs1403 fun cs1435 =>
 samec 1 a3 w12 w1433 (
 samec 1 a1 w12 w1433 (
 mapPut Go.Proofs.Tryd.prog 59 (.map p1399) (.int .i64 (0 : Int)) (.agg cs1435) w1433 fun w1436 =>
 samec 1 a3 w12 w1436 (
 samec 1 a1 w12 w1436 (
 spl ltFu20 0 1 cs13 fun cs1437 =>
 newC w1436 (Array.setIfInBounds (Array.setIfInBounds (Array.setIfInBounds (Array.setIfInBounds cs1437 1 (.slice s14.a s14.n s14.c)) 2 (.bool quiet_2)) 3 (.map p1399)) 4 (.map p1397)) 62 fun a1438 w1439 =>
 stC w1439 a1432 (.pointer (some a1438)) fun w1440 =>
 (J11 a1432 w1440))))))))))) (
 newC w1402 #[(.pointer none)] 48 fun a1441 w1442 =>
 samec 1 a3 w12 w1442 (
 samec 1 a1 w12 w1442 (
 fits_world  w1442 fun cs1443 w1444 =>
 samec 1 a3 w12 w1444 (
 samec 1 a1 w12 w1444 (
 spl ltFu21 0 19 cs1401 fun cs1445 =>
 spl cs1445 19 2 cs1443 fun cs1446 =>
 samec 1 a3 w12 w1444 (
 samec 1 a1 w12 w1444 (
 mapPut Go.Proofs.Tryd.prog 59 (.map p1399) (.int .i64 (0 : Int)) (.agg cs1446) w1444 fun w1447 =>
 samec 1 a3 w12 w1447 (
 samec 1 a1 w12 w1447 (
 spl ltFu20 0 1 cs13 fun cs1448 =>
 newC w1447 (Array.setIfInBounds (Array.setIfInBounds (Array.setIfInBounds (Array.setIfInBounds cs1448 1 (.slice s14.a s14.n s14.c)) 2 (.bool quiet_2)) 3 (.map p1399)) 4 (.map p1397)) 62 fun a1449 w1450 =>
 stC w1450 a1441 (.pointer (some a1449)) fun w1451 =>
 (J11 a1441 w1451))))))))))))) (
 newC w1400 #[(.pointer none)] 48 fun a1452 w1453 =>
 samec 1 a3 w12 w1453 (
 samec 1 a1 w12 w1453 (
 frame_Root  w1453 fun cs1454 w1455 =>
 samec 1 a3 w12 w1455 (
 samec 1 a1 w12 w1455 (
 fits_world  w1455 fun cs1456 w1457 =>
 samec 1 a3 w12 w1457 (
 samec 1 a1 w12 w1457 (
 spl ltFu21 0 19 cs1454 fun cs1458 =>
 spl cs1458 19 2 cs1456 fun cs1459 =>
 samec 1 a3 w12 w1457 (
 samec 1 a1 w12 w1457 (
 mapPut Go.Proofs.Tryd.prog 59 (.map p1399) (.int .i64 (0 : Int)) (.agg cs1459) w1457 fun w1460 =>
 samec 1 a3 w12 w1460 (
 samec 1 a1 w12 w1460 (
 spl ltFu20 0 1 cs13 fun cs1461 =>
 newC w1460 (Array.setIfInBounds (Array.setIfInBounds (Array.setIfInBounds (Array.setIfInBounds cs1461 1 (.slice s14.a s14.n s14.c)) 2 (.bool quiet_2)) 3 (.map p1399)) 4 (.map p1397)) 62 fun a1462 w1463 =>
 stC w1463 a1452 (.pointer (some a1462)) fun w1464 =>
 (J11 a1452 w1464))))))))))))))) (
 both (
 frame_Root  w1398 fun cs1465 w1466 =>
 samec 1 a3 w12 w1466 (
 samec 1 a1 w12 w1466 (
 both (
 mkMap Go.Proofs.Tryd.prog 59 none w1466 fun p1467 w1468 =>
 samec 1 a3 w12 w1468 (
 samec 1 a1 w12 w1468 (
 both (
 fits_world  w1468 fun cs1469 w1470 =>
 samec 1 a3 w12 w1470 (
 samec 1 a1 w12 w1470 (
 both (
 spl ltFu21 0 19 cs1465 fun cs1471 =>
 spl cs1471 19 2 cs1469 fun cs1472 =>
 samec 1 a3 w12 w1470 (
 samec 1 a1 w12 w1470 (
 both (
 mapPut Go.Proofs.Tryd.prog 59 (.map p1467) (.int .i64 (0 : Int)) (.agg cs1472) w1470 fun w1473 =>
 samec 1 a3 w12 w1473 (
 samec 1 a1 w12 w1473 (
 both (
 spl ltFu20 0 1 cs13 fun cs1474 =>
 both (
 newC w1473 (Array.setIfInBounds (Array.setIfInBounds (Array.setIfInBounds (Array.setIfInBounds cs1474 1 (.slice s14.a s14.n s14.c)) 2 (.bool quiet_2)) 3 (.map p1467)) 4 (.map p1397)) 62 fun a1475 w1476 =>
 newC w1476 #[(.pointer none)] 48 fun a1477 w1478 =>
 samec 1 a3 w12 w1478 (
 samec 1 a1 w12 w1478 (
 stC w1478 a1477 (.pointer (some a1475)) fun w1479 =>
 (J11 a1477 w1479)))) (
 newC w1473 #[(.pointer none)] 48 fun a1480 w1481 =>
 samec 1 a3 w12 w1481 (
 samec 1 a1 w12 w1481 (
 newC w1481 (Array.setIfInBounds (Array.setIfInBounds (Array.setIfInBounds (Array.setIfInBounds cs1474 1 (.slice s14.a s14.n s14.c)) 2 (.bool quiet_2)) 3 (.map p1467)) 4 (.map p1397)) 62 fun a1482 w1483 =>
 stC w1483 a1480 (.pointer (some a1482)) fun w1484 =>
 (J11 a1480 w1484))))) (
 newC w1473 #[(.pointer none)] 48 fun a1485 w1486 =>
 samec 1 a3 w12 w1486 (
 samec 1 a1 w12 w1486 (
 spl ltFu20 0 1 cs13 fun cs1487 =>
 newC w1486 (Array.setIfInBounds (Array.setIfInBounds (Array.setIfInBounds (Array.setIfInBounds cs1487 1 (.slice s14.a s14.n s14.c)) 2 (.bool quiet_2)) 3 (.map p1467)) 4 (.map p1397)) 62 fun a1488 w1489 =>
 stC w1489 a1485 (.pointer (some a1488)) fun w1490 =>
 (J11 a1485 w1490))))))) (
 newC w1470 #[(.pointer none)] 48 fun a1491 w1492 =>
 samec 1 a3 w12 w1492 (
 samec 1 a1 w12 w1492 (
 mapPut Go.Proofs.Tryd.prog 59 (.map p1467) (.int .i64 (0 : Int)) (.agg cs1472) w1492 fun w1493 =>
 samec 1 a3 w12 w1493 (
 samec 1 a1 w12 w1493 (
 spl ltFu20 0 1 cs13 fun cs1494 =>
 newC w1493 (Array.setIfInBounds (Array.setIfInBounds (Array.setIfInBounds (Array.setIfInBounds cs1494 1 (.slice s14.a s14.n s14.c)) 2 (.bool quiet_2)) 3 (.map p1467)) 4 (.map p1397)) 62 fun a1495 w1496 =>
 stC w1496 a1491 (.pointer (some a1495)) fun w1497 =>
 (J11 a1491 w1497))))))))) (
 newC w1470 #[(.pointer none)] 48 fun a1498 w1499 =>
 samec 1 a3 w12 w1499 (
 samec 1 a1 w12 w1499 (
 spl ltFu21 0 19 cs1465 fun cs1500 =>
 spl cs1500 19 2 cs1469 fun cs1501 =>
 samec 1 a3 w12 w1499 (
 samec 1 a1 w12 w1499 (
 mapPut Go.Proofs.Tryd.prog 59 (.map p1467) (.int .i64 (0 : Int)) (.agg cs1501) w1499 fun w1502 =>
 samec 1 a3 w12 w1502 (
 samec 1 a1 w12 w1502 (
 spl ltFu20 0 1 cs13 fun cs1503 =>
 newC w1502 (Array.setIfInBounds (Array.setIfInBounds (Array.setIfInBounds (Array.setIfInBounds cs1503 1 (.slice s14.a s14.n s14.c)) 2 (.bool quiet_2)) 3 (.map p1467)) 4 (.map p1397)) 62 fun a1504 w1505 =>
 stC w1505 a1498 (.pointer (some a1504)) fun w1506 =>
 (J11 a1498 w1506))))))))))) (
 newC w1468 #[(.pointer none)] 48 fun a1507 w1508 =>
 samec 1 a3 w12 w1508 (
 samec 1 a1 w12 w1508 (
 fits_world  w1508 fun cs1509 w1510 =>
 samec 1 a3 w12 w1510 (
 samec 1 a1 w12 w1510 (
 spl ltFu21 0 19 cs1465 fun cs1511 =>
 spl cs1511 19 2 cs1509 fun cs1512 =>
 samec 1 a3 w12 w1510 (
 samec 1 a1 w12 w1510 (
 mapPut Go.Proofs.Tryd.prog 59 (.map p1467) (.int .i64 (0 : Int)) (.agg cs1512) w1510 fun w1513 =>
 samec 1 a3 w12 w1513 (
 samec 1 a1 w12 w1513 (
 spl ltFu20 0 1 cs13 fun cs1514 =>
 newC w1513 (Array.setIfInBounds (Array.setIfInBounds (Array.setIfInBounds (Array.setIfInBounds cs1514 1 (.slice s14.a s14.n s14.c)) 2 (.bool quiet_2)) 3 (.map p1467)) 4 (.map p1397)) 62 fun a1515 w1516 =>
 stC w1516 a1507 (.pointer (some a1515)) fun w1517 =>
 (J11 a1507 w1517))))))))))))) (
 both (
 fits_world  w1466 fun cs1518 w1519 =>
 samec 1 a3 w12 w1519 (
 samec 1 a1 w12 w1519 (
 both (
 mkMap Go.Proofs.Tryd.prog 59 none w1519 fun p1520 w1521 =>
 samec 1 a3 w12 w1521 (
 samec 1 a1 w12 w1521 (
 both (
 spl ltFu21 0 19 cs1465 fun cs1522 =>
 spl cs1522 19 2 cs1518 fun cs1523 =>
 samec 1 a3 w12 w1521 (
 samec 1 a1 w12 w1521 (
 both (
 mapPut Go.Proofs.Tryd.prog 59 (.map p1520) (.int .i64 (0 : Int)) (.agg cs1523) w1521 fun w1524 =>
 samec 1 a3 w12 w1524 (
 samec 1 a1 w12 w1524 (
 both (
 spl ltFu20 0 1 cs13 fun cs1525 =>
 both (
 newC w1524 (Array.setIfInBounds (Array.setIfInBounds (Array.setIfInBounds (Array.setIfInBounds cs1525 1 (.slice s14.a s14.n s14.c)) 2 (.bool quiet_2)) 3 (.map p1520)) 4 (.map p1397)) 62 fun a1526 w1527 =>
 newC w1527 #[(.pointer none)] 48 fun a1528 w1529 =>
 samec 1 a3 w12 w1529 (
 samec 1 a1 w12 w1529 (
 stC w1529 a1528 (.pointer (some a1526)) fun w1530 =>
 (J11 a1528 w1530)))) (
 newC w1524 #[(.pointer none)] 48 fun a1531 w1532 =>
 samec 1 a3 w12 w1532 (
 samec 1 a1 w12 w1532 (
 newC w1532 (Array.setIfInBounds (Array.setIfInBounds (Array.setIfInBounds (Array.setIfInBounds cs1525 1 (.slice s14.a s14.n s14.c)) 2 (.bool quiet_2)) 3 (.map p1520)) 4 (.map p1397)) 62 fun a1533 w1534 =>
 stC w1534 a1531 (.pointer (some a1533)) fun w1535 =>
 (J11 a1531 w1535))))) (
 newC w1524 #[(.pointer none)] 48 fun a1536 w1537 =>
 samec 1 a3 w12 w1537 (
 samec 1 a1 w12 w1537 (
 spl ltFu20 0 1 cs13 fun cs1538 =>
 newC w1537 (Array.setIfInBounds (Array.setIfInBounds (Array.setIfInBounds (Array.setIfInBounds cs1538 1 (.slice s14.a s14.n s14.c)) 2 (.bool quiet_2)) 3 (.map p1520)) 4 (.map p1397)) 62 fun a1539 w1540 =>
 stC w1540 a1536 (.pointer (some a1539)) fun w1541 =>
 (J11 a1536 w1541))))))) (
 newC w1521 #[(.pointer none)] 48 fun a1542 w1543 =>
 samec 1 a3 w12 w1543 (
 samec 1 a1 w12 w1543 (
 mapPut Go.Proofs.Tryd.prog 59 (.map p1520) (.int .i64 (0 : Int)) (.agg cs1523) w1543 fun w1544 =>
 samec 1 a3 w12 w1544 (
 samec 1 a1 w12 w1544 (
 spl ltFu20 0 1 cs13 fun cs1545 =>
 newC w1544 (Array.setIfInBounds (Array.setIfInBounds (Array.setIfInBounds (Array.setIfInBounds cs1545 1 (.slice s14.a s14.n s14.c)) 2 (.bool quiet_2)) 3 (.map p1520)) 4 (.map p1397)) 62 fun a1546 w1547 =>
 stC w1547 a1542 (.pointer (some a1546)) fun w1548 =>
 (J11 a1542 w1548))))))))) (
 newC w1521 #[(.pointer none)] 48 fun a1549 w1550 =>
 samec 1 a3 w12 w1550 (
 samec 1 a1 w12 w1550 (
 spl ltFu21 0 19 cs1465 fun cs1551 =>
 spl cs1551 19 2 cs1518 fun cs1552 =>
 samec 1 a3 w12 w1550 (
 samec 1 a1 w12 w1550 (
 mapPut Go.Proofs.Tryd.prog 59 (.map p1520) (.int .i64 (0 : Int)) (.agg cs1552) w1550 fun w1553 =>
 samec 1 a3 w12 w1553 (
 samec 1 a1 w12 w1553 (
 spl ltFu20 0 1 cs13 fun cs1554 =>
 newC w1553 (Array.setIfInBounds (Array.setIfInBounds (Array.setIfInBounds (Array.setIfInBounds cs1554 1 (.slice s14.a s14.n s14.c)) 2 (.bool quiet_2)) 3 (.map p1520)) 4 (.map p1397)) 62 fun a1555 w1556 =>
 stC w1556 a1549 (.pointer (some a1555)) fun w1557 =>
 (J11 a1549 w1557))))))))))) (
 both (
 spl ltFu21 0 19 cs1465 fun cs1558 =>
 spl cs1558 19 2 cs1518 fun cs1559 =>
 samec 1 a3 w12 w1519 (
 samec 1 a1 w12 w1519 (
 both (
 mkMap Go.Proofs.Tryd.prog 59 none w1519 fun p1560 w1561 =>
 samec 1 a3 w12 w1561 (
 samec 1 a1 w12 w1561 (
 both (
 mapPut Go.Proofs.Tryd.prog 59 (.map p1560) (.int .i64 (0 : Int)) (.agg cs1559) w1561 fun w1562 =>
 samec 1 a3 w12 w1562 (
 samec 1 a1 w12 w1562 (
 both (
 spl ltFu20 0 1 cs13 fun cs1563 =>
 both (
 newC w1562 (Array.setIfInBounds (Array.setIfInBounds (Array.setIfInBounds (Array.setIfInBounds cs1563 1 (.slice s14.a s14.n s14.c)) 2 (.bool quiet_2)) 3 (.map p1560)) 4 (.map p1397)) 62 fun a1564 w1565 =>
 newC w1565 #[(.pointer none)] 48 fun a1566 w1567 =>
 samec 1 a3 w12 w1567 (
 samec 1 a1 w12 w1567 (
 stC w1567 a1566 (.pointer (some a1564)) fun w1568 =>
 (J11 a1566 w1568)))) (
 newC w1562 #[(.pointer none)] 48 fun a1569 w1570 =>
 samec 1 a3 w12 w1570 (
 samec 1 a1 w12 w1570 (
 newC w1570 (Array.setIfInBounds (Array.setIfInBounds (Array.setIfInBounds (Array.setIfInBounds cs1563 1 (.slice s14.a s14.n s14.c)) 2 (.bool quiet_2)) 3 (.map p1560)) 4 (.map p1397)) 62 fun a1571 w1572 =>
 stC w1572 a1569 (.pointer (some a1571)) fun w1573 =>
 (J11 a1569 w1573))))) (
 newC w1562 #[(.pointer none)] 48 fun a1574 w1575 =>
 samec 1 a3 w12 w1575 (
 samec 1 a1 w12 w1575 (
 spl ltFu20 0 1 cs13 fun cs1576 =>
 newC w1575 (Array.setIfInBounds (Array.setIfInBounds (Array.setIfInBounds (Array.setIfInBounds cs1576 1 (.slice s14.a s14.n s14.c)) 2 (.bool quiet_2)) 3 (.map p1560)) 4 (.map p1397)) 62 fun a1577 w1578 =>
 stC w1578 a1574 (.pointer (some a1577)) fun w1579 =>
 (J11 a1574 w1579))))))) (
 newC w1561 #[(.pointer none)] 48 fun a1580 w1581 =>
 samec 1 a3 w12 w1581 (
 samec 1 a1 w12 w1581 (
 mapPut Go.Proofs.Tryd.prog 59 (.map p1560) (.int .i64 (0 : Int)) (.agg cs1559) w1581 fun w1582 =>
 samec 1 a3 w12 w1582 (
 samec 1 a1 w12 w1582 (
 spl ltFu20 0 1 cs13 fun cs1583 =>
 newC w1582 (Array.setIfInBounds (Array.setIfInBounds (Array.setIfInBounds (Array.setIfInBounds cs1583 1 (.slice s14.a s14.n s14.c)) 2 (.bool quiet_2)) 3 (.map p1560)) 4 (.map p1397)) 62 fun a1584 w1585 =>
 stC w1585 a1580 (.pointer (some a1584)) fun w1586 =>
 (J11 a1580 w1586))))))))) (
 newC w1519 #[(.pointer none)] 48 fun a1587 w1588 =>
 samec 1 a3 w12 w1588 (
 samec 1 a1 w12 w1588 (
 mkMap Go.Proofs.Tryd.prog 59 none w1588 fun p1589 w1590 =>
 samec 1 a3 w12 w1590 (
 samec 1 a1 w12 w1590 (
 mapPut Go.Proofs.Tryd.prog 59 (.map p1589) (.int .i64 (0 : Int)) (.agg cs1559) w1590 fun w1591 =>
 samec 1 a3 w12 w1591 (
 samec 1 a1 w12 w1591 (
 spl ltFu20 0 1 cs13 fun cs1592 =>
 newC w1591 (Array.setIfInBounds (Array.setIfInBounds (Array.setIfInBounds (Array.setIfInBounds cs1592 1 (.slice s14.a s14.n s14.c)) 2 (.bool quiet_2)) 3 (.map p1589)) 4 (.map p1397)) 62 fun a1593 w1594 =>
 stC w1594 a1587 (.pointer (some a1593)) fun w1595 =>
 (J11 a1587 w1595))))))))))) (
 newC w1519 #[(.pointer none)] 48 fun a1596 w1597 =>
 samec 1 a3 w12 w1597 (
 samec 1 a1 w12 w1597 (
 both (
 mkMap Go.Proofs.Tryd.prog 59 none w1597 fun p1598 w1599 =>
 samec 1 a3 w12 w1599 (
 samec 1 a1 w12 w1599 (
 spl ltFu21 0 19 cs1465 fun cs1600 =>
 spl cs1600 19 2 cs1518 fun cs1601 =>
 samec 1 a3 w12 w1599 (
 samec 1 a1 w12 w1599 (
 mapPut Go.Proofs.Tryd.prog 59 (.map p1598) (.int .i64 (0 : Int)) (.agg cs1601) w1599 fun w1602 =>
 samec 1 a3 w12 w1602 (
 samec 1 a1 w12 w1602 (
 spl ltFu20 0 1 cs13 fun cs1603 =>
 newC w1602 (Array.setIfInBounds (Array.setIfInBounds (Array.setIfInBounds (Array.setIfInBounds cs1603 1 (.slice s14.a s14.n s14.c)) 2 (.bool quiet_2)) 3 (.map p1598)) 4 (.map p1397)) 62 fun a1604 w1605 =>
 stC w1605 a1596 (.pointer (some a1604)) fun w1606 =>
 (J11 a1596 w1606)))))))) (
 spl ltFu21 0 19 cs1465 fun cs1607 =>
 spl cs1607 19 2 cs1518 fun cs1608 =>
 samec 1 a3 w12 w1597 (
 samec 1 a1 w12 w1597 (
 mkMap Go.Proofs.Tryd.prog 59 none w1597 fun p1609 w1610 =>
 samec 1 a3 w12 w1610 (
 samec 1 a1 w12 w1610 (
 mapPut Go.Proofs.Tryd.prog 59 (.map p1609) (.int .i64 (0 : Int)) (.agg cs1608) w1610 fun w1611 =>
 samec 1 a3 w12 w1611 (
 samec 1 a1 w12 w1611 (
 spl ltFu20 0 1 cs13 fun cs1612 =>
 newC w1611 (Array.setIfInBounds (Array.setIfInBounds (Array.setIfInBounds (Array.setIfInBounds cs1612 1 (.slice s14.a s14.n s14.c)) 2 (.bool quiet_2)) 3 (.map p1609)) 4 (.map p1397)) 62 fun a1613 w1614 =>
 stC w1614 a1596 (.pointer (some a1613)) fun w1615 =>
 (J11 a1596 w1615))))))))))))))) (
 newC w1466 #[(.pointer none)] 48 fun a1616 w1617 =>
 samec 1 a3 w12 w1617 (
 samec 1 a1 w12 w1617 (
 both (
 mkMap Go.Proofs.Tryd.prog 59 none w1617 fun p1618 w1619 =>
 samec 1 a3 w12 w1619 (
 samec 1 a1 w12 w1619 (
 fits_world  w1619 fun cs1620 w1621 =>
 samec 1 a3 w12 w1621 (
 samec 1 a1 w12 w1621 (
 spl ltFu21 0 19 cs1465 fun cs1622 =>
 spl cs1622 19 2 cs1620 fun cs1623 =>
 samec 1 a3 w12 w1621 (
 samec 1 a1 w12 w1621 (
 mapPut Go.Proofs.Tryd.prog 59 (.map p1618) (.int .i64 (0 : Int)) (.agg cs1623) w1621 fun w1624 =>
 samec 1 a3 w12 w1624 (
 samec 1 a1 w12 w1624 (
 spl ltFu20 0 1 cs13 fun cs1625 =>
 newC w1624 (Array.setIfInBounds (Array.setIfInBounds (Array.setIfInBounds (Array.setIfInBounds cs1625 1 (.slice s14.a s14.n s14.c)) 2 (.bool quiet_2)) 3 (.map p1618)) 4 (.map p1397)) 62 fun a1626 w1627 =>
 stC w1627 a1616 (.pointer (some a1626)) fun w1628 =>
 (J11 a1616 w1628)))))))))) (
 fits_world  w1617 fun cs1629 w1630 =>
 samec 1 a3 w12 w1630 (
 samec 1 a1 w12 w1630 (
 both (
 mkMap Go.Proofs.Tryd.prog 59 none w1630 fun p1631 w1632 =>
 samec 1 a3 w12 w1632 (
 samec 1 a1 w12 w1632 (
 spl ltFu21 0 19 cs1465 fun cs1633 =>
 spl cs1633 19 2 cs1629 fun cs1634 =>
 samec 1 a3 w12 w1632 (
 samec 1 a1 w12 w1632 (
 mapPut Go.Proofs.Tryd.prog 59 (.map p1631) (.int .i64 (0 : Int)) (.agg cs1634) w1632 fun w1635 =>
 samec 1 a3 w12 w1635 (
 samec 1 a1 w12 w1635 (
 spl ltFu20 0 1 cs13 fun cs1636 =>
 newC w1635 (Array.setIfInBounds (Array.setIfInBounds (Array.setIfInBounds (Array.setIfInBounds cs1636 1 (.slice s14.a s14.n s14.c)) 2 (.bool quiet_2)) 3 (.map p1631)) 4 (.map p1397)) 62 fun a1637 w1638 =>
 stC w1638 a1616 (.pointer (some a1637)) fun w1639 =>
 (J11 a1616 w1639)))))))) (
 spl ltFu21 0 19 cs1465 fun cs1640 =>
 spl cs1640 19 2 cs1629 fun cs1641 =>
 samec 1 a3 w12 w1630 (
 samec 1 a1 w12 w1630 (
 mkMap Go.Proofs.Tryd.prog 59 none w1630 fun p1642 w1643 =>
 samec 1 a3 w12 w1643 (
 samec 1 a1 w12 w1643 (
 mapPut Go.Proofs.Tryd.prog 59 (.map p1642) (.int .i64 (0 : Int)) (.agg cs1641) w1643 fun w1644 =>
 samec 1 a3 w12 w1644 (
 samec 1 a1 w12 w1644 (
 spl ltFu20 0 1 cs13 fun cs1645 =>
 newC w1644 (Array.setIfInBounds (Array.setIfInBounds (Array.setIfInBounds (Array.setIfInBounds cs1645 1 (.slice s14.a s14.n s14.c)) 2 (.bool quiet_2)) 3 (.map p1642)) 4 (.map p1397)) 62 fun a1646 w1647 =>
 stC w1647 a1616 (.pointer (some a1646)) fun w1648 =>
 (J11 a1616 w1648)))))))))))))))))) (
 newC w1398 #[(.pointer none)] 48 fun a1649 w1650 =>
 samec 1 a3 w12 w1650 (
 samec 1 a1 w12 w1650 (
 both (
 mkMap Go.Proofs.Tryd.prog 59 none w1650 fun p1651 w1652 =>
 samec 1 a3 w12 w1652 (
 samec 1 a1 w12 w1652 (
 frame_Root  w1652 fun cs1653 w1654 =>
 samec 1 a3 w12 w1654 (
 samec 1 a1 w12 w1654 (
 fits_world  w1654 fun cs1655 w1656 =>
 samec 1 a3 w12 w1656 (
 samec 1 a1 w12 w1656 (
 spl ltFu21 0 19 cs1653 fun cs1657 =>
 spl cs1657 19 2 cs1655 fun cs1658 =>
 samec 1 a3 w12 w1656 (
 samec 1 a1 w12 w1656 (
 mapPut Go.Proofs.Tryd.prog 59 (.map p1651) (.int .i64 (0 : Int)) (.agg cs1658) w1656 fun w1659 =>
 samec 1 a3 w12 w1659 (
 samec 1 a1 w12 w1659 (
 spl ltFu20 0 1 cs13 fun cs1660 =>
 newC w1659 (Array.setIfInBounds (Array.setIfInBounds (Array.setIfInBounds (Array.setIfInBounds cs1660 1 (.slice s14.a s14.n s14.c)) 2 (.bool quiet_2)) 3 (.map p1651)) 4 (.map p1397)) 62 fun a1661 w1662 =>
 stC w1662 a1649 (.pointer (some a1661)) fun w1663 =>
 (J11 a1649 w1663)))))))))))) (
 frame_Root  w1650 fun cs1664 w1665 =>
 samec 1 a3 w12 w1665 (
 samec 1 a1 w12 w1665 (
 both (
 mkMap Go.Proofs.Tryd.prog 59 none w1665 fun p1666 w1667 =>
 samec 1 a3 w12 w1667 (
 samec 1 a1 w12 w1667 (
 fits_world  w1667 fun cs1668 w1669 =>
 samec 1 a3 w12 w1669 (
 samec 1 a1 w12 w1669 (
 spl ltFu21 0 19 cs1664 fun cs1670 =>
 spl cs1670 19 2 cs1668 fun cs1671 =>
 samec 1 a3 w12 w1669 (
 samec 1 a1 w12 w1669 (
 mapPut Go.Proofs.Tryd.prog 59 (.map p1666) (.int .i64 (0 : Int)) (.agg cs1671) w1669 fun w1672 =>
 samec 1 a3 w12 w1672 (
 samec 1 a1 w12 w1672 (
 spl ltFu20 0 1 cs13 fun cs1673 =>
 newC w1672 (Array.setIfInBounds (Array.setIfInBounds (Array.setIfInBounds (Array.setIfInBounds cs1673 1 (.slice s14.a s14.n s14.c)) 2 (.bool quiet_2)) 3 (.map p1666)) 4 (.map p1397)) 62 fun a1674 w1675 =>
 stC w1675 a1649 (.pointer (some a1674)) fun w1676 =>
 (J11 a1649 w1676)))))))))) (
 fits_world  w1665 fun cs1677 w1678 =>
 samec 1 a3 w12 w1678 (
 samec 1 a1 w12 w1678 (
 both (
 mkMap Go.Proofs.Tryd.prog 59 none w1678 fun p1679 w1680 =>
 samec 1 a3 w12 w1680 (
 samec 1 a1 w12 w1680 (
 spl ltFu21 0 19 cs1664 fun cs1681 =>
 spl cs1681 19 2 cs1677 fun cs1682 =>
 samec 1 a3 w12 w1680 (
 samec 1 a1 w12 w1680 (
 mapPut Go.Proofs.Tryd.prog 59 (.map p1679) (.int .i64 (0 : Int)) (.agg cs1682) w1680 fun w1683 =>
 samec 1 a3 w12 w1683 (
 samec 1 a1 w12 w1683 (
 spl ltFu20 0 1 cs13 fun cs1684 =>
 newC w1683 (Array.setIfInBounds (Array.setIfInBounds (Array.setIfInBounds (Array.setIfInBounds cs1684 1 (.slice s14.a s14.n s14.c)) 2 (.bool quiet_2)) 3 (.map p1679)) 4 (.map p1397)) 62 fun a1685 w1686 =>
 stC w1686 a1649 (.pointer (some a1685)) fun w1687 =>
 (J11 a1649 w1687)))))))) (
 spl ltFu21 0 19 cs1664 fun cs1688 =>
 spl cs1688 19 2 cs1677 fun cs1689 =>
 samec 1 a3 w12 w1678 (
 samec 1 a1 w12 w1678 (
 mkMap Go.Proofs.Tryd.prog 59 none w1678 fun p1690 w1691 =>
 samec 1 a3 w12 w1691 (
 samec 1 a1 w12 w1691 (
 mapPut Go.Proofs.Tryd.prog 59 (.map p1690) (.int .i64 (0 : Int)) (.agg cs1689) w1691 fun w1692 =>
 samec 1 a3 w12 w1692 (
 samec 1 a1 w12 w1692 (
 spl ltFu20 0 1 cs13 fun cs1693 =>
 newC w1692 (Array.setIfInBounds (Array.setIfInBounds (Array.setIfInBounds (Array.setIfInBounds cs1693 1 (.slice s14.a s14.n s14.c)) 2 (.bool quiet_2)) 3 (.map p1690)) 4 (.map p1397)) 62 fun a1694 w1695 =>
 stC w1695 a1649 (.pointer (some a1694)) fun w1696 =>
 (J11 a1649 w1696))))))))))))))))))))) (
 newC w12 #[(.pointer none)] 48 fun a1697 w1698 =>
 samec 1 a3 w12 w1698 (
 samec 1 a1 w12 w1698 (
 both (
 mkMap Go.Proofs.Tryd.prog 59 none w1698 fun p1699 w1700 =>
 samec 1 a3 w12 w1700 (
 samec 1 a1 w12 w1700 (
 both (
 frame_Root  w1700 fun cs1701 w1702 =>
 samec 1 a3 w12 w1702 (
 samec 1 a1 w12 w1702 (
 both (
 fits_world  w1702 fun cs1703 w1704 =>
 samec 1 a3 w12 w1704 (
 samec 1 a1 w12 w1704 (
 both (
 spl ltFu21 0 19 cs1701 fun cs1705 =>
 spl cs1705 19 2 cs1703 fun cs1706 =>
 samec 1 a3 w12 w1704 (
 samec 1 a1 w12 w1704 (
 both (
 mapPut Go.Proofs.Tryd.prog 59 (.map p1699) (.int .i64 (0 : Int)) (.agg cs1706) w1704 fun w1707 =>
 samec 1 a3 w12 w1707 (
 samec 1 a1 w12 w1707 (
 mkMap Go.Proofs.Tryd.prog 60 none w1707 fun p1708 w1709 =>
 samec 1 a3 w12 w1709 (
 samec 1 a1 w12 w1709 (
 spl ltFu20 0 1 cs13 fun cs1710 =>
 newC w1709 (Array.setIfInBounds (Array.setIfInBounds (Array.setIfInBounds (Array.setIfInBounds cs1710 1 (.slice s14.a s14.n s14.c)) 2 (.bool quiet_2)) 3 (.map p1699)) 4 (.map p1708)) 62 fun a1711 w1712 =>
 stC w1712 a1697 (.pointer (some a1711)) fun w1713 =>
 (J11 a1697 w1713)))))) (
 mkMap Go.Proofs.Tryd.prog 60 none w1704 fun p1714 w1715 =>
 samec 1 a3 w12 w1715 (
 samec 1 a1 w12 w1715 (
 mapPut Go.Proofs.Tryd.prog 59 (.map p1699) (.int .i64 (0 : Int)) (.agg cs1706) w1715 fun w1716 =>
 samec 1 a3 w12 w1716 (
 samec 1 a1 w12 w1716 (
 spl ltFu20 0 1 cs13 fun cs1717 =>
 newC w1716 (Array.setIfInBounds (Array.setIfInBounds (Array.setIfInBounds (Array.setIfInBounds cs1717 1 (.slice s14.a s14.n s14.c)) 2 (.bool quiet_2)) 3 (.map p1699)) 4 (.map p1714)) 62 fun a1718 w1719 =>
 stC w1719 a1697 (.pointer (some a1718)) fun w1720 =>
 (J11 a1697 w1720))))))))) (
 mkMap Go.Proofs.Tryd.prog 60 none w1704 fun p1721 w1722 =>
 samec 1 a3 w12 w1722 (
 samec 1 a1 w12 w1722 (
 spl ltFu21 0 19 cs1701 fun cs1723 =>
 spl cs1723 19 2 cs1703 fun cs1724 =>
 samec 1 a3 w12 w1722 (
 samec 1 a1 w12 w1722 (
 mapPut Go.Proofs.Tryd.prog 59 (.map p1699) (.int .i64 (0 : Int)) (.agg cs1724) w1722 fun w1725 =>
 samec 1 a3 w12 w1725 (
 samec 1 a1 w12 w1725 (
 spl ltFu20 0 1 cs13 fun cs1726 =>
 newC w1725 (Array.setIfInBounds (Array.setIfInBounds (Array.setIfInBounds (Array.setIfInBounds cs1726 1 (.slice s14.a s14.n s14.c)) 2 (.bool quiet_2)) 3 (.map p1699)) 4 (.map p1721)) 62 fun a1727 w1728 =>
 stC w1728 a1697 (.pointer (some a1727)) fun w1729 =>
 (J11 a1697 w1729))))))))))) (
 mkMap Go.Proofs.Tryd.prog 60 none w1702 fun p1730 w1731 =>
 samec 1 a3 w12 w1731 (
 samec 1 a1 w12 w1731 (
 fits_world  w1731 fun cs1732 w1733 =>
 samec 1 a3 w12 w1733 (
 samec 1 a1 w12 w1733 (
 spl ltFu21 0 19 cs1701 fun cs1734 =>
 spl cs1734 19 2 cs1732 fun cs1735 =>
 samec 1 a3 w12 w1733 (
 samec 1 a1 w12 w1733 (
 mapPut Go.Proofs.Tryd.prog 59 (.map p1699) (.int .i64 (0 : Int)) (.agg cs1735) w1733 fun w1736 =>
 samec 1 a3 w12 w1736 (
 samec 1 a1 w12 w1736 (
 spl ltFu20 0 1 cs13 fun cs1737 =>
 newC w1736 (Array.setIfInBounds (Array.setIfInBounds (Array.setIfInBounds (Array.setIfInBounds cs1737 1 (.slice s14.a s14.n s14.c)) 2 (.bool quiet_2)) 3 (.map p1699)) 4 (.map p1730)) 62 fun a1738 w1739 =>
 stC w1739 a1697 (.pointer (some a1738)) fun w1740 =>
 (J11 a1697 w1740))))))))))))) (
 mkMap Go.Proofs.Tryd.prog 60 none w1700 fun p1741 w1742 =>
 samec 1 a3 w12 w1742 (
 samec 1 a1 w12 w1742 (
 frame_Root  w1742 fun cs1743 w1744 =>
 samec 1 a3 w12 w1744 (
 samec 1 a1 w12 w1744 (
 fits_world  w1744 fun cs1745 w1746 =>
 samec 1 a3 w12 w1746 (
 samec 1 a1 w12 w1746 (
 spl ltFu21 0 19 cs1743 fun cs1747 =>
 spl cs1747 19 2 cs1745 fun cs1748 =>
 samec 1 a3 w12 w1746 (
 samec 1 a1 w12 w1746 (
 mapPut Go.Proofs.Tryd.prog 59 (.map p1699) (.int .i64 (0 : Int)) (.agg cs1748) w1746 fun w1749 =>
 samec 1 a3 w12 w1749 (
 samec 1 a1 w12 w1749 (
 spl ltFu20 0 1 cs13 fun cs1750 =>
 newC w1749 (Array.setIfInBounds (Array.setIfInBounds (Array.setIfInBounds (Array.setIfInBounds cs1750 1 (.slice s14.a s14.n s14.c)) 2 (.bool quiet_2)) 3 (.map p1699)) 4 (.map p1741)) 62 fun a1751 w1752 =>
 stC w1752 a1697 (.pointer (some a1751)) fun w1753 =>
 (J11 a1697 w1753))))))))))))))) (
 both (
 frame_Root  w1698 fun cs1754 w1755 =>
 samec 1 a3 w12 w1755 (
 samec 1 a1 w12 w1755 (
 both (
 mkMap Go.Proofs.Tryd.prog 59 none w1755 fun p1756 w1757 =>
 samec 1 a3 w12 w1757 (
 samec 1 a1 w12 w1757 (
 both (
 fits_world  w1757 fun cs1758 w1759 =>
 samec 1 a3 w12 w1759 (
 samec 1 a1 w12 w1759 (
 both (
 spl ltFu21 0 19 cs1754 fun cs1760 =>
 spl cs1760 19 2 cs1758 fun cs1761 =>
 samec 1 a3 w12 w1759 (
 samec 1 a1 w12 w1759 (
 both (
 mapPut Go.Proofs.Tryd.prog 59 (.map p1756) (.int .i64 (0 : Int)) (.agg cs1761) w1759 fun w1762 =>
 samec 1 a3 w12 w1762 (
 samec 1 a1 w12 w1762 (
 mkMap Go.Proofs.Tryd.prog 60 none w1762 fun p1763 w1764 =>
 samec 1 a3 w12 w1764 (
 samec 1 a1 w12 w1764 (
 spl ltFu20 0 1 cs13 fun cs1765 =>
 newC w1764 (Array.setIfInBounds (Array.setIfInBounds (Array.setIfInBounds (Array.setIfInBounds cs1765 1 (.slice s14.a s14.n s14.c)) 2 (.bool quiet_2)) 3 (.map p1756)) 4 (.map p1763)) 62 fun a1766 w1767 =>
 stC w1767 a1697 (.pointer (some a1766)) fun w1768 =>
 (J11 a1697 w1768)))))) (
 mkMap Go.Proofs.Tryd.prog 60 none w1759 fun p1769 w1770 =>
 samec 1 a3 w12 w1770 (
 samec 1 a1 w12 w1770 (
 mapPut Go.Proofs.Tryd.prog 59 (.map p1756) (.int .i64 (0 : Int)) (.agg cs1761) w1770 fun w1771 =>
 samec 1 a3 w12 w1771 (
 samec 1 a1 w12 w1771 (
 spl ltFu20 0 1 cs13 fun cs1772 =>
 newC w1771 (Array.setIfInBounds (Array.setIfInBounds (Array.setIfInBounds (Array.setIfInBounds cs1772 1 (.slice s14.a s14.n s14.c)) 2 (.bool quiet_2)) 3 (.map p1756)) 4 (.map p1769)) 62 fun a1773 w1774 =>
 stC w1774 a1697 (.pointer (some a1773)) fun w1775 =>
 (J11 a1697 w1775))))))))) (
 mkMap Go.Proofs.Tryd.prog 60 none w1759 fun p1776 w1777 =>
 samec 1 a3 w12 w1777 (
 samec 1 a1 w12 w1777 (
 spl ltFu21 0 19 cs1754 fun cs1778 =>
 spl cs1778 19 2 cs1758 fun cs1779 =>
 samec 1 a3 w12 w1777 (
 samec 1 a1 w12 w1777 (
 mapPut Go.Proofs.Tryd.prog 59 (.map p1756) (.int .i64 (0 : Int)) (.agg cs1779) w1777 fun w1780 =>
 samec 1 a3 w12 w1780 (
 samec 1 a1 w12 w1780 (
 spl ltFu20 0 1 cs13 fun cs1781 =>
 newC w1780 (Array.setIfInBounds (Array.setIfInBounds (Array.setIfInBounds (Array.setIfInBounds cs1781 1 (.slice s14.a s14.n s14.c)) 2 (.bool quiet_2)) 3 (.map p1756)) 4 (.map p1776)) 62 fun a1782 w1783 =>
 stC w1783 a1697 (.pointer (some a1782)) fun w1784 =>
 (J11 a1697 w1784))))))))))) (
 mkMap Go.Proofs.Tryd.prog 60 none w1757 fun p1785 w1786 =>
 samec 1 a3 w12 w1786 (
 samec 1 a1 w12 w1786 (
 fits_world  w1786 fun cs1787 w1788 =>
 samec 1 a3 w12 w1788 (
 samec 1 a1 w12 w1788 (
 spl ltFu21 0 19 cs1754 fun cs1789 =>
 spl cs1789 19 2 cs1787 fun cs1790 =>
 samec 1 a3 w12 w1788 (
 samec 1 a1 w12 w1788 (
 mapPut Go.Proofs.Tryd.prog 59 (.map p1756) (.int .i64 (0 : Int)) (.agg cs1790) w1788 fun w1791 =>
 samec 1 a3 w12 w1791 (
 samec 1 a1 w12 w1791 (
 spl ltFu20 0 1 cs13 fun cs1792 =>
 newC w1791 (Array.setIfInBounds (Array.setIfInBounds (Array.setIfInBounds (Array.setIfInBounds cs1792 1 (.slice s14.a s14.n s14.c)) 2 (.bool quiet_2)) 3 (.map p1756)) 4 (.map p1785)) 62 fun a1793 w1794 =>
 stC w1794 a1697 (.pointer (some a1793)) fun w1795 =>
 (J11 a1697 w1795))))))))))))) (
 both (
 fits_world  w1755 fun cs1796 w1797 =>
 samec 1 a3 w12 w1797 (
 samec 1 a1 w12 w1797 (
 both (
 mkMap Go.Proofs.Tryd.prog 59 none w1797 fun p1798 w1799 =>
 samec 1 a3 w12 w1799 (
 samec 1 a1 w12 w1799 (
 both (
 spl ltFu21 0 19 cs1754 fun cs1800 =>
 spl cs1800 19 2 cs1796 fun cs1801 =>
 samec 1 a3 w12 w1799 (
 samec 1 a1 w12 w1799 (
 both (
 mapPut Go.Proofs.Tryd.prog 59 (.map p1798) (.int .i64 (0 : Int)) (.agg cs1801) w1799 fun w1802 =>
 samec 1 a3 w12 w1802 (
 samec 1 a1 w12 w1802 (
 mkMap Go.Proofs.Tryd.prog 60 none w1802 fun p1803 w1804 =>
 samec 1 a3 w12 w1804 (
 samec 1 a1 w12 w1804 (
 spl ltFu20 0 1 cs13 fun cs1805 =>
 newC w1804 (Array.setIfInBounds (Array.setIfInBounds (Array.setIfInBounds (Array.setIfInBounds cs1805 1 (.slice s14.a s14.n s14.c)) 2 (.bool quiet_2)) 3 (.map p1798)) 4 (.map p1803)) 62 fun a1806 w1807 =>
 stC w1807 a1697 (.pointer (some a1806)) fun w1808 =>
 (J11 a1697 w1808)))))) (
 mkMap Go.Proofs.Tryd.prog 60 none w1799 fun p1809 w1810 =>
 samec 1 a3 w12 w1810 (
 samec 1 a1 w12 w1810 (
 mapPut Go.Proofs.Tryd.prog 59 (.map p1798) (.int .i64 (0 : Int)) (.agg cs1801) w1810 fun w1811 =>
 samec 1 a3 w12 w1811 (
 samec 1 a1 w12 w1811 (
 spl ltFu20 0 1 cs13 fun cs1812 =>
 newC w1811 (Array.setIfInBounds (Array.setIfInBounds (Array.setIfInBounds (Array.setIfInBounds cs1812 1 (.slice s14.a s14.n s14.c)) 2 (.bool quiet_2)) 3 (.map p1798)) 4 (.map p1809)) 62 fun a1813 w1814 =>
 stC w1814 a1697 (.pointer (some a1813)) fun w1815 =>
 (J11 a1697 w1815))))))))) (
 mkMap Go.Proofs.Tryd.prog 60 none w1799 fun p1816 w1817 =>
 samec 1 a3 w12 w1817 (
 samec 1 a1 w12 w1817 (
 spl ltFu21 0 19 cs1754 fun cs1818 =>
 spl cs1818 19 2 cs1796 fun cs1819 =>
 samec 1 a3 w12 w1817 (
 samec 1 a1 w12 w1817 (
 mapPut Go.Proofs.Tryd.prog 59 (.map p1798) (.int .i64 (0 : Int)) (.agg cs1819) w1817 fun w1820 =>
 samec 1 a3 w12 w1820 (
 samec 1 a1 w12 w1820 (
 spl ltFu20 0 1 cs13 fun cs1821 =>
 newC w1820 (Array.setIfInBounds (Array.setIfInBounds (Array.setIfInBounds (Array.setIfInBounds cs1821 1 (.slice s14.a s14.n s14.c)) 2 (.bool quiet_2)) 3 (.map p1798)) 4 (.map p1816)) 62 fun a1822 w1823 =>
 stC w1823 a1697 (.pointer (some a1822)) fun w1824 =>
 (J11 a1697 w1824))))))))))) (
 both (
 spl ltFu21 0 19 cs1754 fun cs1825 =>
 spl cs1825 19 2 cs1796 fun cs1826 =>
 samec 1 a3 w12 w1797 (
 samec 1 a1 w12 w1797 (
 both (
 mkMap Go.Proofs.Tryd.prog 59 none w1797 fun p1827 w1828 =>
 samec 1 a3 w12 w1828 (
 samec 1 a1 w12 w1828 (
 both (
 mapPut Go.Proofs.Tryd.prog 59 (.map p1827) (.int .i64 (0 : Int)) (.agg cs1826) w1828 fun w1829 =>
 samec 1 a3 w12 w1829 (
 samec 1 a1 w12 w1829 (
 mkMap Go.Proofs.Tryd.prog 60 none w1829 fun p1830 w1831 =>
 samec 1 a3 w12 w1831 (
 samec 1 a1 w12 w1831 (
 spl ltFu20 0 1 cs13 fun cs1832 =>
 newC w1831 (Array.setIfInBounds (Array.setIfInBounds (Array.setIfInBounds (Array.setIfInBounds cs1832 1 (.slice s14.a s14.n s14.c)) 2 (.bool quiet_2)) 3 (.map p1827)) 4 (.map p1830)) 62 fun a1833 w1834 =>
 stC w1834 a1697 (.pointer (some a1833)) fun w1835 =>
 (J11 a1697 w1835)))))) (
 mkMap Go.Proofs.Tryd.prog 60 none w1828 fun p1836 w1837 =>
 samec 1 a3 w12 w1837 (
 samec 1 a1 w12 w1837 (
 mapPut Go.Proofs.Tryd.prog 59 (.map p1827) (.int .i64 (0 : Int)) (.agg cs1826) w1837 fun w1838 =>
 samec 1 a3 w12 w1838 (
 samec 1 a1 w12 w1838 (
 spl ltFu20 0 1 cs13 fun cs1839 =>
 newC w1838 (Array.setIfInBounds (Array.setIfInBounds (Array.setIfInBounds (Array.setIfInBounds cs1839 1 (.slice s14.a s14.n s14.c)) 2 (.bool quiet_2)) 3 (.map p1827)) 4 (.map p1836)) 62 fun a1840 w1841 =>
 stC w1841 a1697 (.pointer (some a1840)) fun w1842 =>
 (J11 a1697 w1842))))))))) (
 mkMap Go.Proofs.Tryd.prog 60 none w1797 fun p1843 w1844 =>
 samec 1 a3 w12 w1844 (
 samec 1 a1 w12 w1844 (
 mkMap Go.Proofs.Tryd.prog 59 none w1844 fun p1845 w1846 =>
 samec 1 a3 w12 w1846 (
 samec 1 a1 w12 w1846 (
 mapPut Go.Proofs.Tryd.prog 59 (.map p1845) (.int .i64 (0 : Int)) (.agg cs1826) w1846 fun w1847 =>
 samec 1 a3 w12 w1847 (
 samec 1 a1 w12 w1847 (
 spl ltFu20 0 1 cs13 fun cs1848 =>
 newC w1847 (Array.setIfInBounds (Array.setIfInBounds (Array.setIfInBounds (Array.setIfInBounds cs1848 1 (.slice s14.a s14.n s14.c)) 2 (.bool quiet_2)) 3 (.map p1845)) 4 (.map p1843)) 62 fun a1849 w1850 =>
 stC w1850 a1697 (.pointer (some a1849)) fun w1851 =>
 (J11 a1697 w1851))))))))))) (
 mkMap Go.Proofs.Tryd.prog 60 none w1797 fun p1852 w1853 =>
 samec 1 a3 w12 w1853 (
 samec 1 a1 w12 w1853 (
 both (
 mkMap Go.Proofs.Tryd.prog 59 none w1853 fun p1854 w1855 =>
 samec 1 a3 w12 w1855 (
 samec 1 a1 w12 w1855 (
 spl ltFu21 0 19 cs1754 fun cs1856 =>
 spl cs1856 19 2 cs1796 fun cs1857 =>
 samec 1 a3 w12 w1855 (
 samec 1 a1 w12 w1855 (
 mapPut Go.Proofs.Tryd.prog 59 (.map p1854) (.int .i64 (0 : Int)) (.agg cs1857) w1855 fun w1858 =>
 samec 1 a3 w12 w1858 (
 samec 1 a1 w12 w1858 (
 spl ltFu20 0 1 cs13 fun cs1859 =>
 newC w1858 (Array.setIfInBounds (Array.setIfInBounds (Array.setIfInBounds (Array.setIfInBounds cs1859 1 (.slice s14.a s14.n s14.c)) 2 (.bool quiet_2)) 3 (.map p1854)) 4 (.map p1852)) 62 fun a1860 w1861 =>
 stC w1861 a1697 (.pointer (some a1860)) fun w1862 =>
 (J11 a1697 w1862)))))))) (
 spl ltFu21 0 19 cs1754 fun cs1863 =>
 spl cs1863 19 2 cs1796 fun cs1864 =>
 samec 1 a3 w12 w1853 (
 samec 1 a1 w12 w1853 (
 mkMap Go.Proofs.Tryd.prog 59 none w1853 fun p1865 w1866 =>
 samec 1 a3 w12 w1866 (
 samec 1 a1 w12 w1866 (
 mapPut Go.Proofs.Tryd.prog 59 (.map p1865) (.int .i64 (0 : Int)) (.agg cs1864) w1866 fun w1867 =>
 samec 1 a3 w12 w1867 (
 samec 1 a1 w12 w1867 (
 spl ltFu20 0 1 cs13 fun cs1868 =>
 newC w1867 (Array.setIfInBounds (Array.setIfInBounds (Array.setIfInBounds (Array.setIfInBounds cs1868 1 (.slice s14.a s14.n s14.c)) 2 (.bool quiet_2)) 3 (.map p1865)) 4 (.map p1852)) 62 fun a1869 w1870 =>
 stC w1870 a1697 (.pointer (some a1869)) fun w1871 =>
 (J11 a1697 w1871))))))))))))))) (
 mkMap Go.Proofs.Tryd.prog 60 none w1755 fun p1872 w1873 =>
 samec 1 a3 w12 w1873 (
 samec 1 a1 w12 w1873 (
 both (
 mkMap Go.Proofs.Tryd.prog 59 none w1873 fun p1874 w1875 =>
 samec 1 a3 w12 w1875 (
 samec 1 a1 w12 w1875 (
 fits_world  w1875 fun cs1876 w1877 =>
 samec 1 a3 w12 w1877 (
 samec 1 a1 w12 w1877 (
 spl ltFu21 0 19 cs1754 fun cs1878 =>
 spl cs1878 19 2 cs1876 fun cs1879 =>
 samec 1 a3 w12 w1877 (
 samec 1 a1 w12 w1877 (
 mapPut Go.Proofs.Tryd.prog 59 (.map p1874) (.int .i64 (0 : Int)) (.agg cs1879) w1877 fun w1880 =>
 samec 1 a3 w12 w1880 (
 samec 1 a1 w12 w1880 (
 spl ltFu20 0 1 cs13 fun cs1881 =>
 newC w1880 (Array.setIfInBounds (Array.setIfInBounds (Array.setIfInBounds (Array.setIfInBounds cs1881 1 (.slice s14.a s14.n s14.c)) 2 (.bool quiet_2)) 3 (.map p1874)) 4 (.map p1872)) 62 fun a1882 w1883 =>
 stC w1883 a1697 (.pointer (some a1882)) fun w1884 =>
 (J11 a1697 w1884)))))))))) (
 fits_world  w1873 fun cs1885 w1886 =>
 samec 1 a3 w12 w1886 (
 samec 1 a1 w12 w1886 (
 both (
 mkMap Go.Proofs.Tryd.prog 59 none w1886 fun p1887 w1888 =>
 samec 1 a3 w12 w1888 (
 samec 1 a1 w12 w1888 (
 spl ltFu21 0 19 cs1754 fun cs1889 =>
 spl cs1889 19 2 cs1885 fun cs1890 =>
 samec 1 a3 w12 w1888 (
 samec 1 a1 w12 w1888 (
 mapPut Go.Proofs.Tryd.prog 59 (.map p1887) (.int .i64 (0 : Int)) (.agg cs1890) w1888 fun w1891 =>
 samec 1 a3 w12 w1891 (
 samec 1 a1 w12 w1891 (
 spl ltFu20 0 1 cs13 fun cs1892 =>
 newC w1891 (Array.setIfInBounds (Array.setIfInBounds (Array.setIfInBounds (Array.setIfInBounds cs1892 1 (.slice s14.a s14.n s14.c)) 2 (.bool quiet_2)) 3 (.map p1887)) 4 (.map p1872)) 62 fun a1893 w1894 =>
 stC w1894 a1697 (.pointer (some a1893)) fun w1895 =>
 (J11 a1697 w1895)))))))) (
 spl ltFu21 0 19 cs1754 fun cs1896 =>
 spl cs1896 19 2 cs1885 fun cs1897 =>
 samec 1 a3 w12 w1886 (
 samec 1 a1 w12 w1886 (
 mkMap Go.Proofs.Tryd.prog 59 none w1886 fun p1898 w1899 =>
 samec 1 a3 w12 w1899 (
 samec 1 a1 w12 w1899 (
 mapPut Go.Proofs.Tryd.prog 59 (.map p1898) (.int .i64 (0 : Int)) (.agg cs1897) w1899 fun w1900 =>
 samec 1 a3 w12 w1900 (
 samec 1 a1 w12 w1900 (
 spl ltFu20 0 1 cs13 fun cs1901 =>
 newC w1900 (Array.setIfInBounds (Array.setIfInBounds (Array.setIfInBounds (Array.setIfInBounds cs1901 1 (.slice s14.a s14.n s14.c)) 2 (.bool quiet_2)) 3 (.map p1898)) 4 (.map p1872)) 62 fun a1902 w1903 =>
 stC w1903 a1697 (.pointer (some a1902)) fun w1904 =>
 (J11 a1697 w1904)))))))))))))))))) (
 mkMap Go.Proofs.Tryd.prog 60 none w1698 fun p1905 w1906 =>
 samec 1 a3 w12 w1906 (
 samec 1 a1 w12 w1906 (
 both (
 mkMap Go.Proofs.Tryd.prog 59 none w1906 fun p1907 w1908 =>
 samec 1 a3 w12 w1908 (
 samec 1 a1 w12 w1908 (
 frame_Root  w1908 fun cs1909 w1910 =>
 samec 1 a3 w12 w1910 (
 samec 1 a1 w12 w1910 (
 fits_world  w1910 fun cs1911 w1912 =>
 samec 1 a3 w12 w1912 (
 samec 1 a1 w12 w1912 (
 spl ltFu21 0 19 cs1909 fun cs1913 =>
 spl cs1913 19 2 cs1911 fun cs1914 =>
 samec 1 a3 w12 w1912 (
 samec 1 a1 w12 w1912 (
 mapPut Go.Proofs.Tryd.prog 59 (.map p1907) (.int .i64 (0 : Int)) (.agg cs1914) w1912 fun w1915 =>
 samec 1 a3 w12 w1915 (
 samec 1 a1 w12 w1915 (
 spl ltFu20 0 1 cs13 fun cs1916 =>
 newC w1915 (Array.setIfInBounds (Array.setIfInBounds (Array.setIfInBounds (Array.setIfInBounds cs1916 1 (.slice s14.a s14.n s14.c)) 2 (.bool quiet_2)) 3 (.map p1907)) 4 (.map p1905)) 62 fun a1917 w1918 =>
 stC w1918 a1697 (.pointer (some a1917)) fun w1919 =>
 (J11 a1697 w1919)))))))))))) (
 frame_Root  w1906 fun cs1920 w1921 =>
 samec 1 a3 w12 w1921 (
 samec 1 a1 w12 w1921 (
 both (
 mkMap Go.Proofs.Tryd.prog 59 none w1921 fun p1922 w1923 =>
 samec 1 a3 w12 w1923 (
 samec 1 a1 w12 w1923 (
 fits_world  w1923 fun cs1924 w1925 =>
 samec 1 a3 w12 w1925 (
 samec 1 a1 w12 w1925 (
 spl ltFu21 0 19 cs1920 fun cs1926 =>
 spl cs1926 19 2 cs1924 fun cs1927 =>
 samec 1 a3 w12 w1925 (
 samec 1 a1 w12 w1925 (
 mapPut Go.Proofs.Tryd.prog 59 (.map p1922) (.int .i64 (0 : Int)) (.agg cs1927) w1925 fun w1928 =>
 samec 1 a3 w12 w1928 (
 samec 1 a1 w12 w1928 (
 spl ltFu20 0 1 cs13 fun cs1929 =>
 newC w1928 (Array.setIfInBounds (Array.setIfInBounds (Array.setIfInBounds (Array.setIfInBounds cs1929 1 (.slice s14.a s14.n s14.c)) 2 (.bool quiet_2)) 3 (.map p1922)) 4 (.map p1905)) 62 fun a1930 w1931 =>
 stC w1931 a1697 (.pointer (some a1930)) fun w1932 =>
 (J11 a1697 w1932)))))))))) (
 fits_world  w1921 fun cs1933 w1934 =>
 samec 1 a3 w12 w1934 (
 samec 1 a1 w12 w1934 (
 both (
 mkMap Go.Proofs.Tryd.prog 59 none w1934 fun p1935 w1936 =>
 samec 1 a3 w12 w1936 (
 samec 1 a1 w12 w1936 (
 spl ltFu21 0 19 cs1920 fun cs1937 =>
 spl cs1937 19 2 cs1933 fun cs1938 =>
 samec 1 a3 w12 w1936 (
 samec 1 a1 w12 w1936 (
 mapPut Go.Proofs.Tryd.prog 59 (.map p1935) (.int .i64 (0 : Int)) (.agg cs1938) w1936 fun w1939 =>
 samec 1 a3 w12 w1939 (
 samec 1 a1 w12 w1939 (
 spl ltFu20 0 1 cs13 fun cs1940 =>
 newC w1939 (Array.setIfInBounds (Array.setIfInBounds (Array.setIfInBounds (Array.setIfInBounds cs1940 1 (.slice s14.a s14.n s14.c)) 2 (.bool quiet_2)) 3 (.map p1935)) 4 (.map p1905)) 62 fun a1941 w1942 =>
 stC w1942 a1697 (.pointer (some a1941)) fun w1943 =>
 (J11 a1697 w1943)))))))) (
 spl ltFu21 0 19 cs1920 fun cs1944 =>
 spl cs1944 19 2 cs1933 fun cs1945 =>
 samec 1 a3 w12 w1934 (
 samec 1 a1 w12 w1934 (
 mkMap Go.Proofs.Tryd.prog 59 none w1934 fun p1946 w1947 =>
 samec 1 a3 w12 w1947 (
 samec 1 a1 w12 w1947 (
 mapPut Go.Proofs.Tryd.prog 59 (.map p1946) (.int .i64 (0 : Int)) (.agg cs1945) w1947 fun w1948 =>
 samec 1 a3 w12 w1948 (
 samec 1 a1 w12 w1948 (
 spl ltFu20 0 1 cs13 fun cs1949 =>
 newC w1948 (Array.setIfInBounds (Array.setIfInBounds (Array.setIfInBounds (Array.setIfInBounds cs1949 1 (.slice s14.a s14.n s14.c)) 2 (.bool quiet_2)) 3 (.map p1946)) 4 (.map p1905)) 62 fun a1950 w1951 =>
 stC w1951 a1697 (.pointer (some a1950)) fun w1952 =>
 (J11 a1697 w1952)))))))))))))))))))))))) fun a1953 w1954 =>
 fits_all_1 (.func (.func n_fits_all_2) #[] #[(.pointer (some a1953))]) a3 w1954 fun x1955 w1956 =>
 (k ((x1955.1, x1955.2).1, (x1955.1, x1955.2).2) w1956)))
theorem e_fits_all (check_Accepts : Array Value → World → ((Bool) → World → Prop) → Prop) (table_Check : Sl → World → ((Int) → World → Prop) → Prop) (frame_Root : World → ((Array Value) → World → Prop) → Prop) (fits_world : World → ((Array Value) → World → Prop) → Prop) (fits_all_1 : Value → Addr → World → ((Int × Int) → World → Prop) → Prop) (x : KT [.ag, .s, .b]) (w : World) (k : KT [(.i .i64), (.i .i64)] → World → Prop) : evFn Go.Proofs.Tryd.prog (orcOf [(n_check_Accepts, (fun args w c => unL [.ag] args fun x => check_Accepts x w fun r w => c (packV (valL [.b] r)) w)), (n_table_Check, (fun args w c => unL [.s] args fun x => table_Check x w fun r w => c (packV (valL [(.i .i64)] r)) w)), (n_frame_Root, (fun args w c => unL [] args fun x => frame_Root  w fun r w => c (packV (valL [.ag] r)) w)), (n_fits_world, (fun args w c => unL [] args fun x => fits_world  w fun r w => c (packV (valL [.ag] r)) w)), (n_fits_all_1, (fun args w c => unL [.raw, .a] args fun x => fits_all_1 x.1 x.2 w fun r w => c (packV (valL [(.i .i64), (.i .i64)] r)) w))]) 141276 [(8, [(9, .a)])] Go.Proofs.Tryd.f13 [(.i .i64), (.i .i64)] (valL [.ag, .s, .b] x) w k = fits_all_b check_Accepts table_Check frame_Root fits_world fits_all_1 x.1 x.2.1 x.2.2 w k := by kernel_rfl
def fits_all (p_0 : Array Value) (l_1 : Sl) (quiet_2 : Bool) (w : World) (k : (Int × Int) → World → Prop) : Prop := fits_all_b check_Accepts table_Check frame_Root fits_world fits_all_1 p_0 l_1 quiet_2 w k
def d_fits_all : Dec := fun args w c => unL [.ag, .s, .b] args fun x => fits_all x.1 x.2.1 x.2.2 w fun r w => c (packV (valL [(.i .i64), (.i .i64)] r)) w
theorem s_fits_all : Sound Go.Proofs.Tryd.prog n_fits_all d_fits_all :=
 sound_of (mask := 141276) (h := [(8, [(9, .a)])]) (ds := [(n_check_Accepts, d_check_Accepts), (n_table_Check, d_table_Check), (n_frame_Root, d_frame_Root), (n_fits_world, d_fits_world), (n_fits_all_1, d_fits_all_1)]) mixed Go.Proofs.Tryd.func13 ⟨s_check_Accepts, s_table_Check, s_frame_Root, s_fits_world, s_fits_all_1, trivial⟩
 [.ag, .s, .b] [(.i .i64), (.i .i64)] (by kernel_rfl) (fun x w k => fits_all x.1 x.2.1 x.2.2 w k) (fun x w k => e_fits_all check_Accepts table_Check frame_Root fits_world fits_all_1 x w k)
end Go.Proofs.YtgkfbagclkjilaaDoor
namespace Go.Proofs.YtgkfbagclkjilaaDoor
open Go Go.Ev
def fits_Fits_b (fits_all : Array Value → Sl → Bool → World → ((Int × Int) → World → Prop) → Prop) (p_0 : Array Value) (l_1 : Sl) (w : World) (k : (Int × Int) → World → Prop) : Prop :=
 newC w p_0 24 fun a1 w2 =>
 ldA 1 w2 a1 fun cs3 =>
 fits_all cs3 l_1 false w2 fun x4 w5 =>
 (k ((x4.1, x4.2).1, (x4.1, x4.2).2) w5)
theorem e_fits_Fits (fits_all : Array Value → Sl → Bool → World → ((Int × Int) → World → Prop) → Prop) (x : KT [.ag, .s]) (w : World) (k : KT [(.i .i64), (.i .i64)] → World → Prop) : evFn Go.Proofs.Tryd.prog (orcOf [(n_fits_all, (fun args w c => unL [.ag, .s, .b] args fun x => fits_all x.1 x.2.1 x.2.2 w fun r w => c (packV (valL [(.i .i64), (.i .i64)] r)) w))]) 54 [] Go.Proofs.Tryd.f9 [(.i .i64), (.i .i64)] (valL [.ag, .s] x) w k = fits_Fits_b fits_all x.1 x.2 w k := by kernel_rfl
def fits_Fits (p_0 : Array Value) (l_1 : Sl) (w : World) (k : (Int × Int) → World → Prop) : Prop := fits_Fits_b fits_all p_0 l_1 w k
def d_fits_Fits : Dec := fun args w c => unL [.ag, .s] args fun x => fits_Fits x.1 x.2 w fun r w => c (packV (valL [(.i .i64), (.i .i64)] r)) w
theorem s_fits_Fits : Sound Go.Proofs.Tryd.prog n_fits_Fits d_fits_Fits :=
 sound_of (mask := 54) (h := []) (ds := [(n_fits_all, d_fits_all)]) mixed Go.Proofs.Tryd.func9 ⟨s_fits_all, trivial⟩
 [.ag, .s] [(.i .i64), (.i .i64)] (by kernel_rfl) (fun x w k => fits_Fits x.1 x.2 w k) (fun x w k => e_fits_Fits fits_all x w k)
def fits_Quiet_b (fits_all : Array Value → Sl → Bool → World → ((Int × Int) → World → Prop) → Prop) (p_0 : Array Value) (l_1 : Sl) (w : World) (k : (Int × Int) → World → Prop) : Prop :=
 newC w p_0 24 fun a1 w2 =>
 ldA 1 w2 a1 fun cs3 =>
 fits_all cs3 l_1 true w2 fun x4 w5 =>
 (k ((x4.1, x4.2).1, (x4.1, x4.2).2) w5)
theorem e_fits_Quiet (fits_all : Array Value → Sl → Bool → World → ((Int × Int) → World → Prop) → Prop) (x : KT [.ag, .s]) (w : World) (k : KT [(.i .i64), (.i .i64)] → World → Prop) : evFn Go.Proofs.Tryd.prog (orcOf [(n_fits_all, (fun args w c => unL [.ag, .s, .b] args fun x => fits_all x.1 x.2.1 x.2.2 w fun r w => c (packV (valL [(.i .i64), (.i .i64)] r)) w))]) 54 [] Go.Proofs.Tryd.f8 [(.i .i64), (.i .i64)] (valL [.ag, .s] x) w k = fits_Quiet_b fits_all x.1 x.2 w k := by kernel_rfl
def fits_Quiet (p_0 : Array Value) (l_1 : Sl) (w : World) (k : (Int × Int) → World → Prop) : Prop := fits_Quiet_b fits_all p_0 l_1 w k
def d_fits_Quiet : Dec := fun args w c => unL [.ag, .s] args fun x => fits_Quiet x.1 x.2 w fun r w => c (packV (valL [(.i .i64), (.i .i64)] r)) w
theorem s_fits_Quiet : Sound Go.Proofs.Tryd.prog n_fits_Quiet d_fits_Quiet :=
 sound_of (mask := 54) (h := []) (ds := [(n_fits_all, d_fits_all)]) mixed Go.Proofs.Tryd.func8 ⟨s_fits_all, trivial⟩
 [.ag, .s] [(.i .i64), (.i .i64)] (by kernel_rfl) (fun x w k => fits_Quiet x.1 x.2 w k) (fun x w k => e_fits_Quiet fits_all x w k)
def pelotonlaw08_awake_b (fits_Fits : Array Value → Sl → World → ((Int × Int) → World → Prop) → Prop) (fits_Quiet : Array Value → Sl → World → ((Int × Int) → World → Prop) → Prop)  (w : World) (k : (Bool) → World → Prop) : Prop :=
 spl #[(.int .i64 (0 : Int)), (.int .i64 (0 : Int)), (.int .i64 (0 : Int)), (.int .i64 (0 : Int)), (.int .i64 (0 : Int)), (.int .i64 (0 : Int)), (.int .i64 (0 : Int)), (.int .i64 (0 : Int)), (.int .i64 (0 : Int)), (.int .i64 (0 : Int)), (.int .i64 (0 : Int)), (.int .i64 (0 : Int)), (.int .i64 (0 : Int)), (.int .i64 (0 : Int)), (.int .i64 (0 : Int))] 0 5 #[(.int .i64 (8 : Int)), (.int .i64 (1 : Int)), (.int .i64 (0 : Int)), (.int .i64 (0 : Int)), (.int .i64 (1 : Int))] fun cs1 =>
 spl cs1 5 5 #[(.int .i64 (9 : Int)), (.int .i64 (0 : Int)), (.int .i64 (1 : Int)), (.int .i64 (0 : Int)), (.int .i64 (0 : Int))] fun cs2 =>
 spl cs2 10 5 #[(.int .i64 (16 : Int)), (.int .i64 (0 : Int)), (.int .i64 (0 : Int)), (.int .i64 (0 : Int)), (.int .i64 (0 : Int))] fun cs3 =>
 newC w cs3 39 fun a4 w5 =>
 spl #[(.int .i64 (0 : Int)), (.int .i64 (0 : Int)), (.int .i64 (0 : Int)), (.int .i64 (0 : Int)), (.int .i64 (0 : Int))] 0 5 #[(.int .i64 (16 : Int)), (.int .i64 (0 : Int)), (.int .i64 (0 : Int)), (.int .i64 (0 : Int)), (.int .i64 (0 : Int))] fun cs6 =>
 newC w5 cs6 39 fun a7 w8 =>
 spl #[(.int .i64 (0 : Int)), (.slice none 0 0), (.int .i64 (0 : Int)), (.slice none 0 0)] 0 2 #[(.int .i64 (0 : Int)), (.slice (some a4) 3 3)] fun cs9 =>
 spl cs9 2 2 #[(.int .i64 (0 : Int)), (.slice (some a7) 1 1)] fun cs10 =>
 newC w8 cs10 42 fun a11 w12 =>
 newC w12 #[(.slice none 0 0)] 24 fun a13 w14 =>
 stA 1 w14 a13 #[(.slice (some a11) 2 2)] fun w15 =>
 spl #[(.int .i64 (0 : Int)), (.int .i64 (0 : Int)), (.int .i64 (0 : Int)), (.int .i64 (0 : Int)), (.int .i64 (0 : Int)), (.int .i64 (0 : Int)), (.string (ByteArray.mk #[]))] 0 7 #[(.int .i64 (-(1 : Int))), (.int .i64 (0 : Int)), (.int .i64 (0 : Int)), (.int .i64 (4 : Int)), (.int .i64 (0 : Int)), (.int .i64 (0 : Int)), (.string (ByteArray.mk #[]))] fun cs16 =>
 newC w15 cs16 34 fun a17 w18 =>
 ldA 1 w18 a13 fun cs19 =>
 fits_Fits cs19 (Sl.mk (some a17) 1 1) w18 fun x20 w21 =>
 ldA 1 w21 a13 fun cs22 =>
 fits_Quiet cs22 (Sl.mk (some a17) 1 1) w21 fun x23 w24 =>
 ldA 1 w24 a13 fun cs25 =>
 spl #[(.int .i64 (0 : Int)), (.int .i64 (0 : Int)), (.int .i64 (0 : Int)), (.int .i64 (0 : Int)), (.int .i64 (0 : Int)), (.int .i64 (0 : Int)), (.string (ByteArray.mk #[])), (.int .i64 (0 : Int)), (.int .i64 (0 : Int)), (.int .i64 (0 : Int)), (.int .i64 (0 : Int)), (.int .i64 (0 : Int)), (.int .i64 (0 : Int)), (.string (ByteArray.mk #[]))] 0 7 #[(.int .i64 (-(1 : Int))), (.int .i64 (0 : Int)), (.int .i64 (0 : Int)), (.int .i64 (1 : Int)), (.int .i64 (0 : Int)), (.int .i64 (1 : Int)), (.string (ByteArray.mk #[]))] fun cs26 =>
 spl cs26 7 7 #[(.int .i64 (0 : Int)), (.int .i64 (0 : Int)), (.int .i64 (1 : Int)), (.int .i64 (0 : Int)), (.int .i64 (0 : Int)), (.int .i64 (0 : Int)), (.string (ByteArray.mk #[]))] fun cs27 =>
 newC w24 cs27 34 fun a28 w29 =>
 fits_Quiet cs25 (Sl.mk (some a28) 2 2) w29 fun x30 w31 =>
 (k ((((x20.1, x20.2).2 == (0 : Int)) && ((x23.1, x23.2).2 == (25 : Int))) && ((x30.1, x30.2).2 == (0 : Int))) w31)
theorem e_pelotonlaw08_awake (fits_Fits : Array Value → Sl → World → ((Int × Int) → World → Prop) → Prop) (fits_Quiet : Array Value → Sl → World → ((Int × Int) → World → Prop) → Prop) (x : KT []) (w : World) (k : KT [.b] → World → Prop) : evFn Go.Proofs.Tryd.prog (orcOf [(n_fits_Fits, (fun args w c => unL [.ag, .s] args fun x => fits_Fits x.1 x.2 w fun r w => c (packV (valL [(.i .i64), (.i .i64)] r)) w)), (n_fits_Quiet, (fun args w c => unL [.ag, .s] args fun x => fits_Quiet x.1 x.2 w fun r w => c (packV (valL [(.i .i64), (.i .i64)] r)) w))]) 343 [] Go.Proofs.Tryd.f7 [.b] (valL [] x) w k = pelotonlaw08_awake_b fits_Fits fits_Quiet  w k := by kernel_rfl
def pelotonlaw08_awake  (w : World) (k : (Bool) → World → Prop) : Prop := pelotonlaw08_awake_b fits_Fits fits_Quiet  w k
def d_pelotonlaw08_awake : Dec := fun args w c => unL [] args fun x => pelotonlaw08_awake  w fun r w => c (packV (valL [.b] r)) w
theorem s_pelotonlaw08_awake : Sound Go.Proofs.Tryd.prog n_pelotonlaw08_awake d_pelotonlaw08_awake :=
 sound_of (mask := 343) (h := []) (ds := [(n_fits_Fits, d_fits_Fits), (n_fits_Quiet, d_fits_Quiet)]) mixed Go.Proofs.Tryd.func7 ⟨s_fits_Fits, s_fits_Quiet, trivial⟩
 [] [.b] (by kernel_rfl) (fun x w k => pelotonlaw08_awake  w k) (fun x w k => e_pelotonlaw08_awake fits_Fits fits_Quiet x w k)
def pelotonlaw08_FitsBegins_b (pelotonlaw02_Few : Array Value → World → ((Bool) → World → Prop) → Prop) (pelotonlaw08_awake : World → ((Bool) → World → Prop) → Prop) (check_Accepts : Array Value → World → ((Bool) → World → Prop) → Prop) (fits_Fits : Array Value → Sl → World → ((Int × Int) → World → Prop) → Prop) (fits_Quiet : Array Value → Sl → World → ((Int × Int) → World → Prop) → Prop) (p_0 : Array Value) (w : World) (k : (Bool) → World → Prop) : Prop :=
 newC w p_0 24 fun a1 w2 =>
 ldA 1 w2 a1 fun cs3 =>
 pelotonlaw02_Few cs3 w2 fun b4 w5 =>
 iteB (!b4) (
 pelotonlaw08_awake  w5 fun b6 w7 =>
 (k b6 w7)) (
 ldA 1 w5 a1 fun cs8 =>
 check_Accepts cs8 w5 fun b9 w10 =>
 joinP (S := (Int × Int)) (fun J11 =>
 iteB (!b9) (
 (J11 ((24 : Int), (24 : Int)) w10)) (
 (J11 ((0 : Int), (25 : Int)) w10))) fun x12 w13 =>
 ldA 1 w13 a1 fun cs14 =>
 spl #[(.int .i64 (0 : Int)), (.int .i64 (0 : Int)), (.int .i64 (0 : Int)), (.int .i64 (0 : Int)), (.int .i64 (0 : Int)), (.int .i64 (0 : Int)), (.string (ByteArray.mk #[]))] 0 7 #[(.int .i64 (-(1 : Int))), (.int .i64 (0 : Int)), (.int .i64 (0 : Int)), (.int .i64 (0 : Int)), (.int .i64 (0 : Int)), (.int .i64 (0 : Int)), (.string (ByteArray.mk #[]))] fun cs15 =>
 newC w13 cs15 34 fun a16 w17 =>
 fits_Fits cs14 (Sl.mk (some a16) 1 1) w17 fun x18 w19 =>
 ldA 1 w19 a1 fun cs20 =>
 spl #[(.int .i64 (0 : Int)), (.int .i64 (0 : Int)), (.int .i64 (0 : Int)), (.int .i64 (0 : Int)), (.int .i64 (0 : Int)), (.int .i64 (0 : Int)), (.string (ByteArray.mk #[]))] 0 7 #[(.int .i64 (-(1 : Int))), (.int .i64 (0 : Int)), (.int .i64 (0 : Int)), (.int .i64 (1 : Int)), (.int .i64 (0 : Int)), (.int .i64 (0 : Int)), (.string (ByteArray.mk #[]))] fun cs21 =>
 newC w19 cs21 34 fun a22 w23 =>
 fits_Quiet cs20 (Sl.mk (some a22) 1 1) w23 fun x24 w25 =>
 ldA 1 w25 a1 fun cs26 =>
 spl #[(.int .i64 (0 : Int)), (.int .i64 (0 : Int)), (.int .i64 (0 : Int)), (.int .i64 (0 : Int)), (.int .i64 (0 : Int)), (.int .i64 (0 : Int)), (.string (ByteArray.mk #[]))] 0 7 #[(.int .i64 (-(1 : Int))), (.int .i64 (0 : Int)), (.int .i64 (0 : Int)), (.int .i64 (4 : Int)), (.int .i64 (0 : Int)), (.int .i64 (0 : Int)), (.string (ByteArray.mk #[]))] fun cs27 =>
 newC w25 cs27 34 fun a28 w29 =>
 fits_Fits cs26 (Sl.mk (some a28) 1 1) w29 fun x30 w31 =>
 ldA 1 w31 a1 fun cs32 =>
 spl #[(.int .i64 (0 : Int)), (.int .i64 (0 : Int)), (.int .i64 (0 : Int)), (.int .i64 (0 : Int)), (.int .i64 (0 : Int)), (.int .i64 (0 : Int)), (.string (ByteArray.mk #[]))] 0 7 #[(.int .i64 (-(1 : Int))), (.int .i64 (0 : Int)), (.int .i64 (0 : Int)), (.int .i64 (4 : Int)), (.int .i64 (0 : Int)), (.int .i64 (0 : Int)), (.string (ByteArray.mk #[]))] fun cs33 =>
 newC w31 cs33 34 fun a34 w35 =>
 fits_Quiet cs32 (Sl.mk (some a34) 1 1) w35 fun x36 w37 =>
 iteB (((((x18.1, x18.2).2 == x12.1) && ((x24.1, x24.2).2 == x12.1)) && ((x30.1, x30.2).2 == x12.1)) && ((x36.1, x36.2).2 == x12.2)) (
 pelotonlaw08_awake  w37 fun b38 w39 =>
 (k b38 w39)) (
 (k false w37)))
theorem e_pelotonlaw08_FitsBegins (pelotonlaw02_Few : Array Value → World → ((Bool) → World → Prop) → Prop) (pelotonlaw08_awake : World → ((Bool) → World → Prop) → Prop) (check_Accepts : Array Value → World → ((Bool) → World → Prop) → Prop) (fits_Fits : Array Value → Sl → World → ((Int × Int) → World → Prop) → Prop) (fits_Quiet : Array Value → Sl → World → ((Int × Int) → World → Prop) → Prop) (x : KT [.ag]) (w : World) (k : KT [.b] → World → Prop) : evFn Go.Proofs.Tryd.prog (orcOf [(n_pelotonlaw02_Few, (fun args w c => unL [.ag] args fun x => pelotonlaw02_Few x w fun r w => c (packV (valL [.b] r)) w)), (n_pelotonlaw08_awake, (fun args w c => unL [] args fun x => pelotonlaw08_awake  w fun r w => c (packV (valL [.b] r)) w)), (n_check_Accepts, (fun args w c => unL [.ag] args fun x => check_Accepts x w fun r w => c (packV (valL [.b] r)) w)), (n_fits_Fits, (fun args w c => unL [.ag, .s] args fun x => fits_Fits x.1 x.2 w fun r w => c (packV (valL [(.i .i64), (.i .i64)] r)) w)), (n_fits_Quiet, (fun args w c => unL [.ag, .s] args fun x => fits_Quiet x.1 x.2 w fun r w => c (packV (valL [(.i .i64), (.i .i64)] r)) w))]) 562526 [(7, [(3, (.i .i64)), (4, (.i .i64))])] Go.Proofs.Tryd.f5 [.b] (valL [.ag] x) w k = pelotonlaw08_FitsBegins_b pelotonlaw02_Few pelotonlaw08_awake check_Accepts fits_Fits fits_Quiet x w k := by kernel_rfl
def pelotonlaw08_FitsBegins (p_0 : Array Value) (w : World) (k : (Bool) → World → Prop) : Prop := pelotonlaw08_FitsBegins_b pelotonlaw02_Few pelotonlaw08_awake check_Accepts fits_Fits fits_Quiet p_0 w k
def d_pelotonlaw08_FitsBegins : Dec := fun args w c => unL [.ag] args fun x => pelotonlaw08_FitsBegins x w fun r w => c (packV (valL [.b] r)) w
theorem s_pelotonlaw08_FitsBegins : Sound Go.Proofs.Tryd.prog n_pelotonlaw08_FitsBegins d_pelotonlaw08_FitsBegins :=
 sound_of (mask := 562526) (h := [(7, [(3, (.i .i64)), (4, (.i .i64))])]) (ds := [(n_pelotonlaw02_Few, d_pelotonlaw02_Few), (n_pelotonlaw08_awake, d_pelotonlaw08_awake), (n_check_Accepts, d_check_Accepts), (n_fits_Fits, d_fits_Fits), (n_fits_Quiet, d_fits_Quiet)]) mixed Go.Proofs.Tryd.func5 ⟨s_pelotonlaw02_Few, s_pelotonlaw08_awake, s_check_Accepts, s_fits_Fits, s_fits_Quiet, trivial⟩
 [.ag] [.b] (by kernel_rfl) (fun x w k => pelotonlaw08_FitsBegins x w k) (fun x w k => e_pelotonlaw08_FitsBegins pelotonlaw02_Few pelotonlaw08_awake check_Accepts fits_Fits fits_Quiet x w k)
end Go.Proofs.YtgkfbagclkjilaaDoor
namespace Go.Ev
open Go
abbrev BI (w : World) (g : Nat) (l : List Int) : Prop := Blk w g (ints l).toArray
abbrev agI (l : List Int) : Array Value := (ints l).toArray
theorem ints_get {l : List Int} {o : Nat} (h : o < l.length) : (agI l)[o]? = some (.int .i64 (l.getD o 0)) := by
  simp [agI, ints, List.getD_eq_getElem?_getD, h]
theorem BI.cell {w : World} {g : Nat} {l : List Int} (h : BI w g l) {o : Nat} (ho : o < l.length) : w.cell? ⟨g, o, none⟩ = some (.int .i64 (l.getD o 0)) := by
  rw [Blk.cell h, ints_get ho]
theorem ldP_I {w : World} {g o : Nat} {l : List Int} {c : Int → Prop} (h : BI w g l) (ho : o < l.length) (hc : c (l.getD o 0)) : ldI .i64 w ⟨g, o, none⟩ c := ldI_i (h.cell ho) hc
theorem ints_set {l : List Int} {o : Nat} {x : Int} : (agI l).setIfInBounds o (.int .i64 x) = agI (l.set o x) := by
  simp [agI, ints, List.map_set]
theorem stC_I {w : World} {g o : Nat} {l : List Int} {x : Int} {c : World → Prop} (h : BI w g l) (ho : o < l.length) (hc : ∀ w', BI w' g (l.set o x) → w'.heap.size = w.heap.size → Only (fun k => k = g) w w' → c w') : stC w ⟨g, o, none⟩ (.int .i64 x) c :=
  stC_i rfl h (by simpa [agI, ints] using ho) fun w' hb hs ho => hc w' (by rw [ints_set] at hb; exact hb) hs ho
theorem blk_eq {w : World} {g : Nat} {a b : Array Value} (h : Blk w g a) (e : ∀ j : Nat, a[j]? = b[j]?) : Blk w g b := by
  have : a = b := by
    obtain ⟨a⟩ := a; obtain ⟨b⟩ := b
    congr 1
    exact List.ext_getElem? fun j => by simpa using e j
  rwa [← this]
theorem stA_I {w : World} {g n : Nat} {l : List Int} {cs : Array Value} {c : World → Prop} (h : Blk w g cs) (hs : cs.size = n) (hl : l.length = n) (hc : ∀ w', BI w' g l → w'.heap.size = w.heap.size → Only (fun k => k = g) w w' → c w') : stA n w ⟨g, 0, none⟩ (agI l) c := by
  refine stA_i h (by simpa [agI, ints] using hl) (by omega) (fun v hv => one_ints v (by simpa [agI] using hv)) fun w' cs' hb hz hk hv ho hs' => hc w' (blk_eq hb fun j => ?_) hs' ho
  by_cases hj : j < n
  · have := hv j hj; rwa [Nat.zero_add] at this
  · rw [Array.getElem?_eq_none (by omega), Array.getElem?_eq_none (by simp [agI, ints]; omega)]
theorem stA_P {w : World} {g n o : Nat} {l l' : List Int} {c : World → Prop} (h : BI w g l) (hl : l'.length = n) (ho : o + n ≤ l.length) (hc : ∀ w', BI w' g (l.take o ++ (l' ++ l.drop (o + n))) → w'.heap.size = w.heap.size → Only (fun k => k = g) w w' → c w') : stA n w ⟨g, o, none⟩ (agI l') c := by
  refine stA_i h (by simpa [agI, ints] using hl) (by simpa [agI, ints] using ho) (fun v hv => one_ints v (by simpa [agI] using hv)) fun w' cs' hb hz hk hv hon hs' => hc w' (blk_eq hb fun j => ?_) hs' hon
  have hz' : cs'.size = l.length := by simpa [agI, ints] using hz
  by_cases h1 : j < o
  · rw [hk j (.inl h1)]
    simp only [agI, ints, List.getElem?_toArray, List.getElem?_map]
    rw [List.getElem?_append_left (by simp; omega), List.getElem?_take_of_lt h1]
  · by_cases h2 : j < o + n
    · have := hv (j - o) (by omega)
      rw [show o + (j - o) = j by omega] at this
      rw [this]
      simp only [agI, ints, List.getElem?_toArray, List.getElem?_map]
      rw [List.getElem?_append_right (by simp; omega), List.getElem?_append_left (by simp; omega)]
      congr 2
      simp; omega
    · rw [hk j (.inr (by omega))]
      simp only [agI, ints, List.getElem?_toArray, List.getElem?_map]
      rw [List.getElem?_append_right (by simp; omega), List.getElem?_append_right (by simp; omega), List.getElem?_drop]
      congr 2
      simp; omega
theorem ldA_I {w : World} {g n : Nat} {l : List Int} {c : Array Value → Prop} (h : BI w g l) (hl : l.length = n) (hc : c (agI l)) : ldA n w ⟨g, 0, none⟩ c := by
  refine ldA_i h (by simp [agI, ints]; omega) ?_
  have : ((agI l).toList.drop 0).take n = ints l := by simp [agI, ints, List.take_of_length_le, hl]
  rw [this]; exact hc
theorem ldA_P {w : World} {g n o : Nat} {l : List Int} {c : Array Value → Prop} (h : BI w g l) (hl : o + n ≤ l.length) (hc : c (agI ((l.drop o).take n))) : ldA n w ⟨g, o, none⟩ c := by
  refine ldA_i h (by simpa [agI, ints] using hl) ?_
  have : ((agI l).toList.drop o).take n = ints ((l.drop o).take n) := by simp [agI, ints, List.map_take, List.map_drop]
  rw [this]; exact hc
theorem ixA_I {l : List Int} {n : Nat} {i : Int} {c : Value → Prop} (h0 : 0 ≤ i) (h1 : i < n) (hl : l.length = n) (hc : c (.int .i64 (l.getD i.toNat 0))) : ixA (agI l) n i c := by
  refine ⟨⟨h0, h1⟩, ?_⟩
  unfold ptA
  rw [ints_get (by omega)]
  exact hc
theorem toI_i {n : Int} {c : Int → Prop} (h : c n) : toI .i64 (.int .i64 n) c := h
theorem samec_B {g o n : Nat} {w w' : World} {cs : Array Value} {c : Prop} (h : Blk w g cs) (h' : Blk w' g cs) (hc : c) : samec n ⟨g, o, none⟩ w w' c :=
  ⟨fun k _ => by rw [add_mk, h.cell, h'.cell], hc⟩
theorem eqOffs_ints : ∀ (os : List Nat) (xs ys : List Int), (∀ o ∈ os, o < xs.length ∧ o < ys.length) → eqOffs (agI xs) (agI ys) (os.map fun o => (o, 0)) = some (os.all fun o => xs.getD o 0 == ys.getD o 0)
  | [], _, _, _ => rfl
  | o :: os, xs, ys, h => by
    have h1 := h o (by simp)
    simp only [List.map_cons, eqOffs, ints_get h1.1, ints_get h1.2, eqC, if_true]
    rw [eqOffs_ints os xs ys fun o ho => h o (by simp [ho])]
    simp
theorem eqA_I {n : Nat} {xs ys : List Int} {c : Bool → Prop} (hx : xs.length = n) (hy : ys.length = n) (hc : c (decide (xs = ys))) : eqA ((List.range n).map fun o => (o, 0)) (agI xs) (agI ys) c := by
  unfold eqA
  rw [eqOffs_ints _ _ _ fun o ho => by simp at ho; omega]
  have e : ((List.range n).all fun o => xs.getD o 0 == ys.getD o 0) = decide (xs = ys) := by
    rw [Bool.eq_iff_iff, decide_eq_true_eq, List.all_eq_true]
    constructor
    · intro h
      apply List.ext_getElem?
      intro j
      by_cases hj : j < n
      · have := h j (by simpa using hj)
        simp only [List.getD_eq_getElem?_getD, beq_iff_eq] at this
        rw [List.getElem?_eq_getElem (by omega), List.getElem?_eq_getElem (by omega)] at this ⊢
        simpa using this
      · rw [List.getElem?_eq_none (by omega), List.getElem?_eq_none (by omega)]
    · rintro rfl o _; simp
  rw [e]; exact hc
theorem getD_set_ne {l : List Int} {i j : Nat} {x d : Int} (h : i ≠ j) : (l.set i x).getD j d = l.getD j d := by
  simp [List.getD_eq_getElem?_getD, List.getElem?_set_ne h]
theorem take_set_self (L : List Value) (n : Nat) (v : Value) : (L.set n v).take n = L.take n := by
  apply List.ext_getElem?
  intro j
  rw [List.getElem?_take, List.getElem?_take]
  split
  · rw [List.getElem?_set_ne (by omega)]
  · rfl
theorem drop_set_lt (L : List Value) (n m : Nat) (v : Value) (h : n < m) : (L.set n v).drop m = L.drop m := by
  apply List.ext_getElem?
  intro j
  rw [List.getElem?_drop, List.getElem?_drop, List.getElem?_set_ne (by omega)]
theorem fold_setL (off : Nat) : ∀ (cs : List Value) (k : Nat) (L : List Value), off + k + cs.length ≤ L.length →
    (cs.zipIdx k).foldl (fun (a : List Value) (x : Value × Nat) => a.set (off + x.2) x.1) L = L.take (off + k) ++ (cs ++ L.drop (off + k + cs.length))
  | [], k, L, h => by simp
  | v :: cs, k, L, h => by
    simp only [List.length_cons] at h
    rw [List.zipIdx_cons, List.foldl_cons, fold_setL off cs (k + 1) _ (by simp; omega)]
    simp only [List.length_cons]
    rw [drop_set_lt _ _ _ _ (by omega), show off + (k + 1) = off + k + 1 by omega, List.take_add_one, take_set_self, List.getElem?_set_self (by omega)]
    rw [show off + k + 1 + cs.length = off + k + (cs.length + 1) by omega]
    simp
theorem fold_toList (off : Nat) : ∀ (l : List (Value × Nat)) (acc : Array Value), (l.foldl (fun (a : Array Value) (x : Value × Nat) => a.setIfInBounds (off + x.2) x.1) acc).toList = l.foldl (fun (a : List Value) (x : Value × Nat) => a.set (off + x.2) x.1) acc.toList
  | [], _ => rfl
  | x :: l, acc => by rw [List.foldl_cons, List.foldl_cons, fold_toList off l]; simp
theorem fold_set (off : Nat) (cs : List Value) (acc : Array Value) (h : off + cs.length ≤ acc.size) :
    (cs.zipIdx 0).foldl (fun (a : Array Value) (x : Value × Nat) => a.setIfInBounds (off + x.2) x.1) acc = (acc.toList.take off ++ (cs ++ acc.toList.drop (off + cs.length))).toArray := by
  have h1 := fold_toList off (cs.zipIdx 0) acc
  rw [fold_setL off cs 0 _ (by simpa using h), Nat.add_zero] at h1
  rw [← h1]
theorem spl_V {acc cs : List Value} {off size : Nat} {c : Array Value → Prop} (r : List Value) (h : cs.length = size) (ho : off + size ≤ acc.length) (hr : acc.take off ++ (cs ++ acc.drop (off + size)) = r) (hc : c r.toArray) : spl acc.toArray off size cs.toArray c := by
  refine ⟨by simp [h], ?_⟩
  have := fold_set off cs acc.toArray (by simp; omega)
  rw [← Array.foldl_toList]
  have e : cs.toArray.zipIdx.toList = cs.zipIdx 0 := by simp
  rw [e]
  have e2 : (fun (cs : Array Value) (x : Value × Nat) => cs.setIfInBounds (off + x.2) x.1) = fun (cs : Array Value) (x : Value × Nat) => match x with | (x, j) => cs.setIfInBounds (off + j) x := by
    funext cs x; cases x; rfl
  rw [e2] at this
  rw [this]
  have e3 : acc.toArray.toList = acc := rfl
  rw [e3, h, hr]; exact hc
theorem spl_i {acc cs : Array Value} {off size : Nat} {c : Array Value → Prop} (r : Array Value) (h : cs.size = size) (hr : cs.zipIdx.foldl (fun cs (x, j) => cs.setIfInBounds (off + j) x) acc = r) (hc : c r) : spl acc off size cs c := by
  subst hr; exact ⟨h, hc⟩
theorem ldV_i {w : World} {a : Addr} {v : Value} {c : Value → Prop} (h : w.cell? a = some v) (hc : c v) : ldV w a c := by
  simp only [ldV, rd, h]; exact hc
theorem ixS_b {g o n c sz : Nat} {i : Int} {k : Addr → Prop} (h0 : 0 ≤ i) (h1 : i < n) (hk : k ⟨g, o + i.toNat * sz, none⟩) : ixS ⟨some ⟨g, o, none⟩, n, c⟩ i sz k := ⟨⟨h0, h1⟩, by rw [add_mk]; exact hk⟩
end Go.Ev
namespace Go.Proofs.YtgkfbagclkjilaaDoor.Fr
open Go Go.Ev Go.Proofs
def fTo (f : List Int) (pc : Int) : List Int := (f.set 1 pc).set 18 (IntKind.i64.wrap ((f.set 1 pc).getD 18 0 + 1))
def fOn (f : List Int) : List Int := fTo f (IntKind.i64.wrap (f.getD 1 0 + 1))
theorem fTo_len {f : List Int} {pc : Int} : (fTo f pc).length = f.length := by simp [fTo]
theorem fOn_len {f : List Int} : (fOn f).length = f.length := fTo_len
abbrev Z (n : Nat) : List Int := List.replicate n 0
theorem to_s {f : List Int} {pc : Int} {w : World} {k : Array Value → World → Prop} (hf : f.length = 19) (hk : ∀ w', Ext w w' → k (agI (fTo f pc)) w') : frame_Frame_to (agI f) pc w k := by
  unfold frame_Frame_to
  refine newC_i fun g1 w1 hg1 hs1 hb1 he1 => newC_i fun g2 w2 hg2 hs2 hb2 he2 => ?_
  have hb1' : BI w2 g1 f := hb1.ext he2
  simp only [add_mk, Nat.zero_add]
  refine stC_I hb1' (by omega) fun w3 hb3 hs3 ho3 => ?_
  refine ldP_I hb3 (by simp; omega) ?_
  refine stC_I hb3 (by simp; omega) fun w4 hb4 hs4 ho4 => ?_
  refine ldA_I hb4 (by simp [hf]) ?_
  have hb2' := (hb2.keep ho3 (by omega)).keep ho4 (by omega)
  refine stA_I hb2' rfl (by simp [hf]) fun w5 hb5 hs5 ho5 => ldA_I hb5 (by simp [hf]) ?_
  exact hk _ ((((he1.trans he2).then ho3 fun g hg => by omega).then ho4 fun g hg => by omega).then ho5 fun g hg => by have := he1.size; omega)
theorem on_s {f : List Int} {w : World} {k : Array Value → World → Prop} (hf : f.length = 19) (hk : ∀ w', Ext w w' → k (agI (fOn f)) w') : frame_Frame_Passed (agI f) w k := by
  unfold frame_Frame_Passed frame_Frame_Passed_b
  refine newC_i fun g1 w1 hg1 hs1 hb1 he1 => newC_i fun g2 w2 hg2 hs2 hb2 he2 => ?_
  have hb1' : BI w2 g1 f := hb1.ext he2
  simp only [add_mk, Nat.zero_add]
  refine ldA_I hb1' hf (ldP_I hb1' (by omega) (to_s hf fun w3 he3 => ?_))
  refine stA_I (hb2.ext he3) rfl (by simp [fTo_len, hf]) fun w5 hb5 hs5 ho5 => ldA_I hb5 (by simp [fTo_len, hf]) ?_
  exact hk _ (((he1.trans he2).trans he3).then ho5 fun g hg => by have := he1.size; omega)
theorem list19 {l : List Int} (h : l.length = 19) : ∃ a b c d e f g h i j k m n o p q r s t, l = [a, b, c, d, e, f, g, h, i, j, k, m, n, o, p, q, r, s, t] := by
  match l, h with
  | [a, b, c, d, e, f, g, h, i, j, k, m, n, o, p, q, r, s, t], _ => exact ⟨a, b, c, d, e, f, g, h, i, j, k, m, n, o, p, q, r, s, t, rfl⟩
def fRoot : List Int := [0, 0, 0, 0, 0, 0, 0, 0, 0, 0, -1, -1, -1, -1, -1, -1, -1, -1, 0]
theorem rep_succ {i : Nat} (h : i < 8) : (List.replicate 10 (0 : Int) ++ (List.replicate i (-1) ++ List.replicate (9 - i) 0)).set (10 + i) (-1) = List.replicate 10 0 ++ (List.replicate (i + 1) (-1) ++ List.replicate (9 - (i + 1)) 0) := by
  match i, h with
  | 0, _ => rfl
  | 1, _ => rfl
  | 2, _ => rfl
  | 3, _ => rfl
  | 4, _ => rfl
  | 5, _ => rfl
  | 6, _ => rfl
  | 7, _ => rfl
theorem root_s {w : World} {k : Array Value → World → Prop} (hk : ∀ w', Ext w w' → k (agI fRoot) w') : frame_Root w k := by
  unfold frame_Root
  refine newC_i fun g1 w1 hg1 hs1 hb1 he1 => newC_i fun g2 w2 hg2 hs2 hb2 he2 => ?_
  simp only [add_mk, Nat.zero_add]
  have hb2z : BI w2 g2 (List.replicate 10 0 ++ (List.replicate 0 (-1) ++ List.replicate (9 - 0) 0)) := by
    have e : (List.replicate 10 (0 : Int) ++ (List.replicate 0 (-1) ++ List.replicate (9 - 0) 0)) = Z 19 := by decide
    rw [e]; exact hb2
  refine loopP_of (fun (x : Int) w' => ∃ i : Nat, x = i ∧ i ≤ 8 ∧ BI w' g2 (List.replicate 10 0 ++ (List.replicate i (-1) ++ List.replicate (9 - i) 0)) ∧ Only (fun k => k = g2) w2 w') (fun x _ => (8 - x).toNat) ⟨0, rfl, by omega, hb2z, .refl _ _⟩ ?_
  rintro _ w3 ⟨i, rfl, hi, hb3, ho3⟩ C hC
  refine iteB_i (fun hlt => ?_) (fun hge => ?_)
  · have hlt : i < 8 := by have : (i : Int) < 8 := by simpa using hlt
                           omega
    refine ixP_i (by omega) (by omega) ?_
    simp only [Int.toNat_natCast, Nat.mul_one]
    refine stC_I hb3 (by simp; omega) fun w4 hb4 hs4 ho4 => ?_
    have hw : IntKind.i64.wrap ((i : Int) + 1) = ((i + 1 : Nat) : Int) := by rw [wrap_id ⟨by omega, by omega⟩]; simp
    exact hC _ _ ⟨i + 1, hw, by omega, by rw [← rep_succ hlt]; exact hb4, ho3.trans ho4 (fun _ _ h => h) fun _ _ h => h⟩ (by rw [hw]; omega)
  · have hge : i = 8 := by have : ¬ (i : Int) < 8 := by simpa using hge
                           omega
    subst hge
    refine ldA_I (l := fRoot) hb3 rfl ?_
    refine stA_I (l := fRoot) ((hb1.ext he2).keep ho3 (by omega)) rfl rfl fun w5 hb5 hs5 ho5 => ldA_I hb5 rfl ?_
    exact hk _ (((he1.trans he2).then ho3 fun g hg => by have := he1.size; omega).then ho5 fun g hg => by omega)
def kindsT : List Int := [1, 0, 0, 5, 1, 1, 0, 0, 1, 1, 1, 0, 1, 1, 1, 0, 1, 1, 1, 0, 1, 1, 1, 0, 0, 0, 0, 2, 1, 0, 0, 2, 1, 0, 0, 3, 1, 1, 0, 0, 1, 1, 1, 0, 0, 0, 0, 4, 1, 0, 0, 0, 0, 0, 0, 0, 0, 0, 0, 0, 1, 0, 0, 0, 1, 0, 0, 0]
def spanV (k : Int) : Int × Int := if k = 1 then (0, 7) else if k = 2 then (0, 127) else if k = 3 then (0, 31) else if k = 4 then (0, 65535) else if k = 5 then (-2147483648, 2147483647) else (0, 0)
def spanOf (op j : Nat) : Int × Int := spanV (kindsT.getD (4 * op + j) 0)
def inSpan (i : List Int) (j : Nat) : Bool := decide ((spanOf (i.getD 0 0).toNat j).1 ≤ i.getD (j + 1) 0 ∧ i.getD (j + 1) 0 ≤ (spanOf (i.getD 0 0).toNat j).2)
def chk (i : List Int) : Int := if i.getD 0 0 < 0 ∨ i.getD 0 0 ≥ 17 then 13 else if inSpan i 0 && inSpan i 1 && inSpan i 2 && inSpan i 3 then 0 else 10
theorem span_s {x : Int} {w : World} {k : Int × Int → World → Prop} (hk : k (spanV x) w) : code_span x w k := by
  unfold code_span
  unfold spanV at hk
  refine iteB_i (fun h => ?_) (fun h => ?_)
  · rw [if_pos (by simpa using h)] at hk; exact hk
  rw [if_neg (by simpa using h)] at hk
  refine iteB_i (fun h => ?_) (fun h => ?_)
  · rw [if_pos (by simpa using h)] at hk; exact hk
  rw [if_neg (by simpa using h)] at hk
  refine iteB_i (fun h => ?_) (fun h => ?_)
  · rw [if_pos (by simpa using h)] at hk; exact hk
  rw [if_neg (by simpa using h)] at hk
  refine iteB_i (fun h => ?_) (fun h => ?_)
  · rw [if_pos (by simpa using h)] at hk; exact hk
  rw [if_neg (by simpa using h)] at hk
  refine iteB_i (fun h => ?_) (fun h => ?_)
  · rw [if_pos (by simpa using h)] at hk; exact hk
  rw [if_neg (by simpa using h)] at hk
  exact hk
theorem operands_s {op : Int} {w : World} {k : Array Value → World → Prop} (h0 : 0 ≤ op) (h1 : op < 17) (hk : ∀ w', Ext w w' → k (agI ((kindsT.drop (op.toNat * 4)).take 4)) w') : code_operands op w k := by
  unfold code_operands
  refine newC_i fun g1 w1 hg1 hs1 hb1 he1 => ?_
  refine spl_i (agI (kindsT.take 4 ++ Z 64)) rfl rfl ?_
  refine spl_i (agI (kindsT.take 8 ++ Z 60)) rfl rfl ?_
  refine spl_i (agI (kindsT.take 12 ++ Z 56)) rfl rfl ?_
  refine spl_i (agI (kindsT.take 16 ++ Z 52)) rfl rfl ?_
  refine spl_i (agI (kindsT.take 20 ++ Z 48)) rfl rfl ?_
  refine spl_i (agI (kindsT.take 24 ++ Z 44)) rfl rfl ?_
  refine spl_i (agI (kindsT.take 28 ++ Z 40)) rfl rfl ?_
  refine spl_i (agI (kindsT.take 32 ++ Z 36)) rfl rfl ?_
  refine spl_i (agI (kindsT.take 36 ++ Z 32)) rfl rfl ?_
  refine spl_i (agI (kindsT.take 40 ++ Z 28)) rfl rfl ?_
  refine spl_i (agI (kindsT.take 44 ++ Z 24)) rfl rfl ?_
  refine spl_i (agI (kindsT.take 48 ++ Z 20)) rfl rfl ?_
  refine spl_i (agI (kindsT.take 52 ++ Z 16)) rfl rfl ?_
  refine spl_i (agI (kindsT.take 56 ++ Z 12)) rfl rfl ?_
  refine spl_i (agI (kindsT.take 60 ++ Z 8)) rfl rfl ?_
  refine spl_i (agI (kindsT.take 64 ++ Z 4)) rfl rfl ?_
  refine spl_i (agI kindsT) rfl rfl ?_
  refine newC_i fun g2 w2 hg2 hs2 hb2 he2 => ?_
  refine stA_I hb2 rfl rfl fun w3 hb3 hs3 ho3 => ?_
  have hb1' := (hb1.ext he2).keep ho3 (by omega)
  refine ixP_i h0 (by omega) ?_
  rw [Nat.zero_add]
  have hl : kindsT.length = 68 := rfl
  refine ldA_P hb3 (by omega) ?_
  refine stA_I hb1' rfl (by simp [hl]; omega) fun w4 hb4 hs4 ho4 => ldA_I hb4 (by simp [hl]; omega) ?_
  exact hk _ (((he1.trans he2).then ho3 fun g hg => by have := he1.size; omega).then ho4 fun g hg => by omega)
end Go.Proofs.YtgkfbagclkjilaaDoor.Fr
namespace Go.Proofs.YtgkfbagclkjilaaDoor.Fr
open Go Go.Ev Go.Proofs
theorem four {j : Nat} (h : j < 4) : j = 0 ∨ j = 1 ∨ j = 2 ∨ j = 3 := by omega
theorem chk_bad {i : List Int} {j : Nat} (h0 : ¬ (i.getD 0 0 < 0 ∨ i.getD 0 0 ≥ 17)) (hj : j < 4) (hb : inSpan i j = false) : chk i = 10 := by
  unfold chk
  rw [if_neg h0]
  rcases four hj with rfl | rfl | rfl | rfl <;> simp [hb]
theorem chk_good {i : List Int} (h0 : ¬ (i.getD 0 0 < 0 ∨ i.getD 0 0 ≥ 17)) (hb : ∀ j, j < 4 → inSpan i j = true) : chk i = 0 := by
  unfold chk
  rw [if_neg h0]
  simp [hb 0 (by omega), hb 1 (by omega), hb 2 (by omega), hb 3 (by omega)]
theorem kinds_get {op j : Nat} (h : op < 17) (hj : j < 4) : ((kindsT.drop (op * 4)).take 4).getD j 0 = kindsT.getD (4 * op + j) 0 := by
  rw [List.getD_eq_getElem?_getD, List.getElem?_take_of_lt hj, List.getElem?_drop, List.getD_eq_getElem?_getD, Nat.mul_comm]
theorem getD4 {i : List Int} {j : Nat} (hj : j < 4) : [i.getD 1 0, i.getD 2 0, i.getD 3 0, i.getD 4 0].getD j 0 = i.getD (j + 1) 0 := by
  rcases four hj with rfl | rfl | rfl | rfl <;> rfl
theorem check_s {i : List Int} {w : World} {k : Int → World → Prop} (hi : i.length = 5) (hk : ∀ w', Ext w w' → k (chk i) w') : code_Check (agI i) w k := by
  unfold code_Check code_Check_b
  refine newC_i fun g1 w1 hg1 hs1 hb1 he1 => ?_
  have hb1' : BI w1 g1 i := hb1
  simp only [add_mk, Nat.zero_add]
  refine joinP_i (fun b w' => b = decide (i.getD 0 0 < 0 ∨ i.getD 0 0 ≥ 17) ∧ w1 = w') ?_ ?_
  · intro J hJ
    refine ldP_I hb1' (by omega) (iteB_i (fun h => hJ _ _ ⟨?_, rfl⟩) fun h => ?_)
    · simp only [decide_eq_true_eq] at h
      exact (decide_eq_true (.inl h)).symm
    · simp only [decide_eq_false_iff_not] at h
      refine ldP_I hb1' (by omega) (hJ _ _ ⟨?_, rfl⟩)
      rw [decide_eq_decide]; omega
  rintro _ _ ⟨rfl, rfl⟩
  refine iteB_i (fun h => ?_) fun h => ?_
  · have h := of_decide_eq_true h
    have e : chk i = 13 := by unfold chk; rw [if_pos h]
    rw [← e]; exact hk _ he1
  have h := of_decide_eq_false h
  refine ldP_I hb1' (by omega) (operands_s (by omega) (by omega) fun w2 he2 => ?_)
  refine newC_i fun g3 w3 hg3 hs3 hb3 he3 => ?_
  have hl : ((kindsT.drop ((i.getD 0 0).toNat * 4)).take 4).length = 4 := by
    have : kindsT.length = 68 := rfl
    rw [List.length_take, List.length_drop, this]; omega
  refine stA_I hb3 rfl hl fun w4 hb4 hs4 ho4 => ?_
  have he14 : Ext w1 w4 := (he2.trans he3).then ho4 fun g hg => by have := he2.size; omega
  have hb14 : BI w4 g1 i := hb1'.ext he14
  refine ldP_I hb14 (by omega) (ldP_I hb14 (by omega) (ldP_I hb14 (by omega) (ldP_I hb14 (by omega) ?_)))
  refine loopP_of (fun (x : Int × Int) w' => w4 = w' ∧ x.1 = 0 ∧ ∃ j : Nat, x.2 = j ∧ j ≤ 4 ∧ ∀ m, m < j → inSpan i m = true) (fun x _ => (4 - x.2).toNat) ⟨rfl, rfl, 0, rfl, by omega, fun m hm => by omega⟩ ?_
  rintro ⟨out, _⟩ _ ⟨rfl, ho, j, hj, hj4, hall⟩ C hC
  simp only at ho hj; subst ho; subst hj
  refine iteB_i (fun hlt => ?_) fun hge => ?_
  · have hlt : j < 4 := by have : (j : Int) < 4 := by simpa using hlt
                           omega
    refine ixA_I (l := [i.getD 1 0, i.getD 2 0, i.getD 3 0, i.getD 4 0]) (by simp) (by simp; omega) rfl ?_
    rw [Int.toNat_natCast, getD4 hlt]
    refine toI_i (ixP_i (by omega) (by omega) ?_)
    rw [Int.toNat_natCast, Nat.mul_one, Nat.zero_add]
    refine ldP_I hb4 (by omega) ?_
    rw [kinds_get (by omega) hlt]
    refine span_s ?_
    have e : ((decide (i.getD (j + 1) 0 < (spanV (kindsT.getD (4 * (i.getD 0 0).toNat + j) 0)).1)) || (decide (i.getD (j + 1) 0 > (spanV (kindsT.getD (4 * (i.getD 0 0).toNat + j) 0)).2))) = !inSpan i j := by
      unfold inSpan spanOf
      rw [Bool.eq_iff_iff]
      simp only [Bool.or_eq_true, decide_eq_true_eq, Bool.not_eq_true', decide_eq_false_iff_not]
      omega
    rw [e]
    refine iteB_i (fun hb => ?_) fun hb => ?_
    · rw [← chk_bad h hlt (by simpa using hb)]
      exact hk _ (he1.trans he14)
    · have hw : IntKind.i64.wrap ((j : Int) + 1) = ((j + 1 : Nat) : Int) := by rw [wrap_id ⟨by omega, by omega⟩]; simp
      refine hC _ _ ⟨rfl, rfl, j + 1, hw, by omega, fun m hm => ?_⟩ (by simp only [hw]; omega)
      by_cases hmj : m = j
      · subst hmj; simpa using hb
      · exact hall m (by omega)
  · have hge : j = 4 := by have : ¬ (j : Int) < 4 := by simpa using hge
                           omega
    subst hge
    simp only
    rw [← chk_good h hall]
    exact hk _ (he1.trans he14)
theorem op17 {op : Int} (h0 : 0 ≤ op) (h1 : op < 17) : op = 0 ∨ op = 1 ∨ op = 2 ∨ op = 3 ∨ op = 4 ∨ op = 5 ∨ op = 6 ∨ op = 7 ∨ op = 8 ∨ op = 9 ∨ op = 10 ∨ op = 11 ∨ op = 12 ∨ op = 13 ∨ op = 14 ∨ op = 15 ∨ op = 16 := by omega
def isB (i : List Int) (op : Int) : Bool := i.getD 0 0 == op && chk i == 0
theorem may_s {i : List Int} {op : Int} {w : World} {k : Bool → World → Prop} (hi : i.length = 5) (hk : ∀ w', Ext w w' → k (isB i op) w') : frame_may (agI i) op w k := by
  unfold frame_may frame_may_b
  refine newC_i fun g1 w1 hg1 hs1 hb1 he1 => ?_
  have hb1' : BI w1 g1 i := hb1
  simp only [add_mk, Nat.zero_add]
  unfold isB at hk
  refine ldP_I hb1' (by omega) (iteB_i (fun h => ?_) fun h => ?_)
  · refine ldA_I hb1' hi (check_s hi fun w2 he2 => ?_)
    have := hk _ (he1.trans he2)
    rwa [h, Bool.true_and] at this
  · have := hk _ he1
    rwa [h, Bool.false_and] at this
theorem one_s {b : Bool} {w : World} {k : Int → World → Prop} (hk : k (if b then 1 else 0) w) : frame_one b w k := by
  unfold frame_one
  cases b <;> exact hk
theorem chk_ok {i : List Int} (h : chk i = 0) : 0 ≤ i.getD 0 0 ∧ i.getD 0 0 < 17 ∧ ∀ j, j < 4 → (spanOf (i.getD 0 0).toNat j).1 ≤ i.getD (j + 1) 0 ∧ i.getD (j + 1) 0 ≤ (spanOf (i.getD 0 0).toNat j).2 := by
  unfold chk at h
  split at h
  · cases h
  · rename_i h0
    split at h
    · rename_i h1
      simp only [Bool.and_eq_true] at h1
      refine ⟨by omega, by omega, fun j hj => ?_⟩
      rcases four hj with rfl | rfl | rfl | rfl
      · exact of_decide_eq_true h1.1.1.1
      · exact of_decide_eq_true h1.1.1.2
      · exact of_decide_eq_true h1.1.2
      · exact of_decide_eq_true h1.2
    · cases h
theorem spans_le : ∀ op, op < 17 → ∀ j, j < 3 → 0 ≤ (spanOf op j).1 ∧ (spanOf op j).2 ≤ 7 := by decide
theorem chk_regs {i : List Int} (h : chk i = 0) : (0 ≤ i.getD 1 0 ∧ i.getD 1 0 < 8) ∧ (0 ≤ i.getD 2 0 ∧ i.getD 2 0 < 8) ∧ 0 ≤ i.getD 3 0 ∧ i.getD 3 0 < 8 := by
  obtain ⟨h0, h1, hs⟩ := chk_ok h
  have a := hs 0 (by omega); have b := hs 1 (by omega); have c := hs 2 (by omega)
  have a' := spans_le (i.getD 0 0).toNat (by omega) 0 (by omega)
  have b' := spans_le (i.getD 0 0).toNat (by omega) 1 (by omega)
  have c' := spans_le (i.getD 0 0).toNat (by omega) 2 (by omega)
  simp only [Nat.zero_add, Nat.reduceAdd] at a b c
  omega
end Go.Proofs.YtgkfbagclkjilaaDoor.Fr
namespace Go.Proofs.YtgkfbagclkjilaaDoor.Fr
open Go Go.Ev Go.Proofs
abbrev fR (f : List Int) (r : Int) : Int := f.getD (2 + r.toNat) 0
def sumV (f i : List Int) : Int :=
  if i.getD 0 0 = 0 then i.getD 4 0 else if i.getD 0 0 = 1 then fR f (i.getD 2 0) else if i.getD 0 0 = 2 then IntKind.i64.wrap (fR f (i.getD 2 0) + fR f (i.getD 3 0))
  else if i.getD 0 0 = 3 then IntKind.i64.wrap (fR f (i.getD 2 0) - fR f (i.getD 3 0)) else if i.getD 0 0 = 4 then IntKind.i64.wrap (fR f (i.getD 2 0) * fR f (i.getD 3 0))
  else if fR f (i.getD 2 0) < fR f (i.getD 3 0) then 1 else 0
def fPlain (f i : List Int) : List Int × Bool :=
  if chk i ≠ 0 then (f, false)
  else if i.getD 0 0 = 6 ∨ (i.getD 0 0 = 7 ∧ fR f (i.getD 1 0) ≠ 0) then (fTo f (i.getD 4 0), true)
  else if i.getD 0 0 = 7 then (fOn f, true)
  else if i.getD 0 0 > 5 then (f, false)
  else (fOn (f.set (2 + (i.getD 1 0).toNat) (sumV f i)), true)
theorem fPlain_len {f i : List Int} (hf : f.length = 19) : (fPlain f i).1.length = 19 := by
  unfold fPlain
  split
  · exact hf
  · split
    · simp only [fTo_len, hf]
    · split
      · simp only [fOn_len, hf]
      · split
        · exact hf
        · simp only [fOn_len, List.length_set, hf]
def sumFs (g3 gb gc : Nat) : Array Value := #[.func (.func n_frame_Frame_sums_1) #[] #[.pointer (some ⟨g3, 0, none⟩)], .func (.func n_frame_Frame_sums_2) #[] #[.pointer (some ⟨gb, 0, none⟩)], .func (.func n_frame_Frame_sums_3) #[] #[.pointer (some ⟨gb, 0, none⟩), .pointer (some ⟨gc, 0, none⟩)],
  .func (.func n_frame_Frame_sums_4) #[] #[.pointer (some ⟨gb, 0, none⟩), .pointer (some ⟨gc, 0, none⟩)], .func (.func n_frame_Frame_sums_5) #[] #[.pointer (some ⟨gb, 0, none⟩), .pointer (some ⟨gc, 0, none⟩)], .func (.func n_frame_Frame_sums_6) #[] #[.pointer (some ⟨gb, 0, none⟩), .pointer (some ⟨gc, 0, none⟩)]]
theorem sums_s {f i : List Int} {w : World} {k : Sl → World → Prop} (hf : f.length = 19) (hi : i.length = 5) (hB : 0 ≤ i.getD 2 0 ∧ i.getD 2 0 < 8) (hC : 0 ≤ i.getD 3 0 ∧ i.getD 3 0 < 8)
    (hk : ∀ w' g g3 gb gc, Ext w w' → Blk w' g (sumFs g3 gb gc) → BI w' g3 i → BI w' gb [fR f (i.getD 2 0)] → BI w' gc [fR f (i.getD 3 0)] → k ⟨some ⟨g, 0, none⟩, 6, 6⟩ w') : frame_Frame_sums (agI f) (agI i) w k := by
  unfold frame_Frame_sums
  refine newC_i fun g1 w1 hg1 hs1 hb1 he1 => newC_i fun g2 w2 hg2 hs2 hb2 he2 => ?_
  have hb1' : BI w2 g1 f := hb1.ext he2
  have hb2' : BI w2 g2 i := hb2
  simp only [add_mk, Nat.zero_add]
  refine joinP_i (fun x w' => Ext w2 w' ∧ ∃ gb gc, x = (⟨gb, 0, none⟩, ⟨gc, 0, none⟩) ∧ BI w' gb [fR f (i.getD 2 0)] ∧ BI w' gc [fR f (i.getD 3 0)]) ?_ ?_
  · intro J hJ
    refine drew_i fun w3 hh3 he3 => ?_
    have hb13 : BI w3 g1 f := hb1'.ext he3
    have hb23 : BI w3 g2 i := hb2'.ext he3
    refine ldP_I hb23 (by omega) (ixP_i hB.1 (by omega) (ldP_I hb13 (by omega) ?_))
    refine ldP_I hb23 (by omega) (ixP_i hC.1 (by omega) (ldP_I hb13 (by omega) ?_))
    simp only [Nat.mul_one]
    have st : ∀ {w' : World} {n o : Nat} {c : Prop}, Ext w3 w' → c → samec n ⟨g1, o, none⟩ w3 w' c := fun he hc => samec_B hb13 (hb13.ext he) hc
    have st2 : ∀ {w' : World} {n o : Nat} {c : Prop}, Ext w3 w' → c → samec n ⟨g2, o, none⟩ w3 w' c := fun he hc => samec_B hb23 (hb23.ext he) hc
    refine ⟨?_, ?_⟩
    · refine newC_i fun g4 w4 hg4 hs4 hb4 he4 => st he4 (st2 he4 (st he4 (st2 he4 ?_)))
      refine newC_i fun g5 w5 hg5 hs5 hb5 he5 => ?_
      have he35 := he4.trans he5
      refine st he35 (st2 he35 (st he35 (st2 he35 ?_)))
      refine stC_I (l := [0]) (hb4.ext he5) (by simp) fun w6 hb6 hs6 ho6 => ?_
      have he36 := he35.then ho6 fun g hg => by omega
      refine st he36 (st2 he36 ?_)
      refine stC_I (l := [0]) (hb5.keep ho6 (by omega)) (by simp) fun w7 hb7 hs7 ho7 => ?_
      exact hJ _ _ ⟨he3.trans (he36.then ho7 fun g hg => by omega), g4, g5, rfl, hb6.keep ho7 (by omega), hb7⟩
    · refine newC_i fun g4 w4 hg4 hs4 hb4 he4 => st he4 (st2 he4 (st he4 (st2 he4 ?_)))
      refine newC_i fun g5 w5 hg5 hs5 hb5 he5 => ?_
      have he35 := he4.trans he5
      refine st he35 (st2 he35 (st he35 (st2 he35 ?_)))
      refine stC_I (l := [0]) hb5 (by simp) fun w6 hb6 hs6 ho6 => ?_
      have he36 := he35.then ho6 fun g hg => by omega
      refine st he36 (st2 he36 ?_)
      refine stC_I (l := [0]) ((hb4.ext he5).keep ho6 (by omega)) (by simp) fun w7 hb7 hs7 ho7 => ?_
      exact hJ _ _ ⟨he3.trans (he36.then ho7 fun g hg => by omega), g5, g4, rfl, hb6.keep ho7 (by omega), hb7⟩
  · rintro x w3 ⟨he3, gb, gc, rfl, hbb, hbc⟩
    refine newC_i fun g4 w4 hg4 hs4 hb4 he4 => ?_
    exact hk w4 g4 g2 gb gc (((he1.trans he2).trans he3).trans he4) hb4 ((hb2'.ext he3).ext he4) (hbb.ext he4) (hbc.ext he4)
theorem plain_F {f i : List Int} {w : World} {k : Array Value × Bool → World → Prop} (hf : f.length = 19) (hi : i.length = 5) (hk : ∀ w', Ext w w' → k (agI (fPlain f i).1, (fPlain f i).2) w') : frame_Frame_Plain (agI f) (agI i) w k := by
  unfold frame_Frame_Plain frame_Frame_Plain_b
  refine newC_i fun g1 w1 hg1 hs1 hb1 he1 => newC_i fun g2 w2 hg2 hs2 hb2 he2 => newC_i fun g3 w3 hg3 hs3 hb3 he3 => ?_
  have he13 := (he1.trans he2).trans he3
  have hb1' : BI w3 g1 f := (hb1.ext he2).ext he3
  have hb2' : BI w3 g2 i := hb2.ext he3
  have hsz := he1.size
  simp only [add_mk, Nat.zero_add]
  -- the result's block
  have fin : ∀ (l : List Int) (b : Bool) (w' : World), Ext w3 w' → l.length = 19 → (fPlain f i) = (l, b) → (stA 19 w' ⟨g3, 0, none⟩ (agI l) fun w9 => ldA 19 w9 ⟨g3, 0, none⟩ fun cs => k (cs, b) w9) := by
    intro l b w' he hl e
    refine stA_I (hb3.ext he) rfl hl fun w9 hb9 hs9 ho9 => ldA_I hb9 hl ?_
    have := hk w9 ((he13.trans he).then ho9 fun g hg => by omega)
    rwa [e] at this
  refine ldA_I hb2' hi (check_s hi fun w4 he4 => ?_)
  have hb14 : BI w4 g1 f := hb1'.ext he4
  have hb24 : BI w4 g2 i := hb2'.ext he4
  refine iteB_i (fun h => ldA_I hb14 hf (fin f false w4 he4 hf ?_)) fun h => ?_
  · unfold fPlain; rw [if_pos (by simpa using h)]
  have h : chk i = 0 := by simpa using h
  obtain ⟨hA, hB, hC⟩ := chk_regs h
  obtain ⟨h0, h17, _⟩ := chk_ok h
  refine ldP_I hb24 (by omega) ?_
  refine joinP_i (fun b w' => b = decide (i.getD 0 0 = 6 ∨ (i.getD 0 0 = 7 ∧ fR f (i.getD 1 0) ≠ 0)) ∧ w4 = w') ?_ ?_
  · intro J hJ
    refine iteB_i (fun h6 => ?_) fun h6 => ?_
    · refine hJ _ _ ⟨?_, rfl⟩
      rw [h6]
      exact (decide_eq_true (.inl (by simpa using h6))).symm
    · have h6 : i.getD 0 0 ≠ 6 := by simpa using h6
      refine ldP_I hb24 (by omega) (iteB_i (fun h7 => ?_) fun h7 => ?_)
      · have h7 : i.getD 0 0 = 7 := by simpa using h7
        refine ldP_I hb24 (by omega) (ixP_i hA.1 (by omega) (ldP_I hb14 (by omega) (hJ _ _ ⟨?_, rfl⟩)))
        rw [Nat.mul_one, Bool.eq_iff_iff]
        simp only [bne_iff_ne, decide_eq_true_eq]
        constructor
        · intro hne; exact .inr ⟨h7, hne⟩
        · rintro (h | ⟨_, h⟩)
          · omega
          · exact h
      · have h7 : i.getD 0 0 ≠ 7 := by simpa using h7
        exact hJ _ _ ⟨(decide_eq_false (by omega)).symm, rfl⟩
  rintro _ _ ⟨rfl, rfl⟩
  refine iteB_i (fun h1 => ?_) fun h1 => ?_
  · have h1 := of_decide_eq_true h1
    refine ldA_I hb14 hf (ldP_I hb24 (by omega) (to_s hf fun w5 he5 => fin _ true w5 (he4.trans he5) (by rw [fTo_len, hf]) ?_))
    unfold fPlain; rw [if_neg (by simp [h]), if_pos h1]
  have h1 := of_decide_eq_false h1
  refine ldP_I hb24 (by omega) (iteB_i (fun h7 => ?_) fun h7 => ?_)
  · have h7 : i.getD 0 0 = 7 := by simpa using h7
    refine ldA_I hb14 hf (on_s hf fun w5 he5 => fin _ true w5 (he4.trans he5) (by rw [fOn_len, hf]) ?_)
    unfold fPlain; rw [if_neg (by simp [h]), if_neg h1, if_pos h7]
  have h7 : i.getD 0 0 ≠ 7 := by simpa using h7
  refine ldP_I hb24 (by omega) (iteB_i (fun h5 => ?_) fun h5 => ?_)
  · have h5 : i.getD 0 0 > 5 := by simpa using h5
    refine ldA_I hb14 hf (fin f false w4 he4 hf ?_)
    unfold fPlain; rw [if_neg (by simp [h]), if_neg h1, if_neg h7, if_pos h5]
  have h5 : ¬ i.getD 0 0 > 5 := by simpa using h5
  refine drew_i fun w5 hh5 he5 => ?_
  have hb15 : BI w5 g1 f := hb14.ext he5
  have hb25 : BI w5 g2 i := hb24.ext he5
  refine ldP_I hb25 (by omega) (ldA_I hb15 hf (ldA_I hb25 hi (ldP_I hb25 (by omega) ?_)))
  refine sums_s hf hi hB hC fun w6 g ga gb gc he6 hbg hba hbb hbc => ?_
  have hb16 : BI w6 g1 f := hb15.ext he6
  have hb26 : BI w6 g2 i := hb25.ext he6
  refine samec_B hb25 hb26 (samec_B hb25 hb26 ?_)
  -- the call's result is stored
  have tail : ∀ (v : Value), v = .int .i64 (sumV f i) → (toI .i64 v fun i48 => samec 1 ⟨g2, 1, none⟩ w5 w6 (ixP ⟨g1, 2, none⟩ 8 (i.getD 1 0) 1 fun a49 => stC w6 a49 (.int .i64 i48) fun w50 => ldA 19 w50 ⟨g1, 0, none⟩ fun cs51 =>
      frame_Frame_Passed cs51 w50 fun cs52 w53 => stA 19 w53 ⟨g3, 0, none⟩ cs52 fun w54 => ldA 19 w54 ⟨g3, 0, none⟩ fun cs55 => k (cs55, true) w54)) := by
    rintro _ rfl
    refine toI_i (samec_B hb25 hb26 (ixP_i hA.1 (by omega) ?_))
    rw [Nat.mul_one]
    refine stC_I hb16 (by omega) fun w7 hb7 hs7 ho7 => ?_
    have he7 : Ext w3 w7 ∨ True := .inr trivial
    refine ldA_I hb7 (by simp [hf]) (on_s (by simp [hf]) fun w8 he8 => ?_)
    have hb38 := (((((hb3.ext he4).ext he5).ext he6).keep ho7 (by omega)).ext he8)
    refine stA_I hb38 rfl (by rw [fOn_len]; simp [hf]) fun w9 hb9 hs9 ho9 => ldA_I hb9 (by rw [fOn_len]; simp [hf]) ?_
    have e : fPlain f i = (fOn (f.set (2 + (i.getD 1 0).toNat) (sumV f i)), true) := by
      unfold fPlain; rw [if_neg (by simp [h]), if_neg h1, if_neg h7, if_neg h5]
    have := hk w9 ((((((he13.trans he4).trans he5).trans he6).then ho7 fun g hg => by omega).trans he8).then ho9 fun g hg => by omega)
    rwa [e] at this
  have h6 : i.getD 0 0 ≠ 6 := fun e => h1 (.inl e)
  have hop : i.getD 0 0 = 0 ∨ i.getD 0 0 = 1 ∨ i.getD 0 0 = 2 ∨ i.getD 0 0 = 3 ∨ i.getD 0 0 = 4 ∨ i.getD 0 0 = 5 := by omega
  refine ixS_b h0 (by omega) ?_
  rw [Nat.mul_one, Nat.zero_add]
  have hcell : ∀ n : Nat, w6.cell? ⟨g, n, none⟩ = (sumFs ga gb gc)[n]? := fun n => hbg.cell n
  rcases hop with e | e | e | e | e | e
  all_goals
    rw [e]
    refine ldV_i (by rw [hcell]; rfl) ?_
  · show ldI .i64 w6 (Addr.add ⟨ga, 0, none⟩ 4) _
    rw [add_mk]
    refine ldP_I hba (by omega) (tail _ ?_)
    simp only [sumV, e]; rfl
  · show ldI .i64 w6 ⟨gb, 0, none⟩ _
    refine ldP_I hbb (by simp) (tail _ ?_)
    simp only [sumV, e]; rfl
  · show ldI .i64 w6 ⟨gb, 0, none⟩ fun i1 => ldI .i64 w6 ⟨gc, 0, none⟩ fun i2 => _
    refine ldP_I hbb (by simp) (ldP_I hbc (by simp) (tail _ ?_))
    simp only [sumV, e]; rfl
  · show ldI .i64 w6 ⟨gb, 0, none⟩ fun i1 => ldI .i64 w6 ⟨gc, 0, none⟩ fun i2 => _
    refine ldP_I hbb (by simp) (ldP_I hbc (by simp) (tail _ ?_))
    simp only [sumV, e]; rfl
  · show ldI .i64 w6 ⟨gb, 0, none⟩ fun i1 => ldI .i64 w6 ⟨gc, 0, none⟩ fun i2 => _
    refine ldP_I hbb (by simp) (ldP_I hbc (by simp) (tail _ ?_))
    simp only [sumV, e]; rfl
  · show ldI .i64 w6 ⟨gb, 0, none⟩ fun i1 => ldI .i64 w6 ⟨gc, 0, none⟩ fun i2 => frame_one (decide (i1 < i2)) w6 fun i3 w4 => _
    refine ldP_I hbb (by simp) (ldP_I hbc (by simp) (one_s (tail _ ?_)))
    have e1 : List.getD [fR f (i.getD 2 0)] 0 0 = fR f (i.getD 2 0) := rfl
    have e2 : List.getD [fR f (i.getD 3 0)] 0 0 = fR f (i.getD 3 0) := rfl
    rw [e1, e2]
    simp only [sumV, e]
    by_cases hlt : fR f (i.getD 2 0) < fR f (i.getD 3 0)
    · rw [decide_eq_true hlt, if_pos hlt]; rfl
    · rw [decide_eq_false hlt, if_neg hlt]; rfl
end Go.Proofs.YtgkfbagclkjilaaDoor.Fr
namespace Go.Proofs.YtgkfbagclkjilaaDoor.Fr
open Go Go.Ev Go.Proofs
theorem regs_len {f : List Int} (hf : f.length = 19) : ((f.drop 2).take 8).length = 8 := by
  rw [List.length_take, List.length_drop, hf]; rfl
end Go.Proofs.YtgkfbagclkjilaaDoor.Fr
namespace Go.Proofs.YtgkfbagclkjilaaDoor.Fr
open Go Go.Ev Go.Proofs
theorem isB_true {i : List Int} {op : Int} (h : isB i op = true) : i.getD 0 0 = op ∧ chk i = 0 := by
  unfold isB at h
  simp only [Bool.and_eq_true, beq_iff_eq] at h
  exact h
def fClosed (f i : List Int) (asked : Bool) : List Int := if isB i 12 then fOn (f.set (2 + (i.getD 1 0).toNat) (if asked then 1 else 0)) else f
def fForked (f i : List Int) (id : Int) : List Int := if isB i 8 then fOn (f.set (10 + (i.getD 1 0).toNat) id) else f
def fJoined (f i : List Int) (kind v : Int) : List Int × Int × Bool :=
  if kind < 2 ∨ kind > 4 ∨ (isB i 9 = false ∧ isB i 10 = false) then (f, 0, false)
  else if isB i 10 then (fOn ((f.set (2 + (i.getD 1 0).toNat) (if kind = 4 then 0 else v)).set (2 + (i.getD 2 0).toNat) (IntKind.i64.wrap (kind - 2))), 0, false)
  else if kind = 2 then (fOn (f.set (2 + (i.getD 1 0).toNat) v), 0, false)
  else (fTo f (f.getD 1 0), if kind = 4 then -1 else v, true)
theorem fClosed_len {f i : List Int} {b : Bool} : (fClosed f i b).length = f.length := by
  unfold fClosed; split
  · rw [fOn_len, List.length_set]
  · rfl
theorem fForked_len {f i : List Int} {b : Int} : (fForked f i b).length = f.length := by
  unfold fForked; split
  · rw [fOn_len, List.length_set]
  · rfl
theorem fJoined_len {f i : List Int} {kind v : Int} : (fJoined f i kind v).1.length = f.length := by
  unfold fJoined
  split
  · rfl
  · split
    · simp only [fOn_len, List.length_set]
    · split
      · simp only [fOn_len, List.length_set]
      · simp only [fTo_len]
theorem closed_s {f i : List Int} {b : Bool} {w : World} {k : Array Value → World → Prop} (hf : f.length = 19) (hi : i.length = 5) (hk : ∀ w', Ext w w' → k (agI (fClosed f i b)) w') : frame_Frame_Closed (agI f) (agI i) b w k := by
  unfold frame_Frame_Closed frame_Frame_Closed_b
  refine newC_i fun g1 w1 hg1 hs1 hb1 he1 => newC_i fun g2 w2 hg2 hs2 hb2 he2 => newC_i fun g3 w3 hg3 hs3 hb3 he3 => ?_
  have he13 := (he1.trans he2).trans he3
  have hb1' : BI w3 g1 f := (hb1.ext he2).ext he3
  have hb2' : BI w3 g2 i := hb2.ext he3
  have hsz := he1.size
  simp only [add_mk, Nat.zero_add]
  refine ldA_I hb1' hf (newC_i fun g4 w4 hg4 hs4 hb4 he4 => stA_I hb4 rfl hf fun w5 hb5 hs5 ho5 => ?_)
  have he35 : Ext w3 w5 := he4.then ho5 fun g hg => by omega
  simp only [add_mk, Nat.zero_add]
  refine ldA_I (hb2'.ext he35) hi (may_s hi fun w6 he6 => ?_)
  have he36 := he35.trans he6
  refine iteB_i (fun h => ?_) fun h => ?_
  · obtain ⟨hA, hB, hC⟩ := chk_regs (isB_true h).2
    refine drew_i fun w7 hh7 he7 => ?_
    have he37 := he36.trans he7
    have hb27 : BI w7 g2 i := hb2'.ext he37
    refine ldP_I hb27 (by omega) (one_s (samec_B hb27 hb27 (ixP_i hA.1 (by omega) ?_)))
    rw [Nat.mul_one]
    refine stC_I ((hb5.ext he6).ext he7) (by omega) fun w8 hb8 hs8 ho8 => ldA_I hb8 (by simp [hf]) (on_s (by simp [hf]) fun w9 he9 => ?_)
    refine stA_I (((hb3.ext he37).keep ho8 (by omega)).ext he9) rfl (by rw [fOn_len]; simp [hf]) fun w10 hb10 hs10 ho10 => ldA_I hb10 (by rw [fOn_len]; simp [hf]) ?_
    have := hk w10 ((((he13.trans he37).then ho8 fun g hg => by omega).trans he9).then ho10 fun g hg => by omega)
    unfold fClosed at this
    rwa [if_pos h] at this
  · refine ldA_I (hb1'.ext he36) hf (stA_I (hb3.ext he36) rfl hf fun w10 hb10 hs10 ho10 => ldA_I hb10 hf ?_)
    have := hk w10 ((he13.trans he36).then ho10 fun g hg => by omega)
    unfold fClosed at this
    rwa [if_neg (by simp [h])] at this
theorem forked_s {f i : List Int} {id : Int} {w : World} {k : Array Value → World → Prop} (hf : f.length = 19) (hi : i.length = 5) (hk : ∀ w', Ext w w' → k (agI (fForked f i id)) w') : frame_Frame_Forked (agI f) (agI i) id w k := by
  unfold frame_Frame_Forked frame_Frame_Forked_b
  refine newC_i fun g1 w1 hg1 hs1 hb1 he1 => newC_i fun g2 w2 hg2 hs2 hb2 he2 => newC_i fun g3 w3 hg3 hs3 hb3 he3 => ?_
  have he13 := (he1.trans he2).trans he3
  have hb1' : BI w3 g1 f := (hb1.ext he2).ext he3
  have hb2' : BI w3 g2 i := hb2.ext he3
  have hsz := he1.size
  simp only [add_mk, Nat.zero_add]
  refine ldA_I hb2' hi (may_s hi fun w4 he4 => ?_)
  have hb14 : BI w4 g1 f := hb1'.ext he4
  have hb24 : BI w4 g2 i := hb2'.ext he4
  refine iteB_i (fun h => ?_) fun h => ?_
  · refine ldA_I hb14 hf (stA_I (hb3.ext he4) rfl hf fun w10 hb10 hs10 ho10 => ldA_I hb10 hf ?_)
    have := hk w10 ((he13.trans he4).then ho10 fun g hg => by omega)
    unfold fForked at this
    rwa [if_neg (by simpa using h)] at this
  · have h : isB i 8 = true := by simpa using h
    obtain ⟨hA, hB, hC⟩ := chk_regs (isB_true h).2
    refine ldP_I hb24 (by omega) (ixP_i hA.1 (by omega) ?_)
    rw [Nat.mul_one]
    refine stC_I hb14 (by omega) fun w8 hb8 hs8 ho8 => ldA_I hb8 (by simp [hf]) (on_s (by simp [hf]) fun w9 he9 => ?_)
    refine stA_I (((hb3.ext he4).keep ho8 (by omega)).ext he9) rfl (by rw [fOn_len]; simp [hf]) fun w10 hb10 hs10 ho10 => ldA_I hb10 (by rw [fOn_len]; simp [hf]) ?_
    have := hk w10 ((((he13.trans he4).then ho8 fun g hg => by omega).trans he9).then ho10 fun g hg => by omega)
    unfold fForked at this
    rwa [if_pos h] at this
theorem joined_s {f i : List Int} {kind v : Int} {w : World} {k : Array Value × Int × Bool → World → Prop} (hf : f.length = 19) (hi : i.length = 5) (hk : ∀ w', Ext w w' → k (agI (fJoined f i kind v).1, (fJoined f i kind v).2.1, (fJoined f i kind v).2.2) w') : frame_Frame_Joined (agI f) (agI i) kind v w k := by
  unfold frame_Frame_Joined frame_Frame_Joined_b
  refine newC_i fun g1 w1 hg1 hs1 hb1 he1 => newC_i fun g2 w2 hg2 hs2 hb2 he2 => newC_i fun g3 w3 hg3 hs3 hb3 he3 => ?_
  have he13 := (he1.trans he2).trans he3
  have hb1' : BI w3 g1 f := (hb1.ext he2).ext he3
  have hb2' : BI w3 g2 i := hb2.ext he3
  have hsz := he1.size
  simp only [add_mk, Nat.zero_add]
  have fin : ∀ (l : List Int) (a : Int) (b : Bool) (w' : World), Ext w w' → Blk w' g3 (agI (Z 19)) → l.length = 19 → fJoined f i kind v = (l, a, b) → (stA 19 w' ⟨g3, 0, none⟩ (agI l) fun w9 => ldA 19 w9 ⟨g3, 0, none⟩ fun cs => k (cs, (a, b)) w9) := by
    intro l a b w' he hb hl e
    refine stA_I hb rfl hl fun w9 hb9 hs9 ho9 => ldA_I hb9 hl ?_
    have := hk w9 (he.then ho9 fun g hg => by omega)
    rwa [e] at this
  have hb3' : Blk w3 g3 (agI (Z 19)) := hb3
  refine joinP_i (fun x w' => x = decide (kind < 2 ∨ kind > 4 ∨ (isB i 9 = false ∧ isB i 10 = false)) ∧ Ext w3 w') ?_ ?_
  · intro J hJ
    refine iteB_i (fun h => hJ _ _ ⟨?_, .refl _ _⟩) fun h => ?_
    · simp only [Bool.or_eq_true, decide_eq_true_eq] at h
      exact (decide_eq_true (by omega)).symm
    · simp only [Bool.or_eq_false_iff, decide_eq_false_iff_not] at h
      refine ldA_I hb2' hi (may_s hi fun w4 he4 => ?_)
      refine iteB_i (fun h9 => ?_) fun h9 => ?_
      · have h9 : isB i 9 = false := by simpa using h9
        refine ldA_I (hb2'.ext he4) hi (may_s hi fun w5 he5 => hJ _ _ ⟨?_, he4.trans he5⟩)
        rw [Bool.eq_iff_iff]
        simp only [Bool.not_eq_true', decide_eq_true_eq]
        constructor
        · intro h10; exact .inr (.inr ⟨h9, h10⟩)
        · rintro (h' | h' | ⟨_, h'⟩)
          · omega
          · omega
          · exact h'
      · have h9 : isB i 9 = true := by simpa using h9
        refine hJ _ _ ⟨?_, he4⟩
        rw [eq_comm, decide_eq_false_iff_not]
        rintro (h' | h' | ⟨h', _⟩)
        · omega
        · omega
        · rw [h9] at h'; cases h'
  rintro _ w4 ⟨rfl, he4⟩
  have he14 := he13.trans he4
  have hb14 : BI w4 g1 f := hb1'.ext he4
  have hb24 : BI w4 g2 i := hb2'.ext he4
  refine iteB_i (fun h => ?_) fun h => ?_
  · have h := of_decide_eq_true h
    refine ldA_I hb14 hf (fin f 0 false w4 he14 (hb3'.ext he4) hf ?_)
    unfold fJoined; rw [if_pos h]
  have h := of_decide_eq_false h
  have hchk : chk i = 0 ∧ (i.getD 0 0 = 10 ↔ isB i 10 = true) := by
    cases h10 : isB i 10 with
    | true => exact ⟨(isB_true h10).2, fun _ => rfl, fun _ => (isB_true h10).1⟩
    | false =>
      cases h9 : isB i 9 with
      | true => exact ⟨(isB_true h9).2, fun e => (by have := (isB_true h9).1; omega), fun e => by cases e⟩
      | false => exact absurd (.inr (.inr ⟨h9, h10⟩)) h
  obtain ⟨hA, hB, hC⟩ := chk_regs hchk.1
  refine joinP_i (fun x w' => w4 = w' ∧ fJoined f i kind v = (fTo f (f.getD 1 0), x, true)) ?_ ?_
  · intro J hJ
    refine ldP_I hb24 (by omega) (iteB_i (fun h10 => ?_) fun h10 => ?_)
    · have h10 : isB i 10 = true := hchk.2.1 (by simpa using h10)
      refine joinP_i (fun x w' => w4 = w' ∧ x = if kind = 4 then 0 else v) ?_ ?_
      · intro J2 hJ2
        refine iteB_i (fun h4 => hJ2 _ _ ⟨rfl, ?_⟩) fun h4 => hJ2 _ _ ⟨rfl, ?_⟩
        · rw [if_pos (by simpa using h4)]
        · rw [if_neg (by simpa using h4)]
      rintro _ _ ⟨rfl, rfl⟩
      refine drew_i fun w5 hh5 he5 => ?_
      have hb15 : BI w5 g1 f := hb14.ext he5
      have hb25 : BI w5 g2 i := hb24.ext he5
      refine ldP_I hb25 (by omega) (ldP_I hb25 (by omega) (ixP_i hA.1 (by omega) ?_))
      rw [Nat.mul_one]
      refine stC_I hb15 (by omega) fun w6 hb6 hs6 ho6 => samec_B hb25 (hb25.keep ho6 (by omega)) (ixP_i hB.1 (by omega) ?_)
      rw [Nat.mul_one]
      refine stC_I hb6 (by rw [List.length_set]; omega) fun w7 hb7 hs7 ho7 => ldA_I hb7 (by simp [hf]) (on_s (by simp [hf]) fun w8 he8 => ?_)
      refine fin _ 0 false w8 (((((he14.trans he5).then ho6 fun g hg => by omega).then ho7 fun g hg => by omega).trans he8)) (((((hb3'.ext he4).ext he5).keep ho6 (by omega)).keep ho7 (by omega)).ext he8) (by rw [fOn_len]; simp [hf]) ?_
      unfold fJoined; rw [if_neg h, if_pos h10]
    · have h10' : isB i 10 = false := by
        cases h' : isB i 10 with
        | false => rfl
        | true => exact absurd (hchk.2.2 h') (by simpa using h10)
      refine iteB_i (fun h2 => ?_) fun h2 => ?_
      · have h2 : kind = 2 := by simpa using h2
        refine ldP_I hb24 (by omega) (ixP_i hA.1 (by omega) ?_)
        rw [Nat.mul_one]
        refine stC_I hb14 (by omega) fun w6 hb6 hs6 ho6 => ldA_I hb6 (by simp [hf]) (on_s (by simp [hf]) fun w8 he8 => ?_)
        refine fin _ 0 false w8 ((he14.then ho6 fun g hg => by omega).trans he8) (((hb3'.ext he4).keep ho6 (by omega)).ext he8) (by rw [fOn_len]; simp [hf]) ?_
        unfold fJoined; rw [if_neg h, if_neg (by simp [h10']), if_pos h2]
      · have h2 : kind ≠ 2 := by simpa using h2
        refine iteB_i (fun h4 => hJ _ _ ⟨rfl, ?_⟩) fun h4 => hJ _ _ ⟨rfl, ?_⟩
        · unfold fJoined; rw [if_neg h, if_neg (by simp [h10']), if_neg h2, if_pos (by simpa using h4)]
        · unfold fJoined; rw [if_neg h, if_neg (by simp [h10']), if_neg h2, if_neg (by simpa using h4)]
  · rintro x _ ⟨rfl, e⟩
    exact ldA_I hb14 hf (ldP_I hb14 (by omega) (to_s hf fun w5 he5 => fin _ x true w5 (he14.trans he5) ((hb3'.ext he4).ext he5) (by rw [fTo_len, hf]) e))
end Go.Proofs.YtgkfbagclkjilaaDoor.Fr
namespace Go.Proofs.YtgkfbagclkjilaaDoor.Fr
open Go Go.Ev Go.Proofs
theorem bv_pow {h : Nat} (hh : h < 63) : bv (shlV .i64 1 (h : Int)) = BitVec.twoPow 64 h := by
  unfold shlV
  have e : min ((h : Int).toNat) IntKind.i64.bits = h := by simp [IntKind.bits]; omega
  rw [e, wrapI, bv_of_toInt, Int.one_mul]
  apply BitVec.eq_of_toNat_eq
  rw [BitVec.toNat_ofInt, BitVec.toNat_twoPow]
  have h2 : (2 ^ h : Nat) < 2 ^ 64 := Nat.pow_lt_pow_right (by omega) (by omega)
  have h3 : ((2 : Int) ^ h) = ((2 ^ h : Nat) : Int) := by simp
  rw [h3, Nat.mod_eq_of_lt h2]
  generalize (2 ^ h : Nat) = m at *
  omega
theorem and_shl {x : Int} {h : Nat} (hh : h < 63) : (andI .i64 x (shlV .i64 1 (h : Int)) != 0) = tb x h := by
  rw [andI_bv, bv_pow hh, BitVec.and_twoPow]
  unfold tb
  cases hb : (bv x).getLsbD h with
  | false => rfl
  | true =>
    simp only [if_true]
    have : (BitVec.twoPow 64 h).toInt ≠ 0 := by
      intro e
      have h1 : BitVec.twoPow 64 h = 0#64 := by
        apply BitVec.eq_of_toInt_eq
        rw [e]; rfl
      have h2 := congrArg (fun b => b.getLsbD h) h1
      simp at h2
      omega
    simpa using this
def fHs (f : List Int) (needs : Int) (n : Nat) : List Int := (List.range n).map fun h => if tb needs h then f.getD (10 + h) 0 else -1
def fChild (f : List Int) (n needs : Int) : List Int := [n, 0] ++ ((f.drop 2).take 8 ++ (fHs f needs 8 ++ [0]))
def fHalf (f : List Int) (n needs : Int) (j : Nat) : List Int := [n, 0] ++ ((f.drop 2).take 8 ++ (fHs f needs j ++ (List.replicate (8 - j) (-1) ++ [0])))
theorem fHs_len {f : List Int} {needs : Int} {n : Nat} : (fHs f needs n).length = n := by simp [fHs]
theorem fHs_succ {f : List Int} {needs : Int} {n : Nat} : fHs f needs (n + 1) = fHs f needs n ++ [if tb needs n then f.getD (10 + n) 0 else -1] := by
  simp [fHs, List.range_succ]
theorem fHalf_len {f : List Int} {n needs : Int} {j : Nat} (hf : f.length = 19) (hj : j ≤ 8) : (fHalf f n needs j).length = 19 := by
  unfold fHalf
  simp only [List.length_append, List.length_cons, List.length_nil, fHs_len, List.length_replicate, regs_len hf]
  omega
theorem fHalf_zero {f : List Int} {n needs : Int} (hf : f.length = 19) : fHalf f n needs 0 = ((fRoot.set 0 n).take 2 ++ ((f.drop 2).take 8 ++ (fRoot.set 0 n).drop (2 + 8))) := rfl
theorem fHalf_yes {f : List Int} {n needs : Int} {j : Nat} (hf : f.length = 19) (hj : j < 8) (hb : tb needs j = true) : (fHalf f n needs j).set (10 + j) (f.getD (10 + j) 0) = fHalf f n needs (j + 1) := by
  unfold fHalf
  have hr := regs_len hf
  have e8 : 8 - j = (8 - (j + 1)) + 1 := by omega
  rw [List.set_append_right _ _ (by simp; omega), List.set_append_right _ _ (by simp [hr]; omega), List.set_append_right _ _ (by simp [hr, fHs_len]; omega)]
  rw [fHs_succ, hb, e8, List.replicate_succ]
  have e0 : 10 + j - 2 - 8 - j = 0 := by omega
  simp [hr, fHs_len, e0]
theorem fHalf_no {f : List Int} {n needs : Int} {j : Nat} (hj : j < 8) (hb : tb needs j = false) : fHalf f n needs j = fHalf f n needs (j + 1) := by
  unfold fHalf
  have e8 : 8 - j = (8 - (j + 1)) + 1 := by omega
  rw [fHs_succ, hb, e8, List.replicate_succ]
  simp
def cellsF (x : Int × Sl) : List Value := [.int .i64 x.1, .slice x.2.a x.2.n x.2.c]
def Funcs (w : World) (s : Sl) (fs : List (Int × Sl)) : Prop := Rws 2 w s (fs.map cellsF)
theorem Funcs.len {w : World} {s : Sl} {fs : List (Int × Sl)} (h : Funcs w s fs) : s.n = fs.length := by have := Rws.len h; simp at this; omega
theorem Funcs.ext {w w' : World} {s : Sl} {fs : List (Int × Sl)} (h : Funcs w s fs) (he : Ext w w') : Funcs w' s fs := Rws.ext h he
theorem ixF {w : World} {s : Sl} {fs : List (Int × Sl)} {i : Int} {x : Int × Sl} {c : Addr → Prop} (h : Funcs w s fs) (h0 : 0 ≤ i) (hi : fs[i.toNat]? = some x)
    (hc : ∀ p : Addr, w.cell? (p.add 0) = some (.int .i64 x.1) → w.cell? (p.add 1) = some (.slice x.2.a x.2.n x.2.c) → c p) : ixS s i 2 c := by
  have hl := Funcs.len h
  have hlt := (List.getElem?_eq_some_iff.1 hi).1
  refine ixR_i h h0 (by omega) fun p e he _ hcell => ?_
  rw [List.getElem?_map, hi] at he
  cases he
  exact hc p (hcell 0 _ rfl) (hcell 1 _ rfl)
theorem fork_N {i : List Int} (h : isB i 8 = true) : 0 ≤ i.getD 4 0 ∧ i.getD 4 0 ≤ 31 := by
  obtain ⟨h8, hc⟩ := isB_true h
  obtain ⟨_, _, hs⟩ := chk_ok hc
  have := hs 3 (by omega)
  rw [h8] at this
  exact this
theorem child_s {f i : List Int} {s : Sl} {fs : List (Int × Sl)} {w : World} {k : Array Value × Int → World → Prop} (hf : f.length = 19) (hi : i.length = 5) (hp : Funcs w s fs)
    (h1 : isB i 8 = false → ∀ w', Ext w w' → k (agI (Z 19), 1) w') (h2 : isB i 8 = true → fs.length ≤ (i.getD 4 0).toNat → ∀ w', Ext w w' → k (agI (Z 19), 17) w')
    (h3 : isB i 8 = true → ∀ x, fs[(i.getD 4 0).toNat]? = some x → ∀ w', Ext w w' → k (agI (fChild f (i.getD 4 0) x.1), 0) w') : frame_Frame_Child (agI f) #[.slice s.a s.n s.c] (agI i) w k := by
  unfold frame_Frame_Child frame_Frame_Child_b
  refine newC_i fun g1 w1 hg1 hs1 hb1 he1 => newC_i fun gp wp hgp hsp hbp hep => newC_i fun g2 w2 hg2 hs2 hb2 he2 => newC_i fun g3 w3 hg3 hs3 hb3 he3 => ?_
  have he13 := ((he1.trans hep).trans he2).trans he3
  have hb1' : BI w3 g1 f := ((hb1.ext hep).ext he2).ext he3
  have hb2' : BI w3 g2 i := hb2.ext he3
  have hbp' : Blk w3 gp #[.slice s.a s.n s.c] := (hbp.ext he2).ext he3
  have hsz := he1.size
  have hln := hp.len
  simp only [add_mk, Nat.zero_add]
  refine ldA_I hb2' hi (may_s hi fun w4 he4 => ?_)
  have hb14 : BI w4 g1 f := hb1'.ext he4
  have hb24 : BI w4 g2 i := hb2'.ext he4
  have hbp4 := hbp'.ext he4
  have he14 := he13.trans he4
  refine iteB_i (fun h => ?_) fun h => ?_
  · refine stA_I (l := Z 19) (hb3.ext he4) rfl rfl fun w5 hb5 hs5 ho5 => ldA_I hb5 rfl ?_
    exact h1 (by simpa using h) _ (he14.then ho5 fun g hg => by omega)
  have h : isB i 8 = true := by simpa using h
  obtain ⟨hN0, hN1⟩ := fork_N h
  refine ldP_I hb24 (by omega) (ldS_i (s := s) (hbp4.cell 0) (iteB_i (fun hge => ?_) fun hlt => ?_))
  · have hge : i.getD 4 0 ≥ s.n := of_decide_eq_true hge
    refine stA_I (l := Z 19) (hb3.ext he4) rfl rfl fun w5 hb5 hs5 ho5 => ldA_I hb5 rfl ?_
    exact h2 h (by omega) _ (he14.then ho5 fun g hg => by omega)
  have hlt : i.getD 4 0 < s.n := by have := of_decide_eq_false hlt; omega
  obtain ⟨x, hx⟩ : ∃ x, fs[(i.getD 4 0).toNat]? = some x := ⟨_, List.getElem?_eq_getElem (by omega)⟩
  refine root_s fun w5 he5 => newC_i fun g6 w6 hg6 hs6 hb6 he6 => ?_
  simp only [add_mk, Nat.zero_add]
  refine stA_I (l := fRoot) hb6 rfl rfl fun w7 hb7 hs7 ho7 => ?_
  have hs5 := he5.size
  have he47 : Ext w4 w7 := (he5.trans he6).then ho7 fun g hg => by omega
  refine drew_i fun w8 hh8 he8 => ?_
  have he48 := he47.trans he8
  have hb18 : BI w8 g1 f := hb14.ext he48
  have hb28 : BI w8 g2 i := hb24.ext he48
  refine ldP_I hb28 (by omega) (ldA_P hb18 (by omega) ?_)
  have hg16 : g1 ≠ g6 := by have := hb14.lt; omega
  refine stC_I (hb7.ext he8) (by decide) fun w9 hb9 hs9 ho9 => samec_B hb18 (hb18.keep ho9 hg16) ?_
  refine stA_P hb9 (regs_len hf) (by rw [List.length_set]; decide) fun w10 hb10 hs10 ho10 => ?_
  rw [← fHalf_zero (needs := x.1) hf] at hb10
  have he10 : Ext w4 w10 := (he48.then ho9 fun g hg => by omega).then ho10 fun g hg => by omega
  refine loopP_of (fun (y : Int) w' => ∃ j : Nat, y = j ∧ j ≤ 8 ∧ Ext w4 w' ∧ BI w' g6 (fHalf f (i.getD 4 0) x.1 j)) (fun y _ => (8 - y).toNat) ⟨0, rfl, by omega, he10, hb10⟩ ?_
  rintro _ w11 ⟨j, rfl, hj, he11, hb11⟩ C hC
  refine iteB_i (fun hlt8 => ?_) fun hge => ?_
  · have hj8 : j < 8 := by have : (j : Int) < 8 := by simpa using hlt8
                           omega
    have hw : IntKind.i64.wrap ((j : Int) + 1) = ((j + 1 : Nat) : Int) := by rw [wrap_id ⟨by omega, by omega⟩]; simp
    refine drew_i fun w12 hh12 he12 => ?_
    have he412 := he11.trans he12
    refine ldS_i (s := s) ((hbp4.ext he412).cell 0) (ldP_I (hb24.ext he412) (by omega) ?_)
    refine ixF (hp.ext (he14.trans he412)) hN0 hx fun p hc0 hc1 => ldI_i hc0 (shlI_i (by omega) ?_)
    rw [and_shl (by omega)]
    refine iteB_i (fun hb => ?_) fun hb => ?_
    · refine ixP_i (by omega) (by omega) (ldP_I (hb14.ext he412) (by simp; omega) (ixP_i (by omega) (by omega) ?_))
      simp only [Int.toNat_natCast, Nat.mul_one]
      have hl := fHalf_len (n := i.getD 4 0) (needs := x.1) hf hj
      refine stC_I (hb11.ext he12) (by omega) fun w13 hb13 hs13 ho13 => ?_
      rw [fHalf_yes hf hj8 hb] at hb13
      exact hC _ _ ⟨j + 1, hw, by omega, he412.then ho13 fun g hg => by omega, hb13⟩ (by rw [hw]; omega)
    · refine hC _ _ ⟨j + 1, hw, by omega, he412, ?_⟩ (by rw [hw]; omega)
      rw [← fHalf_no hj8 hb]
      exact hb11.ext he12
  · have hj8 : j = 8 := by have : ¬ (j : Int) < 8 := by simpa using hge
                           omega
    subst hj8
    have hl := fHalf_len (n := i.getD 4 0) (needs := x.1) hf hj
    refine ldA_I hb11 hl (stA_I ((hb3.ext he4).ext he11) rfl hl fun w12 hb12 hs12 ho12 => ldA_I hb12 hl ?_)
    exact h3 h x hx _ ((he14.trans he11).then ho12 fun g hg => by omega)
end Go.Proofs.YtgkfbagclkjilaaDoor.Fr
namespace Go.Ev
open Go Go.RowKit
structure HP where
  p : (Nat → Prop) → World → Prop
  lt : ∀ {F w g}, p F w → F g → g < w.heap.size
  keep : ∀ {F w w'}, p F w → (∀ g, F g → w'.heap[g]? = w.heap[g]?) → p F w'
def sepP : List HP → (Nat → Prop) → World → Prop
  | [], F, _ => ∀ g, ¬ F g
  | R :: L, F, w => ∃ F1 F2, R.p F1 w ∧ sepP L F2 w ∧ (∀ g, F1 g → ¬ F2 g) ∧ ∀ g, F g ↔ (F1 g ∨ F2 g)
theorem sepP_lt : ∀ {L : List HP} {F w g}, sepP L F w → F g → g < w.heap.size
  | [], F, w, g, h, hg => (h g hg).elim
  | R :: L, F, w, g, ⟨F1, F2, h1, h2, _, e⟩, hg => by
    rcases (e g).1 hg with hg | hg
    · exact R.lt h1 hg
    · exact sepP_lt h2 hg
theorem sepP_keep : ∀ {L : List HP} {F w w'}, sepP L F w → (∀ g, F g → w'.heap[g]? = w.heap[g]?) → sepP L F w'
  | [], F, w, w', h, _ => h
  | R :: L, F, w, w', ⟨F1, F2, h1, h2, hd, e⟩, hk =>
    ⟨F1, F2, R.keep h1 fun g hg => hk g ((e g).2 (.inl hg)), sepP_keep h2 fun g hg => hk g ((e g).2 (.inr hg)), hd, e⟩
theorem sepP_iff : ∀ {L : List HP} {F G w}, (∀ g, F g ↔ G g) → sepP L F w → sepP L G w
  | [], F, G, w, hfg, h => fun g hg => h g ((hfg g).2 hg)
  | R :: L, F, G, w, hfg, ⟨F1, F2, h1, h2, hd, e⟩ => ⟨F1, F2, h1, h2, hd, fun g => (hfg g).symm.trans (e g)⟩
theorem sepP_swap {R S : HP} {L : List HP} {F w} (h : sepP (R :: S :: L) F w) : sepP (S :: R :: L) F w := by
  obtain ⟨F1, F2, h1, ⟨F3, F4, h3, h4, hd', e'⟩, hd, e⟩ := h
  refine ⟨F3, fun g => F1 g ∨ F4 g, h3, ⟨F1, F4, h1, h4, fun g hg hg4 => hd g hg ((e' g).2 (.inr hg4)), fun g => Iff.rfl⟩, fun g hg hor => ?_, fun g => ?_⟩
  · rcases hor with h | h
    · exact hd g h ((e' g).2 (.inl hg))
    · exact hd' g hg h
  · rw [e, e']; constructor <;> (intro h; rcases h with h | h | h <;> simp [h])
structure St (w0 w : World) (L : List HP) : Prop where
  ext : Ext w0 w
  sep : ∃ F, sepP L F w ∧ ∀ g, F g → w0.heap.size ≤ g
theorem St.nil (w : World) : St w w [] := ⟨.refl _ _, fun _ => False, fun _ h => h, fun _ h => h.elim⟩
theorem St.of_ext {w0 w : World} (h : Ext w0 w) : St w0 w [] := ⟨h, fun _ => False, fun _ h => h, fun _ h => h.elim⟩
theorem St.on {w0 w w' : World} {L : List HP} (h : St w0 w L) (he : Ext w w') : St w0 w' L := by
  obtain ⟨h1, F, h2, h3⟩ := h
  exact ⟨h1.trans he, F, sepP_keep h2 fun g hg => he.block g (sepP_lt h2 hg) fun h => h, h3⟩
theorem St.swap {w0 w : World} {R S : HP} {L : List HP} (h : St w0 w (R :: S :: L)) : St w0 w (S :: R :: L) := by
  obtain ⟨h1, F, h2, h3⟩ := h
  exact ⟨h1, F, sepP_swap h2, h3⟩
theorem St.drop {w0 w : World} {R : HP} {L : List HP} (h : St w0 w (R :: L)) : St w0 w L := by
  obtain ⟨h1, F, ⟨F1, F2, h2, h4, h5, e⟩, h3⟩ := h
  exact ⟨h1, F2, h4, fun g hg => h3 g ((e g).2 (.inr hg))⟩
theorem St.all {w0 w : World} {L : List HP} (h : St w0 w L) : St w0 w [] := St.of_ext h.ext
theorem St.new {w0 w w' : World} {L : List HP} {X : HP} {F' : Nat → Prop} (h : St w0 w L) (he : Ext w w') (hx : X.p F' w') (hf : ∀ g, F' g → w.heap.size ≤ g) : St w0 w' (X :: L) := by
  obtain ⟨h1, F, h2, h3⟩ := h
  refine ⟨h1.trans he, fun g => F' g ∨ F g, ⟨F', F, hx, sepP_keep h2 fun g hg => he.block g (sepP_lt h2 hg) fun h => h, fun g hg hg2 => ?_, fun _ => Iff.rfl⟩, fun g hg => ?_⟩
  · have := hf g hg; have := sepP_lt h2 hg2; omega
  · rcases hg with hg | hg
    · have := hf g hg; have := h1.size; omega
    · exact h3 g hg
theorem St.turn {w0 w w' : World} {L : List HP} {R X : HP} (h : St w0 w (R :: L)) (hx : ∀ F1, R.p F1 w → Only F1 w w' ∧ ∃ F', X.p F' w' ∧ ∀ g, F' g → F1 g ∨ w.heap.size ≤ g) : St w0 w' (X :: L) := by
  obtain ⟨h1, F, ⟨F1, F2, h2, h4, h5, e⟩, h3⟩ := h
  obtain ⟨ho, F', hx, hf⟩ := hx F1 h2
  have hk2 : sepP L F2 w' := sepP_keep h4 fun g hg => ho.block g (sepP_lt h4 hg) fun h => h5 g h hg
  refine ⟨h1.then ho fun g hg => h3 g ((e g).2 (.inl hg)), fun g => F' g ∨ F2 g, ⟨F', F2, hx, hk2, fun g hg hg2 => ?_, fun _ => Iff.rfl⟩, fun g hg => ?_⟩
  · rcases hf g hg with h | h
    · exact h5 g h hg2
    · have := sepP_lt h4 hg2; omega
  · rcases hg with hg | hg
    · rcases hf g hg with h | h
      · exact h3 g ((e g).2 (.inl h))
      · have := h1.size; omega
    · exact h3 g ((e g).2 (.inr hg))
theorem St.look {w0 w : World} {R : HP} {L : List HP} (h : St w0 w (R :: L)) : ∃ F, R.p F w ∧ ∀ g, F g → w0.heap.size ≤ g := by
  obtain ⟨h1, F, ⟨F1, F2, h2, h4, h5, e⟩, h3⟩ := h
  exact ⟨F1, h2, fun g hg => h3 g ((e g).2 (.inl hg))⟩
theorem St.trans {a b c : World} {L : List HP} (h : Ext a b) (k : St b c L) : St a c L := by
  obtain ⟨h1, F, h2, h3⟩ := k
  exact ⟨h.trans h1, F, h2, fun g hg => by have := h3 g hg; have := h.size; omega⟩
theorem St.conv {w0 w : World} {R X : HP} {L : List HP} (h : St w0 w (R :: L)) (hx : ∀ F, R.p F w → X.p F w) : St w0 w (X :: L) := by
  obtain ⟨h1, F, ⟨F1, F2, h2, h4, h5, e⟩, h3⟩ := h
  exact ⟨h1, F, ⟨F1, F2, hx F1 h2, h4, h5, e⟩, h3⟩
class At {α : Type} (L : List HP) (k : α → HP) (x : outParam α) (f : outParam (HP → List HP)) : Prop where
  split : ∃ R, (∀ {F w}, sepP L F w → sepP (k x :: R) F w) ∧ ∀ {X F w}, sepP (X :: R) F w → sepP (f X) F w
instance (priority := high) At.here {α : Type} {L : List HP} {k : α → HP} {x : α} : At (k x :: L) k x (fun X => X :: L) := ⟨⟨L, id, id⟩⟩
instance At.there {α : Type} {L : List HP} {k : α → HP} {x : α} {Y : HP} {f : HP → List HP} [a : At L k x f] : At (Y :: L) k x (fun X => Y :: f X) := by
  constructor
  obtain ⟨R, h1, h2⟩ := a.split
  refine ⟨Y :: R, fun h => sepP_swap ?_, fun h => ?_⟩
  · obtain ⟨F1, F2, k2, k4, k5, e⟩ := h
    exact ⟨F1, F2, k2, h1 k4, k5, e⟩
  · obtain ⟨F1, F2, k2, k4, k5, e⟩ := sepP_swap h
    exact ⟨F1, F2, k2, h2 k4, k5, e⟩
theorem At.out {α : Type} {L : List HP} {k : α → HP} {x : α} {f : HP → List HP} (a : At L k x f) : ∃ R, (∀ {w0 w}, St w0 w L → St w0 w (k x :: R)) ∧ ∀ {X w0 w}, St w0 w (X :: R) → St w0 w (f X) := by
  obtain ⟨R, h1, h2⟩ := a.split
  exact ⟨R, fun ⟨a, F, b, c⟩ => ⟨a, F, h1 b, c⟩, fun ⟨a, F, b, c⟩ => ⟨a, F, h2 b, c⟩⟩
theorem St.look' {α : Type} {w0 w : World} {L : List HP} {k : α → HP} {x : α} {f : HP → List HP} (h : St w0 w L) (a : At L k x f) : ∃ F, (k x).p F w ∧ ∀ g, F g → w0.heap.size ≤ g := by
  obtain ⟨R, h1, h2⟩ := a.out
  exact (h1 h).look
theorem St.turn' {α : Type} {w0 w w' : World} {L : List HP} {k : α → HP} {x : α} {f : HP → List HP} {X : HP} (h : St w0 w L) (a : At L k x f) (hx : ∀ F1, (k x).p F1 w → Only F1 w w' ∧ ∃ F', X.p F' w' ∧ ∀ g, F' g → F1 g ∨ w.heap.size ≤ g) : St w0 w' (f X) := by
  obtain ⟨R, h1, h2⟩ := a.out
  exact h2 ((h1 h).turn hx)
theorem St.conv' {α : Type} {w0 w : World} {L : List HP} {k : α → HP} {x : α} {f : HP → List HP} {X : HP} (h : St w0 w L) (a : At L k x f) (hx : ∀ F, (k x).p F w → X.p F w) : St w0 w (f X) := by
  obtain ⟨R, h1, h2⟩ := a.out
  exact h2 ((h1 h).conv hx)
theorem sepP_front : ∀ {L : List HP} {n : Nat} {X : HP} {F w}, L[n]? = some X → sepP L F w → sepP (X :: L.eraseIdx n) F w
  | [], n, X, F, w, h, _ => by simp at h
  | R :: L, 0, X, F, w, h, hs => by simp at h; subst h; exact hs
  | R :: L, n + 1, X, F, w, h, ⟨F1, F2, h1, h2, h3, h4⟩ => by
    have := sepP_front (L := L) (n := n) (by simpa using h) h2
    exact sepP_swap ⟨F1, F2, h1, this, h3, h4⟩
theorem St.front {w0 w : World} {L : List HP} (h : St w0 w L) (n : Nat) {X : HP} (e : L[n]? = some X) : St w0 w (X :: L.eraseIdx n) := ⟨h.ext, by obtain ⟨F, h1, h2⟩ := h.sep; exact ⟨F, sepP_front e h1, h2⟩⟩
theorem St.rm {w0 w : World} {L : List HP} (h : St w0 w L) (n : Nat) {X : HP} (e : L[n]? = some X) : St w0 w (L.eraseIdx n) := (h.front n e).drop
theorem samec_self {n : Nat} {a : Addr} {w : World} {c : Prop} (hc : c) : samec n a w w c := ⟨fun _ _ => rfl, hc⟩
def blk (g : Nat) (cs : List Value) : HP where
  p F w := (∀ k, F k ↔ k = g) ∧ Blk w g cs.toArray
  lt := fun ⟨e, h⟩ hg => by rw [(e _).1 hg]; exact h.lt
  keep := fun ⟨e, h⟩ hk => ⟨e, by obtain ⟨t, h⟩ := h; exact ⟨t, (hk _ ((e _).2 rfl)).trans h⟩⟩
section
variable {w0 w : World} {L : List HP} {g : Nat} {cs : List Value} {f : HP → List HP}
theorem St.blk (h : St w0 w L) [a : At L (blk g) cs f] : Blk w g cs.toArray := by
  obtain ⟨F, h1, _⟩ := h.look' a
  exact h1.2
theorem newC_h {a : Array Value} {t : TypeId} {c : Addr → World → Prop} (h : St w0 w L) (hc : ∀ g w', St w0 w' (Ev.blk g a.toList :: L) → c ⟨g, 0, none⟩ w') : newC w a t c :=
  newC_i fun g w' hg hs hb he => hc g w' (h.new he (F' := fun k => k = g) ⟨fun _ => Iff.rfl, hb⟩ fun k hk => by omega)
theorem drew_h {c : World → Prop} (h : St w0 w L) (hc : ∀ w', St w0 w' L → c w') : drew w c := drew_i fun w' _ he => hc w' (h.on he)
theorem stC_h {o : Nat} {v : Value} {c : World → Prop} (h : St w0 w L) [a : At L (Ev.blk g) cs f] (h1 : v.oneCell' = true) (ho : o < cs.length) (hc : ∀ w', St w0 w' (f (Ev.blk g (cs.set o v))) → c w') : stC w ⟨g, o, none⟩ v c := by
  refine stC_i h1 h.blk (by simpa using ho) fun w' hb hs hon => hc w' (h.turn' a fun F1 hF => ⟨hon.mono fun k _ hk => (hF.1 k).2 hk, fun k => k = g, ⟨fun _ => Iff.rfl, ?_⟩, fun k hk => .inl ((hF.1 k).2 hk)⟩)
  rw [List.setIfInBounds_toArray] at hb; exact hb
theorem ldI_h {k : IntKind} {o : Nat} {n : Int} {c : Int → Prop} (h : St w0 w L) [a : At L (Ev.blk g) cs f] (hv : cs[o]? = some (.int k n)) (hc : c n) : ldI k w ⟨g, o, none⟩ c := ldI_i (by rw [h.blk.cell]; simpa using hv) hc
theorem ldB_h {o : Nat} {n : Bool} {c : Bool → Prop} (h : St w0 w L) [a : At L (Ev.blk g) cs f] (hv : cs[o]? = some (.bool n)) (hc : c n) : ldB w ⟨g, o, none⟩ c := ldB_i (by rw [h.blk.cell]; simpa using hv) hc
theorem ldP_h {o : Nat} {n : Option Addr} {c : Option Addr → Prop} (h : St w0 w L) [a : At L (Ev.blk g) cs f] (hv : cs[o]? = some (.pointer n)) (hc : c n) : ldP w ⟨g, o, none⟩ c := ldP_i (by rw [h.blk.cell]; simpa using hv) hc
theorem ldS_h {o : Nat} {p : Option Addr} {n m : Nat} {c : Sl → Prop} (h : St w0 w L) [a : At L (Ev.blk g) cs f] (hv : cs[o]? = some (.slice p n m)) (hc : c ⟨p, n, m⟩) : ldS w ⟨g, o, none⟩ c := ldS_i (s := ⟨p, n, m⟩) (by rw [h.blk.cell]; simpa using hv) hc
theorem ldStr_h {o : Nat} {n : ByteArray} {c : ByteArray → Prop} (h : St w0 w L) [a : At L (Ev.blk g) cs f] (hv : cs[o]? = some (.string n)) (hc : c n) : ldStr w ⟨g, o, none⟩ c := by
  have : w.cell? ⟨g, o, none⟩ = some (.string n) := by rw [h.blk.cell]; simpa using hv
  simp [ldStr, rd, this, toStr, hc]
theorem ldM_h {o : Nat} {n : Option Nat} {c : Option Nat → Prop} (h : St w0 w L) [a : At L (Ev.blk g) cs f] (hv : cs[o]? = some (.map n)) (hc : c n) : ldM w ⟨g, o, none⟩ c := by
  have : w.cell? ⟨g, o, none⟩ = some (.map n) := by rw [h.blk.cell]; simpa using hv
  simp [ldM, rd, this, toM, hc]
theorem ldV_h {o : Nat} {v : Value} {c : Value → Prop} (h : St w0 w L) [a : At L (Ev.blk g) cs f] (hv : cs[o]? = some v) (hc : c v) : ldV w ⟨g, o, none⟩ c := ldV_i (by rw [h.blk.cell]; simpa using hv) hc
theorem ldA_h {n o : Nat} {c : Array Value → Prop} (h : St w0 w L) [a : At L (Ev.blk g) cs f] (hl : o + n ≤ cs.length) (hc : c ((cs.drop o).take n).toArray) : ldA n w ⟨g, o, none⟩ c := ldA_i h.blk (by simpa using hl) hc
theorem ldW_h {n : Nat} {c : Array Value → Prop} (h : St w0 w L) [a : At L (Ev.blk g) cs f] (hl : cs.length = n) (hc : c cs.toArray) : ldA n w ⟨g, 0, none⟩ c := by
  refine ldA_h h (by omega) ?_
  rw [List.drop_zero, List.take_of_length_le (by omega)]; exact hc
theorem stA_h {n o : Nat} {vs : Array Value} {c : World → Prop} (h : St w0 w L) [a : At L (Ev.blk g) cs f] (hn : vs.size = n) (hl : o + n ≤ cs.length) (h1 : ∀ v ∈ vs, v.oneCell' = true)
    (hc : ∀ w', St w0 w' (f (Ev.blk g (cs.take o ++ (vs.toList ++ cs.drop (o + n))))) → c w') : stA n w ⟨g, o, none⟩ vs c := by
  refine stA_i h.blk hn (by simpa using hl) h1 fun w' cs' hb hz hk hv hon hs => hc w' (h.turn' a fun F1 hF => ⟨hon.mono fun k _ hk => (hF.1 k).2 hk, fun k => k = g, ⟨fun _ => Iff.rfl, ?_⟩, fun k hk => .inl ((hF.1 k).2 hk)⟩)
  refine blk_eq hb fun j => ?_
  have hz' : cs'.size = cs.length := by simpa using hz
  simp only [List.getElem?_toArray]
  by_cases h1 : j < o
  · rw [hk j (.inl h1)]
    rw [List.getElem?_append_left (by simp; omega), List.getElem?_take_of_lt h1]; simp
  · by_cases h2 : j < o + n
    · have := hv (j - o) (by omega)
      rw [show o + (j - o) = j by omega] at this
      rw [this]
      rw [List.getElem?_append_right (by simp; omega), List.getElem?_append_left (by simp; omega)]
      simp only [List.length_take, Array.getElem?_toList]
      congr 1; omega
    · rw [hk j (.inr (by omega))]
      rw [List.getElem?_append_right (by simp; omega), List.getElem?_append_right (by simp; omega), List.getElem?_drop]
      simp only [List.length_take, List.getElem?_toArray, Array.length_toList]
      congr 1; omega
theorem stW_h {n : Nat} {vs : Array Value} {c : World → Prop} (h : St w0 w L) [a : At L (Ev.blk g) cs f] (hl : cs.length = n) (hn : vs.size = n) (h1 : ∀ v ∈ vs, v.oneCell' = true) (hc : ∀ w', St w0 w' (f (Ev.blk g vs.toList)) → c w') : stA n w ⟨g, 0, none⟩ vs c :=
  stA_h h hn (by omega) h1 fun w' h' => hc w' (by
    have e : cs.take 0 ++ (vs.toList ++ cs.drop (0 + n)) = vs.toList := by simp [List.drop_eq_nil_of_le, hl]
    rwa [e] at h')
theorem samec_h {w0' w' : World} {L' : List HP} {f' : HP → List HP} {n o : Nat} {c : Prop} (h : St w0 w L) (h' : St w0' w' L') [a : At L (Ev.blk g) cs f] [a' : At L' (Ev.blk g) cs f'] (hc : c) : samec n ⟨g, o, none⟩ w w' c := samec_B h.blk h'.blk hc
end
structure OwnS (sz : Nat) (w : World) (s : Sl) (vs : List Value) : Prop where
  len : vs.length = s.n * sz
  cap : s.n ≤ s.c
  max : s.c ≤ 9223372036854775807
  one : ∀ x ∈ vs, x.oneCell' = true
  row : (s.a = none ∧ s.c = 0) ∨ ∃ g off cs, s.a = some ⟨g, off, none⟩ ∧ Blk w g cs ∧ off + s.c * sz ≤ cs.size ∧ ∀ i v, vs[i]? = some v → cs[off + i]? = some v
theorem OwnS.keep {sz : Nat} {w w' : World} {s : Sl} {vs : List Value} (h : OwnS sz w s vs) (hk : ∀ g, s.blk = some g → w'.heap[g]? = w.heap[g]?) : OwnS sz w' s vs := by
  refine ⟨h.len, h.cap, h.max, h.one, h.row.imp id ?_⟩
  rintro ⟨g, off, cs, h1, h2, h3⟩
  refine ⟨g, off, cs, h1, ?_, h3⟩
  obtain ⟨t, h2⟩ := h2
  exact ⟨t, (hk g (by simp [Sl.blk, h1])).trans h2⟩
theorem OwnS.sls {sz : Nat} {w : World} {s : Sl} {vs : List Value} (h : OwnS sz w s vs) : Sls sz w s vs := by
  refine ⟨h.len, fun i v hv => ?_⟩
  rcases h.row with ⟨h1, h2⟩ | ⟨g, off, cs, h1, h3, _, h5⟩
  · have h0 := h.cap
    have h6 : i < vs.length := (List.getElem?_eq_some_iff.1 hv).1
    have h7 := h.len
    have : s.n = 0 := by omega
    have h8 : vs.length = 0 := by rw [h7, this]; simp
    omega
  · exact ⟨_, h1, by rw [add_mk, h3.cell]; exact h5 i v hv⟩
def slc (sz : Nat) (s : Sl) (vs : List Value) : HP where
  p F w := (∀ k, F k ↔ s.blk = some k) ∧ OwnS sz w s vs
  lt := fun ⟨e, h⟩ hg => by
    have hg := (e _).1 hg
    rcases h.row with ⟨h1, _⟩ | ⟨g', off, cs, h1, h3, _⟩
    · simp [Sl.blk, h1] at hg
    · simp [Sl.blk, h1] at hg; subst hg; exact h3.lt
  keep := fun ⟨e, h⟩ hk => ⟨e, h.keep fun g hg => hk g ((e g).2 hg)⟩
section
variable {w0 w : World} {L : List HP} {sz : Nat} {s : Sl} {vs : List Value} {f : HP → List HP}
theorem St.own (h : St w0 w L) [a : At L (slc sz s) vs f] : OwnS sz w s vs := by
  obtain ⟨F, h1, _⟩ := h.look' a
  exact h1.2
theorem St.slen (h : St w0 w L) [a : At L (slc sz s) vs f] : vs.length = s.n * sz := h.own.len
theorem OwnS.nil (sz : Nat) (w : World) : OwnS sz w ⟨none, 0, 0⟩ [] := ⟨by simp, Nat.le_refl _, by simp, by simp, .inl ⟨rfl, rfl⟩⟩
theorem St.nilS (h : St w0 w L) (sz : Nat) : St w0 w (slc sz ⟨none, 0, 0⟩ [] :: L) := by
  exact h.new (.refl _ _) (F' := fun _ => False) ⟨fun k => by simp [Sl.blk], OwnS.nil sz w⟩ fun _ h => h.elim
theorem OwnS.new {g n : Nat} {l : List Value} (hb : Blk w g l.toArray) (hn : l.length = n * sz) (hm : n ≤ 9223372036854775807) (h1 : ∀ x ∈ l, x.oneCell' = true) : OwnS sz w ⟨some ⟨g, 0, none⟩, n, n⟩ l :=
  ⟨hn, Nat.le_refl _, hm, h1, .inr ⟨g, 0, l.toArray, rfl, hb, by simp [hn], fun i v hv => by simpa using hv⟩⟩
theorem ixS_h {i : Int} {c : Addr → Prop} (h : St w0 w L) [a : At L (slc sz s) vs f] (hsz : 0 < sz) (h0 : 0 ≤ i) (h1 : i < s.n)
    (hc : ∀ g o, s.blk = some g → (∀ {w' L' f'}, St w0 w' L' → [At L' (slc sz s) vs f'] → ∀ j v, j < sz → vs[i.toNat * sz + j]? = some v → w'.cell? ⟨g, o + j, none⟩ = some v) →
      (∀ {w' : World} {L' : List HP} {vs' : List Value} {f' : HP → List HP} (h' : St w0 w' L') (a' : At L' (slc sz s) vs' f') (j : Nat) (v : Value) (c' : World → Prop), j < sz → v.oneCell' = true →
        (∀ w'', St w0 w'' (f' (slc sz s (vs'.set (i.toNat * sz + j) v))) → c' w'') → stC w' ⟨g, o + j, none⟩ v c') → c ⟨g, o, none⟩) : ixS s i sz c := by
  have ho : OwnS sz w s vs := h.own
  have hi : i.toNat < s.n := by omega
  have hlt : i.toNat * sz + sz ≤ s.n * sz := by
    rw [← Nat.succ_mul]; exact Nat.mul_le_mul_right _ hi
  rcases ho.row with ⟨h2, h3⟩ | ⟨g, off, cs, h2, h3, h4, h5⟩
  · have := ho.cap; omega
  · unfold ixS
    rw [h2]
    refine ⟨⟨h0, h1⟩, ?_⟩
    rw [add_mk]
    refine hc g _ (by simp [Sl.blk, h2]) ?_ ?_
    · intro w' L' f' h' a' j v hj hv
      obtain ⟨p, hp, hcl⟩ := (h'.own (sz := sz) (s := s) (vs := vs)).sls.cell _ v hv
      rw [h2] at hp; cases hp
      rw [add_mk] at hcl
      rw [Nat.add_assoc]; exact hcl
    · intro w' L' vs' f' h' a' j v c' hj hv1 hc'
      have ho' : OwnS sz w' s vs' := h'.own
      rcases ho'.row with ⟨h2', _⟩ | ⟨g', off', cs', h2', h3', h4', h5'⟩
      · rw [h2] at h2'; cases h2'
      · rw [h2] at h2'; cases h2'
        have hc1 := ho'.cap
        have hcsz : s.n * sz ≤ s.c * sz := Nat.mul_le_mul_right _ hc1
        refine stC_i hv1 h3' (by omega) fun w'' hb hs hon => hc' w'' (h'.turn' a' fun F1 hF => ⟨hon.mono fun k _ hk => (hF.1 k).2 (by simp [Sl.blk, h2, hk]), F1, ⟨hF.1, ?_⟩, fun k hk => .inl hk⟩)
        refine ⟨by rw [List.length_set]; exact ho'.len, ho'.cap, ho'.max, fun x hx => ?_, .inr ⟨g, off, _, h2, hb, by simpa using h4', fun k u hk => ?_⟩⟩
        · rcases List.mem_or_eq_of_mem_set hx with hx | rfl
          · exact ho'.one x hx
          · exact hv1
        · by_cases hkj : i.toNat * sz + j = k
          · subst hkj
            have hlt2 : i.toNat * sz + j < vs'.length := by rw [ho'.len]; omega
            rw [List.getElem?_set_self hlt2] at hk
            cases hk
            rw [show off + i.toNat * sz + j = off + (i.toNat * sz + j) by omega, Array.getElem?_setIfInBounds_self, if_pos (by rw [ho'.len] at hlt2; omega)]
          · rw [List.getElem?_set_ne hkj] at hk
            rw [Array.getElem?_setIfInBounds_ne (by omega)]
            exact h5' k u hk
def elInfo (P : Program) (t : TypeId) : Option (Nat × Nat × Option Value) := match P.underlying t with
  | some (.slice e) => (P.info? e).map fun i => (i.size, i.bytes, i.zero)
  | _ => none
structure ElS (P : Program) (t : TypeId) (sz b : Nat) (z : Value) : Prop where
  info : elInfo P t = some (sz, b, some z)
  size : z.cells.size = sz
theorem ElS.out {P : Program} {t : TypeId} {b : Nat} {z : Value} (h : ElS P t sz b z) : ∃ e i, P.underlying t = some (.slice e) ∧ P.info? e = some i ∧ i.size = sz ∧ i.bytes = b ∧ i.zero = some z := by
  have h2 := h.info
  unfold elInfo at h2
  split at h2
  · rename_i e he
    cases hi : P.info? e with
    | none => simp [hi] at h2
    | some i => simp [hi] at h2; exact ⟨e, i, he, hi, h2⟩
  · cases h2
def isSl (P : Program) (t : TypeId) : Bool := match P.underlying t with | some (.slice _) => true | _ => false
theorem isSl_out {P : Program} {t : TypeId} (h : isSl P t = true) : ∃ e, P.underlying t = some (.slice e) := by
  unfold isSl at h
  split at h
  · exact ⟨_, by assumption⟩
  · cases h
theorem firstS_read {P : Program} {x : Sl} {ys : List Value} {n : Nat} (h : Sls sz w x ys) (hn : n ≤ x.n) : (Builtin.firstCells sz n (.slice x.a x.n x.c)).run P w = .ok (ys.take (n * sz)).toArray w := by
  have hlen := h.len
  have hle : n * sz ≤ ys.length := by rw [hlen]; exact Nat.mul_le_mul_right _ hn
  cases ha : x.a with
  | none =>
    have : ys = [] := by
      cases ys with
      | nil => rfl
      | cons v l => obtain ⟨p, hp, _⟩ := h.cell 0 v rfl; rw [ha] at hp; cases hp
    subst this
    rw [List.take_nil]
    exact run_firstCells_none w sz n x.n x.c
  | some p =>
    exact run_firstCells_some w sz n p x.n x.c (ys.take (n * sz)) (by rw [List.length_take]; omega) fun j v hv => by
      rw [List.getElem?_take] at hv
      split at hv
      · obtain ⟨q, hq, hc⟩ := h.cell j v hv
        rw [ha] at hq; cases hq; exact hc
      · cases hv
theorem srcS_of {P : Program} {tx e' : TypeId} (hk : P.underlying tx = some (.slice e')) {x : Sl} {ys : List Value} (h : Sls sz w x ys) (h1 : ∀ v ∈ ys, v.oneCell' = true) : Src P sz tx (.slice x.a x.n x.c) x.n ys w := by
  have e : ys.take (x.n * sz) = ys := List.take_of_length_le (by rw [h.len]; exact Nat.le_refl _)
  refine ⟨.inl ⟨e', hk⟩, fun _ => rfl, ?_, ?_, by rw [h.len], h1⟩
  · have := firstS_read (P := P) h (Nat.le_refl _); rwa [e] at this
  · have := firstS_read (P := P) (h.ext (ext_drew w)) (Nat.le_refl _); rwa [e] at this
theorem OwnS.app {P : Program} {t tx : TypeId} {ty : TypeId} {b : Nat} {z : Value} {x : Sl} {ys : List Value} {c : Sl → World → Prop} (hown : OwnS sz w s vs) (ht : ElS P t sz b z) (hk : isSl P tx = true)
    (hsrc : Sls sz w x ys) (h1 : ∀ v ∈ ys, v.oneCell' = true) (hbytes : (s.n + x.n) * b ≤ 140737488355328) (h63 : s.n + x.n ≤ 9223372036854775807)
    (hc : ∀ s' w', OwnS sz w' s' (vs ++ ys) → Only (fun k => s.blk = some k) w w' → (s'.blk = s.blk ∨ ∃ g, s'.blk = some g ∧ w.heap.size ≤ g) → s'.n = s.n + x.n → c s' w') :
    bApp P #[t, tx] ty [.slice s.a s.n s.c, .slice x.a x.n x.c] w c := by
  obtain ⟨e, i, hte, hi, hsz, hby, hzi⟩ := ht.out
  obtain ⟨e', hk⟩ := isSl_out hk
  have hs := srcS_of (P := P) hk hsrc h1
  have hyl := hsrc.len
  have hlen := hown.len
  have hone : ∀ v ∈ vs ++ ys, v.oneCell' = true := fun v hv => (List.mem_append.1 hv).elim (hown.one v) (h1 v)
  have hmul : (s.n + x.n) * sz = s.n * sz + x.n * sz := Nat.add_mul _ _ _
  unfold bApp
  by_cases hroom : s.n + x.n ≤ s.c
  · rcases hown.row with ⟨h2, h3⟩ | ⟨g, off, cs, h2, h4, h5, h6⟩
    · have hx0 : x.n = 0 := by omega
      have hs0 : s.n = 0 := by omega
      have hys : ys = [] := List.eq_nil_of_length_eq_zero (by rw [hyl, hx0, Nat.zero_mul])
      have hxs : vs = [] := List.eq_nil_of_length_eq_zero (by rw [hlen, hs0, Nat.zero_mul])
      subst hys; subst hxs
      rw [h2, hs0, h3]
      have hr : (Builtin.append_ #[t, tx] ty #[.slice none 0 0, .slice x.a x.n x.c]).run P w = .ok (.slice none 0 0) w := by
        have hk' := hs.cells
        simp only [List.toArray] at hk'
        have hlen := hs.len w
        rw [hx0] at hlen hk' ⊢
        simp [Builtin.append_, run_underlying hte, run_underlying hk, sizeOf, typeInfo, hi, hsz, Builtin.lenOf, Builtin.firstCells] at hk' ⊢
        cases hxa : x.a <;> simp [Builtin.firstCells, hxa, loadCells, loadCellsFrom]
      simp only [List.toArray] at *
      rw [hr]
      show c ⟨none, 0, 0⟩ w
      exact hc _ _ (by simpa using OwnS.nil sz w) (.refl _ _) (.inl (by simp [Sl.blk, h2])) (by rw [hs0, hx0])
    · obtain ⟨ee, h4'⟩ := h4
      have hcap : (s.n + x.n) * sz ≤ s.c * sz := Nat.mul_le_mul_right _ hroom
      have hcell : ∀ j, j < ys.length → (w.cell? ⟨g, off + s.n * i.size + j, none⟩).isSome = true := by
        intro j hj
        rw [hsz, (show Blk w g cs from ⟨ee, h4'⟩).cell]
        have : off + s.n * sz + j < cs.size := by omega
        simp [this]
      have hfro : ∀ j, j < ys.length → w.frozen? ⟨g, off + s.n * i.size + j, none⟩ = false := fun j _ => (show Blk w g cs from ⟨ee, h4'⟩).frozen _
      rw [← hsz] at hs
      have hr := run_append_room_src w t tx ty e i hte hi g off s.n s.c _ x.n ys hs hroom hcell hfro
      obtain ⟨cs', k1, k2, k3, k4, k5, k6⟩ := setCells_blk ys w g (off + s.n * sz) cs h4' (by omega)
      rw [hsz] at hr
      rw [h2]
      simp only [List.toArray] at *
      rw [hr]
      show c ⟨some ⟨g, off, none⟩, s.n + x.n, s.c⟩ _
      refine hc _ _ ⟨by simp; omega, hroom, hown.max, hone, .inr ⟨g, off, cs', rfl, ⟨ee, k1⟩, by rw [k2]; exact h5, fun j v hv => ?_⟩⟩ (k5.mono fun k _ hk => by simp [Sl.blk, h2, hk]) (.inl (by simp [Sl.blk, h2])) rfl
      by_cases hj : j < vs.length
      · rw [List.getElem?_append_left hj] at hv
        rw [k3 _ (by omega)]
        exact h6 j v hv
      · rw [List.getElem?_append_right (by omega)] at hv
        have := k4 _ v hv
        rwa [show off + s.n * sz + (j - vs.length) = off + j by omega] at this
  · have hg : s.c < s.n + x.n := by omega
    have hfit : Builtin.nextslicecap (s.n + x.n) s.c * i.bytes ≤ 281474976710656 := growslice_fits hg (by rw [hby]; exact hbytes)
    have e0 : vs.take (s.n * sz) = vs := List.take_of_length_le (by omega)
    have hold := firstS_read (P := P) (hown.sls.ext (ext_drew w)) (Nat.le_refl _)
    rw [e0] at hold
    rw [← hsz] at hold hs
    have hr := run_append_grow_src w t tx ty e i z hte hi hzi s.a s.n s.c vs hold _ x.n ys hs hg (by omega) hfit
    simp only [List.toArray] at *
    rw [hr]
    have hge := grownCap_ge w (s.n + x.n) s.c e
    have hcm := grownCap_le_maxLen w (s.n + x.n) s.c e (by unfold maxLen; omega)
    unfold maxLen at hcm
    show c ⟨some ⟨w.heap.size, 0, none⟩, s.n + x.n, _⟩ _
    have hzs : z.cells.size = sz := ht.size
    refine hc _ _ ⟨by simp; omega, hge, hcm, hone, .inr ⟨w.heap.size, 0, _, rfl, Blk.new w.drew _ e, ?_, fun j v hv => ?_⟩⟩ (Ext.only ((ext_drew w).trans (ext_alloc _ _))) (.inr ⟨w.heap.size, rfl, Nat.le_refl _⟩) rfl
    · have h9 : (s.n + x.n) * sz ≤ grownCap w (s.n + x.n) s.c e * sz := Nat.mul_le_mul_right _ hge
      rw [Array.size_append, size_zeroCells, hzs, Nat.sub_mul]
      simp only [List.size_toArray, List.length_append]
      omega
    · have hj : j < (vs ++ ys).length := (List.getElem?_eq_some_iff.1 hv).1
      rw [Nat.zero_add, Array.getElem?_append_left (by simpa using hj)]
      simpa using hv
theorem bApp_h {P : Program} {t tx : TypeId} {ty : TypeId} {b : Nat} {z : Value} {x : Sl} {ys : List Value} {c : Sl → World → Prop} (h : St w0 w L) [a : At L (slc sz s) vs f] (ht : ElS P t sz b z) (hk : isSl P tx = true)
    (hsrc : Sls sz w x ys) (h1 : ∀ v ∈ ys, v.oneCell' = true) (hbytes : (s.n + x.n) * b ≤ 140737488355328) (h63 : s.n + x.n ≤ 9223372036854775807)
    (hc : ∀ s' w', St w0 w' (f (slc sz s' (vs ++ ys))) → s'.n = s.n + x.n → c s' w') : bApp P #[t, tx] ty [.slice s.a s.n s.c, .slice x.a x.n x.c] w c :=
  OwnS.app h.own ht hk hsrc h1 hbytes h63 fun s' w' ho hon hb hn => hc s' w' (h.turn' a fun F1 hF => ⟨hon.mono fun k _ hk => (hF.1 k).2 hk, fun k => s'.blk = some k, ⟨fun _ => Iff.rfl, ho⟩, fun k hk => by
    rcases hb with hb | ⟨g, hg, hge⟩
    · exact .inl ((hF.1 k).2 (by rw [← hb]; exact hk))
    · rw [hg] at hk; cases hk; exact .inr hge⟩) hn
theorem OwnS.off {d : Sl} {ys : List Value} {lo : Nat} (h : OwnS sz w s vs) (hy : ys.length = d.n * sz) (hc : d.n ≤ d.c) (hcc : lo + d.c ≤ s.c) (ha : d.a = s.a.map (·.add (lo * sz)) ∨ (d.a = s.a ∧ d.c = 0)) (hv : ∀ i v, ys[i]? = some v → vs[lo * sz + i]? = some v) : OwnS sz w d ys := by
  have hmax := h.max
  have hm : (lo + d.c) * sz ≤ s.c * sz := Nat.mul_le_mul_right _ hcc
  rw [Nat.add_mul] at hm
  refine ⟨hy, hc, by omega, fun x hx => ?_, ?_⟩
  · obtain ⟨i, hi, rfl⟩ := List.getElem_of_mem hx
    have := hv i ys[i] (by simp [hi])
    exact h.one _ (List.mem_of_getElem? this)
  · rcases h.row with ⟨h1, h2⟩ | ⟨g, off, cs, h1, h3, h4, h5⟩
    · refine .inl ⟨?_, by omega⟩
      rcases ha with ha | ⟨ha, _⟩ <;> rw [ha, h1] <;> rfl
    · rcases ha with ha | ⟨ha, hd0⟩
      · exact .inr ⟨g, off + lo * sz, cs, by rw [ha, h1]; simp, h3, by omega, fun i v hi => by rw [Nat.add_assoc]; exact h5 _ _ (hv i v hi)⟩
      · have hy0 : ys = [] := List.eq_nil_of_length_eq_zero (by rw [hy]; have : d.n = 0 := by omega
                                                                rw [this, Nat.zero_mul])
        subst hy0
        exact .inr ⟨g, off, cs, by rw [ha, h1], h3, by rw [hd0, Nat.zero_mul]; omega, fun i v hi => by simp at hi⟩
theorem slL_h {lo : Int} {c : Sl → Prop} (h : St w0 w L) [a : At L (slc sz s) vs f] (h0 : 0 ≤ lo) (h1 : lo ≤ s.n)
    (hc : ∀ d : Sl, d.n = s.n - lo.toNat → St w0 w (f (slc sz d (vs.drop (lo.toNat * sz)))) → c d) : slL s sz lo c := by
  have ho : OwnS sz w s vs := h.own
  have hcap := ho.cap; have hlen := ho.len
  refine ⟨⟨h0, h1⟩, hc _ rfl (h.conv' a fun F hF => ⟨fun k => ?_, ho.off (lo := lo.toNat) (by simp [hlen, Nat.sub_mul]) (by simp; omega) (by simp; omega) ?_ fun i v hi => by simpa using hi⟩)⟩
  · rw [hF.1]
    by_cases hq : s.c = lo.toNat
    · simp [Sl.blk, hq]
    · simp only [Sl.blk, hq, if_false]
      cases s.a with
      | none => simp
      | some p => simp [Addr.add]; split <;> rfl
  · by_cases hq : s.c = lo.toNat
    · right; simp [hq]
    · left; simp [hq]
theorem mkSl_h {P : Program} {t : TypeId} {b : Nat} {z : Value} {n : Nat} {kl kc : IntKind} {c : Sl → World → Prop} (h : St w0 w L) (ht : ElS P t 1 b z) (hz1 : z.oneCell' = true)
    (hbytes : b * n ≤ 281474976710656) (h63 : n ≤ 9223372036854775807)
    (hc : ∀ s w', St w0 w' (slc 1 s (List.replicate n z) :: L) → s.n = n → c s w') : mkSl P t (.int kl (n : Int)) (.int kc (n : Int)) w c := by
  obtain ⟨e, i, hte, hi, hsz, hby, hzi⟩ := ht.out
  refine mkSl_i (B := w.heap.size) (e := e) ⟨hte, by rw [hi]; simp [hsz, hby, hzi]⟩ hz1 (Nat.le_refl _) hbytes h63 fun s w' ho he h1 h2 h3 h4 => hc s w' (h.new he (F' := fun k => s.blk = some k) ⟨fun _ => Iff.rfl, ?_⟩ fun k hk => ?_) h1
  · refine ⟨by simp [h1], ho.cap, ho.max, ho.one, ho.row.imp id ?_⟩
    rintro ⟨g, off, cs, e1, e2, e3, e4, e5⟩
    exact ⟨g, off, cs, e1, e3, by simpa using e4, e5⟩
  · rw [h3] at hk; cases hk; exact Nat.le_refl _
def sepHP (A : List HP) : HP where
  p := sepP A
  lt := sepP_lt
  keep := sepP_keep
def exHP {α : Type} (X : α → HP) : HP where
  p F w := ∃ a, (X a).p F w
  lt := fun ⟨a, h⟩ hg => (X a).lt h hg
  keep := fun ⟨a, h⟩ hk => ⟨a, (X a).keep h hk⟩
def pureHP (p : Prop) (X : HP) : HP where
  p F w := p ∧ X.p F w
  lt := fun ⟨_, h⟩ hg => X.lt h hg
  keep := fun ⟨a, h⟩ hk => ⟨a, X.keep h hk⟩
theorem sepP_assoc : ∀ {A B : List HP} {F w}, sepP (sepHP A :: B) F w ↔ sepP (A ++ B) F w
  | [], B, F, w => by
    constructor
    · rintro ⟨F1, F2, h1, h2, _, e⟩
      exact sepP_iff (fun g => by rw [e]; exact ⟨.inr, fun h => h.elim (fun h => (h1 g h).elim) id⟩) h2
    · intro h
      exact ⟨fun _ => False, F, fun g hg => hg, h, fun g hg => hg.elim, fun g => by simp⟩
  | R :: A, B, F, w => by
    constructor
    · rintro ⟨F1, F2, ⟨G1, G2, k1, k2, kd, ke⟩, h2, hd, e⟩
      refine ⟨G1, fun g => G2 g ∨ F2 g, k1, sepP_assoc.1 ⟨G2, F2, k2, h2, fun g hg => hd g ((ke g).2 (.inr hg)), fun _ => Iff.rfl⟩, fun g hg hor => ?_, fun g => ?_⟩
      · rcases hor with h | h
        · exact kd g hg h
        · exact hd g ((ke g).2 (.inl hg)) h
      · rw [e, ke, or_assoc]
    · rintro ⟨G1, G2, k1, k2, kd, ke⟩
      obtain ⟨F1, F2, h1, h2, hd, e⟩ := sepP_assoc.2 k2
      refine ⟨fun g => G1 g ∨ F1 g, F2, ⟨G1, F1, k1, h1, fun g hg hf => kd g hg ((e g).2 (.inl hf)), fun _ => Iff.rfl⟩, h2, fun g hg hf => ?_, fun g => ?_⟩
      · rcases hg with h | h
        · exact kd g h ((e g).2 (.inr hf))
        · exact hd g h hf
      · rw [ke, e, or_assoc]
theorem St.open {A B : List HP} (h : St w0 w (sepHP A :: B)) : St w0 w (A ++ B) := ⟨h.ext, by obtain ⟨F, h1, h2⟩ := h.sep; exact ⟨F, sepP_assoc.1 h1, h2⟩⟩
theorem St.shut {A B : List HP} (h : St w0 w (A ++ B)) : St w0 w (sepHP A :: B) := ⟨h.ext, by obtain ⟨F, h1, h2⟩ := h.sep; exact ⟨F, sepP_assoc.2 h1, h2⟩⟩
theorem St.some {α : Type} {X : α → HP} (h : St w0 w (exHP X :: L)) : ∃ a, St w0 w (X a :: L) := by
  obtain ⟨h1, F, ⟨F1, F2, ⟨a, h2⟩, h4⟩, h3⟩ := h
  exact ⟨a, h1, F, ⟨F1, F2, h2, h4⟩, h3⟩
theorem St.ex {α : Type} {X : α → HP} (a : α) (h : St w0 w (X a :: L)) : St w0 w (exHP X :: L) := h.conv fun F hF => ⟨a, hF⟩
theorem St.pure {p : Prop} {X : HP} (h : St w0 w (pureHP p X :: L)) : p ∧ St w0 w (X :: L) := by
  obtain ⟨F, hF, _⟩ := h.look
  exact ⟨hF.1, h.conv fun F hF => hF.2⟩
theorem ints_getD {xs : List Int} {i : Nat} (h : i < xs.length) : (ints xs)[i]? = some (.int .i64 (xs.getD i 0)) := by
  simp [ints, List.getD_eq_getElem?_getD, h]
theorem ixI_h {xs : List Int} {i : Int} {c : Int → Prop} (h : St w0 w L) [a : At L (slc 1 s) (ints xs) f] (h0 : 0 ≤ i) (h1 : i < xs.length) (hc : c (xs.getD i.toNat 0)) : ixS s i 1 fun a => ldI .i64 w a c := by
  have hn : xs.length = s.n := by have := h.slen (sz := 1) (s := s) (vs := ints xs); simpa using this
  refine ixS_h h (by omega) h0 (by omega) fun g o _ hr _ => ldI_i ?_ hc
  have := hr h 0 _ (by omega) (ints_getD (i := i.toNat * 1 + 0) (by omega))
  simpa using this
theorem ixIst_h {xs : List Int} {i : Int} {x : Int} {c : World → Prop} (h : St w0 w L) [a : At L (slc 1 s) (ints xs) f] (h0 : 0 ≤ i) (h1 : i < xs.length) (hc : ∀ w', St w0 w' (f (slc 1 s (ints (xs.set i.toNat x)))) → c w') : ixS s i 1 fun a => stC w a (.int .i64 x) c := by
  have hn : xs.length = s.n := by have := h.slen (sz := 1) (s := s) (vs := ints xs); simpa using this
  refine ixS_h h (by omega) h0 (by omega) fun g o _ _ hs => ?_
  have := hs h a 0 (.int .i64 x) c (by omega) rfl fun w' h' => hc w' (by
    have e : (ints xs).set (i.toNat * 1 + 0) (.int .i64 x) = ints (xs.set i.toNat x) := by simp [ints, List.map_set]
    rwa [e] at h')
  simpa using this
theorem samec_1 {a : Addr} {v : Value} {w' : World} {c : Prop} (h : w.cell? a = some v) (h' : w'.cell? a = some v) (hc : c) : samec 1 a w w' c :=
  ⟨fun k hk => by
    have : k = 0 := by omega
    subst this
    rw [add_zero, h, h'], hc⟩
end
theorem ixR_h {w0 w : World} {L : List HP} {sz : Nat} {s : Sl} {es : List (List Value)} {e : List Value} {i : Int} {c : Addr → Prop} (hR : Rws sz w0 s es) (h : St w0 w L) (h0 : 0 ≤ i) (he : es[i.toNat]? = some e)
    (hc : ∀ p : Addr, (∀ {w' L'}, St w0 w' L' → ∀ {j v}, e[j]? = some v → w'.cell? (p.add j) = some v) → c p) : ixS s i sz c := by
  have hlen := hR.len
  have hlt := (List.getElem?_eq_some_iff.1 he).1
  refine ixR_i hR h0 (by omega) fun p e' he' hl hcell => hc p fun {w' L'} hS {j v} hv => ?_
  rw [he] at he'; cases he'
  exact hS.ext.cell (hcell j v hv)
theorem St.same {α : Type} {w0 w : World} {L : List HP} {k : α → HP} {x : α} {f : HP → List HP} (h : St w0 w L) (a : At L k x f) : St w0 w (f (k x)) := by
  obtain ⟨R, h1, h2⟩ := a.out
  exact h2 (h1 h)
theorem callF_i {orc : Oracle} {id : FuncId} {first captured args : Array Value} {w : World} {c : Value → World → Prop} {d : Dec} (e : ∀ args w c, orc (.func id) args w c = d args.toList w c) (h : d (first ++ args ++ captured).toList w c) : callF orc (.func (.func id) first captured) args w c := by
  show orc (.func id) (first ++ args ++ captured) w c
  rw [e]; exact h
end Go.Ev
namespace Go.Ev
open Go Go.RowKit
def obj (g : Nat) (o : Obj) : HP where
  p F w := (∀ k, F k ↔ k = g) ∧ w.heap[g]? = some o
  lt := fun ⟨e, h⟩ hg => by rw [(e _).1 hg]; exact (Array.getElem?_eq_some_iff.1 h).1
  keep := fun ⟨e, h⟩ hk => ⟨e, (hk _ ((e _).2 rfl)).trans h⟩
def mks (ds : List Nat) : HP where
  p F w := ds.Nodup ∧ (∀ k, F k ↔ k ∈ ds) ∧ ∀ D ∈ ds, w.heap[D]? = some (.deferred (some []))
  lt := fun ⟨_, e, h⟩ hg => (Array.getElem?_eq_some_iff.1 (h _ ((e _).1 hg))).1
  keep := fun ⟨n, e, h⟩ hk => ⟨n, e, fun D hD => (hk _ ((e _).2 hD)).trans (h D hD)⟩
theorem putObj_only (w : World) (g : Nat) (o : Obj) : Only (fun k => k = g) w (w.putObj g o) :=
  ⟨rfl, rfl, rfl, by simp [World.putObj], fun k _ hn => World.putObj_heap_other hn⟩
theorem alloc_ext (w : World) (o : Obj) : Ext w (w.alloc o) :=
  ⟨rfl, rfl, rfl, by show w.heap.size ≤ (w.heap.push o).size; simp, fun k hk _ => by show (w.heap.push o)[k]? = _; rw [Array.getElem?_push_lt hk]; simp [hk]⟩
section
variable {w0 w : World} {L : List HP} {g : Nat} {f : HP → List HP}
theorem obj_at {o : Obj} (h : St w0 w L) [a : At L (Ev.obj g) o f] : w.heap[g]? = some o := by
  obtain ⟨F, h1, _⟩ := h.look' a
  exact h1.2
theorem putObj_h {o : Obj} (o' : Obj) (h : St w0 w L) [a : At L (Ev.obj g) o f] : St w0 (w.putObj g o') (f (Ev.obj g o')) := by
  have hlt := (Array.getElem?_eq_some_iff.1 (obj_at (g := g) (o := o) h)).1
  exact h.turn' a fun F1 hF => ⟨(putObj_only w g o').mono fun k _ hk => (hF.1 k).2 hk, fun k => k = g, ⟨fun _ => Iff.rfl, World.putObj_heap_same hlt⟩, fun k hk => .inl ((hF.1 k).2 hk)⟩
theorem alloc_h (o : Obj) (h : St w0 w L) : St w0 (w.alloc o) (Ev.obj w.heap.size o :: L) :=
  h.new (alloc_ext w o) (F' := fun k => k = w.heap.size) ⟨fun _ => Iff.rfl, World.alloc_heap_new w o⟩ fun k hk => Nat.le_of_eq hk.symm
theorem mks_nil (h : St w0 w L) : St w0 w (mks [] :: L) :=
  h.new (.refl _ _) (F' := fun _ => False) ⟨.nil, fun k => by simp, fun D hD => by cases hD⟩ fun _ h => h.elim
theorem mks_cons {D : Nat} {ds : List Nat} (h : St w0 w (Ev.obj D (.deferred (some [])) :: mks ds :: L)) : St w0 w (mks (D :: ds) :: L) := by
  obtain ⟨h1, F, ⟨F1, F2, ⟨e1, k1⟩, ⟨F3, F4, ⟨n3, e3, k3⟩, h4, d34, e34⟩, d12, e12⟩, h3⟩ := h
  have hn : D ∉ ds := fun hD => d12 D ((e1 D).2 rfl) ((e34 D).2 (.inl ((e3 D).2 hD)))
  refine ⟨h1, F, ⟨fun k => F1 k ∨ F3 k, F4, ⟨List.nodup_cons.2 ⟨hn, n3⟩, fun k => by simp [e1, e3], fun D' hD => ?_⟩, h4, fun k hk h4k => ?_, fun k => ?_⟩, h3⟩
  · rcases List.mem_cons.1 hD with rfl | hD
    · exact k1
    · exact k3 D' hD
  · rcases hk with hk | hk
    · exact d12 k hk ((e34 k).2 (.inr h4k))
    · exact d34 k hk h4k
  · rw [e12, e34]; exact or_assoc.symm
theorem mks_uncons {D : Nat} {ds : List Nat} (h : St w0 w (mks (D :: ds) :: L)) : St w0 w (Ev.obj D (.deferred (some [])) :: mks ds :: L) := by
  obtain ⟨h1, F, ⟨F1, F4, ⟨n, e1, k1⟩, h4, d14, e14⟩, h3⟩ := h
  obtain ⟨hn, n3⟩ := List.nodup_cons.1 n
  refine ⟨h1, F, ⟨fun k => k = D, fun k => k ∈ ds ∨ F4 k, ⟨fun _ => Iff.rfl, k1 D (by simp)⟩, ⟨fun k => k ∈ ds, F4, ⟨n3, fun _ => Iff.rfl, fun D' hD => k1 D' (by simp [hD])⟩, h4, fun k hk h4k => d14 k ((e1 k).2 (by simp [hk])) h4k, fun _ => Iff.rfl⟩, fun k hk hor => ?_, fun k => ?_⟩, h3⟩
  · subst hk
    rcases hor with h | h
    · exact hn h
    · exact d14 k ((e1 k).2 (by simp)) h
  · rw [e14, e1]; simp [or_assoc]
theorem takeP_h : ∀ {ds : List Nat} {w : World} {c : World → Prop}, St w0 w (mks ds :: L) → (∀ w', St w0 w' L → c w') → takeP ds w c
  | [], w, c, h, hc => hc w h.drop
  | D :: ds, w, c, h, hc => by
    have h := mks_uncons h
    refine ⟨obj_at h, takeP_h (St.drop (R := Ev.obj D (.deferred none)) (putObj_h (g := D) (o := .deferred (some [])) (f := fun X => X :: mks ds :: L) (.deferred none) h)) hc⟩
def rY (l : Nat) (R : LoopState → Obj) (kk : List K) (body : KT kk → World → (World → Prop) → Prop) : Nat → Dec := fun n args w1 c =>
  n = l ∧ w1.heap[l]? = some (R .ready) ∧ unL kk args fun y => body y (w1.putObj l (R .busy)) fun w4 => w4.heap[l]? = some (R .busy) ∧ c (.bool true) (w4.putObj l (R .ready))
theorem rangeF_h {I : OrcI} {kk : List K} {gf : FuncId} {first lb : Array Value} {body : KT kk → World → (World → Prop) → Prop} {fin : Nat → World → Prop} (h : St w0 w L)
    (hI : ∀ (l D : Nat) (R : LoopState → Obj) (w1 : World), St w0 w1 (obj l (R .ready) :: obj D (.deferred (some [])) :: L) →
      I gf (rY l R kk body) (first.toList ++ (.func (.yield l) #[] #[] :: lb.toList)) w1 fun _ w5 => w5.heap[l]? = some (R .ready) ∧ fin D (w5.putObj l (R .exhausted))) :
    rangeF I kk (.func (.func gf) first lb) w body fin := by
  intro R hR
  have h1 := alloc_h (R .ready) (alloc_h (.deferred (some [])) h)
  have e : (w.alloc (.deferred (some []))).heap.size = w.heap.size + 1 := by show (w.heap.push _).size = _; simp
  rw [e] at h1
  exact hI _ _ R _ h1
theorem rY_h {l : Nat} {R : LoopState → Obj} {kk : List K} {body : KT kk → World → (World → Prop) → Prop} {args : List Value} {c : Value → World → Prop} (y : KT kk) (hy : ∀ c : KT kk → Prop, c y → unL kk args c)
    (h : St w0 w L) [a : At L (Ev.obj l) (R .ready) f]
    (hb : ∀ w', St w0 w' (f (Ev.obj l (R .busy))) → body y w' fun w4 => w4.heap[l]? = some (R .busy) ∧ c (.bool true) (w4.putObj l (R .ready))) : rY l R kk body l args w c :=
  ⟨rfl, obj_at h, hy _ (hb _ (putObj_h _ h))⟩
theorem rec_h {o o' : Obj} {c : World → Prop} (h : St w0 w L) [a : At L (Ev.obj g) o f] (hc : ∀ w', St w0 w' (f (Ev.obj g o')) → c w') : w.heap[g]? = some o ∧ c (w.putObj g o') :=
  ⟨obj_at h, hc _ (putObj_h _ h)⟩
theorem yield_i {l : List (Nat × Dec)} {Y : Nat → Dec} {n : Nat} {args : Array Value} {c : Value → World → Prop} (h : Y n args.toList w c) : callF (orcY l Y) (.func (.yield n) #[] #[]) args w c := by
  show Y n (#[] ++ args).toList w c
  simpa using h
end
theorem St.join {w0 w w' : World} {L M : List HP} (h : St w0 w L) (k : St w w' M) : St w0 w' (M ++ L) := by
  obtain ⟨e1, FL, hL, bL⟩ := h
  obtain ⟨e2, FM, hM, bM⟩ := k
  refine ⟨e1.trans e2, fun g => FM g ∨ FL g, sepP_assoc.1 ⟨FM, FL, hM, sepP_keep hL fun g hg => e2.block g (sepP_lt hL hg) fun h => h, fun g hg hg2 => ?_, fun _ => Iff.rfl⟩, fun g hg => ?_⟩
  · have := bM g hg; have := sepP_lt hL hg2; omega
  · have := e1.size
    rcases hg with hg | hg
    · have := bM g hg; omega
    · exact bL g hg
theorem rdFrom_c {w : World} {p : Addr} : ∀ (n i : Nat) (e : List Value), e.length = i + n → (∀ j v, e[j]? = some v → w.cell? (p.add j) = some v) → rdFrom w p i n = some (e.drop i)
  | 0, i, e, hl, _ => by rw [List.drop_eq_nil_of_le (by omega)]; rfl
  | n + 1, i, e, hl, h => by
    have hi : i < e.length := by omega
    have h1 := h i e[i] (List.getElem?_eq_getElem hi)
    have h2 := rdFrom_c n (i + 1) e (by omega) h
    rw [List.drop_eq_getElem_cons hi]
    simp [rdFrom, rd, h1, h2]
theorem ldA_c {n : Nat} {w : World} {p : Addr} {e : List Value} {c : Array Value → Prop} (hl : e.length = n) (h : ∀ j v, e[j]? = some v → w.cell? (p.add j) = some v) (hc : c e.toArray) : ldA n w p c := by
  unfold ldA
  rw [rdFrom_c n 0 e (by omega) h]
  exact hc
theorem sepP_perm {L M : List HP} (hp : L.Perm M) : ∀ {F w}, sepP L F w → sepP M F w := by
  induction hp with
  | nil => exact id
  | cons x _ ih => rintro F w ⟨F1, F2, h1, h2, h3, h4⟩; exact ⟨F1, F2, h1, ih h2, h3, h4⟩
  | swap x y l => exact fun h => sepP_swap h
  | trans _ _ ih1 ih2 => exact fun h => ih2 (ih1 h)
theorem St.perm {w0 w : World} {L M : List HP} (h : St w0 w L) (hp : L.Perm M) : St w0 w M := ⟨h.ext, by obtain ⟨F, h1, h2⟩ := h.sep; exact ⟨F, sepP_perm hp h1, h2⟩⟩
theorem perm_front : ∀ {L : List HP} {n : Nat} {X : HP}, L[n]? = some X → L.Perm (X :: L.eraseIdx n)
  | [], n, X, h => by simp at h
  | R :: L, 0, X, h => by simp at h; subst h; exact .refl _
  | R :: L, n + 1, X, h => ((perm_front (L := L) (n := n) (by simpa using h)).cons R).trans (.swap _ _ _)
theorem perm_f (n : Nat) {L M : List HP} {X : HP} (e : L[n]? = some X) (h : (L.eraseIdx n).Perm M) : L.Perm (X :: M) := by
  have := perm_front e
  exact this.trans (h.cons X)
end Go.Ev
namespace Go.Ev
open Go Go.RowKit
structure FnR where
  needs : Int
  sl : Sl
  code : List (List Int)
structure ProgT (P : Program) (ti tc tf ts tp tn : TypeId) : Prop where
  i : ∃ fs, P.underlying ti = some (.struct fs)
  iflat : flatB P 4 ti = true
  ic : P.cellsOf ti = 5
  ib : P.bytesOf ti = 40
  c : P.underlying tc = some (.slice ti)
  f : ∃ f0 f1 : Field, P.underlying tf = some (.struct #[f0, f1]) ∧ f0.type = tn ∧ f0.offset = 0 ∧ f1.type = tc ∧ f1.offset = 1
  n : P.underlying tn = some (.int .i64)
  nc : P.cellsOf tn = 1
  cc : P.cellsOf tc = 1
  fc : P.cellsOf tf = 2
  fb : P.bytesOf tf = 32
  s : P.underlying ts = some (.slice tf)
  sc : P.cellsOf ts = 1
  p : ∃ f0 : Field, P.underlying tp = some (.struct #[f0]) ∧ f0.type = ts ∧ f0.offset = 0
  pc : P.cellsOf tp = 1
section
variable {P : Program} {w : World} {ti tc tf ts tp tn : TypeId}
structure Code5 (w : World) (s : Sl) (l : List (List Int)) : Prop where
  rws : Rws 5 w s (l.map Go.Ev.ints)
  five : ∀ i ∈ l, i.length = 5 ∧ ∀ y ∈ i, InI y
  few : l.length * 40 ≤ reachBytes
theorem Code5.len {s : Sl} {l : List (List Int)} (h : Code5 w s l) : s.n = l.length := by have := h.rws.len; simp at this; omega
theorem Code5.ext {w' : World} {s : Sl} {l : List (List Int)} (h : Code5 w s l) (he : Ext w w') : Code5 w' s l := ⟨h.rws.ext he, h.five, h.few⟩
theorem Rdd.code (T : ProgT P ti tc tf ts tp tn) {cs : List Value} (h : Rdd P w tc cs) : ∃ (s : Sl) (l : List (List Int)), cs = [.slice s.a s.n s.c] ∧ Code5 w s l := by
  obtain ⟨s, es, rfl, hr, hb, h1, h2, hall⟩ := h.slice T.c
  obtain ⟨fs, hti⟩ := T.i
  obtain ⟨l, rfl, hl⟩ := exists_map (f := Go.Ev.ints) (G := fun i : List Int => i.length = 5 ∧ ∀ y ∈ i, InI y) (es := es) fun e he => by
    obtain ⟨xs, hx, hI⟩ := exists_map ((hall e he).flat T.iflat)
    refine ⟨xs, hx, ?_, hI⟩
    have := (hall e he).len (.inr ⟨fs, hti⟩)
    rw [hx, T.ic] at this; simpa using this
  rw [T.ic] at hr
  refine ⟨s, l, rfl, hr, hl, ?_⟩
  rw [T.ib] at hb; simpa using hb
def FnR.cells (x : FnR) : List Value := [.int .i64 x.needs, .slice x.sl.a x.sl.n x.sl.c]
structure Funcs5 (w : World) (s : Sl) (l : List FnR) : Prop where
  rws : Rws 2 w s (l.map FnR.cells)
  code : ∀ x ∈ l, InI x.needs ∧ Code5 w x.sl x.code
  few : l.length * 32 ≤ reachBytes
theorem Funcs5.len {s : Sl} {l : List FnR} (h : Funcs5 w s l) : s.n = l.length := by have := h.rws.len; simp at this; omega
theorem Funcs5.ext {w' : World} {s : Sl} {l : List FnR} (h : Funcs5 w s l) (he : Ext w w') : Funcs5 w' s l := ⟨h.rws.ext he, fun x hx => ⟨(h.code x hx).1, (h.code x hx).2.ext he⟩, h.few⟩
theorem Rdd.func (T : ProgT P ti tc tf ts tp tn) {cs : List Value} (h : Rdd P w tf cs) : ∃ x : FnR, cs = x.cells ∧ InI x.needs ∧ Code5 w x.sl x.code := by
  obtain ⟨f0, f1, hf, e1, e2, e3, e4⟩ := T.f
  obtain ⟨hl, hall⟩ := h.struct hf
  have h0 := hall 0 f0 (by simp)
  have h1 := hall 1 f1 (by simp)
  rw [e1, e2, T.nc] at h0
  rw [e3, e4, T.cc] at h1
  obtain ⟨n, hn, hI⟩ := h0.int T.n
  obtain ⟨s, l, hs, hc⟩ := h1.code T
  refine ⟨⟨n, s, l⟩, ?_, hI, hc⟩
  have hlen : cs.length = 2 := by rw [hl, T.fc]
  match cs, hlen with
  | [a, b], _ => simp at hn hs; simp [FnR.cells, hn, hs]
theorem Rdd.funcs (T : ProgT P ti tc tf ts tp tn) {cs : List Value} (h : Rdd P w ts cs) : ∃ (s : Sl) (l : List FnR), cs = [.slice s.a s.n s.c] ∧ Funcs5 w s l := by
  obtain ⟨s, es, rfl, hr, hb, h1, h2, hall⟩ := h.slice T.s
  obtain ⟨l, rfl, hl⟩ := exists_map (f := FnR.cells) (G := fun x => InI x.needs ∧ Code5 w x.sl x.code) (es := es) fun e he => (hall e he).func T
  rw [T.fc] at hr
  rw [T.fb] at hb
  exact ⟨s, l, rfl, hr, hl, by simpa using hb⟩
theorem Rdd.program (T : ProgT P ti tc tf ts tp tn) {cs : List Value} (h : Rdd P w tp cs) : ∃ (s : Sl) (l : List FnR), cs = [.slice s.a s.n s.c] ∧ Funcs5 w s l := by
  obtain ⟨f0, hf, e1, e2⟩ := T.p
  obtain ⟨hl, hall⟩ := h.struct hf
  have h0 := hall 0 f0 (by simp)
  rw [e1, e2, T.sc] at h0
  have hlen : cs.length = 1 := by rw [hl, T.pc]
  match cs, hlen with
  | [a], _ => exact Rdd.funcs T (by simpa using h0)
theorem Arg.program (T : ProgT P ti tc tf ts tp tn) {v : Value} (h : Arg P w tp v) : ∃ (s : Sl) (l : List FnR), v = .agg #[.slice s.a s.n s.c] ∧ Funcs5 w s l := by
  obtain ⟨f0, hf, e1, e2⟩ := T.p
  obtain ⟨cs, rfl, hr⟩ := h.agg (.inr ⟨_, hf⟩)
  obtain ⟨s, l, hcs, hF⟩ := hr.program T
  refine ⟨s, l, ?_, hF⟩
  congr 1
  exact Array.ext' hcs
end
end Go.Ev
