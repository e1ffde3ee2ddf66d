/- The code of the functions that the laws reach, as the evaluator reads it. No statement stands here but that it is so. -/
import Derived.Test.YtlflpjjmkigepaaRows
import Derived.Test.YtlflpjjmkigepaaAbsU
set_option autoImplicit false
set_option maxRecDepth 100000
namespace Go.Proofs.Ytlflpjjmkigepaa
open Go Go.Abs
theorem mixed : Try.prog.follows .mixedOrders = true := by kernel_rfl
theorem plain0 : Sound Try.prog (acall (comp Try.prog) (fun _ => none) 60) := acall_ok mixed (fun f g h => by cases h) 60
def r4_0 : List AOper := [oC 2 (.bool false) 0]
def r4_1 : List AOper := [oM 3 0 0, oQ 4 (.len true (.t 3)) 1, oQ 5 (.bin .gtr (.t 4) (oI 20000)) 3]
def r4_2 : List AOper := [oK 6 11 [] 0, oM 2 6 1]
def r4_3 : List AOper := [oM 7 0 0, oK 8 14 [.t 7] 1, oM 9 0 0, oK 10 15 [.t 9] 7, oQ 11 (.eq false (.flat false [.b]) (.t 8) (.t 10)) 15, oM 12 11 31, oG 13 (.mov (.t 0)) 12 true 63, ⟨some 14, (.e (.call 16 [.t 13])), some ⟨12, true⟩, 127⟩, oG 15 (.mov (.t 0)) 12 true 63, ⟨some 16, (.e (.call 17 [.t 15])), some ⟨12, true⟩, 511⟩, oG 17 (.bin .eql (.t 14) (.t 16)) 12 true 1023, oQ 18 (.pick (.t 12) (.t 17) (.c (.bool false))) 2047, oM 19 18 4095, ⟨some 20, (.e (.call 11 [])), some ⟨19, true⟩, 8191⟩, oQ 21 (.pick (.t 19) (.t 20) (.c (.bool false))) 16383, oM 2 21 32767]
def c4 : ACode := (.seq (.reg r4_0) (.seq (.seq (.reg r4_1) (.cond (.t 5) (.seq (.reg r4_2) .ret) .skip)) (.seq (.reg r4_3) .ret)))
def r5_0 : List AOper := [oC 4 (.bool false) 0]
def r5_1 : List AOper := [oM 23 0 0, oK 24 18 [.t 23, oI 600] 1, oM 5 24 3]
def r5_2 : List AOper := [oM 26 5 0, oK 27 19 [.t 26] 1, oM 25 27 3, oE 28 25 0 7, oE 29 25 1 7, oM 6 28 15, oM 7 29 63]
def r5_3 : List AOper := [oM 31 5 0, oK 32 20 [.t 31] 1, oM 30 32 3, oE 33 30 0 7, oE 34 30 1 7, oM 8 33 15, oM 9 34 63]
def r5_4 : List AOper := [oM 35 7 0, oQ 36 (.bin .neq (.t 35) (oI 0)) 1, oM 37 36 3, oG 38 (.mov (.t 6)) 37 false 7, oG 39 (.eq false .ptrnil (.t 38) (.c .nilptr)) 37 false 15, oQ 40 (.pick (.t 37) (.c (.bool true)) (.t 39)) 31]
def r5_5 : List AOper := [oC 4 (.bool false) 0]
def r5_6 : List AOper := [oC 10 (.int .i64 (.ofNat 0)) 0]
def r5_7 : List AOper := [oM 41 10 0, oM 42 1 0, oQ 43 (.len false (.t 42)) 2, oQ 44 (.bin .lss (.t 41) (.t 43)) 7, oM 45 44 15, oG 46 (.mov (.t 10)) 45 true 31, oG 47 (.bin .lss (.t 46) (oI 6)) 45 true 63, oQ 48 (.pick (.t 45) (.t 47) (.c (.bool false))) 127]
def r5_8 : List AOper := [oM 51 1 0, oM 52 10 0, oQ 53 (.iadr 1 (.t 51) (.t 52)) 3, oR 54 53 7, oQ 55 (.len true (.t 54)) 15, oQ 56 (.bin .gtr (.t 55) (oI 20000)) 31]
def r5_9 : List AOper := [oK 57 11 [] 0, oM 4 57 1]
def r5_10 : List AOper := [oM 59 6 0, oM 60 1 0, oM 61 10 0, oQ 62 (.iadr 1 (.t 60) (.t 61)) 6, oR 63 62 14, oK 64 21 [.t 59, .t 63] 31, oM 58 64 63, oE 65 58 0 127, oE 66 58 1 127, ⟨some 11, (.a (.alloc [(.int .i64 (.ofNat 0)), (.int .i64 (.ofNat 0)), .str []])), none, 0⟩, ⟨none, (.e (.store 3 (.t 11) (.t 65))), none, 767⟩, oM 12 66 2047]
def r5_11 : List AOper := [oM 68 8 0, oM 69 1 0, oM 70 10 0, oQ 71 (.iadr 1 (.t 69) (.t 70)) 6, oR 72 71 14, oK 73 22 [.t 68, .t 72] 31, oM 67 73 63, oE 74 67 0 127, oE 75 67 1 127, ⟨some 13, (.a (.alloc [(.int .i64 (.ofNat 0)), (.int .i64 (.ofNat 0)), .str []])), none, 0⟩, ⟨none, (.e (.store 3 (.t 13) (.t 74))), none, 767⟩, oM 14 75 2047]
def r5_12 : List AOper := [⟨some 76, (.r (.loadn 3) (.t 11) (.t 11)), none, 0⟩, ⟨some 77, (.r (.loadn 3) (.t 13) (.t 13)), none, 0⟩, oQ 78 (.eq true (.flat true [.i, .i, .s]) (.t 76) (.t 77)) 3, oM 79 78 7, oG 80 (.mov (.t 12)) 79 false 15, oG 81 (.mov (.t 14)) 79 false 15, oG 82 (.bin .neq (.t 80) (.t 81)) 79 false 63, oQ 83 (.pick (.t 79) (.c (.bool true)) (.t 82)) 127, oM 84 83 255, oG 85 (.mov (.t 6)) 84 false 511, ⟨some 86, (.e (.call 23 [.t 85])), some ⟨84, false⟩, 1023⟩, oG 87 (.mov (.t 8)) 84 false 511, oG 88 (.nilchk (.t 87)) 84 false 2559, oG 89 (.fadr 3 1 (.t 88)) 84 false 6655, ⟨some 90, (.r .load1 (.t 89) (.t 89)), some ⟨84, false⟩, 14847⟩, oG 91 (.bin .neq (.t 86) (.t 90)) 84 false 32767, oQ 92 (.pick (.t 84) (.c (.bool true)) (.t 91)) 65535]
def r5_13 : List AOper := [oC 4 (.bool false) 0]
def r5_14 : List AOper := [oM 49 10 0, oQ 50 (.bin .add (.t 49) (oI 1)) 1, oM 10 50 3]
def r5_15 : List AOper := [oC 15 (.int .i64 (.ofNat 0)) 0]
def r5_16 : List AOper := [oM 93 15 0, oM 94 8 0, oQ 95 (.nilchk (.t 94)) 2, oQ 96 (.fadr 0 1 (.t 95)) 6, oR 97 96 14, oQ 98 (.len false (.t 97)) 30, oQ 99 (.bin .lss (.t 93) (.t 98)) 63]
def r5_17 : List AOper := [oM 102 15 0, oQ 103 (.build [(.int .i64 (.ofNat 0)), (.int .i64 (.ofNat 0)), .str []] [⟨0, ⟨1, oI 3⟩⟩, ⟨1, ⟨1, .t 102⟩⟩]) 1, ⟨some 16, (.a (.alloc [(.int .i64 (.ofNat 0)), (.int .i64 (.ofNat 0)), .str []])), none, 0⟩, ⟨none, (.e (.store 3 (.t 16) (.t 103))), none, 7⟩]
def r5_18 : List AOper := [oM 104 6 0, ⟨some 105, (.r (.loadn 3) (.t 16) (.t 16)), none, 0⟩, oK 106 24 [.t 104, .t 105] 3, oM 17 106 7]
def r5_19 : List AOper := [oM 107 17 0, oM 108 8 0, ⟨some 109, (.r (.loadn 3) (.t 16) (.t 16)), none, 0⟩, oK 110 26 [.t 108, .t 109] 6, oK 111 25 [.t 107, .t 110] 15, oQ 112 (.un .not (.t 111)) 31]
def r5_20 : List AOper := [oC 4 (.bool false) 0]
def r5_21 : List AOper := [oC 18 (.int .i64 (.ofNat 0)) 0]
def r5_22 : List AOper := [oM 113 18 0, oM 114 17 0, oQ 115 (.len false (.t 114)) 2, oQ 116 (.bin .lss (.t 113) (.t 115)) 7]
def r5_23 : List AOper := [oM 120 6 0, ⟨some 121, (.r (.loadn 3) (.t 16) (.t 16)), none, 0⟩, oM 122 17 0, oM 123 18 0, oQ 124 (.iadr 3 (.t 122) (.t 123)) 12, ⟨some 125, (.r (.loadn 3) (.t 124) (.t 124)), none, 28⟩, oK 126 27 [.t 120, .t 121, .t 125] 63, oM 119 126 127, oE 127 119 0 255, oE 128 119 1 255, ⟨some 19, (.a (.alloc [(.int .i64 (.ofNat 0)), (.int .i64 (.ofNat 0)), .str []])), none, 0⟩, ⟨none, (.e (.store 3 (.t 19) (.t 127))), none, 1535⟩, oM 20 128 4095]
def r5_24 : List AOper := [oM 130 8 0, ⟨some 131, (.r (.loadn 3) (.t 16) (.t 16)), none, 0⟩, oM 132 17 0, oM 133 18 0, oQ 134 (.iadr 3 (.t 132) (.t 133)) 12, ⟨some 135, (.r (.loadn 3) (.t 134) (.t 134)), none, 28⟩, oK 136 28 [.t 130, .t 131, .t 135] 63, oM 129 136 127, oE 137 129 0 255, oE 138 129 1 255, ⟨some 21, (.a (.alloc [(.int .i64 (.ofNat 0)), (.int .i64 (.ofNat 0)), .str []])), none, 0⟩, ⟨none, (.e (.store 3 (.t 21) (.t 137))), none, 1535⟩, oM 22 138 4095]
def r5_25 : List AOper := [⟨some 139, (.r (.loadn 3) (.t 19) (.t 19)), none, 0⟩, ⟨some 140, (.r (.loadn 3) (.t 21) (.t 21)), none, 0⟩, oQ 141 (.eq true (.flat true [.i, .i, .s]) (.t 139) (.t 140)) 3]
def r5_26 : List AOper := [oC 4 (.bool false) 0]
def r5_27 : List AOper := [oM 117 18 0, oQ 118 (.bin .add (.t 117) (oI 1)) 1, oM 18 118 3]
def r5_28 : List AOper := [oM 100 15 0, oQ 101 (.bin .add (.t 100) (oI 1)) 1, oM 15 101 3]
def r5_29 : List AOper := [oK 142 11 [] 0, oM 4 142 1]
def b5_0 : ACode := (.seq (.seq (.reg r5_7) (.cond (.t 48) .skip (.ext 0))) (.seq (.blk 1 (.seq (.seq (.reg r5_8) (.cond (.t 56) (.seq (.reg r5_9) .ret) .skip)) (.seq (.reg r5_10) (.seq (.reg r5_11) (.seq (.draw r5_12) (.cond (.t 92) (.seq (.reg r5_13) .ret) .skip)))))) (.reg r5_14)))
def b5_1 : ACode := (.seq (.seq (.reg r5_22) (.cond (.t 116) .skip (.ext 4))) (.seq (.blk 5 (.seq (.draw r5_23) (.seq (.draw r5_24) (.seq (.reg r5_25) (.cond (.t 141) (.seq (.reg r5_26) .ret) .skip))))) (.reg r5_27)))
def b5_2 : ACode := (.seq (.seq (.reg r5_16) (.cond (.t 99) .skip (.ext 2))) (.seq (.blk 3 (.seq (.reg r5_17) (.seq (.reg r5_18) (.seq (.seq (.reg r5_19) (.cond (.t 112) (.seq (.reg r5_20) .ret) .skip)) (.seq (.reg r5_21) (.blk 4 (.loop b5_1))))))) (.reg r5_28)))
def c5 : ACode := (.seq (.reg r5_0) (.seq (.reg r5_1) (.seq (.reg r5_2) (.seq (.reg r5_3) (.seq (.seq (.reg r5_4) (.cond (.t 40) (.seq (.reg r5_5) .ret) .skip)) (.seq (.seq (.reg r5_6) (.blk 0 (.loop b5_0))) (.seq (.seq (.reg r5_15) (.blk 2 (.loop b5_2))) (.seq (.reg r5_29) .ret))))))))
def r8_0 : List AOper := [oC 4 (.bool false) 0]
def r8_1 : List AOper := [oM 18 0 0, oQ 19 (.toInt .i64 (.t 18)) 1, oQ 20 (.bin .add (oI 1) (.t 19)) 3, oM 5 20 7]
def r8_2 : List AOper := [oK 22 19 [oI 2000] 0, oM 21 22 1, oE 23 21 0 3, oE 24 21 1 3, oM 6 23 7, oM 7 24 31]
def r8_3 : List AOper := [oM 25 7 0, oQ 26 (.bin .neq (.t 25) (oI 0)) 1, oM 27 26 3, oG 28 (.mov (.t 6)) 27 false 7, oG 29 (.eq false .ptrnil (.t 28) (.c .nilptr)) 27 false 15, oQ 30 (.pick (.t 27) (.c (.bool true)) (.t 29)) 31]
def r8_4 : List AOper := [oC 4 (.bool false) 0]
def r8_5 : List AOper := [oM 32 6 0, oK 33 29 [.t 32] 1, oM 31 33 3, oE 34 31 0 7, oE 35 31 1 7, ⟨some 8, (.a (.alloc [(.int .i64 (.ofNat 0)), (.int .i64 (.ofNat 0)), .str []])), none, 0⟩, ⟨none, (.e (.store 3 (.t 8) (.t 34))), none, 47⟩, oM 9 35 127]
def r8_6 : List AOper := [⟨some 36, (.r (.loadn 3) (.t 8) (.t 8)), none, 0⟩, ⟨some 10, (.a (.alloc [(.int .i64 (.ofNat 0)), (.int .i64 (.ofNat 0)), .str []])), none, 0⟩, ⟨none, (.e (.store 3 (.t 10) (.t 36))), none, 3⟩]
def r8_7 : List AOper := [oC 11 (.int .i64 (.ofNat 1)) 0]
def r8_8 : List AOper := [oM 37 11 0, oM 38 5 0, oQ 39 (.bin .lss (.t 37) (.t 38)) 3]
def r8_9 : List AOper := [oM 43 6 0, oK 44 29 [.t 43] 1, oM 42 44 3, oE 45 42 0 7, oE 46 42 1 7, ⟨some 12, (.a (.alloc [(.int .i64 (.ofNat 0)), (.int .i64 (.ofNat 0)), .str []])), none, 0⟩, ⟨none, (.e (.store 3 (.t 12) (.t 45))), none, 47⟩, oM 13 46 127]
def r8_10 : List AOper := [oM 47 13 0, oQ 48 (.bin .neq (.t 47) (oI 0)) 1, oM 49 48 3, oG 50 (.mov (.t 6)) 49 false 7, ⟨some 51, (.r (.loadn 3) (.t 10) (.t 10)), some ⟨49, false⟩, 7⟩, oG 52 (.mov (.t 11)) 49 false 7, ⟨some 53, (.e (.call 31 [.t 52])), some ⟨49, false⟩, 39⟩, ⟨some 54, (.r (.loadn 3) (.t 12) (.t 12)), some ⟨49, false⟩, 7⟩, ⟨some 55, (.e (.call 30 [.t 50, .t 51, .t 53, .t 54])), some ⟨49, false⟩, 255⟩, oG 56 (.bin .neq (.t 55) (oI 0)) 49 false 511, oQ 57 (.pick (.t 49) (.c (.bool true)) (.t 56)) 1023]
def r8_11 : List AOper := [oC 4 (.bool false) 0]
def r8_12 : List AOper := [⟨some 58, (.r (.loadn 3) (.t 12) (.t 12)), none, 0⟩, ⟨none, (.e (.store 3 (.t 10) (.t 58))), none, 1⟩]
def r8_13 : List AOper := [oM 40 11 0, oQ 41 (.bin .add (.t 40) (oI 1)) 1, oM 11 41 3]
def r8_14 : List AOper := [oM 59 1 0]
def r8_15 : List AOper := [oM 60 6 0, ⟨some 61, (.r (.loadn 3) (.t 10) (.t 10)), none, 0⟩, oK 62 32 [(.c (.str [109, 101]))] 0, ⟨some 63, (.r (.loadn 3) (.t 8) (.t 8)), none, 0⟩, oK 64 30 [.t 60, .t 61, .t 62, .t 63] 15, oQ 65 (.bin .neq (.t 64) (oI 0)) 31]
def r8_16 : List AOper := [oC 4 (.bool false) 0]
def r8_17 : List AOper := [oM 67 6 0, ⟨some 68, (.r (.loadn 3) (.t 8) (.t 8)), none, 0⟩, oK 69 12 [.t 67, .t 68] 3, oM 66 69 7, oE 70 66 0 15, oE 71 66 1 15, oM 14 70 31, oM 15 71 127]
def r8_18 : List AOper := [oM 72 15 0, oQ 73 (.bin .eql (.t 72) (oI 11)) 1, oM 74 73 3, ⟨some 75, (.e (.call 11 [])), some ⟨74, true⟩, 7⟩, oQ 76 (.pick (.t 74) (.t 75) (.c (.bool false))) 15, oM 4 76 31]
def r8_19 : List AOper := [oM 78 6 0, ⟨some 79, (.r (.loadn 3) (.t 8) (.t 8)), none, 0⟩, oK 80 12 [.t 78, .t 79] 3, oM 77 80 7, oE 81 77 0 15, oE 82 77 1 15, oM 16 81 31, oM 17 82 127]
def r8_20 : List AOper := [oM 83 5 0, oQ 84 (.bin .gtr (.t 83) (oI 200)) 1]
def r8_21 : List AOper := [oM 85 17 0, oQ 86 (.bin .eql (.t 85) (oI 11)) 1, oM 87 86 3, oG 88 (.mov (.t 16)) 87 true 7, oG 89 (.bin .eql (.t 88) (.c (.str []))) 87 true 15, oQ 90 (.pick (.t 87) (.t 89) (.c (.bool false))) 31, oM 91 90 63, ⟨some 92, (.e (.call 11 [])), some ⟨91, true⟩, 127⟩, oQ 93 (.pick (.t 91) (.t 92) (.c (.bool false))) 255, oM 4 93 511]
def r8_22 : List AOper := [oM 94 17 0, oQ 95 (.bin .eql (.t 94) (oI 0)) 1, oM 96 95 3, oG 97 (.mov (.t 16)) 96 true 7, ⟨some 98, (.e (.call 14 [.t 97])), some ⟨96, true⟩, 15⟩, oQ 99 (.pick (.t 96) (.t 98) (.c (.bool false))) 31, oM 100 99 63, oG 101 (.mov (.t 16)) 100 true 127, ⟨some 102, (.e (.call 16 [.t 101])), some ⟨100, true⟩, 255⟩, oG 103 (.mov (.t 5)) 100 true 127, oG 104 (.bin .mul (oI 2) (.t 103)) 100 true 639, oG 105 (.bin .sub (.t 104) (oI 1)) 100 true 1663, oG 106 (.bin .eql (.t 102) (.t 105)) 100 true 4095, oQ 107 (.pick (.t 100) (.t 106) (.c (.bool false))) 8191, oM 108 107 16383, ⟨some 109, (.e (.call 11 [])), some ⟨108, true⟩, 32767⟩, oQ 110 (.pick (.t 108) (.t 109) (.c (.bool false))) 65535, oM 4 110 131071]
def b8_0 : ACode := (.seq (.seq (.reg r8_8) (.cond (.t 39) .skip (.ext 0))) (.seq (.blk 1 (.seq (.reg r8_9) (.seq (.seq (.draw r8_10) (.cond (.t 57) (.seq (.reg r8_11) .ret) .skip)) (.reg r8_12)))) (.reg r8_13)))
def c8 : ACode := (.seq (.reg r8_0) (.seq (.reg r8_1) (.seq (.reg r8_2) (.seq (.seq (.reg r8_3) (.cond (.t 30) (.seq (.reg r8_4) .ret) .skip)) (.seq (.reg r8_5) (.seq (.reg r8_6) (.seq (.seq (.reg r8_7) (.blk 0 (.loop b8_0))) (.seq (.seq (.reg r8_14) (.cond (.t 59) (.seq (.seq (.draw r8_15) (.cond (.t 65) (.seq (.reg r8_16) .ret) .skip)) (.seq (.reg r8_17) (.seq (.reg r8_18) .ret))) .skip)) (.seq (.reg r8_19) (.seq (.seq (.reg r8_20) (.cond (.t 84) (.seq (.reg r8_21) .ret) .skip)) (.seq (.reg r8_22) .ret)))))))))))
def fn8 : AFunc := ⟨111, [(.t 4)], c8⟩
theorem comp8 : comp Try.prog 8 = some fn8 := by kernel_rfl
def r12_0 : List AOper := [⟨some 2, (.a (.box (.t 0))), none, 0⟩, ⟨some 3, (.a (.box (.t 1))), none, 0⟩, oC 4 (.str []) 0, oC 5 (.int .i64 (.ofNat 0)) 4]
def r12_1 : List AOper := [⟨some 6, (.a (.alloc [(.int .i64 (.ofNat 0))])), none, 0⟩, ⟨none, (.e (.store 1 (.t 6) (oI 200))), none, 1⟩]
def r12_2 : List AOper := [⟨some 7, (.a (.alloc [.nilslc])), none, 0⟩]
def r12_3 : List AOper := [⟨some 8, (.a (.alloc [.nilfn])), none, 0⟩]
def r12_4 : List AOper := [oQ 9 (.mkfn 36 [] [.t 6, .t 7, .t 2, .t 8]) 0, ⟨none, (.e (.store 1 (.t 8) (.t 9))), none, 1⟩]
def r12_5 : List AOper := [oR 10 8 0, ⟨some 11, (.r (.loadn 3) (.t 3) (.t 3)), none, 0⟩, ⟨some 12, (.e (.callv (.t 10) [.t 11])), none, 3⟩, oQ 13 (.un .not (.t 12)) 7]
def r12_6 : List AOper := [oC 4 (.str []) 0, oC 5 (.int .i64 (.ofNat 11)) 1]
def r12_7 : List AOper := [oR 14 7 0, ⟨some 15, (.r .b2s (.t 14) (.t 14)), none, 1⟩, oM 4 15 3, oC 5 (.int .i64 (.ofNat 0)) 7]
def c12 : ACode := (.seq (.reg r12_0) (.seq (.reg r12_1) (.seq (.reg r12_2) (.seq (.reg r12_3) (.seq (.reg r12_4) (.seq (.seq (.reg r12_5) (.cond (.t 13) (.seq (.reg r12_6) .ret) .skip)) (.seq (.reg r12_7) .ret)))))))
def fn12 : AFunc := ⟨16, [(.t 4), (.t 5)], c12⟩
theorem comp12 : comp Try.prog 12 = some fn12 := by kernel_rfl
def r14_0 : List AOper := [oC 2 (.bool false) 0]
def r14_1 : List AOper := [oM 6 0 0, oK 7 41 [.t 6] 1, oK 8 42 [.t 7] 3, oM 5 8 7, oE 9 5 0 15, oE 10 5 1 15, ⟨some 3, (.a (.alloc [(.int .i64 (.ofNat 0)), (.int .i64 (.ofNat 0)), .str []])), none, 0⟩, ⟨none, (.e (.store 3 (.t 3) (.t 9))), none, 95⟩, oM 4 10 255]
def r14_2 : List AOper := [oM 11 4 0, oM 2 11 1]
def c14 : ACode := (.seq (.reg r14_0) (.seq (.reg r14_1) (.seq (.reg r14_2) .ret)))
def fn14 : AFunc := ⟨12, [(.t 2)], c14⟩
theorem comp14 : comp Try.prog 14 = some fn14 := by kernel_rfl
def r16_0 : List AOper := [oC 2 (.int .i64 (.ofNat 0)) 0]
def r16_1 : List AOper := [oM 6 0 0, oK 7 41 [.t 6] 1, oM 3 7 3]
def r16_2 : List AOper := [oM 9 3 0, oK 10 42 [.t 9] 1, oM 8 10 3, oE 11 8 0 7, oE 12 8 1 7, ⟨some 4, (.a (.alloc [(.int .i64 (.ofNat 0)), (.int .i64 (.ofNat 0)), .str []])), none, 0⟩, ⟨none, (.e (.store 3 (.t 4) (.t 11))), none, 47⟩, oM 5 12 127]
def r16_3 : List AOper := [oM 13 5 0, oQ 14 (.un .not (.t 13)) 1]
def r16_4 : List AOper := [oC 2 (.int .i64 (.ofNat 0)) 0]
def r16_5 : List AOper := [oM 15 3 0, oQ 16 (.nilchk (.t 15)) 1, oQ 17 (.fadr 3 1 (.t 16)) 3, oR 18 17 7, oM 2 18 15]
def c16 : ACode := (.seq (.reg r16_0) (.seq (.reg r16_1) (.seq (.seq (.reg r16_2) (.seq (.reg r16_3) (.cond (.t 14) (.seq (.reg r16_4) .ret) .skip))) (.seq (.reg r16_5) .ret))))
def fn16 : AFunc := ⟨19, [(.t 2)], c16⟩
theorem comp16 : comp Try.prog 16 = some fn16 := by kernel_rfl
def r19_0 : List AOper := [oC 2 .nilptr 0, oC 3 (.int .i64 (.ofNat 0)) 1]
def r19_1 : List AOper := [oM 4 0 0, oQ 5 (.bin .lss (.t 4) (oI 0)) 1, oM 6 5 3, oG 7 (.mov (.t 0)) 6 false 7, oG 8 (.bin .gtr (.t 7) (oI 1000000)) 6 false 15, oQ 9 (.pick (.t 6) (.c (.bool true)) (.t 8)) 31]
def r19_2 : List AOper := [oC 2 .nilptr 0, oC 3 (.int .i64 (.ofNat 1)) 1]
def r19_3 : List AOper := [oM 10 0 0, oQ 11 (.build [.bool false, (.int .i64 (.ofNat 0)), (.int .i64 (.ofNat 0)), .nilslc, .nilslc, .nilslc] [⟨0, ⟨1, (.c (.bool true))⟩⟩, ⟨1, ⟨1, .t 10⟩⟩]) 1, ⟨some 12, (.a (.box (.t 11))), none, 3⟩, oM 2 12 7, oC 3 (.int .i64 (.ofNat 0)) 15]
def c19 : ACode := (.seq (.reg r19_0) (.seq (.seq (.reg r19_1) (.cond (.t 9) (.seq (.reg r19_2) .ret) .skip)) (.seq (.reg r19_3) .ret)))
def fn19 : AFunc := ⟨13, [(.t 2), (.t 3)], c19⟩
theorem comp19 : comp Try.prog 19 = some fn19 := by kernel_rfl
def r24_0 : List AOper := [⟨some 3, (.a (.box (.t 1))), none, 0⟩, oC 4 .nilslc 0]
def r24_1 : List AOper := [oM 11 0 0, ⟨some 12, (.r (.loadn 3) (.t 3) (.t 3)), none, 0⟩, oK 13 49 [.t 11, .t 12] 3, oM 10 13 7, oE 14 10 0 15, oE 15 10 1 15, oM 5 14 31, oM 6 15 127]
def r24_2 : List AOper := [oC 7 .nilslc 0]
def r24_3 : List AOper := [oM 16 5 0, ⟨some 17, (.e (.rng false (.t 16))), none, 1⟩]
def r24_4 : List AOper := [⟨some 18, (.e (.next false (.t 17))), none, 0⟩, oE 19 18 0 1]
def r24_5 : List AOper := [⟨some 20, (.r .ment (.t 17) (.t 17)), none, 0⟩, oE 21 20 0 1, ⟨some 8, (.a (.alloc [(.int .i64 (.ofNat 0)), (.int .i64 (.ofNat 0)), .str []])), none, 0⟩, ⟨none, (.e (.store 3 (.t 8) (.t 21))), none, 7⟩]
def r24_6 : List AOper := [oC 9 (.int .i64 (.ofNat 0)) 0]
def r24_7 : List AOper := [oM 22 9 0, oM 23 7 0, oQ 24 (.len false (.t 23)) 2, oQ 25 (.bin .lss (.t 22) (.t 24)) 7, oM 26 25 15, oG 27 (.mov (.t 7)) 26 true 31, oG 28 (.mov (.t 9)) 26 true 31, oG 29 (.iadr 3 (.t 27) (.t 28)) 26 true 127, ⟨some 30, (.r (.loadn 3) (.t 29) (.t 29)), some ⟨26, true⟩, 255⟩, ⟨some 31, (.r (.loadn 3) (.t 8) (.t 8)), some ⟨26, true⟩, 31⟩, ⟨some 32, (.e (.call 50 [.t 30, .t 31])), some ⟨26, true⟩, 1023⟩, oQ 33 (.pick (.t 26) (.t 32) (.c (.bool false))) 2047]
def r24_8 : List AOper := [oM 34 9 0, oQ 35 (.bin .add (.t 34) (oI 1)) 1, oM 9 35 3]
def r24_9 : List AOper := [oM 36 7 0, ⟨some 37, (.r (.loadn 3) (.t 8) (.t 8)), none, 0⟩, ⟨some 38, (.a (.lits 1 3 [(.int .i64 (.ofNat 0)), (.int .i64 (.ofNat 0)), .str []] [⟨0, ⟨3, .t 37⟩⟩])), none, 2⟩, ⟨some 39, (.e (.append 3 32 (.t 36) (.t 38))), none, 7⟩, oM 7 39 15]
def r24_10 : List AOper := [oM 40 7 0, oM 41 9 0, oQ 42 (.bin .add (.t 41) (oI 1)) 2, oQ 43 (.sslc 3 (.t 40) (some (.t 42)) none none) 7, oM 44 7 0, oM 45 9 0, oQ 46 (.sslc 3 (.t 44) (some (.t 45)) none none) 48, ⟨some 47, (.e (.copy 3 (.t 43) (.t 46))), none, 127⟩]
def r24_11 : List AOper := [oM 48 7 0, oM 49 9 0, ⟨some 50, (.r (.loadn 3) (.t 8) (.t 8)), none, 0⟩, oQ 51 (.iadr 3 (.t 48) (.t 49)) 7, ⟨none, (.e (.store 3 (.t 51) (.t 50))), none, 15⟩]
def r24_12 : List AOper := [oM 52 7 0, oM 4 52 1]
def b24_0 : ACode := (.seq (.seq (.draw r24_7) (.cond (.t 33) .skip (.ext 2))) (.blk 3 (.reg r24_8)))
def b24_1 : ACode := (.seq (.reg r24_4) (.seq (.cond (.t 19) .skip (.ext 0)) (.blk 1 (.seq (.reg r24_5) (.seq (.reg r24_6) (.seq (.blk 2 (.loop b24_0)) (.seq (.reg r24_9) (.seq (.draw r24_10) (.reg r24_11)))))))))
def c24 : ACode := (.seq (.reg r24_0) (.seq (.reg r24_1) (.seq (.reg r24_2) (.seq (.seq (.reg r24_3) (.blk 0 (.loop b24_1))) (.seq (.reg r24_12) .ret)))))
def fn24 : AFunc := ⟨53, [(.t 4)], c24⟩
theorem comp24 : comp Try.prog 24 = some fn24 := by kernel_rfl
def r27_0 : List AOper := [⟨some 4, (.a (.box (.t 1))), none, 0⟩, ⟨some 5, (.a (.box (.t 2))), none, 0⟩, ⟨some 6, (.a (.alloc [(.int .i64 (.ofNat 0)), (.int .i64 (.ofNat 0)), .str []])), none, 0⟩, oC 7 (.int .i64 (.ofNat 0)) 0]
def r27_1 : List AOper := [oM 11 0 0, ⟨some 12, (.r (.loadn 3) (.t 4) (.t 4)), none, 0⟩, ⟨some 13, (.r (.loadn 3) (.t 5) (.t 5)), none, 0⟩, oK 14 52 [.t 11, .t 12, .t 13] 7, oM 10 14 15, oE 15 10 0 31, oE 16 10 1 31, oM 8 15 63, oM 9 16 255]
def r27_2 : List AOper := [oM 17 9 0, oQ 18 (.bin .neq (.t 17) (oI 0)) 1]
def r27_3 : List AOper := [oQ 19 (.build [(.int .i64 (.ofNat 0)), (.int .i64 (.ofNat 0)), .str []] []) 0, oM 20 9 0, ⟨none, (.e (.store 3 (.t 6) (.t 19))), none, 1⟩, oM 7 20 7]
def r27_4 : List AOper := [oM 21 8 0, ⟨some 22, (.r (.loadn 3) (.t 5) (.t 5)), none, 0⟩, ⟨some 23, (.r (.lookup true [.i, .i, .s] (.agg [(.int .i64 (.ofNat 0)), (.int .i64 (.ofNat 0)), .str []]) false) (.t 21) (.t 22)), none, 3⟩, ⟨none, (.e (.store 3 (.t 6) (.t 23))), none, 7⟩, oC 7 (.int .i64 (.ofNat 0)) 15]
def c27 : ACode := (.seq (.reg r27_0) (.seq (.reg r27_1) (.seq (.seq (.reg r27_2) (.cond (.t 18) (.seq (.reg r27_3) .ret) .skip)) (.seq (.reg r27_4) .ret))))
def fn27 : AFunc := ⟨24, [(.cn 6 3), (.t 7)], c27⟩
theorem comp27 : comp Try.prog 27 = some fn27 := by kernel_rfl
def r29_0 : List AOper := [⟨some 2, (.a (.alloc [(.int .i64 (.ofNat 0)), (.int .i64 (.ofNat 0)), .str []])), none, 0⟩, oC 3 (.int .i64 (.ofNat 0)) 0]
def r29_1 : List AOper := [oM 5 0 0, oK 6 54 [.t 5] 1, oM 4 6 3]
def r29_2 : List AOper := [oM 7 4 0, oQ 8 (.bin .neq (.t 7) (oI 0)) 1]
def r29_3 : List AOper := [oQ 9 (.build [(.int .i64 (.ofNat 0)), (.int .i64 (.ofNat 0)), .str []] []) 0, oM 10 4 0, ⟨none, (.e (.store 3 (.t 2) (.t 9))), none, 1⟩, oM 3 10 7]
def r29_4 : List AOper := [oM 11 0 0, oM 12 0 0, oQ 13 (.nilchk (.t 12)) 2, oQ 14 (.fadr 3 1 (.t 13)) 6, oR 15 14 14, ⟨some 16, .a .mkmap, none, 0⟩, ⟨some 17, (.a (.lits 1 1 [.nilmap] [⟨0, ⟨1, .t 16⟩⟩])), none, 32⟩, ⟨some 18, (.e (.append 1 8 (.t 15) (.t 17))), none, 126⟩, oQ 19 (.nilchk (.t 11)) 255, oQ 20 (.fadr 3 1 (.t 19)) 511, ⟨none, (.e (.store 1 (.t 20) (.t 18))), none, 1023⟩]
def r29_5 : List AOper := [oM 21 0 0, oQ 22 (.nilchk (.t 21)) 1, oQ 23 (.fadr 3 1 (.t 22)) 3, oR 24 23 7, oQ 25 (.len false (.t 24)) 15, oQ 26 (.bin .sub (.t 25) (oI 1)) 31, oQ 27 (.build [(.int .i64 (.ofNat 0)), (.int .i64 (.ofNat 0)), .str []] [⟨0, ⟨1, oI 3⟩⟩, ⟨1, ⟨1, .t 26⟩⟩]) 63, ⟨none, (.e (.store 3 (.t 2) (.t 27))), none, 127⟩, oC 3 (.int .i64 (.ofNat 0)) 255]
def c29 : ACode := (.seq (.reg r29_0) (.seq (.seq (.reg r29_1) (.seq (.reg r29_2) (.cond (.t 8) (.seq (.reg r29_3) .ret) .skip))) (.seq (.reg r29_4) (.seq (.reg r29_5) .ret))))
def fn29 : AFunc := ⟨28, [(.cn 2 3), (.t 3)], c29⟩
theorem comp29 : comp Try.prog 29 = some fn29 := by kernel_rfl
def r30_0 : List AOper := [⟨some 5, (.a (.box (.t 1))), none, 0⟩, ⟨some 6, (.a (.box (.t 2))), none, 0⟩, ⟨some 7, (.a (.box (.t 3))), none, 0⟩, oC 8 (.int .i64 (.ofNat 0)) 0]
def r30_1 : List AOper := [oM 15 0 0, ⟨some 16, (.r (.loadn 3) (.t 5) (.t 5)), none, 0⟩, ⟨some 17, (.r (.loadn 3) (.t 6) (.t 6)), none, 0⟩, oK 18 52 [.t 15, .t 16, .t 17] 7, oM 14 18 15, oE 19 14 0 31, oE 20 14 1 31, oM 9 19 63, oM 10 20 255]
def r30_2 : List AOper := [oM 21 10 0, oQ 22 (.bin .neq (.t 21) (oI 0)) 1]
def r30_3 : List AOper := [oM 23 10 0, oM 8 23 1]
def r30_4 : List AOper := [oM 25 9 0, ⟨some 26, (.r (.loadn 3) (.t 6) (.t 6)), none, 0⟩, ⟨some 27, (.r (.lookup true [.i, .i, .s] (.agg [(.int .i64 (.ofNat 0)), (.int .i64 (.ofNat 0)), .str []]) true) (.t 25) (.t 26)), none, 3⟩, oM 24 27 7, oE 28 24 0 15, oE 29 24 1 15, ⟨some 11, (.a (.alloc [(.int .i64 (.ofNat 0)), (.int .i64 (.ofNat 0)), .str []])), none, 0⟩, ⟨none, (.e (.store 3 (.t 11) (.t 28))), none, 95⟩, oM 12 29 255]
def r30_5 : List AOper := [oQ 31 (.fadr 0 1 (.t 7)) 0, oR 32 31 1, oQ 33 (.bin .eql (.t 32) (oI 0)) 3, oM 30 33 7]
def r30_6 : List AOper := [oM 34 12 0]
def r30_7 : List AOper := [oM 35 9 0, ⟨some 36, (.r (.loadn 3) (.t 6) (.t 6)), none, 0⟩, ⟨none, (.e (.mdel true [.i, .i, .s] (.t 35) (.t 36))), none, 3⟩]
def r30_8 : List AOper := [oM 37 0 0, oQ 38 (.nilchk (.t 37)) 1, oQ 39 (.fadr 2 1 (.t 38)) 3, oR 40 39 7, oQ 41 (.bin .sub (.t 40) (oI 1)) 15, oQ 42 (.nilchk (.t 37)) 31, oQ 43 (.fadr 2 1 (.t 42)) 63, ⟨none, (.e (.store 1 (.t 43) (.t 41))), none, 127⟩]
def r30_9 : List AOper := [oC 8 (.int .i64 (.ofNat 0)) 0]
def r30_10 : List AOper := [oM 45 12 0, oQ 46 (.un .not (.t 45)) 1, oM 44 46 3]
def r30_11 : List AOper := [oM 47 0 0, oK 48 54 [.t 47] 1, oM 13 48 3]
def r30_12 : List AOper := [oM 49 13 0, oQ 50 (.bin .neq (.t 49) (oI 0)) 1]
def r30_13 : List AOper := [oM 51 13 0, oM 8 51 1]
def r30_14 : List AOper := [oM 52 9 0, ⟨some 53, (.r (.loadn 3) (.t 6) (.t 6)), none, 0⟩, ⟨some 54, (.r (.loadn 3) (.t 7) (.t 7)), none, 0⟩, ⟨none, (.e (.mupd true [.i, .i, .s] (.t 52) (.t 53) (.t 54))), none, 7⟩]
def r30_15 : List AOper := [oC 8 (.int .i64 (.ofNat 0)) 0]
def c30 : ACode := (.seq (.reg r30_0) (.seq (.reg r30_1) (.seq (.seq (.reg r30_2) (.cond (.t 22) (.seq (.reg r30_3) .ret) .skip)) (.seq (.reg r30_4) (.seq (.blk 0 (.seq (.reg r30_5) (.cond (.t 30) (.seq (.seq (.reg r30_6) (.cond (.t 34) (.seq (.reg r30_7) (.reg r30_8)) .skip)) (.seq (.reg r30_9) .ret)) (.seq (.reg r30_10) (.cond (.t 44) (.seq (.reg r30_11) (.seq (.reg r30_12) (.cond (.t 50) (.seq (.reg r30_13) .ret) .skip))) .skip))))) (.seq (.reg r30_14) (.seq (.reg r30_15) .ret)))))))
def fn30 : AFunc := ⟨55, [(.t 8)], c30⟩
theorem comp30 : comp Try.prog 30 = some fn30 := by kernel_rfl
def r31_0 : List AOper := [⟨some 2, (.a (.alloc [(.int .i64 (.ofNat 0)), (.int .i64 (.ofNat 0)), .str []])), none, 0⟩]
def r31_1 : List AOper := [oM 3 0 0, oQ 4 (.build [(.int .i64 (.ofNat 0)), (.int .i64 (.ofNat 0)), .str []] [⟨0, ⟨1, oI 1⟩⟩, ⟨1, ⟨1, .t 3⟩⟩]) 1, ⟨none, (.e (.store 3 (.t 2) (.t 4))), none, 3⟩]
def c31 : ACode := (.seq (.reg r31_0) (.seq (.reg r31_1) .ret))
def fn31 : AFunc := ⟨5, [(.cn 2 3)], c31⟩
theorem comp31 : comp Try.prog 31 = some fn31 := by kernel_rfl
def r32_0 : List AOper := [⟨some 2, (.a (.alloc [(.int .i64 (.ofNat 0)), (.int .i64 (.ofNat 0)), .str []])), none, 0⟩]
def r32_1 : List AOper := [oM 3 0 0, oQ 4 (.build [(.int .i64 (.ofNat 0)), (.int .i64 (.ofNat 0)), .str []] [⟨0, ⟨1, oI 2⟩⟩, ⟨2, ⟨1, .t 3⟩⟩]) 1, ⟨none, (.e (.store 3 (.t 2) (.t 4))), none, 3⟩]
def c32 : ACode := (.seq (.reg r32_0) (.seq (.reg r32_1) .ret))
def fn32 : AFunc := ⟨5, [(.cn 2 3)], c32⟩
theorem comp32 : comp Try.prog 32 = some fn32 := by kernel_rfl
def r36_0 : List AOper := [⟨some 5, (.a (.box (.t 0))), none, 0⟩, oC 6 (.bool false) 0]
def r36_1 : List AOper := [oR 13 1 0, oQ 14 (.bin .sub (.t 13) (oI 1)) 1, ⟨none, (.e (.store 1 (.t 1) (.t 14))), none, 3⟩]
def r36_2 : List AOper := [oR 15 1 0, oQ 16 (.bin .lss (.t 15) (oI 0)) 1]
def r36_3 : List AOper := [oC 6 (.bool false) 0]
def r36_4 : List AOper := [oQ 17 (.fadr 0 1 (.t 5)) 0, oR 18 17 1]
def r36_5 : List AOper := [oQ 20 (.bin .eql (.t 18) (oI 0)) 0, oM 19 20 1]
def r36_6 : List AOper := [oR 21 2 0, ⟨some 22, (.a (.lits 1 1 [(.int .u8 (.ofNat 0))] [⟨0, ⟨1, (.c (.int .u8 (.ofNat 0)))⟩⟩])), none, 0⟩, ⟨some 23, (.e (.append 1 1 (.t 21) (.t 22))), none, 3⟩, ⟨none, (.e (.store 1 (.t 2) (.t 23))), none, 7⟩]
def r36_7 : List AOper := [oC 6 (.bool true) 0]
def r36_8 : List AOper := [oQ 25 (.bin .eql (.t 18) (oI 1)) 0, oM 24 25 1]
def r36_9 : List AOper := [oR 26 2 0, ⟨some 27, (.a (.lits 1 1 [(.int .u8 (.ofNat 0))] [⟨0, ⟨1, (.c (.int .u8 (.ofNat 1)))⟩⟩])), none, 0⟩, ⟨some 28, (.e (.append 1 1 (.t 26) (.t 27))), none, 3⟩, oQ 29 (.fadr 1 1 (.t 5)) 0, oR 30 29 8, oK 31 37 [.t 30, oI 8] 31, ⟨some 32, (.e (.append 1 1 (.t 28) (.t 31))), none, 63⟩, ⟨none, (.e (.store 1 (.t 2) (.t 32))), none, 127⟩]
def r36_10 : List AOper := [oC 6 (.bool true) 0]
def r36_11 : List AOper := [oQ 34 (.bin .eql (.t 18) (oI 2)) 0, oM 33 34 1]
def r36_12 : List AOper := [oR 35 2 0, ⟨some 36, (.a (.lits 1 1 [(.int .u8 (.ofNat 0))] [⟨0, ⟨1, (.c (.int .u8 (.ofNat 2)))⟩⟩])), none, 0⟩, ⟨some 37, (.e (.append 1 1 (.t 35) (.t 36))), none, 3⟩, oQ 38 (.fadr 2 1 (.t 5)) 0, oR 39 38 8, oK 40 38 [.t 39] 31, ⟨some 41, (.e (.append 1 1 (.t 37) (.t 40))), none, 63⟩, ⟨none, (.e (.store 1 (.t 2) (.t 41))), none, 127⟩]
def r36_13 : List AOper := [oC 6 (.bool true) 0]
def r36_14 : List AOper := [oR 43 3 0, ⟨some 44, (.r (.loadn 3) (.t 5) (.t 5)), none, 0⟩, oK 45 39 [.t 43, .t 44] 3, oM 42 45 7, oE 46 42 0 15, oE 47 42 1 15, oM 7 46 31, oM 8 47 127]
def r36_15 : List AOper := [oM 48 8 0, oQ 49 (.bin .neq (.t 48) (oI 0)) 1, oM 50 49 3, oG 51 (.mov (.t 7)) 50 false 7, oG 52 (.bin .gtr (.t 51) (oI 65535)) 50 false 15, oQ 53 (.pick (.t 50) (.c (.bool true)) (.t 52)) 31]
def r36_16 : List AOper := [oC 6 (.bool false) 0]
def r36_17 : List AOper := [oR 54 2 0, ⟨some 55, (.a (.lits 1 1 [(.int .u8 (.ofNat 0))] [⟨0, ⟨1, (.c (.int .u8 (.ofNat 3)))⟩⟩])), none, 0⟩, ⟨some 56, (.e (.append 1 1 (.t 54) (.t 55))), none, 3⟩, oM 57 7 0, oK 58 37 [.t 57, oI 2] 15, ⟨some 59, (.e (.append 1 1 (.t 56) (.t 58))), none, 31⟩, ⟨none, (.e (.store 1 (.t 2) (.t 59))), none, 63⟩]
def r36_18 : List AOper := [oR 60 3 0, ⟨some 61, (.r (.loadn 3) (.t 5) (.t 5)), none, 0⟩, oK 62 24 [.t 60, .t 61] 3, oQ 63 (.len false (.t 62)) 7, oC 64 (.int .i64 (.ofNat 0)) 0]
def r36_19 : List AOper := [oQ 65 (.bin .lss (.t 64) (.t 63)) 0]
def r36_20 : List AOper := [oQ 66 (.iadr 3 (.t 62) (.t 64)) 0, ⟨some 67, (.r (.loadn 3) (.t 66) (.t 66)), none, 1⟩, ⟨some 10, (.a (.alloc [(.int .i64 (.ofNat 0)), (.int .i64 (.ofNat 0)), .str []])), none, 0⟩, ⟨none, (.e (.store 3 (.t 10) (.t 67))), none, 7⟩]
def r36_21 : List AOper := [oR 69 3 0, ⟨some 70, (.r (.loadn 3) (.t 5) (.t 5)), none, 0⟩, ⟨some 71, (.r (.loadn 3) (.t 10) (.t 10)), none, 0⟩, oK 72 27 [.t 69, .t 70, .t 71] 7, oM 68 72 15, oE 73 68 0 31, oE 74 68 1 31, ⟨some 11, (.a (.alloc [(.int .i64 (.ofNat 0)), (.int .i64 (.ofNat 0)), .str []])), none, 0⟩, ⟨none, (.e (.store 3 (.t 11) (.t 73))), none, 191⟩, oM 12 74 511]
def r36_22 : List AOper := [oR 75 1 0, oQ 76 (.bin .add (.t 75) (oI 1)) 1, ⟨none, (.e (.store 1 (.t 1) (.t 76))), none, 3⟩]
def r36_23 : List AOper := [oR 77 4 0, ⟨some 78, (.r (.loadn 3) (.t 10) (.t 10)), none, 0⟩, ⟨some 79, (.e (.callv (.t 77) [.t 78])), none, 3⟩, oQ 80 (.un .not (.t 79)) 7, oM 81 80 15, ⟨some 82, (.r .load1 (.t 4) (.t 4)), some ⟨81, false⟩, 31⟩, ⟨some 83, (.r (.loadn 3) (.t 11) (.t 11)), some ⟨81, false⟩, 31⟩, ⟨some 84, (.e (.callv (.t 82) [.t 83])), some ⟨81, false⟩, 127⟩, oG 85 (.un .not (.t 84)) 81 false 255, oQ 86 (.pick (.t 81) (.c (.bool true)) (.t 85)) 511]
def r36_24 : List AOper := [oC 6 (.bool false) 0]
def r36_25 : List AOper := [oQ 87 (.bin .add (.t 64) (oI 1)) 0, oM 64 87 1]
def r36_26 : List AOper := [oC 6 (.bool true) 0]
def b36_0 : ACode := (.seq (.reg r36_19) (.seq (.cond (.t 65) .skip (.ext 1)) (.seq (.blk 2 (.seq (.reg r36_20) (.seq (.reg r36_21) (.seq (.reg r36_22) (.seq (.reg r36_23) (.cond (.t 86) (.seq (.reg r36_24) .ret) .skip)))))) (.reg r36_25))))
def c36 : ACode := (.seq (.reg r36_0) (.seq (.seq (.reg r36_1) (.seq (.reg r36_2) (.cond (.t 16) (.seq (.reg r36_3) .ret) .skip))) (.seq (.seq (.reg r36_4) (.blk 0 (.seq (.reg r36_5) (.cond (.t 19) (.seq (.reg r36_6) (.seq (.reg r36_7) .ret)) (.seq (.reg r36_8) (.cond (.t 24) (.seq (.draw r36_9) (.seq (.reg r36_10) .ret)) (.seq (.reg r36_11) (.cond (.t 33) (.seq (.draw r36_12) (.seq (.reg r36_13) .ret)) .skip)))))))) (.seq (.reg r36_14) (.seq (.seq (.reg r36_15) (.cond (.t 53) (.seq (.reg r36_16) .ret) .skip)) (.seq (.reg r36_17) (.seq (.seq (.reg r36_18) (.blk 1 (.loop b36_0))) (.seq (.reg r36_26) .ret))))))))
def fn36 : AFunc := ⟨88, [(.t 6)], c36⟩
theorem comp36 : comp Try.prog 36 = some fn36 := by kernel_rfl
def r37_0 : List AOper := [oC 4 (.str []) 0]
def r37_1 : List AOper := [oM 8 0 0, oM 9 1 0, oK 10 56 [.t 8, .t 9] 3, oM 7 10 7, oE 11 7 0 15, oE 12 7 1 15, oM 5 11 31, oM 6 12 127]
def r37_2 : List AOper := [oM 13 5 0, oM 4 13 1]
def c37 : ACode := (.seq (.reg r37_0) (.seq (.reg r37_1) (.seq (.reg r37_2) .ret)))
def fn37 : AFunc := ⟨14, [(.t 4)], c37⟩
theorem comp37 : comp Try.prog 37 = some fn37 := by kernel_rfl
def r38_0 : List AOper := [oC 2 (.str []) 0]
def r38_1 : List AOper := [oM 6 0 0, oQ 7 (.len true (.t 6)) 1, oK 8 56 [.t 7, oI 4] 3, oM 5 8 7, oE 9 5 0 15, oE 10 5 1 15, oM 3 9 31, oM 4 10 127]
def r38_2 : List AOper := [oM 11 3 0, oM 12 0 0, oQ 13 (.bin .add (.t 11) (.t 12)) 3, oM 2 13 7]
def c38 : ACode := (.seq (.reg r38_0) (.seq (.reg r38_1) (.seq (.reg r38_2) .ret)))
def fn38 : AFunc := ⟨14, [(.t 2)], c38⟩
theorem comp38 : comp Try.prog 38 = some fn38 := by kernel_rfl
def r39_0 : List AOper := [⟨some 3, (.a (.box (.t 1))), none, 0⟩, oC 4 (.int .i64 (.ofNat 0)) 0, oC 5 (.int .i64 (.ofNat 0)) 2]
def r39_1 : List AOper := [oM 9 0 0, ⟨some 10, (.r (.loadn 3) (.t 3) (.t 3)), none, 0⟩, oK 11 49 [.t 9, .t 10] 3, oM 8 11 7, oE 12 8 0 15, oE 13 8 1 15, oM 6 12 31, oM 7 13 127]
def r39_2 : List AOper := [oM 14 6 0, ⟨some 15, (.r .mlen (.t 14) (.t 14)), none, 1⟩, oM 16 7 0, oM 4 15 3, oM 5 16 15]
def c39 : ACode := (.seq (.reg r39_0) (.seq (.reg r39_1) (.seq (.reg r39_2) .ret)))
def fn39 : AFunc := ⟨17, [(.t 4), (.t 5)], c39⟩
theorem comp39 : comp Try.prog 39 = some fn39 := by kernel_rfl
def r41_0 : List AOper := [oC 2 .nilptr 0]
def r41_1 : List AOper := [oM 3 0 0, oQ 4 (.build [.str [], (.int .i64 (.ofNat 0)), (.int .i64 (.ofNat 0)), (.int .i64 (.ofNat 0)), .nilfn, .nilfn] [⟨0, ⟨1, .t 3⟩⟩, ⟨2, ⟨1, oI 200⟩⟩, ⟨4, ⟨1, (.c (.fn 60 [] []))⟩⟩, ⟨5, ⟨1, (.c (.fn 61 [] []))⟩⟩]) 1, ⟨some 5, (.a (.box (.t 4))), none, 3⟩, oM 2 5 7]
def c41 : ACode := (.seq (.reg r41_0) (.seq (.reg r41_1) .ret))
def fn41 : AFunc := ⟨6, [(.t 2)], c41⟩
theorem comp41 : comp Try.prog 41 = some fn41 := by kernel_rfl
def r42_0 : List AOper := [⟨some 2, (.a (.alloc [(.int .i64 (.ofNat 0)), (.int .i64 (.ofNat 0)), .str []])), none, 0⟩, oC 3 (.bool false) 0]
def r42_1 : List AOper := [oM 7 0 0, oK 8 62 [.t 7] 1, oM 6 8 3, oE 9 6 0 7, oE 10 6 1 7, ⟨some 4, (.a (.alloc [(.int .i64 (.ofNat 0)), (.int .i64 (.ofNat 0)), .str []])), none, 0⟩, ⟨none, (.e (.store 3 (.t 4) (.t 9))), none, 47⟩, oM 5 10 127]
def r42_2 : List AOper := [⟨some 11, (.r (.loadn 3) (.t 4) (.t 4)), none, 0⟩, oM 12 5 0, oM 13 12 2, oG 14 (.mov (.t 0)) 13 true 6, oG 15 (.nilchk (.t 14)) 13 true 14, oG 16 (.fadr 1 1 (.t 15)) 13 true 30, ⟨some 17, (.r .load1 (.t 16) (.t 16)), some ⟨13, true⟩, 62⟩, oG 18 (.mov (.t 0)) 13 true 6, oG 19 (.nilchk (.t 18)) 13 true 134, oG 20 (.fadr 0 1 (.t 19)) 13 true 390, ⟨some 21, (.r .load1 (.t 20) (.t 20)), some ⟨13, true⟩, 902⟩, oG 22 (.len true (.t 21)) 13 true 1926, oG 23 (.bin .eql (.t 17) (.t 22)) 13 true 4094, oQ 24 (.pick (.t 13) (.t 23) (.c (.bool false))) 8190, ⟨none, (.e (.store 3 (.t 2) (.t 11))), none, 7⟩, oM 3 24 32767]
def c42 : ACode := (.seq (.reg r42_0) (.seq (.reg r42_1) (.seq (.draw r42_2) .ret)))
def fn42 : AFunc := ⟨25, [(.cn 2 3), (.t 3)], c42⟩
theorem comp42 : comp Try.prog 42 = some fn42 := by kernel_rfl
def r48_0 : List AOper := [oC 2 (.bool false) 0]
def r48_1 : List AOper := [oM 3 0 0, oQ 4 (.eq true .ptrnil (.t 3) (.c .nilptr)) 1, oM 5 4 3, oG 6 (.mov (.t 0)) 5 true 7, oG 7 (.nilchk (.t 6)) 5 true 15, oG 8 (.fadr 0 1 (.t 7)) 5 true 31, ⟨some 9, (.r .load1 (.t 8) (.t 8)), some ⟨5, true⟩, 63⟩, oQ 10 (.pick (.t 5) (.t 9) (.c (.bool false))) 127, oM 2 10 255]
def c48 : ACode := (.seq (.reg r48_0) (.seq (.reg r48_1) .ret))
def fn48 : AFunc := ⟨11, [(.t 2)], c48⟩
theorem comp48 : comp Try.prog 48 = some fn48 := by kernel_rfl
def r49_0 : List AOper := [⟨some 3, (.a (.box (.t 1))), none, 0⟩, oC 4 .nilmap 0, oC 5 (.int .i64 (.ofNat 0)) 2]
def r49_1 : List AOper := [oM 7 0 0, oK 8 48 [.t 7] 1, oQ 9 (.un .not (.t 8)) 3, oM 6 9 7]
def r49_2 : List AOper := [oC 4 .nilmap 0, oC 5 (.int .i64 (.ofNat 12)) 1]
def r49_3 : List AOper := [oQ 11 (.fadr 0 1 (.t 3)) 0, oR 12 11 1, oQ 13 (.bin .neq (.t 12) (oI 3)) 3, oM 14 13 7, oG 15 (.fadr 1 1 (.t 3)) 14 false 15, ⟨some 16, (.r .load1 (.t 15) (.t 15)), some ⟨14, false⟩, 31⟩, oG 17 (.bin .lss (.t 16) (oI 0)) 14 false 63, oQ 18 (.pick (.t 14) (.c (.bool true)) (.t 17)) 127, oM 19 18 255, oG 20 (.fadr 1 1 (.t 3)) 19 false 511, ⟨some 21, (.r .load1 (.t 20) (.t 20)), some ⟨19, false⟩, 1023⟩, oG 22 (.mov (.t 0)) 19 false 511, oG 23 (.nilchk (.t 22)) 19 false 2559, oG 24 (.fadr 3 1 (.t 23)) 19 false 6655, ⟨some 25, (.r .load1 (.t 24) (.t 24)), some ⟨19, false⟩, 14847⟩, oG 26 (.len false (.t 25)) 19 false 31231, oG 27 (.bin .geq (.t 21) (.t 26)) 19 false 65535, oQ 28 (.pick (.t 19) (.c (.bool true)) (.t 27)) 131071, oM 10 28 262143]
def r49_4 : List AOper := [oC 4 .nilmap 0, oC 5 (.int .i64 (.ofNat 1)) 1]
def r49_5 : List AOper := [oM 29 0 0, oQ 30 (.nilchk (.t 29)) 1, oQ 31 (.fadr 3 1 (.t 30)) 3, oR 32 31 7, oQ 33 (.fadr 1 1 (.t 3)) 0, oR 34 33 16, oQ 35 (.iadr 1 (.t 32) (.t 34)) 63, oR 36 35 127, oM 4 36 255, oC 5 (.int .i64 (.ofNat 0)) 511]
def c49 : ACode := (.seq (.reg r49_0) (.seq (.blk 0 (.seq (.reg r49_1) (.cond (.t 6) (.seq (.reg r49_2) .ret) (.seq (.draw r49_3) (.cond (.t 10) (.seq (.reg r49_4) .ret) .skip))))) (.seq (.draw r49_5) .ret)))
def fn49 : AFunc := ⟨37, [(.t 4), (.t 5)], c49⟩
theorem comp49 : comp Try.prog 49 = some fn49 := by kernel_rfl
def r50_0 : List AOper := [⟨some 2, (.a (.box (.t 0))), none, 0⟩, ⟨some 3, (.a (.box (.t 1))), none, 0⟩, oC 4 (.bool false) 0]
def r50_1 : List AOper := [oQ 6 (.fadr 0 1 (.t 2)) 0, oR 7 6 1, oQ 8 (.fadr 0 1 (.t 3)) 0, oR 9 8 4, oQ 10 (.bin .neq (.t 7) (.t 9)) 15, oM 5 10 31]
def r50_2 : List AOper := [oQ 11 (.fadr 0 1 (.t 2)) 0, oR 12 11 1, oQ 13 (.fadr 0 1 (.t 3)) 0, oR 14 13 4, oQ 15 (.bin .lss (.t 12) (.t 14)) 15, oM 4 15 31]
def r50_3 : List AOper := [oQ 17 (.fadr 0 1 (.t 2)) 0, oR 18 17 1, oQ 19 (.bin .eql (.t 18) (oI 1)) 3, oM 16 19 7]
def r50_4 : List AOper := [oQ 20 (.fadr 1 1 (.t 2)) 0, oR 21 20 1, oQ 22 (.fadr 1 1 (.t 3)) 0, oR 23 22 4, oQ 24 (.bin .lss (.t 21) (.t 23)) 15, oM 4 24 31]
def r50_5 : List AOper := [oQ 25 (.fadr 2 1 (.t 2)) 0, oR 26 25 1, oQ 27 (.fadr 2 1 (.t 3)) 0, oR 28 27 4, oQ 29 (.bin .lss (.t 26) (.t 28)) 15, oM 4 29 31]
def c50 : ACode := (.seq (.reg r50_0) (.seq (.blk 0 (.seq (.reg r50_1) (.cond (.t 5) (.seq (.reg r50_2) .ret) (.seq (.reg r50_3) (.cond (.t 16) (.seq (.reg r50_4) .ret) .skip))))) (.seq (.reg r50_5) .ret)))
def fn50 : AFunc := ⟨30, [(.t 4)], c50⟩
theorem comp50 : comp Try.prog 50 = some fn50 := by kernel_rfl
def r52_0 : List AOper := [⟨some 4, (.a (.box (.t 1))), none, 0⟩, ⟨some 5, (.a (.box (.t 2))), none, 0⟩, oC 6 .nilmap 0, oC 7 (.int .i64 (.ofNat 0)) 4]
def r52_1 : List AOper := [oM 11 0 0, ⟨some 12, (.r (.loadn 3) (.t 4) (.t 4)), none, 0⟩, oK 13 49 [.t 11, .t 12] 3, oM 10 13 7, oE 14 10 0 15, oE 15 10 1 15, oM 8 14 31, oM 9 15 127]
def r52_2 : List AOper := [oM 16 9 0, oQ 17 (.bin .eql (.t 16) (oI 0)) 1, oM 18 17 3, ⟨some 19, (.r (.loadn 3) (.t 5) (.t 5)), some ⟨18, true⟩, 7⟩, ⟨some 20, (.e (.call 66 [.t 19])), some ⟨18, true⟩, 15⟩, oG 21 (.un .not (.t 20)) 18 true 31, oQ 22 (.pick (.t 18) (.t 21) (.c (.bool false))) 63]
def r52_3 : List AOper := [oC 9 (.int .i64 (.ofNat 4)) 0]
def r52_4 : List AOper := [oM 23 8 0, oM 24 9 0, oM 6 23 1, oM 7 24 7]
def c52 : ACode := (.seq (.reg r52_0) (.seq (.reg r52_1) (.seq (.seq (.reg r52_2) (.cond (.t 22) (.reg r52_3) .skip)) (.seq (.reg r52_4) .ret))))
def fn52 : AFunc := ⟨25, [(.t 6), (.t 7)], c52⟩
theorem comp52 : comp Try.prog 52 = some fn52 := by kernel_rfl
def r54_0 : List AOper := [oC 2 (.int .i64 (.ofNat 0)) 0]
def r54_1 : List AOper := [oM 4 0 0, oK 5 48 [.t 4] 1, oQ 6 (.un .not (.t 5)) 3, oM 3 6 7]
def r54_2 : List AOper := [oC 2 (.int .i64 (.ofNat 12)) 0]
def r54_3 : List AOper := [oM 8 0 0, oQ 9 (.nilchk (.t 8)) 1, oQ 10 (.fadr 2 1 (.t 9)) 3, oR 11 10 7, oM 12 0 0, oQ 13 (.nilchk (.t 12)) 16, oQ 14 (.fadr 1 1 (.t 13)) 48, oR 15 14 112, oQ 16 (.bin .eql (.t 11) (.t 15)) 255, oM 7 16 511]
def r54_4 : List AOper := [oC 2 (.int .i64 (.ofNat 8)) 0]
def r54_5 : List AOper := [oM 17 0 0, oQ 18 (.nilchk (.t 17)) 1, oQ 19 (.fadr 2 1 (.t 18)) 3, oR 20 19 7, oQ 21 (.bin .add (.t 20) (oI 1)) 15, oQ 22 (.nilchk (.t 17)) 31, oQ 23 (.fadr 2 1 (.t 22)) 63, ⟨none, (.e (.store 1 (.t 23) (.t 21))), none, 127⟩]
def r54_6 : List AOper := [oC 2 (.int .i64 (.ofNat 0)) 0]
def c54 : ACode := (.seq (.reg r54_0) (.seq (.blk 0 (.seq (.reg r54_1) (.cond (.t 3) (.seq (.reg r54_2) .ret) (.seq (.draw r54_3) (.cond (.t 7) (.seq (.reg r54_4) .ret) .skip))))) (.seq (.reg r54_5) (.seq (.reg r54_6) .ret))))
def fn54 : AFunc := ⟨24, [(.t 2)], c54⟩
theorem comp54 : comp Try.prog 54 = some fn54 := by kernel_rfl
def r56_0 : List AOper := [oC 4 (.str []) 0, oC 5 (.int .i64 (.ofNat 0)) 1]
def r56_1 : List AOper := [oM 8 1 0, oK 9 68 [.t 8] 1, oQ 10 (.un .not (.t 9)) 3, oM 11 10 7, oG 12 (.mov (.t 1)) 11 false 15, oG 13 (.bin .lss (.t 12) (oI 8)) 11 false 31, oG 14 (.mov (.t 13)) 11 false 63, oG 15 (.mov (.t 0)) 14 true 127, oG 16 (.toInt .u64 (.t 15)) 14 true 255, oG 17 (.mov (.t 1)) 14 true 127, oG 18 (.bin .mul (oI 8) (.t 17)) 14 true 639, oG 19 (.toInt .u64 (.t 18)) 14 true 1663, oG 20 (.bin .shr (.t 16) (.t 19)) 14 true 4095, oG 21 (.bin .neq (.t 20) (.c (.int .u64 (.ofNat 0)))) 14 true 8191, oG 22 (.pick (.t 14) (.t 21) (.c (.bool false))) 11 false 16383, oQ 23 (.pick (.t 11) (.c (.bool true)) (.t 22)) 32767]
def r56_2 : List AOper := [oC 4 (.str []) 0, oC 5 (.int .i64 (.ofNat 1)) 1]
def r56_3 : List AOper := [oM 24 1 0, ⟨some 25, (.a (.mkslc 1 1 [(.int .u8 (.ofNat 0))] (.t 24) (.t 24))), none, 1⟩, oM 6 25 3]
def r56_4 : List AOper := [oM 26 6 0, oQ 27 (.len false (.t 26)) 1, oC 28 (.int .i64 (.ofNat 0)) 0]
def r56_5 : List AOper := [oQ 29 (.bin .lss (.t 28) (.t 27)) 0]
def r56_6 : List AOper := [oM 30 28 0, oM 7 30 1]
def r56_7 : List AOper := [oM 31 6 0, oM 32 7 0, oM 33 0 0, oM 34 7 0, oQ 35 (.bin .mul (oI 8) (.t 34)) 8, oQ 36 (.toInt .u64 (.t 35)) 24, oQ 37 (.bin .shr (.t 33) (.t 36)) 60, oQ 38 (.toInt .u8 (.t 37)) 124, oQ 39 (.iadr 1 (.t 31) (.t 32)) 255, ⟨none, (.e (.store 1 (.t 39) (.t 38))), none, 511⟩]
def r56_8 : List AOper := [oQ 40 (.bin .add (.t 28) (oI 1)) 0, oM 28 40 1]
def r56_9 : List AOper := [oM 41 6 0, ⟨some 42, (.r .b2s (.t 41) (.t 41)), none, 1⟩, oM 4 42 3, oC 5 (.int .i64 (.ofNat 0)) 7]
def b56_0 : ACode := (.seq (.reg r56_5) (.seq (.cond (.t 29) .skip (.ext 0)) (.seq (.blk 1 (.seq (.reg r56_6) (.reg r56_7))) (.reg r56_8))))
def c56 : ACode := (.seq (.reg r56_0) (.seq (.seq (.reg r56_1) (.cond (.t 23) (.seq (.reg r56_2) .ret) .skip)) (.seq (.reg r56_3) (.seq (.seq (.reg r56_4) (.blk 0 (.loop b56_0))) (.seq (.reg r56_9) .ret)))))
def fn56 : AFunc := ⟨43, [(.t 4), (.t 5)], c56⟩
theorem comp56 : comp Try.prog 56 = some fn56 := by kernel_rfl
def r60_0 : List AOper := [⟨some 0, (.a (.alloc [(.int .i64 (.ofNat 0)), (.int .i64 (.ofNat 0)), .str []])), none, 0⟩]
def r60_1 : List AOper := [oQ 1 (.build [(.int .i64 (.ofNat 0)), (.int .i64 (.ofNat 0)), .str []] [⟨0, ⟨1, oI 3⟩⟩]) 0, ⟨none, (.e (.store 3 (.t 0) (.t 1))), none, 1⟩]
def c60 : ACode := (.seq (.reg r60_0) (.seq (.reg r60_1) .ret))
def fn60 : AFunc := ⟨2, [(.cn 0 3)], c60⟩
theorem comp60 : comp Try.prog 60 = some fn60 := by kernel_rfl
def r61_0 : List AOper := [⟨some 3, (.a (.box (.t 0))), none, 0⟩, ⟨some 4, (.a (.box (.t 1))), none, 0⟩, ⟨some 5, (.a (.box (.t 2))), none, 0⟩]
def c61 : ACode := (.reg r61_0)
def fn61 : AFunc := ⟨6, [], c61⟩
theorem comp61 : comp Try.prog 61 = some fn61 := by kernel_rfl
def r62_0 : List AOper := [⟨some 2, (.a (.alloc [(.int .i64 (.ofNat 0)), (.int .i64 (.ofNat 0)), .str []])), none, 0⟩, oC 3 (.bool false) 0]
def r62_1 : List AOper := [oM 13 0 0, oK 14 71 [.t 13, oI 1] 1, oM 12 14 3, oE 15 12 0 7, oE 16 12 1 7, oM 4 15 15, oM 5 16 63]
def r62_2 : List AOper := [oM 17 0 0, oQ 18 (.nilchk (.t 17)) 1, oQ 19 (.fadr 2 1 (.t 18)) 3, oR 20 19 7, oQ 21 (.bin .sub (.t 20) (oI 1)) 15, oQ 22 (.nilchk (.t 17)) 31, oQ 23 (.fadr 2 1 (.t 22)) 63, ⟨none, (.e (.store 1 (.t 23) (.t 21))), none, 127⟩]
def r62_3 : List AOper := [oM 24 5 0, oQ 25 (.un .not (.t 24)) 1, oM 26 25 3, oG 27 (.mov (.t 0)) 26 false 7, oG 28 (.nilchk (.t 27)) 26 false 15, oG 29 (.fadr 2 1 (.t 28)) 26 false 31, ⟨some 30, (.r .load1 (.t 29) (.t 29)), some ⟨26, false⟩, 63⟩, oG 31 (.bin .lss (.t 30) (oI 0)) 26 false 127, oQ 32 (.pick (.t 26) (.c (.bool true)) (.t 31)) 255]
def r62_4 : List AOper := [oQ 33 (.build [(.int .i64 (.ofNat 0)), (.int .i64 (.ofNat 0)), .str []] []) 0, ⟨none, (.e (.store 3 (.t 2) (.t 33))), none, 1⟩, oC 3 (.bool false) 3]
def r62_5 : List AOper := [oM 34 4 0, oQ 35 (.bin .neq (.t 34) (oI 3)) 1]
def r62_6 : List AOper := [oM 36 0 0, oM 37 4 0, oK 38 72 [.t 36, .t 37] 3, oE 39 38 0 7, oE 40 38 1 7, ⟨none, (.e (.store 3 (.t 2) (.t 39))), none, 31⟩, oM 3 40 63]
def r62_7 : List AOper := [oM 42 0 0, oK 43 71 [.t 42, oI 2] 1, oM 41 43 3, oE 44 41 0 7, oE 45 41 1 7, oM 6 44 15, oM 5 45 63]
def r62_8 : List AOper := [oM 46 5 0, oQ 47 (.un .not (.t 46)) 1]
def r62_9 : List AOper := [oQ 48 (.build [(.int .i64 (.ofNat 0)), (.int .i64 (.ofNat 0)), .str []] []) 0, ⟨none, (.e (.store 3 (.t 2) (.t 48))), none, 1⟩, oC 3 (.bool false) 3]
def r62_10 : List AOper := [oM 49 0 0, oQ 50 (.nilchk (.t 49)) 1, oQ 51 (.fadr 4 1 (.t 50)) 3, oR 52 51 7, ⟨some 53, (.e (.callv (.t 52) [])), none, 15⟩, ⟨some 7, (.a (.alloc [(.int .i64 (.ofNat 0)), (.int .i64 (.ofNat 0)), .str []])), none, 0⟩, ⟨none, (.e (.store 3 (.t 7) (.t 53))), none, 63⟩]
def r62_11 : List AOper := [oM 54 0 0, oQ 55 (.nilchk (.t 54)) 1, oQ 56 (.fadr 3 1 (.t 55)) 3, oR 57 56 7, oM 58 6 0, oQ 59 (.bin .add (oI 1) (.t 58)) 16, oQ 60 (.bin .add (.t 57) (.t 59)) 63, oQ 61 (.nilchk (.t 54)) 127, oQ 62 (.fadr 3 1 (.t 61)) 255, ⟨none, (.e (.store 1 (.t 62) (.t 60))), none, 511⟩]
def r62_12 : List AOper := [oQ 63 (.build [(.int .i64 (.ofNat 0)), (.int .i64 (.ofNat 0)), .str []] []) 0, ⟨some 8, (.a (.alloc [(.int .i64 (.ofNat 0)), (.int .i64 (.ofNat 0)), .str []])), none, 0⟩, ⟨none, (.e (.store 3 (.t 8) (.t 63))), none, 3⟩]
def r62_13 : List AOper := [oM 64 6 0, oC 65 (.int .i64 (.ofNat 0)) 0]
def r62_14 : List AOper := [oQ 66 (.bin .lss (.t 65) (.t 64)) 0]
def r62_15 : List AOper := [oM 68 0 0, oK 69 73 [.t 68] 1, oM 67 69 3, oE 70 67 0 7, oE 71 67 1 7, ⟨some 9, (.a (.alloc [(.int .i64 (.ofNat 0)), (.int .i64 (.ofNat 0)), .str []])), none, 0⟩, ⟨none, (.e (.store 3 (.t 9) (.t 70))), none, 47⟩, oM 10 71 127]
def r62_16 : List AOper := [oM 72 10 0, oQ 73 (.un .not (.t 72)) 1, oM 74 73 3, ⟨some 75, (.r (.loadn 3) (.t 8) (.t 8)), some ⟨74, false⟩, 7⟩, ⟨some 76, (.r (.loadn 3) (.t 9) (.t 9)), some ⟨74, false⟩, 7⟩, ⟨some 77, (.e (.call 74 [.t 75, .t 76])), some ⟨74, false⟩, 31⟩, oG 78 (.un .not (.t 77)) 74 false 63, oQ 79 (.pick (.t 74) (.c (.bool true)) (.t 78)) 127]
def r62_17 : List AOper := [oQ 80 (.build [(.int .i64 (.ofNat 0)), (.int .i64 (.ofNat 0)), .str []] []) 0, ⟨none, (.e (.store 3 (.t 2) (.t 80))), none, 1⟩, oC 3 (.bool false) 3]
def r62_18 : List AOper := [oM 82 0 0, oK 83 62 [.t 82] 1, oM 81 83 3, oE 84 81 0 7, oE 85 81 1 7, ⟨some 11, (.a (.alloc [(.int .i64 (.ofNat 0)), (.int .i64 (.ofNat 0)), .str []])), none, 0⟩, ⟨none, (.e (.store 3 (.t 11) (.t 84))), none, 47⟩, oM 10 85 127]
def r62_19 : List AOper := [oM 86 10 0, oQ 87 (.un .not (.t 86)) 1, oM 88 87 3, oG 89 (.fadr 0 1 (.t 11)) 88 false 7, ⟨some 90, (.r .load1 (.t 89) (.t 89)), some ⟨88, false⟩, 15⟩, oG 91 (.bin .eql (.t 90) (oI 0)) 88 false 31, oQ 92 (.pick (.t 88) (.c (.bool true)) (.t 91)) 63]
def r62_20 : List AOper := [oQ 93 (.build [(.int .i64 (.ofNat 0)), (.int .i64 (.ofNat 0)), .str []] []) 0, ⟨none, (.e (.store 3 (.t 2) (.t 93))), none, 1⟩, oC 3 (.bool false) 3]
def r62_21 : List AOper := [oM 94 0 0, oQ 95 (.nilchk (.t 94)) 1, oQ 96 (.fadr 5 1 (.t 95)) 3, oR 97 96 7, ⟨some 98, (.r (.loadn 3) (.t 7) (.t 7)), none, 0⟩, ⟨some 99, (.r (.loadn 3) (.t 9) (.t 9)), none, 0⟩, ⟨some 100, (.r (.loadn 3) (.t 11) (.t 11)), none, 0⟩, ⟨some 101, (.e (.callv (.t 97) [.t 98, .t 99, .t 100])), none, 127⟩]
def r62_22 : List AOper := [⟨some 102, (.r (.loadn 3) (.t 9) (.t 9)), none, 0⟩, ⟨none, (.e (.store 3 (.t 8) (.t 102))), none, 1⟩]
def r62_23 : List AOper := [oQ 103 (.bin .add (.t 65) (oI 1)) 0, oM 65 103 1]
def r62_24 : List AOper := [⟨some 104, (.r (.loadn 3) (.t 7) (.t 7)), none, 0⟩, ⟨none, (.e (.store 3 (.t 2) (.t 104))), none, 1⟩, oC 3 (.bool true) 3]
def b62_0 : ACode := (.seq (.reg r62_14) (.seq (.cond (.t 66) .skip (.ext 0)) (.seq (.blk 1 (.seq (.reg r62_15) (.seq (.seq (.reg r62_16) (.cond (.t 79) (.seq (.reg r62_17) .ret) .skip)) (.seq (.reg r62_18) (.seq (.seq (.reg r62_19) (.cond (.t 92) (.seq (.reg r62_20) .ret) .skip)) (.seq (.draw r62_21) (.reg r62_22))))))) (.reg r62_23))))
def c62 : ACode := (.seq (.reg r62_0) (.seq (.reg r62_1) (.seq (.seq (.reg r62_2) (.seq (.reg r62_3) (.cond (.t 32) (.seq (.reg r62_4) .ret) .skip))) (.seq (.seq (.reg r62_5) (.cond (.t 35) (.seq (.reg r62_6) .ret) .skip)) (.seq (.reg r62_7) (.seq (.seq (.reg r62_8) (.cond (.t 47) (.seq (.reg r62_9) .ret) .skip)) (.seq (.reg r62_10) (.seq (.reg r62_11) (.seq (.reg r62_12) (.seq (.seq (.reg r62_13) (.blk 0 (.loop b62_0))) (.seq (.reg r62_24) .ret)))))))))))
def fn62 : AFunc := ⟨105, [(.cn 2 3), (.t 3)], c62⟩
theorem comp62 : comp Try.prog 62 = some fn62 := by kernel_rfl
def r66_0 : List AOper := [⟨some 1, (.a (.box (.t 0))), none, 0⟩, oC 2 (.bool false) 0]
def r66_1 : List AOper := [⟨some 3, (.r (.loadn 3) (.t 1) (.t 1)), none, 0⟩, oK 4 76 [.t 3] 1, oQ 5 (.eq true .ifcnil (.t 4) (.c .nilifc)) 3, oM 2 5 7]
def c66 : ACode := (.seq (.reg r66_0) (.seq (.reg r66_1) .ret))
def fn66 : AFunc := ⟨6, [(.t 2)], c66⟩
theorem comp66 : comp Try.prog 66 = some fn66 := by kernel_rfl
def r71_0 : List AOper := [oC 4 (.int .i64 (.ofNat 0)) 0, oC 5 (.bool false) 1]
def r71_1 : List AOper := [oM 9 0 0, oQ 10 (.nilchk (.t 9)) 1, oQ 11 (.fadr 0 1 (.t 10)) 3, oR 12 11 7, oM 13 0 0, oQ 14 (.nilchk (.t 13)) 16, oQ 15 (.fadr 1 1 (.t 14)) 48, oR 16 15 112, oM 17 1 0, oK 18 81 [.t 12, .t 16, .t 17] 511, oM 8 18 1023, oE 19 8 0 2047, oE 20 8 1 2047, oM 6 19 4095, oM 7 20 16383]
def r71_2 : List AOper := [oM 21 7 0, oQ 22 (.bin .neq (.t 21) (oI 0)) 1]
def r71_3 : List AOper := [oC 4 (.int .i64 (.ofNat 0)) 0, oC 5 (.bool false) 1]
def r71_4 : List AOper := [oM 23 0 0, oQ 24 (.nilchk (.t 23)) 1, oQ 25 (.fadr 1 1 (.t 24)) 3, oR 26 25 7, oM 27 1 0, oQ 28 (.bin .add (.t 26) (.t 27)) 31, oQ 29 (.nilchk (.t 23)) 63, oQ 30 (.fadr 1 1 (.t 29)) 127, ⟨none, (.e (.store 1 (.t 30) (.t 28))), none, 255⟩]
def r71_5 : List AOper := [oM 31 6 0, oM 4 31 1, oC 5 (.bool true) 3]
def c71 : ACode := (.seq (.reg r71_0) (.seq (.draw r71_1) (.seq (.seq (.reg r71_2) (.cond (.t 22) (.seq (.reg r71_3) .ret) .skip)) (.seq (.reg r71_4) (.seq (.reg r71_5) .ret)))))
def fn71 : AFunc := ⟨32, [(.t 4), (.t 5)], c71⟩
theorem comp71 : comp Try.prog 71 = some fn71 := by kernel_rfl
def r72_0 : List AOper := [⟨some 4, (.a (.alloc [(.int .i64 (.ofNat 0)), (.int .i64 (.ofNat 0)), .str []])), none, 0⟩, oC 5 (.bool false) 0]
def r72_1 : List AOper := [oM 12 1 0]
def r72_2 : List AOper := [oQ 14 (.bin .eql (.t 12) (oI 0)) 0, oM 13 14 1]
def r72_3 : List AOper := [oQ 15 (.build [(.int .i64 (.ofNat 0)), (.int .i64 (.ofNat 0)), .str []] []) 0, ⟨none, (.e (.store 3 (.t 4) (.t 15))), none, 1⟩, oC 5 (.bool true) 3]
def r72_4 : List AOper := [oQ 17 (.bin .eql (.t 12) (oI 1)) 0, oM 16 17 1]
def r72_5 : List AOper := [oM 19 0 0, oK 20 71 [.t 19, oI 8] 1, oM 18 20 3, oE 21 18 0 7, oE 22 18 1 7, oM 6 21 15, oM 7 22 63]
def r72_6 : List AOper := [oM 23 6 0, oQ 24 (.build [(.int .i64 (.ofNat 0)), (.int .i64 (.ofNat 0)), .str []] [⟨0, ⟨1, oI 1⟩⟩, ⟨1, ⟨1, .t 23⟩⟩]) 1, oM 25 7 0, ⟨none, (.e (.store 3 (.t 4) (.t 24))), none, 3⟩, oM 5 25 15]
def r72_7 : List AOper := [oQ 27 (.bin .eql (.t 12) (oI 2)) 0, oM 26 27 1]
def r72_8 : List AOper := [oM 29 0 0, oQ 30 (.nilchk (.t 29)) 1, oQ 31 (.fadr 0 1 (.t 30)) 3, oR 32 31 7, oM 33 0 0, oQ 34 (.nilchk (.t 33)) 16, oQ 35 (.fadr 1 1 (.t 34)) 48, oR 36 35 112, oK 37 82 [.t 32, .t 36] 255, oM 28 37 511, oE 38 28 0 1023, oE 39 28 1 1023, oE 40 28 2 1023, oM 8 38 2047, oM 9 39 12287, oM 10 40 32767]
def r72_9 : List AOper := [oM 41 0 0, oM 42 9 0, oQ 43 (.nilchk (.t 41)) 3, oQ 44 (.fadr 1 1 (.t 43)) 7, ⟨none, (.e (.store 1 (.t 44) (.t 42))), none, 15⟩]
def r72_10 : List AOper := [oM 45 8 0, oQ 46 (.build [(.int .i64 (.ofNat 0)), (.int .i64 (.ofNat 0)), .str []] [⟨0, ⟨1, oI 2⟩⟩, ⟨2, ⟨1, .t 45⟩⟩]) 1, ⟨some 11, (.a (.alloc [(.int .i64 (.ofNat 0)), (.int .i64 (.ofNat 0)), .str []])), none, 0⟩, ⟨none, (.e (.store 3 (.t 11) (.t 46))), none, 7⟩]
def r72_11 : List AOper := [⟨some 47, (.r (.loadn 3) (.t 11) (.t 11)), none, 0⟩, oM 48 10 0, oQ 49 (.bin .eql (.t 48) (oI 0)) 2, oM 50 49 6, ⟨some 51, (.r (.loadn 3) (.t 11) (.t 11)), some ⟨50, true⟩, 14⟩, ⟨some 52, (.e (.call 83 [.t 51])), some ⟨50, true⟩, 30⟩, oQ 53 (.pick (.t 50) (.t 52) (.c (.bool false))) 62, ⟨none, (.e (.store 3 (.t 4) (.t 47))), none, 63⟩, oM 5 53 255]
def r72_12 : List AOper := [oQ 54 (.build [(.int .i64 (.ofNat 0)), (.int .i64 (.ofNat 0)), .str []] []) 0, ⟨none, (.e (.store 3 (.t 4) (.t 54))), none, 1⟩, oC 5 (.bool false) 3]
def c72 : ACode := (.seq (.reg r72_0) (.seq (.seq (.reg r72_1) (.blk 0 (.seq (.reg r72_2) (.cond (.t 13) (.seq (.reg r72_3) .ret) (.seq (.reg r72_4) (.cond (.t 16) (.seq (.reg r72_5) (.seq (.reg r72_6) .ret)) (.seq (.reg r72_7) (.cond (.t 26) (.seq (.draw r72_8) (.seq (.reg r72_9) (.seq (.reg r72_10) (.seq (.draw r72_11) .ret)))) .skip)))))))) (.seq (.reg r72_12) .ret)))
def fn72 : AFunc := ⟨55, [(.cn 4 3), (.t 5)], c72⟩
theorem comp72 : comp Try.prog 72 = some fn72 := by kernel_rfl
def r73_0 : List AOper := [⟨some 2, (.a (.alloc [(.int .i64 (.ofNat 0)), (.int .i64 (.ofNat 0)), .str []])), none, 0⟩, oC 3 (.bool false) 0]
def r73_1 : List AOper := [oM 8 0 0, oK 9 71 [.t 8, oI 1] 1, oM 7 9 3, oE 10 7 0 7, oE 11 7 1 7, oM 4 10 15, oM 5 11 63]
def r73_2 : List AOper := [oM 12 5 0, oQ 13 (.un .not (.t 12)) 1]
def r73_3 : List AOper := [oQ 14 (.build [(.int .i64 (.ofNat 0)), (.int .i64 (.ofNat 0)), .str []] []) 0, ⟨none, (.e (.store 3 (.t 2) (.t 14))), none, 1⟩, oC 3 (.bool false) 3]
def r73_4 : List AOper := [oM 16 0 0, oM 17 4 0, oK 18 72 [.t 16, .t 17] 3, oM 15 18 7, oE 19 15 0 15, oE 20 15 1 15, ⟨some 6, (.a (.alloc [(.int .i64 (.ofNat 0)), (.int .i64 (.ofNat 0)), .str []])), none, 0⟩, ⟨none, (.e (.store 3 (.t 6) (.t 19))), none, 95⟩, oM 5 20 255]
def r73_5 : List AOper := [⟨some 21, (.r (.loadn 3) (.t 6) (.t 6)), none, 0⟩, oM 22 5 0, oM 23 22 2, ⟨some 24, (.r (.loadn 3) (.t 6) (.t 6)), some ⟨23, true⟩, 6⟩, ⟨some 25, (.e (.call 66 [.t 24])), some ⟨23, true⟩, 14⟩, oQ 26 (.pick (.t 23) (.t 25) (.c (.bool false))) 30, ⟨none, (.e (.store 3 (.t 2) (.t 21))), none, 31⟩, oM 3 26 127]
def c73 : ACode := (.seq (.reg r73_0) (.seq (.reg r73_1) (.seq (.seq (.reg r73_2) (.cond (.t 13) (.seq (.reg r73_3) .ret) .skip)) (.seq (.reg r73_4) (.seq (.draw r73_5) .ret)))))
def fn73 : AFunc := ⟨27, [(.cn 2 3), (.t 3)], c73⟩
theorem comp73 : comp Try.prog 73 = some fn73 := by kernel_rfl
def r74_0 : List AOper := [⟨some 2, (.a (.box (.t 0))), none, 0⟩, ⟨some 3, (.a (.box (.t 1))), none, 0⟩, oC 4 (.bool false) 0]
def r74_1 : List AOper := [oQ 7 (.fadr 0 1 (.t 2)) 0, oR 8 7 1, oQ 9 (.fadr 0 1 (.t 3)) 0, oR 10 9 4, oQ 11 (.bin .neq (.t 8) (.t 10)) 15]
def r74_2 : List AOper := [oQ 12 (.fadr 0 1 (.t 2)) 0, oR 13 12 1, oQ 14 (.fadr 0 1 (.t 3)) 0, oR 15 14 4, oQ 16 (.bin .lss (.t 13) (.t 15)) 15, oM 4 16 31]
def r74_3 : List AOper := [⟨some 18, (.r (.loadn 3) (.t 2) (.t 2)), none, 0⟩, ⟨some 19, (.r (.loadn 3) (.t 3) (.t 3)), none, 0⟩, oK 20 84 [(.c (.str [60])), .t 18, .t 19] 3, oM 17 20 7, oE 21 17 0 15, oE 22 17 1 15, ⟨some 5, (.a (.alloc [(.int .i64 (.ofNat 0)), (.int .i64 (.ofNat 0)), .str []])), none, 0⟩, ⟨none, (.e (.store 3 (.t 5) (.t 21))), none, 95⟩, oM 6 22 255]
def r74_4 : List AOper := [⟨some 23, (.r (.loadn 3) (.t 5) (.t 5)), none, 0⟩, oK 24 85 [.t 23] 1, oM 4 24 3]
def c74 : ACode := (.seq (.reg r74_0) (.seq (.seq (.reg r74_1) (.cond (.t 11) (.seq (.reg r74_2) .ret) .skip)) (.seq (.reg r74_3) (.seq (.reg r74_4) .ret))))
def fn74 : AFunc := ⟨25, [(.t 4)], c74⟩
theorem comp74 : comp Try.prog 74 = some fn74 := by kernel_rfl
def r76_0 : List AOper := [⟨some 1, (.a (.box (.t 0))), none, 0⟩, oC 2 .nilifc 0]
def r76_1 : List AOper := [oQ 3 (.fadr 0 1 (.t 1)) 0, oR 4 3 1]
def r76_2 : List AOper := [oQ 6 (.bin .eql (.t 4) (oI 1)) 0, oM 5 6 1]
def r76_3 : List AOper := [oQ 7 (.fadr 1 1 (.t 1)) 0, oR 8 7 1, oQ 9 (.mkifc 123 (.t 8)) 3, oM 2 9 7]
def r76_4 : List AOper := [oQ 11 (.bin .eql (.t 4) (oI 2)) 0, oM 10 11 1]
def r76_5 : List AOper := [oQ 12 (.fadr 2 1 (.t 1)) 0, oR 13 12 1, oQ 14 (.mkifc 124 (.t 13)) 3, oM 2 14 7]
def r76_6 : List AOper := [oC 2 .nilifc 0]
def c76 : ACode := (.seq (.reg r76_0) (.seq (.seq (.reg r76_1) (.blk 0 (.seq (.reg r76_2) (.cond (.t 5) (.seq (.reg r76_3) .ret) (.seq (.reg r76_4) (.cond (.t 10) (.seq (.reg r76_5) .ret) .skip)))))) (.seq (.reg r76_6) .ret)))
def fn76 : AFunc := ⟨15, [(.t 2)], c76⟩
theorem comp76 : comp Try.prog 76 = some fn76 := by kernel_rfl
def r81_0 : List AOper := [oC 6 (.int .i64 (.ofNat 0)) 0, oC 7 (.int .i64 (.ofNat 0)) 1]
def r81_1 : List AOper := [oM 11 2 0, oK 12 68 [.t 11] 1, oQ 13 (.un .not (.t 12)) 3, oM 14 13 7, oG 15 (.mov (.t 1)) 14 false 15, oG 16 (.bin .lss (.t 15) (oI 0)) 14 false 31, oQ 17 (.pick (.t 14) (.c (.bool true)) (.t 16)) 63, oM 10 17 127]
def r81_2 : List AOper := [oC 6 (.int .i64 (.ofNat 0)) 0, oC 7 (.int .i64 (.ofNat 1)) 1]
def r81_3 : List AOper := [oM 19 1 0, oM 20 0 0, oQ 21 (.len true (.t 20)) 2, oQ 22 (.bin .gtr (.t 19) (.t 21)) 7, oM 23 22 15, oG 24 (.mov (.t 2)) 23 false 31, oG 25 (.mov (.t 0)) 23 false 31, oG 26 (.len true (.t 25)) 23 false 95, oG 27 (.mov (.t 1)) 23 false 31, oG 28 (.bin .sub (.t 26) (.t 27)) 23 false 479, oG 29 (.bin .gtr (.t 24) (.t 28)) 23 false 1023, oQ 30 (.pick (.t 23) (.c (.bool true)) (.t 29)) 2047, oM 18 30 4095]
def r81_4 : List AOper := [oC 6 (.int .i64 (.ofNat 0)) 0, oC 7 (.int .i64 (.ofNat 2)) 1]
def r81_5 : List AOper := [oC 8 (.int .u64 (.ofNat 0)) 0]
def r81_6 : List AOper := [oM 31 2 0, oC 32 (.int .i64 (.ofNat 0)) 0]
def r81_7 : List AOper := [oQ 33 (.bin .lss (.t 32) (.t 31)) 0]
def r81_8 : List AOper := [oM 34 32 0, oM 9 34 1]
def r81_9 : List AOper := [oM 35 8 0, oM 36 0 0, oM 37 1 0, oM 38 9 0, oQ 39 (.bin .add (.t 37) (.t 38)) 12, oQ 40 (.idxs (.t 36) (.t 39)) 30, oQ 41 (.toInt .u64 (.t 40)) 62, oM 42 9 0, oQ 43 (.bin .mul (oI 8) (.t 42)) 128, oQ 44 (.toInt .u64 (.t 43)) 384, oQ 45 (.bin .shl (.t 41) (.t 44)) 1022, oQ 46 (.bin .or (.t 35) (.t 45)) 2047, oM 8 46 4095]
def r81_10 : List AOper := [oQ 47 (.bin .add (.t 32) (oI 1)) 0, oM 32 47 1]
def r81_11 : List AOper := [oM 48 8 0, oQ 49 (.toInt .i64 (.t 48)) 1, oM 6 49 3, oC 7 (.int .i64 (.ofNat 0)) 7]
def b81_0 : ACode := (.seq (.reg r81_7) (.seq (.cond (.t 33) .skip (.ext 1)) (.seq (.blk 2 (.seq (.reg r81_8) (.reg r81_9))) (.reg r81_10))))
def c81 : ACode := (.seq (.reg r81_0) (.seq (.blk 0 (.seq (.reg r81_1) (.cond (.t 10) (.seq (.reg r81_2) .ret) (.seq (.reg r81_3) (.cond (.t 18) (.seq (.reg r81_4) .ret) .skip))))) (.seq (.reg r81_5) (.seq (.seq (.reg r81_6) (.blk 1 (.loop b81_0))) (.seq (.reg r81_11) .ret)))))
def fn81 : AFunc := ⟨50, [(.t 6), (.t 7)], c81⟩
theorem comp81 : comp Try.prog 81 = some fn81 := by kernel_rfl
def r82_0 : List AOper := [oC 4 (.str []) 0, oC 5 (.int .i64 (.ofNat 0)) 1, oC 6 (.int .i64 (.ofNat 0)) 3]
def r82_1 : List AOper := [oM 11 0 0, oM 12 1 0, oK 13 81 [.t 11, .t 12, oI 4] 3, oM 10 13 7, oE 14 10 0 15, oE 15 10 1 15, oM 7 14 31, oM 8 15 127]
def r82_2 : List AOper := [oM 16 8 0, oQ 17 (.bin .neq (.t 16) (oI 0)) 1]
def r82_3 : List AOper := [oM 18 8 0, oC 4 (.str []) 0, oC 5 (.int .i64 (.ofNat 0)) 2, oM 6 18 7]
def r82_4 : List AOper := [oM 19 0 0, oM 20 1 0, oQ 21 (.bin .add (.t 20) (oI 4)) 2, oQ 22 (.sstr (.t 19) (some (.t 21)) none) 7, oM 9 22 15]
def r82_5 : List AOper := [oM 23 7 0, oM 24 9 0, oQ 25 (.len true (.t 24)) 2, oQ 26 (.bin .leq (.t 23) (.t 25)) 7]
def r82_6 : List AOper := [oM 27 9 0, oM 28 7 0, oQ 29 (.sstr (.t 27) none (some (.t 28))) 3, oM 30 1 0, oQ 31 (.bin .add (.t 30) (oI 4)) 8, oM 32 7 0, oQ 33 (.bin .add (.t 31) (.t 32)) 56, oM 4 29 7, oM 5 33 255, oC 6 (.int .i64 (.ofNat 0)) 511]
def r82_7 : List AOper := [oC 4 (.str []) 0, oC 5 (.int .i64 (.ofNat 0)) 1, oC 6 (.int .i64 (.ofNat 2)) 3]
def c82 : ACode := (.seq (.reg r82_0) (.seq (.reg r82_1) (.seq (.seq (.reg r82_2) (.cond (.t 17) (.seq (.reg r82_3) .ret) .skip)) (.seq (.seq (.reg r82_4) (.seq (.reg r82_5) (.cond (.t 26) (.seq (.reg r82_6) .ret) .skip))) (.seq (.reg r82_7) .ret)))))
def fn82 : AFunc := ⟨34, [(.t 4), (.t 5), (.t 6)], c82⟩
theorem comp82 : comp Try.prog 82 = some fn82 := by kernel_rfl
def r83_0 : List AOper := [⟨some 1, (.a (.box (.t 0))), none, 0⟩, oC 2 (.bool false) 0]
def r83_1 : List AOper := [oQ 3 (.fadr 0 1 (.t 1)) 0, oR 4 3 1]
def r83_2 : List AOper := [oQ 6 (.bin .eql (.t 4) (oI 0)) 0, oM 5 6 1]
def r83_3 : List AOper := [⟨some 7, (.r (.loadn 3) (.t 1) (.t 1)), none, 0⟩, oQ 8 (.build [(.int .i64 (.ofNat 0)), (.int .i64 (.ofNat 0)), .str []] []) 0, oQ 9 (.eq false (.flat true [.i, .i, .s]) (.t 7) (.t 8)) 3, oM 2 9 7]
def r83_4 : List AOper := [oQ 11 (.bin .eql (.t 4) (oI 2)) 0, oM 10 11 1]
def r83_5 : List AOper := [oQ 12 (.fadr 1 1 (.t 1)) 0, oR 13 12 1, oQ 14 (.bin .eql (.t 13) (oI 0)) 3, oM 15 14 7, oG 16 (.fadr 2 1 (.t 1)) 15 true 15, ⟨some 17, (.r .load1 (.t 16) (.t 16)), some ⟨15, true⟩, 31⟩, oG 18 (.len true (.t 17)) 15 true 63, oG 19 (.bin .leq (.t 18) (oI 1024)) 15 true 127, oQ 20 (.pick (.t 15) (.t 19) (.c (.bool false))) 255, oM 2 20 511]
def r83_6 : List AOper := [oQ 22 (.bin .eql (.t 4) (oI 1)) 0, oM 21 22 1]
def r83_7 : List AOper := [oQ 23 (.bin .eql (.t 4) (oI 3)) 0, oM 21 23 1]
def r83_8 : List AOper := [oQ 24 (.bin .eql (.t 4) (oI 4)) 0, oM 21 24 1]
def r83_9 : List AOper := [oQ 25 (.bin .eql (.t 4) (oI 5)) 0, oM 21 25 1]
def r83_10 : List AOper := [oQ 26 (.fadr 2 1 (.t 1)) 0, oR 27 26 1, oQ 28 (.bin .eql (.t 27) (.c (.str []))) 3, oM 2 28 7]
def r83_11 : List AOper := [oC 2 (.bool false) 0]
def c83 : ACode := (.seq (.reg r83_0) (.seq (.seq (.reg r83_1) (.blk 0 (.seq (.reg r83_2) (.cond (.t 5) (.seq (.reg r83_3) .ret) (.seq (.reg r83_4) (.cond (.t 10) (.seq (.reg r83_5) .ret) (.seq (.seq (.reg r83_6) (.cond (.t 21) .skip (.seq (.reg r83_7) (.cond (.t 21) .skip (.seq (.reg r83_8) (.cond (.t 21) .skip (.reg r83_9))))))) (.cond (.t 21) (.seq (.reg r83_10) .ret) .skip)))))))) (.seq (.reg r83_11) .ret)))
def fn83 : AFunc := ⟨29, [(.t 2)], c83⟩
theorem comp83 : comp Try.prog 83 = some fn83 := by kernel_rfl
def r84_0 : List AOper := [⟨some 4, (.a (.box (.t 1))), none, 0⟩, ⟨some 5, (.a (.box (.t 2))), none, 0⟩, ⟨some 6, (.a (.alloc [(.int .i64 (.ofNat 0)), (.int .i64 (.ofNat 0)), .str []])), none, 0⟩, oC 7 (.int .i64 (.ofNat 0)) 0]
def r84_1 : List AOper := [oM 11 0 0, oK 12 87 [.t 11] 1, oQ 13 (.un .not (.t 12)) 3, oM 10 13 7]
def r84_2 : List AOper := [oK 14 88 [oI 12] 0, oE 15 14 0 1, oE 16 14 1 1, ⟨none, (.e (.store 3 (.t 6) (.t 15))), none, 7⟩, oM 7 16 15]
def r84_3 : List AOper := [oM 18 0 0, oQ 19 (.bin .eql (.t 18) (.c (.str [61, 61]))) 1, oM 17 19 3]
def r84_4 : List AOper := [⟨some 20, (.r (.loadn 3) (.t 4) (.t 4)), none, 0⟩, ⟨some 21, (.r (.loadn 3) (.t 5) (.t 5)), none, 0⟩, oQ 22 (.eq false (.flat true [.i, .i, .s]) (.t 20) (.t 21)) 3, oK 23 89 [.t 22] 7, oE 24 23 0 15, oE 25 23 1 15, ⟨none, (.e (.store 3 (.t 6) (.t 24))), none, 63⟩, oM 7 25 127]
def r84_5 : List AOper := [oM 27 0 0, oQ 28 (.bin .eql (.t 27) (.c (.str [33, 61]))) 1, oM 26 28 3]
def r84_6 : List AOper := [⟨some 29, (.r (.loadn 3) (.t 4) (.t 4)), none, 0⟩, ⟨some 30, (.r (.loadn 3) (.t 5) (.t 5)), none, 0⟩, oQ 31 (.eq true (.flat true [.i, .i, .s]) (.t 29) (.t 30)) 3, oK 32 89 [.t 31] 7, oE 33 32 0 15, oE 34 32 1 15, ⟨none, (.e (.store 3 (.t 6) (.t 33))), none, 63⟩, oM 7 34 127]
def r84_7 : List AOper := [oQ 36 (.fadr 0 1 (.t 4)) 0, oR 37 36 1, oQ 38 (.fadr 0 1 (.t 5)) 0, oR 39 38 4, oQ 40 (.bin .neq (.t 37) (.t 39)) 15, oM 35 40 31]
def r84_8 : List AOper := [oK 41 88 [oI 1] 0, oE 42 41 0 1, oE 43 41 1 1, ⟨none, (.e (.store 3 (.t 6) (.t 42))), none, 7⟩, oM 7 43 15]
def r84_9 : List AOper := [⟨some 44, (.r (.loadn 3) (.t 4) (.t 4)), none, 0⟩, oK 45 76 [.t 44] 1]
def r84_10 : List AOper := [oQ 46 (.tas 123 (.int .i64 (.ofNat 0)) true (.t 45)) 0, oE 47 46 1 1, oE 48 46 0 1]
def r84_11 : List AOper := [oM 8 48 0]
def r84_12 : List AOper := [oM 49 0 0, oM 50 8 0, oQ 51 (.fadr 1 1 (.t 5)) 0, oR 52 51 4, oK 53 90 [.t 49, .t 50, .t 52] 15, oE 54 53 0 31, oE 55 53 1 31, ⟨none, (.e (.store 3 (.t 6) (.t 54))), none, 127⟩, oM 7 55 255]
def r84_13 : List AOper := [oQ 56 (.tas 124 (.str []) true (.t 45)) 0, oE 57 56 1 1, oE 58 56 0 1]
def r84_14 : List AOper := [oM 9 58 0]
def r84_15 : List AOper := [oM 59 0 0, oM 60 9 0, oQ 61 (.fadr 2 1 (.t 5)) 0, oR 62 61 4, oK 63 91 [.t 59, .t 60, .t 62] 15, oE 64 63 0 31, oE 65 63 1 31, ⟨none, (.e (.store 3 (.t 6) (.t 64))), none, 127⟩, oM 7 65 255]
def r84_16 : List AOper := [oK 66 88 [oI 1] 0, oE 67 66 0 1, oE 68 66 1 1, ⟨none, (.e (.store 3 (.t 6) (.t 67))), none, 7⟩, oM 7 68 15]
def c84 : ACode := (.seq (.reg r84_0) (.seq (.blk 0 (.seq (.reg r84_1) (.cond (.t 10) (.seq (.reg r84_2) .ret) (.seq (.reg r84_3) (.cond (.t 17) (.seq (.reg r84_4) .ret) (.seq (.reg r84_5) (.cond (.t 26) (.seq (.reg r84_6) .ret) (.seq (.reg r84_7) (.cond (.t 35) (.seq (.reg r84_8) .ret) .skip))))))))) (.seq (.seq (.reg r84_9) (.blk 1 (.seq (.reg r84_10) (.cond (.t 47) (.seq (.reg r84_11) (.seq (.reg r84_12) .ret)) (.seq (.reg r84_13) (.cond (.t 57) (.seq (.reg r84_14) (.seq (.reg r84_15) .ret)) .skip)))))) (.seq (.reg r84_16) .ret))))
def fn84 : AFunc := ⟨69, [(.cn 6 3), (.t 7)], c84⟩
theorem comp84 : comp Try.prog 84 = some fn84 := by kernel_rfl
def r85_0 : List AOper := [⟨some 1, (.a (.box (.t 0))), none, 0⟩, oC 2 (.bool false) 0]
def r85_1 : List AOper := [oQ 3 (.fadr 0 1 (.t 1)) 0, oR 4 3 1, oQ 5 (.bin .neq (.t 4) (oI 0)) 3, oM 6 5 7, ⟨some 7, (.r (.loadn 3) (.t 1) (.t 1)), some ⟨6, true⟩, 15⟩, oG 8 (.build [(.int .i64 (.ofNat 0)), (.int .i64 (.ofNat 0)), .str []] [⟨0, ⟨1, oI 1⟩⟩]) 6 true 15, oG 9 (.eq true (.flat true [.i, .i, .s]) (.t 7) (.t 8)) 6 true 63, oQ 10 (.pick (.t 6) (.t 9) (.c (.bool false))) 127, oM 2 10 255]
def c85 : ACode := (.seq (.reg r85_0) (.seq (.reg r85_1) .ret))
def fn85 : AFunc := ⟨11, [(.t 2)], c85⟩
theorem comp85 : comp Try.prog 85 = some fn85 := by kernel_rfl
def r89_0 : List AOper := [⟨some 2, (.a (.alloc [(.int .i64 (.ofNat 0)), (.int .i64 (.ofNat 0)), .str []])), none, 0⟩, oC 3 (.int .i64 (.ofNat 0)) 0]
def r89_1 : List AOper := [oM 4 0 0]
def r89_2 : List AOper := [oK 5 92 [oI 1] 0, oE 6 5 0 1, oE 7 5 1 1, ⟨none, (.e (.store 3 (.t 2) (.t 6))), none, 7⟩, oM 3 7 15]
def r89_3 : List AOper := [oK 8 92 [oI 0] 0, oE 9 8 0 1, oE 10 8 1 1, ⟨none, (.e (.store 3 (.t 2) (.t 9))), none, 7⟩, oM 3 10 15]
def c89 : ACode := (.seq (.reg r89_0) (.seq (.seq (.reg r89_1) (.cond (.t 4) (.seq (.reg r89_2) .ret) .skip)) (.seq (.reg r89_3) .ret)))
def fn89 : AFunc := ⟨11, [(.cn 2 3), (.t 3)], c89⟩
theorem comp89 : comp Try.prog 89 = some fn89 := by kernel_rfl
def r90_0 : List AOper := [⟨some 6, (.a (.alloc [(.int .i64 (.ofNat 0)), (.int .i64 (.ofNat 0)), .str []])), none, 0⟩, oC 7 (.int .i64 (.ofNat 0)) 0]
def r90_1 : List AOper := [oM 8 0 0]
def r90_2 : List AOper := [oQ 10 (.bin .eql (.t 8) (.c (.str [43]))) 0, oM 9 10 1]
def r90_3 : List AOper := [oM 11 1 0, oM 12 2 0, oQ 13 (.bin .add (.t 11) (.t 12)) 3, oK 14 92 [.t 13] 7, oE 15 14 0 15, oE 16 14 1 15, ⟨none, (.e (.store 3 (.t 6) (.t 15))), none, 63⟩, oM 7 16 127]
def r90_4 : List AOper := [oQ 18 (.bin .eql (.t 8) (.c (.str [45]))) 0, oM 17 18 1]
def r90_5 : List AOper := [oM 19 1 0, oM 20 2 0, oQ 21 (.bin .sub (.t 19) (.t 20)) 3, oK 22 92 [.t 21] 7, oE 23 22 0 15, oE 24 22 1 15, ⟨none, (.e (.store 3 (.t 6) (.t 23))), none, 63⟩, oM 7 24 127]
def r90_6 : List AOper := [oQ 26 (.bin .eql (.t 8) (.c (.str [42]))) 0, oM 25 26 1]
def r90_7 : List AOper := [oM 27 1 0, oM 28 2 0, oQ 29 (.bin .mul (.t 27) (.t 28)) 3, oK 30 92 [.t 29] 7, oE 31 30 0 15, oE 32 30 1 15, ⟨none, (.e (.store 3 (.t 6) (.t 31))), none, 63⟩, oM 7 32 127]
def r90_8 : List AOper := [oQ 34 (.bin .eql (.t 8) (.c (.str [47]))) 0, oM 33 34 1]
def r90_9 : List AOper := [oQ 35 (.bin .eql (.t 8) (.c (.str [37]))) 0, oM 33 35 1]
def r90_10 : List AOper := [oM 36 0 0, oM 37 1 0, oM 38 2 0, oK 39 93 [.t 36, .t 37, .t 38] 7, oE 40 39 0 15, oE 41 39 1 15, ⟨none, (.e (.store 3 (.t 6) (.t 40))), none, 63⟩, oM 7 41 127]
def r90_11 : List AOper := [oQ 43 (.bin .eql (.t 8) (.c (.str [60]))) 0, oM 42 43 1]
def r90_12 : List AOper := [oM 44 1 0, oM 45 2 0, oQ 46 (.bin .lss (.t 44) (.t 45)) 3, oK 47 89 [.t 46] 7, oE 48 47 0 15, oE 49 47 1 15, ⟨none, (.e (.store 3 (.t 6) (.t 48))), none, 63⟩, oM 7 49 127]
def r90_13 : List AOper := [oQ 51 (.bin .eql (.t 8) (.c (.str [60, 61]))) 0, oM 50 51 1]
def r90_14 : List AOper := [oM 52 1 0, oM 53 2 0, oQ 54 (.bin .leq (.t 52) (.t 53)) 3, oK 55 89 [.t 54] 7, oE 56 55 0 15, oE 57 55 1 15, ⟨none, (.e (.store 3 (.t 6) (.t 56))), none, 63⟩, oM 7 57 127]
def r90_15 : List AOper := [oK 58 88 [oI 1] 0, oE 59 58 0 1, oE 60 58 1 1, ⟨none, (.e (.store 3 (.t 6) (.t 59))), none, 7⟩, oM 7 60 15]
def c90 : ACode := (.seq (.reg r90_0) (.seq (.seq (.reg r90_1) (.blk 0 (.seq (.reg r90_2) (.cond (.t 9) (.seq (.reg r90_3) .ret) (.seq (.reg r90_4) (.cond (.t 17) (.seq (.reg r90_5) .ret) (.seq (.reg r90_6) (.cond (.t 25) (.seq (.reg r90_7) .ret) (.seq (.seq (.reg r90_8) (.cond (.t 33) .skip (.reg r90_9))) (.cond (.t 33) (.seq (.reg r90_10) .ret) (.seq (.reg r90_11) (.cond (.t 42) (.seq (.reg r90_12) .ret) (.seq (.reg r90_13) (.cond (.t 50) (.seq (.reg r90_14) .ret) .skip)))))))))))))) (.seq (.reg r90_15) .ret)))
def fn90 : AFunc := ⟨61, [(.cn 6 3), (.t 7)], c90⟩
theorem comp90 : comp Try.prog 90 = some fn90 := by kernel_rfl
def r91_0 : List AOper := [⟨some 6, (.a (.alloc [(.int .i64 (.ofNat 0)), (.int .i64 (.ofNat 0)), .str []])), none, 0⟩, oC 7 (.int .i64 (.ofNat 0)) 0]
def r91_1 : List AOper := [oM 8 0 0]
def r91_2 : List AOper := [oQ 10 (.bin .eql (.t 8) (.c (.str [46, 46]))) 0, oM 9 10 1]
def r91_3 : List AOper := [oM 11 1 0, oQ 12 (.len true (.t 11)) 1, oM 13 2 0, oQ 14 (.len true (.t 13)) 4, oQ 15 (.bin .sub (oI 1024) (.t 14)) 12, oQ 16 (.bin .gtr (.t 12) (.t 15)) 31]
def r91_4 : List AOper := [oK 17 88 [oI 3] 0, oE 18 17 0 1, oE 19 17 1 1, ⟨none, (.e (.store 3 (.t 6) (.t 18))), none, 7⟩, oM 7 19 15]
def r91_5 : List AOper := [oM 20 1 0, oM 21 2 0, oQ 22 (.bin .add (.t 20) (.t 21)) 3, oQ 23 (.build [(.int .i64 (.ofNat 0)), (.int .i64 (.ofNat 0)), .str []] [⟨0, ⟨1, oI 2⟩⟩, ⟨2, ⟨1, .t 22⟩⟩]) 7, ⟨none, (.e (.store 3 (.t 6) (.t 23))), none, 15⟩, oC 7 (.int .i64 (.ofNat 0)) 31]
def r91_6 : List AOper := [oQ 25 (.bin .eql (.t 8) (.c (.str [60]))) 0, oM 24 25 1]
def r91_7 : List AOper := [oM 26 1 0, oM 27 2 0, oQ 28 (.bin .lss (.t 26) (.t 27)) 3, oK 29 89 [.t 28] 7, oE 30 29 0 15, oE 31 29 1 15, ⟨none, (.e (.store 3 (.t 6) (.t 30))), none, 63⟩, oM 7 31 127]
def r91_8 : List AOper := [oQ 33 (.bin .eql (.t 8) (.c (.str [60, 61]))) 0, oM 32 33 1]
def r91_9 : List AOper := [oM 34 1 0, oM 35 2 0, oQ 36 (.bin .leq (.t 34) (.t 35)) 3, oK 37 89 [.t 36] 7, oE 38 37 0 15, oE 39 37 1 15, ⟨none, (.e (.store 3 (.t 6) (.t 38))), none, 63⟩, oM 7 39 127]
def r91_10 : List AOper := [oK 40 88 [oI 1] 0, oE 41 40 0 1, oE 42 40 1 1, ⟨none, (.e (.store 3 (.t 6) (.t 41))), none, 7⟩, oM 7 42 15]
def c91 : ACode := (.seq (.reg r91_0) (.seq (.seq (.reg r91_1) (.blk 0 (.seq (.reg r91_2) (.cond (.t 9) (.seq (.seq (.reg r91_3) (.cond (.t 16) (.seq (.reg r91_4) .ret) .skip)) (.seq (.reg r91_5) .ret)) (.seq (.reg r91_6) (.cond (.t 24) (.seq (.reg r91_7) .ret) (.seq (.reg r91_8) (.cond (.t 32) (.seq (.reg r91_9) .ret) .skip)))))))) (.seq (.reg r91_10) .ret)))
def fn91 : AFunc := ⟨43, [(.cn 6 3), (.t 7)], c91⟩
theorem comp91 : comp Try.prog 91 = some fn91 := by kernel_rfl
def r92_0 : List AOper := [⟨some 2, (.a (.alloc [(.int .i64 (.ofNat 0)), (.int .i64 (.ofNat 0)), .str []])), none, 0⟩, oC 3 (.int .i64 (.ofNat 0)) 0]
def r92_1 : List AOper := [oM 4 0 0, oQ 5 (.build [(.int .i64 (.ofNat 0)), (.int .i64 (.ofNat 0)), .str []] [⟨0, ⟨1, oI 1⟩⟩, ⟨1, ⟨1, .t 4⟩⟩]) 1, ⟨none, (.e (.store 3 (.t 2) (.t 5))), none, 3⟩, oC 3 (.int .i64 (.ofNat 0)) 7]
def c92 : ACode := (.seq (.reg r92_0) (.seq (.reg r92_1) .ret))
def fn92 : AFunc := ⟨6, [(.cn 2 3), (.t 3)], c92⟩
theorem comp92 : comp Try.prog 92 = some fn92 := by kernel_rfl
end Go.Proofs.Ytlflpjjmkigepaa
