/- The code of the functions that the laws reach, as the evaluator reads it. No statement stands here but that it is so. -/
import Derived.Test.YtggpnokhhpnnaaaRows
import Derived.Test.YtggpnokhhpnnaaaAbsU
set_option autoImplicit false
set_option maxRecDepth 100000
namespace Go.Proofs.Ytggpnokhhpnnaaa
open Go Go.Abs
theorem mixed : Try.prog.follows .mixedOrders = true := by kernel_rfl
theorem plain0 : Sound Try.prog (acall (comp Try.prog) (fun _ => none) 60) := acall_ok mixed (fun f g h => by cases h) 60
def r6_0 : List AOper := [oC 4 (.bool false) 0]
def r6_1 : List AOper := [oM 13 0 0, oK 14 9 [.t 13] 1, oM 12 14 3, oE 15 12 0 7, oE 16 12 1 7, oM 5 15 15, oM 6 16 63]
def r6_2 : List AOper := [oM 18 0 0, oK 19 28 [.t 18] 1, oM 17 19 3, oE 20 17 0 7, oE 21 17 1 7, oM 7 20 15, oM 8 21 63]
def r6_3 : List AOper := [oM 22 6 0, oM 23 8 0, oQ 24 (.bin .neq (.t 22) (.t 23)) 3, oM 25 24 7, oG 26 (.mov (.t 5)) 25 false 15, oG 27 (.eq true .ptrnil (.t 26) (.c .nilptr)) 25 false 31, oG 28 (.mov (.t 8)) 25 false 15, oG 29 (.bin .eql (.t 28) (oI 0)) 25 false 79, oG 30 (.eq true (.flat false [.b]) (.t 27) (.t 29)) 25 false 255, oQ 31 (.pick (.t 25) (.c (.bool true)) (.t 30)) 511]
def r6_4 : List AOper := [oC 4 (.bool false) 0]
def r6_5 : List AOper := [oC 9 (.int .i64 (.ofNat 0)) 0]
def r6_6 : List AOper := [oM 32 9 0, oM 33 1 0, oQ 34 (.len false (.t 33)) 2, oQ 35 (.bin .lss (.t 32) (.t 34)) 7, oM 36 35 15, oG 37 (.mov (.t 9)) 36 true 31, oG 38 (.bin .lss (.t 37) (oI 60)) 36 true 63, oQ 39 (.pick (.t 36) (.t 38) (.c (.bool false))) 127, oM 40 39 255, oG 41 (.mov (.t 5)) 40 true 511, oG 42 (.eq true .ptrnil (.t 41) (.c .nilptr)) 40 true 1023, oQ 43 (.pick (.t 40) (.t 42) (.c (.bool false))) 2047]
def r6_7 : List AOper := [oM 46 1 0, oM 47 9 0, oQ 48 (.iadr 14 (.t 46) (.t 47)) 3, ⟨some 49, (.r (.loadn 14) (.t 48) (.t 48)), none, 7⟩, oK 50 10 [.t 49] 15, oQ 51 (.un .not (.t 50)) 31]
def r6_8 : List AOper := [oM 53 5 0, oM 54 7 0, oM 55 1 0, oM 56 9 0, oQ 57 (.iadr 14 (.t 55) (.t 56)) 12, ⟨some 58, (.r (.loadn 14) (.t 57) (.t 57)), none, 28⟩, oK 59 29 [.t 53, .t 54, .t 58] 63, oM 52 59 127, oE 60 52 0 255, oE 61 52 1 255, oM 10 60 511, oM 11 61 2047]
def r6_9 : List AOper := [oM 62 11 0, oQ 63 (.un .not (.t 62)) 1]
def r6_10 : List AOper := [oC 4 (.bool false) 0]
def r6_11 : List AOper := [oM 64 10 0, oM 5 64 1]
def r6_12 : List AOper := [oM 65 5 0, oK 66 11 [.t 65] 1, oM 67 7 0, oQ 68 (.nilchk (.t 67)) 4, oQ 69 (.fadr 3 1 (.t 68)) 12, oR 70 69 28, oQ 71 (.bin .neq (.t 66) (.t 70)) 63, oM 72 71 127, oG 73 (.mov (.t 5)) 72 false 255, ⟨some 74, (.e (.call 30 [.t 73])), some ⟨72, false⟩, 511⟩, oG 75 (.mov (.t 7)) 72 false 255, oG 76 (.nilchk (.t 75)) 72 false 1279, oG 77 (.fadr 4 1 (.t 76)) 72 false 3327, ⟨some 78, (.r .load1 (.t 77) (.t 77)), some ⟨72, false⟩, 7423⟩, oG 79 (.bin .neq (.t 74) (.t 78)) 72 false 16383, oQ 80 (.pick (.t 72) (.c (.bool true)) (.t 79)) 32767]
def r6_13 : List AOper := [oC 4 (.bool false) 0]
def r6_14 : List AOper := [oM 44 9 0, oQ 45 (.bin .add (.t 44) (oI 1)) 1, oM 9 45 3]
def r6_15 : List AOper := [oK 81 15 [] 0, oM 4 81 1]
def b6_0 : ACode := (.seq (.seq (.reg r6_6) (.cond (.t 43) .skip (.ext 0))) (.seq (.blk 1 (.seq (.seq (.reg r6_7) (.cond (.t 51) (.ext 1) .skip)) (.seq (.reg r6_8) (.seq (.seq (.reg r6_9) (.cond (.t 63) (.seq (.reg r6_10) .ret) .skip)) (.seq (.reg r6_11) (.seq (.draw r6_12) (.cond (.t 80) (.seq (.reg r6_13) .ret) .skip))))))) (.reg r6_14)))
def c6 : ACode := (.seq (.reg r6_0) (.seq (.reg r6_1) (.seq (.reg r6_2) (.seq (.seq (.reg r6_3) (.cond (.t 31) (.seq (.reg r6_4) .ret) .skip)) (.seq (.seq (.reg r6_5) (.blk 0 (.loop b6_0))) (.seq (.reg r6_15) .ret))))))
def fn6 : AFunc := ⟨82, [(.t 4)], c6⟩
theorem comp6 : comp Try.prog 6 = some fn6 := by kernel_rfl
def r9_0 : List AOper := [oC 2 .nilptr 0, oC 3 (.int .i64 (.ofNat 0)) 1]
def r9_1 : List AOper := [oM 4 0 0, oQ 5 (.bin .lss (.t 4) (oI 0)) 1, oM 6 5 3, oG 7 (.mov (.t 0)) 6 false 7, oG 8 (.bin .gtr (.t 7) (oI 1000000)) 6 false 15, oQ 9 (.pick (.t 6) (.c (.bool true)) (.t 8)) 31]
def r9_2 : List AOper := [oC 2 .nilptr 0, oC 3 (.int .i64 (.ofNat 1)) 1]
def r9_3 : List AOper := [oM 10 0 0, oQ 11 (.build [.bool false, (.int .i64 (.ofNat 0)), (.int .i64 (.ofNat 0)), .nilslc, .nilslc, .nilslc] [⟨0, ⟨1, (.c (.bool true))⟩⟩, ⟨1, ⟨1, .t 10⟩⟩]) 1, ⟨some 12, (.a (.box (.t 11))), none, 3⟩, oM 2 12 7, oC 3 (.int .i64 (.ofNat 0)) 15]
def c9 : ACode := (.seq (.reg r9_0) (.seq (.seq (.reg r9_1) (.cond (.t 9) (.seq (.reg r9_2) .ret) .skip)) (.seq (.reg r9_3) .ret)))
def fn9 : AFunc := ⟨13, [(.t 2), (.t 3)], c9⟩
theorem comp9 : comp Try.prog 9 = some fn9 := by kernel_rfl
def r10_0 : List AOper := [⟨some 1, (.a (.box (.t 0))), none, 0⟩, oC 2 (.bool false) 0]
def r10_1 : List AOper := [oQ 3 (.fadr 1 3 (.t 1)) 0, oQ 4 (.fadr 2 1 (.t 3)) 1, oR 5 4 3, oQ 6 (.len true (.t 5)) 7, oQ 7 (.bin .lss (.t 6) (oI 2000)) 15, oM 8 7 31, oG 9 (.fadr 4 3 (.t 1)) 8 true 63, oG 10 (.fadr 2 1 (.t 9)) 8 true 127, ⟨some 11, (.r .load1 (.t 10) (.t 10)), some ⟨8, true⟩, 255⟩, oG 12 (.len true (.t 11)) 8 true 511, oG 13 (.bin .lss (.t 12) (oI 2000)) 8 true 1023, oQ 14 (.pick (.t 8) (.t 13) (.c (.bool false))) 2047, oM 15 14 4095, oG 16 (.fadr 7 3 (.t 1)) 15 true 8191, ⟨some 17, (.r (.loadn 3) (.t 16) (.t 16)), some ⟨15, true⟩, 16383⟩, ⟨some 18, (.e (.call 21 [.t 17])), some ⟨15, true⟩, 32767⟩, oQ 19 (.pick (.t 15) (.t 18) (.c (.bool false))) 65535, oM 20 19 131071, oG 21 (.fadr 10 3 (.t 1)) 20 true 262143, oG 22 (.fadr 2 1 (.t 21)) 20 true 524287, ⟨some 23, (.r .load1 (.t 22) (.t 22)), some ⟨20, true⟩, 1048575⟩, oG 24 (.len false (.t 23)) 20 true 2097151, oG 25 (.bin .lss (.t 24) (oI 100)) 20 true 4194303, oQ 26 (.pick (.t 20) (.t 25) (.c (.bool false))) 8388607, oM 27 26 16777215, oG 28 (.fadr 4 3 (.t 1)) 27 true 33554431, ⟨some 29, (.r (.loadn 3) (.t 28) (.t 28)), some ⟨27, true⟩, 67108863⟩, ⟨some 30, (.e (.call 16 [.t 29])), some ⟨27, true⟩, 134217727⟩, oG 31 (.un .not (.t 30)) 27 true 268435455, oG 32 (.mov (.t 31)) 27 true 536870911, oG 33 (.fadr 4 3 (.t 1)) 32 false 1073741823, ⟨some 34, (.r (.loadn 3) (.t 33) (.t 33)), some ⟨32, false⟩, 2147483647⟩, ⟨some 35, (.e (.call 21 [.t 34])), some ⟨32, false⟩, 4294967295⟩, oG 36 (.pick (.t 32) (.c (.bool true)) (.t 35)) 27 true 8589934591, oQ 37 (.pick (.t 27) (.t 36) (.c (.bool false))) 17179869183, oM 2 37 34359738367]
def c10 : ACode := (.seq (.reg r10_0) (.seq (.reg r10_1) .ret))
def fn10 : AFunc := ⟨38, [(.t 2)], c10⟩
theorem comp10 : comp Try.prog 10 = some fn10 := by kernel_rfl
def r11_0 : List AOper := [oC 2 (.int .i64 (.ofNat 0)) 0]
def r11_1 : List AOper := [oM 3 0 0, oK 4 32 [.t 3] 1, oQ 5 (.un .not (.t 4)) 3]
def r11_2 : List AOper := [oC 2 (.int .i64 (.ofNat 0)) 0]
def r11_3 : List AOper := [oM 6 0 0, oQ 7 (.nilchk (.t 6)) 1, oQ 8 (.fadr 2 1 (.t 7)) 3, oR 9 8 7, oM 2 9 15]
def c11 : ACode := (.seq (.reg r11_0) (.seq (.seq (.reg r11_1) (.cond (.t 5) (.seq (.reg r11_2) .ret) .skip)) (.seq (.reg r11_3) .ret)))
def fn11 : AFunc := ⟨10, [(.t 2)], c11⟩
theorem comp11 : comp Try.prog 11 = some fn11 := by kernel_rfl
def r12_0 : List AOper := [⟨some 2, (.a (.alloc [(.int .i64 (.ofNat 0)), (.int .i64 (.ofNat 0)), .str []])), none, 0⟩, oC 3 (.int .i64 (.ofNat 0)) 0]
def r12_1 : List AOper := [oM 5 0 0, oK 6 33 [.t 5] 1, oM 4 6 3]
def r12_2 : List AOper := [oM 7 4 0, oQ 8 (.bin .neq (.t 7) (oI 0)) 1]
def r12_3 : List AOper := [oQ 9 (.build [(.int .i64 (.ofNat 0)), (.int .i64 (.ofNat 0)), .str []] []) 0, oM 10 4 0, ⟨none, (.e (.store 3 (.t 2) (.t 9))), none, 1⟩, oM 3 10 7]
def r12_4 : List AOper := [oM 11 0 0, oM 12 0 0, oQ 13 (.nilchk (.t 12)) 2, oQ 14 (.fadr 3 1 (.t 13)) 6, oR 15 14 14, ⟨some 16, .a .mkmap, none, 0⟩, ⟨some 17, (.a (.lits 1 1 [.nilmap] [⟨0, ⟨1, .t 16⟩⟩])), none, 32⟩, ⟨some 18, (.e (.append 1 8 (.t 15) (.t 17))), none, 126⟩, oQ 19 (.nilchk (.t 11)) 255, oQ 20 (.fadr 3 1 (.t 19)) 511, ⟨none, (.e (.store 1 (.t 20) (.t 18))), none, 1023⟩]
def r12_5 : List AOper := [oM 21 0 0, oQ 22 (.nilchk (.t 21)) 1, oQ 23 (.fadr 3 1 (.t 22)) 3, oR 24 23 7, oQ 25 (.len false (.t 24)) 15, oQ 26 (.bin .sub (.t 25) (oI 1)) 31, oQ 27 (.build [(.int .i64 (.ofNat 0)), (.int .i64 (.ofNat 0)), .str []] [⟨0, ⟨1, oI 3⟩⟩, ⟨1, ⟨1, .t 26⟩⟩]) 63, ⟨none, (.e (.store 3 (.t 2) (.t 27))), none, 127⟩, oC 3 (.int .i64 (.ofNat 0)) 255]
def c12 : ACode := (.seq (.reg r12_0) (.seq (.seq (.reg r12_1) (.seq (.reg r12_2) (.cond (.t 8) (.seq (.reg r12_3) .ret) .skip))) (.seq (.reg r12_4) (.seq (.reg r12_5) .ret))))
def fn12 : AFunc := ⟨28, [(.cn 2 3), (.t 3)], c12⟩
theorem comp12 : comp Try.prog 12 = some fn12 := by kernel_rfl
def r13_0 : List AOper := [⟨some 3, (.a (.box (.t 1))), none, 0⟩, ⟨some 4, (.a (.alloc [(.int .i64 (.ofNat 0)), (.int .i64 (.ofNat 0)), .str []])), none, 0⟩, oC 5 (.int .i64 (.ofNat 0)) 0]
def r13_1 : List AOper := [oM 7 0 0, oK 8 33 [.t 7] 1, oM 6 8 3]
def r13_2 : List AOper := [oM 9 6 0, oQ 10 (.bin .neq (.t 9) (oI 0)) 1]
def r13_3 : List AOper := [oQ 11 (.build [(.int .i64 (.ofNat 0)), (.int .i64 (.ofNat 0)), .str []] []) 0, oM 12 6 0, ⟨none, (.e (.store 3 (.t 4) (.t 11))), none, 1⟩, oM 5 12 7]
def r13_4 : List AOper := [oQ 13 (.fadr 2 1 (.t 3)) 0, oR 14 13 1, ⟨some 15, (.e (.append 1 8 (.c .nilslc) (.t 14))), none, 3⟩, oQ 16 (.fadr 2 1 (.t 3)) 7, ⟨none, (.e (.store 1 (.t 16) (.t 15))), none, 15⟩]
def r13_5 : List AOper := [oM 17 0 0, oM 18 0 0, oQ 19 (.nilchk (.t 18)) 2, oQ 20 (.fadr 4 1 (.t 19)) 6, oR 21 20 14, ⟨some 22, (.r (.loadn 3) (.t 3) (.t 3)), none, 0⟩, ⟨some 23, (.a (.lits 1 3 [(.int .i64 (.ofNat 0)), (.int .i64 (.ofNat 0)), .nilslc] [⟨0, ⟨3, .t 22⟩⟩])), none, 32⟩, ⟨some 24, (.e (.append 3 40 (.t 21) (.t 23))), none, 126⟩, oQ 25 (.nilchk (.t 17)) 255, oQ 26 (.fadr 4 1 (.t 25)) 511, ⟨none, (.e (.store 1 (.t 26) (.t 24))), none, 1023⟩]
def r13_6 : List AOper := [oM 27 0 0, oQ 28 (.nilchk (.t 27)) 1, oQ 29 (.fadr 4 1 (.t 28)) 3, oR 30 29 7, oQ 31 (.len false (.t 30)) 15, oQ 32 (.bin .sub (.t 31) (oI 1)) 31, oQ 33 (.build [(.int .i64 (.ofNat 0)), (.int .i64 (.ofNat 0)), .str []] [⟨0, ⟨1, oI 4⟩⟩, ⟨1, ⟨1, .t 32⟩⟩]) 63, ⟨none, (.e (.store 3 (.t 4) (.t 33))), none, 127⟩, oC 5 (.int .i64 (.ofNat 0)) 255]
def c13 : ACode := (.seq (.reg r13_0) (.seq (.seq (.reg r13_1) (.seq (.reg r13_2) (.cond (.t 10) (.seq (.reg r13_3) .ret) .skip))) (.seq (.reg r13_4) (.seq (.draw r13_5) (.seq (.reg r13_6) .ret)))))
def fn13 : AFunc := ⟨34, [(.cn 4 3), (.t 5)], c13⟩
theorem comp13 : comp Try.prog 13 = some fn13 := by kernel_rfl
def r14_0 : List AOper := [⟨some 5, (.a (.box (.t 1))), none, 0⟩, ⟨some 6, (.a (.box (.t 2))), none, 0⟩, ⟨some 7, (.a (.box (.t 3))), none, 0⟩, oC 8 (.int .i64 (.ofNat 0)) 0]
def r14_1 : List AOper := [oM 15 0 0, ⟨some 16, (.r (.loadn 3) (.t 5) (.t 5)), none, 0⟩, ⟨some 17, (.r (.loadn 3) (.t 6) (.t 6)), none, 0⟩, oK 18 34 [.t 15, .t 16, .t 17] 7, oM 14 18 15, oE 19 14 0 31, oE 20 14 1 31, oM 9 19 63, oM 10 20 255]
def r14_2 : List AOper := [oM 21 10 0, oQ 22 (.bin .neq (.t 21) (oI 0)) 1]
def r14_3 : List AOper := [oM 23 10 0, oM 8 23 1]
def r14_4 : List AOper := [oM 25 9 0, ⟨some 26, (.r (.loadn 3) (.t 6) (.t 6)), none, 0⟩, ⟨some 27, (.r (.lookup true [.i, .i, .s] (.agg [(.int .i64 (.ofNat 0)), (.int .i64 (.ofNat 0)), .str []]) true) (.t 25) (.t 26)), none, 3⟩, oM 24 27 7, oE 28 24 0 15, oE 29 24 1 15, ⟨some 11, (.a (.alloc [(.int .i64 (.ofNat 0)), (.int .i64 (.ofNat 0)), .str []])), none, 0⟩, ⟨none, (.e (.store 3 (.t 11) (.t 28))), none, 95⟩, oM 12 29 255]
def r14_5 : List AOper := [oQ 31 (.fadr 0 1 (.t 7)) 0, oR 32 31 1, oQ 33 (.bin .eql (.t 32) (oI 0)) 3, oM 30 33 7]
def r14_6 : List AOper := [oM 34 12 0]
def r14_7 : List AOper := [oM 35 9 0, ⟨some 36, (.r (.loadn 3) (.t 6) (.t 6)), none, 0⟩, ⟨none, (.e (.mdel true [.i, .i, .s] (.t 35) (.t 36))), none, 3⟩]
def r14_8 : List AOper := [oM 37 0 0, oQ 38 (.nilchk (.t 37)) 1, oQ 39 (.fadr 2 1 (.t 38)) 3, oR 40 39 7, oQ 41 (.bin .sub (.t 40) (oI 1)) 15, oQ 42 (.nilchk (.t 37)) 31, oQ 43 (.fadr 2 1 (.t 42)) 63, ⟨none, (.e (.store 1 (.t 43) (.t 41))), none, 127⟩]
def r14_9 : List AOper := [oC 8 (.int .i64 (.ofNat 0)) 0]
def r14_10 : List AOper := [oM 45 12 0, oQ 46 (.un .not (.t 45)) 1, oM 44 46 3]
def r14_11 : List AOper := [oM 47 0 0, oK 48 33 [.t 47] 1, oM 13 48 3]
def r14_12 : List AOper := [oM 49 13 0, oQ 50 (.bin .neq (.t 49) (oI 0)) 1]
def r14_13 : List AOper := [oM 51 13 0, oM 8 51 1]
def r14_14 : List AOper := [oM 52 9 0, ⟨some 53, (.r (.loadn 3) (.t 6) (.t 6)), none, 0⟩, ⟨some 54, (.r (.loadn 3) (.t 7) (.t 7)), none, 0⟩, ⟨none, (.e (.mupd true [.i, .i, .s] (.t 52) (.t 53) (.t 54))), none, 7⟩]
def r14_15 : List AOper := [oC 8 (.int .i64 (.ofNat 0)) 0]
def c14 : ACode := (.seq (.reg r14_0) (.seq (.reg r14_1) (.seq (.seq (.reg r14_2) (.cond (.t 22) (.seq (.reg r14_3) .ret) .skip)) (.seq (.reg r14_4) (.seq (.blk 0 (.seq (.reg r14_5) (.cond (.t 30) (.seq (.seq (.reg r14_6) (.cond (.t 34) (.seq (.reg r14_7) (.reg r14_8)) .skip)) (.seq (.reg r14_9) .ret)) (.seq (.reg r14_10) (.cond (.t 44) (.seq (.reg r14_11) (.seq (.reg r14_12) (.cond (.t 50) (.seq (.reg r14_13) .ret) .skip))) .skip))))) (.seq (.reg r14_14) (.seq (.reg r14_15) .ret)))))))
def fn14 : AFunc := ⟨55, [(.t 8)], c14⟩
theorem comp14 : comp Try.prog 14 = some fn14 := by kernel_rfl
def r16_0 : List AOper := [⟨some 1, (.a (.box (.t 0))), none, 0⟩, oC 2 (.bool false) 0]
def r16_1 : List AOper := [oQ 3 (.fadr 0 1 (.t 1)) 0, oR 4 3 1, oQ 5 (.bin .eql (.t 4) (oI 1)) 3, oM 6 5 7, oG 7 (.fadr 0 1 (.t 1)) 6 false 15, ⟨some 8, (.r .load1 (.t 7) (.t 7)), some ⟨6, false⟩, 31⟩, oG 9 (.bin .eql (.t 8) (oI 2)) 6 false 63, oQ 10 (.pick (.t 6) (.c (.bool true)) (.t 9)) 127, oM 2 10 255]
def c16 : ACode := (.seq (.reg r16_0) (.seq (.reg r16_1) .ret))
def fn16 : AFunc := ⟨11, [(.t 2)], c16⟩
theorem comp16 : comp Try.prog 16 = some fn16 := by kernel_rfl
def r17_0 : List AOper := [⟨some 3, (.a (.box (.t 1))), none, 0⟩, oC 4 .nilslc 0]
def r17_1 : List AOper := [oM 11 0 0, ⟨some 12, (.r (.loadn 3) (.t 3) (.t 3)), none, 0⟩, oK 13 36 [.t 11, .t 12] 3, oM 10 13 7, oE 14 10 0 15, oE 15 10 1 15, oM 5 14 31, oM 6 15 127]
def r17_2 : List AOper := [oC 7 .nilslc 0]
def r17_3 : List AOper := [oM 16 5 0, ⟨some 17, (.e (.rng false (.t 16))), none, 1⟩]
def r17_4 : List AOper := [⟨some 18, (.e (.next false (.t 17))), none, 0⟩, oE 19 18 0 1]
def r17_5 : List AOper := [⟨some 20, (.r .ment (.t 17) (.t 17)), none, 0⟩, oE 21 20 0 1, ⟨some 8, (.a (.alloc [(.int .i64 (.ofNat 0)), (.int .i64 (.ofNat 0)), .str []])), none, 0⟩, ⟨none, (.e (.store 3 (.t 8) (.t 21))), none, 7⟩]
def r17_6 : List AOper := [oC 9 (.int .i64 (.ofNat 0)) 0]
def r17_7 : List AOper := [oM 22 9 0, oM 23 7 0, oQ 24 (.len false (.t 23)) 2, oQ 25 (.bin .lss (.t 22) (.t 24)) 7, oM 26 25 15, oG 27 (.mov (.t 7)) 26 true 31, oG 28 (.mov (.t 9)) 26 true 31, oG 29 (.iadr 3 (.t 27) (.t 28)) 26 true 127, ⟨some 30, (.r (.loadn 3) (.t 29) (.t 29)), some ⟨26, true⟩, 255⟩, ⟨some 31, (.r (.loadn 3) (.t 8) (.t 8)), some ⟨26, true⟩, 31⟩, ⟨some 32, (.e (.call 37 [.t 30, .t 31])), some ⟨26, true⟩, 1023⟩, oQ 33 (.pick (.t 26) (.t 32) (.c (.bool false))) 2047]
def r17_8 : List AOper := [oM 34 9 0, oQ 35 (.bin .add (.t 34) (oI 1)) 1, oM 9 35 3]
def r17_9 : List AOper := [oM 36 7 0, ⟨some 37, (.r (.loadn 3) (.t 8) (.t 8)), none, 0⟩, ⟨some 38, (.a (.lits 1 3 [(.int .i64 (.ofNat 0)), (.int .i64 (.ofNat 0)), .str []] [⟨0, ⟨3, .t 37⟩⟩])), none, 2⟩, ⟨some 39, (.e (.append 3 32 (.t 36) (.t 38))), none, 7⟩, oM 7 39 15]
def r17_10 : List AOper := [oM 40 7 0, oM 41 9 0, oQ 42 (.bin .add (.t 41) (oI 1)) 2, oQ 43 (.sslc 3 (.t 40) (some (.t 42)) none none) 7, oM 44 7 0, oM 45 9 0, oQ 46 (.sslc 3 (.t 44) (some (.t 45)) none none) 48, ⟨some 47, (.e (.copy 3 (.t 43) (.t 46))), none, 127⟩]
def r17_11 : List AOper := [oM 48 7 0, oM 49 9 0, ⟨some 50, (.r (.loadn 3) (.t 8) (.t 8)), none, 0⟩, oQ 51 (.iadr 3 (.t 48) (.t 49)) 7, ⟨none, (.e (.store 3 (.t 51) (.t 50))), none, 15⟩]
def r17_12 : List AOper := [oM 52 7 0, oM 4 52 1]
def b17_0 : ACode := (.seq (.seq (.draw r17_7) (.cond (.t 33) .skip (.ext 2))) (.blk 3 (.reg r17_8)))
def b17_1 : ACode := (.seq (.reg r17_4) (.seq (.cond (.t 19) .skip (.ext 0)) (.blk 1 (.seq (.reg r17_5) (.seq (.reg r17_6) (.seq (.blk 2 (.loop b17_0)) (.seq (.reg r17_9) (.seq (.draw r17_10) (.reg r17_11)))))))))
def c17 : ACode := (.seq (.reg r17_0) (.seq (.reg r17_1) (.seq (.reg r17_2) (.seq (.seq (.reg r17_3) (.blk 0 (.loop b17_1))) (.seq (.reg r17_12) .ret)))))
def fn17 : AFunc := ⟨53, [(.t 4)], c17⟩
theorem comp17 : comp Try.prog 17 = some fn17 := by kernel_rfl
def r18_0 : List AOper := [⟨some 4, (.a (.box (.t 1))), none, 0⟩, ⟨some 5, (.a (.box (.t 2))), none, 0⟩, ⟨some 6, (.a (.alloc [(.int .i64 (.ofNat 0)), (.int .i64 (.ofNat 0)), .str []])), none, 0⟩, oC 7 (.int .i64 (.ofNat 0)) 0]
def r18_1 : List AOper := [oM 11 0 0, ⟨some 12, (.r (.loadn 3) (.t 4) (.t 4)), none, 0⟩, ⟨some 13, (.r (.loadn 3) (.t 5) (.t 5)), none, 0⟩, oK 14 34 [.t 11, .t 12, .t 13] 7, oM 10 14 15, oE 15 10 0 31, oE 16 10 1 31, oM 8 15 63, oM 9 16 255]
def r18_2 : List AOper := [oM 17 9 0, oQ 18 (.bin .neq (.t 17) (oI 0)) 1]
def r18_3 : List AOper := [oQ 19 (.build [(.int .i64 (.ofNat 0)), (.int .i64 (.ofNat 0)), .str []] []) 0, oM 20 9 0, ⟨none, (.e (.store 3 (.t 6) (.t 19))), none, 1⟩, oM 7 20 7]
def r18_4 : List AOper := [oM 21 8 0, ⟨some 22, (.r (.loadn 3) (.t 5) (.t 5)), none, 0⟩, ⟨some 23, (.r (.lookup true [.i, .i, .s] (.agg [(.int .i64 (.ofNat 0)), (.int .i64 (.ofNat 0)), .str []]) false) (.t 21) (.t 22)), none, 3⟩, ⟨none, (.e (.store 3 (.t 6) (.t 23))), none, 7⟩, oC 7 (.int .i64 (.ofNat 0)) 15]
def c18 : ACode := (.seq (.reg r18_0) (.seq (.reg r18_1) (.seq (.seq (.reg r18_2) (.cond (.t 18) (.seq (.reg r18_3) .ret) .skip)) (.seq (.reg r18_4) .ret))))
def fn18 : AFunc := ⟨24, [(.cn 6 3), (.t 7)], c18⟩
theorem comp18 : comp Try.prog 18 = some fn18 := by kernel_rfl
def r19_0 : List AOper := [⟨some 4, (.a (.box (.t 1))), none, 0⟩, ⟨some 5, (.a (.box (.t 2))), none, 0⟩, ⟨some 6, (.a (.alloc [(.int .i64 (.ofNat 0)), (.int .i64 (.ofNat 0)), .str []])), none, 0⟩, oC 7 (.int .i64 (.ofNat 0)) 0]
def r19_1 : List AOper := [oM 9 0 0, oK 10 38 [.t 9] 1, oQ 11 (.un .not (.t 10)) 3, oM 8 11 7]
def r19_2 : List AOper := [oQ 12 (.build [(.int .i64 (.ofNat 0)), (.int .i64 (.ofNat 0)), .str []] []) 0, ⟨none, (.e (.store 3 (.t 6) (.t 12))), none, 1⟩, oC 7 (.int .i64 (.ofNat 12)) 3]
def r19_3 : List AOper := [oM 14 0 0, oQ 15 (.bin .eql (.t 14) (.c (.str [61, 61]))) 1, oM 13 15 3]
def r19_4 : List AOper := [⟨some 16, (.r (.loadn 3) (.t 4) (.t 4)), none, 0⟩, ⟨some 17, (.r (.loadn 3) (.t 5) (.t 5)), none, 0⟩, oQ 18 (.eq false (.flat true [.i, .i, .s]) (.t 16) (.t 17)) 3, oK 19 39 [.t 18] 7, ⟨none, (.e (.store 3 (.t 6) (.t 19))), none, 15⟩, oC 7 (.int .i64 (.ofNat 0)) 31]
def r19_5 : List AOper := [oM 21 0 0, oQ 22 (.bin .eql (.t 21) (.c (.str [33, 61]))) 1, oM 20 22 3]
def r19_6 : List AOper := [⟨some 23, (.r (.loadn 3) (.t 4) (.t 4)), none, 0⟩, ⟨some 24, (.r (.loadn 3) (.t 5) (.t 5)), none, 0⟩, oQ 25 (.eq true (.flat true [.i, .i, .s]) (.t 23) (.t 24)) 3, oK 26 39 [.t 25] 7, ⟨none, (.e (.store 3 (.t 6) (.t 26))), none, 15⟩, oC 7 (.int .i64 (.ofNat 0)) 31]
def r19_7 : List AOper := [oQ 28 (.fadr 0 1 (.t 4)) 0, oR 29 28 1, oQ 30 (.bin .eql (.t 29) (oI 1)) 3, oM 31 30 7, oG 32 (.fadr 0 1 (.t 5)) 31 true 15, ⟨some 33, (.r .load1 (.t 32) (.t 32)), some ⟨31, true⟩, 31⟩, oG 34 (.bin .eql (.t 33) (oI 1)) 31 true 63, oQ 35 (.pick (.t 31) (.t 34) (.c (.bool false))) 127, oM 27 35 255]
def r19_8 : List AOper := [oM 36 0 0, oQ 37 (.fadr 1 1 (.t 4)) 0, oR 38 37 2, oQ 39 (.fadr 1 1 (.t 5)) 0, oR 40 39 8, oK 41 40 [.t 36, .t 38, .t 40] 31, oE 42 41 0 63, oE 43 41 1 63, ⟨none, (.e (.store 3 (.t 6) (.t 42))), none, 255⟩, oM 7 43 511]
def r19_9 : List AOper := [oQ 45 (.fadr 0 1 (.t 4)) 0, oR 46 45 1, oQ 47 (.bin .eql (.t 46) (oI 2)) 3, oM 48 47 7, oG 49 (.fadr 0 1 (.t 5)) 48 true 15, ⟨some 50, (.r .load1 (.t 49) (.t 49)), some ⟨48, true⟩, 31⟩, oG 51 (.bin .eql (.t 50) (oI 2)) 48 true 63, oQ 52 (.pick (.t 48) (.t 51) (.c (.bool false))) 127, oM 44 52 255]
def r19_10 : List AOper := [oM 53 0 0, oQ 54 (.fadr 2 1 (.t 4)) 0, oR 55 54 2, oQ 56 (.fadr 2 1 (.t 5)) 0, oR 57 56 8, oK 58 41 [.t 53, .t 55, .t 57] 31, oE 59 58 0 63, oE 60 58 1 63, ⟨none, (.e (.store 3 (.t 6) (.t 59))), none, 255⟩, oM 7 60 511]
def r19_11 : List AOper := [oQ 61 (.build [(.int .i64 (.ofNat 0)), (.int .i64 (.ofNat 0)), .str []] []) 0, ⟨none, (.e (.store 3 (.t 6) (.t 61))), none, 1⟩, oC 7 (.int .i64 (.ofNat 1)) 3]
def c19 : ACode := (.seq (.reg r19_0) (.seq (.blk 0 (.seq (.reg r19_1) (.cond (.t 8) (.seq (.reg r19_2) .ret) (.seq (.reg r19_3) (.cond (.t 13) (.seq (.reg r19_4) .ret) (.seq (.reg r19_5) (.cond (.t 20) (.seq (.reg r19_6) .ret) (.seq (.reg r19_7) (.cond (.t 27) (.seq (.reg r19_8) .ret) (.seq (.reg r19_9) (.cond (.t 44) (.seq (.reg r19_10) .ret) .skip))))))))))) (.seq (.reg r19_11) .ret)))
def fn19 : AFunc := ⟨62, [(.cn 6 3), (.t 7)], c19⟩
theorem comp19 : comp Try.prog 19 = some fn19 := by kernel_rfl
def r20_0 : List AOper := [⟨some 3, (.a (.box (.t 1))), none, 0⟩, oC 4 (.int .i64 (.ofNat 0)) 0, oC 5 (.int .i64 (.ofNat 0)) 2]
def r20_1 : List AOper := [oM 9 0 0, ⟨some 10, (.r (.loadn 3) (.t 3) (.t 3)), none, 0⟩, oK 11 36 [.t 9, .t 10] 3, oM 8 11 7, oE 12 8 0 15, oE 13 8 1 15, oM 6 12 31, oM 7 13 127]
def r20_2 : List AOper := [oM 14 6 0, ⟨some 15, (.r .mlen (.t 14) (.t 14)), none, 1⟩, oM 16 7 0, oM 4 15 3, oM 5 16 15]
def c20 : ACode := (.seq (.reg r20_0) (.seq (.reg r20_1) (.seq (.reg r20_2) .ret)))
def fn20 : AFunc := ⟨17, [(.t 4), (.t 5)], c20⟩
theorem comp20 : comp Try.prog 20 = some fn20 := by kernel_rfl
def r21_0 : List AOper := [⟨some 1, (.a (.box (.t 0))), none, 0⟩, oC 2 (.bool false) 0]
def r21_1 : List AOper := [oQ 3 (.fadr 0 1 (.t 1)) 0, oR 4 3 1]
def r21_2 : List AOper := [oQ 6 (.bin .eql (.t 4) (oI 0)) 0, oM 5 6 1]
def r21_3 : List AOper := [oQ 7 (.fadr 1 1 (.t 1)) 0, oR 8 7 1, oQ 9 (.bin .eql (.t 8) (oI 0)) 3, oM 10 9 7, oG 11 (.fadr 2 1 (.t 1)) 10 true 15, ⟨some 12, (.r .load1 (.t 11) (.t 11)), some ⟨10, true⟩, 31⟩, oG 13 (.bin .eql (.t 12) (.c (.str []))) 10 true 63, oQ 14 (.pick (.t 10) (.t 13) (.c (.bool false))) 127, oM 2 14 255]
def r21_4 : List AOper := [oQ 16 (.bin .eql (.t 4) (oI 2)) 0, oM 15 16 1]
def r21_5 : List AOper := [oQ 17 (.fadr 1 1 (.t 1)) 0, oR 18 17 1, oQ 19 (.bin .eql (.t 18) (oI 0)) 3, oM 20 19 7, oG 21 (.fadr 2 1 (.t 1)) 20 true 15, ⟨some 22, (.r .load1 (.t 21) (.t 21)), some ⟨20, true⟩, 31⟩, oG 23 (.len true (.t 22)) 20 true 63, oG 24 (.bin .leq (.t 23) (oI 1024)) 20 true 127, oQ 25 (.pick (.t 20) (.t 24) (.c (.bool false))) 255, oM 2 25 511]
def r21_6 : List AOper := [oQ 26 (.fadr 0 1 (.t 1)) 0, oR 27 26 1, oQ 28 (.bin .geq (.t 27) (oI 0)) 3, oM 29 28 7, oG 30 (.fadr 0 1 (.t 1)) 29 true 15, ⟨some 31, (.r .load1 (.t 30) (.t 30)), some ⟨29, true⟩, 31⟩, oG 32 (.bin .leq (.t 31) (oI 5)) 29 true 63, oQ 33 (.pick (.t 29) (.t 32) (.c (.bool false))) 127, oM 34 33 255, oG 35 (.fadr 2 1 (.t 1)) 34 true 511, ⟨some 36, (.r .load1 (.t 35) (.t 35)), some ⟨34, true⟩, 1023⟩, oG 37 (.bin .eql (.t 36) (.c (.str []))) 34 true 2047, oQ 38 (.pick (.t 34) (.t 37) (.c (.bool false))) 4095, oM 2 38 8191]
def c21 : ACode := (.seq (.reg r21_0) (.seq (.seq (.reg r21_1) (.blk 0 (.seq (.reg r21_2) (.cond (.t 5) (.seq (.reg r21_3) .ret) (.seq (.reg r21_4) (.cond (.t 15) (.seq (.reg r21_5) .ret) .skip)))))) (.seq (.reg r21_6) .ret)))
def fn21 : AFunc := ⟨39, [(.t 2)], c21⟩
theorem comp21 : comp Try.prog 21 = some fn21 := by kernel_rfl
def r22_0 : List AOper := [⟨some 3, (.a (.box (.t 1))), none, 0⟩, oC 4 (.int .i64 (.ofNat 0)) 0]
def r22_1 : List AOper := [oM 5 0 0, oK 6 32 [.t 5] 1, oQ 7 (.un .not (.t 6)) 3]
def r22_2 : List AOper := [oC 4 (.int .i64 (.negSucc 0)) 0]
def r22_3 : List AOper := [oM 8 0 0, oM 9 0 0, oQ 10 (.nilchk (.t 9)) 2, oQ 11 (.fadr 5 1 (.t 10)) 6, oR 12 11 14, ⟨some 13, (.r (.loadn 3) (.t 3) (.t 3)), none, 0⟩, ⟨some 14, (.a (.lits 1 3 [(.int .i64 (.ofNat 0)), (.int .i64 (.ofNat 0)), .str []] [⟨0, ⟨3, .t 13⟩⟩])), none, 32⟩, ⟨some 15, (.e (.append 3 32 (.t 12) (.t 14))), none, 126⟩, oQ 16 (.nilchk (.t 8)) 255, oQ 17 (.fadr 5 1 (.t 16)) 511, ⟨none, (.e (.store 1 (.t 17) (.t 15))), none, 1023⟩]
def r22_4 : List AOper := [oM 18 0 0, oQ 19 (.nilchk (.t 18)) 1, oQ 20 (.fadr 5 1 (.t 19)) 3, oR 21 20 7, oQ 22 (.len false (.t 21)) 15, oQ 23 (.bin .sub (.t 22) (oI 1)) 31, oM 4 23 63]
def c22 : ACode := (.seq (.reg r22_0) (.seq (.seq (.reg r22_1) (.cond (.t 7) (.seq (.reg r22_2) .ret) .skip)) (.seq (.draw r22_3) (.seq (.reg r22_4) .ret))))
def fn22 : AFunc := ⟨24, [(.t 4)], c22⟩
theorem comp22 : comp Try.prog 22 = some fn22 := by kernel_rfl
def r23_0 : List AOper := [⟨some 2, (.a (.alloc [(.int .i64 (.ofNat 0)), (.int .i64 (.ofNat 0)), .str []])), none, 0⟩]
def r23_1 : List AOper := [oM 3 0 0, oQ 4 (.build [(.int .i64 (.ofNat 0)), (.int .i64 (.ofNat 0)), .str []] [⟨0, ⟨1, oI 1⟩⟩, ⟨1, ⟨1, .t 3⟩⟩]) 1, ⟨none, (.e (.store 3 (.t 2) (.t 4))), none, 3⟩]
def c23 : ACode := (.seq (.reg r23_0) (.seq (.reg r23_1) .ret))
def fn23 : AFunc := ⟨5, [(.cn 2 3)], c23⟩
theorem comp23 : comp Try.prog 23 = some fn23 := by kernel_rfl
def r24_0 : List AOper := [⟨some 3, (.a (.box (.t 1))), none, 0⟩, ⟨some 4, (.a (.alloc [(.int .i64 (.ofNat 0)), (.int .i64 (.ofNat 0)), .nilslc])), none, 0⟩, oC 5 (.bool false) 0]
def r24_1 : List AOper := [oM 7 0 0, oK 8 32 [.t 7] 1, oQ 9 (.un .not (.t 8)) 3, oM 10 9 7, oG 11 (.fadr 0 1 (.t 3)) 10 false 15, ⟨some 12, (.r .load1 (.t 11) (.t 11)), some ⟨10, false⟩, 31⟩, oG 13 (.bin .neq (.t 12) (oI 4)) 10 false 63, oQ 14 (.pick (.t 10) (.c (.bool true)) (.t 13)) 127, oM 15 14 255, oG 16 (.fadr 1 1 (.t 3)) 15 false 511, ⟨some 17, (.r .load1 (.t 16) (.t 16)), some ⟨15, false⟩, 1023⟩, oG 18 (.bin .lss (.t 17) (oI 0)) 15 false 2047, oQ 19 (.pick (.t 15) (.c (.bool true)) (.t 18)) 4095, oM 20 19 8191, oG 21 (.fadr 1 1 (.t 3)) 20 false 16383, ⟨some 22, (.r .load1 (.t 21) (.t 21)), some ⟨20, false⟩, 32767⟩, oG 23 (.mov (.t 0)) 20 false 16383, oG 24 (.nilchk (.t 23)) 20 false 81919, oG 25 (.fadr 4 1 (.t 24)) 20 false 212991, ⟨some 26, (.r .load1 (.t 25) (.t 25)), some ⟨20, false⟩, 475135⟩, oG 27 (.len false (.t 26)) 20 false 999423, oG 28 (.bin .geq (.t 22) (.t 27)) 20 false 2097151, oQ 29 (.pick (.t 20) (.c (.bool true)) (.t 28)) 4194303]
def r24_2 : List AOper := [oQ 30 (.build [(.int .i64 (.ofNat 0)), (.int .i64 (.ofNat 0)), .nilslc] []) 0, ⟨none, (.e (.store 3 (.t 4) (.t 30))), none, 1⟩, oC 5 (.bool false) 3]
def r24_3 : List AOper := [oM 31 0 0, oQ 32 (.nilchk (.t 31)) 1, oQ 33 (.fadr 4 1 (.t 32)) 3, oR 34 33 7, oQ 35 (.fadr 1 1 (.t 3)) 0, oR 36 35 16, oQ 37 (.iadr 3 (.t 34) (.t 36)) 63, ⟨some 38, (.r (.loadn 3) (.t 37) (.t 37)), none, 127⟩, ⟨some 6, (.a (.alloc [(.int .i64 (.ofNat 0)), (.int .i64 (.ofNat 0)), .nilslc])), none, 0⟩, ⟨none, (.e (.store 3 (.t 6) (.t 38))), none, 511⟩]
def r24_4 : List AOper := [oQ 39 (.fadr 2 1 (.t 6)) 0, oR 40 39 1, ⟨some 41, (.e (.append 1 8 (.c .nilslc) (.t 40))), none, 3⟩, oQ 42 (.fadr 2 1 (.t 6)) 7, ⟨none, (.e (.store 1 (.t 42) (.t 41))), none, 15⟩]
def r24_5 : List AOper := [⟨some 43, (.r (.loadn 3) (.t 6) (.t 6)), none, 0⟩, ⟨none, (.e (.store 3 (.t 4) (.t 43))), none, 1⟩, oC 5 (.bool true) 3]
def c24 : ACode := (.seq (.reg r24_0) (.seq (.seq (.draw r24_1) (.cond (.t 29) (.seq (.reg r24_2) .ret) .skip)) (.seq (.draw r24_3) (.seq (.reg r24_4) (.seq (.reg r24_5) .ret)))))
def fn24 : AFunc := ⟨44, [(.cn 4 3), (.t 5)], c24⟩
theorem comp24 : comp Try.prog 24 = some fn24 := by kernel_rfl
def r25_0 : List AOper := [oC 4 (.bool false) 0]
def r25_1 : List AOper := [oM 6 0 0, oQ 7 (.len false (.t 6)) 1, oM 8 1 0, oQ 9 (.len false (.t 8)) 4, oQ 10 (.bin .neq (.t 7) (.t 9)) 15]
def r25_2 : List AOper := [oC 4 (.bool false) 0]
def r25_3 : List AOper := [oC 5 (.int .i64 (.ofNat 0)) 0]
def r25_4 : List AOper := [oM 11 5 0, oM 12 0 0, oQ 13 (.len false (.t 12)) 2, oQ 14 (.bin .lss (.t 11) (.t 13)) 7]
def r25_5 : List AOper := [oM 17 0 0, oM 18 5 0, oQ 19 (.iadr 1 (.t 17) (.t 18)) 3, oR 20 19 7, oM 21 1 0, oM 22 5 0, oQ 23 (.iadr 1 (.t 21) (.t 22)) 48, oR 24 23 112, oQ 25 (.bin .neq (.t 20) (.t 24)) 255]
def r25_6 : List AOper := [oC 4 (.bool false) 0]
def r25_7 : List AOper := [oM 15 5 0, oQ 16 (.bin .add (.t 15) (oI 1)) 1, oM 5 16 3]
def r25_8 : List AOper := [oC 4 (.bool true) 0]
def b25_0 : ACode := (.seq (.seq (.reg r25_4) (.cond (.t 14) .skip (.ext 0))) (.seq (.blk 1 (.seq (.draw r25_5) (.cond (.t 25) (.seq (.reg r25_6) .ret) .skip))) (.reg r25_7)))
def c25 : ACode := (.seq (.reg r25_0) (.seq (.seq (.reg r25_1) (.cond (.t 10) (.seq (.reg r25_2) .ret) .skip)) (.seq (.seq (.reg r25_3) (.blk 0 (.loop b25_0))) (.seq (.reg r25_8) .ret))))
def fn25 : AFunc := ⟨26, [(.t 4)], c25⟩
theorem comp25 : comp Try.prog 25 = some fn25 := by kernel_rfl
def r26_0 : List AOper := [⟨some 5, (.a (.box (.t 2))), none, 0⟩, oC 6 (.bool false) 0]
def r26_1 : List AOper := [oM 7 0 0, oM 8 1 0, oK 9 42 [.t 7, .t 8] 3, oQ 10 (.un .not (.t 9)) 7]
def r26_2 : List AOper := [oC 6 (.bool false) 0]
def r26_3 : List AOper := [oM 11 0 0, oQ 12 (.nilchk (.t 11)) 1, oQ 13 (.fadr 5 1 (.t 12)) 3, oR 14 13 7, oM 15 1 0, ⟨some 16, (.r (.loadn 3) (.t 5) (.t 5)), none, 0⟩, oQ 17 (.iadr 3 (.t 14) (.t 15)) 63, ⟨none, (.e (.store 3 (.t 17) (.t 16))), none, 127⟩]
def r26_4 : List AOper := [oC 6 (.bool true) 0]
def c26 : ACode := (.seq (.reg r26_0) (.seq (.seq (.reg r26_1) (.cond (.t 10) (.seq (.reg r26_2) .ret) .skip)) (.seq (.draw r26_3) (.seq (.reg r26_4) .ret))))
def fn26 : AFunc := ⟨18, [(.t 6)], c26⟩
theorem comp26 : comp Try.prog 26 = some fn26 := by kernel_rfl
def r27_0 : List AOper := [⟨some 4, (.a (.alloc [(.int .i64 (.ofNat 0)), (.int .i64 (.ofNat 0)), .str []])), none, 0⟩, oC 5 (.bool false) 0]
def r27_1 : List AOper := [oM 6 0 0, oM 7 1 0, oK 8 42 [.t 6, .t 7] 3, oQ 9 (.un .not (.t 8)) 7]
def r27_2 : List AOper := [oQ 10 (.build [(.int .i64 (.ofNat 0)), (.int .i64 (.ofNat 0)), .str []] []) 0, ⟨none, (.e (.store 3 (.t 4) (.t 10))), none, 1⟩, oC 5 (.bool false) 3]
def r27_3 : List AOper := [oM 11 0 0, oQ 12 (.nilchk (.t 11)) 1, oQ 13 (.fadr 5 1 (.t 12)) 3, oR 14 13 7, oM 15 1 0, oQ 16 (.iadr 3 (.t 14) (.t 15)) 31, ⟨some 17, (.r (.loadn 3) (.t 16) (.t 16)), none, 63⟩, ⟨none, (.e (.store 3 (.t 4) (.t 17))), none, 127⟩, oC 5 (.bool true) 255]
def c27 : ACode := (.seq (.reg r27_0) (.seq (.seq (.reg r27_1) (.cond (.t 9) (.seq (.reg r27_2) .ret) .skip)) (.seq (.reg r27_3) .ret)))
def fn27 : AFunc := ⟨18, [(.cn 4 3), (.t 5)], c27⟩
theorem comp27 : comp Try.prog 27 = some fn27 := by kernel_rfl
def r28_0 : List AOper := [oC 2 .nilptr 0, oC 3 (.int .i64 (.ofNat 0)) 1]
def r28_1 : List AOper := [oM 4 0 0, oQ 5 (.bin .lss (.t 4) (oI 0)) 1, oM 6 5 3, oG 7 (.mov (.t 0)) 6 false 7, oG 8 (.bin .gtr (.t 7) (oI 1000000)) 6 false 15, oQ 9 (.pick (.t 6) (.c (.bool true)) (.t 8)) 31]
def r28_2 : List AOper := [oQ 10 (.build [.nilslc, .nilslc, .nilslc, (.int .i64 (.ofNat 0)), (.int .i64 (.ofNat 0))] []) 0, ⟨some 11, (.a (.box (.t 10))), none, 1⟩, oM 2 11 3, oC 3 (.int .i64 (.ofNat 1)) 7]
def r28_3 : List AOper := [oM 12 0 0, oQ 13 (.build [.nilslc, .nilslc, .nilslc, (.int .i64 (.ofNat 0)), (.int .i64 (.ofNat 0))] [⟨4, ⟨1, .t 12⟩⟩]) 1, ⟨some 14, (.a (.box (.t 13))), none, 3⟩, oM 2 14 7, oC 3 (.int .i64 (.ofNat 0)) 15]
def c28 : ACode := (.seq (.reg r28_0) (.seq (.seq (.reg r28_1) (.cond (.t 9) (.seq (.reg r28_2) .ret) .skip)) (.seq (.reg r28_3) .ret)))
def fn28 : AFunc := ⟨15, [(.t 2), (.t 3)], c28⟩
theorem comp28 : comp Try.prog 28 = some fn28 := by kernel_rfl
def r29_0 : List AOper := [⟨some 5, (.a (.box (.t 2))), none, 0⟩, oC 6 .nilptr 0, oC 7 (.bool false) 2]
def r29_1 : List AOper := [oQ 30 (.fadr 0 1 (.t 5)) 0, oR 31 30 1]
def r29_2 : List AOper := [oQ 33 (.bin .eql (.t 31) (oI 0)) 0, oM 32 33 1]
def r29_3 : List AOper := [oQ 34 (.bin .eql (.t 31) (oI 4)) 0, oM 32 34 1]
def r29_4 : List AOper := [oQ 35 (.bin .eql (.t 31) (oI 6)) 0, oM 32 35 1]
def r29_5 : List AOper := [oM 36 0 0, oM 37 0 0, oM 38 1 0, ⟨some 39, (.r (.loadn 14) (.t 5) (.t 5)), none, 0⟩, oK 40 43 [.t 37, .t 38, .t 39] 14, oM 6 36 31, oM 7 40 63]
def r29_6 : List AOper := [oQ 42 (.bin .eql (.t 31) (oI 1)) 0, oM 41 42 1]
def r29_7 : List AOper := [oM 43 0 0, oM 44 0 0, oQ 45 (.fadr 1 3 (.t 5)) 0, ⟨some 46, (.r (.loadn 3) (.t 45) (.t 45)), none, 4⟩, oQ 47 (.fadr 4 3 (.t 5)) 0, ⟨some 48, (.r (.loadn 3) (.t 47) (.t 47)), none, 16⟩, oQ 49 (.fadr 7 3 (.t 5)) 0, ⟨some 50, (.r (.loadn 3) (.t 49) (.t 49)), none, 64⟩, oK 51 14 [.t 44, .t 46, .t 48, .t 50] 254, oM 52 1 0, oQ 53 (.fadr 1 3 (.t 5)) 0, ⟨some 54, (.r (.loadn 3) (.t 53) (.t 53)), none, 1024⟩, oQ 55 (.fadr 4 3 (.t 5)) 0, ⟨some 56, (.r (.loadn 3) (.t 55) (.t 55)), none, 4096⟩, oQ 57 (.fadr 7 3 (.t 5)) 0, ⟨some 58, (.r (.loadn 3) (.t 57) (.t 57)), none, 16384⟩, oK 59 44 [.t 52, .t 54, .t 56, .t 58] 65534, oQ 60 (.bin .eql (.t 51) (.t 59)) 131070, oM 6 43 131071, oM 7 60 524287]
def r29_8 : List AOper := [oQ 62 (.bin .eql (.t 31) (oI 2)) 0, oM 61 62 1]
def r29_9 : List AOper := [oM 64 0 0, oQ 65 (.fadr 1 3 (.t 5)) 0, ⟨some 66, (.r (.loadn 3) (.t 65) (.t 65)), none, 2⟩, oQ 67 (.fadr 4 3 (.t 5)) 0, ⟨some 68, (.r (.loadn 3) (.t 67) (.t 67)), none, 8⟩, oK 69 18 [.t 64, .t 66, .t 68] 31, oM 63 69 63, oE 70 63 0 127, oE 71 63 1 127, ⟨some 8, (.a (.alloc [(.int .i64 (.ofNat 0)), (.int .i64 (.ofNat 0)), .str []])), none, 0⟩, ⟨none, (.e (.store 3 (.t 8) (.t 70))), none, 767⟩, oM 9 71 2047]
def r29_10 : List AOper := [oM 73 1 0, oQ 74 (.fadr 1 3 (.t 5)) 0, ⟨some 75, (.r (.loadn 3) (.t 74) (.t 74)), none, 2⟩, oQ 76 (.fadr 4 3 (.t 5)) 0, ⟨some 77, (.r (.loadn 3) (.t 76) (.t 76)), none, 8⟩, oK 78 45 [.t 73, .t 75, .t 77] 31, oM 72 78 63, oE 79 72 0 127, oE 80 72 1 127, ⟨some 10, (.a (.alloc [(.int .i64 (.ofNat 0)), (.int .i64 (.ofNat 0)), .str []])), none, 0⟩, ⟨none, (.e (.store 3 (.t 10) (.t 79))), none, 767⟩, oM 11 80 2047]
def r29_11 : List AOper := [oM 81 0 0, ⟨some 82, (.r (.loadn 3) (.t 8) (.t 8)), none, 0⟩, ⟨some 83, (.r (.loadn 3) (.t 10) (.t 10)), none, 0⟩, oQ 84 (.eq false (.flat true [.i, .i, .s]) (.t 82) (.t 83)) 6, oM 85 84 14, oG 86 (.mov (.t 9)) 85 true 30, oG 87 (.mov (.t 11)) 85 true 30, oG 88 (.bin .eql (.t 86) (.t 87)) 85 true 126, oQ 89 (.pick (.t 85) (.t 88) (.c (.bool false))) 254, oM 6 81 31, oM 7 89 1023]
def r29_12 : List AOper := [oQ 91 (.bin .eql (.t 31) (oI 3)) 0, oM 90 91 1]
def r29_13 : List AOper := [oM 93 0 0, oQ 94 (.fadr 1 3 (.t 5)) 0, ⟨some 95, (.r (.loadn 3) (.t 94) (.t 94)), none, 2⟩, oK 96 20 [.t 93, .t 95] 7, oM 92 96 15, oE 97 92 0 31, oE 98 92 1 31, oM 12 97 63, oM 13 98 255]
def r29_14 : List AOper := [oM 100 1 0, oQ 101 (.fadr 1 3 (.t 5)) 0, ⟨some 102, (.r (.loadn 3) (.t 101) (.t 101)), none, 2⟩, oK 103 46 [.t 100, .t 102] 7, oM 99 103 15, oE 104 99 0 31, oE 105 99 1 31, oM 14 104 63, oM 15 105 255]
def r29_15 : List AOper := [oM 106 0 0, oQ 107 (.fadr 1 3 (.t 5)) 0, ⟨some 108, (.r (.loadn 3) (.t 107) (.t 107)), none, 2⟩, oK 109 17 [.t 106, .t 108] 7, oM 16 109 15]
def r29_16 : List AOper := [oM 110 16 0, oM 111 1 0, oQ 112 (.fadr 1 3 (.t 5)) 0, ⟨some 113, (.r (.loadn 3) (.t 112) (.t 112)), none, 4⟩, oK 114 48 [.t 111, .t 113] 14, oK 115 47 [.t 110, .t 114] 31, oM 17 115 63]
def r29_17 : List AOper := [oC 18 (.int .i64 (.ofNat 0)) 0]
def r29_18 : List AOper := [oM 116 18 0, oM 117 16 0, oQ 118 (.len false (.t 117)) 2, oQ 119 (.bin .lss (.t 116) (.t 118)) 7]
def r29_19 : List AOper := [oM 122 16 0, oM 123 18 0, oQ 124 (.iadr 3 (.t 122) (.t 123)) 3, oQ 125 (.fadr 0 1 (.t 124)) 7, ⟨none, (.e (.store 1 (.t 125) (oI 9))), none, 15⟩]
def r29_20 : List AOper := [oM 120 18 0, oQ 121 (.bin .add (.t 120) (oI 1)) 1, oM 18 121 3]
def r29_21 : List AOper := [oM 126 0 0, oM 127 17 0, oM 128 127 2, oG 129 (.mov (.t 12)) 128 true 6, oG 130 (.mov (.t 14)) 128 true 6, oG 131 (.bin .eql (.t 129) (.t 130)) 128 true 30, oQ 132 (.pick (.t 128) (.t 131) (.c (.bool false))) 62, oM 133 132 126, oG 134 (.mov (.t 13)) 133 true 254, oG 135 (.mov (.t 15)) 133 true 254, oG 136 (.bin .eql (.t 134) (.t 135)) 133 true 1022, oQ 137 (.pick (.t 133) (.t 136) (.c (.bool false))) 2046, oM 6 126 255, oM 7 137 8191]
def r29_22 : List AOper := [oQ 139 (.bin .eql (.t 31) (oI 5)) 0, oM 138 139 1]
def r29_23 : List AOper := [oM 141 0 0, oQ 142 (.fadr 1 3 (.t 5)) 0, ⟨some 143, (.r (.loadn 3) (.t 142) (.t 142)), none, 2⟩, oK 144 24 [.t 141, .t 143] 7, oM 140 144 15, oE 145 140 0 31, oE 146 140 1 31, ⟨some 19, (.a (.alloc [(.int .i64 (.ofNat 0)), (.int .i64 (.ofNat 0)), .nilslc])), none, 0⟩, ⟨none, (.e (.store 3 (.t 19) (.t 145))), none, 191⟩, oM 20 146 511]
def r29_24 : List AOper := [oM 148 1 0, oQ 149 (.fadr 1 3 (.t 5)) 0, ⟨some 150, (.r (.loadn 3) (.t 149) (.t 149)), none, 2⟩, oK 151 49 [.t 148, .t 150] 7, oM 147 151 15, oE 152 147 0 31, oE 153 147 1 31, ⟨some 21, (.a (.alloc [(.int .i64 (.ofNat 0)), (.int .i64 (.ofNat 0)), .nilslc])), none, 0⟩, ⟨none, (.e (.store 3 (.t 21) (.t 152))), none, 191⟩, oM 22 153 511]
def r29_25 : List AOper := [oQ 154 (.fadr 0 1 (.t 19)) 0, oR 155 154 1, oQ 156 (.fadr 0 1 (.t 21)) 0, oR 157 156 4, oQ 158 (.bin .eql (.t 155) (.t 157)) 15, oM 159 158 31, oG 160 (.fadr 1 1 (.t 19)) 159 true 63, ⟨some 161, (.r .load1 (.t 160) (.t 160)), some ⟨159, true⟩, 127⟩, oG 162 (.fadr 1 1 (.t 21)) 159 true 63, ⟨some 163, (.r .load1 (.t 162) (.t 162)), some ⟨159, true⟩, 319⟩, oG 164 (.bin .eql (.t 161) (.t 163)) 159 true 1023, oQ 165 (.pick (.t 159) (.t 164) (.c (.bool false))) 2047, oM 166 165 4095, oG 167 (.fadr 2 1 (.t 19)) 166 true 8191, ⟨some 168, (.r .load1 (.t 167) (.t 167)), some ⟨166, true⟩, 16383⟩, oG 169 (.fadr 2 1 (.t 21)) 166 true 8191, ⟨some 170, (.r .load1 (.t 169) (.t 169)), some ⟨166, true⟩, 40959⟩, ⟨some 171, (.e (.call 25 [.t 168, .t 170])), some ⟨166, true⟩, 131071⟩, oQ 172 (.pick (.t 166) (.t 171) (.c (.bool false))) 262143, oM 173 172 524287, oG 174 (.mov (.t 20)) 173 true 1048575, oG 175 (.mov (.t 22)) 173 true 1048575, oG 176 (.eq false (.flat false [.b]) (.t 174) (.t 175)) 173 true 4194303, oQ 177 (.pick (.t 173) (.t 176) (.c (.bool false))) 8388607, oM 23 177 16777215]
def r29_26 : List AOper := [oC 24 (.int .i64 (.ofNat 0)) 0]
def r29_27 : List AOper := [oM 178 24 0, oQ 179 (.fadr 2 1 (.t 19)) 0, oR 180 179 2, oQ 181 (.len false (.t 180)) 6, oQ 182 (.bin .lss (.t 178) (.t 181)) 15]
def r29_28 : List AOper := [oQ 185 (.fadr 2 1 (.t 19)) 0, oR 186 185 1, oM 187 24 0, oQ 188 (.iadr 1 (.t 186) (.t 187)) 7, ⟨none, (.e (.store 1 (.t 188) (.c (.int .i64 (.negSucc 6))))), none, 15⟩]
def r29_29 : List AOper := [oM 183 24 0, oQ 184 (.bin .add (.t 183) (oI 1)) 1, oM 24 184 3]
def r29_30 : List AOper := [oM 189 0 0, oM 190 23 0, oM 6 189 1, oM 7 190 7]
def r29_31 : List AOper := [oQ 192 (.bin .eql (.t 31) (oI 7)) 0, oM 191 192 1]
def r29_32 : List AOper := [oM 193 0 0, oM 194 0 0, oQ 195 (.fadr 13 1 (.t 5)) 0, oR 196 195 4, oQ 197 (.fadr 7 3 (.t 5)) 0, ⟨some 198, (.r (.loadn 3) (.t 197) (.t 197)), none, 16⟩, oK 199 26 [.t 194, .t 196, .t 198] 62, oM 200 1 0, oQ 201 (.fadr 13 1 (.t 5)) 0, oR 202 201 256, oQ 203 (.fadr 7 3 (.t 5)) 0, ⟨some 204, (.r (.loadn 3) (.t 203) (.t 203)), none, 1024⟩, oK 205 50 [.t 200, .t 202, .t 204] 4094, oQ 206 (.eq false (.flat false [.b]) (.t 199) (.t 205)) 8190, oM 6 193 8191, oM 7 206 32767]
def r29_33 : List AOper := [oQ 208 (.bin .eql (.t 31) (oI 8)) 0, oM 207 208 1]
def r29_34 : List AOper := [oM 210 0 0, oQ 211 (.fadr 13 1 (.t 5)) 0, oR 212 211 2, oK 213 27 [.t 210, .t 212] 7, oM 209 213 15, oE 214 209 0 31, oE 215 209 1 31, ⟨some 25, (.a (.alloc [(.int .i64 (.ofNat 0)), (.int .i64 (.ofNat 0)), .str []])), none, 0⟩, ⟨none, (.e (.store 3 (.t 25) (.t 214))), none, 191⟩, oM 26 215 511]
def r29_35 : List AOper := [oM 217 1 0, oQ 218 (.fadr 13 1 (.t 5)) 0, oR 219 218 2, oK 220 51 [.t 217, .t 219] 7, oM 216 220 15, oE 221 216 0 31, oE 222 216 1 31, ⟨some 27, (.a (.alloc [(.int .i64 (.ofNat 0)), (.int .i64 (.ofNat 0)), .str []])), none, 0⟩, ⟨none, (.e (.store 3 (.t 27) (.t 221))), none, 191⟩, oM 28 222 511]
def r29_36 : List AOper := [oM 223 0 0, ⟨some 224, (.r (.loadn 3) (.t 25) (.t 25)), none, 0⟩, ⟨some 225, (.r (.loadn 3) (.t 27) (.t 27)), none, 0⟩, oQ 226 (.eq false (.flat true [.i, .i, .s]) (.t 224) (.t 225)) 6, oM 227 226 14, oG 228 (.mov (.t 26)) 227 true 30, oG 229 (.mov (.t 28)) 227 true 30, oG 230 (.eq false (.flat false [.b]) (.t 228) (.t 229)) 227 true 126, oQ 231 (.pick (.t 227) (.t 230) (.c (.bool false))) 254, oM 6 223 31, oM 7 231 1023]
def r29_37 : List AOper := [oM 232 0 0, oK 233 31 [.t 232] 1, oM 29 233 3]
def r29_38 : List AOper := [oM 234 0 0, oQ 235 (.fadr 1 3 (.t 5)) 0, ⟨some 236, (.r (.loadn 3) (.t 235) (.t 235)), none, 2⟩, oK 237 35 [(.c (.str [108, 101, 102, 116]))] 0, oK 238 23 [oI 1] 8, oK 239 14 [.t 234, .t 236, .t 237, .t 238] 31]
def r29_39 : List AOper := [oM 240 0 0, oK 241 23 [oI 99] 0, oK 242 26 [.t 240, oI 0, .t 241] 3]
def r29_40 : List AOper := [oM 243 0 0, oK 244 12 [.t 243] 1]
def r29_41 : List AOper := [oM 245 29 0, oM 246 29 0, oQ 247 (.eq true .ptrnil (.t 246) (.c .nilptr)) 2, oM 6 245 1, oM 7 247 15]
def b29_0 : ACode := (.seq (.seq (.reg r29_18) (.cond (.t 119) .skip (.ext 1))) (.seq (.blk 2 (.reg r29_19)) (.reg r29_20)))
def b29_1 : ACode := (.seq (.seq (.reg r29_27) (.cond (.t 182) .skip (.ext 3))) (.seq (.blk 4 (.reg r29_28)) (.reg r29_29)))
def c29 : ACode := (.seq (.reg r29_0) (.seq (.seq (.reg r29_1) (.blk 0 (.seq (.seq (.reg r29_2) (.cond (.t 32) .skip (.seq (.reg r29_3) (.cond (.t 32) .skip (.reg r29_4))))) (.cond (.t 32) (.seq (.reg r29_5) .ret) (.seq (.reg r29_6) (.cond (.t 41) (.seq (.draw r29_7) .ret) (.seq (.reg r29_8) (.cond (.t 61) (.seq (.reg r29_9) (.seq (.reg r29_10) (.seq (.reg r29_11) .ret))) (.seq (.reg r29_12) (.cond (.t 90) (.seq (.reg r29_13) (.seq (.reg r29_14) (.seq (.reg r29_15) (.seq (.reg r29_16) (.seq (.seq (.reg r29_17) (.blk 1 (.loop b29_0))) (.seq (.reg r29_21) .ret)))))) (.seq (.reg r29_22) (.cond (.t 138) (.seq (.reg r29_23) (.seq (.reg r29_24) (.seq (.reg r29_25) (.seq (.seq (.reg r29_26) (.blk 3 (.loop b29_1))) (.seq (.reg r29_30) .ret))))) (.seq (.reg r29_31) (.cond (.t 191) (.seq (.draw r29_32) .ret) (.seq (.reg r29_33) (.cond (.t 207) (.seq (.reg r29_34) (.seq (.reg r29_35) (.seq (.reg r29_36) .ret))) .skip)))))))))))))))) (.seq (.reg r29_37) (.seq (.draw r29_38) (.seq (.reg r29_39) (.seq (.reg r29_40) (.seq (.reg r29_41) .ret)))))))
def fn29 : AFunc := ⟨248, [(.t 6), (.t 7)], c29⟩
theorem comp29 : comp Try.prog 29 = some fn29 := by kernel_rfl
def r30_0 : List AOper := [oC 2 (.int .i64 (.ofNat 0)) 0]
def r30_1 : List AOper := [oM 3 0 0, oK 4 32 [.t 3] 1, oQ 5 (.un .not (.t 4)) 3]
def r30_2 : List AOper := [oC 2 (.int .i64 (.ofNat 0)) 0]
def r30_3 : List AOper := [oM 6 0 0, oQ 7 (.nilchk (.t 6)) 1, oQ 8 (.fadr 1 1 (.t 7)) 3, oR 9 8 7, oM 2 9 15]
def c30 : ACode := (.seq (.reg r30_0) (.seq (.seq (.reg r30_1) (.cond (.t 5) (.seq (.reg r30_2) .ret) .skip)) (.seq (.reg r30_3) .ret)))
def fn30 : AFunc := ⟨10, [(.t 2)], c30⟩
theorem comp30 : comp Try.prog 30 = some fn30 := by kernel_rfl
def r31_0 : List AOper := [oC 2 .nilptr 0]
def r31_1 : List AOper := [oM 9 0 0, oK 10 32 [.t 9] 1, oQ 11 (.un .not (.t 10)) 3]
def r31_2 : List AOper := [oC 2 .nilptr 0]
def r31_3 : List AOper := [oM 12 0 0, oQ 13 (.nilchk (.t 12)) 1, oQ 14 (.fadr 1 1 (.t 13)) 3, oR 15 14 7, oM 16 0 0, oQ 17 (.nilchk (.t 16)) 16, oQ 18 (.fadr 2 1 (.t 17)) 48, oR 19 18 112, oQ 20 (.build [.bool false, (.int .i64 (.ofNat 0)), (.int .i64 (.ofNat 0)), .nilslc, .nilslc, .nilslc] [⟨0, ⟨1, (.c (.bool true))⟩⟩, ⟨1, ⟨1, .t 15⟩⟩, ⟨2, ⟨1, .t 19⟩⟩]) 255, ⟨some 21, (.a (.box (.t 20))), none, 511⟩, oM 3 21 1023]
def r31_4 : List AOper := [oM 22 0 0, oQ 23 (.nilchk (.t 22)) 1, oQ 24 (.fadr 3 1 (.t 23)) 3, oR 25 24 7, oQ 26 (.len false (.t 25)) 15, oC 27 (.int .i64 (.ofNat 0)) 0]
def r31_5 : List AOper := [oQ 28 (.bin .lss (.t 27) (.t 26)) 0]
def r31_6 : List AOper := [oQ 29 (.iadr 1 (.t 25) (.t 27)) 0, oR 30 29 1, oM 5 30 3]
def r31_7 : List AOper := [⟨some 31, .a .mkmap, none, 0⟩, oM 6 31 1]
def r31_8 : List AOper := [oM 32 5 0, ⟨some 33, (.e (.rng false (.t 32))), none, 1⟩]
def r31_9 : List AOper := [⟨some 34, (.e (.next false (.t 33))), none, 0⟩, oE 35 34 0 1]
def r31_10 : List AOper := [⟨some 36, (.r .ment (.t 33) (.t 33)), none, 0⟩, oE 37 36 0 1, oE 38 36 1 1, ⟨some 7, (.a (.alloc [(.int .i64 (.ofNat 0)), (.int .i64 (.ofNat 0)), .str []])), none, 0⟩, ⟨some 8, (.a (.alloc [(.int .i64 (.ofNat 0)), (.int .i64 (.ofNat 0)), .str []])), none, 0⟩, ⟨none, (.e (.store 3 (.t 7) (.t 37))), none, 27⟩, ⟨none, (.e (.store 3 (.t 8) (.t 38))), none, 63⟩]
def r31_11 : List AOper := [oM 39 6 0, ⟨some 40, (.r (.loadn 3) (.t 7) (.t 7)), none, 0⟩, ⟨some 41, (.r (.loadn 3) (.t 8) (.t 8)), none, 0⟩, ⟨none, (.e (.mupd true [.i, .i, .s] (.t 39) (.t 40) (.t 41))), none, 7⟩]
def r31_12 : List AOper := [oM 42 3 0, oM 43 3 0, oQ 44 (.nilchk (.t 43)) 2, oQ 45 (.fadr 3 1 (.t 44)) 6, oR 46 45 14, oM 47 6 0, ⟨some 48, (.a (.lits 1 1 [.nilmap] [⟨0, ⟨1, .t 47⟩⟩])), none, 32⟩, ⟨some 49, (.e (.append 1 8 (.t 46) (.t 48))), none, 126⟩, oQ 50 (.nilchk (.t 42)) 255, oQ 51 (.fadr 3 1 (.t 50)) 511, ⟨none, (.e (.store 1 (.t 51) (.t 49))), none, 1023⟩]
def r31_13 : List AOper := [oQ 52 (.bin .add (.t 27) (oI 1)) 0, oM 27 52 1]
def r31_14 : List AOper := [oM 53 3 0, oM 54 3 0, oQ 55 (.nilchk (.t 54)) 2, oQ 56 (.fadr 4 1 (.t 55)) 6, oR 57 56 14, oM 58 0 0, oQ 59 (.nilchk (.t 58)) 32, oQ 60 (.fadr 4 1 (.t 59)) 96, oR 61 60 224, ⟨some 62, (.e (.append 3 40 (.t 57) (.t 61))), none, 510⟩, oQ 63 (.nilchk (.t 53)) 1023, oQ 64 (.fadr 4 1 (.t 63)) 2047, ⟨none, (.e (.store 1 (.t 64) (.t 62))), none, 4095⟩]
def r31_15 : List AOper := [oM 65 3 0, oM 66 3 0, oQ 67 (.nilchk (.t 66)) 2, oQ 68 (.fadr 5 1 (.t 67)) 6, oR 69 68 14, oM 70 0 0, oQ 71 (.nilchk (.t 70)) 32, oQ 72 (.fadr 5 1 (.t 71)) 96, oR 73 72 224, ⟨some 74, (.e (.append 3 32 (.t 69) (.t 73))), none, 510⟩, oQ 75 (.nilchk (.t 65)) 1023, oQ 76 (.fadr 5 1 (.t 75)) 2047, ⟨none, (.e (.store 1 (.t 76) (.t 74))), none, 4095⟩]
def r31_16 : List AOper := [oM 77 3 0, oM 2 77 1]
def b31_0 : ACode := (.seq (.reg r31_9) (.seq (.cond (.t 35) .skip (.ext 2)) (.blk 3 (.seq (.reg r31_10) (.reg r31_11)))))
def b31_1 : ACode := (.seq (.reg r31_5) (.seq (.cond (.t 28) .skip (.ext 0)) (.seq (.blk 1 (.seq (.reg r31_6) (.seq (.reg r31_7) (.seq (.seq (.reg r31_8) (.blk 2 (.loop b31_0))) (.reg r31_12))))) (.reg r31_13))))
def c31 : ACode := (.seq (.reg r31_0) (.seq (.seq (.reg r31_1) (.cond (.t 11) (.seq (.reg r31_2) .ret) .skip)) (.seq (.draw r31_3) (.seq (.seq (.reg r31_4) (.blk 0 (.loop b31_1))) (.seq (.draw r31_14) (.seq (.draw r31_15) (.seq (.reg r31_16) .ret)))))))
def fn31 : AFunc := ⟨78, [(.t 2)], c31⟩
theorem comp31 : comp Try.prog 31 = some fn31 := by kernel_rfl
def r32_0 : List AOper := [oC 2 (.bool false) 0]
def r32_1 : List AOper := [oM 3 0 0, oQ 4 (.eq true .ptrnil (.t 3) (.c .nilptr)) 1, oM 5 4 3, oG 6 (.mov (.t 0)) 5 true 7, oG 7 (.nilchk (.t 6)) 5 true 15, oG 8 (.fadr 0 1 (.t 7)) 5 true 31, ⟨some 9, (.r .load1 (.t 8) (.t 8)), some ⟨5, true⟩, 63⟩, oQ 10 (.pick (.t 5) (.t 9) (.c (.bool false))) 127, oM 2 10 255]
def c32 : ACode := (.seq (.reg r32_0) (.seq (.reg r32_1) .ret))
def fn32 : AFunc := ⟨11, [(.t 2)], c32⟩
theorem comp32 : comp Try.prog 32 = some fn32 := by kernel_rfl
def r33_0 : List AOper := [oC 2 (.int .i64 (.ofNat 0)) 0]
def r33_1 : List AOper := [oM 4 0 0, oK 5 32 [.t 4] 1, oQ 6 (.un .not (.t 5)) 3, oM 3 6 7]
def r33_2 : List AOper := [oC 2 (.int .i64 (.ofNat 12)) 0]
def r33_3 : List AOper := [oM 8 0 0, oQ 9 (.nilchk (.t 8)) 1, oQ 10 (.fadr 2 1 (.t 9)) 3, oR 11 10 7, oM 12 0 0, oQ 13 (.nilchk (.t 12)) 16, oQ 14 (.fadr 1 1 (.t 13)) 48, oR 15 14 112, oQ 16 (.bin .eql (.t 11) (.t 15)) 255, oM 7 16 511]
def r33_4 : List AOper := [oC 2 (.int .i64 (.ofNat 8)) 0]
def r33_5 : List AOper := [oM 17 0 0, oQ 18 (.nilchk (.t 17)) 1, oQ 19 (.fadr 2 1 (.t 18)) 3, oR 20 19 7, oQ 21 (.bin .add (.t 20) (oI 1)) 15, oQ 22 (.nilchk (.t 17)) 31, oQ 23 (.fadr 2 1 (.t 22)) 63, ⟨none, (.e (.store 1 (.t 23) (.t 21))), none, 127⟩]
def r33_6 : List AOper := [oC 2 (.int .i64 (.ofNat 0)) 0]
def c33 : ACode := (.seq (.reg r33_0) (.seq (.blk 0 (.seq (.reg r33_1) (.cond (.t 3) (.seq (.reg r33_2) .ret) (.seq (.draw r33_3) (.cond (.t 7) (.seq (.reg r33_4) .ret) .skip))))) (.seq (.reg r33_5) (.seq (.reg r33_6) .ret))))
def fn33 : AFunc := ⟨24, [(.t 2)], c33⟩
theorem comp33 : comp Try.prog 33 = some fn33 := by kernel_rfl
def r34_0 : List AOper := [⟨some 4, (.a (.box (.t 1))), none, 0⟩, ⟨some 5, (.a (.box (.t 2))), none, 0⟩, oC 6 .nilmap 0, oC 7 (.int .i64 (.ofNat 0)) 4]
def r34_1 : List AOper := [oM 11 0 0, ⟨some 12, (.r (.loadn 3) (.t 4) (.t 4)), none, 0⟩, oK 13 36 [.t 11, .t 12] 3, oM 10 13 7, oE 14 10 0 15, oE 15 10 1 15, oM 8 14 31, oM 9 15 127]
def r34_2 : List AOper := [oM 16 9 0, oQ 17 (.bin .eql (.t 16) (oI 0)) 1, oM 18 17 3, ⟨some 19, (.r (.loadn 3) (.t 5) (.t 5)), some ⟨18, true⟩, 7⟩, ⟨some 20, (.e (.call 52 [.t 19])), some ⟨18, true⟩, 15⟩, oG 21 (.un .not (.t 20)) 18 true 31, oQ 22 (.pick (.t 18) (.t 21) (.c (.bool false))) 63]
def r34_3 : List AOper := [oC 9 (.int .i64 (.ofNat 4)) 0]
def r34_4 : List AOper := [oM 23 8 0, oM 24 9 0, oM 6 23 1, oM 7 24 7]
def c34 : ACode := (.seq (.reg r34_0) (.seq (.reg r34_1) (.seq (.seq (.reg r34_2) (.cond (.t 22) (.reg r34_3) .skip)) (.seq (.reg r34_4) .ret))))
def fn34 : AFunc := ⟨25, [(.t 6), (.t 7)], c34⟩
theorem comp34 : comp Try.prog 34 = some fn34 := by kernel_rfl
def r35_0 : List AOper := [⟨some 2, (.a (.alloc [(.int .i64 (.ofNat 0)), (.int .i64 (.ofNat 0)), .str []])), none, 0⟩]
def r35_1 : List AOper := [oM 3 0 0, oQ 4 (.build [(.int .i64 (.ofNat 0)), (.int .i64 (.ofNat 0)), .str []] [⟨0, ⟨1, oI 2⟩⟩, ⟨2, ⟨1, .t 3⟩⟩]) 1, ⟨none, (.e (.store 3 (.t 2) (.t 4))), none, 3⟩]
def c35 : ACode := (.seq (.reg r35_0) (.seq (.reg r35_1) .ret))
def fn35 : AFunc := ⟨5, [(.cn 2 3)], c35⟩
theorem comp35 : comp Try.prog 35 = some fn35 := by kernel_rfl
def r36_0 : List AOper := [⟨some 3, (.a (.box (.t 1))), none, 0⟩, oC 4 .nilmap 0, oC 5 (.int .i64 (.ofNat 0)) 2]
def r36_1 : List AOper := [oM 7 0 0, oK 8 32 [.t 7] 1, oQ 9 (.un .not (.t 8)) 3, oM 6 9 7]
def r36_2 : List AOper := [oC 4 .nilmap 0, oC 5 (.int .i64 (.ofNat 12)) 1]
def r36_3 : List AOper := [oQ 11 (.fadr 0 1 (.t 3)) 0, oR 12 11 1, oQ 13 (.bin .neq (.t 12) (oI 3)) 3, oM 14 13 7, oG 15 (.fadr 1 1 (.t 3)) 14 false 15, ⟨some 16, (.r .load1 (.t 15) (.t 15)), some ⟨14, false⟩, 31⟩, oG 17 (.bin .lss (.t 16) (oI 0)) 14 false 63, oQ 18 (.pick (.t 14) (.c (.bool true)) (.t 17)) 127, oM 19 18 255, oG 20 (.fadr 1 1 (.t 3)) 19 false 511, ⟨some 21, (.r .load1 (.t 20) (.t 20)), some ⟨19, false⟩, 1023⟩, oG 22 (.mov (.t 0)) 19 false 511, oG 23 (.nilchk (.t 22)) 19 false 2559, oG 24 (.fadr 3 1 (.t 23)) 19 false 6655, ⟨some 25, (.r .load1 (.t 24) (.t 24)), some ⟨19, false⟩, 14847⟩, oG 26 (.len false (.t 25)) 19 false 31231, oG 27 (.bin .geq (.t 21) (.t 26)) 19 false 65535, oQ 28 (.pick (.t 19) (.c (.bool true)) (.t 27)) 131071, oM 10 28 262143]
def r36_4 : List AOper := [oC 4 .nilmap 0, oC 5 (.int .i64 (.ofNat 1)) 1]
def r36_5 : List AOper := [oM 29 0 0, oQ 30 (.nilchk (.t 29)) 1, oQ 31 (.fadr 3 1 (.t 30)) 3, oR 32 31 7, oQ 33 (.fadr 1 1 (.t 3)) 0, oR 34 33 16, oQ 35 (.iadr 1 (.t 32) (.t 34)) 63, oR 36 35 127, oM 4 36 255, oC 5 (.int .i64 (.ofNat 0)) 511]
def c36 : ACode := (.seq (.reg r36_0) (.seq (.blk 0 (.seq (.reg r36_1) (.cond (.t 6) (.seq (.reg r36_2) .ret) (.seq (.draw r36_3) (.cond (.t 10) (.seq (.reg r36_4) .ret) .skip))))) (.seq (.draw r36_5) .ret)))
def fn36 : AFunc := ⟨37, [(.t 4), (.t 5)], c36⟩
theorem comp36 : comp Try.prog 36 = some fn36 := by kernel_rfl
def r37_0 : List AOper := [⟨some 2, (.a (.box (.t 0))), none, 0⟩, ⟨some 3, (.a (.box (.t 1))), none, 0⟩, oC 4 (.bool false) 0]
def r37_1 : List AOper := [oQ 6 (.fadr 0 1 (.t 2)) 0, oR 7 6 1, oQ 8 (.fadr 0 1 (.t 3)) 0, oR 9 8 4, oQ 10 (.bin .neq (.t 7) (.t 9)) 15, oM 5 10 31]
def r37_2 : List AOper := [oQ 11 (.fadr 0 1 (.t 2)) 0, oR 12 11 1, oQ 13 (.fadr 0 1 (.t 3)) 0, oR 14 13 4, oQ 15 (.bin .lss (.t 12) (.t 14)) 15, oM 4 15 31]
def r37_3 : List AOper := [oQ 17 (.fadr 0 1 (.t 2)) 0, oR 18 17 1, oQ 19 (.bin .eql (.t 18) (oI 1)) 3, oM 16 19 7]
def r37_4 : List AOper := [oQ 20 (.fadr 1 1 (.t 2)) 0, oR 21 20 1, oQ 22 (.fadr 1 1 (.t 3)) 0, oR 23 22 4, oQ 24 (.bin .lss (.t 21) (.t 23)) 15, oM 4 24 31]
def r37_5 : List AOper := [oQ 25 (.fadr 2 1 (.t 2)) 0, oR 26 25 1, oQ 27 (.fadr 2 1 (.t 3)) 0, oR 28 27 4, oQ 29 (.bin .lss (.t 26) (.t 28)) 15, oM 4 29 31]
def c37 : ACode := (.seq (.reg r37_0) (.seq (.blk 0 (.seq (.reg r37_1) (.cond (.t 5) (.seq (.reg r37_2) .ret) (.seq (.reg r37_3) (.cond (.t 16) (.seq (.reg r37_4) .ret) .skip))))) (.seq (.reg r37_5) .ret)))
def fn37 : AFunc := ⟨30, [(.t 4)], c37⟩
theorem comp37 : comp Try.prog 37 = some fn37 := by kernel_rfl
def r39_0 : List AOper := [⟨some 2, (.a (.alloc [(.int .i64 (.ofNat 0)), (.int .i64 (.ofNat 0)), .str []])), none, 0⟩]
def r39_1 : List AOper := [oM 3 0 0]
def r39_2 : List AOper := [oK 4 23 [oI 1] 0, ⟨none, (.e (.store 3 (.t 2) (.t 4))), none, 1⟩]
def r39_3 : List AOper := [oK 5 23 [oI 0] 0, ⟨none, (.e (.store 3 (.t 2) (.t 5))), none, 1⟩]
def c39 : ACode := (.seq (.reg r39_0) (.seq (.seq (.reg r39_1) (.cond (.t 3) (.seq (.reg r39_2) .ret) .skip)) (.seq (.reg r39_3) .ret)))
def fn39 : AFunc := ⟨6, [(.cn 2 3)], c39⟩
theorem comp39 : comp Try.prog 39 = some fn39 := by kernel_rfl
def r40_0 : List AOper := [⟨some 6, (.a (.alloc [(.int .i64 (.ofNat 0)), (.int .i64 (.ofNat 0)), .str []])), none, 0⟩, oC 7 (.int .i64 (.ofNat 0)) 0]
def r40_1 : List AOper := [oM 8 0 0]
def r40_2 : List AOper := [oQ 10 (.bin .eql (.t 8) (.c (.str [43]))) 0, oM 9 10 1]
def r40_3 : List AOper := [oM 11 1 0, oM 12 2 0, oQ 13 (.bin .add (.t 11) (.t 12)) 3, oK 14 23 [.t 13] 7, ⟨none, (.e (.store 3 (.t 6) (.t 14))), none, 15⟩, oC 7 (.int .i64 (.ofNat 0)) 31]
def r40_4 : List AOper := [oQ 16 (.bin .eql (.t 8) (.c (.str [45]))) 0, oM 15 16 1]
def r40_5 : List AOper := [oM 17 1 0, oM 18 2 0, oQ 19 (.bin .sub (.t 17) (.t 18)) 3, oK 20 23 [.t 19] 7, ⟨none, (.e (.store 3 (.t 6) (.t 20))), none, 15⟩, oC 7 (.int .i64 (.ofNat 0)) 31]
def r40_6 : List AOper := [oQ 22 (.bin .eql (.t 8) (.c (.str [42]))) 0, oM 21 22 1]
def r40_7 : List AOper := [oM 23 1 0, oM 24 2 0, oQ 25 (.bin .mul (.t 23) (.t 24)) 3, oK 26 23 [.t 25] 7, ⟨none, (.e (.store 3 (.t 6) (.t 26))), none, 15⟩, oC 7 (.int .i64 (.ofNat 0)) 31]
def r40_8 : List AOper := [oQ 28 (.bin .eql (.t 8) (.c (.str [60]))) 0, oM 27 28 1]
def r40_9 : List AOper := [oM 29 1 0, oM 30 2 0, oQ 31 (.bin .lss (.t 29) (.t 30)) 3, oK 32 39 [.t 31] 7, ⟨none, (.e (.store 3 (.t 6) (.t 32))), none, 15⟩, oC 7 (.int .i64 (.ofNat 0)) 31]
def r40_10 : List AOper := [oQ 34 (.bin .eql (.t 8) (.c (.str [60, 61]))) 0, oM 33 34 1]
def r40_11 : List AOper := [oM 35 1 0, oM 36 2 0, oQ 37 (.bin .leq (.t 35) (.t 36)) 3, oK 38 39 [.t 37] 7, ⟨none, (.e (.store 3 (.t 6) (.t 38))), none, 15⟩, oC 7 (.int .i64 (.ofNat 0)) 31]
def r40_12 : List AOper := [oQ 40 (.bin .eql (.t 8) (.c (.str [46, 46]))) 0, oM 39 40 1]
def r40_13 : List AOper := [oQ 41 (.build [(.int .i64 (.ofNat 0)), (.int .i64 (.ofNat 0)), .str []] []) 0, ⟨none, (.e (.store 3 (.t 6) (.t 41))), none, 1⟩, oC 7 (.int .i64 (.ofNat 1)) 3]
def r40_14 : List AOper := [oM 42 2 0, oQ 43 (.bin .eql (.t 42) (oI 0)) 1]
def r40_15 : List AOper := [oQ 44 (.build [(.int .i64 (.ofNat 0)), (.int .i64 (.ofNat 0)), .str []] []) 0, ⟨none, (.e (.store 3 (.t 6) (.t 44))), none, 1⟩, oC 7 (.int .i64 (.ofNat 2)) 3]
def r40_16 : List AOper := [oM 45 2 0, oQ 46 (.bin .eql (.t 45) (.c (.int .i64 (.negSucc 0)))) 1, oM 47 46 3, oG 48 (.mov (.t 0)) 47 true 7, oG 49 (.bin .eql (.t 48) (.c (.str [47]))) 47 true 15, oQ 50 (.pick (.t 47) (.t 49) (.c (.bool false))) 31]
def r40_17 : List AOper := [oM 51 1 0, oQ 52 (.un .neg (.t 51)) 1, oK 53 23 [.t 52] 3, ⟨none, (.e (.store 3 (.t 6) (.t 53))), none, 7⟩, oC 7 (.int .i64 (.ofNat 0)) 15]
def r40_18 : List AOper := [oM 54 2 0, oQ 55 (.bin .eql (.t 54) (.c (.int .i64 (.negSucc 0)))) 1]
def r40_19 : List AOper := [oK 56 23 [oI 0] 0, ⟨none, (.e (.store 3 (.t 6) (.t 56))), none, 1⟩, oC 7 (.int .i64 (.ofNat 0)) 3]
def r40_20 : List AOper := [oM 57 0 0, oQ 58 (.bin .eql (.t 57) (.c (.str [47]))) 1]
def r40_21 : List AOper := [oM 59 1 0, oM 60 2 0, oQ 61 (.bin .quo (.t 59) (.t 60)) 3, oK 62 23 [.t 61] 7, ⟨none, (.e (.store 3 (.t 6) (.t 62))), none, 15⟩, oC 7 (.int .i64 (.ofNat 0)) 31]
def r40_22 : List AOper := [oM 63 1 0, oM 64 2 0, oQ 65 (.bin .rem (.t 63) (.t 64)) 3, oK 66 23 [.t 65] 7, ⟨none, (.e (.store 3 (.t 6) (.t 66))), none, 15⟩, oC 7 (.int .i64 (.ofNat 0)) 31]
def c40 : ACode := (.seq (.reg r40_0) (.seq (.seq (.reg r40_1) (.blk 0 (.seq (.reg r40_2) (.cond (.t 9) (.seq (.reg r40_3) .ret) (.seq (.reg r40_4) (.cond (.t 15) (.seq (.reg r40_5) .ret) (.seq (.reg r40_6) (.cond (.t 21) (.seq (.reg r40_7) .ret) (.seq (.reg r40_8) (.cond (.t 27) (.seq (.reg r40_9) .ret) (.seq (.reg r40_10) (.cond (.t 33) (.seq (.reg r40_11) .ret) (.seq (.reg r40_12) (.cond (.t 39) (.seq (.reg r40_13) .ret) .skip)))))))))))))) (.seq (.seq (.reg r40_14) (.cond (.t 43) (.seq (.reg r40_15) .ret) .skip)) (.seq (.seq (.reg r40_16) (.cond (.t 50) (.seq (.reg r40_17) .ret) .skip)) (.seq (.seq (.reg r40_18) (.cond (.t 55) (.seq (.reg r40_19) .ret) .skip)) (.seq (.seq (.reg r40_20) (.cond (.t 58) (.seq (.reg r40_21) .ret) .skip)) (.seq (.reg r40_22) .ret)))))))
def fn40 : AFunc := ⟨67, [(.cn 6 3), (.t 7)], c40⟩
theorem comp40 : comp Try.prog 40 = some fn40 := by kernel_rfl
def r41_0 : List AOper := [⟨some 6, (.a (.alloc [(.int .i64 (.ofNat 0)), (.int .i64 (.ofNat 0)), .str []])), none, 0⟩, oC 7 (.int .i64 (.ofNat 0)) 0]
def r41_1 : List AOper := [oM 8 0 0]
def r41_2 : List AOper := [oQ 10 (.bin .eql (.t 8) (.c (.str [46, 46]))) 0, oM 9 10 1]
def r41_3 : List AOper := [oM 11 1 0, oQ 12 (.len true (.t 11)) 1, oQ 13 (.bin .gtr (.t 12) (oI 1024)) 3, oM 14 13 7, oG 15 (.mov (.t 2)) 14 false 15, oG 16 (.len true (.t 15)) 14 false 31, oG 17 (.bin .gtr (.t 16) (oI 1024)) 14 false 63, oQ 18 (.pick (.t 14) (.c (.bool true)) (.t 17)) 127, oM 19 18 255, oG 20 (.mov (.t 1)) 19 false 511, oG 21 (.len true (.t 20)) 19 false 1023, oG 22 (.mov (.t 2)) 19 false 511, oG 23 (.len true (.t 22)) 19 false 2559, oG 24 (.bin .add (.t 21) (.t 23)) 19 false 8191, oG 25 (.bin .gtr (.t 24) (oI 1024)) 19 false 16383, oQ 26 (.pick (.t 19) (.c (.bool true)) (.t 25)) 32767]
def r41_4 : List AOper := [oQ 27 (.build [(.int .i64 (.ofNat 0)), (.int .i64 (.ofNat 0)), .str []] []) 0, ⟨none, (.e (.store 3 (.t 6) (.t 27))), none, 1⟩, oC 7 (.int .i64 (.ofNat 3)) 3]
def r41_5 : List AOper := [oM 28 1 0, oM 29 2 0, oQ 30 (.bin .add (.t 28) (.t 29)) 3, oK 31 35 [.t 30] 7, ⟨none, (.e (.store 3 (.t 6) (.t 31))), none, 15⟩, oC 7 (.int .i64 (.ofNat 0)) 31]
def r41_6 : List AOper := [oQ 33 (.bin .eql (.t 8) (.c (.str [60]))) 0, oM 32 33 1]
def r41_7 : List AOper := [oM 34 1 0, oM 35 2 0, oK 36 53 [.t 34, .t 35] 3, oK 37 39 [.t 36] 7, ⟨none, (.e (.store 3 (.t 6) (.t 37))), none, 15⟩, oC 7 (.int .i64 (.ofNat 0)) 31]
def r41_8 : List AOper := [oQ 39 (.bin .eql (.t 8) (.c (.str [60, 61]))) 0, oM 38 39 1]
def r41_9 : List AOper := [oM 40 2 0, oM 41 1 0, oK 42 53 [.t 40, .t 41] 3, oQ 43 (.un .not (.t 42)) 7, oK 44 39 [.t 43] 15, ⟨none, (.e (.store 3 (.t 6) (.t 44))), none, 31⟩, oC 7 (.int .i64 (.ofNat 0)) 63]
def r41_10 : List AOper := [oQ 45 (.build [(.int .i64 (.ofNat 0)), (.int .i64 (.ofNat 0)), .str []] []) 0, ⟨none, (.e (.store 3 (.t 6) (.t 45))), none, 1⟩, oC 7 (.int .i64 (.ofNat 1)) 3]
def c41 : ACode := (.seq (.reg r41_0) (.seq (.seq (.reg r41_1) (.blk 0 (.seq (.reg r41_2) (.cond (.t 9) (.seq (.seq (.reg r41_3) (.cond (.t 26) (.seq (.reg r41_4) .ret) .skip)) (.seq (.reg r41_5) .ret)) (.seq (.reg r41_6) (.cond (.t 32) (.seq (.reg r41_7) .ret) (.seq (.reg r41_8) (.cond (.t 38) (.seq (.reg r41_9) .ret) .skip)))))))) (.seq (.reg r41_10) .ret)))
def fn41 : AFunc := ⟨46, [(.cn 6 3), (.t 7)], c41⟩
theorem comp41 : comp Try.prog 41 = some fn41 := by kernel_rfl
def r42_0 : List AOper := [oC 4 (.bool false) 0]
def r42_1 : List AOper := [oM 5 0 0, oK 6 32 [.t 5] 1, oM 7 6 3, oG 8 (.mov (.t 1)) 7 true 7, oG 9 (.bin .geq (.t 8) (oI 0)) 7 true 15, oQ 10 (.pick (.t 7) (.t 9) (.c (.bool false))) 31, oM 11 10 63, oG 12 (.mov (.t 1)) 11 true 127, oG 13 (.mov (.t 0)) 11 true 127, oG 14 (.nilchk (.t 13)) 11 true 383, oG 15 (.fadr 5 1 (.t 14)) 11 true 895, ⟨some 16, (.r .load1 (.t 15) (.t 15)), some ⟨11, true⟩, 1919⟩, oG 17 (.len false (.t 16)) 11 true 3967, oG 18 (.bin .lss (.t 12) (.t 17)) 11 true 8191, oQ 19 (.pick (.t 11) (.t 18) (.c (.bool false))) 16383, oM 4 19 32767]
def c42 : ACode := (.seq (.reg r42_0) (.seq (.reg r42_1) .ret))
def fn42 : AFunc := ⟨20, [(.t 4)], c42⟩
theorem comp42 : comp Try.prog 42 = some fn42 := by kernel_rfl
def r43_0 : List AOper := [⟨some 5, (.a (.box (.t 2))), none, 0⟩, oC 6 (.bool false) 0]
def r43_1 : List AOper := [oQ 17 (.fadr 0 1 (.t 5)) 0, oR 18 17 1]
def r43_2 : List AOper := [oQ 20 (.bin .eql (.t 18) (oI 0)) 0, oM 19 20 1]
def r43_3 : List AOper := [oM 22 0 0, oK 23 12 [.t 22] 1, oM 21 23 3, oE 24 21 0 7, oE 25 21 1 7, ⟨some 7, (.a (.alloc [(.int .i64 (.ofNat 0)), (.int .i64 (.ofNat 0)), .str []])), none, 0⟩, ⟨none, (.e (.store 3 (.t 7) (.t 24))), none, 47⟩, oM 8 25 127]
def r43_4 : List AOper := [oM 27 1 0, oK 28 54 [.t 27] 1, oM 26 28 3, oE 29 26 0 7, oE 30 26 1 7, ⟨some 9, (.a (.alloc [(.int .i64 (.ofNat 0)), (.int .i64 (.ofNat 0)), .str []])), none, 0⟩, ⟨none, (.e (.store 3 (.t 9) (.t 29))), none, 47⟩, oM 10 30 127]
def r43_5 : List AOper := [⟨some 31, (.r (.loadn 3) (.t 7) (.t 7)), none, 0⟩, ⟨some 32, (.r (.loadn 3) (.t 9) (.t 9)), none, 0⟩, oQ 33 (.eq false (.flat true [.i, .i, .s]) (.t 31) (.t 32)) 3, oM 34 33 7, oG 35 (.mov (.t 8)) 34 true 15, oG 36 (.mov (.t 10)) 34 true 15, oG 37 (.bin .eql (.t 35) (.t 36)) 34 true 63, oQ 38 (.pick (.t 34) (.t 37) (.c (.bool false))) 127, oM 6 38 255]
def r43_6 : List AOper := [oQ 40 (.bin .eql (.t 18) (oI 4)) 0, oM 39 40 1]
def r43_7 : List AOper := [oC 11 .nilslc 0]
def r43_8 : List AOper := [oM 41 11 0, oQ 42 (.fadr 10 3 (.t 5)) 0, oQ 43 (.fadr 2 1 (.t 42)) 2, oR 44 43 6, ⟨some 45, (.e (.append 1 8 (.t 41) (.t 44))), none, 15⟩, oM 11 45 31]
def r43_9 : List AOper := [oM 47 0 0, oQ 48 (.fadr 10 3 (.t 5)) 0, oQ 49 (.fadr 0 1 (.t 48)) 2, oR 50 49 6, oQ 51 (.fadr 10 3 (.t 5)) 0, oQ 52 (.fadr 1 1 (.t 51)) 16, oR 53 52 48, oM 54 11 0, oQ 55 (.build [(.int .i64 (.ofNat 0)), (.int .i64 (.ofNat 0)), .nilslc] [⟨0, ⟨1, .t 50⟩⟩, ⟨1, ⟨1, .t 53⟩⟩, ⟨2, ⟨1, .t 54⟩⟩]) 254, oK 56 13 [.t 47, .t 55] 511, oM 46 56 1023, oE 57 46 0 2047, oE 58 46 1 2047, ⟨some 12, (.a (.alloc [(.int .i64 (.ofNat 0)), (.int .i64 (.ofNat 0)), .str []])), none, 0⟩, ⟨none, (.e (.store 3 (.t 12) (.t 57))), none, 12287⟩, oM 13 58 32767]
def r43_10 : List AOper := [oM 60 1 0, oQ 61 (.fadr 10 3 (.t 5)) 0, ⟨some 62, (.r (.loadn 3) (.t 61) (.t 61)), none, 2⟩, oK 63 55 [.t 60, .t 62] 7, oM 59 63 15, oE 64 59 0 31, oE 65 59 1 31, ⟨some 14, (.a (.alloc [(.int .i64 (.ofNat 0)), (.int .i64 (.ofNat 0)), .str []])), none, 0⟩, ⟨none, (.e (.store 3 (.t 14) (.t 64))), none, 191⟩, oM 15 65 511]
def r43_11 : List AOper := [oC 16 (.int .i64 (.ofNat 0)) 0]
def r43_12 : List AOper := [oM 66 16 0, oM 67 11 0, oQ 68 (.len false (.t 67)) 2, oQ 69 (.bin .lss (.t 66) (.t 68)) 7]
def r43_13 : List AOper := [oM 72 11 0, oM 73 16 0, oQ 74 (.iadr 1 (.t 72) (.t 73)) 3, ⟨none, (.e (.store 1 (.t 74) (.c (.int .i64 (.negSucc 6))))), none, 7⟩]
def r43_14 : List AOper := [oM 70 16 0, oQ 71 (.bin .add (.t 70) (oI 1)) 1, oM 16 71 3]
def r43_15 : List AOper := [⟨some 75, (.r (.loadn 3) (.t 12) (.t 12)), none, 0⟩, ⟨some 76, (.r (.loadn 3) (.t 14) (.t 14)), none, 0⟩, oQ 77 (.eq false (.flat true [.i, .i, .s]) (.t 75) (.t 76)) 3, oM 78 77 7, oG 79 (.mov (.t 13)) 78 true 15, oG 80 (.mov (.t 15)) 78 true 15, oG 81 (.bin .eql (.t 79) (.t 80)) 78 true 63, oQ 82 (.pick (.t 78) (.t 81) (.c (.bool false))) 127, oM 6 82 255]
def r43_16 : List AOper := [oM 83 0 0, oQ 84 (.fadr 7 3 (.t 5)) 0, ⟨some 85, (.r (.loadn 3) (.t 84) (.t 84)), none, 2⟩, oK 86 22 [.t 83, .t 85] 7, oM 87 1 0, oQ 88 (.fadr 7 3 (.t 5)) 0, ⟨some 89, (.r (.loadn 3) (.t 88) (.t 88)), none, 32⟩, oK 90 56 [.t 87, .t 89] 127, oQ 91 (.bin .eql (.t 86) (.t 90)) 255, oM 6 91 511]
def b43_0 : ACode := (.seq (.seq (.reg r43_12) (.cond (.t 69) .skip (.ext 1))) (.seq (.blk 2 (.reg r43_13)) (.reg r43_14)))
def c43 : ACode := (.seq (.reg r43_0) (.seq (.seq (.reg r43_1) (.blk 0 (.seq (.reg r43_2) (.cond (.t 19) (.seq (.reg r43_3) (.seq (.reg r43_4) (.seq (.reg r43_5) .ret))) (.seq (.reg r43_6) (.cond (.t 39) (.seq (.reg r43_7) (.seq (.reg r43_8) (.seq (.reg r43_9) (.seq (.reg r43_10) (.seq (.seq (.reg r43_11) (.blk 1 (.loop b43_0))) (.seq (.reg r43_15) .ret)))))) .skip)))))) (.seq (.draw r43_16) .ret)))
def fn43 : AFunc := ⟨92, [(.t 6)], c43⟩
theorem comp43 : comp Try.prog 43 = some fn43 := by kernel_rfl
def r44_0 : List AOper := [⟨some 5, (.a (.box (.t 1))), none, 0⟩, ⟨some 6, (.a (.box (.t 2))), none, 0⟩, ⟨some 7, (.a (.box (.t 3))), none, 0⟩, oC 8 (.int .i64 (.ofNat 0)) 0]
def r44_1 : List AOper := [oM 15 0 0, ⟨some 16, (.r (.loadn 3) (.t 5) (.t 5)), none, 0⟩, oK 17 57 [.t 15, .t 16] 3, oM 9 17 7]
def r44_2 : List AOper := [oM 18 9 0, oQ 19 (.eq false .ptrnil (.t 18) (.c .nilptr)) 1]
def r44_3 : List AOper := [oC 8 (.int .i64 (.ofNat 1)) 0]
def r44_4 : List AOper := [⟨some 20, (.r (.loadn 3) (.t 6) (.t 6)), none, 0⟩, oK 21 16 [.t 20] 1, oQ 22 (.un .not (.t 21)) 3]
def r44_5 : List AOper := [oC 8 (.int .i64 (.ofNat 4)) 0]
def r44_6 : List AOper := [oC 10 .nilslc 0]
def r44_7 : List AOper := [oC 11 (.bool false) 0]
def r44_8 : List AOper := [oC 12 (.int .i64 (.ofNat 0)) 0]
def r44_9 : List AOper := [oM 23 12 0, oM 24 9 0, oQ 25 (.nilchk (.t 24)) 2, oQ 26 (.fadr 0 1 (.t 25)) 6, oR 27 26 14, oQ 28 (.len false (.t 27)) 30, oQ 29 (.bin .lss (.t 23) (.t 28)) 63]
def r44_10 : List AOper := [oM 32 9 0, oQ 33 (.nilchk (.t 32)) 1, oQ 34 (.fadr 0 1 (.t 33)) 3, oR 35 34 7, oM 36 12 0, oQ 37 (.iadr 6 (.t 35) (.t 36)) 31, oQ 38 (.fadr 0 3 (.t 37)) 63, ⟨some 39, (.r (.loadn 3) (.t 38) (.t 38)), none, 127⟩, ⟨some 40, (.r (.loadn 3) (.t 6) (.t 6)), none, 0⟩, oQ 41 (.eq false (.flat true [.i, .i, .s]) (.t 39) (.t 40)) 511]
def r44_11 : List AOper := [oC 11 (.bool true) 0]
def r44_12 : List AOper := [oM 30 12 0, oQ 31 (.bin .add (.t 30) (oI 1)) 1, oM 12 31 3]
def r44_13 : List AOper := [oQ 42 (.fadr 0 1 (.t 7)) 0, oR 43 42 1, oQ 44 (.bin .neq (.t 43) (oI 0)) 3, oM 45 44 7, oG 46 (.mov (.t 11)) 45 true 15, oG 47 (.un .not (.t 46)) 45 true 31, oQ 48 (.pick (.t 45) (.t 47) (.c (.bool false))) 63, oM 49 48 127, oG 50 (.mov (.t 0)) 49 true 255, oG 51 (.nilchk (.t 50)) 49 true 511, oG 52 (.fadr 3 1 (.t 51)) 49 true 1023, ⟨some 53, (.r .load1 (.t 52) (.t 52)), some ⟨49, true⟩, 2047⟩, oG 54 (.mov (.t 0)) 49 true 255, oG 55 (.nilchk (.t 54)) 49 true 4351, oG 56 (.fadr 4 1 (.t 55)) 49 true 12543, ⟨some 57, (.r .load1 (.t 56) (.t 56)), some ⟨49, true⟩, 28927⟩, oG 58 (.bin .geq (.t 53) (.t 57)) 49 true 65535, oQ 59 (.pick (.t 49) (.t 58) (.c (.bool false))) 131071]
def r44_14 : List AOper := [oC 8 (.int .i64 (.ofNat 8)) 0]
def r44_15 : List AOper := [oQ 60 (.fadr 0 1 (.t 7)) 0, oR 61 60 1, oQ 62 (.bin .eql (.t 61) (oI 0)) 3, oM 13 62 7]
def r44_16 : List AOper := [oC 14 (.int .i64 (.ofNat 0)) 0]
def r44_17 : List AOper := [oM 63 14 0, oM 64 9 0, oQ 65 (.nilchk (.t 64)) 2, oQ 66 (.fadr 0 1 (.t 65)) 6, oR 67 66 14, oQ 68 (.len false (.t 67)) 30, oQ 69 (.bin .lss (.t 63) (.t 68)) 63]
def r44_18 : List AOper := [oM 72 13 0, oQ 73 (.un .not (.t 72)) 1, oM 74 73 3, oG 75 (.mov (.t 9)) 74 true 7, oG 76 (.nilchk (.t 75)) 74 true 15, oG 77 (.fadr 0 1 (.t 76)) 74 true 31, ⟨some 78, (.r .load1 (.t 77) (.t 77)), some ⟨74, true⟩, 63⟩, oG 79 (.mov (.t 14)) 74 true 7, oG 80 (.iadr 6 (.t 78) (.t 79)) 74 true 255, oG 81 (.fadr 0 3 (.t 80)) 74 true 511, ⟨some 82, (.r (.loadn 3) (.t 81) (.t 81)), some ⟨74, true⟩, 1023⟩, ⟨some 83, (.r (.loadn 3) (.t 6) (.t 6)), some ⟨74, true⟩, 7⟩, ⟨some 84, (.e (.call 58 [.t 82, .t 83])), some ⟨74, true⟩, 4095⟩, oG 85 (.un .not (.t 84)) 74 true 8191, oQ 86 (.pick (.t 74) (.t 85) (.c (.bool false))) 16383]
def r44_19 : List AOper := [oM 87 10 0, ⟨some 88, (.r (.loadn 3) (.t 6) (.t 6)), none, 0⟩, ⟨some 89, (.r (.loadn 3) (.t 7) (.t 7)), none, 0⟩, oQ 90 (.build [(.int .i64 (.ofNat 0)), (.int .i64 (.ofNat 0)), .str [], (.int .i64 (.ofNat 0)), (.int .i64 (.ofNat 0)), .str []] [⟨0, ⟨3, .t 88⟩⟩, ⟨3, ⟨3, .t 89⟩⟩]) 6, ⟨some 91, (.a (.lits 1 6 [(.int .i64 (.ofNat 0)), (.int .i64 (.ofNat 0)), .str [], (.int .i64 (.ofNat 0)), (.int .i64 (.ofNat 0)), .str []] [⟨0, ⟨6, .t 90⟩⟩])), none, 14⟩, ⟨some 92, (.e (.append 6 64 (.t 87) (.t 91))), none, 31⟩, oM 10 92 63]
def r44_20 : List AOper := [oC 13 (.bool true) 0]
def r44_21 : List AOper := [oM 93 9 0, oQ 94 (.nilchk (.t 93)) 1, oQ 95 (.fadr 0 1 (.t 94)) 3, oR 96 95 7, oM 97 14 0, oQ 98 (.iadr 6 (.t 96) (.t 97)) 31, oQ 99 (.fadr 0 3 (.t 98)) 63, ⟨some 100, (.r (.loadn 3) (.t 99) (.t 99)), none, 127⟩, ⟨some 101, (.r (.loadn 3) (.t 6) (.t 6)), none, 0⟩, oQ 102 (.eq true (.flat true [.i, .i, .s]) (.t 100) (.t 101)) 511]
def r44_22 : List AOper := [oM 103 10 0, oM 104 9 0, oQ 105 (.nilchk (.t 104)) 2, oQ 106 (.fadr 0 1 (.t 105)) 6, oR 107 106 14, oM 108 14 0, oQ 109 (.iadr 6 (.t 107) (.t 108)) 62, ⟨some 110, (.r (.loadn 6) (.t 109) (.t 109)), none, 126⟩, ⟨some 111, (.a (.lits 1 6 [(.int .i64 (.ofNat 0)), (.int .i64 (.ofNat 0)), .str [], (.int .i64 (.ofNat 0)), (.int .i64 (.ofNat 0)), .str []] [⟨0, ⟨6, .t 110⟩⟩])), none, 254⟩, ⟨some 112, (.e (.append 6 64 (.t 103) (.t 111))), none, 511⟩, oM 10 112 1023]
def r44_23 : List AOper := [oM 70 14 0, oQ 71 (.bin .add (.t 70) (oI 1)) 1, oM 14 71 3]
def r44_24 : List AOper := [oM 113 13 0, oQ 114 (.un .not (.t 113)) 1]
def r44_25 : List AOper := [oM 115 10 0, ⟨some 116, (.r (.loadn 3) (.t 6) (.t 6)), none, 0⟩, ⟨some 117, (.r (.loadn 3) (.t 7) (.t 7)), none, 0⟩, oQ 118 (.build [(.int .i64 (.ofNat 0)), (.int .i64 (.ofNat 0)), .str [], (.int .i64 (.ofNat 0)), (.int .i64 (.ofNat 0)), .str []] [⟨0, ⟨3, .t 116⟩⟩, ⟨3, ⟨3, .t 117⟩⟩]) 6, ⟨some 119, (.a (.lits 1 6 [(.int .i64 (.ofNat 0)), (.int .i64 (.ofNat 0)), .str [], (.int .i64 (.ofNat 0)), (.int .i64 (.ofNat 0)), .str []] [⟨0, ⟨6, .t 118⟩⟩])), none, 14⟩, ⟨some 120, (.e (.append 6 64 (.t 115) (.t 119))), none, 31⟩, oM 10 120 63]
def r44_26 : List AOper := [oM 121 0 0, oM 122 0 0, oQ 123 (.nilchk (.t 122)) 2, oQ 124 (.fadr 3 1 (.t 123)) 6, oR 125 124 14, oM 126 10 0, oQ 127 (.len false (.t 126)) 32, oQ 128 (.bin .add (.t 125) (.t 127)) 126, oM 129 9 0, oQ 130 (.nilchk (.t 129)) 256, oQ 131 (.fadr 0 1 (.t 130)) 768, oR 132 131 1792, oQ 133 (.len false (.t 132)) 3840, oQ 134 (.bin .sub (.t 128) (.t 133)) 8190, oQ 135 (.nilchk (.t 121)) 16383, oQ 136 (.fadr 3 1 (.t 135)) 32767, ⟨none, (.e (.store 1 (.t 136) (.t 134))), none, 65535⟩]
def r44_27 : List AOper := [oM 137 9 0, oM 138 10 0, oQ 139 (.nilchk (.t 137)) 3, oQ 140 (.fadr 0 1 (.t 139)) 7, ⟨none, (.e (.store 1 (.t 140) (.t 138))), none, 15⟩]
def r44_28 : List AOper := [oC 8 (.int .i64 (.ofNat 0)) 0]
def b44_0 : ACode := (.seq (.seq (.reg r44_9) (.cond (.t 29) .skip (.ext 0))) (.seq (.blk 1 (.seq (.draw r44_10) (.cond (.t 41) (.reg r44_11) .skip))) (.reg r44_12)))
def b44_1 : ACode := (.seq (.seq (.reg r44_17) (.cond (.t 69) .skip (.ext 2))) (.seq (.blk 3 (.seq (.seq (.draw r44_18) (.cond (.t 86) (.seq (.reg r44_19) (.reg r44_20)) .skip)) (.seq (.draw r44_21) (.cond (.t 102) (.reg r44_22) .skip)))) (.reg r44_23)))
def c44 : ACode := (.seq (.reg r44_0) (.seq (.reg r44_1) (.seq (.seq (.reg r44_2) (.cond (.t 19) (.seq (.reg r44_3) .ret) .skip)) (.seq (.seq (.reg r44_4) (.cond (.t 22) (.seq (.reg r44_5) .ret) .skip)) (.seq (.reg r44_6) (.seq (.reg r44_7) (.seq (.seq (.reg r44_8) (.blk 0 (.loop b44_0))) (.seq (.seq (.draw r44_13) (.cond (.t 59) (.seq (.reg r44_14) .ret) .skip)) (.seq (.reg r44_15) (.seq (.seq (.reg r44_16) (.blk 2 (.loop b44_1))) (.seq (.seq (.reg r44_24) (.cond (.t 114) (.reg r44_25) .skip)) (.seq (.draw r44_26) (.seq (.reg r44_27) (.seq (.reg r44_28) .ret))))))))))))))
def fn44 : AFunc := ⟨141, [(.t 8)], c44⟩
theorem comp44 : comp Try.prog 44 = some fn44 := by kernel_rfl
def r45_0 : List AOper := [⟨some 4, (.a (.box (.t 1))), none, 0⟩, ⟨some 5, (.a (.box (.t 2))), none, 0⟩, ⟨some 6, (.a (.alloc [(.int .i64 (.ofNat 0)), (.int .i64 (.ofNat 0)), .str []])), none, 0⟩, oC 7 (.int .i64 (.ofNat 0)) 0]
def r45_1 : List AOper := [oM 10 0 0, ⟨some 11, (.r (.loadn 3) (.t 4) (.t 4)), none, 0⟩, oK 12 57 [.t 10, .t 11] 3, oM 8 12 7]
def r45_2 : List AOper := [oM 13 8 0, oQ 14 (.eq false .ptrnil (.t 13) (.c .nilptr)) 1]
def r45_3 : List AOper := [oQ 15 (.build [(.int .i64 (.ofNat 0)), (.int .i64 (.ofNat 0)), .str []] []) 0, ⟨none, (.e (.store 3 (.t 6) (.t 15))), none, 1⟩, oC 7 (.int .i64 (.ofNat 1)) 3]
def r45_4 : List AOper := [⟨some 16, (.r (.loadn 3) (.t 5) (.t 5)), none, 0⟩, oK 17 16 [.t 16] 1, oQ 18 (.un .not (.t 17)) 3]
def r45_5 : List AOper := [oQ 19 (.build [(.int .i64 (.ofNat 0)), (.int .i64 (.ofNat 0)), .str []] []) 0, ⟨none, (.e (.store 3 (.t 6) (.t 19))), none, 1⟩, oC 7 (.int .i64 (.ofNat 4)) 3]
def r45_6 : List AOper := [oC 9 (.int .i64 (.ofNat 0)) 0]
def r45_7 : List AOper := [oM 20 9 0, oM 21 8 0, oQ 22 (.nilchk (.t 21)) 2, oQ 23 (.fadr 0 1 (.t 22)) 6, oR 24 23 14, oQ 25 (.len false (.t 24)) 30, oQ 26 (.bin .lss (.t 20) (.t 25)) 63]
def r45_8 : List AOper := [oM 29 8 0, oQ 30 (.nilchk (.t 29)) 1, oQ 31 (.fadr 0 1 (.t 30)) 3, oR 32 31 7, oM 33 9 0, oQ 34 (.iadr 6 (.t 32) (.t 33)) 31, oQ 35 (.fadr 0 3 (.t 34)) 63, ⟨some 36, (.r (.loadn 3) (.t 35) (.t 35)), none, 127⟩, ⟨some 37, (.r (.loadn 3) (.t 5) (.t 5)), none, 0⟩, oQ 38 (.eq false (.flat true [.i, .i, .s]) (.t 36) (.t 37)) 511]
def r45_9 : List AOper := [oM 39 8 0, oQ 40 (.nilchk (.t 39)) 1, oQ 41 (.fadr 0 1 (.t 40)) 3, oR 42 41 7, oM 43 9 0, oQ 44 (.iadr 6 (.t 42) (.t 43)) 31, oQ 45 (.fadr 3 3 (.t 44)) 63, ⟨some 46, (.r (.loadn 3) (.t 45) (.t 45)), none, 127⟩, ⟨none, (.e (.store 3 (.t 6) (.t 46))), none, 255⟩, oC 7 (.int .i64 (.ofNat 0)) 511]
def r45_10 : List AOper := [oM 27 9 0, oQ 28 (.bin .add (.t 27) (oI 1)) 1, oM 9 28 3]
def r45_11 : List AOper := [oQ 47 (.build [(.int .i64 (.ofNat 0)), (.int .i64 (.ofNat 0)), .str []] []) 0, ⟨none, (.e (.store 3 (.t 6) (.t 47))), none, 1⟩, oC 7 (.int .i64 (.ofNat 0)) 3]
def b45_0 : ACode := (.seq (.seq (.reg r45_7) (.cond (.t 26) .skip (.ext 0))) (.seq (.blk 1 (.seq (.draw r45_8) (.cond (.t 38) (.seq (.reg r45_9) .ret) .skip))) (.reg r45_10)))
def c45 : ACode := (.seq (.reg r45_0) (.seq (.reg r45_1) (.seq (.seq (.reg r45_2) (.cond (.t 14) (.seq (.reg r45_3) .ret) .skip)) (.seq (.seq (.reg r45_4) (.cond (.t 18) (.seq (.reg r45_5) .ret) .skip)) (.seq (.seq (.reg r45_6) (.blk 0 (.loop b45_0))) (.seq (.reg r45_11) .ret))))))
def fn45 : AFunc := ⟨48, [(.cn 6 3), (.t 7)], c45⟩
theorem comp45 : comp Try.prog 45 = some fn45 := by kernel_rfl
def r46_0 : List AOper := [⟨some 3, (.a (.box (.t 1))), none, 0⟩, oC 4 (.int .i64 (.ofNat 0)) 0, oC 5 (.int .i64 (.ofNat 0)) 2]
def r46_1 : List AOper := [oM 7 0 0, ⟨some 8, (.r (.loadn 3) (.t 3) (.t 3)), none, 0⟩, oK 9 57 [.t 7, .t 8] 3, oM 6 9 7]
def r46_2 : List AOper := [oM 10 6 0, oQ 11 (.eq false .ptrnil (.t 10) (.c .nilptr)) 1]
def r46_3 : List AOper := [oC 4 (.int .i64 (.ofNat 0)) 0, oC 5 (.int .i64 (.ofNat 1)) 1]
def r46_4 : List AOper := [oM 12 6 0, oQ 13 (.nilchk (.t 12)) 1, oQ 14 (.fadr 0 1 (.t 13)) 3, oR 15 14 7, oQ 16 (.len false (.t 15)) 15, oM 4 16 31, oC 5 (.int .i64 (.ofNat 0)) 63]
def c46 : ACode := (.seq (.reg r46_0) (.seq (.reg r46_1) (.seq (.seq (.reg r46_2) (.cond (.t 11) (.seq (.reg r46_3) .ret) .skip)) (.seq (.reg r46_4) .ret))))
def fn46 : AFunc := ⟨17, [(.t 4), (.t 5)], c46⟩
theorem comp46 : comp Try.prog 46 = some fn46 := by kernel_rfl
def r47_0 : List AOper := [oC 4 (.bool false) 0]
def r47_1 : List AOper := [oM 6 0 0, oQ 7 (.len false (.t 6)) 1, oM 8 1 0, oQ 9 (.len false (.t 8)) 4, oQ 10 (.bin .neq (.t 7) (.t 9)) 15]
def r47_2 : List AOper := [oC 4 (.bool false) 0]
def r47_3 : List AOper := [oC 5 (.int .i64 (.ofNat 0)) 0]
def r47_4 : List AOper := [oM 11 5 0, oM 12 0 0, oQ 13 (.len false (.t 12)) 2, oQ 14 (.bin .lss (.t 11) (.t 13)) 7]
def r47_5 : List AOper := [oM 17 0 0, oM 18 5 0, oQ 19 (.iadr 3 (.t 17) (.t 18)) 3, ⟨some 20, (.r (.loadn 3) (.t 19) (.t 19)), none, 7⟩, oM 21 1 0, oM 22 5 0, oQ 23 (.iadr 3 (.t 21) (.t 22)) 48, ⟨some 24, (.r (.loadn 3) (.t 23) (.t 23)), none, 112⟩, oQ 25 (.eq true (.flat true [.i, .i, .s]) (.t 20) (.t 24)) 255]
def r47_6 : List AOper := [oC 4 (.bool false) 0]
def r47_7 : List AOper := [oM 15 5 0, oQ 16 (.bin .add (.t 15) (oI 1)) 1, oM 5 16 3]
def r47_8 : List AOper := [oC 4 (.bool true) 0]
def b47_0 : ACode := (.seq (.seq (.reg r47_4) (.cond (.t 14) .skip (.ext 0))) (.seq (.blk 1 (.seq (.draw r47_5) (.cond (.t 25) (.seq (.reg r47_6) .ret) .skip))) (.reg r47_7)))
def c47 : ACode := (.seq (.reg r47_0) (.seq (.seq (.reg r47_1) (.cond (.t 10) (.seq (.reg r47_2) .ret) .skip)) (.seq (.seq (.reg r47_3) (.blk 0 (.loop b47_0))) (.seq (.reg r47_8) .ret))))
def fn47 : AFunc := ⟨26, [(.t 4)], c47⟩
theorem comp47 : comp Try.prog 47 = some fn47 := by kernel_rfl
def r48_0 : List AOper := [⟨some 3, (.a (.box (.t 1))), none, 0⟩, oC 4 .nilslc 0]
def r48_1 : List AOper := [oM 8 0 0, ⟨some 9, (.r (.loadn 3) (.t 3) (.t 3)), none, 0⟩, oK 10 57 [.t 8, .t 9] 3, oM 5 10 7]
def r48_2 : List AOper := [oC 6 .nilslc 0]
def r48_3 : List AOper := [oC 7 (.int .i64 (.ofNat 0)) 0]
def r48_4 : List AOper := [oM 11 5 0, oQ 12 (.eq true .ptrnil (.t 11) (.c .nilptr)) 1, oM 13 12 3, oG 14 (.mov (.t 7)) 13 true 7, oG 15 (.mov (.t 5)) 13 true 7, oG 16 (.nilchk (.t 15)) 13 true 23, oG 17 (.fadr 0 1 (.t 16)) 13 true 55, ⟨some 18, (.r .load1 (.t 17) (.t 17)), some ⟨13, true⟩, 119⟩, oG 19 (.len false (.t 18)) 13 true 247, oG 20 (.bin .lss (.t 14) (.t 19)) 13 true 511, oQ 21 (.pick (.t 13) (.t 20) (.c (.bool false))) 1023]
def r48_5 : List AOper := [oM 24 6 0, oM 25 5 0, oQ 26 (.nilchk (.t 25)) 2, oQ 27 (.fadr 0 1 (.t 26)) 6, oR 28 27 14, oM 29 7 0, oQ 30 (.iadr 6 (.t 28) (.t 29)) 62, oQ 31 (.fadr 0 3 (.t 30)) 126, ⟨some 32, (.r (.loadn 3) (.t 31) (.t 31)), none, 254⟩, ⟨some 33, (.a (.lits 1 3 [(.int .i64 (.ofNat 0)), (.int .i64 (.ofNat 0)), .str []] [⟨0, ⟨3, .t 32⟩⟩])), none, 510⟩, ⟨some 34, (.e (.append 3 32 (.t 24) (.t 33))), none, 1023⟩, oM 6 34 2047]
def r48_6 : List AOper := [oM 22 7 0, oQ 23 (.bin .add (.t 22) (oI 1)) 1, oM 7 23 3]
def r48_7 : List AOper := [oM 35 6 0, oM 4 35 1]
def b48_0 : ACode := (.seq (.seq (.reg r48_4) (.cond (.t 21) .skip (.ext 0))) (.seq (.blk 1 (.reg r48_5)) (.reg r48_6)))
def c48 : ACode := (.seq (.reg r48_0) (.seq (.reg r48_1) (.seq (.reg r48_2) (.seq (.seq (.reg r48_3) (.blk 0 (.loop b48_0))) (.seq (.reg r48_7) .ret)))))
def fn48 : AFunc := ⟨36, [(.t 4)], c48⟩
theorem comp48 : comp Try.prog 48 = some fn48 := by kernel_rfl
def r49_0 : List AOper := [⟨some 3, (.a (.box (.t 1))), none, 0⟩, ⟨some 4, (.a (.alloc [(.int .i64 (.ofNat 0)), (.int .i64 (.ofNat 0)), .nilslc])), none, 0⟩, oC 5 (.bool false) 0]
def r49_1 : List AOper := [oQ 6 (.fadr 0 1 (.t 3)) 0, oR 7 6 1, oQ 8 (.bin .neq (.t 7) (oI 4)) 3, oM 9 8 7, oG 10 (.fadr 1 1 (.t 3)) 9 false 15, ⟨some 11, (.r .load1 (.t 10) (.t 10)), some ⟨9, false⟩, 31⟩, oG 12 (.bin .lss (.t 11) (oI 0)) 9 false 63, oQ 13 (.pick (.t 9) (.c (.bool true)) (.t 12)) 127, oM 14 13 255, oG 15 (.fadr 1 1 (.t 3)) 14 false 511, ⟨some 16, (.r .load1 (.t 15) (.t 15)), some ⟨14, false⟩, 1023⟩, oG 17 (.mov (.t 0)) 14 false 511, oG 18 (.nilchk (.t 17)) 14 false 2559, oG 19 (.fadr 1 1 (.t 18)) 14 false 6655, ⟨some 20, (.r .load1 (.t 19) (.t 19)), some ⟨14, false⟩, 14847⟩, oG 21 (.len false (.t 20)) 14 false 31231, oG 22 (.bin .geq (.t 16) (.t 21)) 14 false 65535, oQ 23 (.pick (.t 14) (.c (.bool true)) (.t 22)) 131071]
def r49_2 : List AOper := [oQ 24 (.build [(.int .i64 (.ofNat 0)), (.int .i64 (.ofNat 0)), .nilslc] []) 0, ⟨none, (.e (.store 3 (.t 4) (.t 24))), none, 1⟩, oC 5 (.bool false) 3]
def r49_3 : List AOper := [oM 25 0 0, oQ 26 (.nilchk (.t 25)) 1, oQ 27 (.fadr 1 1 (.t 26)) 3, oR 28 27 7, oQ 29 (.fadr 1 1 (.t 3)) 0, oR 30 29 16, oQ 31 (.iadr 3 (.t 28) (.t 30)) 63, ⟨some 32, (.r (.loadn 3) (.t 31) (.t 31)), none, 127⟩, ⟨none, (.e (.store 3 (.t 4) (.t 32))), none, 255⟩, oC 5 (.bool true) 511]
def c49 : ACode := (.seq (.reg r49_0) (.seq (.seq (.draw r49_1) (.cond (.t 23) (.seq (.reg r49_2) .ret) .skip)) (.seq (.draw r49_3) .ret)))
def fn49 : AFunc := ⟨33, [(.cn 4 3), (.t 5)], c49⟩
theorem comp49 : comp Try.prog 49 = some fn49 := by kernel_rfl
def r50_0 : List AOper := [⟨some 5, (.a (.box (.t 2))), none, 0⟩, oC 6 (.bool false) 0]
def r50_1 : List AOper := [oM 7 1 0, oQ 8 (.bin .lss (.t 7) (oI 0)) 1, oM 9 8 3, oG 10 (.mov (.t 1)) 9 false 7, oG 11 (.mov (.t 0)) 9 false 7, oG 12 (.nilchk (.t 11)) 9 false 23, oG 13 (.fadr 2 1 (.t 12)) 9 false 55, ⟨some 14, (.r .load1 (.t 13) (.t 13)), some ⟨9, false⟩, 119⟩, oG 15 (.len false (.t 14)) 9 false 247, oG 16 (.bin .geq (.t 10) (.t 15)) 9 false 511, oQ 17 (.pick (.t 9) (.c (.bool true)) (.t 16)) 1023]
def r50_2 : List AOper := [oC 6 (.bool false) 0]
def r50_3 : List AOper := [oM 18 0 0, oQ 19 (.nilchk (.t 18)) 1, oQ 20 (.fadr 2 1 (.t 19)) 3, oR 21 20 7, oM 22 1 0, ⟨some 23, (.r (.loadn 3) (.t 5) (.t 5)), none, 0⟩, oQ 24 (.iadr 3 (.t 21) (.t 22)) 63, ⟨none, (.e (.store 3 (.t 24) (.t 23))), none, 127⟩]
def r50_4 : List AOper := [oC 6 (.bool true) 0]
def c50 : ACode := (.seq (.reg r50_0) (.seq (.seq (.reg r50_1) (.cond (.t 17) (.seq (.reg r50_2) .ret) .skip)) (.seq (.draw r50_3) (.seq (.reg r50_4) .ret))))
def fn50 : AFunc := ⟨25, [(.t 6)], c50⟩
theorem comp50 : comp Try.prog 50 = some fn50 := by kernel_rfl
def r51_0 : List AOper := [⟨some 4, (.a (.alloc [(.int .i64 (.ofNat 0)), (.int .i64 (.ofNat 0)), .str []])), none, 0⟩, oC 5 (.bool false) 0]
def r51_1 : List AOper := [oM 6 1 0, oQ 7 (.bin .lss (.t 6) (oI 0)) 1, oM 8 7 3, oG 9 (.mov (.t 1)) 8 false 7, oG 10 (.mov (.t 0)) 8 false 7, oG 11 (.nilchk (.t 10)) 8 false 23, oG 12 (.fadr 2 1 (.t 11)) 8 false 55, ⟨some 13, (.r .load1 (.t 12) (.t 12)), some ⟨8, false⟩, 119⟩, oG 14 (.len false (.t 13)) 8 false 247, oG 15 (.bin .geq (.t 9) (.t 14)) 8 false 511, oQ 16 (.pick (.t 8) (.c (.bool true)) (.t 15)) 1023]
def r51_2 : List AOper := [oQ 17 (.build [(.int .i64 (.ofNat 0)), (.int .i64 (.ofNat 0)), .str []] []) 0, ⟨none, (.e (.store 3 (.t 4) (.t 17))), none, 1⟩, oC 5 (.bool false) 3]
def r51_3 : List AOper := [oM 18 0 0, oQ 19 (.nilchk (.t 18)) 1, oQ 20 (.fadr 2 1 (.t 19)) 3, oR 21 20 7, oM 22 1 0, oQ 23 (.iadr 3 (.t 21) (.t 22)) 31, ⟨some 24, (.r (.loadn 3) (.t 23) (.t 23)), none, 63⟩, ⟨none, (.e (.store 3 (.t 4) (.t 24))), none, 127⟩, oC 5 (.bool true) 255]
def c51 : ACode := (.seq (.reg r51_0) (.seq (.seq (.reg r51_1) (.cond (.t 16) (.seq (.reg r51_2) .ret) .skip)) (.seq (.reg r51_3) .ret)))
def fn51 : AFunc := ⟨25, [(.cn 4 3), (.t 5)], c51⟩
theorem comp51 : comp Try.prog 51 = some fn51 := by kernel_rfl
def r52_0 : List AOper := [⟨some 1, (.a (.box (.t 0))), none, 0⟩, oC 2 (.bool false) 0]
def r52_1 : List AOper := [⟨some 3, (.r (.loadn 3) (.t 1) (.t 1)), none, 0⟩, oK 4 59 [.t 3] 1, oQ 5 (.eq true .ifcnil (.t 4) (.c .nilifc)) 3, oM 2 5 7]
def c52 : ACode := (.seq (.reg r52_0) (.seq (.reg r52_1) .ret))
def fn52 : AFunc := ⟨6, [(.t 2)], c52⟩
theorem comp52 : comp Try.prog 52 = some fn52 := by kernel_rfl
def r53_0 : List AOper := [oC 4 (.bool false) 0]
def r53_1 : List AOper := [oC 5 (.int .i64 (.ofNat 0)) 0]
def r53_2 : List AOper := [oM 6 5 0, oM 7 0 0, oQ 8 (.len true (.t 7)) 2, oQ 9 (.bin .lss (.t 6) (.t 8)) 7, oM 10 9 15, oG 11 (.mov (.t 5)) 10 true 31, oG 12 (.mov (.t 1)) 10 true 31, oG 13 (.len true (.t 12)) 10 true 95, oG 14 (.bin .lss (.t 11) (.t 13)) 10 true 255, oQ 15 (.pick (.t 10) (.t 14) (.c (.bool false))) 511]
def r53_3 : List AOper := [oM 18 0 0, oM 19 5 0, oQ 20 (.idxs (.t 18) (.t 19)) 3, oM 21 1 0, oM 22 5 0, oQ 23 (.idxs (.t 21) (.t 22)) 24, oQ 24 (.bin .neq (.t 20) (.t 23)) 63]
def r53_4 : List AOper := [oM 25 0 0, oM 26 5 0, oQ 27 (.idxs (.t 25) (.t 26)) 3, oM 28 1 0, oM 29 5 0, oQ 30 (.idxs (.t 28) (.t 29)) 24, oQ 31 (.bin .lss (.t 27) (.t 30)) 63, oM 4 31 127]
def r53_5 : List AOper := [oM 16 5 0, oQ 17 (.bin .add (.t 16) (oI 1)) 1, oM 5 17 3]
def r53_6 : List AOper := [oM 32 0 0, oQ 33 (.len true (.t 32)) 1, oM 34 1 0, oQ 35 (.len true (.t 34)) 4, oQ 36 (.bin .lss (.t 33) (.t 35)) 15, oM 4 36 31]
def b53_0 : ACode := (.seq (.seq (.reg r53_2) (.cond (.t 15) .skip (.ext 0))) (.seq (.blk 1 (.seq (.draw r53_3) (.cond (.t 24) (.seq (.draw r53_4) .ret) .skip))) (.reg r53_5)))
def c53 : ACode := (.seq (.reg r53_0) (.seq (.seq (.reg r53_1) (.blk 0 (.loop b53_0))) (.seq (.reg r53_6) .ret)))
def fn53 : AFunc := ⟨37, [(.t 4)], c53⟩
theorem comp53 : comp Try.prog 53 = some fn53 := by kernel_rfl
def r54_0 : List AOper := [⟨some 2, (.a (.alloc [(.int .i64 (.ofNat 0)), (.int .i64 (.ofNat 0)), .str []])), none, 0⟩, oC 3 (.int .i64 (.ofNat 0)) 0]
def r54_1 : List AOper := [oM 4 0 0, oQ 5 (.nilchk (.t 4)) 1, oQ 6 (.fadr 3 1 (.t 5)) 3, oR 7 6 7, oM 8 0 0, oQ 9 (.nilchk (.t 8)) 16, oQ 10 (.fadr 4 1 (.t 9)) 48, oR 11 10 112, oQ 12 (.bin .geq (.t 7) (.t 11)) 255]
def r54_2 : List AOper := [oQ 13 (.build [(.int .i64 (.ofNat 0)), (.int .i64 (.ofNat 0)), .str []] []) 0, ⟨none, (.e (.store 3 (.t 2) (.t 13))), none, 1⟩, oC 3 (.int .i64 (.ofNat 8)) 3]
def r54_3 : List AOper := [oM 14 0 0, oM 15 0 0, oQ 16 (.nilchk (.t 15)) 2, oQ 17 (.fadr 3 1 (.t 16)) 6, oR 18 17 14, oQ 19 (.bin .add (.t 18) (oI 1)) 30, oQ 20 (.nilchk (.t 14)) 63, oQ 21 (.fadr 3 1 (.t 20)) 127, ⟨none, (.e (.store 1 (.t 21) (.t 19))), none, 255⟩]
def r54_4 : List AOper := [oM 22 0 0, oM 23 0 0, oQ 24 (.nilchk (.t 23)) 2, oQ 25 (.fadr 0 1 (.t 24)) 6, oR 26 25 14, oQ 27 (.build [.nilslc] []) 0, ⟨some 28, (.a (.box (.t 27))), none, 32⟩, ⟨some 29, (.a (.lits 1 1 [.nilptr] [⟨0, ⟨1, .t 28⟩⟩])), none, 96⟩, ⟨some 30, (.e (.append 1 8 (.t 26) (.t 29))), none, 254⟩, oQ 31 (.nilchk (.t 22)) 511, oQ 32 (.fadr 0 1 (.t 31)) 1023, ⟨none, (.e (.store 1 (.t 32) (.t 30))), none, 2047⟩]
def r54_5 : List AOper := [oM 33 0 0, oQ 34 (.nilchk (.t 33)) 1, oQ 35 (.fadr 0 1 (.t 34)) 3, oR 36 35 7, oQ 37 (.len false (.t 36)) 15, oQ 38 (.bin .sub (.t 37) (oI 1)) 31, oQ 39 (.build [(.int .i64 (.ofNat 0)), (.int .i64 (.ofNat 0)), .str []] [⟨0, ⟨1, oI 3⟩⟩, ⟨1, ⟨1, .t 38⟩⟩]) 63, ⟨none, (.e (.store 3 (.t 2) (.t 39))), none, 127⟩, oC 3 (.int .i64 (.ofNat 0)) 255]
def c54 : ACode := (.seq (.reg r54_0) (.seq (.seq (.draw r54_1) (.cond (.t 12) (.seq (.reg r54_2) .ret) .skip)) (.seq (.reg r54_3) (.seq (.reg r54_4) (.seq (.reg r54_5) .ret)))))
def fn54 : AFunc := ⟨40, [(.cn 2 3), (.t 3)], c54⟩
theorem comp54 : comp Try.prog 54 = some fn54 := by kernel_rfl
def r55_0 : List AOper := [⟨some 3, (.a (.box (.t 1))), none, 0⟩, ⟨some 4, (.a (.alloc [(.int .i64 (.ofNat 0)), (.int .i64 (.ofNat 0)), .str []])), none, 0⟩, oC 5 (.int .i64 (.ofNat 0)) 0]
def r55_1 : List AOper := [oM 7 0 0, oQ 8 (.nilchk (.t 7)) 1, oQ 9 (.fadr 3 1 (.t 8)) 3, oR 10 9 7, oM 11 0 0, oQ 12 (.nilchk (.t 11)) 16, oQ 13 (.fadr 4 1 (.t 12)) 48, oR 14 13 112, oQ 15 (.bin .geq (.t 10) (.t 14)) 255]
def r55_2 : List AOper := [oQ 16 (.build [(.int .i64 (.ofNat 0)), (.int .i64 (.ofNat 0)), .str []] []) 0, ⟨none, (.e (.store 3 (.t 4) (.t 16))), none, 1⟩, oC 5 (.int .i64 (.ofNat 8)) 3]
def r55_3 : List AOper := [oM 17 0 0, oM 18 0 0, oQ 19 (.nilchk (.t 18)) 2, oQ 20 (.fadr 3 1 (.t 19)) 6, oR 21 20 14, oQ 22 (.bin .add (.t 21) (oI 1)) 30, oQ 23 (.nilchk (.t 17)) 63, oQ 24 (.fadr 3 1 (.t 23)) 127, ⟨none, (.e (.store 1 (.t 24) (.t 22))), none, 255⟩]
def r55_4 : List AOper := [oC 6 .nilslc 0]
def r55_5 : List AOper := [oM 25 6 0, oQ 26 (.fadr 2 1 (.t 3)) 0, oR 27 26 2, ⟨some 28, (.e (.append 1 8 (.t 25) (.t 27))), none, 7⟩, oM 6 28 15]
def r55_6 : List AOper := [oM 29 0 0, oM 30 0 0, oQ 31 (.nilchk (.t 30)) 2, oQ 32 (.fadr 1 1 (.t 31)) 6, oR 33 32 14, oQ 34 (.fadr 0 1 (.t 3)) 0, oR 35 34 32, oQ 36 (.fadr 1 1 (.t 3)) 0, oR 37 36 128, oM 38 6 0, oQ 39 (.build [(.int .i64 (.ofNat 0)), (.int .i64 (.ofNat 0)), .nilslc] [⟨0, ⟨1, .t 35⟩⟩, ⟨1, ⟨1, .t 37⟩⟩, ⟨2, ⟨1, .t 38⟩⟩]) 992, ⟨some 40, (.a (.lits 1 3 [(.int .i64 (.ofNat 0)), (.int .i64 (.ofNat 0)), .nilslc] [⟨0, ⟨3, .t 39⟩⟩])), none, 2016⟩, ⟨some 41, (.e (.append 3 40 (.t 33) (.t 40))), none, 4094⟩, oQ 42 (.nilchk (.t 29)) 8191, oQ 43 (.fadr 1 1 (.t 42)) 16383, ⟨none, (.e (.store 1 (.t 43) (.t 41))), none, 32767⟩]
def r55_7 : List AOper := [oM 44 0 0, oQ 45 (.nilchk (.t 44)) 1, oQ 46 (.fadr 1 1 (.t 45)) 3, oR 47 46 7, oQ 48 (.len false (.t 47)) 15, oQ 49 (.bin .sub (.t 48) (oI 1)) 31, oQ 50 (.build [(.int .i64 (.ofNat 0)), (.int .i64 (.ofNat 0)), .str []] [⟨0, ⟨1, oI 4⟩⟩, ⟨1, ⟨1, .t 49⟩⟩]) 63, ⟨none, (.e (.store 3 (.t 4) (.t 50))), none, 127⟩, oC 5 (.int .i64 (.ofNat 0)) 255]
def c55 : ACode := (.seq (.reg r55_0) (.seq (.seq (.draw r55_1) (.cond (.t 15) (.seq (.reg r55_2) .ret) .skip)) (.seq (.reg r55_3) (.seq (.reg r55_4) (.seq (.reg r55_5) (.seq (.draw r55_6) (.seq (.reg r55_7) .ret)))))))
def fn55 : AFunc := ⟨51, [(.cn 4 3), (.t 5)], c55⟩
theorem comp55 : comp Try.prog 55 = some fn55 := by kernel_rfl
def r56_0 : List AOper := [⟨some 3, (.a (.box (.t 1))), none, 0⟩, oC 4 (.int .i64 (.ofNat 0)) 0]
def r56_1 : List AOper := [oM 5 0 0, oM 6 0 0, oQ 7 (.nilchk (.t 6)) 2, oQ 8 (.fadr 2 1 (.t 7)) 6, oR 9 8 14, ⟨some 10, (.r (.loadn 3) (.t 3) (.t 3)), none, 0⟩, ⟨some 11, (.a (.lits 1 3 [(.int .i64 (.ofNat 0)), (.int .i64 (.ofNat 0)), .str []] [⟨0, ⟨3, .t 10⟩⟩])), none, 32⟩, ⟨some 12, (.e (.append 3 32 (.t 9) (.t 11))), none, 126⟩, oQ 13 (.nilchk (.t 5)) 255, oQ 14 (.fadr 2 1 (.t 13)) 511, ⟨none, (.e (.store 1 (.t 14) (.t 12))), none, 1023⟩]
def r56_2 : List AOper := [oM 15 0 0, oQ 16 (.nilchk (.t 15)) 1, oQ 17 (.fadr 2 1 (.t 16)) 3, oR 18 17 7, oQ 19 (.len false (.t 18)) 15, oQ 20 (.bin .sub (.t 19) (oI 1)) 31, oM 4 20 63]
def c56 : ACode := (.seq (.reg r56_0) (.seq (.draw r56_1) (.seq (.reg r56_2) .ret)))
def fn56 : AFunc := ⟨21, [(.t 4)], c56⟩
theorem comp56 : comp Try.prog 56 = some fn56 := by kernel_rfl
def r57_0 : List AOper := [⟨some 3, (.a (.box (.t 1))), none, 0⟩, oC 4 .nilptr 0]
def r57_1 : List AOper := [oQ 5 (.fadr 0 1 (.t 3)) 0, oR 6 5 1, oQ 7 (.bin .neq (.t 6) (oI 3)) 3, oM 8 7 7, oG 9 (.fadr 1 1 (.t 3)) 8 false 15, ⟨some 10, (.r .load1 (.t 9) (.t 9)), some ⟨8, false⟩, 31⟩, oG 11 (.bin .lss (.t 10) (oI 0)) 8 false 63, oQ 12 (.pick (.t 8) (.c (.bool true)) (.t 11)) 127, oM 13 12 255, oG 14 (.fadr 1 1 (.t 3)) 13 false 511, ⟨some 15, (.r .load1 (.t 14) (.t 14)), some ⟨13, false⟩, 1023⟩, oG 16 (.mov (.t 0)) 13 false 511, oG 17 (.nilchk (.t 16)) 13 false 2559, oG 18 (.fadr 0 1 (.t 17)) 13 false 6655, ⟨some 19, (.r .load1 (.t 18) (.t 18)), some ⟨13, false⟩, 14847⟩, oG 20 (.len false (.t 19)) 13 false 31231, oG 21 (.bin .geq (.t 15) (.t 20)) 13 false 65535, oQ 22 (.pick (.t 13) (.c (.bool true)) (.t 21)) 131071]
def r57_2 : List AOper := [oC 4 .nilptr 0]
def r57_3 : List AOper := [oM 23 0 0, oQ 24 (.nilchk (.t 23)) 1, oQ 25 (.fadr 0 1 (.t 24)) 3, oR 26 25 7, oQ 27 (.fadr 1 1 (.t 3)) 0, oR 28 27 16, oQ 29 (.iadr 1 (.t 26) (.t 28)) 63, oR 30 29 127, oM 4 30 255]
def c57 : ACode := (.seq (.reg r57_0) (.seq (.seq (.draw r57_1) (.cond (.t 22) (.seq (.reg r57_2) .ret) .skip)) (.seq (.draw r57_3) .ret)))
def fn57 : AFunc := ⟨31, [(.t 4)], c57⟩
theorem comp57 : comp Try.prog 57 = some fn57 := by kernel_rfl
def r58_0 : List AOper := [⟨some 2, (.a (.box (.t 0))), none, 0⟩, ⟨some 3, (.a (.box (.t 1))), none, 0⟩, oC 4 (.bool false) 0]
def r58_1 : List AOper := [oQ 7 (.fadr 0 1 (.t 2)) 0, oR 8 7 1, oQ 9 (.fadr 0 1 (.t 3)) 0, oR 10 9 4, oQ 11 (.bin .neq (.t 8) (.t 10)) 15]
def r58_2 : List AOper := [oQ 12 (.fadr 0 1 (.t 2)) 0, oR 13 12 1, oQ 14 (.bin .eql (.t 13) (oI 1)) 3, oM 4 14 7]
def r58_3 : List AOper := [⟨some 16, (.r (.loadn 3) (.t 2) (.t 2)), none, 0⟩, ⟨some 17, (.r (.loadn 3) (.t 3) (.t 3)), none, 0⟩, oK 18 19 [(.c (.str [60])), .t 16, .t 17] 3, oM 15 18 7, oE 19 15 0 15, oE 20 15 1 15, ⟨some 5, (.a (.alloc [(.int .i64 (.ofNat 0)), (.int .i64 (.ofNat 0)), .str []])), none, 0⟩, ⟨none, (.e (.store 3 (.t 5) (.t 19))), none, 95⟩, oM 6 20 255]
def r58_4 : List AOper := [oQ 21 (.fadr 1 1 (.t 5)) 0, oR 22 21 1, oQ 23 (.bin .eql (.t 22) (oI 1)) 3, oM 4 23 7]
def c58 : ACode := (.seq (.reg r58_0) (.seq (.seq (.reg r58_1) (.cond (.t 11) (.seq (.reg r58_2) .ret) .skip)) (.seq (.reg r58_3) (.seq (.reg r58_4) .ret))))
def fn58 : AFunc := ⟨24, [(.t 4)], c58⟩
theorem comp58 : comp Try.prog 58 = some fn58 := by kernel_rfl
def r59_0 : List AOper := [⟨some 1, (.a (.box (.t 0))), none, 0⟩, oC 2 .nilifc 0]
def r59_1 : List AOper := [oQ 3 (.fadr 0 1 (.t 1)) 0, oR 4 3 1]
def r59_2 : List AOper := [oQ 6 (.bin .eql (.t 4) (oI 1)) 0, oM 5 6 1]
def r59_3 : List AOper := [oQ 7 (.fadr 1 1 (.t 1)) 0, oR 8 7 1, oQ 9 (.mkifc 104 (.t 8)) 3, oM 2 9 7]
def r59_4 : List AOper := [oQ 11 (.bin .eql (.t 4) (oI 2)) 0, oM 10 11 1]
def r59_5 : List AOper := [oQ 12 (.fadr 2 1 (.t 1)) 0, oR 13 12 1, oQ 14 (.mkifc 105 (.t 13)) 3, oM 2 14 7]
def r59_6 : List AOper := [oC 2 .nilifc 0]
def c59 : ACode := (.seq (.reg r59_0) (.seq (.seq (.reg r59_1) (.blk 0 (.seq (.reg r59_2) (.cond (.t 5) (.seq (.reg r59_3) .ret) (.seq (.reg r59_4) (.cond (.t 10) (.seq (.reg r59_5) .ret) .skip)))))) (.seq (.reg r59_6) .ret)))
def fn59 : AFunc := ⟨15, [(.t 2)], c59⟩
theorem comp59 : comp Try.prog 59 = some fn59 := by kernel_rfl
end Go.Proofs.Ytggpnokhhpnnaaa
