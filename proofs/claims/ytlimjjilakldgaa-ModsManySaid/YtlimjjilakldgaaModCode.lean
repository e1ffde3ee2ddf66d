/- The code of the functions that the laws reach, as the evaluator reads it. No statement stands here but that it is so. -/
import Derived.Test.YtlimjjilakldgaaRows
import Derived.Test.YtlimjjilakldgaaAbsU
set_option autoImplicit false
set_option maxRecDepth 100000
namespace Go.Proofs.Ytlimjjilakldgaa
open Go Go.Abs
theorem mixed : Try.prog.follows .mixedOrders = true := by kernel_rfl
theorem plain0 : Sound Try.prog (acall (comp Try.prog) (fun _ => none) 60) := acall_ok mixed (fun f g h => by cases h) 60
def r5_0 : List AOper := [oC 2 (.bool false) 0]
def r5_1 : List AOper := [oK 12 7 [] 0, oM 3 12 1]
def r5_2 : List AOper := [oM 13 3 0, oQ 14 (.eq false .ptrnil (.t 13) (.c .nilptr)) 1]
def r5_3 : List AOper := [oC 2 (.bool false) 0]
def r5_4 : List AOper := [oC 4 (.int .i64 (.ofNat 0)) 0]
def r5_5 : List AOper := [oC 5 (.int .i64 (.ofNat 0)) 0]
def r5_6 : List AOper := [oM 15 5 0, oM 16 0 0, oQ 17 (.len false (.t 16)) 2, oQ 18 (.bin .lss (.t 15) (.t 17)) 7, oM 19 18 15, oG 20 (.mov (.t 5)) 19 true 31, oG 21 (.bin .lss (.t 20) (oI 40)) 19 true 63, oQ 22 (.pick (.t 19) (.t 21) (.c (.bool false))) 127]
def r5_7 : List AOper := [oM 25 0 0, oM 26 5 0, oQ 27 (.iadr 1 (.t 25) (.t 26)) 3, oR 28 27 7, oQ 29 (.len true (.t 28)) 15, oQ 30 (.bin .gtr (.t 29) (oI 100)) 31]
def r5_8 : List AOper := [oM 32 3 0, oM 33 0 0, oM 34 5 0, oQ 35 (.iadr 1 (.t 33) (.t 34)) 6, oR 36 35 14, oK 37 14 [.t 32, .t 36] 31, oM 31 37 63, oE 38 31 0 127, oE 39 31 1 127, oM 6 38 255, oM 7 39 1023]
def r5_9 : List AOper := [oM 41 3 0, oM 42 0 0, oM 43 5 0, oQ 44 (.iadr 1 (.t 42) (.t 43)) 6, oR 45 44 14, oK 46 10 [.t 45, oI 1, (.c (.str [102]))] 30, oK 47 11 [.t 41, .t 46] 63, oM 40 47 127, oE 48 40 0 255, oE 49 40 1 255, oM 8 48 511, oM 9 49 2047]
def r5_10 : List AOper := [oM 50 9 0, oQ 51 (.bin .eql (.t 50) (oI 0)) 1]
def r5_11 : List AOper := [oM 52 4 0, oQ 53 (.bin .add (.t 52) (oI 1)) 1, oM 4 53 3]
def r5_12 : List AOper := [oM 54 9 0, oQ 55 (.bin .eql (.t 54) (oI 0)) 1, oM 56 55 3, oG 57 (.mov (.t 7)) 56 true 7, oQ 58 (.pick (.t 56) (.t 57) (.c (.bool false))) 15, oM 59 58 31, oG 60 (.mov (.t 4)) 59 false 63, oG 61 (.bin .gtr (.t 60) (oI 16)) 59 false 127, oQ 62 (.pick (.t 59) (.c (.bool true)) (.t 61)) 255, oM 63 62 511, oG 64 (.mov (.t 9)) 63 false 1023, oG 65 (.bin .eql (.t 64) (oI 3)) 63 false 2047, oG 66 (.mov (.t 65)) 63 false 4095, oG 67 (.mov (.t 4)) 66 true 8191, oG 68 (.bin .neq (.t 67) (oI 16)) 66 true 16383, oG 69 (.pick (.t 66) (.t 68) (.c (.bool false))) 63 false 32767, oQ 70 (.pick (.t 63) (.c (.bool true)) (.t 69)) 65535]
def r5_13 : List AOper := [oC 2 (.bool false) 0]
def r5_14 : List AOper := [oM 71 3 0, oK 72 17 [.t 71] 1, oM 10 72 3]
def r5_15 : List AOper := [oM 73 10 0, oQ 74 (.len false (.t 73)) 1, oM 75 4 0, oQ 76 (.bin .neq (.t 74) (.t 75)) 7]
def r5_16 : List AOper := [oC 2 (.bool false) 0]
def r5_17 : List AOper := [oC 11 (.int .i64 (.ofNat 1)) 0]
def r5_18 : List AOper := [oM 77 11 0, oM 78 10 0, oQ 79 (.len false (.t 78)) 2, oQ 80 (.bin .lss (.t 77) (.t 79)) 7]
def r5_19 : List AOper := [oM 83 10 0, oM 84 11 0, oQ 85 (.bin .sub (.t 84) (oI 1)) 2, oQ 86 (.iadr 1 (.t 83) (.t 85)) 7, oR 87 86 15, oM 88 10 0, oM 89 11 0, oQ 90 (.iadr 1 (.t 88) (.t 89)) 96, oR 91 90 224, oQ 92 (.bin .geq (.t 87) (.t 91)) 511]
def r5_20 : List AOper := [oC 2 (.bool false) 0]
def r5_21 : List AOper := [oM 81 11 0, oQ 82 (.bin .add (.t 81) (oI 1)) 1, oM 11 82 3]
def r5_22 : List AOper := [oM 23 5 0, oQ 24 (.bin .add (.t 23) (oI 1)) 1, oM 5 24 3]
def r5_23 : List AOper := [oK 93 8 [] 0, oM 2 93 1]
def b5_0 : ACode := (.seq (.seq (.reg r5_18) (.cond (.t 80) .skip (.ext 2))) (.seq (.blk 3 (.seq (.draw r5_19) (.cond (.t 92) (.seq (.reg r5_20) .ret) .skip))) (.reg r5_21)))
def b5_1 : ACode := (.seq (.seq (.reg r5_6) (.cond (.t 22) .skip (.ext 0))) (.seq (.blk 1 (.seq (.seq (.reg r5_7) (.cond (.t 30) (.ext 1) .skip)) (.seq (.reg r5_8) (.seq (.reg r5_9) (.seq (.seq (.reg r5_10) (.cond (.t 51) (.reg r5_11) .skip)) (.seq (.seq (.reg r5_12) (.cond (.t 70) (.seq (.reg r5_13) .ret) .skip)) (.seq (.reg r5_14) (.seq (.seq (.reg r5_15) (.cond (.t 76) (.seq (.reg r5_16) .ret) .skip)) (.seq (.reg r5_17) (.blk 2 (.loop b5_0))))))))))) (.reg r5_22)))
def c5 : ACode := (.seq (.reg r5_0) (.seq (.reg r5_1) (.seq (.seq (.reg r5_2) (.cond (.t 14) (.seq (.reg r5_3) .ret) .skip)) (.seq (.reg r5_4) (.seq (.seq (.reg r5_5) (.blk 0 (.loop b5_1))) (.seq (.reg r5_23) .ret))))))
def fn5 : AFunc := ⟨94, [(.t 2)], c5⟩
theorem comp5 : comp Try.prog 5 = some fn5 := by kernel_rfl
def r7_0 : List AOper := [oC 0 .nilptr 0]
def r7_1 : List AOper := [⟨some 1, .a .mkmap, none, 0⟩, ⟨some 2, .a .mkmap, none, 0⟩, oQ 3 (.build [.nilslc, .nilmap, .nilmap, (.int .i64 (.ofNat 0))] [⟨1, ⟨1, .t 1⟩⟩, ⟨2, ⟨1, .t 2⟩⟩]) 3, ⟨some 4, (.a (.box (.t 3))), none, 7⟩, oM 0 4 15]
def c7 : ACode := (.seq (.reg r7_0) (.seq (.reg r7_1) .ret))
def fn7 : AFunc := ⟨5, [(.t 0)], c7⟩
theorem comp7 : comp Try.prog 7 = some fn7 := by kernel_rfl
def r10_0 : List AOper := [⟨some 6, (.a (.alloc [.str [], (.int .i64 (.ofNat 0)), .nilslc, (.int .i64 (.ofNat 0)), .nilslc])), none, 0⟩]
def r10_1 : List AOper := [oM 7 0 0, oM 8 1 0, oM 9 2 0, oQ 10 (.build [(.int .i64 (.ofNat 0)), (.int .i64 (.ofNat 0)), (.int .i64 (.ofNat 0)), (.int .i64 (.ofNat 0))] [⟨0, ⟨1, oI 1⟩⟩]) 0, oQ 11 (.build [(.int .i64 (.ofNat 0)), (.int .i64 (.ofNat 0)), (.int .i64 (.ofNat 0)), (.int .i64 (.ofNat 0))] [⟨0, ⟨1, oI 37⟩⟩]) 0, ⟨some 12, (.a (.lits 2 4 [(.int .i64 (.ofNat 0)), (.int .i64 (.ofNat 0)), (.int .i64 (.ofNat 0)), (.int .i64 (.ofNat 0))] [⟨0, ⟨4, .t 10⟩⟩, ⟨4, ⟨4, .t 11⟩⟩])), none, 24⟩, oQ 13 (.build [.str [], (.int .i64 (.ofNat 0)), (.int .i64 (.ofNat 0)), .nilslc, .nilslc, .nilslc] [⟨0, ⟨1, .t 9⟩⟩, ⟨2, ⟨1, oI 1⟩⟩, ⟨3, ⟨1, .t 12⟩⟩]) 60, ⟨some 14, (.a (.lits 1 6 [.str [], (.int .i64 (.ofNat 0)), (.int .i64 (.ofNat 0)), .nilslc, .nilslc, .nilslc] [⟨0, ⟨6, .t 13⟩⟩])), none, 124⟩, oQ 15 (.build [.str [], (.int .i64 (.ofNat 0)), .nilslc, (.int .i64 (.ofNat 0)), .nilslc] [⟨0, ⟨1, .t 7⟩⟩, ⟨1, ⟨1, .t 8⟩⟩, ⟨3, ⟨1, oI 1⟩⟩, ⟨4, ⟨1, .t 14⟩⟩]) 255, ⟨none, (.e (.store 5 (.t 6) (.t 15))), none, 511⟩]
def c10 : ACode := (.seq (.reg r10_0) (.seq (.reg r10_1) .ret))
def fn10 : AFunc := ⟨16, [(.cn 6 5)], c10⟩
theorem comp10 : comp Try.prog 10 = some fn10 := by kernel_rfl
def r11_0 : List AOper := [⟨some 3, (.a (.box (.t 1))), none, 0⟩, oC 4 (.int .i64 (.ofNat 0)) 0, oC 5 (.int .i64 (.ofNat 0)) 2]
def r11_1 : List AOper := [oM 13 0 0, oK 14 24 [.t 13] 1, oQ 15 (.un .not (.t 14)) 3]
def r11_2 : List AOper := [oC 4 (.int .i64 (.ofNat 0)) 0, oC 5 (.int .i64 (.ofNat 16)) 1]
def r11_3 : List AOper := [⟨some 17, (.r (.loadn 5) (.t 3) (.t 3)), none, 0⟩, oK 18 25 [.t 17] 1, oM 16 18 3, oE 19 16 0 7, oE 20 16 1 7, oE 21 16 2 7, oM 6 19 15, oM 7 20 95, oM 8 21 255]
def r11_4 : List AOper := [oM 22 6 0, oQ 23 (.bin .neq (.t 22) (oI 0)) 1]
def r11_5 : List AOper := [oM 24 6 0, oC 4 (.int .i64 (.ofNat 0)) 0, oM 5 24 3]
def r11_6 : List AOper := [oM 25 0 0, oQ 26 (.fadr 0 1 (.t 3)) 0, oR 27 26 2, oQ 28 (.fadr 1 1 (.t 3)) 0, oR 29 28 8, oK 30 19 [.t 25, .t 27, .t 29] 31, oM 9 30 63]
def r11_7 : List AOper := [oM 31 9 0, oQ 32 (.bin .neq (.t 31) (oI 0)) 1]
def r11_8 : List AOper := [oM 33 9 0, oC 4 (.int .i64 (.ofNat 0)) 0, oM 5 33 3]
def r11_9 : List AOper := [oM 35 0 0, oQ 36 (.fadr 0 1 (.t 3)) 0, oR 37 36 2, oK 38 23 [.t 35, .t 37] 7, oM 34 38 15, oE 39 34 0 31, oE 40 34 1 31, ⟨some 10, (.a (.alloc [(.int .i64 (.ofNat 0)), (.int .i64 (.ofNat 0)), .str []])), none, 0⟩, ⟨none, (.e (.store 3 (.t 10) (.t 39))), none, 191⟩, oM 11 40 511]
def r11_10 : List AOper := [oM 41 11 0, oQ 42 (.un .not (.t 41)) 1]
def r11_11 : List AOper := [oM 43 0 0, oQ 44 (.fadr 0 1 (.t 3)) 0, oR 45 44 2, oK 46 26 [.t 43, .t 45] 7]
def r11_12 : List AOper := [oQ 47 (.build [(.int .i64 (.ofNat 0)), (.int .i64 (.ofNat 0)), .str []] [⟨0, ⟨1, (.c (.int .i64 (.negSucc 0)))⟩⟩, ⟨2, ⟨1, (.c (.str [0]))⟩⟩]) 0, ⟨none, (.e (.store 3 (.t 10) (.t 47))), none, 1⟩]
def r11_13 : List AOper := [oM 48 0 0, oQ 49 (.nilchk (.t 48)) 1, oQ 50 (.fadr 3 1 (.t 49)) 3, oR 51 50 7, oM 12 51 15]
def r11_14 : List AOper := [oM 52 0 0, oQ 53 (.nilchk (.t 52)) 1, oQ 54 (.fadr 3 1 (.t 53)) 3, oR 55 54 7, oQ 56 (.bin .add (.t 55) (oI 1)) 15, oQ 57 (.nilchk (.t 52)) 31, oQ 58 (.fadr 3 1 (.t 57)) 63, ⟨none, (.e (.store 1 (.t 58) (.t 56))), none, 127⟩]
def r11_15 : List AOper := [oM 59 0 0, oQ 60 (.nilchk (.t 59)) 1, oQ 61 (.fadr 2 1 (.t 60)) 3, oR 62 61 7, oM 63 12 0, ⟨some 64, (.r (.loadn 5) (.t 3) (.t 3)), none, 0⟩, oK 65 27 [.t 64] 32, ⟨none, (.e (.mupd false [.i] (.t 62) (.t 63) (.t 65))), none, 127⟩]
def r11_16 : List AOper := [oQ 66 (.fadr 0 1 (.t 10)) 0, oR 67 66 1, oM 68 12 0, oQ 69 (.fadr 1 1 (.t 10)) 3, ⟨none, (.e (.store 1 (.t 69) (.t 67))), none, 11⟩, oQ 70 (.fadr 0 1 (.t 10)) 31, ⟨none, (.e (.store 1 (.t 70) (.t 68))), none, 63⟩]
def r11_17 : List AOper := [oM 71 0 0, oQ 72 (.nilchk (.t 71)) 1, oQ 73 (.fadr 1 1 (.t 72)) 3, oR 74 73 7, oQ 75 (.fadr 0 1 (.t 3)) 0, oR 76 75 16, ⟨some 77, (.r (.loadn 3) (.t 10) (.t 10)), none, 0⟩, ⟨none, (.e (.mupd false [.s] (.t 74) (.t 76) (.t 77))), none, 127⟩]
def r11_18 : List AOper := [oM 78 12 0, oM 4 78 1, oC 5 (.int .i64 (.ofNat 0)) 3]
def c11 : ACode := (.seq (.reg r11_0) (.seq (.seq (.reg r11_1) (.cond (.t 15) (.seq (.reg r11_2) .ret) .skip)) (.seq (.seq (.reg r11_3) (.seq (.reg r11_4) (.cond (.t 23) (.seq (.reg r11_5) .ret) .skip))) (.seq (.seq (.reg r11_6) (.seq (.reg r11_7) (.cond (.t 32) (.seq (.reg r11_8) .ret) .skip))) (.seq (.reg r11_9) (.seq (.seq (.reg r11_10) (.cond (.t 42) (.seq (.reg r11_11) (.reg r11_12)) .skip)) (.seq (.reg r11_13) (.seq (.reg r11_14) (.seq (.draw r11_15) (.seq (.reg r11_16) (.seq (.draw r11_17) (.seq (.reg r11_18) .ret))))))))))))
def fn11 : AFunc := ⟨79, [(.t 4), (.t 5)], c11⟩
theorem comp11 : comp Try.prog 11 = some fn11 := by kernel_rfl
def r14_0 : List AOper := [oC 4 (.int .i64 (.ofNat 0)) 0, oC 5 (.bool false) 1]
def r14_1 : List AOper := [oM 9 0 0, oM 10 1 0, oK 11 23 [.t 9, .t 10] 3, oM 8 11 7, oE 12 8 0 15, oE 13 8 1 15, ⟨some 6, (.a (.alloc [(.int .i64 (.ofNat 0)), (.int .i64 (.ofNat 0)), .str []])), none, 0⟩, ⟨none, (.e (.store 3 (.t 6) (.t 12))), none, 95⟩, oM 7 13 255]
def r14_2 : List AOper := [oQ 14 (.fadr 0 1 (.t 6)) 0, oR 15 14 1, oM 16 7 0, oK 17 31 [.t 15, .t 16] 7, oE 18 17 0 15, oE 19 17 1 15, oM 4 18 63, oM 5 19 127]
def c14 : ACode := (.seq (.reg r14_0) (.seq (.reg r14_1) (.seq (.reg r14_2) .ret)))
def fn14 : AFunc := ⟨20, [(.t 4), (.t 5)], c14⟩
theorem comp14 : comp Try.prog 14 = some fn14 := by kernel_rfl
def r17_0 : List AOper := [oC 2 .nilslc 0]
def r17_1 : List AOper := [oM 3 0 0, oK 4 24 [.t 3] 1, oQ 5 (.un .not (.t 4)) 3]
def r17_2 : List AOper := [oC 2 .nilslc 0]
def r17_3 : List AOper := [oM 6 0 0, oQ 7 (.nilchk (.t 6)) 1, oQ 8 (.fadr 0 1 (.t 7)) 3, oR 9 8 7, ⟨some 10, (.e (.append 1 16 (.c .nilslc) (.t 9))), none, 15⟩, oM 2 10 31]
def c17 : ACode := (.seq (.reg r17_0) (.seq (.seq (.reg r17_1) (.cond (.t 5) (.seq (.reg r17_2) .ret) .skip)) (.seq (.reg r17_3) .ret)))
def fn17 : AFunc := ⟨11, [(.t 2)], c17⟩
theorem comp17 : comp Try.prog 17 = some fn17 := by kernel_rfl
def r19_0 : List AOper := [oC 6 (.int .i64 (.ofNat 0)) 0]
def r19_1 : List AOper := [oM 10 0 0, oM 11 1 0, oK 12 23 [.t 10, .t 11] 3, oM 9 12 7, oE 13 9 0 15, oE 14 9 1 15, ⟨some 7, (.a (.alloc [(.int .i64 (.ofNat 0)), (.int .i64 (.ofNat 0)), .str []])), none, 0⟩, ⟨none, (.e (.store 3 (.t 7) (.t 13))), none, 95⟩, oM 8 14 255]
def r19_2 : List AOper := [oM 16 0 0, oK 17 24 [.t 16] 1, oQ 18 (.un .not (.t 17)) 3, oM 15 18 7]
def r19_3 : List AOper := [oC 6 (.int .i64 (.ofNat 16)) 0]
def r19_4 : List AOper := [oM 20 8 0, oQ 21 (.un .not (.t 20)) 1, oM 22 21 3, oG 23 (.mov (.t 0)) 22 true 7, oG 24 (.nilchk (.t 23)) 22 true 15, oG 25 (.fadr 0 1 (.t 24)) 22 true 31, ⟨some 26, (.r .load1 (.t 25) (.t 25)), some ⟨22, true⟩, 63⟩, oG 27 (.len false (.t 26)) 22 true 127, oG 28 (.bin .geq (.t 27) (oI 16)) 22 true 255, oQ 29 (.pick (.t 22) (.t 28) (.c (.bool false))) 511, oM 19 29 1023]
def r19_5 : List AOper := [oC 6 (.int .i64 (.ofNat 3)) 0]
def r19_6 : List AOper := [oM 31 8 0, oQ 32 (.un .not (.t 31)) 1, oM 30 32 3]
def r19_7 : List AOper := [oC 6 (.int .i64 (.ofNat 0)) 0]
def r19_8 : List AOper := [oQ 34 (.fadr 1 1 (.t 7)) 0, oR 35 34 1, oQ 36 (.bin .neq (.t 35) (.c (.int .i64 (.negSucc 0)))) 3, oM 33 36 7]
def r19_9 : List AOper := [oC 6 (.int .i64 (.ofNat 20)) 0]
def r19_10 : List AOper := [oM 38 0 0, oQ 39 (.nilchk (.t 38)) 1, oQ 40 (.fadr 2 1 (.t 39)) 3, oR 41 40 7, oQ 42 (.fadr 0 1 (.t 7)) 0, oR 43 42 16, ⟨some 44, (.r (.lookup false [.i] (.agg [.str [], (.int .i64 (.ofNat 0)), .nilslc, (.int .i64 (.ofNat 0)), .nilslc]) false) (.t 41) (.t 43)), none, 63⟩, oQ 45 (.field false 1 1 (.t 44)) 127, oM 46 2 0, oQ 47 (.bin .geq (.t 45) (.t 46)) 511, oM 37 47 1023]
def r19_11 : List AOper := [oC 6 (.int .i64 (.ofNat 15)) 0]
def r19_12 : List AOper := [oC 6 (.int .i64 (.ofNat 0)) 0]
def c19 : ACode := (.seq (.reg r19_0) (.seq (.reg r19_1) (.seq (.blk 0 (.seq (.reg r19_2) (.cond (.t 15) (.seq (.reg r19_3) .ret) (.seq (.reg r19_4) (.cond (.t 19) (.seq (.reg r19_5) .ret) (.seq (.reg r19_6) (.cond (.t 30) (.seq (.reg r19_7) .ret) (.seq (.reg r19_8) (.cond (.t 33) (.seq (.reg r19_9) .ret) (.seq (.draw r19_10) (.cond (.t 37) (.seq (.reg r19_11) .ret) .skip))))))))))) (.seq (.reg r19_12) .ret))))
def fn19 : AFunc := ⟨48, [(.t 6)], c19⟩
theorem comp19 : comp Try.prog 19 = some fn19 := by kernel_rfl
def r23_0 : List AOper := [⟨some 4, (.a (.alloc [(.int .i64 (.ofNat 0)), (.int .i64 (.ofNat 0)), .str []])), none, 0⟩, oC 5 (.bool false) 0]
def r23_1 : List AOper := [oM 8 0 0, oK 9 24 [.t 8] 1, oQ 10 (.un .not (.t 9)) 3]
def r23_2 : List AOper := [oQ 11 (.build [(.int .i64 (.ofNat 0)), (.int .i64 (.ofNat 0)), .str []] []) 0, ⟨none, (.e (.store 3 (.t 4) (.t 11))), none, 1⟩, oC 5 (.bool false) 3]
def r23_3 : List AOper := [oM 13 0 0, oQ 14 (.nilchk (.t 13)) 1, oQ 15 (.fadr 1 1 (.t 14)) 3, oR 16 15 7, oM 17 1 0, ⟨some 18, (.r (.lookup false [.s] (.agg [(.int .i64 (.ofNat 0)), (.int .i64 (.ofNat 0)), .str []]) true) (.t 16) (.t 17)), none, 31⟩, oM 12 18 63, oE 19 12 0 127, oE 20 12 1 127, ⟨some 6, (.a (.alloc [(.int .i64 (.ofNat 0)), (.int .i64 (.ofNat 0)), .str []])), none, 0⟩, ⟨none, (.e (.store 3 (.t 6) (.t 19))), none, 767⟩, oM 7 20 2047]
def r23_4 : List AOper := [⟨some 21, (.r (.loadn 3) (.t 6) (.t 6)), none, 0⟩, oM 22 7 0, oM 23 22 2, ⟨some 24, (.r (.loadn 3) (.t 6) (.t 6)), some ⟨23, true⟩, 6⟩, oG 25 (.build [(.int .i64 (.ofNat 0)), (.int .i64 (.ofNat 0)), .str []] [⟨0, ⟨1, (.c (.int .i64 (.negSucc 0)))⟩⟩, ⟨1, ⟨1, (.c (.int .i64 (.negSucc 0)))⟩⟩]) 23 true 6, oG 26 (.eq true (.flat true [.i, .i, .s]) (.t 24) (.t 25)) 23 true 30, oQ 27 (.pick (.t 23) (.t 26) (.c (.bool false))) 62, ⟨none, (.e (.store 3 (.t 4) (.t 21))), none, 7⟩, oM 5 27 255]
def c23 : ACode := (.seq (.reg r23_0) (.seq (.seq (.reg r23_1) (.cond (.t 10) (.seq (.reg r23_2) .ret) .skip)) (.seq (.reg r23_3) (.seq (.draw r23_4) .ret))))
def fn23 : AFunc := ⟨28, [(.cn 4 3), (.t 5)], c23⟩
theorem comp23 : comp Try.prog 23 = some fn23 := by kernel_rfl
def r24_0 : List AOper := [oC 2 (.bool false) 0]
def r24_1 : List AOper := [oM 3 0 0, oQ 4 (.eq true .ptrnil (.t 3) (.c .nilptr)) 1, oM 5 4 3, oG 6 (.mov (.t 0)) 5 true 7, oG 7 (.nilchk (.t 6)) 5 true 15, oG 8 (.fadr 1 1 (.t 7)) 5 true 31, ⟨some 9, (.r .load1 (.t 8) (.t 8)), some ⟨5, true⟩, 63⟩, oG 10 (.eq true .mapnil (.t 9) (.c .nilmap)) 5 true 127, oQ 11 (.pick (.t 5) (.t 10) (.c (.bool false))) 255, oM 2 11 511]
def c24 : ACode := (.seq (.reg r24_0) (.seq (.reg r24_1) .ret))
def fn24 : AFunc := ⟨12, [(.t 2)], c24⟩
theorem comp24 : comp Try.prog 24 = some fn24 := by kernel_rfl
def r25_0 : List AOper := [⟨some 1, (.a (.box (.t 0))), none, 0⟩, oC 2 (.int .i64 (.ofNat 0)) 0, oC 3 (.int .i64 (.ofNat 0)) 2, oC 4 (.int .i64 (.ofNat 0)) 6]
def r25_1 : List AOper := [⟨some 10, (.r (.loadn 5) (.t 1) (.t 1)), none, 0⟩, oK 11 33 [.t 10] 1, oQ 12 (.un .not (.t 11)) 3]
def r25_2 : List AOper := [oC 2 (.int .i64 (.ofNat 4)) 0, oC 3 (.int .i64 (.ofNat 0)) 1, oC 4 (.int .i64 (.ofNat 0)) 3]
def r25_3 : List AOper := [oQ 13 (.fadr 4 1 (.t 1)) 0, oR 14 13 1, oQ 15 (.len false (.t 14)) 3, oC 16 (.int .i64 (.ofNat 0)) 0]
def r25_4 : List AOper := [oQ 17 (.bin .lss (.t 16) (.t 15)) 0]
def r25_5 : List AOper := [oM 18 16 0, oQ 19 (.iadr 6 (.t 14) (.t 16)) 0, ⟨some 20, (.r (.loadn 6) (.t 19) (.t 19)), none, 2⟩, ⟨some 6, (.a (.alloc [.str [], (.int .i64 (.ofNat 0)), (.int .i64 (.ofNat 0)), .nilslc, .nilslc, .nilslc])), none, 0⟩, oM 5 18 15, ⟨none, (.e (.store 6 (.t 6) (.t 20))), none, 31⟩]
def r25_6 : List AOper := [oQ 21 (.fadr 3 1 (.t 6)) 0, oR 22 21 1, oQ 23 (.len false (.t 22)) 3, oM 7 23 7]
def r25_7 : List AOper := [oM 24 7 0, oQ 25 (.bin .eql (.t 24) (oI 0)) 1, oM 26 25 3, oG 27 (.fadr 3 1 (.t 6)) 26 false 7, ⟨some 28, (.r .load1 (.t 27) (.t 27)), some ⟨26, false⟩, 15⟩, oG 29 (.mov (.t 7)) 26 false 7, oG 30 (.bin .sub (.t 29) (oI 1)) 26 false 39, oG 31 (.iadr 4 (.t 28) (.t 30)) 26 false 127, ⟨some 32, (.r (.loadn 4) (.t 31) (.t 31)), some ⟨26, false⟩, 255⟩, ⟨some 33, (.e (.call 34 [.t 32])), some ⟨26, false⟩, 511⟩, oG 34 (.un .not (.t 33)) 26 false 1023, oQ 35 (.pick (.t 26) (.c (.bool true)) (.t 34)) 2047]
def r25_8 : List AOper := [oM 36 5 0, oM 37 7 0, oQ 38 (.bin .sub (.t 37) (oI 1)) 2, oQ 39 (.mmax [oI 0, .t 38]) 6, oC 2 (.int .i64 (.ofNat 14)) 0, oM 3 36 17, oM 4 39 63]
def r25_9 : List AOper := [⟨some 40, (.r (.loadn 5) (.t 1) (.t 1)), none, 0⟩, ⟨some 41, (.r (.loadn 6) (.t 6) (.t 6)), none, 0⟩, oQ 42 (.build [.str [], (.int .i64 (.ofNat 0)), .nilslc, (.int .i64 (.ofNat 0)), .nilslc, .str [], (.int .i64 (.ofNat 0)), (.int .i64 (.ofNat 0)), .nilslc, .nilslc, .nilslc] [⟨0, ⟨5, .t 40⟩⟩, ⟨5, ⟨6, .t 41⟩⟩]) 3, ⟨some 8, (.a (.alloc [.str [], (.int .i64 (.ofNat 0)), .nilslc, (.int .i64 (.ofNat 0)), .nilslc, .str [], (.int .i64 (.ofNat 0)), (.int .i64 (.ofNat 0)), .nilslc, .nilslc, .nilslc])), none, 0⟩, ⟨none, (.e (.store 11 (.t 8) (.t 42))), none, 15⟩]
def r25_10 : List AOper := [oQ 43 (.fadr 3 1 (.t 6)) 0, oR 44 43 1, oQ 45 (.len false (.t 44)) 3, oC 46 (.int .i64 (.ofNat 0)) 0]
def r25_11 : List AOper := [oQ 47 (.bin .lss (.t 46) (.t 45)) 0]
def r25_12 : List AOper := [oM 48 46 0, oM 9 48 1]
def r25_13 : List AOper := [⟨some 49, (.r (.loadn 11) (.t 8) (.t 8)), none, 0⟩, oM 50 9 0, oK 51 35 [.t 49, .t 50] 3, oQ 52 (.un .not (.t 51)) 7]
def r25_14 : List AOper := [oM 53 5 0, oM 54 9 0, oC 2 (.int .i64 (.ofNat 14)) 0, oM 3 53 5, oM 4 54 15]
def r25_15 : List AOper := [oQ 55 (.bin .add (.t 46) (oI 1)) 0, oM 46 55 1]
def r25_16 : List AOper := [oQ 56 (.bin .add (.t 16) (oI 1)) 0, oM 16 56 1]
def r25_17 : List AOper := [oC 2 (.int .i64 (.ofNat 0)) 0, oC 3 (.int .i64 (.ofNat 0)) 1, oC 4 (.int .i64 (.ofNat 0)) 3]
def b25_0 : ACode := (.seq (.reg r25_11) (.seq (.cond (.t 47) .skip (.ext 2)) (.seq (.blk 3 (.seq (.reg r25_12) (.seq (.reg r25_13) (.cond (.t 52) (.seq (.reg r25_14) .ret) .skip)))) (.reg r25_15))))
def b25_1 : ACode := (.seq (.reg r25_4) (.seq (.cond (.t 17) .skip (.ext 0)) (.seq (.blk 1 (.seq (.reg r25_5) (.seq (.reg r25_6) (.seq (.seq (.reg r25_7) (.cond (.t 35) (.seq (.reg r25_8) .ret) .skip)) (.seq (.reg r25_9) (.seq (.reg r25_10) (.blk 2 (.loop b25_0)))))))) (.reg r25_16))))
def c25 : ACode := (.seq (.reg r25_0) (.seq (.seq (.reg r25_1) (.cond (.t 12) (.seq (.reg r25_2) .ret) .skip)) (.seq (.seq (.reg r25_3) (.blk 0 (.loop b25_1))) (.seq (.reg r25_17) .ret))))
def fn25 : AFunc := ⟨57, [(.t 2), (.t 3), (.t 4)], c25⟩
theorem comp25 : comp Try.prog 25 = some fn25 := by kernel_rfl
def r26_0 : List AOper := [oC 4 (.int .i64 (.ofNat 0)) 0]
def r26_1 : List AOper := [oM 5 4 0, oM 6 0 0, oQ 7 (.nilchk (.t 6)) 2, oQ 8 (.fadr 0 1 (.t 7)) 6, oR 9 8 14, oQ 10 (.len false (.t 9)) 30, oQ 11 (.bin .lss (.t 5) (.t 10)) 63, oM 12 11 127, oG 13 (.mov (.t 0)) 12 true 255, oG 14 (.nilchk (.t 13)) 12 true 511, oG 15 (.fadr 0 1 (.t 14)) 12 true 1023, ⟨some 16, (.r .load1 (.t 15) (.t 15)), some ⟨12, true⟩, 2047⟩, oG 17 (.mov (.t 4)) 12 true 255, oG 18 (.iadr 1 (.t 16) (.t 17)) 12 true 8191, ⟨some 19, (.r .load1 (.t 18) (.t 18)), some ⟨12, true⟩, 16383⟩, oG 20 (.mov (.t 1)) 12 true 255, oG 21 (.bin .lss (.t 19) (.t 20)) 12 true 65535, oQ 22 (.pick (.t 12) (.t 21) (.c (.bool false))) 131071]
def r26_2 : List AOper := [oM 23 4 0, oQ 24 (.bin .add (.t 23) (oI 1)) 1, oM 4 24 3]
def r26_3 : List AOper := [oM 25 0 0, oM 26 0 0, oQ 27 (.nilchk (.t 26)) 2, oQ 28 (.fadr 0 1 (.t 27)) 6, oR 29 28 14, ⟨some 30, (.a (.lits 1 1 [.str []] [⟨0, ⟨1, (.c (.str []))⟩⟩])), none, 0⟩, ⟨some 31, (.e (.append 1 16 (.t 29) (.t 30))), none, 62⟩, oQ 32 (.nilchk (.t 25)) 127, oQ 33 (.fadr 0 1 (.t 32)) 255, ⟨none, (.e (.store 1 (.t 33) (.t 31))), none, 511⟩]
def r26_4 : List AOper := [oM 34 0 0, oQ 35 (.nilchk (.t 34)) 1, oQ 36 (.fadr 0 1 (.t 35)) 3, oR 37 36 7, oM 38 4 0, oQ 39 (.bin .add (.t 38) (oI 1)) 16, oQ 40 (.sslc 1 (.t 37) (some (.t 39)) none none) 63, oM 41 0 0, oQ 42 (.nilchk (.t 41)) 128, oQ 43 (.fadr 0 1 (.t 42)) 384, oR 44 43 896, oM 45 4 0, oQ 46 (.sslc 1 (.t 44) (some (.t 45)) none none) 3968, ⟨some 47, (.e (.copy 1 (.t 40) (.t 46))), none, 8191⟩]
def r26_5 : List AOper := [oM 48 0 0, oQ 49 (.nilchk (.t 48)) 1, oQ 50 (.fadr 0 1 (.t 49)) 3, oR 51 50 7, oM 52 4 0, oM 53 1 0, oQ 54 (.iadr 1 (.t 51) (.t 52)) 63, ⟨none, (.e (.store 1 (.t 54) (.t 53))), none, 127⟩]
def b26_0 : ACode := (.seq (.seq (.reg r26_1) (.cond (.t 22) .skip (.ext 0))) (.blk 1 (.reg r26_2)))
def c26 : ACode := (.seq (.reg r26_0) (.seq (.blk 0 (.loop b26_0)) (.seq (.reg r26_3) (.seq (.draw r26_4) (.reg r26_5)))))
def fn26 : AFunc := ⟨55, [], c26⟩
theorem comp26 : comp Try.prog 26 = some fn26 := by kernel_rfl
def r27_0 : List AOper := [⟨some 1, (.a (.box (.t 0))), none, 0⟩, ⟨some 2, (.a (.alloc [.str [], (.int .i64 (.ofNat 0)), .nilslc, (.int .i64 (.ofNat 0)), .nilslc])), none, 0⟩]
def r27_1 : List AOper := [oQ 5 (.fadr 2 1 (.t 1)) 0, oR 6 5 1, ⟨some 7, (.e (.append 3 40 (.c .nilslc) (.t 6))), none, 3⟩, oQ 8 (.fadr 2 1 (.t 1)) 7, ⟨none, (.e (.store 1 (.t 8) (.t 7))), none, 15⟩]
def r27_2 : List AOper := [oQ 9 (.fadr 4 1 (.t 1)) 0, oR 10 9 1, ⟨some 11, (.e (.append 6 104 (.c .nilslc) (.t 10))), none, 3⟩, oM 3 11 7]
def r27_3 : List AOper := [oM 12 3 0, oQ 13 (.len false (.t 12)) 1, oC 14 (.int .i64 (.ofNat 0)) 0]
def r27_4 : List AOper := [oQ 15 (.bin .lss (.t 14) (.t 13)) 0]
def r27_5 : List AOper := [oM 16 14 0, oM 4 16 1]
def r27_6 : List AOper := [oM 17 3 0, oM 18 4 0, oM 19 3 0, oM 20 4 0, oQ 21 (.iadr 6 (.t 19) (.t 20)) 12, oQ 22 (.fadr 3 1 (.t 21)) 28, oR 23 22 60, ⟨some 24, (.e (.append 4 32 (.c .nilslc) (.t 23))), none, 124⟩, oQ 25 (.iadr 6 (.t 17) (.t 18)) 255, oQ 26 (.fadr 3 1 (.t 25)) 511, ⟨none, (.e (.store 1 (.t 26) (.t 24))), none, 1023⟩]
def r27_7 : List AOper := [oM 27 3 0, oM 28 4 0, oM 29 3 0, oM 30 4 0, oQ 31 (.iadr 6 (.t 29) (.t 30)) 12, oQ 32 (.fadr 4 1 (.t 31)) 28, oR 33 32 60, ⟨some 34, (.e (.append 3 32 (.c .nilslc) (.t 33))), none, 124⟩, oQ 35 (.iadr 6 (.t 27) (.t 28)) 255, oQ 36 (.fadr 4 1 (.t 35)) 511, ⟨none, (.e (.store 1 (.t 36) (.t 34))), none, 1023⟩]
def r27_8 : List AOper := [oM 37 3 0, oM 38 4 0, oM 39 3 0, oM 40 4 0, oQ 41 (.iadr 6 (.t 39) (.t 40)) 12, oQ 42 (.fadr 5 1 (.t 41)) 28, oR 43 42 60, ⟨some 44, (.e (.append 2 16 (.c .nilslc) (.t 43))), none, 124⟩, oQ 45 (.iadr 6 (.t 37) (.t 38)) 255, oQ 46 (.fadr 5 1 (.t 45)) 511, ⟨none, (.e (.store 1 (.t 46) (.t 44))), none, 1023⟩]
def r27_9 : List AOper := [oQ 47 (.bin .add (.t 14) (oI 1)) 0, oM 14 47 1]
def r27_10 : List AOper := [oM 48 3 0, oQ 49 (.fadr 4 1 (.t 1)) 1, ⟨none, (.e (.store 1 (.t 49) (.t 48))), none, 3⟩]
def r27_11 : List AOper := [⟨some 50, (.r (.loadn 5) (.t 1) (.t 1)), none, 0⟩, ⟨none, (.e (.store 5 (.t 2) (.t 50))), none, 1⟩]
def b27_0 : ACode := (.seq (.reg r27_4) (.seq (.cond (.t 15) .skip (.ext 0)) (.seq (.blk 1 (.seq (.reg r27_5) (.seq (.reg r27_6) (.seq (.reg r27_7) (.reg r27_8))))) (.reg r27_9))))
def c27 : ACode := (.seq (.reg r27_0) (.seq (.reg r27_1) (.seq (.reg r27_2) (.seq (.seq (.reg r27_3) (.blk 0 (.loop b27_0))) (.seq (.reg r27_10) (.seq (.reg r27_11) .ret))))))
def fn27 : AFunc := ⟨51, [(.cn 2 5)], c27⟩
theorem comp27 : comp Try.prog 27 = some fn27 := by kernel_rfl
def r31_0 : List AOper := [oC 4 (.int .i64 (.ofNat 0)) 0, oC 5 (.bool false) 1]
def r31_1 : List AOper := [oM 6 1 0, oQ 7 (.un .not (.t 6)) 1, oM 8 7 3, oG 9 (.mov (.t 0)) 8 false 7, oG 10 (.bin .eql (.t 9) (.c (.int .i64 (.negSucc 0)))) 8 false 15, oQ 11 (.pick (.t 8) (.c (.bool true)) (.t 10)) 31]
def r31_2 : List AOper := [oC 4 (.int .i64 (.ofNat 0)) 0, oC 5 (.bool false) 1]
def r31_3 : List AOper := [oM 12 0 0, oM 4 12 1, oC 5 (.bool true) 3]
def c31 : ACode := (.seq (.reg r31_0) (.seq (.seq (.reg r31_1) (.cond (.t 11) (.seq (.reg r31_2) .ret) .skip)) (.seq (.reg r31_3) .ret)))
def fn31 : AFunc := ⟨13, [(.t 4), (.t 5)], c31⟩
theorem comp31 : comp Try.prog 31 = some fn31 := by kernel_rfl
def r33_0 : List AOper := [⟨some 1, (.a (.box (.t 0))), none, 0⟩, oC 2 (.bool false) 0]
def r33_1 : List AOper := [oQ 4 (.fadr 0 1 (.t 1)) 0, oR 5 4 1, oK 6 42 [.t 5] 3, oQ 7 (.un .not (.t 6)) 7, oM 8 7 15, oG 9 (.fadr 1 1 (.t 1)) 8 false 31, ⟨some 10, (.r .load1 (.t 9) (.t 9)), some ⟨8, false⟩, 63⟩, ⟨some 11, (.e (.call 43 [.t 10, oI 1, oI 2147483647])), some ⟨8, false⟩, 127⟩, oG 12 (.un .not (.t 11)) 8 false 255, oQ 13 (.pick (.t 8) (.c (.bool true)) (.t 12)) 511, oM 14 13 1023, oG 15 (.fadr 3 1 (.t 1)) 14 false 2047, ⟨some 16, (.r .load1 (.t 15) (.t 15)), some ⟨14, false⟩, 4095⟩, oG 17 (.fadr 4 1 (.t 1)) 14 false 2047, ⟨some 18, (.r .load1 (.t 17) (.t 17)), some ⟨14, false⟩, 10239⟩, oG 19 (.len false (.t 18)) 14 false 26623, oG 20 (.mmin [oI 32, .t 19]) 14 false 59391, ⟨some 21, (.e (.call 43 [.t 16, oI 0, .t 20])), some ⟨14, false⟩, 131071⟩, oG 22 (.un .not (.t 21)) 14 false 262143, oQ 23 (.pick (.t 14) (.c (.bool true)) (.t 22)) 524287]
def r33_2 : List AOper := [oC 2 (.bool false) 0]
def r33_3 : List AOper := [⟨some 3, (.a (.alloc [(.int .i64 (.ofNat 0))])), none, 0⟩, ⟨none, (.e (.store 1 (.t 3) (oI 0))), none, 1⟩]
def r33_4 : List AOper := [oQ 24 (.fadr 2 1 (.t 1)) 0, oR 25 24 1, oK 26 44 [.t 25, oI 16, (.c (.fn 45 [] []))] 3, oM 27 26 7, oG 28 (.fadr 4 1 (.t 1)) 27 true 15, ⟨some 29, (.r .load1 (.t 28) (.t 28)), some ⟨27, true⟩, 31⟩, oG 30 (.mkfn 47 [] [.t 3, .t 1]) 27 true 15, ⟨some 31, (.e (.call 46 [.t 29, oI 64, .t 30])), some ⟨27, true⟩, 127⟩, oQ 32 (.pick (.t 27) (.t 31) (.c (.bool false))) 255, oM 2 32 511]
def c33 : ACode := (.seq (.reg r33_0) (.seq (.seq (.reg r33_1) (.cond (.t 23) (.seq (.reg r33_2) .ret) .skip)) (.seq (.reg r33_3) (.seq (.reg r33_4) .ret))))
def fn33 : AFunc := ⟨33, [(.t 2)], c33⟩
theorem comp33 : comp Try.prog 33 = some fn33 := by kernel_rfl
def r34_0 : List AOper := [⟨some 1, (.a (.box (.t 0))), none, 0⟩, oC 2 (.bool false) 0]
def r34_1 : List AOper := [oQ 3 (.fadr 0 1 (.t 1)) 0, oR 4 3 1, oQ 5 (.bin .eql (.t 4) (oI 37)) 3, oM 6 5 7, oG 7 (.fadr 0 1 (.t 1)) 6 false 15, ⟨some 8, (.r .load1 (.t 7) (.t 7)), some ⟨6, false⟩, 31⟩, oG 9 (.bin .eql (.t 8) (oI 25)) 6 false 63, oQ 10 (.pick (.t 6) (.c (.bool true)) (.t 9)) 127, oM 2 10 255]
def c34 : ACode := (.seq (.reg r34_0) (.seq (.reg r34_1) .ret))
def fn34 : AFunc := ⟨11, [(.t 2)], c34⟩
theorem comp34 : comp Try.prog 34 = some fn34 := by kernel_rfl
def r35_0 : List AOper := [⟨some 2, (.a (.box (.t 0))), none, 0⟩, oC 4 (.bool false) 0]
def r35_1 : List AOper := [oQ 7 (.fadr 5 6 (.t 2)) 0, oQ 8 (.fadr 3 1 (.t 7)) 1, oR 9 8 3, oM 10 1 0, oQ 11 (.iadr 4 (.t 9) (.t 10)) 15, ⟨some 12, (.r (.loadn 4) (.t 11) (.t 11)), none, 31⟩, ⟨some 5, (.a (.alloc [(.int .i64 (.ofNat 0)), (.int .i64 (.ofNat 0)), (.int .i64 (.ofNat 0)), (.int .i64 (.ofNat 0))])), none, 0⟩, ⟨none, (.e (.store 4 (.t 5) (.t 12))), none, 127⟩]
def r35_2 : List AOper := [⟨some 13, (.r (.loadn 4) (.t 5) (.t 5)), none, 0⟩, oK 14 50 [.t 13] 1, oM 6 14 3]
def r35_3 : List AOper := [⟨some 15, (.r (.loadn 11) (.t 2) (.t 2)), none, 0⟩, ⟨some 16, (.r (.loadn 4) (.t 5) (.t 5)), none, 0⟩, oK 17 51 [.t 15, .t 16] 3, oQ 18 (.un .not (.t 17)) 7]
def r35_4 : List AOper := [oC 4 (.bool false) 0]
def r35_5 : List AOper := [oQ 19 (.fadr 0 1 (.t 5)) 0, oR 20 19 1]
def r35_6 : List AOper := [oQ 22 (.bin .eql (.t 20) (oI 0)) 0, oM 21 22 1]
def r35_7 : List AOper := [oQ 24 (.bin .eql (.t 20) (oI 36)) 0, oM 23 24 1]
def r35_8 : List AOper := [oQ 26 (.bin .eql (.t 20) (oI 2)) 0, oM 25 26 1]
def r35_9 : List AOper := [oQ 28 (.bin .eql (.t 20) (oI 7)) 0, oM 27 28 1]
def r35_10 : List AOper := [oQ 30 (.bin .eql (.t 20) (oI 8)) 0, oM 29 30 1]
def r35_11 : List AOper := [oQ 32 (.bin .eql (.t 20) (oI 25)) 0, oM 31 32 1]
def r35_12 : List AOper := [oQ 34 (.bin .eql (.t 20) (oI 26)) 0, oM 33 34 1]
def r35_13 : List AOper := [oQ 35 (.bin .eql (.t 20) (oI 27)) 0, oM 33 35 1]
def r35_14 : List AOper := [oQ 37 (.bin .eql (.t 20) (oI 28)) 0, oM 36 37 1]
def r35_15 : List AOper := [oQ 39 (.bin .eql (.t 20) (oI 29)) 0, oM 38 39 1]
def r35_16 : List AOper := [oQ 41 (.bin .eql (.t 20) (oI 30)) 0, oM 40 41 1]
def r35_17 : List AOper := [oQ 43 (.bin .eql (.t 20) (oI 31)) 0, oM 42 43 1]
def r35_18 : List AOper := [oQ 44 (.fadr 1 1 (.t 5)) 0, oR 45 44 1, oQ 46 (.fadr 5 6 (.t 2)) 0, oQ 47 (.fadr 2 1 (.t 46)) 4, oR 48 47 12, oQ 49 (.bin .leq (.t 45) (.t 48)) 31, oM 4 49 63]
def r35_19 : List AOper := [oM 50 6 0, oQ 51 (.fadr 5 6 (.t 2)) 0, oQ 52 (.fadr 4 1 (.t 51)) 2, oR 53 52 6, oQ 54 (.len false (.t 53)) 14, oQ 55 (.bin .lss (.t 50) (.t 54)) 31, oM 4 55 63]
def r35_20 : List AOper := [oQ 56 (.fadr 2 1 (.t 5)) 0, oR 57 56 1, oQ 58 (.fadr 5 6 (.t 2)) 0, oQ 59 (.fadr 5 1 (.t 58)) 4, oR 60 59 12, oQ 61 (.len false (.t 60)) 28, oQ 62 (.bin .lss (.t 57) (.t 61)) 63, oM 4 62 127]
def r35_21 : List AOper := [oQ 63 (.fadr 1 1 (.t 5)) 0, oR 64 63 1, oQ 65 (.fadr 5 6 (.t 2)) 0, oQ 66 (.fadr 5 1 (.t 65)) 4, oR 67 66 12, oQ 68 (.len false (.t 67)) 28, oQ 69 (.bin .lss (.t 64) (.t 68)) 63, oM 4 69 127]
def r35_22 : List AOper := [⟨some 70, (.r (.loadn 11) (.t 2) (.t 2)), none, 0⟩, oM 71 1 0, oM 72 6 0, oK 73 52 [.t 70, .t 71, .t 72] 7, oM 4 73 15]
def r35_23 : List AOper := [⟨some 74, (.r (.loadn 11) (.t 2) (.t 2)), none, 0⟩, oM 75 6 0, oK 76 53 [.t 74, .t 75] 3, oM 4 76 7]
def r35_24 : List AOper := [oQ 77 (.fadr 2 1 (.t 5)) 0, oR 78 77 1, oQ 79 (.fadr 3 1 (.t 5)) 0, oR 80 79 4, oQ 81 (.bin .add (.t 78) (.t 80)) 15, oQ 82 (.fadr 5 6 (.t 2)) 0, oQ 83 (.fadr 2 1 (.t 82)) 32, oR 84 83 96, oQ 85 (.bin .lss (.t 81) (.t 84)) 255, oM 4 85 511]
def r35_25 : List AOper := [oQ 86 (.fadr 3 1 (.t 5)) 0, oR 87 86 1, oQ 88 (.fadr 0 5 (.t 2)) 0, oQ 89 (.fadr 3 1 (.t 88)) 4, oR 90 89 12, oQ 91 (.bin .lss (.t 87) (.t 90)) 31, oM 92 91 63, oG 93 (.fadr 2 1 (.t 5)) 92 true 127, ⟨some 94, (.r .load1 (.t 93) (.t 93)), some ⟨92, true⟩, 255⟩, oG 95 (.fadr 0 5 (.t 2)) 92 true 127, oG 96 (.fadr 4 1 (.t 95)) 92 true 639, ⟨some 97, (.r .load1 (.t 96) (.t 96)), some ⟨92, true⟩, 1663⟩, oG 98 (.fadr 3 1 (.t 5)) 92 true 127, ⟨some 99, (.r .load1 (.t 98) (.t 98)), some ⟨92, true⟩, 4223⟩, oG 100 (.iadr 6 (.t 97) (.t 99)) 92 true 15999, oG 101 (.fadr 1 1 (.t 100)) 92 true 32383, ⟨some 102, (.r .load1 (.t 101) (.t 101)), some ⟨92, true⟩, 65151⟩, oG 103 (.bin .add (.t 94) (.t 102)) 92 true 131071, oG 104 (.fadr 5 6 (.t 2)) 92 true 127, oG 105 (.fadr 2 1 (.t 104)) 92 true 262271, ⟨some 106, (.r .load1 (.t 105) (.t 105)), some ⟨92, true⟩, 786559⟩, oG 107 (.bin .leq (.t 103) (.t 106)) 92 true 2097151, oQ 108 (.pick (.t 92) (.t 107) (.c (.bool false))) 4194303, oM 4 108 8388607]
def r35_26 : List AOper := [oQ 109 (.fadr 3 1 (.t 5)) 0, oR 110 109 1, oQ 111 (.fadr 0 5 (.t 2)) 0, oQ 112 (.fadr 2 1 (.t 111)) 4, oR 113 112 12, oQ 114 (.len false (.t 113)) 28, oQ 115 (.bin .lss (.t 110) (.t 114)) 63, oM 116 115 127, oG 117 (.fadr 2 1 (.t 5)) 116 true 255, ⟨some 118, (.r .load1 (.t 117) (.t 117)), some ⟨116, true⟩, 511⟩, oG 119 (.fadr 0 5 (.t 2)) 116 true 255, oG 120 (.fadr 2 1 (.t 119)) 116 true 1279, ⟨some 121, (.r .load1 (.t 120) (.t 120)), some ⟨116, true⟩, 3327⟩, oG 122 (.fadr 3 1 (.t 5)) 116 true 255, ⟨some 123, (.r .load1 (.t 122) (.t 122)), some ⟨116, true⟩, 8447⟩, oG 124 (.iadr 3 (.t 121) (.t 123)) 116 true 31999, oG 125 (.fadr 2 1 (.t 124)) 116 true 64767, ⟨some 126, (.r .load1 (.t 125) (.t 125)), some ⟨116, true⟩, 130303⟩, oG 127 (.bin .add (.t 118) (.t 126)) 116 true 262143, oG 128 (.fadr 5 6 (.t 2)) 116 true 255, oG 129 (.fadr 2 1 (.t 128)) 116 true 524543, ⟨some 130, (.r .load1 (.t 129) (.t 129)), some ⟨116, true⟩, 1573119⟩, oG 131 (.bin .leq (.t 127) (.t 130)) 116 true 4194303, oQ 132 (.pick (.t 116) (.t 131) (.c (.bool false))) 8388607, oM 4 132 16777215]
def r35_27 : List AOper := [oC 4 (.bool true) 0]
def c35 : ACode := (.seq (.reg r35_0) (.seq (.reg r35_1) (.seq (.reg r35_2) (.seq (.seq (.reg r35_3) (.cond (.t 18) (.seq (.reg r35_4) .ret) .skip)) (.seq (.seq (.reg r35_5) (.blk 0 (.seq (.blk 11 (.seq (.blk 10 (.seq (.blk 9 (.seq (.blk 8 (.seq (.blk 7 (.blk 6 (.seq (.blk 5 (.seq (.blk 4 (.seq (.blk 3 (.seq (.blk 2 (.blk 1 (.seq (.seq (.seq (.reg r35_6) (.cond (.t 21) (.ext 1) .skip)) (.seq (.seq (.reg r35_7) (.cond (.t 23) (.ext 2) .skip)) (.seq (.seq (.reg r35_8) (.cond (.t 25) (.ext 3) .skip)) (.seq (.seq (.reg r35_9) (.cond (.t 27) (.ext 4) .skip)) (.seq (.seq (.reg r35_10) (.cond (.t 29) (.ext 5) .skip)) (.seq (.seq (.reg r35_11) (.cond (.t 31) (.ext 6) .skip)) (.seq (.seq (.seq (.reg r35_12) (.cond (.t 33) .skip (.reg r35_13))) (.cond (.t 33) (.ext 7) .skip)) (.seq (.seq (.reg r35_14) (.cond (.t 36) (.ext 8) .skip)) (.seq (.seq (.reg r35_15) (.cond (.t 38) (.ext 9) .skip)) (.seq (.seq (.reg r35_16) (.cond (.t 40) (.ext 10) .skip)) (.seq (.reg r35_17) (.cond (.t 42) (.ext 11) .skip)))))))))))) (.ext 0)))) (.seq (.seq (.reg r35_18) .ret) (.ext 0)))) (.seq (.seq (.reg r35_19) .ret) (.ext 0)))) (.seq (.seq (.reg r35_20) .ret) (.ext 0)))) (.seq (.seq (.reg r35_21) .ret) (.ext 0))))) (.seq (.seq (.reg r35_22) .ret) (.ext 0)))) (.seq (.seq (.reg r35_23) .ret) (.ext 0)))) (.seq (.seq (.reg r35_24) .ret) (.ext 0)))) (.seq (.seq (.draw r35_25) .ret) (.ext 0)))) (.seq (.seq (.draw r35_26) .ret) (.ext 0))))) (.seq (.reg r35_27) .ret))))))
def fn35 : AFunc := ⟨133, [(.t 4)], c35⟩
theorem comp35 : comp Try.prog 35 = some fn35 := by kernel_rfl
def r42_0 : List AOper := [oC 2 (.bool false) 0]
def r42_1 : List AOper := [oM 3 0 0, oK 4 61 [.t 3] 1, oM 5 4 3, oG 6 (.mov (.t 0)) 5 true 7, oG 7 (.len true (.t 6)) 5 true 15, oG 8 (.bin .leq (.t 7) (oI 16)) 5 true 31, oQ 9 (.pick (.t 5) (.t 8) (.c (.bool false))) 63, oM 10 9 127, oG 11 (.mov (.t 0)) 10 true 255, ⟨some 12, (.e (.call 62 [.t 11])), some ⟨10, true⟩, 511⟩, oG 13 (.un .not (.t 12)) 10 true 1023, oQ 14 (.pick (.t 10) (.t 13) (.c (.bool false))) 2047, oM 2 14 4095]
def c42 : ACode := (.seq (.reg r42_0) (.seq (.reg r42_1) .ret))
def fn42 : AFunc := ⟨15, [(.t 2)], c42⟩
theorem comp42 : comp Try.prog 42 = some fn42 := by kernel_rfl
def r43_0 : List AOper := [oC 6 (.bool false) 0]
def r43_1 : List AOper := [oM 7 0 0, oM 8 1 0, oQ 9 (.bin .geq (.t 7) (.t 8)) 3, oM 10 9 7, oG 11 (.mov (.t 0)) 10 true 15, oG 12 (.mov (.t 2)) 10 true 15, oG 13 (.bin .leq (.t 11) (.t 12)) 10 true 63, oQ 14 (.pick (.t 10) (.t 13) (.c (.bool false))) 127, oM 6 14 255]
def c43 : ACode := (.seq (.reg r43_0) (.seq (.reg r43_1) .ret))
def fn43 : AFunc := ⟨15, [(.t 6)], c43⟩
theorem comp43 : comp Try.prog 43 = some fn43 := by kernel_rfl
def r44_0 : List AOper := [oC 6 (.bool false) 0]
def r44_1 : List AOper := [oM 9 0 0, oQ 10 (.len false (.t 9)) 1, oM 11 1 0, oQ 12 (.bin .gtr (.t 10) (.t 11)) 7]
def r44_2 : List AOper := [oC 6 (.bool false) 0]
def r44_3 : List AOper := [oM 13 0 0, oQ 14 (.len false (.t 13)) 1, oC 15 (.int .i64 (.ofNat 0)) 0]
def r44_4 : List AOper := [oQ 16 (.bin .lss (.t 15) (.t 14)) 0]
def r44_5 : List AOper := [oQ 17 (.iadr 3 (.t 13) (.t 15)) 0, ⟨some 18, (.r (.loadn 3) (.t 17) (.t 17)), none, 1⟩, ⟨some 8, (.a (.alloc [.str [], .str [], (.int .i64 (.ofNat 0))])), none, 0⟩, ⟨none, (.e (.store 3 (.t 8) (.t 18))), none, 7⟩]
def r44_6 : List AOper := [oM 19 2 0, ⟨some 20, (.r (.loadn 3) (.t 8) (.t 8)), none, 0⟩, ⟨some 21, (.e (.callv (.t 19) [.t 20])), none, 3⟩, oQ 22 (.un .not (.t 21)) 7]
def r44_7 : List AOper := [oC 6 (.bool false) 0]
def r44_8 : List AOper := [oQ 23 (.bin .add (.t 15) (oI 1)) 0, oM 15 23 1]
def r44_9 : List AOper := [oC 6 (.bool true) 0]
def b44_0 : ACode := (.seq (.reg r44_4) (.seq (.cond (.t 16) .skip (.ext 0)) (.seq (.blk 1 (.seq (.reg r44_5) (.seq (.reg r44_6) (.cond (.t 22) (.seq (.reg r44_7) .ret) .skip)))) (.reg r44_8))))
def c44 : ACode := (.seq (.reg r44_0) (.seq (.seq (.reg r44_1) (.cond (.t 12) (.seq (.reg r44_2) .ret) .skip)) (.seq (.seq (.reg r44_3) (.blk 0 (.loop b44_0))) (.seq (.reg r44_9) .ret))))
def fn44 : AFunc := ⟨24, [(.t 6)], c44⟩
theorem comp44 : comp Try.prog 44 = some fn44 := by kernel_rfl
def r45_0 : List AOper := [⟨some 1, (.a (.box (.t 0))), none, 0⟩, oC 2 (.bool false) 0]
def r45_1 : List AOper := [oQ 3 (.fadr 0 1 (.t 1)) 0, oR 4 3 1, oK 5 42 [.t 4] 3, oM 6 5 7, oG 7 (.fadr 1 1 (.t 1)) 6 true 15, ⟨some 8, (.r .load1 (.t 7) (.t 7)), some ⟨6, true⟩, 31⟩, ⟨some 9, (.e (.call 42 [.t 8])), some ⟨6, true⟩, 63⟩, oQ 10 (.pick (.t 6) (.t 9) (.c (.bool false))) 127, oM 11 10 255, oG 12 (.fadr 2 1 (.t 1)) 11 true 511, ⟨some 13, (.r .load1 (.t 12) (.t 12)), some ⟨11, true⟩, 1023⟩, ⟨some 14, (.e (.call 43 [.t 13, oI 0, oI 8])), some ⟨11, true⟩, 2047⟩, oQ 15 (.pick (.t 11) (.t 14) (.c (.bool false))) 4095, oM 2 15 8191]
def c45 : ACode := (.seq (.reg r45_0) (.seq (.reg r45_1) .ret))
def fn45 : AFunc := ⟨16, [(.t 2)], c45⟩
theorem comp45 : comp Try.prog 45 = some fn45 := by kernel_rfl
def r46_0 : List AOper := [oC 6 (.bool false) 0]
def r46_1 : List AOper := [oM 9 0 0, oQ 10 (.len false (.t 9)) 1, oM 11 1 0, oQ 12 (.bin .gtr (.t 10) (.t 11)) 7]
def r46_2 : List AOper := [oC 6 (.bool false) 0]
def r46_3 : List AOper := [oM 13 0 0, oQ 14 (.len false (.t 13)) 1, oC 15 (.int .i64 (.ofNat 0)) 0]
def r46_4 : List AOper := [oQ 16 (.bin .lss (.t 15) (.t 14)) 0]
def r46_5 : List AOper := [oQ 17 (.iadr 6 (.t 13) (.t 15)) 0, ⟨some 18, (.r (.loadn 6) (.t 17) (.t 17)), none, 1⟩, ⟨some 8, (.a (.alloc [.str [], (.int .i64 (.ofNat 0)), (.int .i64 (.ofNat 0)), .nilslc, .nilslc, .nilslc])), none, 0⟩, ⟨none, (.e (.store 6 (.t 8) (.t 18))), none, 7⟩]
def r46_6 : List AOper := [oM 19 2 0, ⟨some 20, (.r (.loadn 6) (.t 8) (.t 8)), none, 0⟩, ⟨some 21, (.e (.callv (.t 19) [.t 20])), none, 3⟩, oQ 22 (.un .not (.t 21)) 7]
def r46_7 : List AOper := [oC 6 (.bool false) 0]
def r46_8 : List AOper := [oQ 23 (.bin .add (.t 15) (oI 1)) 0, oM 15 23 1]
def r46_9 : List AOper := [oC 6 (.bool true) 0]
def b46_0 : ACode := (.seq (.reg r46_4) (.seq (.cond (.t 16) .skip (.ext 0)) (.seq (.blk 1 (.seq (.reg r46_5) (.seq (.reg r46_6) (.cond (.t 22) (.seq (.reg r46_7) .ret) .skip)))) (.reg r46_8))))
def c46 : ACode := (.seq (.reg r46_0) (.seq (.seq (.reg r46_1) (.cond (.t 12) (.seq (.reg r46_2) .ret) .skip)) (.seq (.seq (.reg r46_3) (.blk 0 (.loop b46_0))) (.seq (.reg r46_9) .ret))))
def fn46 : AFunc := ⟨24, [(.t 6)], c46⟩
theorem comp46 : comp Try.prog 46 = some fn46 := by kernel_rfl
def r47_0 : List AOper := [⟨some 3, (.a (.box (.t 0))), none, 0⟩, oC 4 (.bool false) 0]
def r47_1 : List AOper := [oR 5 1 0, oQ 6 (.bin .add (.t 5) (oI 1)) 1, ⟨none, (.e (.store 1 (.t 1) (.t 6))), none, 3⟩]
def r47_2 : List AOper := [⟨some 7, (.r (.loadn 6) (.t 3) (.t 3)), none, 0⟩, oR 8 1 0, oQ 9 (.fadr 3 1 (.t 2)) 0, oR 10 9 4, oQ 11 (.bin .leq (.t 8) (.t 10)) 14, oK 12 48 [.t 7, .t 11] 31, oM 13 12 63, ⟨some 14, (.r (.loadn 6) (.t 3) (.t 3)), some ⟨13, true⟩, 127⟩, ⟨some 15, (.e (.call 49 [.t 14])), some ⟨13, true⟩, 255⟩, oQ 16 (.pick (.t 13) (.t 15) (.c (.bool false))) 511, oM 4 16 1023]
def c47 : ACode := (.seq (.reg r47_0) (.seq (.reg r47_1) (.seq (.reg r47_2) .ret)))
def fn47 : AFunc := ⟨17, [(.t 4)], c47⟩
theorem comp47 : comp Try.prog 47 = some fn47 := by kernel_rfl
def r48_0 : List AOper := [⟨some 2, (.a (.box (.t 0))), none, 0⟩, oC 4 (.bool false) 0]
def r48_1 : List AOper := [oM 5 1 0]
def r48_2 : List AOper := [oQ 6 (.fadr 0 1 (.t 2)) 0, oR 7 6 1, oK 8 42 [.t 7] 3, oM 9 8 7, oG 10 (.fadr 5 1 (.t 2)) 9 true 15, ⟨some 11, (.r .load1 (.t 10) (.t 10)), some ⟨9, true⟩, 31⟩, oG 12 (.len false (.t 11)) 9 true 63, oG 13 (.bin .eql (.t 12) (oI 0)) 9 true 127, oQ 14 (.pick (.t 9) (.t 13) (.c (.bool false))) 255, oM 4 14 511]
def r48_3 : List AOper := [oQ 15 (.fadr 0 1 (.t 2)) 0, oR 16 15 1, oQ 17 (.bin .eql (.t 16) (.c (.str []))) 3, oM 18 17 7, oG 19 (.fadr 5 1 (.t 2)) 18 true 15, ⟨some 20, (.r .load1 (.t 19) (.t 19)), some ⟨18, true⟩, 31⟩, ⟨some 21, (.e (.call 63 [.t 20, oI 255, (.c (.fn 64 [] []))])), some ⟨18, true⟩, 63⟩, oQ 22 (.pick (.t 18) (.t 21) (.c (.bool false))) 127, oM 4 22 255]
def c48 : ACode := (.seq (.reg r48_0) (.seq (.seq (.reg r48_1) (.cond (.t 5) (.seq (.reg r48_2) .ret) .skip)) (.seq (.reg r48_3) .ret)))
def fn48 : AFunc := ⟨23, [(.t 4)], c48⟩
theorem comp48 : comp Try.prog 48 = some fn48 := by kernel_rfl
def r49_0 : List AOper := [⟨some 1, (.a (.box (.t 0))), none, 0⟩, oC 2 (.bool false) 0]
def r49_1 : List AOper := [oQ 3 (.fadr 1 1 (.t 1)) 0, oR 4 3 1, oK 5 43 [.t 4, oI 0, oI 8] 3, oM 6 5 7, oG 7 (.fadr 2 1 (.t 1)) 6 true 15, ⟨some 8, (.r .load1 (.t 7) (.t 7)), some ⟨6, true⟩, 31⟩, oG 9 (.fadr 1 1 (.t 1)) 6 true 15, ⟨some 10, (.r .load1 (.t 9) (.t 9)), some ⟨6, true⟩, 79⟩, oG 11 (.mmax [oI 1, .t 10]) 6 true 207, ⟨some 12, (.e (.call 43 [.t 8, .t 11, oI 100])), some ⟨6, true⟩, 511⟩, oQ 13 (.pick (.t 6) (.t 12) (.c (.bool false))) 1023, oM 14 13 2047, oG 15 (.fadr 4 1 (.t 1)) 14 true 4095, ⟨some 16, (.r .load1 (.t 15) (.t 15)), some ⟨14, true⟩, 8191⟩, ⟨some 17, (.e (.call 65 [.t 16, oI 200, (.c (.fn 66 [] []))])), some ⟨14, true⟩, 16383⟩, oQ 18 (.pick (.t 14) (.t 17) (.c (.bool false))) 32767, oM 19 18 65535, oG 20 (.fadr 3 1 (.t 1)) 19 true 131071, ⟨some 21, (.r .load1 (.t 20) (.t 20)), some ⟨19, true⟩, 262143⟩, ⟨some 22, (.e (.call 67 [.t 21, oI 8000, (.c (.fn 68 [] []))])), some ⟨19, true⟩, 524287⟩, oQ 23 (.pick (.t 19) (.t 22) (.c (.bool false))) 1048575, oM 2 23 2097151]
def c49 : ACode := (.seq (.reg r49_0) (.seq (.reg r49_1) .ret))
def fn49 : AFunc := ⟨24, [(.t 2)], c49⟩
theorem comp49 : comp Try.prog 49 = some fn49 := by kernel_rfl
def r50_0 : List AOper := [⟨some 1, (.a (.box (.t 0))), none, 0⟩, oC 2 (.int .i64 (.ofNat 0)) 0]
def r50_1 : List AOper := [⟨some 3, (.r (.loadn 4) (.t 1) (.t 1)), none, 0⟩, oK 4 68 [.t 3] 1, oQ 5 (.un .not (.t 4)) 3]
def r50_2 : List AOper := [oC 2 (.int .i64 (.ofNat 0)) 0]
def r50_3 : List AOper := [oQ 6 (.fadr 2 1 (.t 1)) 0, oR 7 6 1, oQ 8 (.fadr 3 1 (.t 1)) 0, oR 9 8 4, oQ 10 (.bin .shl (.t 9) (.c (.int .u64 (.ofNat 8)))) 12, oQ 11 (.bin .or (.t 7) (.t 10)) 31, oM 2 11 63]
def c50 : ACode := (.seq (.reg r50_0) (.seq (.seq (.reg r50_1) (.cond (.t 5) (.seq (.reg r50_2) .ret) .skip)) (.seq (.reg r50_3) .ret)))
def fn50 : AFunc := ⟨12, [(.t 2)], c50⟩
theorem comp50 : comp Try.prog 50 = some fn50 := by kernel_rfl
def r51_0 : List AOper := [⟨some 2, (.a (.box (.t 0))), none, 0⟩, ⟨some 3, (.a (.box (.t 1))), none, 0⟩, oC 4 (.bool false) 0]
def r51_1 : List AOper := [oQ 8 (.fadr 1 1 (.t 3)) 0, oR 9 8 1, oQ 10 (.fadr 2 1 (.t 3)) 0, oR 11 10 4, oQ 12 (.fadr 3 1 (.t 3)) 0, oR 13 12 16, oQ 14 (.build [(.int .i64 (.ofNat 0)), (.int .i64 (.ofNat 0)), (.int .i64 (.ofNat 0))] [⟨0, ⟨1, .t 9⟩⟩, ⟨1, ⟨1, .t 11⟩⟩, ⟨2, ⟨1, .t 13⟩⟩]) 63, ⟨some 5, (.a (.alloc [(.int .i64 (.ofNat 0)), (.int .i64 (.ofNat 0)), (.int .i64 (.ofNat 0))])), none, 0⟩, ⟨none, (.e (.store 3 (.t 5) (.t 14))), none, 255⟩]
def r51_2 : List AOper := [oQ 15 (.fadr 0 1 (.t 3)) 0, oR 16 15 1, oK 17 69 [.t 16] 3, oM 6 17 7]
def r51_3 : List AOper := [oM 18 6 0, oQ 19 (.len true (.t 18)) 1, oC 20 (.int .i64 (.ofNat 0)) 0]
def r51_4 : List AOper := [oQ 21 (.bin .lss (.t 20) (.t 19)) 0]
def r51_5 : List AOper := [oM 22 20 0, oM 7 22 1]
def r51_6 : List AOper := [oM 23 6 0, oM 24 7 0, oQ 25 (.idxs (.t 23) (.t 24)) 3, oQ 26 (.bin .eql (.t 25) (.c (.int .u8 (.ofNat 114)))) 7, oM 27 26 15, oG 28 (.mov (.t 7)) 27 true 31, oG 29 (.aadr 3 1 (.t 5) (.t 28)) 27 true 63, ⟨some 30, (.r .load1 (.t 29) (.t 29)), some ⟨27, true⟩, 127⟩, oG 31 (.fadr 5 6 (.t 2)) 27 true 31, oG 32 (.fadr 2 1 (.t 31)) 27 true 287, ⟨some 33, (.r .load1 (.t 32) (.t 32)), some ⟨27, true⟩, 799⟩, oG 34 (.bin .geq (.t 30) (.t 33)) 27 true 2047, oQ 35 (.pick (.t 27) (.t 34) (.c (.bool false))) 4095]
def r51_7 : List AOper := [oC 4 (.bool false) 0]
def r51_8 : List AOper := [oQ 36 (.bin .add (.t 20) (oI 1)) 0, oM 20 36 1]
def r51_9 : List AOper := [oC 4 (.bool true) 0]
def b51_0 : ACode := (.seq (.reg r51_4) (.seq (.cond (.t 21) .skip (.ext 0)) (.seq (.blk 1 (.seq (.reg r51_5) (.seq (.draw r51_6) (.cond (.t 35) (.seq (.reg r51_7) .ret) .skip)))) (.reg r51_8))))
def c51 : ACode := (.seq (.reg r51_0) (.seq (.reg r51_1) (.seq (.reg r51_2) (.seq (.seq (.reg r51_3) (.blk 0 (.loop b51_0))) (.seq (.reg r51_9) .ret)))))
def fn51 : AFunc := ⟨37, [(.t 4)], c51⟩
theorem comp51 : comp Try.prog 51 = some fn51 := by kernel_rfl
def r52_0 : List AOper := [⟨some 3, (.a (.box (.t 0))), none, 0⟩, oC 6 (.bool false) 0]
def r52_1 : List AOper := [oM 7 2 0, oQ 8 (.fadr 5 6 (.t 3)) 0, oQ 9 (.fadr 3 1 (.t 8)) 2, oR 10 9 6, oQ 11 (.len false (.t 10)) 14, oQ 12 (.bin .lss (.t 7) (.t 11)) 31, oM 13 12 63, oG 14 (.mov (.t 2)) 13 true 127, oG 15 (.mov (.t 1)) 13 true 127, oG 16 (.bin .gtr (.t 14) (.t 15)) 13 true 511, oG 17 (.mov (.t 16)) 13 true 1023, oG 18 (.fadr 5 6 (.t 3)) 17 false 2047, oG 19 (.fadr 3 1 (.t 18)) 17 false 4095, ⟨some 20, (.r .load1 (.t 19) (.t 19)), some ⟨17, false⟩, 8191⟩, oG 21 (.mov (.t 2)) 17 false 2047, oG 22 (.iadr 4 (.t 20) (.t 21)) 17 false 32767, oG 23 (.fadr 0 1 (.t 22)) 17 false 65535, ⟨some 24, (.r .load1 (.t 23) (.t 23)), some ⟨17, false⟩, 131071⟩, oG 25 (.bin .eql (.t 24) (oI 0)) 17 false 262143, oG 26 (.pick (.t 17) (.c (.bool true)) (.t 25)) 13 true 524287, oQ 27 (.pick (.t 13) (.t 26) (.c (.bool false))) 1048575, oM 6 27 2097151]
def c52 : ACode := (.seq (.reg r52_0) (.seq (.reg r52_1) .ret))
def fn52 : AFunc := ⟨28, [(.t 6)], c52⟩
theorem comp52 : comp Try.prog 52 = some fn52 := by kernel_rfl
def r53_0 : List AOper := [⟨some 2, (.a (.box (.t 0))), none, 0⟩, oC 4 (.bool false) 0]
def r53_1 : List AOper := [oM 8 1 0, oQ 9 (.fadr 0 5 (.t 2)) 0, oQ 10 (.fadr 3 1 (.t 9)) 2, oR 11 10 6, oQ 12 (.bin .lss (.t 8) (.t 11)) 15, oM 13 12 31, oG 14 (.mov (.t 1)) 13 false 63, oG 15 (.fadr 0 5 (.t 2)) 13 false 63, oG 16 (.fadr 4 1 (.t 15)) 13 false 191, ⟨some 17, (.r .load1 (.t 16) (.t 16)), some ⟨13, false⟩, 447⟩, oG 18 (.len false (.t 17)) 13 false 959, oG 19 (.bin .geq (.t 14) (.t 18)) 13 false 2047, oQ 20 (.pick (.t 13) (.c (.bool true)) (.t 19)) 4095]
def r53_2 : List AOper := [oC 4 (.bool false) 0]
def r53_3 : List AOper := [oQ 21 (.fadr 0 5 (.t 2)) 0, oQ 22 (.fadr 4 1 (.t 21)) 1, oR 23 22 3, oM 24 1 0, oQ 25 (.iadr 6 (.t 23) (.t 24)) 15, oQ 26 (.fadr 5 1 (.t 25)) 31, oR 27 26 63, oQ 28 (.len false (.t 27)) 127, oC 29 (.int .i64 (.ofNat 0)) 0]
def r53_4 : List AOper := [oQ 30 (.bin .lss (.t 29) (.t 28)) 0]
def r53_5 : List AOper := [oQ 31 (.iadr 2 (.t 27) (.t 29)) 0, ⟨some 32, (.r (.loadn 2) (.t 31) (.t 31)), none, 1⟩, ⟨some 6, (.a (.alloc [.bool false, (.int .i64 (.ofNat 0))])), none, 0⟩, ⟨none, (.e (.store 2 (.t 6) (.t 32))), none, 7⟩]
def r53_6 : List AOper := [oQ 33 (.fadr 5 6 (.t 2)) 0, oQ 34 (.fadr 2 1 (.t 33)) 1, oR 35 34 3, oM 7 35 7]
def r53_7 : List AOper := [oQ 36 (.fadr 0 1 (.t 6)) 0, oR 37 36 1]
def r53_8 : List AOper := [oQ 38 (.fadr 5 6 (.t 2)) 0, oQ 39 (.fadr 5 1 (.t 38)) 1, oR 40 39 3, oQ 41 (.len false (.t 40)) 7, oM 7 41 15]
def r53_9 : List AOper := [oQ 42 (.fadr 1 1 (.t 6)) 0, oR 43 42 1, oM 44 7 0, oQ 45 (.bin .geq (.t 43) (.t 44)) 7]
def r53_10 : List AOper := [oC 4 (.bool false) 0]
def r53_11 : List AOper := [oQ 46 (.bin .add (.t 29) (oI 1)) 0, oM 29 46 1]
def r53_12 : List AOper := [oC 4 (.bool true) 0]
def b53_0 : ACode := (.seq (.reg r53_4) (.seq (.cond (.t 30) .skip (.ext 0)) (.seq (.blk 1 (.seq (.reg r53_5) (.seq (.reg r53_6) (.seq (.seq (.reg r53_7) (.cond (.t 37) (.reg r53_8) .skip)) (.seq (.reg r53_9) (.cond (.t 45) (.seq (.reg r53_10) .ret) .skip)))))) (.reg r53_11))))
def c53 : ACode := (.seq (.reg r53_0) (.seq (.seq (.reg r53_1) (.cond (.t 20) (.seq (.reg r53_2) .ret) .skip)) (.seq (.seq (.reg r53_3) (.blk 0 (.loop b53_0))) (.seq (.reg r53_12) .ret))))
def fn53 : AFunc := ⟨47, [(.t 4)], c53⟩
theorem comp53 : comp Try.prog 53 = some fn53 := by kernel_rfl
def r61_0 : List AOper := [oC 2 (.bool false) 0]
def r61_1 : List AOper := [oM 3 0 0, oQ 4 (.bin .neq (.t 3) (.c (.str []))) 1, oM 5 4 3, oG 6 (.mov (.t 0)) 5 true 7, oG 7 (.idxs (.t 6) (oI 0)) 5 true 15, oG 8 (.toInt .i32 (.t 7)) 5 true 31, ⟨some 9, (.e (.call 75 [.t 8])), some ⟨5, true⟩, 63⟩, oQ 10 (.pick (.t 5) (.t 9) (.c (.bool false))) 127, oM 11 10 255, oG 12 (.mov (.t 0)) 11 true 511, ⟨some 13, (.e (.call 76 [.t 12, (.c (.fn 77 [] []))])), some ⟨11, true⟩, 1023⟩, oG 14 (.len true (.t 13)) 11 true 2047, oG 15 (.mov (.t 0)) 11 true 511, oG 16 (.len true (.t 15)) 11 true 4607, oG 17 (.bin .eql (.t 14) (.t 16)) 11 true 16383, oQ 18 (.pick (.t 11) (.t 17) (.c (.bool false))) 32767, oM 2 18 65535]
def c61 : ACode := (.seq (.reg r61_0) (.seq (.reg r61_1) .ret))
def fn61 : AFunc := ⟨19, [(.t 2)], c61⟩
theorem comp61 : comp Try.prog 61 = some fn61 := by kernel_rfl
def r62_0 : List AOper := [oC 2 (.bool false) 0]
def r62_1 : List AOper := [oM 3 0 0, oK 4 61 [.t 3] 1, oM 5 4 3, oG 6 (.mov (.t 0)) 5 true 7, oG 7 (.bin .add (.c (.str [32])) (.t 6)) 5 true 15, oG 8 (.bin .add (.t 7) (.c (.str [32]))) 5 true 31, ⟨some 9, (.e (.call 78 [(.c (.str [32, 109, 111, 100, 117, 108, 101, 32, 117, 115, 101, 32, 102, 110, 32, 108, 101, 116, 32, 105, 102, 32, 101, 108, 115, 101, 32, 119, 104, 105, 108, 101, 32, 98, 114, 101, 97, 107, 32, 99, 111, 110, 116, 105, 110, 117, 101, 32, 114, 101, 116, 117, 114, 110, 32, 112, 117, 116, 32, 101, 109, 105, 116, 32, 121, 105, 101, 108, 100, 32, 110, 105, 108, 32, 115, 116, 97, 116, 101, 32, 115, 112, 97, 119, 110, 32, 108, 101, 110, 32, 110, 111, 116, 32, 97, 110, 100, 32, 111, 114, 32])), .t 8])), some ⟨5, true⟩, 63⟩, oQ 10 (.pick (.t 5) (.t 9) (.c (.bool false))) 127, oM 2 10 255]
def c62 : ACode := (.seq (.reg r62_0) (.seq (.reg r62_1) .ret))
def fn62 : AFunc := ⟨11, [(.t 2)], c62⟩
theorem comp62 : comp Try.prog 62 = some fn62 := by kernel_rfl
def r63_0 : List AOper := [oC 6 (.bool false) 0]
def r63_1 : List AOper := [oM 9 0 0, oQ 10 (.len false (.t 9)) 1, oM 11 1 0, oQ 12 (.bin .gtr (.t 10) (.t 11)) 7]
def r63_2 : List AOper := [oC 6 (.bool false) 0]
def r63_3 : List AOper := [oM 13 0 0, oQ 14 (.len false (.t 13)) 1, oC 15 (.int .i64 (.ofNat 0)) 0]
def r63_4 : List AOper := [oQ 16 (.bin .lss (.t 15) (.t 14)) 0]
def r63_5 : List AOper := [oQ 17 (.iadr 2 (.t 13) (.t 15)) 0, ⟨some 18, (.r (.loadn 2) (.t 17) (.t 17)), none, 1⟩, ⟨some 8, (.a (.alloc [.bool false, (.int .i64 (.ofNat 0))])), none, 0⟩, ⟨none, (.e (.store 2 (.t 8) (.t 18))), none, 7⟩]
def r63_6 : List AOper := [oM 19 2 0, ⟨some 20, (.r (.loadn 2) (.t 8) (.t 8)), none, 0⟩, ⟨some 21, (.e (.callv (.t 19) [.t 20])), none, 3⟩, oQ 22 (.un .not (.t 21)) 7]
def r63_7 : List AOper := [oC 6 (.bool false) 0]
def r63_8 : List AOper := [oQ 23 (.bin .add (.t 15) (oI 1)) 0, oM 15 23 1]
def r63_9 : List AOper := [oC 6 (.bool true) 0]
def b63_0 : ACode := (.seq (.reg r63_4) (.seq (.cond (.t 16) .skip (.ext 0)) (.seq (.blk 1 (.seq (.reg r63_5) (.seq (.reg r63_6) (.cond (.t 22) (.seq (.reg r63_7) .ret) .skip)))) (.reg r63_8))))
def c63 : ACode := (.seq (.reg r63_0) (.seq (.seq (.reg r63_1) (.cond (.t 12) (.seq (.reg r63_2) .ret) .skip)) (.seq (.seq (.reg r63_3) (.blk 0 (.loop b63_0))) (.seq (.reg r63_9) .ret))))
def fn63 : AFunc := ⟨24, [(.t 6)], c63⟩
theorem comp63 : comp Try.prog 63 = some fn63 := by kernel_rfl
def r64_0 : List AOper := [⟨some 1, (.a (.box (.t 0))), none, 0⟩, oC 2 (.bool false) 0]
def r64_1 : List AOper := [oQ 3 (.fadr 1 1 (.t 1)) 0, oR 4 3 1, oK 5 43 [.t 4, oI 0, oI 255] 3, oM 2 5 7]
def c64 : ACode := (.seq (.reg r64_0) (.seq (.reg r64_1) .ret))
def fn64 : AFunc := ⟨6, [(.t 2)], c64⟩
theorem comp64 : comp Try.prog 64 = some fn64 := by kernel_rfl
def r65_0 : List AOper := [oC 6 (.bool false) 0]
def r65_1 : List AOper := [oM 9 0 0, oQ 10 (.len false (.t 9)) 1, oM 11 1 0, oQ 12 (.bin .gtr (.t 10) (.t 11)) 7]
def r65_2 : List AOper := [oC 6 (.bool false) 0]
def r65_3 : List AOper := [oM 13 0 0, oQ 14 (.len false (.t 13)) 1, oC 15 (.int .i64 (.ofNat 0)) 0]
def r65_4 : List AOper := [oQ 16 (.bin .lss (.t 15) (.t 14)) 0]
def r65_5 : List AOper := [oQ 17 (.iadr 3 (.t 13) (.t 15)) 0, ⟨some 18, (.r (.loadn 3) (.t 17) (.t 17)), none, 1⟩, ⟨some 8, (.a (.alloc [(.int .i64 (.ofNat 0)), (.int .i64 (.ofNat 0)), .str []])), none, 0⟩, ⟨none, (.e (.store 3 (.t 8) (.t 18))), none, 7⟩]
def r65_6 : List AOper := [oM 19 2 0, ⟨some 20, (.r (.loadn 3) (.t 8) (.t 8)), none, 0⟩, ⟨some 21, (.e (.callv (.t 19) [.t 20])), none, 3⟩, oQ 22 (.un .not (.t 21)) 7]
def r65_7 : List AOper := [oC 6 (.bool false) 0]
def r65_8 : List AOper := [oQ 23 (.bin .add (.t 15) (oI 1)) 0, oM 15 23 1]
def r65_9 : List AOper := [oC 6 (.bool true) 0]
def b65_0 : ACode := (.seq (.reg r65_4) (.seq (.cond (.t 16) .skip (.ext 0)) (.seq (.blk 1 (.seq (.reg r65_5) (.seq (.reg r65_6) (.cond (.t 22) (.seq (.reg r65_7) .ret) .skip)))) (.reg r65_8))))
def c65 : ACode := (.seq (.reg r65_0) (.seq (.seq (.reg r65_1) (.cond (.t 12) (.seq (.reg r65_2) .ret) .skip)) (.seq (.seq (.reg r65_3) (.blk 0 (.loop b65_0))) (.seq (.reg r65_9) .ret))))
def fn65 : AFunc := ⟨24, [(.t 6)], c65⟩
theorem comp65 : comp Try.prog 65 = some fn65 := by kernel_rfl
def r66_0 : List AOper := [⟨some 1, (.a (.box (.t 0))), none, 0⟩, oC 2 (.bool false) 0]
def r66_1 : List AOper := [oQ 3 (.fadr 0 1 (.t 1)) 0, oR 4 3 1]
def r66_2 : List AOper := [oQ 6 (.bin .eql (.t 4) (oI 0)) 0, oM 5 6 1]
def r66_3 : List AOper := [⟨some 7, (.r (.loadn 3) (.t 1) (.t 1)), none, 0⟩, oQ 8 (.build [(.int .i64 (.ofNat 0)), (.int .i64 (.ofNat 0)), .str []] []) 0, oQ 9 (.eq false (.flat true [.i, .i, .s]) (.t 7) (.t 8)) 3, oM 2 9 7]
def r66_4 : List AOper := [oQ 11 (.bin .eql (.t 4) (oI 1)) 0, oM 10 11 1]
def r66_5 : List AOper := [oQ 12 (.fadr 2 1 (.t 1)) 0, oR 13 12 1, oQ 14 (.bin .eql (.t 13) (.c (.str []))) 3, oM 2 14 7]
def r66_6 : List AOper := [oQ 16 (.bin .eql (.t 4) (oI 2)) 0, oM 15 16 1]
def r66_7 : List AOper := [oQ 17 (.fadr 1 1 (.t 1)) 0, oR 18 17 1, oQ 19 (.bin .eql (.t 18) (oI 0)) 3, oM 20 19 7, oG 21 (.fadr 2 1 (.t 1)) 20 true 15, ⟨some 22, (.r .load1 (.t 21) (.t 21)), some ⟨20, true⟩, 31⟩, oG 23 (.len true (.t 22)) 20 true 63, oG 24 (.bin .leq (.t 23) (oI 1024)) 20 true 127, oQ 25 (.pick (.t 20) (.t 24) (.c (.bool false))) 255, oM 2 25 511]
def r66_8 : List AOper := [oC 2 (.bool false) 0]
def c66 : ACode := (.seq (.reg r66_0) (.seq (.seq (.reg r66_1) (.blk 0 (.seq (.reg r66_2) (.cond (.t 5) (.seq (.reg r66_3) .ret) (.seq (.reg r66_4) (.cond (.t 10) (.seq (.reg r66_5) .ret) (.seq (.reg r66_6) (.cond (.t 15) (.seq (.reg r66_7) .ret) .skip)))))))) (.seq (.reg r66_8) .ret)))
def fn66 : AFunc := ⟨26, [(.t 2)], c66⟩
theorem comp66 : comp Try.prog 66 = some fn66 := by kernel_rfl
def r67_0 : List AOper := [oC 6 (.bool false) 0]
def r67_1 : List AOper := [oM 9 0 0, oQ 10 (.len false (.t 9)) 1, oM 11 1 0, oQ 12 (.bin .gtr (.t 10) (.t 11)) 7]
def r67_2 : List AOper := [oC 6 (.bool false) 0]
def r67_3 : List AOper := [oM 13 0 0, oQ 14 (.len false (.t 13)) 1, oC 15 (.int .i64 (.ofNat 0)) 0]
def r67_4 : List AOper := [oQ 16 (.bin .lss (.t 15) (.t 14)) 0]
def r67_5 : List AOper := [oQ 17 (.iadr 4 (.t 13) (.t 15)) 0, ⟨some 18, (.r (.loadn 4) (.t 17) (.t 17)), none, 1⟩, ⟨some 8, (.a (.alloc [(.int .i64 (.ofNat 0)), (.int .i64 (.ofNat 0)), (.int .i64 (.ofNat 0)), (.int .i64 (.ofNat 0))])), none, 0⟩, ⟨none, (.e (.store 4 (.t 8) (.t 18))), none, 7⟩]
def r67_6 : List AOper := [oM 19 2 0, ⟨some 20, (.r (.loadn 4) (.t 8) (.t 8)), none, 0⟩, ⟨some 21, (.e (.callv (.t 19) [.t 20])), none, 3⟩, oQ 22 (.un .not (.t 21)) 7]
def r67_7 : List AOper := [oC 6 (.bool false) 0]
def r67_8 : List AOper := [oQ 23 (.bin .add (.t 15) (oI 1)) 0, oM 15 23 1]
def r67_9 : List AOper := [oC 6 (.bool true) 0]
def b67_0 : ACode := (.seq (.reg r67_4) (.seq (.cond (.t 16) .skip (.ext 0)) (.seq (.blk 1 (.seq (.reg r67_5) (.seq (.reg r67_6) (.cond (.t 22) (.seq (.reg r67_7) .ret) .skip)))) (.reg r67_8))))
def c67 : ACode := (.seq (.reg r67_0) (.seq (.seq (.reg r67_1) (.cond (.t 12) (.seq (.reg r67_2) .ret) .skip)) (.seq (.seq (.reg r67_3) (.blk 0 (.loop b67_0))) (.seq (.reg r67_9) .ret))))
def fn67 : AFunc := ⟨24, [(.t 6)], c67⟩
theorem comp67 : comp Try.prog 67 = some fn67 := by kernel_rfl
def r68_0 : List AOper := [⟨some 1, (.a (.box (.t 0))), none, 0⟩, oC 2 (.bool false) 0]
def r68_1 : List AOper := [oQ 5 (.fadr 0 1 (.t 1)) 0, oR 6 5 1, oK 7 69 [.t 6] 3, oM 3 7 7]
def r68_2 : List AOper := [oM 8 3 0, oQ 9 (.bin .eql (.t 8) (.c (.str []))) 1]
def r68_3 : List AOper := [oC 2 (.bool false) 0]
def r68_4 : List AOper := [oM 10 3 0, oM 11 3 0, oQ 12 (.len true (.t 11)) 2, oQ 13 (.bin .sub (.t 12) (oI 1)) 6, oQ 14 (.idxs (.t 10) (.t 13)) 15, oM 4 14 31]
def r68_5 : List AOper := [oQ 15 (.fadr 1 1 (.t 1)) 0, oR 16 15 1, oM 17 3 0, oQ 18 (.idxs (.t 17) (oI 0)) 4, oK 19 79 [.t 16, .t 18] 15, oM 20 19 31, oG 21 (.fadr 2 1 (.t 1)) 20 true 63, ⟨some 22, (.r .load1 (.t 21) (.t 21)), some ⟨20, true⟩, 127⟩, oG 23 (.mov (.t 3)) 20 true 63, oG 24 (.idxs (.t 23) (oI 1)) 20 true 319, ⟨some 25, (.e (.call 79 [.t 22, .t 24])), some ⟨20, true⟩, 1023⟩, oQ 26 (.pick (.t 20) (.t 25) (.c (.bool false))) 2047, oM 27 26 4095, oG 28 (.fadr 3 1 (.t 1)) 27 true 8191, ⟨some 29, (.r .load1 (.t 28) (.t 28)), some ⟨27, true⟩, 16383⟩, oG 30 (.mov (.t 4)) 27 true 8191, ⟨some 31, (.e (.call 79 [.t 29, .t 30])), some ⟨27, true⟩, 65535⟩, oQ 32 (.pick (.t 27) (.t 31) (.c (.bool false))) 131071, oM 2 32 262143]
def c68 : ACode := (.seq (.reg r68_0) (.seq (.reg r68_1) (.seq (.seq (.reg r68_2) (.cond (.t 9) (.seq (.reg r68_3) .ret) .skip)) (.seq (.reg r68_4) (.seq (.draw r68_5) .ret)))))
def fn68 : AFunc := ⟨33, [(.t 2)], c68⟩
theorem comp68 : comp Try.prog 68 = some fn68 := by kernel_rfl
def r69_0 : List AOper := [oC 2 (.str []) 0]
def r69_1 : List AOper := [oM 4 0 0, oK 5 80 [.t 4] 1, oQ 6 (.un .not (.t 5)) 3]
def r69_2 : List AOper := [oC 2 (.str []) 0]
def r69_3 : List AOper := [oM 7 0 0, oQ 8 (.bin .mul (oI 3) (.t 7)) 1, oM 9 0 0, oQ 10 (.bin .mul (oI 3) (.t 9)) 4, oQ 11 (.bin .add (.t 10) (oI 3)) 12, oQ 12 (.sstr (.c (.str [110, 45, 45, 114, 45, 45, 114, 119, 46, 114, 114, 45, 114, 45, 45, 114, 114, 45, 114, 114, 45, 114, 117, 45, 117, 114, 45, 114, 114, 114, 114, 114, 114, 114, 114, 114, 114, 114, 114, 114, 114, 114, 114, 114, 114, 114, 114, 114, 114, 114, 114, 114, 114, 114, 114, 114, 114, 114, 114, 45, 114, 114, 45, 114, 114, 45, 114, 45, 45, 114, 114, 114, 114, 114, 114, 45, 119, 46, 114, 119, 46, 114, 119, 46, 114, 119, 46, 114, 114, 110, 114, 114, 110, 114, 114, 110, 114, 114, 45, 114, 45, 45, 114, 45, 45, 114, 45, 45, 110, 45, 45, 114, 45, 45])) (some (.t 8)) (some (.t 11))) 31, oM 3 12 63]
def r69_4 : List AOper := [oM 13 3 0, oQ 14 (.idxs (.t 13) (oI 2)) 1, oQ 15 (.bin .eql (.t 14) (.c (.int .u8 (.ofNat 46)))) 3]
def r69_5 : List AOper := [oM 16 3 0, oQ 17 (.sstr (.t 16) none (some (oI 2))) 1, oM 3 17 3]
def r69_6 : List AOper := [oM 18 3 0, oM 2 18 1]
def c69 : ACode := (.seq (.reg r69_0) (.seq (.seq (.reg r69_1) (.cond (.t 6) (.seq (.reg r69_2) .ret) .skip)) (.seq (.reg r69_3) (.seq (.seq (.reg r69_4) (.cond (.t 15) (.reg r69_5) .skip)) (.seq (.reg r69_6) .ret)))))
def fn69 : AFunc := ⟨19, [(.t 2)], c69⟩
theorem comp69 : comp Try.prog 69 = some fn69 := by kernel_rfl
def r75_0 : List AOper := [oC 2 (.bool false) 0]
def r75_1 : List AOper := [oM 3 0 0, oQ 4 (.bin .geq (.t 3) (.c (.int .i32 (.ofNat 97)))) 1, oM 5 4 3, oG 6 (.mov (.t 0)) 5 true 7, oG 7 (.bin .leq (.t 6) (.c (.int .i32 (.ofNat 122)))) 5 true 15, oQ 8 (.pick (.t 5) (.t 7) (.c (.bool false))) 31, oM 2 8 63]
def c75 : ACode := (.seq (.reg r75_0) (.seq (.reg r75_1) .ret))
def fn75 : AFunc := ⟨9, [(.t 2)], c75⟩
theorem comp75 : comp Try.prog 75 = some fn75 := by kernel_rfl
def r76_0 : List AOper := [oC 4 (.str []) 0]
def r76_1 : List AOper := [oM 7 0 0, ⟨some 8, (.e (.rng true (.t 7))), none, 1⟩]
def r76_2 : List AOper := [⟨some 9, (.e (.next true (.t 8))), none, 0⟩, oE 10 9 0 1]
def r76_3 : List AOper := [oE 11 9 1 0, oE 12 9 2 0, oM 5 11 1, oM 6 12 7]
def r76_4 : List AOper := [oM 13 1 0, oM 14 6 0, ⟨some 15, (.e (.callv (.t 13) [.t 14])), none, 3⟩, oQ 16 (.un .not (.t 15)) 7]
def r76_5 : List AOper := [oM 17 0 0, oM 18 5 0, oQ 19 (.sstr (.t 17) none (some (.t 18))) 3, oM 4 19 7]
def r76_6 : List AOper := [oM 20 0 0, oM 4 20 1]
def b76_0 : ACode := (.seq (.reg r76_2) (.seq (.cond (.t 10) .skip (.ext 0)) (.blk 1 (.seq (.reg r76_3) (.seq (.reg r76_4) (.cond (.t 16) (.seq (.reg r76_5) .ret) .skip))))))
def c76 : ACode := (.seq (.reg r76_0) (.seq (.seq (.reg r76_1) (.blk 0 (.loop b76_0))) (.seq (.reg r76_6) .ret)))
def fn76 : AFunc := ⟨21, [(.t 4)], c76⟩
theorem comp76 : comp Try.prog 76 = some fn76 := by kernel_rfl
def r77_0 : List AOper := [oC 2 (.bool false) 0]
def r77_1 : List AOper := [oM 3 0 0, oK 4 75 [.t 3] 1, oM 5 4 3, oG 6 (.mov (.t 0)) 5 false 7, ⟨some 7, (.e (.call 87 [.t 6])), some ⟨5, false⟩, 15⟩, oQ 8 (.pick (.t 5) (.c (.bool true)) (.t 7)) 31, oM 9 8 63, oG 10 (.mov (.t 0)) 9 false 127, oG 11 (.bin .eql (.t 10) (.c (.int .i32 (.ofNat 95)))) 9 false 255, oQ 12 (.pick (.t 9) (.c (.bool true)) (.t 11)) 511, oM 2 12 1023]
def c77 : ACode := (.seq (.reg r77_0) (.seq (.reg r77_1) .ret))
def fn77 : AFunc := ⟨13, [(.t 2)], c77⟩
theorem comp77 : comp Try.prog 77 = some fn77 := by kernel_rfl
def r78_0 : List AOper := [oC 4 (.bool false) 0]
def r78_1 : List AOper := [oC 5 (.int .i64 (.ofNat 0)) 0]
def r78_2 : List AOper := [oM 6 5 0, oM 7 1 0, oQ 8 (.len true (.t 7)) 2, oQ 9 (.bin .add (.t 6) (.t 8)) 7, oM 10 0 0, oQ 11 (.len true (.t 10)) 16, oQ 12 (.bin .leq (.t 9) (.t 11)) 63]
def r78_3 : List AOper := [oM 15 0 0, oM 16 5 0, oM 17 5 0, oM 18 1 0, oQ 19 (.len true (.t 18)) 8, oQ 20 (.bin .add (.t 17) (.t 19)) 28, oQ 21 (.sstr (.t 15) (some (.t 16)) (some (.t 20))) 63, oM 22 1 0, oQ 23 (.bin .eql (.t 21) (.t 22)) 255]
def r78_4 : List AOper := [oC 4 (.bool true) 0]
def r78_5 : List AOper := [oM 13 5 0, oQ 14 (.bin .add (.t 13) (oI 1)) 1, oM 5 14 3]
def r78_6 : List AOper := [oC 4 (.bool false) 0]
def b78_0 : ACode := (.seq (.seq (.reg r78_2) (.cond (.t 12) .skip (.ext 0))) (.seq (.blk 1 (.seq (.reg r78_3) (.cond (.t 23) (.seq (.reg r78_4) .ret) .skip))) (.reg r78_5)))
def c78 : ACode := (.seq (.reg r78_0) (.seq (.seq (.reg r78_1) (.blk 0 (.loop b78_0))) (.seq (.reg r78_6) .ret)))
def fn78 : AFunc := ⟨24, [(.t 4)], c78⟩
theorem comp78 : comp Try.prog 78 = some fn78 := by kernel_rfl
def r79_0 : List AOper := [oC 4 (.bool false) 0]
def r79_1 : List AOper := [oM 5 1 0, oQ 6 (.bin .eql (.t 5) (.c (.int .u8 (.ofNat 45)))) 1]
def r79_2 : List AOper := [oM 7 0 0, oQ 8 (.bin .eql (.t 7) (oI 0)) 1, oM 4 8 3]
def r79_3 : List AOper := [oM 9 0 0, oQ 10 (.bin .geq (.t 9) (oI 0)) 1, oM 11 10 3, oG 12 (.mov (.t 0)) 11 true 7, oG 13 (.bin .leq (.t 12) (oI 255)) 11 true 15, oQ 14 (.pick (.t 11) (.t 13) (.c (.bool false))) 31, oM 4 14 63]
def c79 : ACode := (.seq (.reg r79_0) (.seq (.seq (.reg r79_1) (.cond (.t 6) (.seq (.reg r79_2) .ret) .skip)) (.seq (.reg r79_3) .ret)))
def fn79 : AFunc := ⟨15, [(.t 4)], c79⟩
theorem comp79 : comp Try.prog 79 = some fn79 := by kernel_rfl
def r80_0 : List AOper := [oC 2 (.bool false) 0]
def r80_1 : List AOper := [oM 3 0 0, oQ 4 (.bin .geq (.t 3) (oI 0)) 1, oM 5 4 3, oG 6 (.mov (.t 0)) 5 true 7, oG 7 (.bin .lss (.t 6) (oI 38)) 5 true 15, oQ 8 (.pick (.t 5) (.t 7) (.c (.bool false))) 31, oM 2 8 63]
def c80 : ACode := (.seq (.reg r80_0) (.seq (.reg r80_1) .ret))
def fn80 : AFunc := ⟨9, [(.t 2)], c80⟩
theorem comp80 : comp Try.prog 80 = some fn80 := by kernel_rfl
def r87_0 : List AOper := [oC 2 (.bool false) 0]
def r87_1 : List AOper := [oM 3 0 0, oQ 4 (.bin .geq (.t 3) (.c (.int .i32 (.ofNat 48)))) 1, oM 5 4 3, oG 6 (.mov (.t 0)) 5 true 7, oG 7 (.bin .leq (.t 6) (.c (.int .i32 (.ofNat 57)))) 5 true 15, oQ 8 (.pick (.t 5) (.t 7) (.c (.bool false))) 31, oM 2 8 63]
def c87 : ACode := (.seq (.reg r87_0) (.seq (.reg r87_1) .ret))
def fn87 : AFunc := ⟨9, [(.t 2)], c87⟩
theorem comp87 : comp Try.prog 87 = some fn87 := by kernel_rfl
end Go.Proofs.Ytlimjjilakldgaa
