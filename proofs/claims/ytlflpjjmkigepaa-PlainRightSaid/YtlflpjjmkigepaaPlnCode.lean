/- The code of the functions that the laws reach, as the evaluator reads it. No statement stands here but that it is so. -/
import Derived.Test.YtlflpjjmkigepaaRows
import Derived.Test.YtlflpjjmkigepaaAbsU
set_option autoImplicit false
set_option maxRecDepth 100000
namespace Go.Proofs.Ytlflpjjmkigepaa
open Go Go.Abs
theorem mixed : Try.prog.follows .mixedOrders = true := by kernel_rfl
theorem plain0 : Sound Try.prog (acall (comp Try.prog) (fun _ => none) 60) := acall_ok mixed (fun f g h => by cases h) 60
def r4_0 : List AOper := [oC 2 (.bool false) 0]
def r4_1 : List AOper := [oM 3 0 0, oQ 4 (.len true (.t 3)) 1, oQ 5 (.bin .gtr (.t 4) (oI 20000)) 3]
def r4_2 : List AOper := [oK 6 11 [] 0, oM 2 6 1]
def r4_3 : List AOper := [oM 7 0 0, oK 8 14 [.t 7] 1, oM 9 0 0, oK 10 15 [.t 9] 7, oQ 11 (.eq false (.flat false [.b]) (.t 8) (.t 10)) 15, oM 12 11 31, oG 13 (.mov (.t 0)) 12 true 63, ⟨some 14, (.e (.call 16 [.t 13])), some ⟨12, true⟩, 127⟩, oG 15 (.mov (.t 0)) 12 true 63, ⟨some 16, (.e (.call 17 [.t 15])), some ⟨12, true⟩, 511⟩, oG 17 (.bin .eql (.t 14) (.t 16)) 12 true 1023, oQ 18 (.pick (.t 12) (.t 17) (.c (.bool false))) 2047, oM 19 18 4095, ⟨some 20, (.e (.call 11 [])), some ⟨19, true⟩, 8191⟩, oQ 21 (.pick (.t 19) (.t 20) (.c (.bool false))) 16383, oM 2 21 32767]
def c4 : ACode := (.seq (.reg r4_0) (.seq (.seq (.reg r4_1) (.cond (.t 5) (.seq (.reg r4_2) .ret) .skip)) (.seq (.reg r4_3) .ret)))
def fn4 : AFunc := ⟨22, [(.t 2)], c4⟩
theorem comp4 : comp Try.prog 4 = some fn4 := by kernel_rfl
def r14_0 : List AOper := [oC 2 (.bool false) 0]
def r14_1 : List AOper := [oM 6 0 0, oK 7 41 [.t 6] 1, oK 8 42 [.t 7] 3, oM 5 8 7, oE 9 5 0 15, oE 10 5 1 15, ⟨some 3, (.a (.alloc [(.int .i64 (.ofNat 0)), (.int .i64 (.ofNat 0)), .str []])), none, 0⟩, ⟨none, (.e (.store 3 (.t 3) (.t 9))), none, 95⟩, oM 4 10 255]
def r14_2 : List AOper := [oM 11 4 0, oM 2 11 1]
def c14 : ACode := (.seq (.reg r14_0) (.seq (.reg r14_1) (.seq (.reg r14_2) .ret)))
def fn14 : AFunc := ⟨12, [(.t 2)], c14⟩
theorem comp14 : comp Try.prog 14 = some fn14 := by kernel_rfl
def r15_0 : List AOper := [oC 2 (.bool false) 0]
def r15_1 : List AOper := [oM 7 0 0, oK 8 43 [.t 7, oI 0, oI 200] 1, oM 6 8 3, oE 9 6 0 7, oE 10 6 1 7, oE 11 6 2 7, oM 3 9 15, oM 4 10 95, oM 5 11 255]
def r15_2 : List AOper := [oM 12 3 0, oM 13 0 0, oQ 14 (.len true (.t 13)) 2, oQ 15 (.bin .eql (.t 12) (.t 14)) 7, oM 16 15 15, oG 17 (.mov (.t 0)) 16 true 31, oG 18 (.len true (.t 17)) 16 true 63, oG 19 (.bin .gtr (.t 18) (oI 0)) 16 true 127, oQ 20 (.pick (.t 16) (.t 19) (.c (.bool false))) 255, oM 2 20 511]
def c15 : ACode := (.seq (.reg r15_0) (.seq (.reg r15_1) (.seq (.reg r15_2) .ret)))
def fn15 : AFunc := ⟨21, [(.t 2)], c15⟩
theorem comp15 : comp Try.prog 15 = some fn15 := by kernel_rfl
def r16_0 : List AOper := [oC 2 (.int .i64 (.ofNat 0)) 0]
def r16_1 : List AOper := [oM 6 0 0, oK 7 41 [.t 6] 1, oM 3 7 3]
def r16_2 : List AOper := [oM 9 3 0, oK 10 42 [.t 9] 1, oM 8 10 3, oE 11 8 0 7, oE 12 8 1 7, ⟨some 4, (.a (.alloc [(.int .i64 (.ofNat 0)), (.int .i64 (.ofNat 0)), .str []])), none, 0⟩, ⟨none, (.e (.store 3 (.t 4) (.t 11))), none, 47⟩, oM 5 12 127]
def r16_3 : List AOper := [oM 13 5 0, oQ 14 (.un .not (.t 13)) 1]
def r16_4 : List AOper := [oC 2 (.int .i64 (.ofNat 0)) 0]
def r16_5 : List AOper := [oM 15 3 0, oQ 16 (.nilchk (.t 15)) 1, oQ 17 (.fadr 3 1 (.t 16)) 3, oR 18 17 7, oM 2 18 15]
def c16 : ACode := (.seq (.reg r16_0) (.seq (.reg r16_1) (.seq (.seq (.reg r16_2) (.seq (.reg r16_3) (.cond (.t 14) (.seq (.reg r16_4) .ret) .skip))) (.seq (.reg r16_5) .ret))))
def fn16 : AFunc := ⟨19, [(.t 2)], c16⟩
theorem comp16 : comp Try.prog 16 = some fn16 := by kernel_rfl
def r17_0 : List AOper := [oC 2 (.int .i64 (.ofNat 0)) 0]
def r17_1 : List AOper := [oM 6 0 0, oK 7 15 [.t 6] 1, oQ 8 (.un .not (.t 7)) 3]
def r17_2 : List AOper := [oC 2 (.int .i64 (.ofNat 0)) 0]
def r17_3 : List AOper := [oM 10 0 0, oK 11 43 [.t 10, oI 0, oI 200] 1, oM 9 11 3, oE 12 9 0 7, oE 13 9 1 7, oE 14 9 2 7, oM 3 12 15, oM 4 13 95, oM 5 14 255]
def r17_4 : List AOper := [oM 15 5 0, oM 2 15 1]
def c17 : ACode := (.seq (.reg r17_0) (.seq (.seq (.reg r17_1) (.cond (.t 8) (.seq (.reg r17_2) .ret) .skip)) (.seq (.reg r17_3) (.seq (.reg r17_4) .ret))))
def fn17 : AFunc := ⟨16, [(.t 2)], c17⟩
theorem comp17 : comp Try.prog 17 = some fn17 := by kernel_rfl
def r31_0 : List AOper := [⟨some 2, (.a (.alloc [(.int .i64 (.ofNat 0)), (.int .i64 (.ofNat 0)), .str []])), none, 0⟩]
def r31_1 : List AOper := [oM 3 0 0, oQ 4 (.build [(.int .i64 (.ofNat 0)), (.int .i64 (.ofNat 0)), .str []] [⟨0, ⟨1, oI 1⟩⟩, ⟨1, ⟨1, .t 3⟩⟩]) 1, ⟨none, (.e (.store 3 (.t 2) (.t 4))), none, 3⟩]
def c31 : ACode := (.seq (.reg r31_0) (.seq (.reg r31_1) .ret))
def fn31 : AFunc := ⟨5, [(.cn 2 3)], c31⟩
theorem comp31 : comp Try.prog 31 = some fn31 := by kernel_rfl
def r32_0 : List AOper := [⟨some 2, (.a (.alloc [(.int .i64 (.ofNat 0)), (.int .i64 (.ofNat 0)), .str []])), none, 0⟩]
def r32_1 : List AOper := [oM 3 0 0, oQ 4 (.build [(.int .i64 (.ofNat 0)), (.int .i64 (.ofNat 0)), .str []] [⟨0, ⟨1, oI 2⟩⟩, ⟨2, ⟨1, .t 3⟩⟩]) 1, ⟨none, (.e (.store 3 (.t 2) (.t 4))), none, 3⟩]
def c32 : ACode := (.seq (.reg r32_0) (.seq (.reg r32_1) .ret))
def fn32 : AFunc := ⟨5, [(.cn 2 3)], c32⟩
theorem comp32 : comp Try.prog 32 = some fn32 := by kernel_rfl
def r41_0 : List AOper := [oC 2 .nilptr 0]
def r41_1 : List AOper := [oM 3 0 0, oQ 4 (.build [.str [], (.int .i64 (.ofNat 0)), (.int .i64 (.ofNat 0)), (.int .i64 (.ofNat 0)), .nilfn, .nilfn] [⟨0, ⟨1, .t 3⟩⟩, ⟨2, ⟨1, oI 200⟩⟩, ⟨4, ⟨1, (.c (.fn 60 [] []))⟩⟩, ⟨5, ⟨1, (.c (.fn 61 [] []))⟩⟩]) 1, ⟨some 5, (.a (.box (.t 4))), none, 3⟩, oM 2 5 7]
def c41 : ACode := (.seq (.reg r41_0) (.seq (.reg r41_1) .ret))
def fn41 : AFunc := ⟨6, [(.t 2)], c41⟩
theorem comp41 : comp Try.prog 41 = some fn41 := by kernel_rfl
def r42_0 : List AOper := [⟨some 2, (.a (.alloc [(.int .i64 (.ofNat 0)), (.int .i64 (.ofNat 0)), .str []])), none, 0⟩, oC 3 (.bool false) 0]
def r42_1 : List AOper := [oM 7 0 0, oK 8 62 [.t 7] 1, oM 6 8 3, oE 9 6 0 7, oE 10 6 1 7, ⟨some 4, (.a (.alloc [(.int .i64 (.ofNat 0)), (.int .i64 (.ofNat 0)), .str []])), none, 0⟩, ⟨none, (.e (.store 3 (.t 4) (.t 9))), none, 47⟩, oM 5 10 127]
def r42_2 : List AOper := [⟨some 11, (.r (.loadn 3) (.t 4) (.t 4)), none, 0⟩, oM 12 5 0, oM 13 12 2, oG 14 (.mov (.t 0)) 13 true 6, oG 15 (.nilchk (.t 14)) 13 true 14, oG 16 (.fadr 1 1 (.t 15)) 13 true 30, ⟨some 17, (.r .load1 (.t 16) (.t 16)), some ⟨13, true⟩, 62⟩, oG 18 (.mov (.t 0)) 13 true 6, oG 19 (.nilchk (.t 18)) 13 true 134, oG 20 (.fadr 0 1 (.t 19)) 13 true 390, ⟨some 21, (.r .load1 (.t 20) (.t 20)), some ⟨13, true⟩, 902⟩, oG 22 (.len true (.t 21)) 13 true 1926, oG 23 (.bin .eql (.t 17) (.t 22)) 13 true 4094, oQ 24 (.pick (.t 13) (.t 23) (.c (.bool false))) 8190, ⟨none, (.e (.store 3 (.t 2) (.t 11))), none, 7⟩, oM 3 24 32767]
def c42 : ACode := (.seq (.reg r42_0) (.seq (.reg r42_1) (.seq (.draw r42_2) .ret)))
def fn42 : AFunc := ⟨25, [(.cn 2 3), (.t 3)], c42⟩
theorem comp42 : comp Try.prog 42 = some fn42 := by kernel_rfl
def r43_0 : List AOper := [oC 6 (.int .i64 (.ofNat 0)) 0, oC 7 (.int .i64 (.ofNat 0)) 1, oC 8 (.int .i64 (.ofNat 0)) 3]
def r43_1 : List AOper := [oM 21 2 0, oQ 22 (.bin .sub (.t 21) (oI 1)) 1, oM 2 22 3]
def r43_2 : List AOper := [oM 23 2 0, oQ 24 (.bin .lss (.t 23) (oI 0)) 1, oM 25 24 3, oG 26 (.mov (.t 1)) 25 false 7, oG 27 (.mov (.t 0)) 25 false 7, oG 28 (.len true (.t 27)) 25 false 23, oG 29 (.bin .geq (.t 26) (.t 28)) 25 false 63, oQ 30 (.pick (.t 25) (.c (.bool true)) (.t 29)) 127]
def r43_3 : List AOper := [oC 6 (.int .i64 (.negSucc 0)) 0, oC 7 (.int .i64 (.ofNat 0)) 1, oC 8 (.int .i64 (.ofNat 0)) 3]
def r43_4 : List AOper := [oM 31 0 0, oM 32 1 0, oQ 33 (.idxs (.t 31) (.t 32)) 3, oQ 34 (.bin .neq (.t 33) (.c (.int .u8 (.ofNat 3)))) 7]
def r43_5 : List AOper := [oM 36 0 0, oM 37 1 0, oK 38 63 [.t 36, .t 37] 3, oM 35 38 7, oE 39 35 0 15, oE 40 35 1 15, ⟨some 9, (.a (.alloc [(.int .i64 (.ofNat 0)), (.int .i64 (.ofNat 0)), .str []])), none, 0⟩, ⟨none, (.e (.store 3 (.t 9) (.t 39))), none, 95⟩, oM 10 40 255]
def r43_6 : List AOper := [oM 41 10 0, oM 42 2 0, oM 6 41 1, oM 7 42 7, oC 8 (.int .i64 (.ofNat 0)) 15]
def r43_7 : List AOper := [oM 44 0 0, oM 45 1 0, oQ 46 (.bin .add (.t 45) (oI 1)) 2, oK 47 64 [.t 44, .t 46, oI 2] 7, oM 43 47 15, oE 48 43 0 31, oE 49 43 1 31, oM 11 48 63, oM 12 49 255]
def r43_8 : List AOper := [oM 50 12 0, oQ 51 (.bin .neq (.t 50) (oI 0)) 1]
def r43_9 : List AOper := [oC 6 (.int .i64 (.negSucc 0)) 0, oC 7 (.int .i64 (.ofNat 0)) 1, oC 8 (.int .i64 (.ofNat 0)) 3]
def r43_10 : List AOper := [oM 52 1 0, oQ 53 (.bin .add (.t 52) (oI 3)) 1, oM 1 53 3]
def r43_11 : List AOper := [oM 54 11 0, oQ 55 (.bin .add (oI 1) (.t 54)) 1, oM 13 55 3]
def r43_12 : List AOper := [oQ 56 (.build [(.int .i64 (.ofNat 0)), (.int .i64 (.ofNat 0)), .str []] []) 0, ⟨some 14, (.a (.alloc [(.int .i64 (.ofNat 0)), (.int .i64 (.ofNat 0)), .str []])), none, 0⟩, ⟨none, (.e (.store 3 (.t 14) (.t 56))), none, 3⟩]
def r43_13 : List AOper := [oC 15 (.int .i64 (.ofNat 0)) 0]
def r43_14 : List AOper := [oM 57 15 0, oM 58 11 0, oQ 59 (.bin .lss (.t 57) (.t 58)) 3]
def r43_15 : List AOper := [oM 63 0 0, oM 64 1 0, oK 65 63 [.t 63, .t 64] 3, oM 62 65 7, oE 66 62 0 15, oE 67 62 1 15, ⟨some 16, (.a (.alloc [(.int .i64 (.ofNat 0)), (.int .i64 (.ofNat 0)), .str []])), none, 0⟩, ⟨none, (.e (.store 3 (.t 16) (.t 66))), none, 95⟩, oM 17 67 255]
def r43_16 : List AOper := [oM 68 17 0, oQ 69 (.bin .lss (.t 68) (oI 0)) 1, oM 70 69 3, ⟨some 71, (.r (.loadn 3) (.t 16) (.t 16)), some ⟨70, false⟩, 7⟩, ⟨some 72, (.e (.call 53 [.t 71])), some ⟨70, false⟩, 15⟩, oG 73 (.un .not (.t 72)) 70 false 31, oQ 74 (.pick (.t 70) (.c (.bool true)) (.t 73)) 63, oM 75 74 127, oG 76 (.mov (.t 15)) 75 false 255, oG 77 (.bin .gtr (.t 76) (oI 0)) 75 false 511, oG 78 (.mov (.t 77)) 75 false 1023, ⟨some 79, (.r (.loadn 3) (.t 14) (.t 14)), some ⟨78, true⟩, 2047⟩, ⟨some 80, (.r (.loadn 3) (.t 16) (.t 16)), some ⟨78, true⟩, 2047⟩, ⟨some 81, (.e (.call 65 [.t 79, .t 80])), some ⟨78, true⟩, 8191⟩, oG 82 (.un .not (.t 81)) 78 true 16383, oG 83 (.pick (.t 78) (.t 82) (.c (.bool false))) 75 false 32767, oQ 84 (.pick (.t 75) (.c (.bool true)) (.t 83)) 65535, oM 85 84 131071, oG 86 (.mov (.t 17)) 85 false 262143, oG 87 (.mov (.t 0)) 85 false 262143, oG 88 (.len true (.t 87)) 85 false 786431, oG 89 (.bin .geq (.t 86) (.t 88)) 85 false 2097151, oQ 90 (.pick (.t 85) (.c (.bool true)) (.t 89)) 4194303, oM 91 90 8388607, oG 92 (.mov (.t 0)) 91 false 16777215, oG 93 (.mov (.t 17)) 91 false 16777215, oG 94 (.idxs (.t 92) (.t 93)) 91 false 67108863, oG 95 (.bin .eql (.t 94) (.c (.int .u8 (.ofNat 0)))) 91 false 134217727, oQ 96 (.pick (.t 91) (.c (.bool true)) (.t 95)) 268435455]
def r43_17 : List AOper := [oC 6 (.int .i64 (.negSucc 0)) 0, oC 7 (.int .i64 (.ofNat 0)) 1, oC 8 (.int .i64 (.ofNat 0)) 3]
def r43_18 : List AOper := [oM 98 0 0, oM 99 17 0, oM 100 2 0, oK 101 43 [.t 98, .t 99, .t 100] 7, oM 97 101 15, oE 102 97 0 31, oE 103 97 1 31, oE 104 97 2 31, oM 18 102 63, oM 19 103 383, oM 20 104 1023]
def r43_19 : List AOper := [oM 105 18 0, oQ 106 (.bin .lss (.t 105) (oI 0)) 1]
def r43_20 : List AOper := [oC 6 (.int .i64 (.negSucc 0)) 0, oC 7 (.int .i64 (.ofNat 0)) 1, oC 8 (.int .i64 (.ofNat 0)) 3]
def r43_21 : List AOper := [oM 107 18 0, oM 1 107 1]
def r43_22 : List AOper := [oM 108 19 0, oM 2 108 1]
def r43_23 : List AOper := [oM 109 13 0, oM 110 20 0, oQ 111 (.bin .add (.t 109) (.t 110)) 3, oM 13 111 7]
def r43_24 : List AOper := [⟨some 112, (.r (.loadn 3) (.t 16) (.t 16)), none, 0⟩, ⟨none, (.e (.store 3 (.t 14) (.t 112))), none, 1⟩]
def r43_25 : List AOper := [oM 60 15 0, oQ 61 (.bin .add (.t 60) (oI 1)) 1, oM 15 61 3]
def r43_26 : List AOper := [oM 113 1 0, oM 114 2 0, oM 115 13 0, oM 6 113 1, oM 7 114 11, oM 8 115 31]
def b43_0 : ACode := (.seq (.seq (.reg r43_14) (.cond (.t 59) .skip (.ext 0))) (.seq (.blk 1 (.seq (.reg r43_15) (.seq (.seq (.reg r43_16) (.cond (.t 96) (.seq (.reg r43_17) .ret) .skip)) (.seq (.reg r43_18) (.seq (.seq (.reg r43_19) (.cond (.t 106) (.seq (.reg r43_20) .ret) .skip)) (.seq (.reg r43_21) (.seq (.reg r43_22) (.seq (.reg r43_23) (.reg r43_24))))))))) (.reg r43_25)))
def c43 : ACode := (.seq (.reg r43_0) (.seq (.reg r43_1) (.seq (.seq (.reg r43_2) (.cond (.t 30) (.seq (.reg r43_3) .ret) .skip)) (.seq (.seq (.reg r43_4) (.cond (.t 34) (.seq (.reg r43_5) (.seq (.reg r43_6) .ret)) .skip)) (.seq (.reg r43_7) (.seq (.seq (.reg r43_8) (.cond (.t 51) (.seq (.reg r43_9) .ret) .skip)) (.seq (.reg r43_10) (.seq (.reg r43_11) (.seq (.reg r43_12) (.seq (.seq (.reg r43_13) (.blk 0 (.loop b43_0))) (.seq (.reg r43_26) .ret)))))))))))
def fn43 : AFunc := ⟨116, [(.t 6), (.t 7), (.t 8)], c43⟩
theorem comp43 : comp Try.prog 43 = some fn43 := by kernel_rfl
def r53_0 : List AOper := [⟨some 1, (.a (.box (.t 0))), none, 0⟩, oC 2 (.bool false) 0]
def r53_1 : List AOper := [oQ 3 (.fadr 0 1 (.t 1)) 0, oR 4 3 1, oQ 5 (.bin .eql (.t 4) (oI 1)) 3, oM 6 5 7, oG 7 (.fadr 0 1 (.t 1)) 6 false 15, ⟨some 8, (.r .load1 (.t 7) (.t 7)), some ⟨6, false⟩, 31⟩, oG 9 (.bin .eql (.t 8) (oI 2)) 6 false 63, oQ 10 (.pick (.t 6) (.c (.bool true)) (.t 9)) 127, oM 2 10 255]
def c53 : ACode := (.seq (.reg r53_0) (.seq (.reg r53_1) .ret))
def fn53 : AFunc := ⟨11, [(.t 2)], c53⟩
theorem comp53 : comp Try.prog 53 = some fn53 := by kernel_rfl
def r60_0 : List AOper := [⟨some 0, (.a (.alloc [(.int .i64 (.ofNat 0)), (.int .i64 (.ofNat 0)), .str []])), none, 0⟩]
def r60_1 : List AOper := [oQ 1 (.build [(.int .i64 (.ofNat 0)), (.int .i64 (.ofNat 0)), .str []] [⟨0, ⟨1, oI 3⟩⟩]) 0, ⟨none, (.e (.store 3 (.t 0) (.t 1))), none, 1⟩]
def c60 : ACode := (.seq (.reg r60_0) (.seq (.reg r60_1) .ret))
def fn60 : AFunc := ⟨2, [(.cn 0 3)], c60⟩
theorem comp60 : comp Try.prog 60 = some fn60 := by kernel_rfl
def r61_0 : List AOper := [⟨some 3, (.a (.box (.t 0))), none, 0⟩, ⟨some 4, (.a (.box (.t 1))), none, 0⟩, ⟨some 5, (.a (.box (.t 2))), none, 0⟩]
def c61 : ACode := (.reg r61_0)
def fn61 : AFunc := ⟨6, [], c61⟩
theorem comp61 : comp Try.prog 61 = some fn61 := by kernel_rfl
def r62_0 : List AOper := [⟨some 2, (.a (.alloc [(.int .i64 (.ofNat 0)), (.int .i64 (.ofNat 0)), .str []])), none, 0⟩, oC 3 (.bool false) 0]
def r62_1 : List AOper := [oM 13 0 0, oK 14 71 [.t 13, oI 1] 1, oM 12 14 3, oE 15 12 0 7, oE 16 12 1 7, oM 4 15 15, oM 5 16 63]
def r62_2 : List AOper := [oM 17 0 0, oQ 18 (.nilchk (.t 17)) 1, oQ 19 (.fadr 2 1 (.t 18)) 3, oR 20 19 7, oQ 21 (.bin .sub (.t 20) (oI 1)) 15, oQ 22 (.nilchk (.t 17)) 31, oQ 23 (.fadr 2 1 (.t 22)) 63, ⟨none, (.e (.store 1 (.t 23) (.t 21))), none, 127⟩]
def r62_3 : List AOper := [oM 24 5 0, oQ 25 (.un .not (.t 24)) 1, oM 26 25 3, oG 27 (.mov (.t 0)) 26 false 7, oG 28 (.nilchk (.t 27)) 26 false 15, oG 29 (.fadr 2 1 (.t 28)) 26 false 31, ⟨some 30, (.r .load1 (.t 29) (.t 29)), some ⟨26, false⟩, 63⟩, oG 31 (.bin .lss (.t 30) (oI 0)) 26 false 127, oQ 32 (.pick (.t 26) (.c (.bool true)) (.t 31)) 255]
def r62_4 : List AOper := [oQ 33 (.build [(.int .i64 (.ofNat 0)), (.int .i64 (.ofNat 0)), .str []] []) 0, ⟨none, (.e (.store 3 (.t 2) (.t 33))), none, 1⟩, oC 3 (.bool false) 3]
def r62_5 : List AOper := [oM 34 4 0, oQ 35 (.bin .neq (.t 34) (oI 3)) 1]
def r62_6 : List AOper := [oM 36 0 0, oM 37 4 0, oK 38 72 [.t 36, .t 37] 3, oE 39 38 0 7, oE 40 38 1 7, ⟨none, (.e (.store 3 (.t 2) (.t 39))), none, 31⟩, oM 3 40 63]
def r62_7 : List AOper := [oM 42 0 0, oK 43 71 [.t 42, oI 2] 1, oM 41 43 3, oE 44 41 0 7, oE 45 41 1 7, oM 6 44 15, oM 5 45 63]
def r62_8 : List AOper := [oM 46 5 0, oQ 47 (.un .not (.t 46)) 1]
def r62_9 : List AOper := [oQ 48 (.build [(.int .i64 (.ofNat 0)), (.int .i64 (.ofNat 0)), .str []] []) 0, ⟨none, (.e (.store 3 (.t 2) (.t 48))), none, 1⟩, oC 3 (.bool false) 3]
def r62_10 : List AOper := [oM 49 0 0, oQ 50 (.nilchk (.t 49)) 1, oQ 51 (.fadr 4 1 (.t 50)) 3, oR 52 51 7, ⟨some 53, (.e (.callv (.t 52) [])), none, 15⟩, ⟨some 7, (.a (.alloc [(.int .i64 (.ofNat 0)), (.int .i64 (.ofNat 0)), .str []])), none, 0⟩, ⟨none, (.e (.store 3 (.t 7) (.t 53))), none, 63⟩]
def r62_11 : List AOper := [oM 54 0 0, oQ 55 (.nilchk (.t 54)) 1, oQ 56 (.fadr 3 1 (.t 55)) 3, oR 57 56 7, oM 58 6 0, oQ 59 (.bin .add (oI 1) (.t 58)) 16, oQ 60 (.bin .add (.t 57) (.t 59)) 63, oQ 61 (.nilchk (.t 54)) 127, oQ 62 (.fadr 3 1 (.t 61)) 255, ⟨none, (.e (.store 1 (.t 62) (.t 60))), none, 511⟩]
def r62_12 : List AOper := [oQ 63 (.build [(.int .i64 (.ofNat 0)), (.int .i64 (.ofNat 0)), .str []] []) 0, ⟨some 8, (.a (.alloc [(.int .i64 (.ofNat 0)), (.int .i64 (.ofNat 0)), .str []])), none, 0⟩, ⟨none, (.e (.store 3 (.t 8) (.t 63))), none, 3⟩]
def r62_13 : List AOper := [oM 64 6 0, oC 65 (.int .i64 (.ofNat 0)) 0]
def r62_14 : List AOper := [oQ 66 (.bin .lss (.t 65) (.t 64)) 0]
def r62_15 : List AOper := [oM 68 0 0, oK 69 73 [.t 68] 1, oM 67 69 3, oE 70 67 0 7, oE 71 67 1 7, ⟨some 9, (.a (.alloc [(.int .i64 (.ofNat 0)), (.int .i64 (.ofNat 0)), .str []])), none, 0⟩, ⟨none, (.e (.store 3 (.t 9) (.t 70))), none, 47⟩, oM 10 71 127]
def r62_16 : List AOper := [oM 72 10 0, oQ 73 (.un .not (.t 72)) 1, oM 74 73 3, ⟨some 75, (.r (.loadn 3) (.t 8) (.t 8)), some ⟨74, false⟩, 7⟩, ⟨some 76, (.r (.loadn 3) (.t 9) (.t 9)), some ⟨74, false⟩, 7⟩, ⟨some 77, (.e (.call 74 [.t 75, .t 76])), some ⟨74, false⟩, 31⟩, oG 78 (.un .not (.t 77)) 74 false 63, oQ 79 (.pick (.t 74) (.c (.bool true)) (.t 78)) 127]
def r62_17 : List AOper := [oQ 80 (.build [(.int .i64 (.ofNat 0)), (.int .i64 (.ofNat 0)), .str []] []) 0, ⟨none, (.e (.store 3 (.t 2) (.t 80))), none, 1⟩, oC 3 (.bool false) 3]
def r62_18 : List AOper := [oM 82 0 0, oK 83 62 [.t 82] 1, oM 81 83 3, oE 84 81 0 7, oE 85 81 1 7, ⟨some 11, (.a (.alloc [(.int .i64 (.ofNat 0)), (.int .i64 (.ofNat 0)), .str []])), none, 0⟩, ⟨none, (.e (.store 3 (.t 11) (.t 84))), none, 47⟩, oM 10 85 127]
def r62_19 : List AOper := [oM 86 10 0, oQ 87 (.un .not (.t 86)) 1, oM 88 87 3, oG 89 (.fadr 0 1 (.t 11)) 88 false 7, ⟨some 90, (.r .load1 (.t 89) (.t 89)), some ⟨88, false⟩, 15⟩, oG 91 (.bin .eql (.t 90) (oI 0)) 88 false 31, oQ 92 (.pick (.t 88) (.c (.bool true)) (.t 91)) 63]
def r62_20 : List AOper := [oQ 93 (.build [(.int .i64 (.ofNat 0)), (.int .i64 (.ofNat 0)), .str []] []) 0, ⟨none, (.e (.store 3 (.t 2) (.t 93))), none, 1⟩, oC 3 (.bool false) 3]
def r62_21 : List AOper := [oM 94 0 0, oQ 95 (.nilchk (.t 94)) 1, oQ 96 (.fadr 5 1 (.t 95)) 3, oR 97 96 7, ⟨some 98, (.r (.loadn 3) (.t 7) (.t 7)), none, 0⟩, ⟨some 99, (.r (.loadn 3) (.t 9) (.t 9)), none, 0⟩, ⟨some 100, (.r (.loadn 3) (.t 11) (.t 11)), none, 0⟩, ⟨some 101, (.e (.callv (.t 97) [.t 98, .t 99, .t 100])), none, 127⟩]
def r62_22 : List AOper := [⟨some 102, (.r (.loadn 3) (.t 9) (.t 9)), none, 0⟩, ⟨none, (.e (.store 3 (.t 8) (.t 102))), none, 1⟩]
def r62_23 : List AOper := [oQ 103 (.bin .add (.t 65) (oI 1)) 0, oM 65 103 1]
def r62_24 : List AOper := [⟨some 104, (.r (.loadn 3) (.t 7) (.t 7)), none, 0⟩, ⟨none, (.e (.store 3 (.t 2) (.t 104))), none, 1⟩, oC 3 (.bool true) 3]
def b62_0 : ACode := (.seq (.reg r62_14) (.seq (.cond (.t 66) .skip (.ext 0)) (.seq (.blk 1 (.seq (.reg r62_15) (.seq (.seq (.reg r62_16) (.cond (.t 79) (.seq (.reg r62_17) .ret) .skip)) (.seq (.reg r62_18) (.seq (.seq (.reg r62_19) (.cond (.t 92) (.seq (.reg r62_20) .ret) .skip)) (.seq (.draw r62_21) (.reg r62_22))))))) (.reg r62_23))))
def c62 : ACode := (.seq (.reg r62_0) (.seq (.reg r62_1) (.seq (.seq (.reg r62_2) (.seq (.reg r62_3) (.cond (.t 32) (.seq (.reg r62_4) .ret) .skip))) (.seq (.seq (.reg r62_5) (.cond (.t 35) (.seq (.reg r62_6) .ret) .skip)) (.seq (.reg r62_7) (.seq (.seq (.reg r62_8) (.cond (.t 47) (.seq (.reg r62_9) .ret) .skip)) (.seq (.reg r62_10) (.seq (.reg r62_11) (.seq (.reg r62_12) (.seq (.seq (.reg r62_13) (.blk 0 (.loop b62_0))) (.seq (.reg r62_24) .ret)))))))))))
def fn62 : AFunc := ⟨105, [(.cn 2 3), (.t 3)], c62⟩
theorem comp62 : comp Try.prog 62 = some fn62 := by kernel_rfl
def r63_0 : List AOper := [⟨some 4, (.a (.alloc [(.int .i64 (.ofNat 0)), (.int .i64 (.ofNat 0)), .str []])), none, 0⟩, oC 5 (.int .i64 (.ofNat 0)) 0]
def r63_1 : List AOper := [oM 11 1 0, oM 12 0 0, oQ 13 (.len true (.t 12)) 2, oQ 14 (.bin .geq (.t 11) (.t 13)) 7]
def r63_2 : List AOper := [oQ 15 (.build [(.int .i64 (.ofNat 0)), (.int .i64 (.ofNat 0)), .str []] []) 0, ⟨none, (.e (.store 3 (.t 4) (.t 15))), none, 1⟩, oC 5 (.int .i64 (.negSucc 0)) 3]
def r63_3 : List AOper := [oM 16 0 0, oM 17 1 0, oQ 18 (.idxs (.t 16) (.t 17)) 3]
def r63_4 : List AOper := [oQ 20 (.bin .eql (.t 18) (.c (.int .u8 (.ofNat 0)))) 0, oM 19 20 1]
def r63_5 : List AOper := [oQ 21 (.build [(.int .i64 (.ofNat 0)), (.int .i64 (.ofNat 0)), .str []] []) 0, oM 22 1 0, oQ 23 (.bin .add (.t 22) (oI 1)) 2, ⟨none, (.e (.store 3 (.t 4) (.t 21))), none, 1⟩, oM 5 23 15]
def r63_6 : List AOper := [oQ 25 (.bin .eql (.t 18) (.c (.int .u8 (.ofNat 1)))) 0, oM 24 25 1]
def r63_7 : List AOper := [oM 27 0 0, oM 28 1 0, oQ 29 (.bin .add (.t 28) (oI 1)) 2, oK 30 64 [.t 27, .t 29, oI 8] 7, oM 26 30 15, oE 31 26 0 31, oE 32 26 1 31, oM 6 31 63, oM 7 32 255]
def r63_8 : List AOper := [oM 33 7 0, oQ 34 (.bin .eql (.t 33) (oI 0)) 1]
def r63_9 : List AOper := [oM 35 6 0, oK 36 31 [.t 35] 1, oM 37 1 0, oQ 38 (.bin .add (.t 37) (oI 9)) 4, ⟨none, (.e (.store 3 (.t 4) (.t 36))), none, 3⟩, oM 5 38 31]
def r63_10 : List AOper := [oQ 40 (.bin .eql (.t 18) (.c (.int .u8 (.ofNat 2)))) 0, oM 39 40 1]
def r63_11 : List AOper := [oM 42 0 0, oM 43 1 0, oQ 44 (.bin .add (.t 43) (oI 1)) 2, oK 45 75 [.t 42, .t 44] 7, oM 41 45 15, oE 46 41 0 31, oE 47 41 1 31, oE 48 41 2 31, oM 8 46 63, oM 9 47 383, oM 10 48 1023]
def r63_12 : List AOper := [oM 49 10 0, oQ 50 (.bin .eql (.t 49) (oI 0)) 1, oM 51 50 3, oG 52 (.mov (.t 8)) 51 true 7, oG 53 (.len true (.t 52)) 51 true 15, oG 54 (.bin .leq (.t 53) (oI 1024)) 51 true 31, oQ 55 (.pick (.t 51) (.t 54) (.c (.bool false))) 63]
def r63_13 : List AOper := [oM 56 8 0, oK 57 32 [.t 56] 1, oM 58 9 0, ⟨none, (.e (.store 3 (.t 4) (.t 57))), none, 3⟩, oM 5 58 15]
def r63_14 : List AOper := [oQ 59 (.build [(.int .i64 (.ofNat 0)), (.int .i64 (.ofNat 0)), .str []] []) 0, ⟨none, (.e (.store 3 (.t 4) (.t 59))), none, 1⟩, oC 5 (.int .i64 (.negSucc 0)) 3]
def c63 : ACode := (.seq (.reg r63_0) (.seq (.seq (.reg r63_1) (.cond (.t 14) (.seq (.reg r63_2) .ret) .skip)) (.seq (.seq (.reg r63_3) (.blk 0 (.seq (.reg r63_4) (.cond (.t 19) (.seq (.reg r63_5) .ret) (.seq (.reg r63_6) (.cond (.t 24) (.seq (.reg r63_7) (.seq (.reg r63_8) (.cond (.t 34) (.seq (.reg r63_9) .ret) .skip))) (.seq (.reg r63_10) (.cond (.t 39) (.seq (.reg r63_11) (.seq (.reg r63_12) (.cond (.t 55) (.seq (.reg r63_13) .ret) .skip))) .skip)))))))) (.seq (.reg r63_14) .ret))))
def fn63 : AFunc := ⟨60, [(.cn 4 3), (.t 5)], c63⟩
theorem comp63 : comp Try.prog 63 = some fn63 := by kernel_rfl
def r64_0 : List AOper := [oC 6 (.int .i64 (.ofNat 0)) 0, oC 7 (.int .i64 (.ofNat 0)) 1]
def r64_1 : List AOper := [oM 10 2 0, oK 11 70 [.t 10] 1, oQ 12 (.un .not (.t 11)) 3, oM 13 12 7, oG 14 (.mov (.t 1)) 13 false 15, oG 15 (.bin .lss (.t 14) (oI 0)) 13 false 31, oQ 16 (.pick (.t 13) (.c (.bool true)) (.t 15)) 63]
def r64_2 : List AOper := [oC 6 (.int .i64 (.ofNat 0)) 0, oC 7 (.int .i64 (.ofNat 1)) 1]
def r64_3 : List AOper := [oM 17 1 0, oM 18 0 0, oQ 19 (.len true (.t 18)) 2, oQ 20 (.bin .gtr (.t 17) (.t 19)) 7, oM 21 20 15, oG 22 (.mov (.t 0)) 21 false 31, oG 23 (.len true (.t 22)) 21 false 63, oG 24 (.mov (.t 1)) 21 false 31, oG 25 (.bin .sub (.t 23) (.t 24)) 21 false 255, oG 26 (.mov (.t 2)) 21 false 31, oG 27 (.bin .lss (.t 25) (.t 26)) 21 false 1023, oQ 28 (.pick (.t 21) (.c (.bool true)) (.t 27)) 2047]
def r64_4 : List AOper := [oC 6 (.int .i64 (.ofNat 0)) 0, oC 7 (.int .i64 (.ofNat 2)) 1]
def r64_5 : List AOper := [oC 8 (.int .u64 (.ofNat 0)) 0]
def r64_6 : List AOper := [oM 29 2 0, oQ 30 (.bin .sub (.t 29) (oI 1)) 1, oM 9 30 3]
def r64_7 : List AOper := [oM 31 9 0, oQ 32 (.bin .geq (.t 31) (oI 0)) 1]
def r64_8 : List AOper := [oM 35 8 0, oQ 36 (.bin .mul (.c (.int .u64 (.ofNat 256))) (.t 35)) 1, oM 37 0 0, oM 38 1 0, oM 39 9 0, oQ 40 (.bin .add (.t 38) (.t 39)) 24, oQ 41 (.idxs (.t 37) (.t 40)) 60, oQ 42 (.toInt .u64 (.t 41)) 124, oQ 43 (.bin .add (.t 36) (.t 42)) 255, oM 8 43 511]
def r64_9 : List AOper := [oM 33 9 0, oQ 34 (.bin .sub (.t 33) (oI 1)) 1, oM 9 34 3]
def r64_10 : List AOper := [oM 44 8 0, oQ 45 (.toInt .i64 (.t 44)) 1, oM 6 45 3, oC 7 (.int .i64 (.ofNat 0)) 7]
def b64_0 : ACode := (.seq (.seq (.reg r64_7) (.cond (.t 32) .skip (.ext 0))) (.seq (.blk 1 (.reg r64_8)) (.reg r64_9)))
def c64 : ACode := (.seq (.reg r64_0) (.seq (.seq (.reg r64_1) (.cond (.t 16) (.seq (.reg r64_2) .ret) .skip)) (.seq (.seq (.reg r64_3) (.cond (.t 28) (.seq (.reg r64_4) .ret) .skip)) (.seq (.reg r64_5) (.seq (.seq (.reg r64_6) (.blk 0 (.loop b64_0))) (.seq (.reg r64_10) .ret))))))
def fn64 : AFunc := ⟨46, [(.t 6), (.t 7)], c64⟩
theorem comp64 : comp Try.prog 64 = some fn64 := by kernel_rfl
def r65_0 : List AOper := [⟨some 2, (.a (.box (.t 0))), none, 0⟩, ⟨some 3, (.a (.box (.t 1))), none, 0⟩, oC 4 (.bool false) 0]
def r65_1 : List AOper := [oQ 7 (.fadr 0 1 (.t 2)) 0, oR 8 7 1, oQ 9 (.fadr 0 1 (.t 3)) 0, oR 10 9 4, oQ 11 (.bin .neq (.t 8) (.t 10)) 15]
def r65_2 : List AOper := [oQ 12 (.fadr 0 1 (.t 2)) 0, oR 13 12 1, oQ 14 (.bin .eql (.t 13) (oI 1)) 3, oM 4 14 7]
def r65_3 : List AOper := [⟨some 16, (.r (.loadn 3) (.t 2) (.t 2)), none, 0⟩, ⟨some 17, (.r (.loadn 3) (.t 3) (.t 3)), none, 0⟩, oK 18 67 [(.c (.str [60])), .t 16, .t 17] 3, oM 15 18 7, oE 19 15 0 15, oE 20 15 1 15, ⟨some 5, (.a (.alloc [(.int .i64 (.ofNat 0)), (.int .i64 (.ofNat 0)), .str []])), none, 0⟩, ⟨none, (.e (.store 3 (.t 5) (.t 19))), none, 95⟩, oM 6 20 255]
def r65_4 : List AOper := [oQ 21 (.fadr 1 1 (.t 5)) 0, oR 22 21 1, oQ 23 (.bin .eql (.t 22) (oI 1)) 3, oM 4 23 7]
def c65 : ACode := (.seq (.reg r65_0) (.seq (.seq (.reg r65_1) (.cond (.t 11) (.seq (.reg r65_2) .ret) .skip)) (.seq (.reg r65_3) (.seq (.reg r65_4) .ret))))
def fn65 : AFunc := ⟨24, [(.t 4)], c65⟩
theorem comp65 : comp Try.prog 65 = some fn65 := by kernel_rfl
def r66_0 : List AOper := [⟨some 1, (.a (.box (.t 0))), none, 0⟩, oC 2 (.bool false) 0]
def r66_1 : List AOper := [⟨some 3, (.r (.loadn 3) (.t 1) (.t 1)), none, 0⟩, oK 4 76 [.t 3] 1, oQ 5 (.eq true .ifcnil (.t 4) (.c .nilifc)) 3, oM 2 5 7]
def c66 : ACode := (.seq (.reg r66_0) (.seq (.reg r66_1) .ret))
def fn66 : AFunc := ⟨6, [(.t 2)], c66⟩
theorem comp66 : comp Try.prog 66 = some fn66 := by kernel_rfl
def r67_0 : List AOper := [⟨some 4, (.a (.box (.t 1))), none, 0⟩, ⟨some 5, (.a (.box (.t 2))), none, 0⟩, ⟨some 6, (.a (.alloc [(.int .i64 (.ofNat 0)), (.int .i64 (.ofNat 0)), .str []])), none, 0⟩, oC 7 (.int .i64 (.ofNat 0)) 0]
def r67_1 : List AOper := [oM 9 0 0, oK 10 77 [.t 9] 1, oQ 11 (.un .not (.t 10)) 3, oM 8 11 7]
def r67_2 : List AOper := [oQ 12 (.build [(.int .i64 (.ofNat 0)), (.int .i64 (.ofNat 0)), .str []] []) 0, ⟨none, (.e (.store 3 (.t 6) (.t 12))), none, 1⟩, oC 7 (.int .i64 (.ofNat 12)) 3]
def r67_3 : List AOper := [oM 14 0 0, oQ 15 (.bin .eql (.t 14) (.c (.str [61, 61]))) 1, oM 13 15 3]
def r67_4 : List AOper := [⟨some 16, (.r (.loadn 3) (.t 4) (.t 4)), none, 0⟩, ⟨some 17, (.r (.loadn 3) (.t 5) (.t 5)), none, 0⟩, oQ 18 (.eq false (.flat true [.i, .i, .s]) (.t 16) (.t 17)) 3, oK 19 78 [.t 18] 7, ⟨none, (.e (.store 3 (.t 6) (.t 19))), none, 15⟩, oC 7 (.int .i64 (.ofNat 0)) 31]
def r67_5 : List AOper := [oM 21 0 0, oQ 22 (.bin .eql (.t 21) (.c (.str [33, 61]))) 1, oM 20 22 3]
def r67_6 : List AOper := [⟨some 23, (.r (.loadn 3) (.t 4) (.t 4)), none, 0⟩, ⟨some 24, (.r (.loadn 3) (.t 5) (.t 5)), none, 0⟩, oQ 25 (.eq true (.flat true [.i, .i, .s]) (.t 23) (.t 24)) 3, oK 26 78 [.t 25] 7, ⟨none, (.e (.store 3 (.t 6) (.t 26))), none, 15⟩, oC 7 (.int .i64 (.ofNat 0)) 31]
def r67_7 : List AOper := [oQ 28 (.fadr 0 1 (.t 4)) 0, oR 29 28 1, oQ 30 (.bin .eql (.t 29) (oI 1)) 3, oM 31 30 7, oG 32 (.fadr 0 1 (.t 5)) 31 true 15, ⟨some 33, (.r .load1 (.t 32) (.t 32)), some ⟨31, true⟩, 31⟩, oG 34 (.bin .eql (.t 33) (oI 1)) 31 true 63, oQ 35 (.pick (.t 31) (.t 34) (.c (.bool false))) 127, oM 27 35 255]
def r67_8 : List AOper := [oM 36 0 0, oQ 37 (.fadr 1 1 (.t 4)) 0, oR 38 37 2, oQ 39 (.fadr 1 1 (.t 5)) 0, oR 40 39 8, oK 41 79 [.t 36, .t 38, .t 40] 31, oE 42 41 0 63, oE 43 41 1 63, ⟨none, (.e (.store 3 (.t 6) (.t 42))), none, 255⟩, oM 7 43 511]
def r67_9 : List AOper := [oQ 45 (.fadr 0 1 (.t 4)) 0, oR 46 45 1, oQ 47 (.bin .eql (.t 46) (oI 2)) 3, oM 48 47 7, oG 49 (.fadr 0 1 (.t 5)) 48 true 15, ⟨some 50, (.r .load1 (.t 49) (.t 49)), some ⟨48, true⟩, 31⟩, oG 51 (.bin .eql (.t 50) (oI 2)) 48 true 63, oQ 52 (.pick (.t 48) (.t 51) (.c (.bool false))) 127, oM 44 52 255]
def r67_10 : List AOper := [oM 53 0 0, oQ 54 (.fadr 2 1 (.t 4)) 0, oR 55 54 2, oQ 56 (.fadr 2 1 (.t 5)) 0, oR 57 56 8, oK 58 80 [.t 53, .t 55, .t 57] 31, oE 59 58 0 63, oE 60 58 1 63, ⟨none, (.e (.store 3 (.t 6) (.t 59))), none, 255⟩, oM 7 60 511]
def r67_11 : List AOper := [oQ 61 (.build [(.int .i64 (.ofNat 0)), (.int .i64 (.ofNat 0)), .str []] []) 0, ⟨none, (.e (.store 3 (.t 6) (.t 61))), none, 1⟩, oC 7 (.int .i64 (.ofNat 1)) 3]
def c67 : ACode := (.seq (.reg r67_0) (.seq (.blk 0 (.seq (.reg r67_1) (.cond (.t 8) (.seq (.reg r67_2) .ret) (.seq (.reg r67_3) (.cond (.t 13) (.seq (.reg r67_4) .ret) (.seq (.reg r67_5) (.cond (.t 20) (.seq (.reg r67_6) .ret) (.seq (.reg r67_7) (.cond (.t 27) (.seq (.reg r67_8) .ret) (.seq (.reg r67_9) (.cond (.t 44) (.seq (.reg r67_10) .ret) .skip))))))))))) (.seq (.reg r67_11) .ret)))
def fn67 : AFunc := ⟨62, [(.cn 6 3), (.t 7)], c67⟩
theorem comp67 : comp Try.prog 67 = some fn67 := by kernel_rfl
def r71_0 : List AOper := [oC 4 (.int .i64 (.ofNat 0)) 0, oC 5 (.bool false) 1]
def r71_1 : List AOper := [oM 9 0 0, oQ 10 (.nilchk (.t 9)) 1, oQ 11 (.fadr 0 1 (.t 10)) 3, oR 12 11 7, oM 13 0 0, oQ 14 (.nilchk (.t 13)) 16, oQ 15 (.fadr 1 1 (.t 14)) 48, oR 16 15 112, oM 17 1 0, oK 18 81 [.t 12, .t 16, .t 17] 511, oM 8 18 1023, oE 19 8 0 2047, oE 20 8 1 2047, oM 6 19 4095, oM 7 20 16383]
def r71_2 : List AOper := [oM 21 7 0, oQ 22 (.bin .neq (.t 21) (oI 0)) 1]
def r71_3 : List AOper := [oC 4 (.int .i64 (.ofNat 0)) 0, oC 5 (.bool false) 1]
def r71_4 : List AOper := [oM 23 0 0, oQ 24 (.nilchk (.t 23)) 1, oQ 25 (.fadr 1 1 (.t 24)) 3, oR 26 25 7, oM 27 1 0, oQ 28 (.bin .add (.t 26) (.t 27)) 31, oQ 29 (.nilchk (.t 23)) 63, oQ 30 (.fadr 1 1 (.t 29)) 127, ⟨none, (.e (.store 1 (.t 30) (.t 28))), none, 255⟩]
def r71_5 : List AOper := [oM 31 6 0, oM 4 31 1, oC 5 (.bool true) 3]
def c71 : ACode := (.seq (.reg r71_0) (.seq (.draw r71_1) (.seq (.seq (.reg r71_2) (.cond (.t 22) (.seq (.reg r71_3) .ret) .skip)) (.seq (.reg r71_4) (.seq (.reg r71_5) .ret)))))
def fn71 : AFunc := ⟨32, [(.t 4), (.t 5)], c71⟩
theorem comp71 : comp Try.prog 71 = some fn71 := by kernel_rfl
def r72_0 : List AOper := [⟨some 4, (.a (.alloc [(.int .i64 (.ofNat 0)), (.int .i64 (.ofNat 0)), .str []])), none, 0⟩, oC 5 (.bool false) 0]
def r72_1 : List AOper := [oM 12 1 0]
def r72_2 : List AOper := [oQ 14 (.bin .eql (.t 12) (oI 0)) 0, oM 13 14 1]
def r72_3 : List AOper := [oQ 15 (.build [(.int .i64 (.ofNat 0)), (.int .i64 (.ofNat 0)), .str []] []) 0, ⟨none, (.e (.store 3 (.t 4) (.t 15))), none, 1⟩, oC 5 (.bool true) 3]
def r72_4 : List AOper := [oQ 17 (.bin .eql (.t 12) (oI 1)) 0, oM 16 17 1]
def r72_5 : List AOper := [oM 19 0 0, oK 20 71 [.t 19, oI 8] 1, oM 18 20 3, oE 21 18 0 7, oE 22 18 1 7, oM 6 21 15, oM 7 22 63]
def r72_6 : List AOper := [oM 23 6 0, oQ 24 (.build [(.int .i64 (.ofNat 0)), (.int .i64 (.ofNat 0)), .str []] [⟨0, ⟨1, oI 1⟩⟩, ⟨1, ⟨1, .t 23⟩⟩]) 1, oM 25 7 0, ⟨none, (.e (.store 3 (.t 4) (.t 24))), none, 3⟩, oM 5 25 15]
def r72_7 : List AOper := [oQ 27 (.bin .eql (.t 12) (oI 2)) 0, oM 26 27 1]
def r72_8 : List AOper := [oM 29 0 0, oQ 30 (.nilchk (.t 29)) 1, oQ 31 (.fadr 0 1 (.t 30)) 3, oR 32 31 7, oM 33 0 0, oQ 34 (.nilchk (.t 33)) 16, oQ 35 (.fadr 1 1 (.t 34)) 48, oR 36 35 112, oK 37 82 [.t 32, .t 36] 255, oM 28 37 511, oE 38 28 0 1023, oE 39 28 1 1023, oE 40 28 2 1023, oM 8 38 2047, oM 9 39 12287, oM 10 40 32767]
def r72_9 : List AOper := [oM 41 0 0, oM 42 9 0, oQ 43 (.nilchk (.t 41)) 3, oQ 44 (.fadr 1 1 (.t 43)) 7, ⟨none, (.e (.store 1 (.t 44) (.t 42))), none, 15⟩]
def r72_10 : List AOper := [oM 45 8 0, oQ 46 (.build [(.int .i64 (.ofNat 0)), (.int .i64 (.ofNat 0)), .str []] [⟨0, ⟨1, oI 2⟩⟩, ⟨2, ⟨1, .t 45⟩⟩]) 1, ⟨some 11, (.a (.alloc [(.int .i64 (.ofNat 0)), (.int .i64 (.ofNat 0)), .str []])), none, 0⟩, ⟨none, (.e (.store 3 (.t 11) (.t 46))), none, 7⟩]
def r72_11 : List AOper := [⟨some 47, (.r (.loadn 3) (.t 11) (.t 11)), none, 0⟩, oM 48 10 0, oQ 49 (.bin .eql (.t 48) (oI 0)) 2, oM 50 49 6, ⟨some 51, (.r (.loadn 3) (.t 11) (.t 11)), some ⟨50, true⟩, 14⟩, ⟨some 52, (.e (.call 83 [.t 51])), some ⟨50, true⟩, 30⟩, oQ 53 (.pick (.t 50) (.t 52) (.c (.bool false))) 62, ⟨none, (.e (.store 3 (.t 4) (.t 47))), none, 63⟩, oM 5 53 255]
def r72_12 : List AOper := [oQ 54 (.build [(.int .i64 (.ofNat 0)), (.int .i64 (.ofNat 0)), .str []] []) 0, ⟨none, (.e (.store 3 (.t 4) (.t 54))), none, 1⟩, oC 5 (.bool false) 3]
def c72 : ACode := (.seq (.reg r72_0) (.seq (.seq (.reg r72_1) (.blk 0 (.seq (.reg r72_2) (.cond (.t 13) (.seq (.reg r72_3) .ret) (.seq (.reg r72_4) (.cond (.t 16) (.seq (.reg r72_5) (.seq (.reg r72_6) .ret)) (.seq (.reg r72_7) (.cond (.t 26) (.seq (.draw r72_8) (.seq (.reg r72_9) (.seq (.reg r72_10) (.seq (.draw r72_11) .ret)))) .skip)))))))) (.seq (.reg r72_12) .ret)))
def fn72 : AFunc := ⟨55, [(.cn 4 3), (.t 5)], c72⟩
theorem comp72 : comp Try.prog 72 = some fn72 := by kernel_rfl
def r73_0 : List AOper := [⟨some 2, (.a (.alloc [(.int .i64 (.ofNat 0)), (.int .i64 (.ofNat 0)), .str []])), none, 0⟩, oC 3 (.bool false) 0]
def r73_1 : List AOper := [oM 8 0 0, oK 9 71 [.t 8, oI 1] 1, oM 7 9 3, oE 10 7 0 7, oE 11 7 1 7, oM 4 10 15, oM 5 11 63]
def r73_2 : List AOper := [oM 12 5 0, oQ 13 (.un .not (.t 12)) 1]
def r73_3 : List AOper := [oQ 14 (.build [(.int .i64 (.ofNat 0)), (.int .i64 (.ofNat 0)), .str []] []) 0, ⟨none, (.e (.store 3 (.t 2) (.t 14))), none, 1⟩, oC 3 (.bool false) 3]
def r73_4 : List AOper := [oM 16 0 0, oM 17 4 0, oK 18 72 [.t 16, .t 17] 3, oM 15 18 7, oE 19 15 0 15, oE 20 15 1 15, ⟨some 6, (.a (.alloc [(.int .i64 (.ofNat 0)), (.int .i64 (.ofNat 0)), .str []])), none, 0⟩, ⟨none, (.e (.store 3 (.t 6) (.t 19))), none, 95⟩, oM 5 20 255]
def r73_5 : List AOper := [⟨some 21, (.r (.loadn 3) (.t 6) (.t 6)), none, 0⟩, oM 22 5 0, oM 23 22 2, ⟨some 24, (.r (.loadn 3) (.t 6) (.t 6)), some ⟨23, true⟩, 6⟩, ⟨some 25, (.e (.call 66 [.t 24])), some ⟨23, true⟩, 14⟩, oQ 26 (.pick (.t 23) (.t 25) (.c (.bool false))) 30, ⟨none, (.e (.store 3 (.t 2) (.t 21))), none, 31⟩, oM 3 26 127]
def c73 : ACode := (.seq (.reg r73_0) (.seq (.reg r73_1) (.seq (.seq (.reg r73_2) (.cond (.t 13) (.seq (.reg r73_3) .ret) .skip)) (.seq (.reg r73_4) (.seq (.draw r73_5) .ret)))))
def fn73 : AFunc := ⟨27, [(.cn 2 3), (.t 3)], c73⟩
theorem comp73 : comp Try.prog 73 = some fn73 := by kernel_rfl
def r74_0 : List AOper := [⟨some 2, (.a (.box (.t 0))), none, 0⟩, ⟨some 3, (.a (.box (.t 1))), none, 0⟩, oC 4 (.bool false) 0]
def r74_1 : List AOper := [oQ 7 (.fadr 0 1 (.t 2)) 0, oR 8 7 1, oQ 9 (.fadr 0 1 (.t 3)) 0, oR 10 9 4, oQ 11 (.bin .neq (.t 8) (.t 10)) 15]
def r74_2 : List AOper := [oQ 12 (.fadr 0 1 (.t 2)) 0, oR 13 12 1, oQ 14 (.fadr 0 1 (.t 3)) 0, oR 15 14 4, oQ 16 (.bin .lss (.t 13) (.t 15)) 15, oM 4 16 31]
def r74_3 : List AOper := [⟨some 18, (.r (.loadn 3) (.t 2) (.t 2)), none, 0⟩, ⟨some 19, (.r (.loadn 3) (.t 3) (.t 3)), none, 0⟩, oK 20 84 [(.c (.str [60])), .t 18, .t 19] 3, oM 17 20 7, oE 21 17 0 15, oE 22 17 1 15, ⟨some 5, (.a (.alloc [(.int .i64 (.ofNat 0)), (.int .i64 (.ofNat 0)), .str []])), none, 0⟩, ⟨none, (.e (.store 3 (.t 5) (.t 21))), none, 95⟩, oM 6 22 255]
def r74_4 : List AOper := [⟨some 23, (.r (.loadn 3) (.t 5) (.t 5)), none, 0⟩, oK 24 85 [.t 23] 1, oM 4 24 3]
def c74 : ACode := (.seq (.reg r74_0) (.seq (.seq (.reg r74_1) (.cond (.t 11) (.seq (.reg r74_2) .ret) .skip)) (.seq (.reg r74_3) (.seq (.reg r74_4) .ret))))
def fn74 : AFunc := ⟨25, [(.t 4)], c74⟩
theorem comp74 : comp Try.prog 74 = some fn74 := by kernel_rfl
def r75_0 : List AOper := [oC 4 (.str []) 0, oC 5 (.int .i64 (.ofNat 0)) 1, oC 6 (.int .i64 (.ofNat 0)) 3]
def r75_1 : List AOper := [oM 10 0 0, oM 11 1 0, oK 12 64 [.t 10, .t 11, oI 4] 3, oM 9 12 7, oE 13 9 0 15, oE 14 9 1 15, oM 7 13 31, oM 8 14 127]
def r75_2 : List AOper := [oM 15 8 0, oQ 16 (.bin .neq (.t 15) (oI 0)) 1]
def r75_3 : List AOper := [oM 17 8 0, oC 4 (.str []) 0, oC 5 (.int .i64 (.ofNat 0)) 2, oM 6 17 7]
def r75_4 : List AOper := [oM 18 0 0, oQ 19 (.len true (.t 18)) 1, oM 20 1 0, oQ 21 (.bin .sub (.t 19) (.t 20)) 7, oQ 22 (.bin .sub (.t 21) (oI 4)) 15, oM 23 7 0, oQ 24 (.bin .lss (.t 22) (.t 23)) 63]
def r75_5 : List AOper := [oC 4 (.str []) 0, oC 5 (.int .i64 (.ofNat 0)) 1, oC 6 (.int .i64 (.ofNat 2)) 3]
def r75_6 : List AOper := [oM 25 0 0, oM 26 1 0, oQ 27 (.bin .add (.t 26) (oI 4)) 2, oM 28 1 0, oQ 29 (.bin .add (.t 28) (oI 4)) 8, oM 30 7 0, oQ 31 (.bin .add (.t 29) (.t 30)) 56, oQ 32 (.sstr (.t 25) (some (.t 27)) (some (.t 31))) 127, oM 33 1 0, oQ 34 (.bin .add (.t 33) (oI 4)) 256, oM 35 7 0, oQ 36 (.bin .add (.t 34) (.t 35)) 1792, oM 4 32 255, oM 5 36 8191, oC 6 (.int .i64 (.ofNat 0)) 16383]
def c75 : ACode := (.seq (.reg r75_0) (.seq (.reg r75_1) (.seq (.seq (.reg r75_2) (.cond (.t 16) (.seq (.reg r75_3) .ret) .skip)) (.seq (.seq (.reg r75_4) (.cond (.t 24) (.seq (.reg r75_5) .ret) .skip)) (.seq (.reg r75_6) .ret)))))
def fn75 : AFunc := ⟨37, [(.t 4), (.t 5), (.t 6)], c75⟩
theorem comp75 : comp Try.prog 75 = some fn75 := by kernel_rfl
def r76_0 : List AOper := [⟨some 1, (.a (.box (.t 0))), none, 0⟩, oC 2 .nilifc 0]
def r76_1 : List AOper := [oQ 3 (.fadr 0 1 (.t 1)) 0, oR 4 3 1]
def r76_2 : List AOper := [oQ 6 (.bin .eql (.t 4) (oI 1)) 0, oM 5 6 1]
def r76_3 : List AOper := [oQ 7 (.fadr 1 1 (.t 1)) 0, oR 8 7 1, oQ 9 (.mkifc 123 (.t 8)) 3, oM 2 9 7]
def r76_4 : List AOper := [oQ 11 (.bin .eql (.t 4) (oI 2)) 0, oM 10 11 1]
def r76_5 : List AOper := [oQ 12 (.fadr 2 1 (.t 1)) 0, oR 13 12 1, oQ 14 (.mkifc 124 (.t 13)) 3, oM 2 14 7]
def r76_6 : List AOper := [oC 2 .nilifc 0]
def c76 : ACode := (.seq (.reg r76_0) (.seq (.seq (.reg r76_1) (.blk 0 (.seq (.reg r76_2) (.cond (.t 5) (.seq (.reg r76_3) .ret) (.seq (.reg r76_4) (.cond (.t 10) (.seq (.reg r76_5) .ret) .skip)))))) (.seq (.reg r76_6) .ret)))
def fn76 : AFunc := ⟨15, [(.t 2)], c76⟩
theorem comp76 : comp Try.prog 76 = some fn76 := by kernel_rfl
def r78_0 : List AOper := [⟨some 2, (.a (.alloc [(.int .i64 (.ofNat 0)), (.int .i64 (.ofNat 0)), .str []])), none, 0⟩]
def r78_1 : List AOper := [oM 3 0 0]
def r78_2 : List AOper := [oK 4 31 [oI 1] 0, ⟨none, (.e (.store 3 (.t 2) (.t 4))), none, 1⟩]
def r78_3 : List AOper := [oK 5 31 [oI 0] 0, ⟨none, (.e (.store 3 (.t 2) (.t 5))), none, 1⟩]
def c78 : ACode := (.seq (.reg r78_0) (.seq (.seq (.reg r78_1) (.cond (.t 3) (.seq (.reg r78_2) .ret) .skip)) (.seq (.reg r78_3) .ret)))
def fn78 : AFunc := ⟨6, [(.cn 2 3)], c78⟩
theorem comp78 : comp Try.prog 78 = some fn78 := by kernel_rfl
def r79_0 : List AOper := [⟨some 6, (.a (.alloc [(.int .i64 (.ofNat 0)), (.int .i64 (.ofNat 0)), .str []])), none, 0⟩, oC 7 (.int .i64 (.ofNat 0)) 0]
def r79_1 : List AOper := [oM 8 0 0]
def r79_2 : List AOper := [oQ 10 (.bin .eql (.t 8) (.c (.str [43]))) 0, oM 9 10 1]
def r79_3 : List AOper := [oM 11 1 0, oM 12 2 0, oQ 13 (.bin .add (.t 11) (.t 12)) 3, oK 14 31 [.t 13] 7, ⟨none, (.e (.store 3 (.t 6) (.t 14))), none, 15⟩, oC 7 (.int .i64 (.ofNat 0)) 31]
def r79_4 : List AOper := [oQ 16 (.bin .eql (.t 8) (.c (.str [45]))) 0, oM 15 16 1]
def r79_5 : List AOper := [oM 17 1 0, oM 18 2 0, oQ 19 (.bin .sub (.t 17) (.t 18)) 3, oK 20 31 [.t 19] 7, ⟨none, (.e (.store 3 (.t 6) (.t 20))), none, 15⟩, oC 7 (.int .i64 (.ofNat 0)) 31]
def r79_6 : List AOper := [oQ 22 (.bin .eql (.t 8) (.c (.str [42]))) 0, oM 21 22 1]
def r79_7 : List AOper := [oM 23 1 0, oM 24 2 0, oQ 25 (.bin .mul (.t 23) (.t 24)) 3, oK 26 31 [.t 25] 7, ⟨none, (.e (.store 3 (.t 6) (.t 26))), none, 15⟩, oC 7 (.int .i64 (.ofNat 0)) 31]
def r79_8 : List AOper := [oQ 28 (.bin .eql (.t 8) (.c (.str [60]))) 0, oM 27 28 1]
def r79_9 : List AOper := [oM 29 1 0, oM 30 2 0, oQ 31 (.bin .lss (.t 29) (.t 30)) 3, oK 32 78 [.t 31] 7, ⟨none, (.e (.store 3 (.t 6) (.t 32))), none, 15⟩, oC 7 (.int .i64 (.ofNat 0)) 31]
def r79_10 : List AOper := [oQ 34 (.bin .eql (.t 8) (.c (.str [60, 61]))) 0, oM 33 34 1]
def r79_11 : List AOper := [oM 35 1 0, oM 36 2 0, oQ 37 (.bin .leq (.t 35) (.t 36)) 3, oK 38 78 [.t 37] 7, ⟨none, (.e (.store 3 (.t 6) (.t 38))), none, 15⟩, oC 7 (.int .i64 (.ofNat 0)) 31]
def r79_12 : List AOper := [oQ 40 (.bin .eql (.t 8) (.c (.str [46, 46]))) 0, oM 39 40 1]
def r79_13 : List AOper := [oQ 41 (.build [(.int .i64 (.ofNat 0)), (.int .i64 (.ofNat 0)), .str []] []) 0, ⟨none, (.e (.store 3 (.t 6) (.t 41))), none, 1⟩, oC 7 (.int .i64 (.ofNat 1)) 3]
def r79_14 : List AOper := [oM 42 2 0, oQ 43 (.bin .eql (.t 42) (oI 0)) 1]
def r79_15 : List AOper := [oQ 44 (.build [(.int .i64 (.ofNat 0)), (.int .i64 (.ofNat 0)), .str []] []) 0, ⟨none, (.e (.store 3 (.t 6) (.t 44))), none, 1⟩, oC 7 (.int .i64 (.ofNat 2)) 3]
def r79_16 : List AOper := [oM 45 2 0, oQ 46 (.bin .eql (.t 45) (.c (.int .i64 (.negSucc 0)))) 1, oM 47 46 3, oG 48 (.mov (.t 0)) 47 true 7, oG 49 (.bin .eql (.t 48) (.c (.str [47]))) 47 true 15, oQ 50 (.pick (.t 47) (.t 49) (.c (.bool false))) 31]
def r79_17 : List AOper := [oM 51 1 0, oQ 52 (.un .neg (.t 51)) 1, oK 53 31 [.t 52] 3, ⟨none, (.e (.store 3 (.t 6) (.t 53))), none, 7⟩, oC 7 (.int .i64 (.ofNat 0)) 15]
def r79_18 : List AOper := [oM 54 2 0, oQ 55 (.bin .eql (.t 54) (.c (.int .i64 (.negSucc 0)))) 1]
def r79_19 : List AOper := [oK 56 31 [oI 0] 0, ⟨none, (.e (.store 3 (.t 6) (.t 56))), none, 1⟩, oC 7 (.int .i64 (.ofNat 0)) 3]
def r79_20 : List AOper := [oM 57 0 0, oQ 58 (.bin .eql (.t 57) (.c (.str [47]))) 1]
def r79_21 : List AOper := [oM 59 1 0, oM 60 2 0, oQ 61 (.bin .quo (.t 59) (.t 60)) 3, oK 62 31 [.t 61] 7, ⟨none, (.e (.store 3 (.t 6) (.t 62))), none, 15⟩, oC 7 (.int .i64 (.ofNat 0)) 31]
def r79_22 : List AOper := [oM 63 1 0, oM 64 2 0, oQ 65 (.bin .rem (.t 63) (.t 64)) 3, oK 66 31 [.t 65] 7, ⟨none, (.e (.store 3 (.t 6) (.t 66))), none, 15⟩, oC 7 (.int .i64 (.ofNat 0)) 31]
def c79 : ACode := (.seq (.reg r79_0) (.seq (.seq (.reg r79_1) (.blk 0 (.seq (.reg r79_2) (.cond (.t 9) (.seq (.reg r79_3) .ret) (.seq (.reg r79_4) (.cond (.t 15) (.seq (.reg r79_5) .ret) (.seq (.reg r79_6) (.cond (.t 21) (.seq (.reg r79_7) .ret) (.seq (.reg r79_8) (.cond (.t 27) (.seq (.reg r79_9) .ret) (.seq (.reg r79_10) (.cond (.t 33) (.seq (.reg r79_11) .ret) (.seq (.reg r79_12) (.cond (.t 39) (.seq (.reg r79_13) .ret) .skip)))))))))))))) (.seq (.seq (.reg r79_14) (.cond (.t 43) (.seq (.reg r79_15) .ret) .skip)) (.seq (.seq (.reg r79_16) (.cond (.t 50) (.seq (.reg r79_17) .ret) .skip)) (.seq (.seq (.reg r79_18) (.cond (.t 55) (.seq (.reg r79_19) .ret) .skip)) (.seq (.seq (.reg r79_20) (.cond (.t 58) (.seq (.reg r79_21) .ret) .skip)) (.seq (.reg r79_22) .ret)))))))
def fn79 : AFunc := ⟨67, [(.cn 6 3), (.t 7)], c79⟩
theorem comp79 : comp Try.prog 79 = some fn79 := by kernel_rfl
def r80_0 : List AOper := [⟨some 6, (.a (.alloc [(.int .i64 (.ofNat 0)), (.int .i64 (.ofNat 0)), .str []])), none, 0⟩, oC 7 (.int .i64 (.ofNat 0)) 0]
def r80_1 : List AOper := [oM 8 0 0]
def r80_2 : List AOper := [oQ 10 (.bin .eql (.t 8) (.c (.str [46, 46]))) 0, oM 9 10 1]
def r80_3 : List AOper := [oM 11 1 0, oQ 12 (.len true (.t 11)) 1, oQ 13 (.bin .gtr (.t 12) (oI 1024)) 3, oM 14 13 7, oG 15 (.mov (.t 2)) 14 false 15, oG 16 (.len true (.t 15)) 14 false 31, oG 17 (.bin .gtr (.t 16) (oI 1024)) 14 false 63, oQ 18 (.pick (.t 14) (.c (.bool true)) (.t 17)) 127, oM 19 18 255, oG 20 (.mov (.t 1)) 19 false 511, oG 21 (.len true (.t 20)) 19 false 1023, oG 22 (.mov (.t 2)) 19 false 511, oG 23 (.len true (.t 22)) 19 false 2559, oG 24 (.bin .add (.t 21) (.t 23)) 19 false 8191, oG 25 (.bin .gtr (.t 24) (oI 1024)) 19 false 16383, oQ 26 (.pick (.t 19) (.c (.bool true)) (.t 25)) 32767]
def r80_4 : List AOper := [oQ 27 (.build [(.int .i64 (.ofNat 0)), (.int .i64 (.ofNat 0)), .str []] []) 0, ⟨none, (.e (.store 3 (.t 6) (.t 27))), none, 1⟩, oC 7 (.int .i64 (.ofNat 3)) 3]
def r80_5 : List AOper := [oM 28 1 0, oM 29 2 0, oQ 30 (.bin .add (.t 28) (.t 29)) 3, oK 31 32 [.t 30] 7, ⟨none, (.e (.store 3 (.t 6) (.t 31))), none, 15⟩, oC 7 (.int .i64 (.ofNat 0)) 31]
def r80_6 : List AOper := [oQ 33 (.bin .eql (.t 8) (.c (.str [60]))) 0, oM 32 33 1]
def r80_7 : List AOper := [oM 34 1 0, oM 35 2 0, oK 36 86 [.t 34, .t 35] 3, oK 37 78 [.t 36] 7, ⟨none, (.e (.store 3 (.t 6) (.t 37))), none, 15⟩, oC 7 (.int .i64 (.ofNat 0)) 31]
def r80_8 : List AOper := [oQ 39 (.bin .eql (.t 8) (.c (.str [60, 61]))) 0, oM 38 39 1]
def r80_9 : List AOper := [oM 40 2 0, oM 41 1 0, oK 42 86 [.t 40, .t 41] 3, oQ 43 (.un .not (.t 42)) 7, oK 44 78 [.t 43] 15, ⟨none, (.e (.store 3 (.t 6) (.t 44))), none, 31⟩, oC 7 (.int .i64 (.ofNat 0)) 63]
def r80_10 : List AOper := [oQ 45 (.build [(.int .i64 (.ofNat 0)), (.int .i64 (.ofNat 0)), .str []] []) 0, ⟨none, (.e (.store 3 (.t 6) (.t 45))), none, 1⟩, oC 7 (.int .i64 (.ofNat 1)) 3]
def c80 : ACode := (.seq (.reg r80_0) (.seq (.seq (.reg r80_1) (.blk 0 (.seq (.reg r80_2) (.cond (.t 9) (.seq (.seq (.reg r80_3) (.cond (.t 26) (.seq (.reg r80_4) .ret) .skip)) (.seq (.reg r80_5) .ret)) (.seq (.reg r80_6) (.cond (.t 32) (.seq (.reg r80_7) .ret) (.seq (.reg r80_8) (.cond (.t 38) (.seq (.reg r80_9) .ret) .skip)))))))) (.seq (.reg r80_10) .ret)))
def fn80 : AFunc := ⟨46, [(.cn 6 3), (.t 7)], c80⟩
theorem comp80 : comp Try.prog 80 = some fn80 := by kernel_rfl
def r81_0 : List AOper := [oC 6 (.int .i64 (.ofNat 0)) 0, oC 7 (.int .i64 (.ofNat 0)) 1]
def r81_1 : List AOper := [oM 11 2 0, oK 12 68 [.t 11] 1, oQ 13 (.un .not (.t 12)) 3, oM 14 13 7, oG 15 (.mov (.t 1)) 14 false 15, oG 16 (.bin .lss (.t 15) (oI 0)) 14 false 31, oQ 17 (.pick (.t 14) (.c (.bool true)) (.t 16)) 63, oM 10 17 127]
def r81_2 : List AOper := [oC 6 (.int .i64 (.ofNat 0)) 0, oC 7 (.int .i64 (.ofNat 1)) 1]
def r81_3 : List AOper := [oM 19 1 0, oM 20 0 0, oQ 21 (.len true (.t 20)) 2, oQ 22 (.bin .gtr (.t 19) (.t 21)) 7, oM 23 22 15, oG 24 (.mov (.t 2)) 23 false 31, oG 25 (.mov (.t 0)) 23 false 31, oG 26 (.len true (.t 25)) 23 false 95, oG 27 (.mov (.t 1)) 23 false 31, oG 28 (.bin .sub (.t 26) (.t 27)) 23 false 479, oG 29 (.bin .gtr (.t 24) (.t 28)) 23 false 1023, oQ 30 (.pick (.t 23) (.c (.bool true)) (.t 29)) 2047, oM 18 30 4095]
def r81_4 : List AOper := [oC 6 (.int .i64 (.ofNat 0)) 0, oC 7 (.int .i64 (.ofNat 2)) 1]
def r81_5 : List AOper := [oC 8 (.int .u64 (.ofNat 0)) 0]
def r81_6 : List AOper := [oM 31 2 0, oC 32 (.int .i64 (.ofNat 0)) 0]
def r81_7 : List AOper := [oQ 33 (.bin .lss (.t 32) (.t 31)) 0]
def r81_8 : List AOper := [oM 34 32 0, oM 9 34 1]
def r81_9 : List AOper := [oM 35 8 0, oM 36 0 0, oM 37 1 0, oM 38 9 0, oQ 39 (.bin .add (.t 37) (.t 38)) 12, oQ 40 (.idxs (.t 36) (.t 39)) 30, oQ 41 (.toInt .u64 (.t 40)) 62, oM 42 9 0, oQ 43 (.bin .mul (oI 8) (.t 42)) 128, oQ 44 (.toInt .u64 (.t 43)) 384, oQ 45 (.bin .shl (.t 41) (.t 44)) 1022, oQ 46 (.bin .or (.t 35) (.t 45)) 2047, oM 8 46 4095]
def r81_10 : List AOper := [oQ 47 (.bin .add (.t 32) (oI 1)) 0, oM 32 47 1]
def r81_11 : List AOper := [oM 48 8 0, oQ 49 (.toInt .i64 (.t 48)) 1, oM 6 49 3, oC 7 (.int .i64 (.ofNat 0)) 7]
def b81_0 : ACode := (.seq (.reg r81_7) (.seq (.cond (.t 33) .skip (.ext 1)) (.seq (.blk 2 (.seq (.reg r81_8) (.reg r81_9))) (.reg r81_10))))
def c81 : ACode := (.seq (.reg r81_0) (.seq (.blk 0 (.seq (.reg r81_1) (.cond (.t 10) (.seq (.reg r81_2) .ret) (.seq (.reg r81_3) (.cond (.t 18) (.seq (.reg r81_4) .ret) .skip))))) (.seq (.reg r81_5) (.seq (.seq (.reg r81_6) (.blk 1 (.loop b81_0))) (.seq (.reg r81_11) .ret)))))
def fn81 : AFunc := ⟨50, [(.t 6), (.t 7)], c81⟩
theorem comp81 : comp Try.prog 81 = some fn81 := by kernel_rfl
def r82_0 : List AOper := [oC 4 (.str []) 0, oC 5 (.int .i64 (.ofNat 0)) 1, oC 6 (.int .i64 (.ofNat 0)) 3]
def r82_1 : List AOper := [oM 11 0 0, oM 12 1 0, oK 13 81 [.t 11, .t 12, oI 4] 3, oM 10 13 7, oE 14 10 0 15, oE 15 10 1 15, oM 7 14 31, oM 8 15 127]
def r82_2 : List AOper := [oM 16 8 0, oQ 17 (.bin .neq (.t 16) (oI 0)) 1]
def r82_3 : List AOper := [oM 18 8 0, oC 4 (.str []) 0, oC 5 (.int .i64 (.ofNat 0)) 2, oM 6 18 7]
def r82_4 : List AOper := [oM 19 0 0, oM 20 1 0, oQ 21 (.bin .add (.t 20) (oI 4)) 2, oQ 22 (.sstr (.t 19) (some (.t 21)) none) 7, oM 9 22 15]
def r82_5 : List AOper := [oM 23 7 0, oM 24 9 0, oQ 25 (.len true (.t 24)) 2, oQ 26 (.bin .leq (.t 23) (.t 25)) 7]
def r82_6 : List AOper := [oM 27 9 0, oM 28 7 0, oQ 29 (.sstr (.t 27) none (some (.t 28))) 3, oM 30 1 0, oQ 31 (.bin .add (.t 30) (oI 4)) 8, oM 32 7 0, oQ 33 (.bin .add (.t 31) (.t 32)) 56, oM 4 29 7, oM 5 33 255, oC 6 (.int .i64 (.ofNat 0)) 511]
def r82_7 : List AOper := [oC 4 (.str []) 0, oC 5 (.int .i64 (.ofNat 0)) 1, oC 6 (.int .i64 (.ofNat 2)) 3]
def c82 : ACode := (.seq (.reg r82_0) (.seq (.reg r82_1) (.seq (.seq (.reg r82_2) (.cond (.t 17) (.seq (.reg r82_3) .ret) .skip)) (.seq (.seq (.reg r82_4) (.seq (.reg r82_5) (.cond (.t 26) (.seq (.reg r82_6) .ret) .skip))) (.seq (.reg r82_7) .ret)))))
def fn82 : AFunc := ⟨34, [(.t 4), (.t 5), (.t 6)], c82⟩
theorem comp82 : comp Try.prog 82 = some fn82 := by kernel_rfl
def r83_0 : List AOper := [⟨some 1, (.a (.box (.t 0))), none, 0⟩, oC 2 (.bool false) 0]
def r83_1 : List AOper := [oQ 3 (.fadr 0 1 (.t 1)) 0, oR 4 3 1]
def r83_2 : List AOper := [oQ 6 (.bin .eql (.t 4) (oI 0)) 0, oM 5 6 1]
def r83_3 : List AOper := [⟨some 7, (.r (.loadn 3) (.t 1) (.t 1)), none, 0⟩, oQ 8 (.build [(.int .i64 (.ofNat 0)), (.int .i64 (.ofNat 0)), .str []] []) 0, oQ 9 (.eq false (.flat true [.i, .i, .s]) (.t 7) (.t 8)) 3, oM 2 9 7]
def r83_4 : List AOper := [oQ 11 (.bin .eql (.t 4) (oI 2)) 0, oM 10 11 1]
def r83_5 : List AOper := [oQ 12 (.fadr 1 1 (.t 1)) 0, oR 13 12 1, oQ 14 (.bin .eql (.t 13) (oI 0)) 3, oM 15 14 7, oG 16 (.fadr 2 1 (.t 1)) 15 true 15, ⟨some 17, (.r .load1 (.t 16) (.t 16)), some ⟨15, true⟩, 31⟩, oG 18 (.len true (.t 17)) 15 true 63, oG 19 (.bin .leq (.t 18) (oI 1024)) 15 true 127, oQ 20 (.pick (.t 15) (.t 19) (.c (.bool false))) 255, oM 2 20 511]
def r83_6 : List AOper := [oQ 22 (.bin .eql (.t 4) (oI 1)) 0, oM 21 22 1]
def r83_7 : List AOper := [oQ 23 (.bin .eql (.t 4) (oI 3)) 0, oM 21 23 1]
def r83_8 : List AOper := [oQ 24 (.bin .eql (.t 4) (oI 4)) 0, oM 21 24 1]
def r83_9 : List AOper := [oQ 25 (.bin .eql (.t 4) (oI 5)) 0, oM 21 25 1]
def r83_10 : List AOper := [oQ 26 (.fadr 2 1 (.t 1)) 0, oR 27 26 1, oQ 28 (.bin .eql (.t 27) (.c (.str []))) 3, oM 2 28 7]
def r83_11 : List AOper := [oC 2 (.bool false) 0]
def c83 : ACode := (.seq (.reg r83_0) (.seq (.seq (.reg r83_1) (.blk 0 (.seq (.reg r83_2) (.cond (.t 5) (.seq (.reg r83_3) .ret) (.seq (.reg r83_4) (.cond (.t 10) (.seq (.reg r83_5) .ret) (.seq (.seq (.reg r83_6) (.cond (.t 21) .skip (.seq (.reg r83_7) (.cond (.t 21) .skip (.seq (.reg r83_8) (.cond (.t 21) .skip (.reg r83_9))))))) (.cond (.t 21) (.seq (.reg r83_10) .ret) .skip)))))))) (.seq (.reg r83_11) .ret)))
def fn83 : AFunc := ⟨29, [(.t 2)], c83⟩
theorem comp83 : comp Try.prog 83 = some fn83 := by kernel_rfl
def r84_0 : List AOper := [⟨some 4, (.a (.box (.t 1))), none, 0⟩, ⟨some 5, (.a (.box (.t 2))), none, 0⟩, ⟨some 6, (.a (.alloc [(.int .i64 (.ofNat 0)), (.int .i64 (.ofNat 0)), .str []])), none, 0⟩, oC 7 (.int .i64 (.ofNat 0)) 0]
def r84_1 : List AOper := [oM 11 0 0, oK 12 87 [.t 11] 1, oQ 13 (.un .not (.t 12)) 3, oM 10 13 7]
def r84_2 : List AOper := [oK 14 88 [oI 12] 0, oE 15 14 0 1, oE 16 14 1 1, ⟨none, (.e (.store 3 (.t 6) (.t 15))), none, 7⟩, oM 7 16 15]
def r84_3 : List AOper := [oM 18 0 0, oQ 19 (.bin .eql (.t 18) (.c (.str [61, 61]))) 1, oM 17 19 3]
def r84_4 : List AOper := [⟨some 20, (.r (.loadn 3) (.t 4) (.t 4)), none, 0⟩, ⟨some 21, (.r (.loadn 3) (.t 5) (.t 5)), none, 0⟩, oQ 22 (.eq false (.flat true [.i, .i, .s]) (.t 20) (.t 21)) 3, oK 23 89 [.t 22] 7, oE 24 23 0 15, oE 25 23 1 15, ⟨none, (.e (.store 3 (.t 6) (.t 24))), none, 63⟩, oM 7 25 127]
def r84_5 : List AOper := [oM 27 0 0, oQ 28 (.bin .eql (.t 27) (.c (.str [33, 61]))) 1, oM 26 28 3]
def r84_6 : List AOper := [⟨some 29, (.r (.loadn 3) (.t 4) (.t 4)), none, 0⟩, ⟨some 30, (.r (.loadn 3) (.t 5) (.t 5)), none, 0⟩, oQ 31 (.eq true (.flat true [.i, .i, .s]) (.t 29) (.t 30)) 3, oK 32 89 [.t 31] 7, oE 33 32 0 15, oE 34 32 1 15, ⟨none, (.e (.store 3 (.t 6) (.t 33))), none, 63⟩, oM 7 34 127]
def r84_7 : List AOper := [oQ 36 (.fadr 0 1 (.t 4)) 0, oR 37 36 1, oQ 38 (.fadr 0 1 (.t 5)) 0, oR 39 38 4, oQ 40 (.bin .neq (.t 37) (.t 39)) 15, oM 35 40 31]
def r84_8 : List AOper := [oK 41 88 [oI 1] 0, oE 42 41 0 1, oE 43 41 1 1, ⟨none, (.e (.store 3 (.t 6) (.t 42))), none, 7⟩, oM 7 43 15]
def r84_9 : List AOper := [⟨some 44, (.r (.loadn 3) (.t 4) (.t 4)), none, 0⟩, oK 45 76 [.t 44] 1]
def r84_10 : List AOper := [oQ 46 (.tas 123 (.int .i64 (.ofNat 0)) true (.t 45)) 0, oE 47 46 1 1, oE 48 46 0 1]
def r84_11 : List AOper := [oM 8 48 0]
def r84_12 : List AOper := [oM 49 0 0, oM 50 8 0, oQ 51 (.fadr 1 1 (.t 5)) 0, oR 52 51 4, oK 53 90 [.t 49, .t 50, .t 52] 15, oE 54 53 0 31, oE 55 53 1 31, ⟨none, (.e (.store 3 (.t 6) (.t 54))), none, 127⟩, oM 7 55 255]
def r84_13 : List AOper := [oQ 56 (.tas 124 (.str []) true (.t 45)) 0, oE 57 56 1 1, oE 58 56 0 1]
def r84_14 : List AOper := [oM 9 58 0]
def r84_15 : List AOper := [oM 59 0 0, oM 60 9 0, oQ 61 (.fadr 2 1 (.t 5)) 0, oR 62 61 4, oK 63 91 [.t 59, .t 60, .t 62] 15, oE 64 63 0 31, oE 65 63 1 31, ⟨none, (.e (.store 3 (.t 6) (.t 64))), none, 127⟩, oM 7 65 255]
def r84_16 : List AOper := [oK 66 88 [oI 1] 0, oE 67 66 0 1, oE 68 66 1 1, ⟨none, (.e (.store 3 (.t 6) (.t 67))), none, 7⟩, oM 7 68 15]
def c84 : ACode := (.seq (.reg r84_0) (.seq (.blk 0 (.seq (.reg r84_1) (.cond (.t 10) (.seq (.reg r84_2) .ret) (.seq (.reg r84_3) (.cond (.t 17) (.seq (.reg r84_4) .ret) (.seq (.reg r84_5) (.cond (.t 26) (.seq (.reg r84_6) .ret) (.seq (.reg r84_7) (.cond (.t 35) (.seq (.reg r84_8) .ret) .skip))))))))) (.seq (.seq (.reg r84_9) (.blk 1 (.seq (.reg r84_10) (.cond (.t 47) (.seq (.reg r84_11) (.seq (.reg r84_12) .ret)) (.seq (.reg r84_13) (.cond (.t 57) (.seq (.reg r84_14) (.seq (.reg r84_15) .ret)) .skip)))))) (.seq (.reg r84_16) .ret))))
def fn84 : AFunc := ⟨69, [(.cn 6 3), (.t 7)], c84⟩
theorem comp84 : comp Try.prog 84 = some fn84 := by kernel_rfl
def r85_0 : List AOper := [⟨some 1, (.a (.box (.t 0))), none, 0⟩, oC 2 (.bool false) 0]
def r85_1 : List AOper := [oQ 3 (.fadr 0 1 (.t 1)) 0, oR 4 3 1, oQ 5 (.bin .neq (.t 4) (oI 0)) 3, oM 6 5 7, ⟨some 7, (.r (.loadn 3) (.t 1) (.t 1)), some ⟨6, true⟩, 15⟩, oG 8 (.build [(.int .i64 (.ofNat 0)), (.int .i64 (.ofNat 0)), .str []] [⟨0, ⟨1, oI 1⟩⟩]) 6 true 15, oG 9 (.eq true (.flat true [.i, .i, .s]) (.t 7) (.t 8)) 6 true 63, oQ 10 (.pick (.t 6) (.t 9) (.c (.bool false))) 127, oM 2 10 255]
def c85 : ACode := (.seq (.reg r85_0) (.seq (.reg r85_1) .ret))
def fn85 : AFunc := ⟨11, [(.t 2)], c85⟩
theorem comp85 : comp Try.prog 85 = some fn85 := by kernel_rfl
def r86_0 : List AOper := [oC 4 (.bool false) 0]
def r86_1 : List AOper := [oC 5 (.int .i64 (.ofNat 0)) 0]
def r86_2 : List AOper := [oM 6 5 0, oM 7 0 0, oQ 8 (.len true (.t 7)) 2, oQ 9 (.bin .lss (.t 6) (.t 8)) 7, oM 10 9 15, oG 11 (.mov (.t 5)) 10 true 31, oG 12 (.mov (.t 1)) 10 true 31, oG 13 (.len true (.t 12)) 10 true 95, oG 14 (.bin .lss (.t 11) (.t 13)) 10 true 255, oQ 15 (.pick (.t 10) (.t 14) (.c (.bool false))) 511]
def r86_3 : List AOper := [oM 18 0 0, oM 19 5 0, oQ 20 (.idxs (.t 18) (.t 19)) 3, oM 21 1 0, oM 22 5 0, oQ 23 (.idxs (.t 21) (.t 22)) 24, oQ 24 (.bin .neq (.t 20) (.t 23)) 63]
def r86_4 : List AOper := [oM 25 0 0, oM 26 5 0, oQ 27 (.idxs (.t 25) (.t 26)) 3, oM 28 1 0, oM 29 5 0, oQ 30 (.idxs (.t 28) (.t 29)) 24, oQ 31 (.bin .lss (.t 27) (.t 30)) 63, oM 4 31 127]
def r86_5 : List AOper := [oM 16 5 0, oQ 17 (.bin .add (.t 16) (oI 1)) 1, oM 5 17 3]
def r86_6 : List AOper := [oM 32 0 0, oQ 33 (.len true (.t 32)) 1, oM 34 1 0, oQ 35 (.len true (.t 34)) 4, oQ 36 (.bin .lss (.t 33) (.t 35)) 15, oM 4 36 31]
def b86_0 : ACode := (.seq (.seq (.reg r86_2) (.cond (.t 15) .skip (.ext 0))) (.seq (.blk 1 (.seq (.draw r86_3) (.cond (.t 24) (.seq (.draw r86_4) .ret) .skip))) (.reg r86_5)))
def c86 : ACode := (.seq (.reg r86_0) (.seq (.seq (.reg r86_1) (.blk 0 (.loop b86_0))) (.seq (.reg r86_6) .ret)))
def fn86 : AFunc := ⟨37, [(.t 4)], c86⟩
theorem comp86 : comp Try.prog 86 = some fn86 := by kernel_rfl
def r89_0 : List AOper := [⟨some 2, (.a (.alloc [(.int .i64 (.ofNat 0)), (.int .i64 (.ofNat 0)), .str []])), none, 0⟩, oC 3 (.int .i64 (.ofNat 0)) 0]
def r89_1 : List AOper := [oM 4 0 0]
def r89_2 : List AOper := [oK 5 92 [oI 1] 0, oE 6 5 0 1, oE 7 5 1 1, ⟨none, (.e (.store 3 (.t 2) (.t 6))), none, 7⟩, oM 3 7 15]
def r89_3 : List AOper := [oK 8 92 [oI 0] 0, oE 9 8 0 1, oE 10 8 1 1, ⟨none, (.e (.store 3 (.t 2) (.t 9))), none, 7⟩, oM 3 10 15]
def c89 : ACode := (.seq (.reg r89_0) (.seq (.seq (.reg r89_1) (.cond (.t 4) (.seq (.reg r89_2) .ret) .skip)) (.seq (.reg r89_3) .ret)))
def fn89 : AFunc := ⟨11, [(.cn 2 3), (.t 3)], c89⟩
theorem comp89 : comp Try.prog 89 = some fn89 := by kernel_rfl
def r90_0 : List AOper := [⟨some 6, (.a (.alloc [(.int .i64 (.ofNat 0)), (.int .i64 (.ofNat 0)), .str []])), none, 0⟩, oC 7 (.int .i64 (.ofNat 0)) 0]
def r90_1 : List AOper := [oM 8 0 0]
def r90_2 : List AOper := [oQ 10 (.bin .eql (.t 8) (.c (.str [43]))) 0, oM 9 10 1]
def r90_3 : List AOper := [oM 11 1 0, oM 12 2 0, oQ 13 (.bin .add (.t 11) (.t 12)) 3, oK 14 92 [.t 13] 7, oE 15 14 0 15, oE 16 14 1 15, ⟨none, (.e (.store 3 (.t 6) (.t 15))), none, 63⟩, oM 7 16 127]
def r90_4 : List AOper := [oQ 18 (.bin .eql (.t 8) (.c (.str [45]))) 0, oM 17 18 1]
def r90_5 : List AOper := [oM 19 1 0, oM 20 2 0, oQ 21 (.bin .sub (.t 19) (.t 20)) 3, oK 22 92 [.t 21] 7, oE 23 22 0 15, oE 24 22 1 15, ⟨none, (.e (.store 3 (.t 6) (.t 23))), none, 63⟩, oM 7 24 127]
def r90_6 : List AOper := [oQ 26 (.bin .eql (.t 8) (.c (.str [42]))) 0, oM 25 26 1]
def r90_7 : List AOper := [oM 27 1 0, oM 28 2 0, oQ 29 (.bin .mul (.t 27) (.t 28)) 3, oK 30 92 [.t 29] 7, oE 31 30 0 15, oE 32 30 1 15, ⟨none, (.e (.store 3 (.t 6) (.t 31))), none, 63⟩, oM 7 32 127]
def r90_8 : List AOper := [oQ 34 (.bin .eql (.t 8) (.c (.str [47]))) 0, oM 33 34 1]
def r90_9 : List AOper := [oQ 35 (.bin .eql (.t 8) (.c (.str [37]))) 0, oM 33 35 1]
def r90_10 : List AOper := [oM 36 0 0, oM 37 1 0, oM 38 2 0, oK 39 93 [.t 36, .t 37, .t 38] 7, oE 40 39 0 15, oE 41 39 1 15, ⟨none, (.e (.store 3 (.t 6) (.t 40))), none, 63⟩, oM 7 41 127]
def r90_11 : List AOper := [oQ 43 (.bin .eql (.t 8) (.c (.str [60]))) 0, oM 42 43 1]
def r90_12 : List AOper := [oM 44 1 0, oM 45 2 0, oQ 46 (.bin .lss (.t 44) (.t 45)) 3, oK 47 89 [.t 46] 7, oE 48 47 0 15, oE 49 47 1 15, ⟨none, (.e (.store 3 (.t 6) (.t 48))), none, 63⟩, oM 7 49 127]
def r90_13 : List AOper := [oQ 51 (.bin .eql (.t 8) (.c (.str [60, 61]))) 0, oM 50 51 1]
def r90_14 : List AOper := [oM 52 1 0, oM 53 2 0, oQ 54 (.bin .leq (.t 52) (.t 53)) 3, oK 55 89 [.t 54] 7, oE 56 55 0 15, oE 57 55 1 15, ⟨none, (.e (.store 3 (.t 6) (.t 56))), none, 63⟩, oM 7 57 127]
def r90_15 : List AOper := [oK 58 88 [oI 1] 0, oE 59 58 0 1, oE 60 58 1 1, ⟨none, (.e (.store 3 (.t 6) (.t 59))), none, 7⟩, oM 7 60 15]
def c90 : ACode := (.seq (.reg r90_0) (.seq (.seq (.reg r90_1) (.blk 0 (.seq (.reg r90_2) (.cond (.t 9) (.seq (.reg r90_3) .ret) (.seq (.reg r90_4) (.cond (.t 17) (.seq (.reg r90_5) .ret) (.seq (.reg r90_6) (.cond (.t 25) (.seq (.reg r90_7) .ret) (.seq (.seq (.reg r90_8) (.cond (.t 33) .skip (.reg r90_9))) (.cond (.t 33) (.seq (.reg r90_10) .ret) (.seq (.reg r90_11) (.cond (.t 42) (.seq (.reg r90_12) .ret) (.seq (.reg r90_13) (.cond (.t 50) (.seq (.reg r90_14) .ret) .skip)))))))))))))) (.seq (.reg r90_15) .ret)))
def fn90 : AFunc := ⟨61, [(.cn 6 3), (.t 7)], c90⟩
theorem comp90 : comp Try.prog 90 = some fn90 := by kernel_rfl
def r91_0 : List AOper := [⟨some 6, (.a (.alloc [(.int .i64 (.ofNat 0)), (.int .i64 (.ofNat 0)), .str []])), none, 0⟩, oC 7 (.int .i64 (.ofNat 0)) 0]
def r91_1 : List AOper := [oM 8 0 0]
def r91_2 : List AOper := [oQ 10 (.bin .eql (.t 8) (.c (.str [46, 46]))) 0, oM 9 10 1]
def r91_3 : List AOper := [oM 11 1 0, oQ 12 (.len true (.t 11)) 1, oM 13 2 0, oQ 14 (.len true (.t 13)) 4, oQ 15 (.bin .sub (oI 1024) (.t 14)) 12, oQ 16 (.bin .gtr (.t 12) (.t 15)) 31]
def r91_4 : List AOper := [oK 17 88 [oI 3] 0, oE 18 17 0 1, oE 19 17 1 1, ⟨none, (.e (.store 3 (.t 6) (.t 18))), none, 7⟩, oM 7 19 15]
def r91_5 : List AOper := [oM 20 1 0, oM 21 2 0, oQ 22 (.bin .add (.t 20) (.t 21)) 3, oQ 23 (.build [(.int .i64 (.ofNat 0)), (.int .i64 (.ofNat 0)), .str []] [⟨0, ⟨1, oI 2⟩⟩, ⟨2, ⟨1, .t 22⟩⟩]) 7, ⟨none, (.e (.store 3 (.t 6) (.t 23))), none, 15⟩, oC 7 (.int .i64 (.ofNat 0)) 31]
def r91_6 : List AOper := [oQ 25 (.bin .eql (.t 8) (.c (.str [60]))) 0, oM 24 25 1]
def r91_7 : List AOper := [oM 26 1 0, oM 27 2 0, oQ 28 (.bin .lss (.t 26) (.t 27)) 3, oK 29 89 [.t 28] 7, oE 30 29 0 15, oE 31 29 1 15, ⟨none, (.e (.store 3 (.t 6) (.t 30))), none, 63⟩, oM 7 31 127]
def r91_8 : List AOper := [oQ 33 (.bin .eql (.t 8) (.c (.str [60, 61]))) 0, oM 32 33 1]
def r91_9 : List AOper := [oM 34 1 0, oM 35 2 0, oQ 36 (.bin .leq (.t 34) (.t 35)) 3, oK 37 89 [.t 36] 7, oE 38 37 0 15, oE 39 37 1 15, ⟨none, (.e (.store 3 (.t 6) (.t 38))), none, 63⟩, oM 7 39 127]
def r91_10 : List AOper := [oK 40 88 [oI 1] 0, oE 41 40 0 1, oE 42 40 1 1, ⟨none, (.e (.store 3 (.t 6) (.t 41))), none, 7⟩, oM 7 42 15]
def c91 : ACode := (.seq (.reg r91_0) (.seq (.seq (.reg r91_1) (.blk 0 (.seq (.reg r91_2) (.cond (.t 9) (.seq (.seq (.reg r91_3) (.cond (.t 16) (.seq (.reg r91_4) .ret) .skip)) (.seq (.reg r91_5) .ret)) (.seq (.reg r91_6) (.cond (.t 24) (.seq (.reg r91_7) .ret) (.seq (.reg r91_8) (.cond (.t 32) (.seq (.reg r91_9) .ret) .skip)))))))) (.seq (.reg r91_10) .ret)))
def fn91 : AFunc := ⟨43, [(.cn 6 3), (.t 7)], c91⟩
theorem comp91 : comp Try.prog 91 = some fn91 := by kernel_rfl
def r92_0 : List AOper := [⟨some 2, (.a (.alloc [(.int .i64 (.ofNat 0)), (.int .i64 (.ofNat 0)), .str []])), none, 0⟩, oC 3 (.int .i64 (.ofNat 0)) 0]
def r92_1 : List AOper := [oM 4 0 0, oQ 5 (.build [(.int .i64 (.ofNat 0)), (.int .i64 (.ofNat 0)), .str []] [⟨0, ⟨1, oI 1⟩⟩, ⟨1, ⟨1, .t 4⟩⟩]) 1, ⟨none, (.e (.store 3 (.t 2) (.t 5))), none, 3⟩, oC 3 (.int .i64 (.ofNat 0)) 7]
def c92 : ACode := (.seq (.reg r92_0) (.seq (.reg r92_1) .ret))
def fn92 : AFunc := ⟨6, [(.cn 2 3), (.t 3)], c92⟩
theorem comp92 : comp Try.prog 92 = some fn92 := by kernel_rfl
end Go.Proofs.Ytlflpjjmkigepaa
