/- The code of the functions that the laws reach, as the evaluator reads it. No statement stands here but that it is so. -/
import Derived.Test.YtiiajdfjnamfcaaGreatRows
import Derived.Test.YtiiajdfjnamfcaaGreatAbsY
set_option autoImplicit false
set_option maxRecDepth 100000
namespace Go.Proofs.YtiiajdfjnamfcaaGreat
open Go Go.Abs Go.Abs.C
noncomputable abbrev Try.prog : Program := Tryz.prog
theorem mixed : Try.prog.follows .mixedOrders = true := by kernel_rfl
def r3_0:O:=[c 6 (.bool false) 0]
def r3_1:O:=[m 22 2 0,L 23 22 1,B 24 .gtr 23 100 3]
def r3_2:O:=[k 25 4 [] 0,m 6 25 1]
def r3_3:O:=[q 27 (.build [(.int .i64 (.ofNat 0)), (.int .i64 (.ofNat 0)), (.int .i64 (.ofNat 0))] [⟨0, ⟨1, oI 1⟩⟩, ⟨1, ⟨1, oI 1⟩⟩, ⟨2, ⟨1, oI 1⟩⟩]) 0,k 28 5 [.c .nilptr, .t 27] 1,m 26 28 3,e 29 26 0 7,e 30 26 1 7,m 7 29 15,m 8 30 63]
def r3_4:O:=[c 9 .nilptr 0]
def r3_5:O:=[q 31 (.build [(.int .i64 (.ofNat 0)), (.int .i64 (.ofNat 0)), .nilptr, .nilptr, .nilmap, .nilslc] []) 0,⟨some 32, (.a (.box (.t 31))), none, 1⟩,m 10 32 3]
def r3_6:O:=[m 34 9 0,m 35 2 0,m 36 2 0,k 37 6 [.t 34, .t 35, .t 36] 7,m 33 37 15,e 38 33 0 31,e 39 33 1 31,m 11 38 63,m 12 39 255]
def r3_7:O:=[m 41 10 0,m 42 0 0,m 43 1 0,k 44 7 [.t 41, .t 42, .t 43] 7,m 40 44 15,e 45 40 0 31,e 46 40 1 31,e 47 40 2 31,m 13 45 63,m 14 46 383,m 15 47 1023]
def r3_8:O:=[m 49 9 0,m 50 0 0,k 51 8 [.t 49, .t 50] 3,m 48 51 7,e 52 48 0 15,e 53 48 1 15,e 54 48 2 15,m 16 52 31,m 17 53 191,m 18 54 511]
def r3_9:O:=[m 56 9 0,m 57 2 0,m 58 2 0,m 59 2 0,m 60 0 0,k 61 10 [.t 60, oI 2] 16,m 62 1 0,k 63 9 [.t 56, .t 57, .t 58, .t 59, .t 61, .t 62] 127,m 55 63 255,e 64 55 0 511,e 65 55 1 511,e 66 55 2 511,m 19 64 1023,m 20 65 6143,m 21 66 16383]
def r3_10:O:=[m 67 7 0,q 68 (.eq false .ptrnil (.t 67) (.c .nilptr)) 1,m 69 68 3,gm 70 8 69 true 7,gB 71 .eql 70 16 69 true 15,a 72 69 71 31,m 73 72 63,gm 74 12 73 true 127,gB 75 .eql 74 16 73 true 255,a 76 73 75 511,m 77 76 1023,gm 78 15 77 true 2047,gB 79 .eql 78 16 77 true 4095,a 80 77 79 8191,m 81 80 16383,gm 82 16 81 true 32767,gB 83 .eql 82 0 81 true 65535,a 84 81 83 131071,m 85 84 262143,gm 86 9 85 true 524287,gm 87 0 85 true 524287,gk 88 11 [.t 86, .t 87] 85 true 2097151,gB 89 .eql 88 16 85 true 4194303,a 90 85 89 8388607,m 91 90 16777215,gm 92 9 91 true 33554431,gk 93 12 [.t 92] 91 true 67108863,gl 94 93 91 true 134217727,gB 95 .eql 94 0 91 true 268435455,a 96 91 95 536870911,m 97 96 1073741823,gm 98 9 97 true 2147483647,gk 99 13 [.t 98] 97 true 4294967295,gB 100 .eql 99 0 97 true 8589934591,a 101 97 100 17179869183,m 102 101 34359738367,gm 103 10 102 true 68719476735,gk 104 14 [.t 103] 102 true 137438953471,gB 105 .eql 104 0 102 true 274877906943,a 106 102 105 549755813887,m 107 106 1099511627775,gm 108 9 107 true 2199023255551,gm 109 0 107 true 2199023255551,gk 110 15 [.t 108, .t 109] 107 true 8796093022207,gl 111 110 107 true 17592186044415,gB 112 .eql 111 0 107 true 35184372088831,a 113 107 112 70368744177663,m 114 113 140737488355327,gm 115 10 114 true 281474976710655,gm 116 0 114 true 281474976710655,gk 117 16 [.t 115, .t 116] 114 true 1125899906842623,gl 118 117 114 true 2251799813685247,gB 119 .eql 118 0 114 true 4503599627370495,a 120 114 119 9007199254740991,m 121 120 18014398509481983,gm 122 9 121 true 36028797018963967,gk 123 17 [.t 122] 121 true 72057594037927935,gq 124 (.eq false .ptrnil (.t 123) (.c .nilptr)) 121 true 144115188075855871,a 125 121 124 288230376151711743,m 126 125 576460752303423487,gm 127 21 126 true 1152921504606846975,gB 128 .eql 127 16 126 true 2305843009213693951,a 129 126 128 4611686018427387903,m 130 129 9223372036854775807,gk 131 4 [] 130 true 18446744073709551615,a 132 130 131 36893488147419103231,m 6 132 73786976294838206463]
def c3:ACode:=(S (G r3_0) (S (S (G r3_1) (W 24 r3_2)) (S (G r3_3) (S (G r3_4) (S (G r3_5) (S (G r3_6) (S (G r3_7) (S (G r3_8) (S (G r3_9) (E r3_10))))))))))
def fn3 : AFunc := ⟨133, [(.t 6)], c3⟩
theorem comp3 : comp Try.prog 3 = some fn3 := by kernel_rfl
def r5_0:O:=[⟨some 3, (.a (.box (.t 1))), none, 0⟩,c 4 .nilptr 0,z 5 0 2]
def r5_1:O:=[m 8 0 0,k 9 22 [.t 8] 1,q 10 (.eq false .ptrnil (.t 9) (.c .nilptr)) 3]
def r5_2:O:=[c 4 .nilptr 0,z 5 16 1]
def r5_3:O:=[f 12 0 1 3 0,r 13 12 1,k 14 23 [.t 13] 3,m 11 14 7,e 15 11 0 15,e 16 11 1 15,m 6 15 31,m 7 16 127]
def r5_4:O:=[m 17 7 0,B 18 .neq 17 0 1,m 19 18 3,gf 20 1 1 3 19 false 7,gr 21 20 19 false 15,gB 22 .lss 21 1 19 false 31,o 23 19 22 63,m 24 23 127,gf 25 1 1 3 24 false 255,gr 26 25 24 false 511,gB 27 .gtr 26 1000 24 false 1023,o 28 24 27 2047,m 29 28 4095,gf 30 2 1 3 29 false 8191,gr 31 30 29 false 16383,gB 32 .lss 31 1 29 false 32767,o 33 29 32 65535,m 34 33 131071,gf 35 2 1 3 34 false 262143,gr 36 35 34 false 524287,gB 37 .gtr 36 100 34 false 1048575,o 38 34 37 2097151]
def r5_5:O:=[c 4 .nilptr 0,z 5 1 1]
def r5_6:O:=[f 39 1 1 3 0,r 40 39 1,f 41 2 1 3 0,r 42 41 4,q 43 (.build [(.int .i64 (.ofNat 0)), (.int .i64 (.ofNat 0))] [⟨0, ⟨1, .t 40⟩⟩, ⟨1, ⟨1, .t 42⟩⟩]) 15,m 44 0 0,m 45 6 0,⟨some 46, .a .mkmap, none, 0⟩,q 47 (.build [(.int .i64 (.ofNat 0)), (.int .i64 (.ofNat 0)), .nilptr, .nilptr, .nilmap, .nilslc] [⟨0, ⟨2, .t 43⟩⟩, ⟨2, ⟨1, .t 44⟩⟩, ⟨3, ⟨1, .t 45⟩⟩, ⟨4, ⟨1, .t 46⟩⟩]) 255,⟨some 48, (.a (.box (.t 47))), none, 511⟩,m 4 48 1023,z 5 0 2047]
def c5:ACode:=(S (G r5_0) (S (S (G r5_1) (W 10 r5_2)) (S (G r5_3) (S (S (G r5_4) (W 38 r5_5)) (E r5_6)))))
def fn5 : AFunc := ⟨49, [(.t 4), (.t 5)], c5⟩
theorem comp5 : comp Try.prog 5 = some fn5 := by kernel_rfl
def r6_0:O:=[z 6 0 0,z 7 0 1]
def r6_1:O:=[m 11 0 0,k 12 24 [.t 11] 1,u 13 12 3]
def r6_2:O:=[z 6 0 0,z 7 16 1]
def r6_3:O:=[m 15 0 0,n 16 15 1,f 17 2 1 16 3,r 18 17 7,m 19 1 0,m 20 2 0,k 21 25 [.t 18, .t 19, .t 20, oI 0] 63,m 14 21 127,e 22 14 0 255,e 23 14 1 255,e 24 14 2 255,m 8 22 511,m 9 23 3071,m 10 24 8191]
def r6_4:O:=[m 26 10 0,u 27 26 1,m 25 27 3]
def r6_5:O:=[z 6 0 0,z 7 19 1]
def r6_6:O:=[m 29 0 0,k 30 26 [.t 29] 1,m 31 0 0,n 32 31 4,f 33 0 2 32 12,f 34 1 1 33 28,r 35 34 60,b 36 .geq 30 35 127,m 28 36 255]
def r6_7:O:=[z 6 0 0,z 7 3 1]
def r6_8:O:=[m 37 0 0,m 38 0 0,m 39 8 0,m 40 9 0,k 41 28 [.t 38, .t 39, .t 40, .c .nilslc, .c .nilslc] 14,k 42 27 [.t 37, .t 41] 31,m 6 42 63,z 7 0 127]
def c6:ACode:=(S (G r6_0) (S (S (G r6_1) (W 13 r6_2)) (S (G r6_3) (S (.blk 0 (S (G r6_4) (I 25 (E r6_5) (S (D r6_6) (W 28 r6_7))))) (E r6_8)))))
def fn6 : AFunc := ⟨43, [(.t 6), (.t 7)], c6⟩
theorem comp6 : comp Try.prog 6 = some fn6 := by kernel_rfl
def r7_0:O:=[c 6 .nilslc 0,z 7 0 1,z 8 0 3]
def r7_1:O:=[m 11 0 0,m 12 1 0,k 13 29 [.t 11, .t 12] 3,m 9 13 7]
def r7_2:O:=[m 15 0 0,k 16 24 [.t 15] 1,u 17 16 3,m 14 17 7]
def r7_3:O:=[c 6 .nilslc 0,z 7 0 1,z 8 16 3]
def r7_4:O:=[m 19 2 0,B 20 .lss 19 0 1,m 18 20 3]
def r7_5:O:=[c 6 .nilslc 0,z 7 0 1,z 8 1 3]
def r7_6:O:=[m 22 9 0,q 23 (.eq false .ptrnil (.t 22) (.c .nilptr)) 1,m 24 23 3,gm 25 9 24 false 7,gn 26 25 24 false 15,gf 27 0 1 26 24 false 31,gr 28 27 24 false 63,gB 29 .neq 28 1 24 false 127,o 30 24 29 255,m 21 30 511]
def r7_7:O:=[c 6 .nilslc 0,z 7 0 1,z 8 8 3]
def r7_8:O:=[m 31 0 0,m 32 9 0,m 33 2 0,k 34 30 [.t 31, .t 32, .t 33] 7,m 10 34 15]
def r7_9:O:=[m 35 10 0,n 36 35 1,f 37 3 1 36 3,r 38 37 7,m 39 10 0,n 40 39 16,f 41 4 1 40 48,r 42 41 112,m 6 38 15,m 7 42 511,z 8 0 1023]
def c7:ACode:=(S (G r7_0) (S (G r7_1) (S (.blk 0 (S (G r7_2) (I 14 (E r7_3) (S (G r7_4) (I 18 (E r7_5) (S (G r7_6) (W 21 r7_7))))))) (S (G r7_8) (S (D r7_9) .ret)))))
def fn7 : AFunc := ⟨43, [(.t 6), (.t 7), (.t 8)], c7⟩
theorem comp7 : comp Try.prog 7 = some fn7 := by kernel_rfl
def r8_0:O:=[z 4 0 0,z 5 0 1,c 6 (.str []) 3]
def r8_1:O:=[m 8 0 0,m 9 1 0,k 10 29 [.t 8, .t 9] 3,m 7 10 7]
def r8_2:O:=[m 12 7 0,q 13 (.eq false .ptrnil (.t 12) (.c .nilptr)) 1,m 11 13 3]
def r8_3:O:=[z 4 0 0,z 5 0 1,c 6 (.str []) 3]
def r8_4:O:=[m 15 7 0,n 16 15 1,f 17 0 1 16 3,r 18 17 7,B 19 .eql 18 2 15,m 14 19 31]
def r8_5:O:=[m 20 7 0,n 21 20 1,f 22 2 3 21 3,R 23 3 22 7,k 24 31 [.t 23] 15,z 4 2 31,z 5 0 63,m 6 24 127]
def r8_6:O:=[m 25 7 0,n 26 25 1,f 27 0 1 26 3,r 28 27 7,m 29 7 0,n 30 29 16,f 31 1 1 30 48,r 32 31 112,m 4 28 15,m 5 32 511,c 6 (.str []) 1023]
def c8:ACode:=(S (G r8_0) (S (G r8_1) (S (.blk 0 (S (G r8_2) (I 11 (E r8_3) (S (G r8_4) (W 14 r8_5))))) (S (D r8_6) .ret))))
def fn8 : AFunc := ⟨33, [(.t 4), (.t 5), (.t 6)], c8⟩
theorem comp8 : comp Try.prog 8 = some fn8 := by kernel_rfl
def r9_0:O:=[c 12 (.str []) 0,z 13 0 1,z 14 0 3]
def r9_1:O:=[m 23 0 0,k 24 24 [.t 23] 1,u 25 24 3,m 22 25 7]
def r9_2:O:=[c 12 (.str []) 0,z 13 0 1,z 14 16 3]
def r9_3:O:=[m 27 4 0,B 28 .lss 27 0 1,m 29 28 3,gm 30 4 29 false 7,gB 31 .gtr 30 1 29 false 15,o 32 29 31 31,m 33 32 63,gm 34 5 33 false 127,gB 35 .lss 34 0 33 false 255,o 36 33 35 511,m 26 36 1023]
def r9_4:O:=[c 12 (.str []) 0,z 13 0 1,z 14 1 3]
def r9_5:O:=[m 38 0 0,n 39 38 1,f 40 2 1 39 3,r 41 40 7,m 42 1 0,m 43 2 0,m 44 4 0,k 45 25 [.t 41, .t 42, .t 43, .t 44] 127,m 37 45 255,e 46 37 0 511,e 47 37 1 511,e 48 37 2 511,m 15 46 1023,m 16 47 6143,m 17 48 16383]
def r9_6:O:=[m 49 17 0,u 50 49 1]
def r9_7:O:=[c 12 (.str []) 0,z 13 0 1,z 14 19 3]
def r9_8:O:=[m 52 0 0,m 53 3 0,m 54 4 0,k 55 32 [.t 52, .t 53, .t 54] 7,m 51 55 15,e 56 51 0 31,e 57 51 1 31,m 18 56 63,m 19 57 255]
def r9_9:O:=[m 58 19 0,B 59 .neq 58 0 1]
def r9_10:O:=[m 60 19 0,c 12 (.str []) 0,m 13 60 3,z 14 21 7]
def r9_11:O:=[m 61 0 0,m 62 15 0,m 63 16 0,m 64 18 0,k 65 28 [.t 61, .t 62, .t 63, .t 64, .c .nilslc] 15,⟨some 66, (.a (.lits 1 1 [.nilptr] [⟨0, ⟨1, .t 65⟩⟩])), none, 31⟩,q 67 (.build [(.int .i64 (.ofNat 0)), (.int .i64 (.ofNat 0)), (.int .i64 (.ofNat 0)), (.int .i64 (.ofNat 0)), .str [], .nilslc, .bool false] [⟨0, ⟨1, oI 1⟩⟩, ⟨6, ⟨1, (.c (.bool true))⟩⟩, ⟨5, ⟨1, .t 66⟩⟩]) 63,⟨some 68, (.a (.box (.t 67))), none, 127⟩,m 20 68 255]
def r9_12:O:=[m 69 0 0,m 70 20 0,m 71 5 0,k 72 30 [.t 69, .t 70, .t 71] 7]
def r9_13:O:=[m 73 20 0,n 74 73 1,f 75 0 1 74 3,r 76 75 7]
def r9_14:O:=[B 78 .eql 76 1 0,m 77 78 1]
def r9_15:O:=[c 12 (.str []) 0,z 13 0 1,z 14 22 3]
def r9_16:O:=[B 80 .eql 76 3 0,m 79 80 1]
def r9_17:O:=[m 81 20 0,n 82 81 1,f 83 1 1 82 3,r 84 83 7,c 12 (.str []) 0,m 13 84 31,z 14 21 63]
def r9_18:O:=[m 86 0 0,n 87 86 1,f 88 3 1 87 3,r 89 88 7,m 90 20 0,n 91 90 16,f 92 2 3 91 48,R 93 3 92 112,k 94 33 [.t 89, .t 93] 255,m 85 94 511,e 95 85 0 1023,e 96 85 1 1023,m 21 95 2047,m 19 96 8191]
def r9_19:O:=[m 97 19 0,B 98 .neq 97 0 1]
def r9_20:O:=[m 99 19 0,c 12 (.str []) 0,m 13 99 3,z 14 21 7]
def r9_21:O:=[m 100 21 0,m 12 100 1,z 13 0 3,z 14 0 7]
def c9:ACode:=(S (G r9_0) (S (.blk 0 (S (G r9_1) (I 22 (E r9_2) (S (G r9_3) (W 26 r9_4))))) (S (G r9_5) (S (S (G r9_6) (W 50 r9_7)) (S (G r9_8) (S (S (G r9_9) (W 59 r9_10)) (S (G r9_11) (S (G r9_12) (S (S (G r9_13) (.blk 1 (S (G r9_14) (I 77 (E r9_15) (S (G r9_16) (I 79 (S (D r9_17) .ret) .skip)))))) (S (D r9_18) (S (S (G r9_19) (W 98 r9_20)) (E r9_21))))))))))))
def fn9 : AFunc := ⟨101, [(.t 12), (.t 13), (.t 14)], c9⟩
theorem comp9 : comp Try.prog 9 = some fn9 := by kernel_rfl
def r10_0:O:=[z 4 0 0]
def r10_1:O:=[m 5 0 0,B 6 .lss 5 0 1]
def r10_2:O:=[m 7 0 0,B 8 .add 7 1 1,q 9 (.un .neg (.t 8)) 3,m 0 9 7]
def r10_3:O:=[m 10 0 0,m 11 1 0,b 12 .rem 10 11 3,m 4 12 7]
def c10:ACode:=(S (G r10_0) (S (S (G r10_1) (I 6 (G r10_2) .skip)) (E r10_3)))
def fn10 : AFunc := ⟨13, [(.t 4)], c10⟩
theorem comp10 : comp Try.prog 10 = some fn10 := by kernel_rfl
def r11_0:O:=[z 4 0 0]
def r11_1:O:=[m 6 0 0,m 7 1 0,k 8 29 [.t 6, .t 7] 3,m 5 8 7]
def r11_2:O:=[m 10 0 0,k 11 24 [.t 10] 1,u 12 11 3,m 9 12 7]
def r11_3:O:=[z 4 16 0]
def r11_4:O:=[m 14 5 0,q 15 (.eq false .ptrnil (.t 14) (.c .nilptr)) 1,m 16 15 3,gm 17 5 16 false 7,gn 18 17 16 false 15,gf 19 0 1 18 16 false 31,gr 20 19 16 false 63,gB 21 .neq 20 1 16 false 127,o 22 16 21 255,m 13 22 511]
def r11_5:O:=[z 4 8 0]
def r11_6:O:=[m 23 5 0,m 24 5 0,m 25 5 0,n 26 23 1,f 27 0 1 26 9,⟨none, (.e (.store 1 (.t 27) (oI 3))), none, 25⟩,n 28 24 59,f 29 1 1 28 123,⟨none, (.e (.store 1 (.t 29) (oI 13))), none, 251⟩,n 30 25 511,f 31 5 1 30 1023,⟨none, (.e (.store 1 (.t 31) (.c .nilslc))), none, 2047⟩]
def r11_7:O:=[z 4 0 0]
def c11:ACode:=(S (G r11_0) (S (G r11_1) (S (.blk 0 (S (G r11_2) (I 9 (E r11_3) (S (G r11_4) (W 13 r11_5))))) (S (G r11_6) (E r11_7)))))
def fn11 : AFunc := ⟨32, [(.t 4)], c11⟩
theorem comp11 : comp Try.prog 11 = some fn11 := by kernel_rfl
def r12_0:O:=[c 2 .nilslc 0]
def r12_1:O:=[c 3 .nilslc 0]
def r12_2:O:=[z 4 0 0]
def r12_3:O:=[m 5 0 0,m 6 4 0,k 7 29 [.t 5, .t 6] 3,q 8 (.eq true .ptrnil (.t 7) (.c .nilptr)) 7]
def r12_4:O:=[m 11 0 0,n 12 11 1,f 13 5 1 12 3,r 14 13 7,m 15 4 0,i 16 1 14 15 31,r 17 16 63,n 18 17 127,f 19 0 1 18 255,r 20 19 511,B 21 .eql 20 1 1023]
def r12_5:O:=[m 22 3 0,m 23 4 0,⟨some 24, (.a (.lits 1 1 [(.int .i64 (.ofNat 0))] [⟨0, ⟨1, .t 23⟩⟩])), none, 2⟩,⟨some 25, (.e (.append 1 8 (.t 22) (.t 24))), none, 7⟩,m 3 25 15]
def r12_6:O:=[m 9 4 0,B 10 .add 9 1 1,m 4 10 3]
def r12_7:O:=[m 26 3 0,m 2 26 1]
def b12_0:ACode:=(S (S (G r12_3) (X 8 0)) (S (.blk 1 (S (G r12_4) (I 21 (G r12_5) .skip))) (G r12_6)))
def c12:ACode:=(S (G r12_0) (S (G r12_1) (S (S (G r12_2) (Y 0 b12_0)) (E r12_7))))
def fn12 : AFunc := ⟨27, [(.t 2)], c12⟩
theorem comp12 : comp Try.prog 12 = some fn12 := by kernel_rfl
def r13_0:O:=[z 2 0 0]
def r13_1:O:=[m 3 0 0,k 4 24 [.t 3] 1,u 5 4 3]
def r13_2:O:=[z 2 0 0]
def r13_3:O:=[m 6 0 0,n 7 6 1,f 8 5 1 7 3,r 9 8 7,l 10 9 15,m 2 10 31]
def c13:ACode:=(S (G r13_0) (S (S (G r13_1) (W 5 r13_2)) (E r13_3)))
def fn13 : AFunc := ⟨11, [(.t 2)], c13⟩
theorem comp13 : comp Try.prog 13 = some fn13 := by kernel_rfl
def r14_0:O:=[z 2 0 0]
def r14_1:O:=[m 3 0 0,k 4 17 [.t 3] 1,k 5 34 [.t 4] 3,m 2 5 7]
def c14:ACode:=(S (G r14_0) (E r14_1))
def fn14 : AFunc := ⟨6, [(.t 2)], c14⟩
theorem comp14 : comp Try.prog 14 = some fn14 := by kernel_rfl
def r15_0:O:=[c 4 .nilslc 0]
def r15_1:O:=[c 5 .nilslc 0]
def r15_2:O:=[m 9 0 0,m 10 1 0,k 11 29 [.t 9, .t 10] 3,m 6 11 7]
def r15_3:O:=[m 12 6 0,q 13 (.eq true .ptrnil (.t 12) (.c .nilptr)) 1]
def r15_4:O:=[m 14 6 0,n 15 14 1,f 16 5 1 15 3,r 17 16 7,l 18 17 15,z 19 0 0]
def r15_5:O:=[b 20 .lss 19 18 0]
def r15_6:O:=[i 21 1 17 19 0,r 22 21 1,m 8 22 3]
def r15_7:O:=[m 23 5 0,m 24 8 0,n 25 24 2,f 26 0 1 25 6,r 27 26 14,⟨some 28, (.a (.lits 1 1 [(.int .i64 (.ofNat 0))] [⟨0, ⟨1, .t 27⟩⟩])), none, 30⟩,⟨some 29, (.e (.append 1 8 (.t 23) (.t 28))), none, 63⟩,m 5 29 127]
def r15_8:O:=[B 30 .add 19 1 0,m 19 30 1]
def r15_9:O:=[m 31 5 0,m 4 31 1]
def b15_0:ACode:=(S (G r15_5) (S (X 20 0) (S (.blk 1 (S (G r15_6) (G r15_7))) (G r15_8))))
def c15:ACode:=(S (G r15_0) (S (G r15_1) (S (S (G r15_2) (S (G r15_3) (I 13 (S (G r15_4) (Y 0 b15_0)) .skip))) (E r15_9))))
def fn15 : AFunc := ⟨32, [(.t 4)], c15⟩
theorem comp15 : comp Try.prog 15 = some fn15 := by kernel_rfl
def r16_0:O:=[c 4 .nilslc 0]
def r16_1:O:=[m 15 0 0,m 16 1 0,k 17 29 [.t 15, .t 16] 3,m 5 17 7]
def r16_2:O:=[m 18 5 0,q 19 (.eq false .ptrnil (.t 18) (.c .nilptr)) 1]
def r16_3:O:=[c 4 .nilslc 0]
def r16_4:O:=[c 6 .nilslc 0]
def r16_5:O:=[m 20 5 0,n 21 20 1,f 22 5 1 21 3,r 23 22 7,l 24 23 15,z 25 0 0]
def r16_6:O:=[b 26 .lss 25 24 0]
def r16_7:O:=[i 27 1 23 25 0,r 28 27 1,m 8 28 3]
def r16_8:O:=[m 29 8 0,n 30 29 1,f 31 6 1 30 3,r 32 31 7,m 33 8 0,n 34 33 16,f 35 4 1 34 48,r 36 35 112,q 37 (.sslc 3 (.t 32) none (some (.t 36)) none) 255,l 38 37 511,z 39 0 0]
def r16_9:O:=[b 40 .lss 39 38 0]
def r16_10:O:=[i 41 3 37 39 0,R 42 3 41 1,⟨some 10, (.a (.alloc [(.int .i64 (.ofNat 0)), (.int .i64 (.ofNat 0)), .str []])), none, 0⟩,s 3 10 42 7]
def r16_11:O:=[m 43 6 0,m 44 0 0,R 45 3 10 0,k 46 35 [.t 44, .t 45] 6,⟨some 47, (.a (.lits 1 3 [(.int .i64 (.ofNat 0)), (.int .i64 (.ofNat 0)), .str []] [⟨0, ⟨3, .t 46⟩⟩])), none, 14⟩,⟨some 48, (.e (.append 3 32 (.t 43) (.t 47))), none, 31⟩,m 6 48 63]
def r16_12:O:=[B 49 .add 39 1 0,m 39 49 1]
def r16_13:O:=[m 50 8 0,n 51 50 1,f 52 7 1 51 3,r 53 52 7,l 54 53 15,z 55 0 0]
def r16_14:O:=[b 56 .lss 55 54 0]
def r16_15:O:=[i 57 1 53 55 0,r 58 57 1,m 12 58 3]
def r16_16:O:=[m 60 0 0,n 61 60 1,f 62 3 1 61 3,r 63 62 7,m 64 12 0,k 65 36 [.t 63, .t 64] 31,m 59 65 63,e 66 59 0 127,e 67 59 1 127,⟨some 13, (.a (.alloc [(.int .i64 (.ofNat 0)), (.int .i64 (.ofNat 0)), .str []])), none, 0⟩,s 3 13 66 767,m 14 67 2047]
def r16_17:O:=[m 68 6 0,R 69 3 13 0,⟨some 70, (.a (.lits 1 3 [(.int .i64 (.ofNat 0)), (.int .i64 (.ofNat 0)), .str []] [⟨0, ⟨3, .t 69⟩⟩])), none, 2⟩,⟨some 71, (.e (.append 3 32 (.t 68) (.t 70))), none, 7⟩,m 6 71 15]
def r16_18:O:=[B 72 .add 55 1 0,m 55 72 1]
def r16_19:O:=[B 73 .add 25 1 0,m 25 73 1]
def r16_20:O:=[m 74 6 0,m 4 74 1]
def b16_0:ACode:=(S (G r16_9) (S (X 40 2) (S (.blk 3 (S (G r16_10) (G r16_11))) (G r16_12))))
def b16_1:ACode:=(S (G r16_14) (S (X 56 4) (S (.blk 5 (S (G r16_15) (S (G r16_16) (G r16_17)))) (G r16_18))))
def b16_2:ACode:=(S (G r16_6) (S (X 26 0) (S (.blk 1 (S (G r16_7) (S (S (D r16_8) (Y 2 b16_0)) (S (G r16_13) (Y 4 b16_1))))) (G r16_19))))
def c16:ACode:=(S (G r16_0) (S (G r16_1) (S (S (G r16_2) (W 19 r16_3)) (S (G r16_4) (S (S (G r16_5) (Y 0 b16_2)) (E r16_20))))))
def fn16 : AFunc := ⟨75, [(.t 4)], c16⟩
theorem comp16 : comp Try.prog 16 = some fn16 := by kernel_rfl
def r17_0:O:=[c 2 .nilptr 0]
def r17_1:O:=[m 3 0 0,k 4 24 [.t 3] 1,u 5 4 3]
def r17_2:O:=[c 2 .nilptr 0]
def r17_3:O:=[m 6 0 0,n 7 6 1,f 8 3 1 7 3,r 9 8 7,m 2 9 15]
def c17:ACode:=(S (G r17_0) (S (S (G r17_1) (W 5 r17_2)) (E r17_3)))
def fn17 : AFunc := ⟨10, [(.t 2)], c17⟩
theorem comp17 : comp Try.prog 17 = some fn17 := by kernel_rfl
def r22_0:O:=[c 2 .nilptr 0]
def r22_1:O:=[m 8 0 0,k 9 39 [.t 8] 1,u 10 9 3]
def r22_2:O:=[c 2 .nilptr 0]
def r22_3:O:=[k 11 18 [] 0,m 3 11 1]
def r22_4:O:=[m 12 3 0,m 13 3 0,n 14 13 2,f 15 0 1 14 6,r 16 15 14,m 17 0 0,n 18 17 32,f 19 0 1 18 96,r 20 19 224,⟨some 21, (.e (.append 1 16 (.t 16) (.t 20))), none, 510⟩,n 22 12 1023,f 23 0 1 22 2047,s 1 23 21 4095]
def r22_5:O:=[m 24 0 0,n 25 24 1,f 26 1 1 25 3,r 27 26 7,⟨some 28, (.e (.rng false (.t 27))), none, 15⟩]
def r22_6:O:=[⟨some 29, (.e (.next false (.t 28))), none, 0⟩,e 30 29 0 1]
def r22_7:O:=[⟨some 31, (.r .ment (.t 28) (.t 28)), none, 0⟩,e 32 31 0 1,e 33 31 1 1,⟨some 5, (.a (.alloc [(.int .i64 (.ofNat 0)), (.int .i64 (.ofNat 0)), .str []])), none, 0⟩,m 4 32 11,s 3 5 33 31]
def r22_8:O:=[m 34 3 0,n 35 34 1,f 36 1 1 35 3,r 37 36 7,m 38 4 0,R 39 3 5 0,⟨none, (.e (.mupd false [.s] (.t 37) (.t 38) (.t 39))), none, 63⟩]
def r22_9:O:=[m 40 0 0,n 41 40 1,f 42 2 1 41 3,r 43 42 7,⟨some 44, (.e (.rng false (.t 43))), none, 15⟩]
def r22_10:O:=[⟨some 45, (.e (.next false (.t 44))), none, 0⟩,e 46 45 0 1]
def r22_11:O:=[⟨some 47, (.r .ment (.t 44) (.t 44)), none, 0⟩,e 48 47 0 1,e 49 47 1 1,⟨some 7, (.a (.alloc [.str [], (.int .i64 (.ofNat 0)), .nilslc, (.int .i64 (.ofNat 0)), .nilslc])), none, 0⟩,m 6 48 11,s 5 7 49 31]
def r22_12:O:=[m 50 3 0,n 51 50 1,f 52 2 1 51 3,r 53 52 7,m 54 6 0,R 55 5 7 0,⟨none, (.e (.mupd false [.i] (.t 53) (.t 54) (.t 55))), none, 63⟩]
def r22_13:O:=[m 56 3 0,m 57 0 0,n 58 57 2,f 59 3 1 58 6,r 60 59 14,n 61 56 31,f 62 3 1 61 63,s 1 62 60 127]
def r22_14:O:=[m 63 3 0,m 2 63 1]
def b22_0:ACode:=(S (G r22_6) (S (X 30 0) (.blk 1 (S (G r22_7) (D r22_8)))))
def b22_1:ACode:=(S (G r22_10) (S (X 46 2) (.blk 3 (S (G r22_11) (D r22_12)))))
def c22:ACode:=(S (G r22_0) (S (S (G r22_1) (W 10 r22_2)) (S (G r22_3) (S (D r22_4) (S (S (G r22_5) (Y 0 b22_0)) (S (S (G r22_9) (Y 2 b22_1)) (S (G r22_13) (E r22_14))))))))
def fn22 : AFunc := ⟨64, [(.t 2)], c22⟩
theorem comp22 : comp Try.prog 22 = some fn22 := by kernel_rfl
def r24_0:O:=[c 2 (.bool false) 0]
def r24_1:O:=[m 3 0 0,q 4 (.eq true .ptrnil (.t 3) (.c .nilptr)) 1,m 5 4 3,gm 6 0 5 true 7,gn 7 6 5 true 15,gf 8 2 1 7 5 true 31,gr 9 8 5 true 63,gq 10 (.eq true .ptrnil (.t 9) (.c .nilptr)) 5 true 127,a 11 5 10 255,m 2 11 511]
def c24:ACode:=(S (G r24_0) (E r24_1))
def fn24 : AFunc := ⟨12, [(.t 2)], c24⟩
theorem comp24 : comp Try.prog 24 = some fn24 := by kernel_rfl
def r29_0:O:=[c 4 .nilptr 0]
def r29_1:O:=[m 5 0 0,k 6 24 [.t 5] 1,u 7 6 3,m 8 7 7,gm 9 1 8 false 15,gB 10 .lss 9 0 8 false 31,o 11 8 10 63,m 12 11 127,gm 13 1 12 false 255,gm 14 0 12 false 255,gn 15 14 12 false 767,gf 16 5 1 15 12 false 1791,gr 17 16 12 false 3839,gl 18 17 12 false 7935,gb 19 .geq 13 18 12 false 16383,o 20 12 19 32767]
def r29_2:O:=[c 4 .nilptr 0]
def r29_3:O:=[m 21 0 0,n 22 21 1,f 23 5 1 22 3,r 24 23 7,m 25 1 0,i 26 1 24 25 31,r 27 26 63,m 4 27 127]
def c29:ACode:=(S (G r29_0) (S (S (G r29_1) (W 20 r29_2)) (E r29_3)))
def fn29 : AFunc := ⟨28, [(.t 4)], c29⟩
theorem comp29 : comp Try.prog 29 = some fn29 := by kernel_rfl
def r34_0:O:=[z 2 0 0]
def r34_1:O:=[m 3 0 0,k 4 61 [.t 3] 1,u 5 4 3]
def r34_2:O:=[z 2 0 0]
def r34_3:O:=[m 6 0 0,n 7 6 1,f 8 2 1 7 3,r 9 8 7,m 2 9 15]
def c34:ACode:=(S (G r34_0) (S (S (G r34_1) (W 5 r34_2)) (E r34_3)))
def fn34 : AFunc := ⟨10, [(.t 2)], c34⟩
theorem comp34 : comp Try.prog 34 = some fn34 := by kernel_rfl
def r39_0:O:=[c 2 (.bool false) 0]
def r39_1:O:=[m 3 0 0,q 4 (.eq true .ptrnil (.t 3) (.c .nilptr)) 1,m 5 4 3,gm 6 0 5 true 7,gn 7 6 5 true 15,gf 8 1 1 7 5 true 31,gr 9 8 5 true 63,gq 10 (.eq true .mapnil (.t 9) (.c .nilmap)) 5 true 127,a 11 5 10 255,m 2 11 511]
def c39:ACode:=(S (G r39_0) (E r39_1))
def fn39 : AFunc := ⟨12, [(.t 2)], c39⟩
theorem comp39 : comp Try.prog 39 = some fn39 := by kernel_rfl
def r61_0:O:=[c 2 (.bool false) 0]
def r61_1:O:=[m 3 0 0,q 4 (.eq true .ptrnil (.t 3) (.c .nilptr)) 1,m 5 4 3,gm 6 0 5 true 7,gn 7 6 5 true 15,gf 8 0 1 7 5 true 31,gr 9 8 5 true 63,a 10 5 9 127,m 2 10 255]
def c61:ACode:=(S (G r61_0) (E r61_1))
def fn61 : AFunc := ⟨11, [(.t 2)], c61⟩
theorem comp61 : comp Try.prog 61 = some fn61 := by kernel_rfl
end Go.Proofs.YtiiajdfjnamfcaaGreat
