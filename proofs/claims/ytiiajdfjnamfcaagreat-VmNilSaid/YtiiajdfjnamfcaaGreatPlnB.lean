/- The known cases answer true. -/
import Derived.Test.YtiiajdfjnamfcaaGreatPlnCode
import Derived.Test.YtiiajdfjnamfcaaGreatAbsX
import Derived.Test.YtiiajdfjnamfcaaGreatAbsU
set_option autoImplicit false
set_option maxRecDepth 100000
namespace Go.Proofs.YtiiajdfjnamfcaaGreat
open Go Go.Abs
noncomputable def E1 : FuncId → Option (List AV → St → Option (AV × St)) := tab []
theorem E1_ok : Sound Try.prog (acall (comp Try.prog) E1 200) := acall_ok mixed tab_nil 200
def t153 : List (List AV × AV) := [([.str [109, 111, 100, 117, 108, 101]], .bool true), ([.str [109]], .bool false), ([.str [102, 110]], .bool true), ([.str [109, 97, 105, 110]], .bool false), ([.str [108, 101, 116]], .bool true), ([.str [105]], .bool false), ([.str [119, 104, 105, 108, 101]], .bool true), ([.str [101, 109, 105, 116]], .bool true)]
set_option maxRecDepth 1000000 in
theorem t153_run : (t153.map fun p => ans (acall (comp Try.prog) E1 200 153 p.1 ⟨.e, 0⟩)) = (t153.map fun p => some p.2) := by kernel_rfl
noncomputable def t153g := pureT t153
theorem t153g_sound : SoundF Try.prog 153 t153g := pureT_sound E1_ok t153_run rfl
noncomputable def E2 : FuncId → Option (List AV → St → Option (AV × St)) := tab [(153, t153g)]
theorem E2_ok : Sound Try.prog (acall (comp Try.prog) E2 200) := acall_ok mixed (tab_cons t153g_sound tab_nil) 200
def m37_a : List AV := [.str [109, 111, 100, 117, 108, 101, 32, 109, 32, 49, 59, 32, 102, 110, 32, 109, 97, 105, 110, 40, 41, 32, 123, 32, 108, 101, 116, 32, 105, 32, 61, 32, 48, 59, 32, 119, 104, 105, 108, 101, 32, 105, 32, 60, 32, 51, 32, 123, 32, 101, 109, 105, 116, 32, 105, 59, 32, 105, 32, 61, 32, 105, 32, 43, 32, 49, 59, 32, 125, 32, 125]]
def m37_v : AV := .tup [.slc 20143 0 0 16 16 5, .int .i64 (.ofNat 0), .int .i64 (.ofNat 0)]
def m37_o : List (Nat × AObj) := [(20143, .cells [.int .i64 (.ofNat 1), .int .i64 (.ofNat 1), .str [109], .int .i64 (.ofNat 1), .str [], .int .i64 (.ofNat 3), .int .i64 (.ofNat 1), .str [109, 97, 105, 110], .int .i64 (.ofNat 0), .str [], .int .i64 (.ofNat 5), .int .i64 (.ofNat 2), .str [], .int .i64 (.ofNat 0), .str [], .int .i64 (.ofNat 6), .int .i64 (.ofNat 1), .str [105], .int .i64 (.ofNat 0), .str [], .int .i64 (.ofNat 19), .int .i64 (.ofNat 0), .str [], .int .i64 (.ofNat 0), .str [], .int .i64 (.ofNat 10), .int .i64 (.ofNat 2), .str [], .int .i64 (.ofNat 0), .str [], .int .i64 (.ofNat 27), .int .i64 (.ofNat 2), .str [], .int .i64 (.ofNat 0), .str [60], .int .i64 (.ofNat 21), .int .i64 (.ofNat 0), .str [105], .int .i64 (.ofNat 0), .str [], .int .i64 (.ofNat 19), .int .i64 (.ofNat 0), .str [], .int .i64 (.ofNat 3), .str [], .int .i64 (.ofNat 5), .int .i64 (.ofNat 2), .str [], .int .i64 (.ofNat 0), .str [], .int .i64 (.ofNat 15), .int .i64 (.ofNat 1), .str [], .int .i64 (.ofNat 0), .str [], .int .i64 (.ofNat 21), .int .i64 (.ofNat 0), .str [105], .int .i64 (.ofNat 0), .str [], .int .i64 (.ofNat 7), .int .i64 (.ofNat 1), .str [105], .int .i64 (.ofNat 0), .str [], .int .i64 (.ofNat 27), .int .i64 (.ofNat 2), .str [], .int .i64 (.ofNat 0), .str [43], .int .i64 (.ofNat 21), .int .i64 (.ofNat 0), .str [105], .int .i64 (.ofNat 0), .str [], .int .i64 (.ofNat 19), .int .i64 (.ofNat 0), .str [], .int .i64 (.ofNat 1), .str []] 0 0 true)]
set_option maxRecDepth 1000000 in
theorem m37_run : (acall (comp Try.prog) E2 200 37 m37_a ⟨.e, 0⟩).map (fun r => (r.1, m37_o.map fun p => r.2.objs.get p.1)) = some (m37_v, m37_o.map fun p => some p.2) := by kernel_rfl
noncomputable def m37g := standM m37_a m37_v m37_o 20144
theorem m37g_sound : SoundF Try.prog 37 m37g := standM_sound E2_ok m37_run (by kernel_rfl) (by decide)
noncomputable def E3 : FuncId → Option (List AV → St → Option (AV × St)) := tab [(37, m37g), (153, t153g)]
theorem E3_ok : Sound Try.prog (acall (comp Try.prog) E3 200) := acall_ok mixed (tab_cons m37g_sound (tab_cons t153g_sound tab_nil)) 200
def m19_a : List AV := [.str [109, 111, 100, 117, 108, 101, 32, 109, 32, 49, 59, 32, 102, 110, 32, 109, 97, 105, 110, 40, 41, 32, 123, 32, 108, 101, 116, 32, 105, 32, 61, 32, 48, 59, 32, 119, 104, 105, 108, 101, 32, 105, 32, 60, 32, 51, 32, 123, 32, 101, 109, 105, 116, 32, 105, 59, 32, 105, 32, 61, 32, 105, 32, 43, 32, 49, 59, 32, 125, 32, 125]]
def m19_v : AV := .tup [.agg [.str [109], .int .i64 (.ofNat 1), .nilslc, .int .i64 (.ofNat 1), .slc 46950 0 0 1 1 6], .int .i64 (.ofNat 0), .int .i64 (.ofNat 0)]
def m19_o : List (Nat × AObj) := [(42271, .cells [.int .i64 (.ofNat 0), .int .i64 (.ofNat 0), .int .i64 (.ofNat 0), .int .i64 (.ofNat 0), .int .i64 (.ofNat 2), .int .i64 (.ofNat 0), .int .i64 (.ofNat 0), .int .i64 (.ofNat 0), .int .i64 (.ofNat 0), .int .i64 (.ofNat 1), .int .i64 (.ofNat 0), .int .i64 (.ofNat 0), .int .i64 (.ofNat 3), .int .i64 (.ofNat 1), .int .i64 (.ofNat 0), .int .i64 (.ofNat 0), .int .i64 (.ofNat 2), .int .i64 (.ofNat 2), .int .i64 (.ofNat 1), .int .i64 (.ofNat 0), .int .i64 (.ofNat 17), .int .i64 (.ofNat 1), .int .i64 (.ofNat 1), .int .i64 (.ofNat 2), .int .i64 (.ofNat 26), .int .i64 (.ofNat 1), .int .i64 (.ofNat 16), .int .i64 (.ofNat 0), .int .i64 (.ofNat 0), .int .i64 (.ofNat 1), .int .i64 (.ofNat 0), .int .i64 (.ofNat 0), .int .i64 (.ofNat 3), .int .i64 (.ofNat 1), .int .i64 (.ofNat 0), .int .i64 (.ofNat 0), .int .i64 (.ofNat 35), .int .i64 (.ofNat 1), .int .i64 (.ofNat 0), .int .i64 (.ofNat 0), .int .i64 (.ofNat 0), .int .i64 (.ofNat 1), .int .i64 (.ofNat 0), .int .i64 (.ofNat 0), .int .i64 (.ofNat 3), .int .i64 (.ofNat 1), .int .i64 (.ofNat 0), .int .i64 (.ofNat 0), .int .i64 (.ofNat 2), .int .i64 (.ofNat 2), .int .i64 (.ofNat 2), .int .i64 (.ofNat 0), .int .i64 (.ofNat 9), .int .i64 (.ofNat 1), .int .i64 (.ofNat 1), .int .i64 (.ofNat 2), .int .i64 (.ofNat 3), .int .i64 (.ofNat 0), .int .i64 (.ofNat 1), .int .i64 (.ofNat 0), .int .i64 (.ofNat 25), .int .i64 (.ofNat 0), .int .i64 (.ofNat 2), .int .i64 (.ofNat 0), .int .i64 (.ofNat 1), .int .i64 (.ofNat 0), .int .i64 (.ofNat 0), .int .i64 (.ofNat 0), .int .i64 (.ofNat 37), .int .i64 (.ofNat 0), .int .i64 (.ofNat 0), .int .i64 (.ofNat 0)] 17 17 true), (42417, .cells [.int .i64 (.ofNat 1), .int .i64 (.ofNat 0), .str [], .int .i64 (.ofNat 1), .int .i64 (.ofNat 3), .str [], .int .i64 (.ofNat 1), .int .i64 (.ofNat 1), .str []] 2 2 true), (46950, .cells [.str [109, 97, 105, 110], .int .i64 (.ofNat 0), .int .i64 (.ofNat 3), .slc 42271 17 0 18 18 4, .slc 42417 2 0 3 3 3, .nilslc] 0 0 true)]
set_option maxRecDepth 1000000 in
theorem m19_run : (acall (comp Try.prog) E3 200 19 m19_a ⟨.e, 0⟩).map (fun r => (r.1, m19_o.map fun p => r.2.objs.get p.1)) = some (m19_v, m19_o.map fun p => some p.2) := by kernel_rfl
noncomputable def m19g := standM m19_a m19_v m19_o 46951
theorem m19g_sound : SoundF Try.prog 19 m19g := standM_sound E3_ok m19_run (by kernel_rfl) (by decide)
noncomputable def E4 : FuncId → Option (List AV → St → Option (AV × St)) := tab [(19, m19g), (37, m37g), (153, t153g)]
theorem E4_ok : Sound Try.prog (acall (comp Try.prog) E4 200) := acall_ok mixed (tab_cons m19g_sound (tab_cons m37g_sound (tab_cons t153g_sound tab_nil))) 200
set_option maxRecDepth 1000000 in
theorem closed4_run : ans (acall (comp Try.prog) E4 200 4 [] ⟨.e, 0⟩) = some (.bool true) := by kernel_rfl
theorem closed4 : PT Try.prog false 4 [] (.bool true) := PT.run E4_ok closed4_run rfl rfl
end Go.Proofs.YtiiajdfjnamfcaaGreat
