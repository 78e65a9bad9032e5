/-
  Rounds 1056 to 1231, reckoned by the machine.
-/
import Derived.Test.YtbcenbhdmpljhaaGreatDoorEvBN
namespace Go.Proofs.YtbcenbhdmpljhaaGreatDoor.Ev
open Go
set_option maxRecDepth 100000
theorem vp1_g1056 : allR vp1 1056 12 = true := by kernel_rfl
theorem vp1_g1068 : allR vp1 1068 12 = true := by kernel_rfl
theorem vp1_g1080 : allR vp1 1080 12 = true := by kernel_rfl
theorem vp1_g1092 : allR vp1 1092 12 = true := by kernel_rfl
theorem vp1_g1104 : allR vp1 1104 12 = true := by kernel_rfl
theorem vp1_g1116 : allR vp1 1116 12 = true := by kernel_rfl
theorem vp1_g1128 : allR vp1 1128 12 = true := by kernel_rfl
theorem vp1_g1140 : allR vp1 1140 12 = true := by kernel_rfl
theorem vp1_g1152 : allR vp1 1152 12 = true := by kernel_rfl
theorem vp1_g1164 : allR vp1 1164 12 = true := by kernel_rfl
theorem vp1_g1176 : allR vp1 1176 12 = true := by kernel_rfl
theorem vp1_g1188 : allR vp1 1188 12 = true := by kernel_rfl
theorem vp1_g1200 : allR vp1 1200 12 = true := by kernel_rfl
theorem vp1_g1212 : allR vp1 1212 12 = true := by kernel_rfl
theorem vp1_g1224 : allR vp1 1224 8 = true := by kernel_rfl
theorem vp1_t7 (k : Nat) (h1 : 1056 ≤ k) (h2 : k < 1232) : vp1 k = true := by
  by_cases h1066 : k < 1068
  · exact allR_ok vp1 1056 12 vp1_g1056 k (by omega) (by omega)
  by_cases h1078 : k < 1080
  · exact allR_ok vp1 1068 12 vp1_g1068 k (by omega) (by omega)
  by_cases h1090 : k < 1092
  · exact allR_ok vp1 1080 12 vp1_g1080 k (by omega) (by omega)
  by_cases h1102 : k < 1104
  · exact allR_ok vp1 1092 12 vp1_g1092 k (by omega) (by omega)
  by_cases h1114 : k < 1116
  · exact allR_ok vp1 1104 12 vp1_g1104 k (by omega) (by omega)
  by_cases h1126 : k < 1128
  · exact allR_ok vp1 1116 12 vp1_g1116 k (by omega) (by omega)
  by_cases h1138 : k < 1140
  · exact allR_ok vp1 1128 12 vp1_g1128 k (by omega) (by omega)
  by_cases h1150 : k < 1152
  · exact allR_ok vp1 1140 12 vp1_g1140 k (by omega) (by omega)
  by_cases h1162 : k < 1164
  · exact allR_ok vp1 1152 12 vp1_g1152 k (by omega) (by omega)
  by_cases h1174 : k < 1176
  · exact allR_ok vp1 1164 12 vp1_g1164 k (by omega) (by omega)
  by_cases h1186 : k < 1188
  · exact allR_ok vp1 1176 12 vp1_g1176 k (by omega) (by omega)
  by_cases h1198 : k < 1200
  · exact allR_ok vp1 1188 12 vp1_g1188 k (by omega) (by omega)
  by_cases h1210 : k < 1212
  · exact allR_ok vp1 1200 12 vp1_g1200 k (by omega) (by omega)
  by_cases h1222 : k < 1224
  · exact allR_ok vp1 1212 12 vp1_g1212 k (by omega) (by omega)
  exact allR_ok vp1 1224 8 vp1_g1224 k (by omega) (by omega)
end Go.Proofs.YtbcenbhdmpljhaaGreatDoor.Ev
