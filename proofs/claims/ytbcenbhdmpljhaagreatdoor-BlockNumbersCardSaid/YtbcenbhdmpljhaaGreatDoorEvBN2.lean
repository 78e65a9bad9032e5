/-
  Rounds 176 to 351, reckoned by the machine.
-/
import Derived.Test.YtbcenbhdmpljhaaGreatDoorEvBN
namespace Go.Proofs.YtbcenbhdmpljhaaGreatDoor.Ev
open Go
set_option maxRecDepth 100000
theorem vp1_g176 : allR vp1 176 12 = true := by kernel_rfl
theorem vp1_g188 : allR vp1 188 12 = true := by kernel_rfl
theorem vp1_g200 : allR vp1 200 12 = true := by kernel_rfl
theorem vp1_g212 : allR vp1 212 12 = true := by kernel_rfl
theorem vp1_g224 : allR vp1 224 12 = true := by kernel_rfl
theorem vp1_g236 : allR vp1 236 12 = true := by kernel_rfl
theorem vp1_g248 : allR vp1 248 12 = true := by kernel_rfl
theorem vp1_g260 : allR vp1 260 12 = true := by kernel_rfl
theorem vp1_g272 : allR vp1 272 12 = true := by kernel_rfl
theorem vp1_g284 : allR vp1 284 12 = true := by kernel_rfl
theorem vp1_g296 : allR vp1 296 12 = true := by kernel_rfl
theorem vp1_g308 : allR vp1 308 12 = true := by kernel_rfl
theorem vp1_g320 : allR vp1 320 12 = true := by kernel_rfl
theorem vp1_g332 : allR vp1 332 12 = true := by kernel_rfl
theorem vp1_g344 : allR vp1 344 8 = true := by kernel_rfl
theorem vp1_t2 (k : Nat) (h1 : 176 ≤ k) (h2 : k < 352) : vp1 k = true := by
  by_cases h186 : k < 188
  · exact allR_ok vp1 176 12 vp1_g176 k (by omega) (by omega)
  by_cases h198 : k < 200
  · exact allR_ok vp1 188 12 vp1_g188 k (by omega) (by omega)
  by_cases h210 : k < 212
  · exact allR_ok vp1 200 12 vp1_g200 k (by omega) (by omega)
  by_cases h222 : k < 224
  · exact allR_ok vp1 212 12 vp1_g212 k (by omega) (by omega)
  by_cases h234 : k < 236
  · exact allR_ok vp1 224 12 vp1_g224 k (by omega) (by omega)
  by_cases h246 : k < 248
  · exact allR_ok vp1 236 12 vp1_g236 k (by omega) (by omega)
  by_cases h258 : k < 260
  · exact allR_ok vp1 248 12 vp1_g248 k (by omega) (by omega)
  by_cases h270 : k < 272
  · exact allR_ok vp1 260 12 vp1_g260 k (by omega) (by omega)
  by_cases h282 : k < 284
  · exact allR_ok vp1 272 12 vp1_g272 k (by omega) (by omega)
  by_cases h294 : k < 296
  · exact allR_ok vp1 284 12 vp1_g284 k (by omega) (by omega)
  by_cases h306 : k < 308
  · exact allR_ok vp1 296 12 vp1_g296 k (by omega) (by omega)
  by_cases h318 : k < 320
  · exact allR_ok vp1 308 12 vp1_g308 k (by omega) (by omega)
  by_cases h330 : k < 332
  · exact allR_ok vp1 320 12 vp1_g320 k (by omega) (by omega)
  by_cases h342 : k < 344
  · exact allR_ok vp1 332 12 vp1_g332 k (by omega) (by omega)
  exact allR_ok vp1 344 8 vp1_g344 k (by omega) (by omega)
end Go.Proofs.YtbcenbhdmpljhaaGreatDoor.Ev
