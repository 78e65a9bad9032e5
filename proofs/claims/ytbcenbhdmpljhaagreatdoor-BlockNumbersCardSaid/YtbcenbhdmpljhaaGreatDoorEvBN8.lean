/-
  Rounds 1232 to 1407, reckoned by the machine.
-/
import Derived.Test.YtbcenbhdmpljhaaGreatDoorEvBN
namespace Go.Proofs.YtbcenbhdmpljhaaGreatDoor.Ev
open Go
set_option maxRecDepth 100000
theorem vp1_g1232 : allR vp1 1232 12 = true := by kernel_rfl
theorem vp1_g1244 : allR vp1 1244 12 = true := by kernel_rfl
theorem vp1_g1256 : allR vp1 1256 12 = true := by kernel_rfl
theorem vp1_g1268 : allR vp1 1268 12 = true := by kernel_rfl
theorem vp1_g1280 : allR vp1 1280 12 = true := by kernel_rfl
theorem vp1_g1292 : allR vp1 1292 12 = true := by kernel_rfl
theorem vp1_g1304 : allR vp1 1304 12 = true := by kernel_rfl
theorem vp1_g1316 : allR vp1 1316 12 = true := by kernel_rfl
theorem vp1_g1328 : allR vp1 1328 12 = true := by kernel_rfl
theorem vp1_g1340 : allR vp1 1340 12 = true := by kernel_rfl
theorem vp1_g1352 : allR vp1 1352 12 = true := by kernel_rfl
theorem vp1_g1364 : allR vp1 1364 12 = true := by kernel_rfl
theorem vp1_g1376 : allR vp1 1376 12 = true := by kernel_rfl
theorem vp1_g1388 : allR vp1 1388 12 = true := by kernel_rfl
theorem vp1_g1400 : allR vp1 1400 8 = true := by kernel_rfl
theorem vp1_t8 (k : Nat) (h1 : 1232 ≤ k) (h2 : k < 1408) : vp1 k = true := by
  by_cases h1242 : k < 1244
  · exact allR_ok vp1 1232 12 vp1_g1232 k (by omega) (by omega)
  by_cases h1254 : k < 1256
  · exact allR_ok vp1 1244 12 vp1_g1244 k (by omega) (by omega)
  by_cases h1266 : k < 1268
  · exact allR_ok vp1 1256 12 vp1_g1256 k (by omega) (by omega)
  by_cases h1278 : k < 1280
  · exact allR_ok vp1 1268 12 vp1_g1268 k (by omega) (by omega)
  by_cases h1290 : k < 1292
  · exact allR_ok vp1 1280 12 vp1_g1280 k (by omega) (by omega)
  by_cases h1302 : k < 1304
  · exact allR_ok vp1 1292 12 vp1_g1292 k (by omega) (by omega)
  by_cases h1314 : k < 1316
  · exact allR_ok vp1 1304 12 vp1_g1304 k (by omega) (by omega)
  by_cases h1326 : k < 1328
  · exact allR_ok vp1 1316 12 vp1_g1316 k (by omega) (by omega)
  by_cases h1338 : k < 1340
  · exact allR_ok vp1 1328 12 vp1_g1328 k (by omega) (by omega)
  by_cases h1350 : k < 1352
  · exact allR_ok vp1 1340 12 vp1_g1340 k (by omega) (by omega)
  by_cases h1362 : k < 1364
  · exact allR_ok vp1 1352 12 vp1_g1352 k (by omega) (by omega)
  by_cases h1374 : k < 1376
  · exact allR_ok vp1 1364 12 vp1_g1364 k (by omega) (by omega)
  by_cases h1386 : k < 1388
  · exact allR_ok vp1 1376 12 vp1_g1376 k (by omega) (by omega)
  by_cases h1398 : k < 1400
  · exact allR_ok vp1 1388 12 vp1_g1388 k (by omega) (by omega)
  exact allR_ok vp1 1400 8 vp1_g1400 k (by omega) (by omega)
end Go.Proofs.YtbcenbhdmpljhaaGreatDoor.Ev
