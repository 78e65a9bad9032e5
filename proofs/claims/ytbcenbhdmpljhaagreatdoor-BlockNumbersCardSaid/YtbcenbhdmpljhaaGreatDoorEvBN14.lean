/-
  Rounds 2288 to 2463, reckoned by the machine.
-/
import Derived.Test.YtbcenbhdmpljhaaGreatDoorEvBN
namespace Go.Proofs.YtbcenbhdmpljhaaGreatDoor.Ev
open Go
set_option maxRecDepth 100000
theorem vp1_g2288 : allR vp1 2288 12 = true := by kernel_rfl
theorem vp1_g2300 : allR vp1 2300 12 = true := by kernel_rfl
theorem vp1_g2312 : allR vp1 2312 12 = true := by kernel_rfl
theorem vp1_g2324 : allR vp1 2324 12 = true := by kernel_rfl
theorem vp1_g2336 : allR vp1 2336 12 = true := by kernel_rfl
theorem vp1_g2348 : allR vp1 2348 12 = true := by kernel_rfl
theorem vp1_g2360 : allR vp1 2360 12 = true := by kernel_rfl
theorem vp1_g2372 : allR vp1 2372 12 = true := by kernel_rfl
theorem vp1_g2384 : allR vp1 2384 12 = true := by kernel_rfl
theorem vp1_g2396 : allR vp1 2396 12 = true := by kernel_rfl
theorem vp1_g2408 : allR vp1 2408 12 = true := by kernel_rfl
theorem vp1_g2420 : allR vp1 2420 12 = true := by kernel_rfl
theorem vp1_g2432 : allR vp1 2432 12 = true := by kernel_rfl
theorem vp1_g2444 : allR vp1 2444 12 = true := by kernel_rfl
theorem vp1_g2456 : allR vp1 2456 8 = true := by kernel_rfl
theorem vp1_t14 (k : Nat) (h1 : 2288 ≤ k) (h2 : k < 2464) : vp1 k = true := by
  by_cases h2298 : k < 2300
  · exact allR_ok vp1 2288 12 vp1_g2288 k (by omega) (by omega)
  by_cases h2310 : k < 2312
  · exact allR_ok vp1 2300 12 vp1_g2300 k (by omega) (by omega)
  by_cases h2322 : k < 2324
  · exact allR_ok vp1 2312 12 vp1_g2312 k (by omega) (by omega)
  by_cases h2334 : k < 2336
  · exact allR_ok vp1 2324 12 vp1_g2324 k (by omega) (by omega)
  by_cases h2346 : k < 2348
  · exact allR_ok vp1 2336 12 vp1_g2336 k (by omega) (by omega)
  by_cases h2358 : k < 2360
  · exact allR_ok vp1 2348 12 vp1_g2348 k (by omega) (by omega)
  by_cases h2370 : k < 2372
  · exact allR_ok vp1 2360 12 vp1_g2360 k (by omega) (by omega)
  by_cases h2382 : k < 2384
  · exact allR_ok vp1 2372 12 vp1_g2372 k (by omega) (by omega)
  by_cases h2394 : k < 2396
  · exact allR_ok vp1 2384 12 vp1_g2384 k (by omega) (by omega)
  by_cases h2406 : k < 2408
  · exact allR_ok vp1 2396 12 vp1_g2396 k (by omega) (by omega)
  by_cases h2418 : k < 2420
  · exact allR_ok vp1 2408 12 vp1_g2408 k (by omega) (by omega)
  by_cases h2430 : k < 2432
  · exact allR_ok vp1 2420 12 vp1_g2420 k (by omega) (by omega)
  by_cases h2442 : k < 2444
  · exact allR_ok vp1 2432 12 vp1_g2432 k (by omega) (by omega)
  by_cases h2454 : k < 2456
  · exact allR_ok vp1 2444 12 vp1_g2444 k (by omega) (by omega)
  exact allR_ok vp1 2456 8 vp1_g2456 k (by omega) (by omega)
end Go.Proofs.YtbcenbhdmpljhaaGreatDoor.Ev
