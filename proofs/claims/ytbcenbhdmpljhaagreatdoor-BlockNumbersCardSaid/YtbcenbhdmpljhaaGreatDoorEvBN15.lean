/-
  Rounds 2464 to 2639, reckoned by the machine.
-/
import Derived.Test.YtbcenbhdmpljhaaGreatDoorEvBN
namespace Go.Proofs.YtbcenbhdmpljhaaGreatDoor.Ev
open Go
set_option maxRecDepth 100000
theorem vp1_g2464 : allR vp1 2464 12 = true := by kernel_rfl
theorem vp1_g2476 : allR vp1 2476 12 = true := by kernel_rfl
theorem vp1_g2488 : allR vp1 2488 12 = true := by kernel_rfl
theorem vp1_g2500 : allR vp1 2500 12 = true := by kernel_rfl
theorem vp1_g2512 : allR vp1 2512 12 = true := by kernel_rfl
theorem vp1_g2524 : allR vp1 2524 12 = true := by kernel_rfl
theorem vp1_g2536 : allR vp1 2536 12 = true := by kernel_rfl
theorem vp1_g2548 : allR vp1 2548 12 = true := by kernel_rfl
theorem vp1_g2560 : allR vp1 2560 12 = true := by kernel_rfl
theorem vp1_g2572 : allR vp1 2572 12 = true := by kernel_rfl
theorem vp1_g2584 : allR vp1 2584 12 = true := by kernel_rfl
theorem vp1_g2596 : allR vp1 2596 12 = true := by kernel_rfl
theorem vp1_g2608 : allR vp1 2608 12 = true := by kernel_rfl
theorem vp1_g2620 : allR vp1 2620 12 = true := by kernel_rfl
theorem vp1_g2632 : allR vp1 2632 8 = true := by kernel_rfl
theorem vp1_t15 (k : Nat) (h1 : 2464 ≤ k) (h2 : k < 2640) : vp1 k = true := by
  by_cases h2474 : k < 2476
  · exact allR_ok vp1 2464 12 vp1_g2464 k (by omega) (by omega)
  by_cases h2486 : k < 2488
  · exact allR_ok vp1 2476 12 vp1_g2476 k (by omega) (by omega)
  by_cases h2498 : k < 2500
  · exact allR_ok vp1 2488 12 vp1_g2488 k (by omega) (by omega)
  by_cases h2510 : k < 2512
  · exact allR_ok vp1 2500 12 vp1_g2500 k (by omega) (by omega)
  by_cases h2522 : k < 2524
  · exact allR_ok vp1 2512 12 vp1_g2512 k (by omega) (by omega)
  by_cases h2534 : k < 2536
  · exact allR_ok vp1 2524 12 vp1_g2524 k (by omega) (by omega)
  by_cases h2546 : k < 2548
  · exact allR_ok vp1 2536 12 vp1_g2536 k (by omega) (by omega)
  by_cases h2558 : k < 2560
  · exact allR_ok vp1 2548 12 vp1_g2548 k (by omega) (by omega)
  by_cases h2570 : k < 2572
  · exact allR_ok vp1 2560 12 vp1_g2560 k (by omega) (by omega)
  by_cases h2582 : k < 2584
  · exact allR_ok vp1 2572 12 vp1_g2572 k (by omega) (by omega)
  by_cases h2594 : k < 2596
  · exact allR_ok vp1 2584 12 vp1_g2584 k (by omega) (by omega)
  by_cases h2606 : k < 2608
  · exact allR_ok vp1 2596 12 vp1_g2596 k (by omega) (by omega)
  by_cases h2618 : k < 2620
  · exact allR_ok vp1 2608 12 vp1_g2608 k (by omega) (by omega)
  by_cases h2630 : k < 2632
  · exact allR_ok vp1 2620 12 vp1_g2620 k (by omega) (by omega)
  exact allR_ok vp1 2632 8 vp1_g2632 k (by omega) (by omega)
end Go.Proofs.YtbcenbhdmpljhaaGreatDoor.Ev
