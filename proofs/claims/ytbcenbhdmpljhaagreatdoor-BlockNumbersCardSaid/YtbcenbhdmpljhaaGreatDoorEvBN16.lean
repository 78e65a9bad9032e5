/-
  Rounds 2640 to 2800, reckoned by the machine.
-/
import Derived.Test.YtbcenbhdmpljhaaGreatDoorEvBN
namespace Go.Proofs.YtbcenbhdmpljhaaGreatDoor.Ev
open Go
set_option maxRecDepth 100000
theorem vp1_g2640 : allR vp1 2640 12 = true := by kernel_rfl
theorem vp1_g2652 : allR vp1 2652 12 = true := by kernel_rfl
theorem vp1_g2664 : allR vp1 2664 12 = true := by kernel_rfl
theorem vp1_g2676 : allR vp1 2676 12 = true := by kernel_rfl
theorem vp1_g2688 : allR vp1 2688 12 = true := by kernel_rfl
theorem vp1_g2700 : allR vp1 2700 12 = true := by kernel_rfl
theorem vp1_g2712 : allR vp1 2712 12 = true := by kernel_rfl
theorem vp1_g2724 : allR vp1 2724 12 = true := by kernel_rfl
theorem vp1_g2736 : allR vp1 2736 12 = true := by kernel_rfl
theorem vp1_g2748 : allR vp1 2748 12 = true := by kernel_rfl
theorem vp1_g2760 : allR vp1 2760 12 = true := by kernel_rfl
theorem vp1_g2772 : allR vp1 2772 12 = true := by kernel_rfl
theorem vp1_g2784 : allR vp1 2784 12 = true := by kernel_rfl
theorem vp1_g2796 : allR vp1 2796 5 = true := by kernel_rfl
theorem vp1_t16 (k : Nat) (h1 : 2640 ≤ k) (h2 : k < 2801) : vp1 k = true := by
  by_cases h2650 : k < 2652
  · exact allR_ok vp1 2640 12 vp1_g2640 k (by omega) (by omega)
  by_cases h2662 : k < 2664
  · exact allR_ok vp1 2652 12 vp1_g2652 k (by omega) (by omega)
  by_cases h2674 : k < 2676
  · exact allR_ok vp1 2664 12 vp1_g2664 k (by omega) (by omega)
  by_cases h2686 : k < 2688
  · exact allR_ok vp1 2676 12 vp1_g2676 k (by omega) (by omega)
  by_cases h2698 : k < 2700
  · exact allR_ok vp1 2688 12 vp1_g2688 k (by omega) (by omega)
  by_cases h2710 : k < 2712
  · exact allR_ok vp1 2700 12 vp1_g2700 k (by omega) (by omega)
  by_cases h2722 : k < 2724
  · exact allR_ok vp1 2712 12 vp1_g2712 k (by omega) (by omega)
  by_cases h2734 : k < 2736
  · exact allR_ok vp1 2724 12 vp1_g2724 k (by omega) (by omega)
  by_cases h2746 : k < 2748
  · exact allR_ok vp1 2736 12 vp1_g2736 k (by omega) (by omega)
  by_cases h2758 : k < 2760
  · exact allR_ok vp1 2748 12 vp1_g2748 k (by omega) (by omega)
  by_cases h2770 : k < 2772
  · exact allR_ok vp1 2760 12 vp1_g2760 k (by omega) (by omega)
  by_cases h2782 : k < 2784
  · exact allR_ok vp1 2772 12 vp1_g2772 k (by omega) (by omega)
  by_cases h2794 : k < 2796
  · exact allR_ok vp1 2784 12 vp1_g2784 k (by omega) (by omega)
  exact allR_ok vp1 2796 5 vp1_g2796 k (by omega) (by omega)
end Go.Proofs.YtbcenbhdmpljhaaGreatDoor.Ev
