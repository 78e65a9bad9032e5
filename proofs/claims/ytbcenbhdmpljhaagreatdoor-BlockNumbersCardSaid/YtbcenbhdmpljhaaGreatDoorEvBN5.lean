/-
  Rounds 704 to 879, reckoned by the machine.
-/
import Derived.Test.YtbcenbhdmpljhaaGreatDoorEvBN
namespace Go.Proofs.YtbcenbhdmpljhaaGreatDoor.Ev
open Go
set_option maxRecDepth 100000
theorem vp1_g704 : allR vp1 704 12 = true := by kernel_rfl
theorem vp1_g716 : allR vp1 716 12 = true := by kernel_rfl
theorem vp1_g728 : allR vp1 728 12 = true := by kernel_rfl
theorem vp1_g740 : allR vp1 740 12 = true := by kernel_rfl
theorem vp1_g752 : allR vp1 752 12 = true := by kernel_rfl
theorem vp1_g764 : allR vp1 764 12 = true := by kernel_rfl
theorem vp1_g776 : allR vp1 776 12 = true := by kernel_rfl
theorem vp1_g788 : allR vp1 788 12 = true := by kernel_rfl
theorem vp1_g800 : allR vp1 800 12 = true := by kernel_rfl
theorem vp1_g812 : allR vp1 812 12 = true := by kernel_rfl
theorem vp1_g824 : allR vp1 824 12 = true := by kernel_rfl
theorem vp1_g836 : allR vp1 836 12 = true := by kernel_rfl
theorem vp1_g848 : allR vp1 848 12 = true := by kernel_rfl
theorem vp1_g860 : allR vp1 860 12 = true := by kernel_rfl
theorem vp1_g872 : allR vp1 872 8 = true := by kernel_rfl
theorem vp1_t5 (k : Nat) (h1 : 704 ≤ k) (h2 : k < 880) : vp1 k = true := by
  by_cases h714 : k < 716
  · exact allR_ok vp1 704 12 vp1_g704 k (by omega) (by omega)
  by_cases h726 : k < 728
  · exact allR_ok vp1 716 12 vp1_g716 k (by omega) (by omega)
  by_cases h738 : k < 740
  · exact allR_ok vp1 728 12 vp1_g728 k (by omega) (by omega)
  by_cases h750 : k < 752
  · exact allR_ok vp1 740 12 vp1_g740 k (by omega) (by omega)
  by_cases h762 : k < 764
  · exact allR_ok vp1 752 12 vp1_g752 k (by omega) (by omega)
  by_cases h774 : k < 776
  · exact allR_ok vp1 764 12 vp1_g764 k (by omega) (by omega)
  by_cases h786 : k < 788
  · exact allR_ok vp1 776 12 vp1_g776 k (by omega) (by omega)
  by_cases h798 : k < 800
  · exact allR_ok vp1 788 12 vp1_g788 k (by omega) (by omega)
  by_cases h810 : k < 812
  · exact allR_ok vp1 800 12 vp1_g800 k (by omega) (by omega)
  by_cases h822 : k < 824
  · exact allR_ok vp1 812 12 vp1_g812 k (by omega) (by omega)
  by_cases h834 : k < 836
  · exact allR_ok vp1 824 12 vp1_g824 k (by omega) (by omega)
  by_cases h846 : k < 848
  · exact allR_ok vp1 836 12 vp1_g836 k (by omega) (by omega)
  by_cases h858 : k < 860
  · exact allR_ok vp1 848 12 vp1_g848 k (by omega) (by omega)
  by_cases h870 : k < 872
  · exact allR_ok vp1 860 12 vp1_g860 k (by omega) (by omega)
  exact allR_ok vp1 872 8 vp1_g872 k (by omega) (by omega)
end Go.Proofs.YtbcenbhdmpljhaaGreatDoor.Ev
