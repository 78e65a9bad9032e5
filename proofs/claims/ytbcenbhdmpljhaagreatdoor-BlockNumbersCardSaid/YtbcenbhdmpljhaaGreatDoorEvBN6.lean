/-
  Rounds 880 to 1055, reckoned by the machine.
-/
import Derived.Test.YtbcenbhdmpljhaaGreatDoorEvBN
namespace Go.Proofs.YtbcenbhdmpljhaaGreatDoor.Ev
open Go
set_option maxRecDepth 100000
theorem vp1_g880 : allR vp1 880 12 = true := by kernel_rfl
theorem vp1_g892 : allR vp1 892 12 = true := by kernel_rfl
theorem vp1_g904 : allR vp1 904 12 = true := by kernel_rfl
theorem vp1_g916 : allR vp1 916 12 = true := by kernel_rfl
theorem vp1_g928 : allR vp1 928 12 = true := by kernel_rfl
theorem vp1_g940 : allR vp1 940 12 = true := by kernel_rfl
theorem vp1_g952 : allR vp1 952 12 = true := by kernel_rfl
theorem vp1_g964 : allR vp1 964 12 = true := by kernel_rfl
theorem vp1_g976 : allR vp1 976 12 = true := by kernel_rfl
theorem vp1_g988 : allR vp1 988 12 = true := by kernel_rfl
theorem vp1_g1000 : allR vp1 1000 12 = true := by kernel_rfl
theorem vp1_g1012 : allR vp1 1012 12 = true := by kernel_rfl
theorem vp1_g1024 : allR vp1 1024 12 = true := by kernel_rfl
theorem vp1_g1036 : allR vp1 1036 12 = true := by kernel_rfl
theorem vp1_g1048 : allR vp1 1048 8 = true := by kernel_rfl
theorem vp1_t6 (k : Nat) (h1 : 880 ≤ k) (h2 : k < 1056) : vp1 k = true := by
  by_cases h890 : k < 892
  · exact allR_ok vp1 880 12 vp1_g880 k (by omega) (by omega)
  by_cases h902 : k < 904
  · exact allR_ok vp1 892 12 vp1_g892 k (by omega) (by omega)
  by_cases h914 : k < 916
  · exact allR_ok vp1 904 12 vp1_g904 k (by omega) (by omega)
  by_cases h926 : k < 928
  · exact allR_ok vp1 916 12 vp1_g916 k (by omega) (by omega)
  by_cases h938 : k < 940
  · exact allR_ok vp1 928 12 vp1_g928 k (by omega) (by omega)
  by_cases h950 : k < 952
  · exact allR_ok vp1 940 12 vp1_g940 k (by omega) (by omega)
  by_cases h962 : k < 964
  · exact allR_ok vp1 952 12 vp1_g952 k (by omega) (by omega)
  by_cases h974 : k < 976
  · exact allR_ok vp1 964 12 vp1_g964 k (by omega) (by omega)
  by_cases h986 : k < 988
  · exact allR_ok vp1 976 12 vp1_g976 k (by omega) (by omega)
  by_cases h998 : k < 1000
  · exact allR_ok vp1 988 12 vp1_g988 k (by omega) (by omega)
  by_cases h1010 : k < 1012
  · exact allR_ok vp1 1000 12 vp1_g1000 k (by omega) (by omega)
  by_cases h1022 : k < 1024
  · exact allR_ok vp1 1012 12 vp1_g1012 k (by omega) (by omega)
  by_cases h1034 : k < 1036
  · exact allR_ok vp1 1024 12 vp1_g1024 k (by omega) (by omega)
  by_cases h1046 : k < 1048
  · exact allR_ok vp1 1036 12 vp1_g1036 k (by omega) (by omega)
  exact allR_ok vp1 1048 8 vp1_g1048 k (by omega) (by omega)
end Go.Proofs.YtbcenbhdmpljhaaGreatDoor.Ev
