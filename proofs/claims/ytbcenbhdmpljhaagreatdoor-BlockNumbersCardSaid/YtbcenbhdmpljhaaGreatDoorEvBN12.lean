/-
  Rounds 1936 to 2111, reckoned by the machine.
-/
import Derived.Test.YtbcenbhdmpljhaaGreatDoorEvBN
namespace Go.Proofs.YtbcenbhdmpljhaaGreatDoor.Ev
open Go
set_option maxRecDepth 100000
theorem vp1_g1936 : allR vp1 1936 12 = true := by kernel_rfl
theorem vp1_g1948 : allR vp1 1948 12 = true := by kernel_rfl
theorem vp1_g1960 : allR vp1 1960 12 = true := by kernel_rfl
theorem vp1_g1972 : allR vp1 1972 12 = true := by kernel_rfl
theorem vp1_g1984 : allR vp1 1984 12 = true := by kernel_rfl
theorem vp1_g1996 : allR vp1 1996 12 = true := by kernel_rfl
theorem vp1_g2008 : allR vp1 2008 12 = true := by kernel_rfl
theorem vp1_g2020 : allR vp1 2020 12 = true := by kernel_rfl
theorem vp1_g2032 : allR vp1 2032 12 = true := by kernel_rfl
theorem vp1_g2044 : allR vp1 2044 12 = true := by kernel_rfl
theorem vp1_g2056 : allR vp1 2056 12 = true := by kernel_rfl
theorem vp1_g2068 : allR vp1 2068 12 = true := by kernel_rfl
theorem vp1_g2080 : allR vp1 2080 12 = true := by kernel_rfl
theorem vp1_g2092 : allR vp1 2092 12 = true := by kernel_rfl
theorem vp1_g2104 : allR vp1 2104 8 = true := by kernel_rfl
theorem vp1_t12 (k : Nat) (h1 : 1936 ≤ k) (h2 : k < 2112) : vp1 k = true := by
  by_cases h1946 : k < 1948
  · exact allR_ok vp1 1936 12 vp1_g1936 k (by omega) (by omega)
  by_cases h1958 : k < 1960
  · exact allR_ok vp1 1948 12 vp1_g1948 k (by omega) (by omega)
  by_cases h1970 : k < 1972
  · exact allR_ok vp1 1960 12 vp1_g1960 k (by omega) (by omega)
  by_cases h1982 : k < 1984
  · exact allR_ok vp1 1972 12 vp1_g1972 k (by omega) (by omega)
  by_cases h1994 : k < 1996
  · exact allR_ok vp1 1984 12 vp1_g1984 k (by omega) (by omega)
  by_cases h2006 : k < 2008
  · exact allR_ok vp1 1996 12 vp1_g1996 k (by omega) (by omega)
  by_cases h2018 : k < 2020
  · exact allR_ok vp1 2008 12 vp1_g2008 k (by omega) (by omega)
  by_cases h2030 : k < 2032
  · exact allR_ok vp1 2020 12 vp1_g2020 k (by omega) (by omega)
  by_cases h2042 : k < 2044
  · exact allR_ok vp1 2032 12 vp1_g2032 k (by omega) (by omega)
  by_cases h2054 : k < 2056
  · exact allR_ok vp1 2044 12 vp1_g2044 k (by omega) (by omega)
  by_cases h2066 : k < 2068
  · exact allR_ok vp1 2056 12 vp1_g2056 k (by omega) (by omega)
  by_cases h2078 : k < 2080
  · exact allR_ok vp1 2068 12 vp1_g2068 k (by omega) (by omega)
  by_cases h2090 : k < 2092
  · exact allR_ok vp1 2080 12 vp1_g2080 k (by omega) (by omega)
  by_cases h2102 : k < 2104
  · exact allR_ok vp1 2092 12 vp1_g2092 k (by omega) (by omega)
  exact allR_ok vp1 2104 8 vp1_g2104 k (by omega) (by omega)
end Go.Proofs.YtbcenbhdmpljhaaGreatDoor.Ev
