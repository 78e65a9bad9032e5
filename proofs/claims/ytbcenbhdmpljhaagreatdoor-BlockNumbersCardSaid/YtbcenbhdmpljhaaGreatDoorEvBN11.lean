/-
  Rounds 1760 to 1935, reckoned by the machine.
-/
import Derived.Test.YtbcenbhdmpljhaaGreatDoorEvBN
namespace Go.Proofs.YtbcenbhdmpljhaaGreatDoor.Ev
open Go
set_option maxRecDepth 100000
theorem vp1_g1760 : allR vp1 1760 12 = true := by kernel_rfl
theorem vp1_g1772 : allR vp1 1772 12 = true := by kernel_rfl
theorem vp1_g1784 : allR vp1 1784 12 = true := by kernel_rfl
theorem vp1_g1796 : allR vp1 1796 12 = true := by kernel_rfl
theorem vp1_g1808 : allR vp1 1808 12 = true := by kernel_rfl
theorem vp1_g1820 : allR vp1 1820 12 = true := by kernel_rfl
theorem vp1_g1832 : allR vp1 1832 12 = true := by kernel_rfl
theorem vp1_g1844 : allR vp1 1844 12 = true := by kernel_rfl
theorem vp1_g1856 : allR vp1 1856 12 = true := by kernel_rfl
theorem vp1_g1868 : allR vp1 1868 12 = true := by kernel_rfl
theorem vp1_g1880 : allR vp1 1880 12 = true := by kernel_rfl
theorem vp1_g1892 : allR vp1 1892 12 = true := by kernel_rfl
theorem vp1_g1904 : allR vp1 1904 12 = true := by kernel_rfl
theorem vp1_g1916 : allR vp1 1916 12 = true := by kernel_rfl
theorem vp1_g1928 : allR vp1 1928 8 = true := by kernel_rfl
theorem vp1_t11 (k : Nat) (h1 : 1760 ≤ k) (h2 : k < 1936) : vp1 k = true := by
  by_cases h1770 : k < 1772
  · exact allR_ok vp1 1760 12 vp1_g1760 k (by omega) (by omega)
  by_cases h1782 : k < 1784
  · exact allR_ok vp1 1772 12 vp1_g1772 k (by omega) (by omega)
  by_cases h1794 : k < 1796
  · exact allR_ok vp1 1784 12 vp1_g1784 k (by omega) (by omega)
  by_cases h1806 : k < 1808
  · exact allR_ok vp1 1796 12 vp1_g1796 k (by omega) (by omega)
  by_cases h1818 : k < 1820
  · exact allR_ok vp1 1808 12 vp1_g1808 k (by omega) (by omega)
  by_cases h1830 : k < 1832
  · exact allR_ok vp1 1820 12 vp1_g1820 k (by omega) (by omega)
  by_cases h1842 : k < 1844
  · exact allR_ok vp1 1832 12 vp1_g1832 k (by omega) (by omega)
  by_cases h1854 : k < 1856
  · exact allR_ok vp1 1844 12 vp1_g1844 k (by omega) (by omega)
  by_cases h1866 : k < 1868
  · exact allR_ok vp1 1856 12 vp1_g1856 k (by omega) (by omega)
  by_cases h1878 : k < 1880
  · exact allR_ok vp1 1868 12 vp1_g1868 k (by omega) (by omega)
  by_cases h1890 : k < 1892
  · exact allR_ok vp1 1880 12 vp1_g1880 k (by omega) (by omega)
  by_cases h1902 : k < 1904
  · exact allR_ok vp1 1892 12 vp1_g1892 k (by omega) (by omega)
  by_cases h1914 : k < 1916
  · exact allR_ok vp1 1904 12 vp1_g1904 k (by omega) (by omega)
  by_cases h1926 : k < 1928
  · exact allR_ok vp1 1916 12 vp1_g1916 k (by omega) (by omega)
  exact allR_ok vp1 1928 8 vp1_g1928 k (by omega) (by omega)
end Go.Proofs.YtbcenbhdmpljhaaGreatDoor.Ev
