/-
  Rounds 1584 to 1759, reckoned by the machine.
-/
import Derived.Test.YtbcenbhdmpljhaaGreatDoorEvBN
namespace Go.Proofs.YtbcenbhdmpljhaaGreatDoor.Ev
open Go
set_option maxRecDepth 100000
theorem vp1_g1584 : allR vp1 1584 12 = true := by kernel_rfl
theorem vp1_g1596 : allR vp1 1596 12 = true := by kernel_rfl
theorem vp1_g1608 : allR vp1 1608 12 = true := by kernel_rfl
theorem vp1_g1620 : allR vp1 1620 12 = true := by kernel_rfl
theorem vp1_g1632 : allR vp1 1632 12 = true := by kernel_rfl
theorem vp1_g1644 : allR vp1 1644 12 = true := by kernel_rfl
theorem vp1_g1656 : allR vp1 1656 12 = true := by kernel_rfl
theorem vp1_g1668 : allR vp1 1668 12 = true := by kernel_rfl
theorem vp1_g1680 : allR vp1 1680 12 = true := by kernel_rfl
theorem vp1_g1692 : allR vp1 1692 12 = true := by kernel_rfl
theorem vp1_g1704 : allR vp1 1704 12 = true := by kernel_rfl
theorem vp1_g1716 : allR vp1 1716 12 = true := by kernel_rfl
theorem vp1_g1728 : allR vp1 1728 12 = true := by kernel_rfl
theorem vp1_g1740 : allR vp1 1740 12 = true := by kernel_rfl
theorem vp1_g1752 : allR vp1 1752 8 = true := by kernel_rfl
theorem vp1_t10 (k : Nat) (h1 : 1584 ≤ k) (h2 : k < 1760) : vp1 k = true := by
  by_cases h1594 : k < 1596
  · exact allR_ok vp1 1584 12 vp1_g1584 k (by omega) (by omega)
  by_cases h1606 : k < 1608
  · exact allR_ok vp1 1596 12 vp1_g1596 k (by omega) (by omega)
  by_cases h1618 : k < 1620
  · exact allR_ok vp1 1608 12 vp1_g1608 k (by omega) (by omega)
  by_cases h1630 : k < 1632
  · exact allR_ok vp1 1620 12 vp1_g1620 k (by omega) (by omega)
  by_cases h1642 : k < 1644
  · exact allR_ok vp1 1632 12 vp1_g1632 k (by omega) (by omega)
  by_cases h1654 : k < 1656
  · exact allR_ok vp1 1644 12 vp1_g1644 k (by omega) (by omega)
  by_cases h1666 : k < 1668
  · exact allR_ok vp1 1656 12 vp1_g1656 k (by omega) (by omega)
  by_cases h1678 : k < 1680
  · exact allR_ok vp1 1668 12 vp1_g1668 k (by omega) (by omega)
  by_cases h1690 : k < 1692
  · exact allR_ok vp1 1680 12 vp1_g1680 k (by omega) (by omega)
  by_cases h1702 : k < 1704
  · exact allR_ok vp1 1692 12 vp1_g1692 k (by omega) (by omega)
  by_cases h1714 : k < 1716
  · exact allR_ok vp1 1704 12 vp1_g1704 k (by omega) (by omega)
  by_cases h1726 : k < 1728
  · exact allR_ok vp1 1716 12 vp1_g1716 k (by omega) (by omega)
  by_cases h1738 : k < 1740
  · exact allR_ok vp1 1728 12 vp1_g1728 k (by omega) (by omega)
  by_cases h1750 : k < 1752
  · exact allR_ok vp1 1740 12 vp1_g1740 k (by omega) (by omega)
  exact allR_ok vp1 1752 8 vp1_g1752 k (by omega) (by omega)
end Go.Proofs.YtbcenbhdmpljhaaGreatDoor.Ev
