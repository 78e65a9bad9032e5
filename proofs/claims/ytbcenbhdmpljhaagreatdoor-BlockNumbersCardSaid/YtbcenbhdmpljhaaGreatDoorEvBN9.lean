/-
  Rounds 1408 to 1583, reckoned by the machine.
-/
import Derived.Test.YtbcenbhdmpljhaaGreatDoorEvBN
namespace Go.Proofs.YtbcenbhdmpljhaaGreatDoor.Ev
open Go
set_option maxRecDepth 100000
theorem vp1_g1408 : allR vp1 1408 12 = true := by kernel_rfl
theorem vp1_g1420 : allR vp1 1420 12 = true := by kernel_rfl
theorem vp1_g1432 : allR vp1 1432 12 = true := by kernel_rfl
theorem vp1_g1444 : allR vp1 1444 12 = true := by kernel_rfl
theorem vp1_g1456 : allR vp1 1456 12 = true := by kernel_rfl
theorem vp1_g1468 : allR vp1 1468 12 = true := by kernel_rfl
theorem vp1_g1480 : allR vp1 1480 12 = true := by kernel_rfl
theorem vp1_g1492 : allR vp1 1492 12 = true := by kernel_rfl
theorem vp1_g1504 : allR vp1 1504 12 = true := by kernel_rfl
theorem vp1_g1516 : allR vp1 1516 12 = true := by kernel_rfl
theorem vp1_g1528 : allR vp1 1528 12 = true := by kernel_rfl
theorem vp1_g1540 : allR vp1 1540 12 = true := by kernel_rfl
theorem vp1_g1552 : allR vp1 1552 12 = true := by kernel_rfl
theorem vp1_g1564 : allR vp1 1564 12 = true := by kernel_rfl
theorem vp1_g1576 : allR vp1 1576 8 = true := by kernel_rfl
theorem vp1_t9 (k : Nat) (h1 : 1408 ≤ k) (h2 : k < 1584) : vp1 k = true := by
  by_cases h1418 : k < 1420
  · exact allR_ok vp1 1408 12 vp1_g1408 k (by omega) (by omega)
  by_cases h1430 : k < 1432
  · exact allR_ok vp1 1420 12 vp1_g1420 k (by omega) (by omega)
  by_cases h1442 : k < 1444
  · exact allR_ok vp1 1432 12 vp1_g1432 k (by omega) (by omega)
  by_cases h1454 : k < 1456
  · exact allR_ok vp1 1444 12 vp1_g1444 k (by omega) (by omega)
  by_cases h1466 : k < 1468
  · exact allR_ok vp1 1456 12 vp1_g1456 k (by omega) (by omega)
  by_cases h1478 : k < 1480
  · exact allR_ok vp1 1468 12 vp1_g1468 k (by omega) (by omega)
  by_cases h1490 : k < 1492
  · exact allR_ok vp1 1480 12 vp1_g1480 k (by omega) (by omega)
  by_cases h1502 : k < 1504
  · exact allR_ok vp1 1492 12 vp1_g1492 k (by omega) (by omega)
  by_cases h1514 : k < 1516
  · exact allR_ok vp1 1504 12 vp1_g1504 k (by omega) (by omega)
  by_cases h1526 : k < 1528
  · exact allR_ok vp1 1516 12 vp1_g1516 k (by omega) (by omega)
  by_cases h1538 : k < 1540
  · exact allR_ok vp1 1528 12 vp1_g1528 k (by omega) (by omega)
  by_cases h1550 : k < 1552
  · exact allR_ok vp1 1540 12 vp1_g1540 k (by omega) (by omega)
  by_cases h1562 : k < 1564
  · exact allR_ok vp1 1552 12 vp1_g1552 k (by omega) (by omega)
  by_cases h1574 : k < 1576
  · exact allR_ok vp1 1564 12 vp1_g1564 k (by omega) (by omega)
  exact allR_ok vp1 1576 8 vp1_g1576 k (by omega) (by omega)
end Go.Proofs.YtbcenbhdmpljhaaGreatDoor.Ev
