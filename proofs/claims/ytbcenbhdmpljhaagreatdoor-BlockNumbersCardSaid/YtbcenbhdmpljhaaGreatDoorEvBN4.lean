/-
  Rounds 528 to 703, reckoned by the machine.
-/
import Derived.Test.YtbcenbhdmpljhaaGreatDoorEvBN
namespace Go.Proofs.YtbcenbhdmpljhaaGreatDoor.Ev
open Go
set_option maxRecDepth 100000
theorem vp1_g528 : allR vp1 528 12 = true := by kernel_rfl
theorem vp1_g540 : allR vp1 540 12 = true := by kernel_rfl
theorem vp1_g552 : allR vp1 552 12 = true := by kernel_rfl
theorem vp1_g564 : allR vp1 564 12 = true := by kernel_rfl
theorem vp1_g576 : allR vp1 576 12 = true := by kernel_rfl
theorem vp1_g588 : allR vp1 588 12 = true := by kernel_rfl
theorem vp1_g600 : allR vp1 600 12 = true := by kernel_rfl
theorem vp1_g612 : allR vp1 612 12 = true := by kernel_rfl
theorem vp1_g624 : allR vp1 624 12 = true := by kernel_rfl
theorem vp1_g636 : allR vp1 636 12 = true := by kernel_rfl
theorem vp1_g648 : allR vp1 648 12 = true := by kernel_rfl
theorem vp1_g660 : allR vp1 660 12 = true := by kernel_rfl
theorem vp1_g672 : allR vp1 672 12 = true := by kernel_rfl
theorem vp1_g684 : allR vp1 684 12 = true := by kernel_rfl
theorem vp1_g696 : allR vp1 696 8 = true := by kernel_rfl
theorem vp1_t4 (k : Nat) (h1 : 528 ≤ k) (h2 : k < 704) : vp1 k = true := by
  by_cases h538 : k < 540
  · exact allR_ok vp1 528 12 vp1_g528 k (by omega) (by omega)
  by_cases h550 : k < 552
  · exact allR_ok vp1 540 12 vp1_g540 k (by omega) (by omega)
  by_cases h562 : k < 564
  · exact allR_ok vp1 552 12 vp1_g552 k (by omega) (by omega)
  by_cases h574 : k < 576
  · exact allR_ok vp1 564 12 vp1_g564 k (by omega) (by omega)
  by_cases h586 : k < 588
  · exact allR_ok vp1 576 12 vp1_g576 k (by omega) (by omega)
  by_cases h598 : k < 600
  · exact allR_ok vp1 588 12 vp1_g588 k (by omega) (by omega)
  by_cases h610 : k < 612
  · exact allR_ok vp1 600 12 vp1_g600 k (by omega) (by omega)
  by_cases h622 : k < 624
  · exact allR_ok vp1 612 12 vp1_g612 k (by omega) (by omega)
  by_cases h634 : k < 636
  · exact allR_ok vp1 624 12 vp1_g624 k (by omega) (by omega)
  by_cases h646 : k < 648
  · exact allR_ok vp1 636 12 vp1_g636 k (by omega) (by omega)
  by_cases h658 : k < 660
  · exact allR_ok vp1 648 12 vp1_g648 k (by omega) (by omega)
  by_cases h670 : k < 672
  · exact allR_ok vp1 660 12 vp1_g660 k (by omega) (by omega)
  by_cases h682 : k < 684
  · exact allR_ok vp1 672 12 vp1_g672 k (by omega) (by omega)
  by_cases h694 : k < 696
  · exact allR_ok vp1 684 12 vp1_g684 k (by omega) (by omega)
  exact allR_ok vp1 696 8 vp1_g696 k (by omega) (by omega)
end Go.Proofs.YtbcenbhdmpljhaaGreatDoor.Ev
