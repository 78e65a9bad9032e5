/-
  Rounds 352 to 527, reckoned by the machine.
-/
import Derived.Test.YtbcenbhdmpljhaaGreatDoorEvBN
namespace Go.Proofs.YtbcenbhdmpljhaaGreatDoor.Ev
open Go
set_option maxRecDepth 100000
theorem vp1_g352 : allR vp1 352 12 = true := by kernel_rfl
theorem vp1_g364 : allR vp1 364 12 = true := by kernel_rfl
theorem vp1_g376 : allR vp1 376 12 = true := by kernel_rfl
theorem vp1_g388 : allR vp1 388 12 = true := by kernel_rfl
theorem vp1_g400 : allR vp1 400 12 = true := by kernel_rfl
theorem vp1_g412 : allR vp1 412 12 = true := by kernel_rfl
theorem vp1_g424 : allR vp1 424 12 = true := by kernel_rfl
theorem vp1_g436 : allR vp1 436 12 = true := by kernel_rfl
theorem vp1_g448 : allR vp1 448 12 = true := by kernel_rfl
theorem vp1_g460 : allR vp1 460 12 = true := by kernel_rfl
theorem vp1_g472 : allR vp1 472 12 = true := by kernel_rfl
theorem vp1_g484 : allR vp1 484 12 = true := by kernel_rfl
theorem vp1_g496 : allR vp1 496 12 = true := by kernel_rfl
theorem vp1_g508 : allR vp1 508 12 = true := by kernel_rfl
theorem vp1_g520 : allR vp1 520 8 = true := by kernel_rfl
theorem vp1_t3 (k : Nat) (h1 : 352 ≤ k) (h2 : k < 528) : vp1 k = true := by
  by_cases h362 : k < 364
  · exact allR_ok vp1 352 12 vp1_g352 k (by omega) (by omega)
  by_cases h374 : k < 376
  · exact allR_ok vp1 364 12 vp1_g364 k (by omega) (by omega)
  by_cases h386 : k < 388
  · exact allR_ok vp1 376 12 vp1_g376 k (by omega) (by omega)
  by_cases h398 : k < 400
  · exact allR_ok vp1 388 12 vp1_g388 k (by omega) (by omega)
  by_cases h410 : k < 412
  · exact allR_ok vp1 400 12 vp1_g400 k (by omega) (by omega)
  by_cases h422 : k < 424
  · exact allR_ok vp1 412 12 vp1_g412 k (by omega) (by omega)
  by_cases h434 : k < 436
  · exact allR_ok vp1 424 12 vp1_g424 k (by omega) (by omega)
  by_cases h446 : k < 448
  · exact allR_ok vp1 436 12 vp1_g436 k (by omega) (by omega)
  by_cases h458 : k < 460
  · exact allR_ok vp1 448 12 vp1_g448 k (by omega) (by omega)
  by_cases h470 : k < 472
  · exact allR_ok vp1 460 12 vp1_g460 k (by omega) (by omega)
  by_cases h482 : k < 484
  · exact allR_ok vp1 472 12 vp1_g472 k (by omega) (by omega)
  by_cases h494 : k < 496
  · exact allR_ok vp1 484 12 vp1_g484 k (by omega) (by omega)
  by_cases h506 : k < 508
  · exact allR_ok vp1 496 12 vp1_g496 k (by omega) (by omega)
  by_cases h518 : k < 520
  · exact allR_ok vp1 508 12 vp1_g508 k (by omega) (by omega)
  exact allR_ok vp1 520 8 vp1_g520 k (by omega) (by omega)
end Go.Proofs.YtbcenbhdmpljhaaGreatDoor.Ev
