/-
  Rounds 0 to 175, reckoned by the machine.
-/
import Derived.Test.YtbcenbhdmpljhaaGreatDoorEvBN
namespace Go.Proofs.YtbcenbhdmpljhaaGreatDoor.Ev
open Go
set_option maxRecDepth 100000
theorem vp1_g0 : allR vp1 0 12 = true := by kernel_rfl
theorem vp1_g12 : allR vp1 12 12 = true := by kernel_rfl
theorem vp1_g24 : allR vp1 24 12 = true := by kernel_rfl
theorem vp1_g36 : allR vp1 36 12 = true := by kernel_rfl
theorem vp1_g48 : allR vp1 48 12 = true := by kernel_rfl
theorem vp1_g60 : allR vp1 60 12 = true := by kernel_rfl
theorem vp1_g72 : allR vp1 72 12 = true := by kernel_rfl
theorem vp1_g84 : allR vp1 84 12 = true := by kernel_rfl
theorem vp1_g96 : allR vp1 96 12 = true := by kernel_rfl
theorem vp1_g108 : allR vp1 108 12 = true := by kernel_rfl
theorem vp1_g120 : allR vp1 120 12 = true := by kernel_rfl
theorem vp1_g132 : allR vp1 132 12 = true := by kernel_rfl
theorem vp1_g144 : allR vp1 144 12 = true := by kernel_rfl
theorem vp1_g156 : allR vp1 156 12 = true := by kernel_rfl
theorem vp1_g168 : allR vp1 168 8 = true := by kernel_rfl
theorem vp1_t1 (k : Nat) (h1 : 0 ≤ k) (h2 : k < 176) : vp1 k = true := by
  by_cases h10 : k < 12
  · exact allR_ok vp1 0 12 vp1_g0 k (by omega) (by omega)
  by_cases h22 : k < 24
  · exact allR_ok vp1 12 12 vp1_g12 k (by omega) (by omega)
  by_cases h34 : k < 36
  · exact allR_ok vp1 24 12 vp1_g24 k (by omega) (by omega)
  by_cases h46 : k < 48
  · exact allR_ok vp1 36 12 vp1_g36 k (by omega) (by omega)
  by_cases h58 : k < 60
  · exact allR_ok vp1 48 12 vp1_g48 k (by omega) (by omega)
  by_cases h70 : k < 72
  · exact allR_ok vp1 60 12 vp1_g60 k (by omega) (by omega)
  by_cases h82 : k < 84
  · exact allR_ok vp1 72 12 vp1_g72 k (by omega) (by omega)
  by_cases h94 : k < 96
  · exact allR_ok vp1 84 12 vp1_g84 k (by omega) (by omega)
  by_cases h106 : k < 108
  · exact allR_ok vp1 96 12 vp1_g96 k (by omega) (by omega)
  by_cases h118 : k < 120
  · exact allR_ok vp1 108 12 vp1_g108 k (by omega) (by omega)
  by_cases h130 : k < 132
  · exact allR_ok vp1 120 12 vp1_g120 k (by omega) (by omega)
  by_cases h142 : k < 144
  · exact allR_ok vp1 132 12 vp1_g132 k (by omega) (by omega)
  by_cases h154 : k < 156
  · exact allR_ok vp1 144 12 vp1_g144 k (by omega) (by omega)
  by_cases h166 : k < 168
  · exact allR_ok vp1 156 12 vp1_g156 k (by omega) (by omega)
  exact allR_ok vp1 168 8 vp1_g168 k (by omega) (by omega)
end Go.Proofs.YtbcenbhdmpljhaaGreatDoor.Ev
