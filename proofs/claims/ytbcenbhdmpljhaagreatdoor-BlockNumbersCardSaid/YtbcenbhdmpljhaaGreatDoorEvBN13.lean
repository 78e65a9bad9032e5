/-
  Rounds 2112 to 2287, reckoned by the machine.
-/
import Derived.Test.YtbcenbhdmpljhaaGreatDoorEvBN
namespace Go.Proofs.YtbcenbhdmpljhaaGreatDoor.Ev
open Go
set_option maxRecDepth 100000
theorem vp1_g2112 : allR vp1 2112 12 = true := by kernel_rfl
theorem vp1_g2124 : allR vp1 2124 12 = true := by kernel_rfl
theorem vp1_g2136 : allR vp1 2136 12 = true := by kernel_rfl
theorem vp1_g2148 : allR vp1 2148 12 = true := by kernel_rfl
theorem vp1_g2160 : allR vp1 2160 12 = true := by kernel_rfl
theorem vp1_g2172 : allR vp1 2172 12 = true := by kernel_rfl
theorem vp1_g2184 : allR vp1 2184 12 = true := by kernel_rfl
theorem vp1_g2196 : allR vp1 2196 12 = true := by kernel_rfl
theorem vp1_g2208 : allR vp1 2208 12 = true := by kernel_rfl
theorem vp1_g2220 : allR vp1 2220 12 = true := by kernel_rfl
theorem vp1_g2232 : allR vp1 2232 12 = true := by kernel_rfl
theorem vp1_g2244 : allR vp1 2244 12 = true := by kernel_rfl
theorem vp1_g2256 : allR vp1 2256 12 = true := by kernel_rfl
theorem vp1_g2268 : allR vp1 2268 12 = true := by kernel_rfl
theorem vp1_g2280 : allR vp1 2280 8 = true := by kernel_rfl
theorem vp1_t13 (k : Nat) (h1 : 2112 ≤ k) (h2 : k < 2288) : vp1 k = true := by
  by_cases h2122 : k < 2124
  · exact allR_ok vp1 2112 12 vp1_g2112 k (by omega) (by omega)
  by_cases h2134 : k < 2136
  · exact allR_ok vp1 2124 12 vp1_g2124 k (by omega) (by omega)
  by_cases h2146 : k < 2148
  · exact allR_ok vp1 2136 12 vp1_g2136 k (by omega) (by omega)
  by_cases h2158 : k < 2160
  · exact allR_ok vp1 2148 12 vp1_g2148 k (by omega) (by omega)
  by_cases h2170 : k < 2172
  · exact allR_ok vp1 2160 12 vp1_g2160 k (by omega) (by omega)
  by_cases h2182 : k < 2184
  · exact allR_ok vp1 2172 12 vp1_g2172 k (by omega) (by omega)
  by_cases h2194 : k < 2196
  · exact allR_ok vp1 2184 12 vp1_g2184 k (by omega) (by omega)
  by_cases h2206 : k < 2208
  · exact allR_ok vp1 2196 12 vp1_g2196 k (by omega) (by omega)
  by_cases h2218 : k < 2220
  · exact allR_ok vp1 2208 12 vp1_g2208 k (by omega) (by omega)
  by_cases h2230 : k < 2232
  · exact allR_ok vp1 2220 12 vp1_g2220 k (by omega) (by omega)
  by_cases h2242 : k < 2244
  · exact allR_ok vp1 2232 12 vp1_g2232 k (by omega) (by omega)
  by_cases h2254 : k < 2256
  · exact allR_ok vp1 2244 12 vp1_g2244 k (by omega) (by omega)
  by_cases h2266 : k < 2268
  · exact allR_ok vp1 2256 12 vp1_g2256 k (by omega) (by omega)
  by_cases h2278 : k < 2280
  · exact allR_ok vp1 2268 12 vp1_g2268 k (by omega) (by omega)
  exact allR_ok vp1 2280 8 vp1_g2280 k (by omega) (by omega)
end Go.Proofs.YtbcenbhdmpljhaaGreatDoor.Ev
