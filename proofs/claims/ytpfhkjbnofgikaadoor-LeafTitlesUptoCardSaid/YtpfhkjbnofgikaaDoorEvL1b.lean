/-
  Chapter 6 in plain words: what stands behind a line's blanks.
-/
import Derived.Test.YtpfhkjbnofgikaaDoorEvL3
namespace Go.Proofs.YtpfhkjbnofgikaaDoor.Ev
open Go
set_option linter.unusedVariables false
set_option linter.unusedSimpArgs false
theorem byteAt_r (s : ByteArray) (i : Int) : 0 ≤ byteAt s i ∧ byteAt s i < 256 := by
  unfold byteAt
  have := ((s.data[i.toNat]?).getD 0).toNat_lt
  omega
theorem app_at (s t : ByteArray) (i : Nat) (ht : t = s.extract i s.size) (j : Nat) : byteAt t (j : Nat) = byteAt s (i + j : Nat) := by rw [ht]; exact byteAt_ext s i j
theorem app_ext (s t : ByteArray) (i m : Nat) (ht : t = s.extract i s.size) (hi : i ≤ s.size) : t.extract m t.size = s.extract (i + m) s.size := by
  have hz : t.size = s.size - i := by rw [ht, ByteArray.size_extract]; omega
  rw [hz, ht, ByteArray.extract_extract]
  congr 1; omega
theorem run_shift (s t : ByteArray) (i m : Nat) (c : Int) (ht : t = s.extract i s.size) (hi : i ≤ s.size) (h1 : m ≤ t.size) (h2 : ∀ j : Nat, j < m → byteAt t (j : Nat) = c) (h3 : m < t.size → ¬ byteAt t (m : Nat) = c) : RunEnd s i c m := by
  have hz : t.size = s.size - i := by rw [ht, ByteArray.size_extract]; omega
  exact ⟨by omega, fun j hj => by rw [← app_at s t i ht j]; exact h2 j hj, fun hlt => by rw [← app_at s t i ht m]; exact h3 (by omega)⟩
theorem cntTo_ext (s t : ByteArray) (i : Nat) (ht : t = s.extract i s.size) (c : Int) : ∀ k, cntTo t c 0 k = cntTo s c i k
  | 0 => rfl
  | k + 1 => by
    unfold cntTo
    rw [cntTo_ext s t i ht c k, Nat.zero_add, app_at s t i ht k]
theorem break_shift (s t : ByteArray) (i : Nat) (ht : t = s.extract i s.size) (hi : i ≤ s.size) (hc : colAt s i ≤ 3) (h0 : 0 < t.size) (h1 : byteAt t (0 : Nat) = 42 ∨ byteAt t (0 : Nat) = 45 ∨ byteAt t (0 : Nat) = 95)
    (h2 : ∀ j : Nat, j < t.size → byteAt t (j : Nat) = byteAt t (0 : Nat) ∨ gapB (byteAt t (j : Nat))) (h3 : 3 ≤ cntTo t (byteAt t (0 : Nat)) 0 t.size) : BreakR s i := by
  have hz : t.size = s.size - i := by rw [ht, ByteArray.size_extract]; omega
  have e0 : byteAt t (0 : Nat) = byteAt s (i : Nat) := by have := app_at s t i ht 0; rwa [Nat.add_zero] at this
  rw [e0] at h1 h3
  refine ⟨hc, by omega, h1, fun j a b => ?_, by rw [← cntTo_ext s t i ht, ← hz]; exact h3⟩
  have := h2 (j - i) (by omega)
  rw [e0, app_at s t i ht (j - i), show i + (j - i) = j by omega] at this
  exact this
theorem break_back (s t : ByteArray) (i : Nat) (ht : t = s.extract i s.size) (h : BreakR s i) : 0 < t.size ∧ (byteAt t (0 : Nat) = 42 ∨ byteAt t (0 : Nat) = 45 ∨ byteAt t (0 : Nat) = 95) ∧
    (∀ j : Nat, j < t.size → byteAt t (j : Nat) = byteAt t (0 : Nat) ∨ gapB (byteAt t (j : Nat))) ∧ 3 ≤ cntTo t (byteAt t (0 : Nat)) 0 t.size := by
  have h0 := h.lt
  have hz : t.size = s.size - i := by rw [ht, ByteArray.size_extract]; omega
  have e0 : byteAt t (0 : Nat) = byteAt s (i : Nat) := by have := app_at s t i ht 0; rwa [Nat.add_zero] at this
  refine ⟨by omega, by rw [e0]; exact h.sign, fun j hj => ?_, by rw [e0, cntTo_ext s t i ht, hz]; exact h.three⟩
  rw [e0, app_at s t i ht j]
  exact h.all (i + j) (by omega) (by omega)
end Go.Proofs.YtpfhkjbnofgikaaDoor.Ev
