/-
  Chapter 6 in plain words: a heading's text is told (the four questions of the law).
-/
import Derived.Test.YtpfhkjbnofgikaaDoorEvL11
import Derived.Test.YtpfhkjbnofgikaaDoorEvL12
namespace Go.Proofs.YtpfhkjbnofgikaaDoor.Ev
open Go
set_option linter.unusedVariables false
set_option linter.unusedSimpArgs false
theorem tS : TitleS ⟨#[116]⟩ := ⟨by decide, fun j hj => by
  have hz : (⟨#[116]⟩ : ByteArray).size = 1 := rfl
  have : j = 0 := by omega
  subst this
  exact ⟨by unfold gapB; decide, by decide⟩⟩
theorem zt1 : (⟨#[32]⟩ : ByteArray).size = 1 := rfl
theorem zt2 : (⟨#[32, 32]⟩ : ByteArray).size = 2 := rfl
theorem zt8 : (⟨#[35, 35, 35, 35, 35, 35, 35, 32]⟩ : ByteArray).size = 8 := rfl
theorem gap2 : ∀ j : Nat, j < (⟨#[32, 32]⟩ : ByteArray).size → gapB (byteAt ⟨#[32, 32]⟩ (j : Nat)) := fun j hj => by
  match j, (show j < 2 from hj) with
  | 0, _ => exact .inl rfl
  | 1, _ => exact .inl rfl
/-- What headC tells of a line, in one word. -/
structure HeadOut (s : ByteArray) (i m : Nat) (n : Int) (x : ByteArray) (b : Bool) : Prop where
  a1 : GapEnd s i
  a2 : RunEnd s i 35 m
  a3 : b = true ↔ HeadR s i m
  a4 : b = true → n = m ∧ x = titleC (s.extract (i + m) s.size)
theorem HeadOut.yes {k : Nat} {r : ByteArray} {i m : Nat} {n : Int} {x : ByteArray} {b : Bool} (h : HeadOut (hashes k ++ r) i m n x b) (h1 : 1 ≤ k) (h2 : k ≤ 6) (h0 : 0 < r.size) (hg : gapB (byteAt r (0 : Nat))) : b = true ∧ n = k ∧ x = titleC r :=
  hash_yes k r h1 h2 h0 hg i m n x b h.a1 h.a2 h.a3 h.a4
theorem HeadOut.no {k : Nat} {r : ByteArray} {i m : Nat} {n : Int} {x : ByteArray} {b : Bool} (h : HeadOut (hashes k ++ r) i m n x b) (h1 : 1 ≤ k) (hr : 0 < r.size) (h35 : ¬ byteAt r (0 : Nat) = 35) (hn : k ≤ 6 → ¬ gapB (byteAt r (0 : Nat))) : b = false :=
  hash_no k r h1 hr h35 hn i m b h.a1 h.a2 h.a3
theorem head_q1 (k c : Nat) (s : ByteArray) (hs : TitleS s) (h1 : 1 ≤ k) (h2 : k ≤ 6) {i m : Nat} {n : Int} {x : ByteArray} {b : Bool} (h : HeadOut (hashes k ++ ⟨#[32]⟩ ++ s ++ ⟨#[32]⟩ ++ hashes c) i m n x b) : b = true ∧ n = k ∧ x = s := by
  have e : hashes k ++ ⟨#[32]⟩ ++ s ++ ⟨#[32]⟩ ++ hashes c = hashes k ++ (⟨#[32]⟩ ++ s ++ ⟨#[32]⟩ ++ hashes c) := by simp only [ByteArray.append_assoc]
  rw [e] at h
  have ht := title_any k c s hs
  have h0 : 0 < (⟨#[32]⟩ ++ s ++ ⟨#[32]⟩ ++ hashes c : ByteArray).size := by simp only [ByteArray.size_append, zt1]; omega
  have hg : gapB (byteAt (⟨#[32]⟩ ++ s ++ ⟨#[32]⟩ ++ hashes c) (0 : Nat)) := by
    simp only [ByteArray.append_assoc]
    rw [byteAt_left _ _ 0 (by decide)]
    exact .inl rfl
  generalize (⟨#[32]⟩ ++ s ++ ⟨#[32]⟩ ++ hashes c : ByteArray) = r at h ht h0 hg
  rw [← ht]
  exact h.yes h1 h2 h0 hg
theorem head_q2 (k : Nat) (s : ByteArray) (hs : TitleS s) (h1 : 1 ≤ k) (h2 : k ≤ 6) {i m : Nat} {n : Int} {x : ByteArray} {b : Bool} (h : HeadOut (hashes k ++ ⟨#[9]⟩ ++ s ++ ⟨#[32, 32]⟩) i m n x b) : b = true ∧ n = k ∧ x = s := by
  have e : hashes k ++ ⟨#[9]⟩ ++ s ++ ⟨#[32, 32]⟩ = hashes k ++ (⟨#[9]⟩ ++ s ++ ⟨#[32, 32]⟩) := by simp only [ByteArray.append_assoc]
  rw [e] at h
  have ht := title_gap ⟨#[9]⟩ s ⟨#[32, 32]⟩ gapPT gap2 hs
  have h0 : 0 < (⟨#[9]⟩ ++ s ++ ⟨#[32, 32]⟩ : ByteArray).size := by simp only [ByteArray.size_append, zt2]; omega
  have hg : gapB (byteAt (⟨#[9]⟩ ++ s ++ ⟨#[32, 32]⟩) (0 : Nat)) := by
    simp only [ByteArray.append_assoc]
    rw [byteAt_left _ _ 0 (by decide)]
    exact .inr rfl
  generalize (⟨#[9]⟩ ++ s ++ ⟨#[32, 32]⟩ : ByteArray) = r at h ht h0 hg
  rw [← ht]
  exact h.yes h1 h2 h0 hg
theorem head_q3 (k : Nat) (s : ByteArray) (hs : TitleS s) (h1 : 1 ≤ k) {i m : Nat} {n : Int} {x : ByteArray} {b : Bool} (h : HeadOut (hashes k ++ s) i m n x b) : b = false :=
  h.no h1 hs.lo (hs.all 0 hs.lo).2 (fun _ => (hs.all 0 hs.lo).1)
theorem head_q4 (s : ByteArray) {i m : Nat} {n : Int} {x : ByteArray} {b : Bool} (h : HeadOut (⟨#[35, 35, 35, 35, 35, 35, 35, 32]⟩ ++ s) i m n x b) : b = false := by
  rw [hash7b, ByteArray.append_assoc] at h
  have h0 : 0 < (⟨#[32]⟩ ++ s : ByteArray).size := by simp only [ByteArray.size_append, zt1]; omega
  have h3 : ¬ byteAt (⟨#[32]⟩ ++ s) (0 : Nat) = 35 := by
    rw [byteAt_left _ _ 0 (by decide)]; show ¬ (32 : Int) = 35; decide
  generalize (⟨#[32]⟩ ++ s : ByteArray) = r at h h0 h3
  exact h.no (by decide) h0 h3 (fun h6 => absurd h6 (by decide))
end Go.Proofs.YtpfhkjbnofgikaaDoor.Ev
