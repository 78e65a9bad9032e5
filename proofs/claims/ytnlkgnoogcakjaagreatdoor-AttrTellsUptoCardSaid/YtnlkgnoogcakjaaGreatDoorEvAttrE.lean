/-
  Texts as lists of bytes; a text with a backslash ahead of each quote and backslash.
-/
import Derived.Test.YtnlkgnoogcakjaaGreatDoorEvName
namespace Go.Proofs.YtnlkgnoogcakjaaGreatDoor.Ev
open Go
set_option linter.unusedVariables false
set_option linter.unusedSimpArgs false
def bl (l : List UInt8) : ByteArray := ⟨l.toArray⟩
theorem bl_list (l : List UInt8) : (bl l).data.toList = l := rfl
theorem ba_ext {a b : ByteArray} (h : a.data.toList = b.data.toList) : a = b := ByteArray.ext (Array.toList_inj.1 h)
theorem app_list (a b : ByteArray) : (a ++ b).data.toList = a.data.toList ++ b.data.toList := by rw [ByteArray.data_append, Array.toList_append]
theorem bl_of {t : ByteArray} {l : List UInt8} (h : t.data.toList = l) : t = bl l := ba_ext h
def escL : List UInt8 → List UInt8
  | [] => []
  | b :: l => if b = 34 ∨ b = 92 then 92 :: b :: escL l else b :: escL l
/-- How many are escaped. -/
def cntE : List UInt8 → Nat
  | [] => 0
  | b :: l => if b = 34 ∨ b = 92 then cntE l + 1 else cntE l
theorem escL_length : ∀ l : List UInt8, (escL l).length = l.length + cntE l
  | [] => rfl
  | b :: l => by
    simp only [escL, cntE]
    split
    · simp only [List.length_cons, escL_length l]; omega
    · simp only [List.length_cons, escL_length l]; omega
theorem cntE_le : ∀ l : List UInt8, cntE l ≤ l.length
  | [] => Nat.le_refl _
  | b :: l => by
    have := cntE_le l
    simp only [cntE, List.length_cons]
    split <;> omega
theorem cntE_count : ∀ l : List UInt8, cntE l = l.count 34 + l.count 92
  | [] => rfl
  | b :: l => by
    have ih := cntE_count l
    simp only [cntE, List.count_cons]
    by_cases h1 : b = 34
    · subst h1; simp; omega
    · by_cases h2 : b = 92
      · subst h2; simp; omega
      · simp [h1, h2]; exact ih
theorem escL_none : ∀ l : List UInt8, cntE l = 0 → escL l = l
  | [], _ => rfl
  | b :: l, h => by
    simp only [cntE] at h
    simp only [escL]
    split at h
    · omega
    · rename_i hb; rw [if_neg hb, escL_none l h]
theorem escL_app : ∀ a b : List UInt8, escL (a ++ b) = escL a ++ escL b
  | [], b => rfl
  | c :: a, b => by
    simp only [List.cons_append, escL, escL_app a b]
    split <;> rfl
theorem cntE_app : ∀ a b : List UInt8, cntE (a ++ b) = cntE a + cntE b
  | [], b => by simp [cntE]
  | c :: a, b => by
    simp only [List.cons_append, cntE, cntE_app a b]
    split <;> omega
end Go.Proofs.YtnlkgnoogcakjaaGreatDoor.Ev
