/-
  Texts in plain words: bytes, blanks, columns, runs, what is cut off at either end.
-/
import Derived.Test.YtofigleaealbjaaGreatDoorEvSymX
import Derived.Lib.ValidAsc
import Derived.Lib.SlTrimSet
namespace Go.Proofs.YtofigleaealbjaaGreatDoor.Ev
set_option linter.unusedVariables false
set_option linter.unusedSimpArgs false
open Go

theorem Q_bool {H : AH} {Q : Value → AH → Prop} {a b : Bool} (h : Q (.bool a) H) (e : a = b) : Q (.bool b) H := e ▸ h
theorem Q_val {H : AH} {Q : Value → AH → Prop} {a b : Value} (h : Q a H) (e : a = b) : Q b H := e ▸ h

def gapB (c : Int) : Prop := c = 32 ∨ c = 9
def GapEnd (s : ByteArray) (i : Nat) : Prop := i ≤ s.size ∧ (∀ j : Nat, j < i → gapB (byteAt s j)) ∧ (i < s.size → ¬ gapB (byteAt s i))
def RunEnd (s : ByteArray) (at_ : Nat) (c : Int) (n : Nat) : Prop := at_ + n ≤ s.size ∧ (∀ j : Nat, j < n → byteAt s (at_ + j : Nat) = c) ∧ (at_ + n < s.size → ¬ byteAt s (at_ + n : Nat) = c)
def stepF (col c : Int) : Int := if c = 9 then col + 4 - col % 4 else col + 1
theorem stepF_le (col c : Int) (h : 0 ≤ col) : col < stepF col c ∧ stepF col c ≤ col + 4 := by unfold stepF; split <;> omega
def colAt (s : ByteArray) : Nat → Int
  | 0 => 0
  | i + 1 => stepF (colAt s i) (byteAt s i)
theorem colAt_le (s : ByteArray) : ∀ i : Nat, (i : Int) ≤ colAt s i ∧ colAt s i ≤ 4 * i
  | 0 => ⟨Int.le_refl 0, Int.le_refl 0⟩
  | i + 1 => by
    have h := colAt_le s i
    have k := stepF_le (colAt s i) (byteAt s i) (by omega)
    show ((i + 1 : Nat) : Int) ≤ stepF _ _ ∧ stepF _ _ ≤ _
    omega

theorem size_app (a b : ByteArray) : (a ++ b).size = a.size + b.size := ByteArray.size_append
theorem ext_le (s : ByteArray) (a b : Nat) : (s.extract a b).size ≤ s.size := by simp [ByteArray.size_extract]; omega
theorem ext_all (t : ByteArray) : t.extract 0 t.size = t := by simp
theorem byteAt_list (s : ByteArray) (j : Nat) (b : UInt8) (h : s.data.toList[j]? = some b) : byteAt s (j : Nat) = (b.toNat : Int) := by
  rw [Array.getElem?_toList] at h
  show ((s.data[j]?.getD 0).toNat : Int) = _
  rw [h]; rfl
theorem byteAt_some (s : ByteArray) (j : Nat) (h : j < s.size) : ∃ b : UInt8, s.data.toList[j]? = some b ∧ byteAt s (j : Nat) = (b.toNat : Int) := by
  have h2 : j < s.data.toList.length := by simpa using h
  exact ⟨_, List.getElem?_eq_getElem h2, byteAt_list s j _ (List.getElem?_eq_getElem h2)⟩
theorem byteAt_u8 (s : ByteArray) (j : Nat) : 0 ≤ byteAt s (j : Nat) ∧ byteAt s (j : Nat) < 256 := by
  show 0 ≤ ((s.data[j]?.getD 0).toNat : Int) ∧ ((s.data[j]?.getD 0).toNat : Int) < 256
  have := (s.data[j]?.getD 0).toNat_lt
  omega
theorem ext_data (s : ByteArray) (k : Nat) : s.extract k s.size = ⟨(s.data.toList.drop k).toArray⟩ := by
  have h := Lib.ext_list s k
  apply ByteArray.ext
  apply Array.toList_inj.1
  rw [h]
theorem ext0_data (s : ByteArray) (k : Nat) : s.extract 0 k = ⟨(s.data.toList.take k).toArray⟩ := by
  apply ByteArray.ext
  apply Array.toList_inj.1
  simp only [ByteArray.data_extract, Array.toList_extract, List.extract_eq_take_drop, List.drop_zero, Nat.sub_zero]
theorem u8_eq (b : UInt8) (n : Nat) (hn : n < 256) (h : (b.toNat : Int) = (n : Int)) : b = UInt8.ofNat n := by
  apply UInt8.toNat_inj.1
  have : b.toNat = n := by omega
  rw [this]
  simp [UInt8.toNat_ofNat']
  omega
theorem byteAt_ext (s : ByteArray) (i j : Nat) : byteAt (s.extract i s.size) (j : Nat) = byteAt s (i + j : Nat) := by
  rw [ext_data]
  show (((s.data.toList.drop i).toArray[j]?.getD 0).toNat : Int) = ((s.data[i + j]?.getD 0).toNat : Int)
  simp [List.getElem?_drop]
theorem byteAt_left (a b : ByteArray) (j : Nat) (h : j < a.size) : byteAt (a ++ b) (j : Nat) = byteAt a (j : Nat) := by
  show (((a ++ b).data[j]?.getD 0).toNat : Int) = ((a.data[j]?.getD 0).toNat : Int)
  have h2 : j < a.data.size := h
  rw [ByteArray.data_append, Array.getElem?_append_left h2]
theorem byteAt_right (a b : ByteArray) (j : Nat) : byteAt (a ++ b) (a.size + j : Nat) = byteAt b (j : Nat) := by
  show (((a ++ b).data[a.size + j]?.getD 0).toNat : Int) = ((b.data[j]?.getD 0).toNat : Int)
  have h2 : a.data.size ≤ a.size + j := by show a.size ≤ _; omega
  rw [ByteArray.data_append, Array.getElem?_append_right h2]
  rw [show a.size + j - a.data.size = j by show a.size + j - a.size = j; omega]
theorem ext_right (a b : ByteArray) : (a ++ b).extract a.size (a ++ b).size = b := by
  rw [ext_data]
  apply ByteArray.ext
  simp only [ByteArray.data_append, Array.toList_append]
  rw [show a.size = a.data.toList.length by simp, List.drop_left]
theorem ext_left (a b : ByteArray) : (a ++ b).extract 0 a.size = a := by
  apply ByteArray.ext
  apply Array.toList_inj.1
  simp only [ByteArray.data_extract, ByteArray.data_append]
  show ((a.data ++ b.data).extract 0 a.size).toList = a.data.toList
  rw [Array.toList_extract]
  simp only [Array.toList_append, List.extract_eq_take_drop, List.drop_zero, Nat.sub_zero]
  rw [show a.size = a.data.toList.length by simp, List.take_left]
theorem split_at (s : ByteArray) (i : Nat) (h : i ≤ s.size) : s.extract 0 i ++ s.extract i s.size = s := by
  rw [ByteArray.extract_append_extract]
  simp [Nat.min_eq_left, h]
theorem byteAt_ext0 (s : ByteArray) (i j : Nat) (h : j < i) (hi : i ≤ s.size) : byteAt (s.extract 0 i) (j : Nat) = byteAt s (j : Nat) := by
  conv => rhs; rw [← split_at s i hi]
  rw [byteAt_left _ _ _ (by rw [ByteArray.size_extract]; omega)]
theorem gap_unique (s : ByteArray) (i j : Nat) (hi : GapEnd s i) (hj : GapEnd s j) : i = j := by
  rcases Nat.lt_trichotomy i j with h | h | h
  · exact absurd (hj.2.1 i h) (hi.2.2 (by have := hj.1; omega))
  · exact h
  · exact absurd (hi.2.1 j h) (hj.2.2 (by have := hi.1; omega))
theorem run_unique (s : ByteArray) (a : Nat) (c : Int) (i j : Nat) (hi : RunEnd s a c i) (hj : RunEnd s a c j) : i = j := by
  rcases Nat.lt_trichotomy i j with h | h | h
  · exact absurd (hj.2.1 i h) (hi.2.2 (by have := hj.1; omega))
  · exact h
  · exact absurd (hi.2.1 j h) (hj.2.2 (by have := hi.1; omega))

/-! ### What is cut off at either end -/
def trimC (s c : ByteArray) : ByteArray := ⟨(Lib.trimLeftS s.data.toList c.data.toList).toArray⟩
def backC (s c : ByteArray) : ByteArray := ⟨(Lib.trimRightS s.data.toList c.data.toList).toArray⟩
abbrev WS : ByteArray := ⟨#[32, 9]⟩
theorem trimC_size (s c) : (trimC s c).size ≤ s.size := by
  show (Lib.trimLeftS s.data.toList c.data.toList).toArray.size ≤ s.data.size
  simp only [Lib.trimLeftS, List.size_toArray]
  exact (List.dropWhile_suffix _).length_le
theorem backC_size (s c) : (backC s c).size ≤ s.size := by
  show (Lib.trimRightS s.data.toList c.data.toList).toArray.size ≤ s.data.size
  simp only [Lib.trimRightS, List.size_toArray, List.length_reverse]
  have := (List.dropWhile_suffix (l := s.data.toList.reverse) (fun x => c.data.toList.contains x)).length_le
  simpa using this
theorem drop_by (s c : ByteArray) (k : Nat) (hk : k ≤ s.size) (h1 : ∀ j : Nat, j < k → ∀ b : UInt8, byteAt s (j : Nat) = (b.toNat : Int) → c.data.toList.contains b = true)
    (h2 : k < s.size → ∀ b : UInt8, byteAt s (k : Nat) = (b.toNat : Int) → c.data.toList.contains b = false) : trimC s c = s.extract k s.size := by
  rw [ext_data]
  unfold trimC
  rw [Lib.trimLeftS_drop s.data.toList c.data.toList k (by simpa using hk) (fun j b hj hb => h1 j hj b (byteAt_list s j b hb))
    (fun b hb => h2 (by have := (List.getElem?_eq_some_iff.1 hb).1; simpa using this) b (byteAt_list s k b hb))]
theorem back_list (cs : List UInt8) : ∀ (l : List UInt8) (k : Nat), k ≤ l.length → (∀ j b, k ≤ j → l[j]? = some b → cs.contains b = true) → (∀ b, 0 < k → l[k - 1]? = some b → cs.contains b = false) → Lib.trimRightS l cs = l.take k := by
  intro l k hk h1 h2
  unfold Lib.trimRightS
  have e : l.reverse = (l.drop k).reverse ++ (l.take k).reverse := by rw [← List.reverse_append, List.take_append_drop]
  rw [e]
  have hall : ∀ x, x ∈ (l.drop k).reverse → cs.contains x = true := fun x hx => by
    rw [List.mem_reverse] at hx
    obtain ⟨j, hj⟩ := List.getElem?_of_mem hx
    rw [List.getElem?_drop] at hj
    exact h1 _ _ (by omega) hj
  rw [List.dropWhile_append_of_pos hall]
  by_cases h0 : k = 0
  · subst h0; simp
  · have hlt : k - 1 < l.length := by omega
    have h3 : (l.take k).reverse = l[k - 1]'hlt :: ((l.take (k - 1)).reverse) := by
      have h4 : l.take k = l.take (k - 1) ++ [l[k - 1]'hlt] := by
        have := List.take_succ_eq_append_getElem hlt
        rw [show k - 1 + 1 = k by omega] at this
        exact this
      rw [h4]; simp
    rw [h3, List.dropWhile_cons_of_neg (by rw [h2 _ (by omega) (List.getElem?_eq_getElem hlt)]; simp), ← h3, List.reverse_reverse]
theorem back_by (s c : ByteArray) (k : Nat) (hk : k ≤ s.size) (h1 : ∀ j : Nat, k ≤ j → j < s.size → ∀ b : UInt8, byteAt s (j : Nat) = (b.toNat : Int) → c.data.toList.contains b = true)
    (h2 : 0 < k → ∀ b : UInt8, byteAt s (k - 1 : Nat) = (b.toNat : Int) → c.data.toList.contains b = false) : backC s c = s.extract 0 k := by
  rw [ext0_data]
  unfold backC
  rw [back_list c.data.toList s.data.toList k (by simpa using hk) (fun j b hj hb => h1 j hj (by have := (List.getElem?_eq_some_iff.1 hb).1; simpa using this) b (byteAt_list s j b hb)) (fun b h0 hb => h2 h0 b (byteAt_list s _ b hb))]
theorem gap_contains (b : UInt8) : ([32, 9] : List UInt8).contains b = true ↔ gapB (b.toNat : Int) := by
  simp only [List.contains_cons, List.contains_nil, Bool.or_false, Bool.or_eq_true, beq_iff_eq, gapB]
  constructor
  · rintro (rfl | rfl)
    · exact .inl rfl
    · exact .inr rfl
  · rintro (h | h)
    · exact .inl (u8_eq b 32 (by omega) h)
    · exact .inr (u8_eq b 9 (by omega) h)
theorem gap_contains_f (b : UInt8) (h : ¬ gapB (b.toNat : Int)) : ([32, 9] : List UInt8).contains b = false := by
  cases hc : ([32, 9] : List UInt8).contains b with
  | false => rfl
  | true => exact absurd ((gap_contains b).1 hc) h
theorem one_contains (n : Nat) (hn : n < 256) (b : UInt8) : ([UInt8.ofNat n] : List UInt8).contains b = true ↔ (b.toNat : Int) = (n : Int) := by
  simp only [List.contains_cons, List.contains_nil, Bool.or_false, beq_iff_eq]
  constructor
  · rintro rfl
    simp [UInt8.toNat_ofNat']
    omega
  · exact fun e => u8_eq b n hn e
theorem trim_gap (s : ByteArray) (i : Nat) (h : GapEnd s i) : trimC s WS = s.extract i s.size :=
  drop_by s WS i h.1 (fun j hj b hb => (gap_contains b).2 (hb ▸ h.2.1 j hj)) (fun hlt b hb => gap_contains_f b (hb ▸ h.2.2 hlt))
/-- Where the blanks at a text's end begin. -/
def GapBack (s : ByteArray) (k : Nat) : Prop := k ≤ s.size ∧ (∀ j : Nat, k ≤ j → j < s.size → gapB (byteAt s j)) ∧ (0 < k → ¬ gapB (byteAt s (k - 1 : Nat)))
def RunBack (s : ByteArray) (c : Int) (k : Nat) : Prop := k ≤ s.size ∧ (∀ j : Nat, k ≤ j → j < s.size → byteAt s j = c) ∧ (0 < k → ¬ byteAt s (k - 1 : Nat) = c)
theorem back_gap (s : ByteArray) (k : Nat) (h : GapBack s k) : backC s WS = s.extract 0 k :=
  back_by s WS k h.1 (fun j hj hlt b hb => (gap_contains b).2 (hb ▸ h.2.1 j hj hlt)) (fun h0 b hb => gap_contains_f b (hb ▸ h.2.2 h0))
theorem back_run (s : ByteArray) (n : Nat) (hn : n < 256) (k : Nat) (h : RunBack s n k) : backC s ⟨#[UInt8.ofNat n]⟩ = s.extract 0 k :=
  back_by s ⟨#[UInt8.ofNat n]⟩ k h.1 (fun j hj hlt b hb => (one_contains n hn b).2 (hb ▸ h.2.1 j hj hlt)) (fun h0 b hb => by
    cases hc : ([UInt8.ofNat n] : List UInt8).contains b with
    | false => rfl
    | true => exact absurd (by rw [hb]; exact (one_contains n hn b).1 hc) (h.2.2 h0))
theorem gap_ex (s : ByteArray) : ∃ i, GapEnd s i := by
  have key : ∀ k i : Nat, k = s.size - i → i ≤ s.size → (∀ j : Nat, j < i → gapB (byteAt s j)) → ∃ i, GapEnd s i := by
    intro k
    induction k with
    | zero => exact fun i hk hi hj => ⟨i, hi, hj, fun h => by omega⟩
    | succ k ih =>
      intro i hk hi hj
      by_cases hg : gapB (byteAt s i)
      · exact ih (i + 1) (by omega) (by omega) fun j hj2 => by
          by_cases e : j = i
          · exact e ▸ hg
          · exact hj j (by omega)
      · exact ⟨i, hi, hj, fun _ => hg⟩
  exact key _ 0 rfl (Nat.zero_le _) fun j hj => absurd hj (Nat.not_lt_zero _)
theorem run_ex (s : ByteArray) (i : Nat) (c : Int) (hi : i ≤ s.size) : ∃ n, RunEnd s i c n := by
  have key : ∀ k n : Nat, k = s.size - (i + n) → i + n ≤ s.size → (∀ j : Nat, j < n → byteAt s (i + j : Nat) = c) → ∃ n, RunEnd s i c n := by
    intro k
    induction k with
    | zero => exact fun n hk hn hj => ⟨n, hn, hj, fun h => by omega⟩
    | succ k ih =>
      intro n hk hn hj
      by_cases hg : byteAt s (i + n : Nat) = c
      · exact ih (n + 1) (by omega) (by omega) fun j hj2 => by
          by_cases e : j = n
          · exact e ▸ hg
          · exact hj j (by omega)
      · exact ⟨n, hn, hj, fun _ => hg⟩
  exact key _ 0 rfl (by omega) fun j hj => absurd hj (Nat.not_lt_zero _)
end Go.Proofs.YtofigleaealbjaaGreatDoor.Ev
