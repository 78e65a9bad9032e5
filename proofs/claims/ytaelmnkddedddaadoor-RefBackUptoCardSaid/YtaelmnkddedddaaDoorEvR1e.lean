/-
  Chapter 15 in plain words: blanks, backslashes, what stands between the signs.
-/
import Derived.Test.YtaelmnkddedddaaDoorEvR1d
import Derived.Lib.ValidAsc
namespace Go.Proofs.YtaelmnkddedddaaDoor.Ev
open Go

theorem byteAt_list (s : ByteArray) (j : Nat) (b : UInt8) (h : s.data.toList[j]? = some b) : byteAt s (j : Nat) = (b.toNat : Int) := by
  rw [Array.getElem?_toList] at h
  show ((s.data[j]?.getD 0).toNat : Int) = _
  rw [h]; rfl

theorem ext_data (s : ByteArray) (k : Nat) : s.extract k s.size = ⟨(s.data.toList.drop k).toArray⟩ := by
  have h := Lib.ext_list s k
  apply ByteArray.ext
  apply Array.toList_inj.1
  rw [h]

theorem drop_by (s c : ByteArray) (k : Nat) (hk : k ≤ s.size) (h1 : ∀ j : Nat, j < k → ∀ b : UInt8, byteAt s (j : Nat) = (b.toNat : Int) → c.data.toList.contains b = true)
    (h2 : k < s.size → ∀ b : UInt8, byteAt s (k : Nat) = (b.toNat : Int) → c.data.toList.contains b = false) : trimC s c = s.extract k s.size := by
  rw [ext_data]
  unfold trimC
  rw [Lib.trimLeftS_drop s.data.toList c.data.toList k (by simpa using hk) (fun j b hj hb => h1 j hj b (byteAt_list s j b hb))
    (fun b hb => h2 (by have := (List.getElem?_eq_some_iff.1 hb).1; simpa using this) b (byteAt_list s k b hb))]

theorem u8_eq (b : UInt8) (n : Nat) (hn : n < 256) (h : (b.toNat : Int) = (n : Int)) : b = UInt8.ofNat n := by
  apply UInt8.toNat_inj.1
  have : b.toNat = n := by omega
  rw [this]
  simp [UInt8.toNat_ofNat']
  omega

theorem gap_contains (b : UInt8) : ([32, 9] : List UInt8).contains b = true ↔ gapB (b.toNat : Int) := by
  simp only [List.contains_cons, List.contains_nil, Bool.or_false, Bool.or_eq_true, beq_iff_eq, gapB]
  constructor
  · rintro (rfl | rfl)
    · exact .inl rfl
    · exact .inr rfl
  · rintro (h | h)
    · exact .inl (u8_eq b 32 (by omega) h)
    · exact .inr (u8_eq b 9 (by omega) h)

theorem trimL_gap (s : ByteArray) (i : Nat) (h : GapEnd s i) : trimL s = s.extract i s.size :=
  drop_by s ⟨#[32, 9]⟩ i h.1 (fun j hj b hb => (gap_contains b).2 (hb ▸ h.2.1 j hj)) (fun hlt b hb => by
    cases hc : ([32, 9] : List UInt8).contains b with
    | false => rfl
    | true => exact absurd (hb ▸ (gap_contains b).1 hc) (h.2.2 hlt))

theorem byteAt_ext (s : ByteArray) (i j : Nat) (_h : i + j < s.size) : byteAt (s.extract i s.size) (j : Nat) = byteAt s (i + j : Nat) := by
  rw [ext_data]
  show (((s.data.toList.drop i).toArray[j]?.getD 0).toNat : Int) = ((s.data[i + j]?.getD 0).toNat : Int)
  simp [List.getElem?_drop]

theorem trim_run (s : ByteArray) (i n : Nat) (hi : i ≤ s.size) (h : RunEnd s i 92 n) : trimC (s.extract i s.size) ⟨#[92]⟩ = s.extract (i + n) s.size := by
  have hz : (s.extract i s.size).size = s.size - i := by rw [ByteArray.size_extract]; omega
  have h1 := h.1
  have hc : ∀ b : UInt8, ([92] : List UInt8).contains b = true ↔ (b.toNat : Int) = 92 := fun b => by
    simp only [List.contains_cons, List.contains_nil, Bool.or_false, beq_iff_eq]
    exact ⟨fun e => by subst e; rfl, fun e => u8_eq b 92 (by omega) e⟩
  rw [drop_by (s.extract i s.size) ⟨#[92]⟩ n (by omega) (fun j hj b hb => (hc b).2 (by rw [← hb, byteAt_ext s i j (by omega)]; exact h.2.1 j hj)) (fun hlt b hb => by
    cases hcb : ([92] : List UInt8).contains b with
    | false => rfl
    | true =>
      have := (hc b).1 hcb
      rw [← hb, byteAt_ext s i n (by omega)] at this
      exact absurd this (h.2.2 (by omega))), ext_data, ext_data, ext_data]
  simp [List.drop_drop]

/-- What is a reference, of what has no blanks ahead: one way of saying it is the other's, if names are. -/
theorem ref_same (hn : ∀ t : ByteArray, NameA t ↔ NameR t) (t : ByteArray) : RefA t ↔ RefR t := by
  have hl : LL.size = 2 := rfl
  have hg : GG.size = 2 := rfl
  have hmid : 4 ≤ t.size → midA t = midR t := fun h => by
    unfold midA midR
    have hz : (t.extract 2 t.size).size = t.size - 2 := by rw [ByteArray.size_extract]; omega
    rw [hz, ByteArray.extract_extract, show 2 + 0 = 2 from rfl, show min (2 + (t.size - 2 - 2)) t.size = t.size - 2 by omega]
  constructor
  · intro h
    have h1 := h.pre.1
    have h2 := h.suf.1
    have hz : (t.extract 2 t.size).size = t.size - 2 := by rw [ByteArray.size_extract]; omega
    have h4 : 4 ≤ t.size := by omega
    have h5 := h.name.lo
    have hm : (midA t).size = t.size - 4 := by rw [hmid h4]; unfold midR; rw [ByteArray.size_extract]; omega
    refine ⟨by omega, h.pre.2, ?_, hmid h4 ▸ (hn _).1 h.name⟩
    have h6 := h.suf.2
    rw [hz, hg] at h6
    rw [ByteArray.extract_extract, show 2 + (t.size - 2 - 2) = t.size - 2 by omega, show min (2 + (t.size - 2)) t.size = t.size by omega] at h6
    exact h6
  · intro h
    have h1 := h.lo
    have hz : (t.extract 2 t.size).size = t.size - 2 := by rw [ByteArray.size_extract]; omega
    refine ⟨⟨by omega, h.pre⟩, ⟨by omega, ?_⟩, (hmid (by omega)).symm ▸ (hn _).2 h.name⟩
    rw [hz, hg]
    rw [ByteArray.extract_extract, show 2 + (t.size - 2 - 2) = t.size - 2 by omega, show min (2 + (t.size - 2)) t.size = t.size by omega]
    exact h.suf
end Go.Proofs.YtaelmnkddedddaaDoor.Ev
