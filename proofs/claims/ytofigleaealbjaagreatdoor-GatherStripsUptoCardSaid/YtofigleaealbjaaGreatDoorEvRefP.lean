/-
  References in plain words: what one is for the program, what for the document; backslashes ahead of it; what goes out comes in as it was.
-/
import Derived.Test.YtofigleaealbjaaGreatDoorEvName
namespace Go.Proofs.YtofigleaealbjaaGreatDoor.Ev
set_option linter.unusedVariables false
set_option linter.unusedSimpArgs false
open Go
abbrev LL : ByteArray := ⟨#[60, 60]⟩
abbrev GG : ByteArray := ⟨#[62, 62]⟩
abbrev BS : ByteArray := ⟨#[92]⟩
def trimL (s : ByteArray) : ByteArray := trimC s WS
theorem trimL_size (s) : (trimL s).size ≤ s.size := trimC_size s _
theorem trimL_gap (s : ByteArray) (i : Nat) (h : GapEnd s i) : trimL s = s.extract i s.size := trim_gap s i h
/-- What is left of a text between the signs. -/
def midA (s : ByteArray) : ByteArray := (s.extract 2 s.size).extract 0 ((s.extract 2 s.size).size - 2)
structure RefA (s : ByteArray) : Prop where
  pre : PrefB s LL
  suf : SufB (s.extract 2 s.size) GG
  name : NameA (midA s)
/-- A line's blanks; what is behind them. -/
def headA (s : ByteArray) : ByteArray := s.extract 0 ((s.size : Int) - (trimL s).size).toNat
def midR (t : ByteArray) : ByteArray := t.extract 2 (t.size - 2)
structure RefR (t : ByteArray) : Prop where
  lo : 5 ≤ t.size
  pre : t.extract 0 2 = LL
  suf : t.extract (t.size - 2) t.size = GG
  name : NameR (midR t)
theorem ext_nil (t : ByteArray) (j : Nat) (hj : j ≤ t.size) : t.extract 0 j = ⟨#[]⟩ ↔ j = 0 := by
  constructor
  · intro h
    have := congrArg ByteArray.size h
    rw [ByteArray.size_extract] at this
    have h0 : (⟨#[]⟩ : ByteArray).size = 0 := rfl
    omega
  · rintro rfl
    apply ByteArray.ext
    simp
theorem trim_run (s : ByteArray) (i n : Nat) (hi : i ≤ s.size) (h : RunEnd s i 92 n) : trimC (s.extract i s.size) BS = s.extract (i + n) s.size := by
  have hz : (s.extract i s.size).size = s.size - i := by rw [ByteArray.size_extract]; omega
  have h1 := h.1
  have hc : ∀ b : UInt8, ([92] : List UInt8).contains b = true ↔ (b.toNat : Int) = 92 := fun b => one_contains 92 (by decide) b
  rw [drop_by (s.extract i s.size) BS n (by omega) (fun j hj b hb => (hc b).2 (by rw [← hb, byteAt_ext s i j]; exact h.2.1 j hj)) (fun hlt b hb => by
    cases hcb : ([92] : List UInt8).contains b with
    | false => rfl
    | true =>
      have := (hc b).1 hcb
      rw [← hb, byteAt_ext s i n] at this
      exact absurd this (h.2.2 (by omega))), ext_data, ext_data, ext_data]
  simp [List.drop_drop]
/-- What is a reference, of what has no blanks ahead: one way of saying it is the other's. -/
theorem ref_same (t : ByteArray) : RefA t ↔ RefR t := by
  have hl : LL.size = 2 := rfl
  have hg : GG.size = 2 := rfl
  have hmid : 4 ≤ t.size → midA t = midR t := fun h => by
    unfold midA midR
    have hz : (t.extract 2 t.size).size = t.size - 2 := by rw [ByteArray.size_extract]; omega
    rw [hz, ByteArray.extract_extract, show 2 + 0 = 2 from rfl, show min (2 + (t.size - 2 - 2)) t.size = t.size - 2 by omega]
  constructor
  · intro h
    have h1 := h.pre.1
    have h2 := h.suf.1
    have hz : (t.extract 2 t.size).size = t.size - 2 := by rw [ByteArray.size_extract]; omega
    have h4 : 4 ≤ t.size := by omega
    have h5 := h.name.lo
    have hm : (midA t).size = t.size - 4 := by rw [hmid h4]; unfold midR; rw [ByteArray.size_extract]; omega
    refine ⟨by omega, h.pre.2, ?_, hmid h4 ▸ (name_same _).1 h.name⟩
    have h6 := h.suf.2
    rw [hz, hg] at h6
    rw [ByteArray.extract_extract, show 2 + (t.size - 2 - 2) = t.size - 2 by omega, show min (2 + (t.size - 2)) t.size = t.size by omega] at h6
    exact h6
  · intro h
    have h1 := h.lo
    have hz : (t.extract 2 t.size).size = t.size - 2 := by rw [ByteArray.size_extract]; omega
    refine ⟨⟨by omega, h.pre⟩, ⟨by omega, ?_⟩, (hmid (by omega)).symm ▸ (name_same _).2 h.name⟩
    rw [hz, hg]
    rw [ByteArray.extract_extract, show 2 + (t.size - 2 - 2) = t.size - 2 by omega, show min (2 + (t.size - 2)) t.size = t.size by omega]
    exact h.suf
theorem refR_first (t : ByteArray) (h : RefR t) : byteAt t (0 : Nat) = 60 := by
  have h1 : byteAt (t.extract 0 2) (0 : Nat) = 60 := by rw [h.pre]; rfl
  have := h.lo
  rwa [byteAt_ext0 t 2 0 (by decide) (by omega)] at h1
theorem head_gap (s : ByteArray) (i : Nat) (hi : GapEnd s i) : headA s = s.extract 0 i := by
  unfold headA
  have hz : (s.extract i s.size).size = s.size - i := by rw [ByteArray.size_extract]; omega
  rw [trimL_gap s i hi, hz, show ((s.size : Int) - (s.size - i : Nat)).toNat = i by have := hi.1; omega]
theorem ref_gap0 (u : ByteArray) (h : RefR u) : GapEnd u 0 := by
  refine ⟨Nat.zero_le _, fun j hj => absurd hj (Nat.not_lt_zero _), fun _ hg => ?_⟩
  rw [refR_first u h] at hg
  unfold gapB at hg
  omega
/-- WHAT GOES OUT COMES IN AS IT WAS, IF IT DOES NOT LEAD ON. -/
theorem in_out {x y z : ByteArray} {i n : Nat} (hi : GapEnd x i) (hr : RunEnd x i 92 n)
    (d3 : (RefR (x.extract (i + n) x.size) ∧ GapEnd (x.extract (i + n) x.size) 0) ∧ 0 < n → y = x.extract 0 i ++ x.extract (i + 1) x.size) (d4 : ¬ ((RefR (x.extract (i + n) x.size) ∧ GapEnd (x.extract (i + n) x.size) 0) ∧ 0 < n) → y = x)
    (hl : ¬ RefR (x.extract i x.size))
    (d1 : RefA (trimC (trimL y) BS) → z = headA y ++ BS ++ trimL y) (d2 : ¬ RefA (trimC (trimL y) BS) → z = y) : z = x := by
  have hi0 := hi.1
  have hn0 := hr.1
  by_cases hA : (RefR (x.extract (i + n) x.size) ∧ GapEnd (x.extract (i + n) x.size) 0) ∧ 0 < n
  · have hy := d3 hA
    obtain ⟨⟨hR, _⟩, hn⟩ := hA
    have h92 : byteAt x (i : Nat) = 92 := by have := hr.2.1 0 hn; rwa [Nat.add_zero] at this
    have hzi : (x.extract 0 i).size = i := by rw [ByteArray.size_extract]; omega
    have hzt : (x.extract (i + 1) x.size).size = x.size - (i + 1) := by rw [ByteArray.size_extract]; omega
    have hzy : y.size = x.size - 1 := by rw [hy, size_app, hzi, hzt]; omega
    have hyt : y.extract i y.size = x.extract (i + 1) x.size := by
      have := ext_right (x.extract 0 i) (x.extract (i + 1) x.size)
      rw [← hy, hzi] at this; exact this
    have hyh : y.extract 0 i = x.extract 0 i := by
      have := ext_left (x.extract 0 i) (x.extract (i + 1) x.size)
      rw [← hy, hzi] at this; exact this
    have hb : ∀ j : Nat, byteAt y (i + j : Nat) = byteAt x (i + 1 + j : Nat) := fun j => by rw [← byteAt_ext, hyt, byteAt_ext]
    have hlo := hR.lo
    rw [ByteArray.size_extract] at hlo
    -- blanks end, and backslashes
    have hgy : GapEnd y i := by
      refine ⟨by omega, fun j hj => ?_, fun _ => ?_⟩
      · have h1 : byteAt y (j : Nat) = byteAt x (j : Nat) := by
          rw [← byteAt_ext0 y i j hj (by omega), hyh, byteAt_ext0 x i j hj hi0]
        rw [h1]; exact hi.2.1 j hj
      · have h1 := hb 0
        rw [Nat.add_zero, Nat.add_zero] at h1
        rw [h1]
        by_cases h2 : 1 < n
        · have := hr.2.1 1 h2
          rw [this]; unfold gapB; omega
        · obtain rfl : n = 1 := by omega
          have := refR_first _ hR
          rw [byteAt_ext, Nat.add_zero] at this
          rw [this]; unfold gapB; omega
    have hry : RunEnd y i 92 (n - 1) := by
      refine ⟨by omega, fun j hj => ?_, fun hlt => ?_⟩
      · rw [hb j, show i + 1 + j = i + (j + 1) by omega]; exact hr.2.1 (j + 1) (by omega)
      · rw [hb (n - 1), show i + 1 + (n - 1) = i + n by omega]; exact hr.2.2 (by omega)
    have htail : y.extract (i + (n - 1)) y.size = x.extract (i + n) x.size := by
      have h1 : y.extract (i + (n - 1)) y.size = (y.extract i y.size).extract (n - 1) (y.extract i y.size).size := by
        rw [ByteArray.extract_extract, ByteArray.size_extract]; congr 1; omega
      rw [h1, hyt, ByteArray.extract_extract, hzt]
      congr 1 <;> omega
    have hz := d1 (by rw [trimL_gap y i hgy, trim_run y i (n - 1) (by omega) hry, htail]; exact (ref_same _).2 hR)
    rw [hz, head_gap y i hgy, trimL_gap y i hgy, hyt, hyh]
    have hbs : BS = x.extract i (i + 1) := by
      obtain ⟨b, hb1, hb2⟩ := byteAt_some x i (by omega)
      have hb3 : b = 92 := u8_eq b 92 (by decide) (by rw [← hb2, h92]; rfl)
      subst hb3
      apply ByteArray.ext
      apply Array.toList_inj.1
      rw [ByteArray.data_extract, Array.toList_extract, List.extract_eq_take_drop, show i + 1 - i = 1 by omega]
      have hlt : i < x.data.toList.length := (List.getElem?_eq_some_iff.1 hb1).1
      rw [List.drop_eq_getElem_cons hlt]
      rw [List.getElem?_eq_getElem hlt] at hb1
      simp only [List.take_succ_cons, List.take_zero]
      rw [Option.some.inj hb1]
    rw [hbs, ByteArray.extract_append_extract, Nat.min_eq_left (by omega), Nat.max_eq_right (by omega), ByteArray.extract_append_extract, Nat.min_eq_left (by omega), Nat.max_eq_right (by omega)]
    simp
  · have hy := d4 hA
    subst hy
    refine d2 fun hRA => ?_
    rw [trimL_gap y i hi, trim_run y i n hi0 hr, ref_same] at hRA
    have hn : n = 0 := by
      refine Nat.eq_zero_of_not_pos fun hp => hA ⟨⟨hRA, ref_gap0 _ hRA⟩, hp⟩
    subst hn
    exact hl hRA
end Go.Proofs.YtofigleaealbjaaGreatDoor.Ev
