/-
  Chapter 15 in plain words: what is hidden comes out as it was; what is made is a reference.
-/
import Derived.Test.YtaelmnkddedddaaDoorEvR1g
namespace Go.Proofs.YtaelmnkddedddaaDoor.Ev
open Go

abbrev BS : ByteArray := ⟨#[92]⟩

theorem size_app (a b : ByteArray) : (a ++ b).size = a.size + b.size := ByteArray.size_append
theorem byteAt_left (a b : ByteArray) (j : Nat) (h : j < a.size) : byteAt (a ++ b) (j : Nat) = byteAt a (j : Nat) := by
  show (((a ++ b).data[j]?.getD 0).toNat : Int) = ((a.data[j]?.getD 0).toNat : Int)
  have h2 : j < a.data.size := h
  rw [ByteArray.data_append, Array.getElem?_append_left h2]
theorem byteAt_right (a b : ByteArray) (j : Nat) : byteAt (a ++ b) (a.size + j : Nat) = byteAt b (j : Nat) := by
  show (((a ++ b).data[a.size + j]?.getD 0).toNat : Int) = ((b.data[j]?.getD 0).toNat : Int)
  have h2 : a.data.size ≤ a.size + j := by show a.size ≤ _; omega
  rw [ByteArray.data_append, Array.getElem?_append_right h2]
  rw [show a.size + j - a.data.size = j by show a.size + j - a.size = j; omega]
theorem ext_right (a b : ByteArray) : (a ++ b).extract a.size (a ++ b).size = b := by
  rw [ext_data]
  apply ByteArray.ext
  simp only [ByteArray.data_append, Array.toList_append]
  rw [show a.size = a.data.toList.length by simp, List.drop_left]
theorem ext_left (a b : ByteArray) : (a ++ b).extract 0 a.size = a := by
  apply ByteArray.ext
  apply Array.toList_inj.1
  simp only [ByteArray.data_extract, ByteArray.data_append]
  show ((a.data ++ b.data).extract 0 a.size).toList = a.data.toList
  rw [Array.toList_extract]
  simp only [Array.toList_append, List.extract_eq_take_drop, List.drop_zero, Nat.sub_zero]
  rw [show a.size = a.data.toList.length by simp, List.take_left]
theorem split_at (s : ByteArray) (i : Nat) (h : i ≤ s.size) : s.extract 0 i ++ s.extract i s.size = s := by
  rw [ByteArray.extract_append_extract]
  simp [Nat.min_eq_left, h]
theorem byteAt_ext0 (s : ByteArray) (i j : Nat) (h : j < i) (hi : i ≤ s.size) : byteAt (s.extract 0 i) (j : Nat) = byteAt s (j : Nat) := by
  conv => rhs; rw [← split_at s i hi]
  rw [byteAt_left _ _ _ (by rw [ByteArray.size_extract]; omega)]

/-- Blanks ahead of what does not begin with one. -/
theorem gap_app (a b : ByteArray) (ha : ∀ j : Nat, j < a.size → gapB (byteAt a j)) (hb : 0 < b.size → ¬ gapB (byteAt b (0 : Nat))) : GapEnd (a ++ b) a.size := by
  refine ⟨by rw [size_app]; omega, fun j hj => by rw [byteAt_left a b j hj]; exact ha j hj, fun hlt => ?_⟩
  rw [size_app] at hlt
  have := byteAt_right a b 0
  rw [Nat.add_zero] at this
  rw [this]
  exact hb (by omega)

theorem trimL_app (a b : ByteArray) (ha : ∀ j : Nat, j < a.size → gapB (byteAt a j)) (hb : 0 < b.size → ¬ gapB (byteAt b (0 : Nat))) : trimL (a ++ b) = b := by
  rw [trimL_gap _ _ (gap_app a b ha hb), ext_right]

/-- Between the signs stands what was put there. -/
theorem mid_made (n : ByteArray) : midR (LL ++ n ++ GG) = n := by
  unfold midR
  have hz : (LL ++ n ++ GG).size = n.size + 4 := by rw [size_app, size_app]; show 2 + n.size + 2 = _; omega
  have h1 : (LL ++ n ++ GG).extract 2 (LL ++ n ++ GG).size = n ++ GG := by
    rw [ByteArray.append_assoc]; exact ext_right LL (n ++ GG)
  have h2 : (LL ++ n ++ GG).extract 2 ((LL ++ n ++ GG).size - 2) = ((LL ++ n ++ GG).extract 2 (LL ++ n ++ GG).size).extract 0 n.size := by
    rw [ByteArray.extract_extract, hz]
    congr 1; omega
  rw [h2, h1, ext_left]
theorem refR_made (n : ByteArray) : RefR (LL ++ n ++ GG) ↔ NameR n := by
  have hz : (LL ++ n ++ GG).size = n.size + 4 := by rw [size_app, size_app]; show 2 + n.size + 2 = _; omega
  constructor
  · intro h; have := h.name; rwa [mid_made] at this
  · intro h
    have := h.lo
    refine ⟨by omega, ?_, ?_, by rw [mid_made]; exact h⟩
    · rw [ByteArray.append_assoc]; exact ext_left LL (n ++ GG)
    · rw [hz, show n.size + 4 - 2 = (LL ++ n).size by rw [size_app]; show _ = 2 + n.size; omega, show n.size + 4 = (LL ++ n ++ GG).size from hz.symm]
      exact ext_right (LL ++ n) GG
theorem byte_LL (n : ByteArray) : byteAt (LL ++ n) (0 : Nat) = 60 := by rw [byteAt_left LL n 0 (by decide)]; rfl
theorem midA_R (t : ByteArray) (h : 4 ≤ t.size) : midA t = midR t := by
  unfold midA midR
  have hz : (t.extract 2 t.size).size = t.size - 2 := by rw [ByteArray.size_extract]; omega
  rw [hz, ByteArray.extract_extract, show 2 + 0 = 2 from rfl, show min (2 + (t.size - 2 - 2)) t.size = t.size - 2 by omega]

/-- A reference that is made, behind blanks. -/
theorem line_made (a n : ByteArray) (ha : ∀ j : Nat, j < a.size → gapB (byteAt a j)) : trimL (a ++ LL ++ n ++ GG) = LL ++ n ++ GG ∧ (RefA (trimL (a ++ LL ++ n ++ GG)) ↔ NameR n) ∧ midA (LL ++ n ++ GG) = n := by
  have h1 : trimL (a ++ LL ++ n ++ GG) = LL ++ n ++ GG := by
    have : a ++ LL ++ n ++ GG = a ++ (LL ++ n ++ GG) := by simp only [ByteArray.append_assoc]
    rw [this]
    refine trimL_app a _ ha fun _ => ?_
    rw [ByteArray.append_assoc, byte_LL]
    unfold gapB; omega
  refine ⟨h1, by rw [h1, ref_same name_same, refR_made], ?_⟩
  rw [midA_R _ (by rw [size_app, size_app]; show 4 ≤ 2 + n.size + 2; omega), mid_made]

/-- What has the signs is put together of its parts. -/
theorem refR_parts (t : ByteArray) (h : RefR t) : LL ++ midR t ++ GG = t := by
  have h0 := h.lo
  have h1 : t.extract 0 2 ++ t.extract 2 (t.size - 2) = t.extract 0 (t.size - 2) := by
    rw [ByteArray.extract_append_extract]; congr 1 <;> omega
  have h2 := split_at t (t.size - 2) (by omega)
  rw [← h1, h.pre, h.suf] at h2
  exact h2

theorem refR_first (t : ByteArray) (h : RefR t) : byteAt t (0 : Nat) = 60 := by
  rw [← refR_parts t h, ByteArray.append_assoc, byte_LL]

theorem slash_none (s : ByteArray) (i n : Nat) (hr : RunEnd s i 92 n) (hR : RefR (s.extract i s.size)) : n = 0 := by
  refine Nat.eq_zero_of_not_pos fun hp => ?_
  have h0 := hR.lo
  rw [ByteArray.size_extract] at h0
  have h1 := refR_first _ hR
  rw [byteAt_ext s i 0 (by omega)] at h1
  have h2 := hr.2.1 0 hp
  omega

/-- WHAT IS HIDDEN COMES OUT AS IT WAS, AND LEADS NOWHERE. -/
theorem hidden (s h : ByteArray) (i n : Nat) (hi : GapEnd s i) (hr : RunEnd s i 92 n)
    (d1 : RefA (trimC (trimL s) BS) → h = headA s ++ BS ++ trimL s) (d2 : ¬ RefA (trimC (trimL s) BS) → h = s) :
    ¬ RefA (trimL h) ∧
    (∀ x : ByteArray, (RefA (trimC (trimL h) BS) ∧ (trimC (trimL h) BS).size < (trimL h).size → x = headA h ++ (trimL h).extract 1 (trimL h).size) → (¬ (RefA (trimC (trimL h) BS) ∧ (trimC (trimL h) BS).size < (trimL h).size) → x = h) → x = s) ∧
    (RefA (trimL s) → h ≠ s ∧ headA s ++ LL ++ midA (trimL s) ++ GG = s) := by
  obtain ⟨t1, t2, t3, t4, t5⟩ := tail_same s i n hi hr
  have hi0 := hi.1
  have hn0 := hr.1
  have hzi : (s.extract 0 i).size = i := by rw [ByteArray.size_extract]; omega
  have hg : ∀ j : Nat, j < (s.extract 0 i).size → gapB (byteAt (s.extract 0 i) j) := fun j hj => by
    rw [hzi] at hj; rw [byteAt_ext0 s i j hj hi0]; exact hi.2.1 j hj
  have hback : headA s ++ trimL s = s := by rw [t3, t1]; exact split_at s i hi0
  have hline : RefA (trimL s) → RefA (trimC (trimL s) BS) ∧ n = 0 := fun hl => by
    rw [t1] at hl
    have hR := (ref_same name_same _).1 hl
    have hn := slash_none s i n hr hR
    refine ⟨?_, hn⟩
    rw [t2, hn, Nat.add_zero]; exact hl
  by_cases hR : RefA (trimC (trimL s) BS)
  · have he := d1 hR
    have hb92 : ∀ t : ByteArray, byteAt (BS ++ t) (0 : Nat) = 92 := fun t => by rw [byteAt_left BS t 0 (by decide)]; rfl
    have htr : trimL h = BS ++ s.extract i s.size := by
      rw [he, t3, t1, ByteArray.append_assoc]
      exact trimL_app _ _ hg fun _ => by rw [hb92]; unfold gapB; omega
    have hz : (BS ++ s.extract i s.size).size = 1 + (s.size - i) := by rw [size_app, ByteArray.size_extract]; show 1 + _ = _; omega
    have hsz : h.size = s.size + 1 := by rw [he, t3, t1, size_app, size_app, hzi, ByteArray.size_extract]; show i + 1 + _ = _; omega
    have hhead : headA h = s.extract 0 i := by
      unfold headA
      rw [htr, hz, hsz, show (((s.size + 1 : Nat) : Int) - ((1 + (s.size - i) : Nat) : Int)).toNat = i by omega, he, t3, t1, ByteArray.append_assoc]
      have := ext_left (s.extract 0 i) (BS ++ s.extract i s.size)
      rw [hzi] at this
      exact this
    -- the backslashes of what is hidden are one more
    have hrun : RunEnd (BS ++ s.extract i s.size) 0 92 (n + 1) := by
      have hzx : (s.extract i s.size).size = s.size - i := by rw [ByteArray.size_extract]; omega
      refine ⟨by rw [hz]; omega, fun j hj => ?_, fun hlt => ?_⟩
      · rw [Nat.zero_add]
        cases j with
        | zero => exact hb92 _
        | succ j =>
          have := byteAt_right BS (s.extract i s.size) j
          rw [show BS.size + j = j + 1 by show 1 + j = _; omega] at this
          rw [this, byteAt_ext s i j (by omega)]
          exact hr.2.1 j (by omega)
      · rw [Nat.zero_add] at hlt ⊢
        rw [hz] at hlt
        have := byteAt_right BS (s.extract i s.size) n
        rw [show BS.size + n = n + 1 by show 1 + n = _; omega] at this
        rw [this, byteAt_ext s i n (by omega)]
        exact hr.2.2 (by omega)
    have htc : trimC (trimL h) BS = s.extract (i + n) s.size := by
      have := trim_run (BS ++ s.extract i s.size) 0 (n + 1) (Nat.zero_le _) hrun
      rw [ext_all] at this
      rw [htr, this, Nat.zero_add, hz]
      have e1 : (BS ++ s.extract i s.size).extract (n + 1) (1 + (s.size - i)) = ((BS ++ s.extract i s.size).extract BS.size (BS ++ s.extract i s.size).size).extract n (s.size - i) := by
        rw [ByteArray.extract_extract, hz]
        show _ = ByteArray.extract _ (1 + n) _
        rw [show 1 + n = n + 1 by omega, show min (BS.size + (s.size - i)) (1 + (s.size - i)) = 1 + (s.size - i) by show min (1 + (s.size - i)) _ = _; omega]
      rw [e1, ext_right, ByteArray.extract_extract, show min (i + (s.size - i)) s.size = s.size by omega]
    refine ⟨?_, ?_, fun hl => ⟨fun e => by rw [e] at hsz; omega, ?_⟩⟩
    · rw [htr, ref_same name_same]
      intro k
      have := refR_first _ k
      rw [hb92] at this
      omega
    · intro x k1 _
      have hlt : (trimC (trimL h) BS).size < (trimL h).size := by rw [htc, htr, hz, ByteArray.size_extract]; omega
      rw [k1 ⟨by rw [htc, ← t2]; exact hR, hlt⟩, hhead, htr]
      have := ext_right BS (s.extract i s.size)
      have e1 : (BS ++ s.extract i s.size).extract 1 (BS ++ s.extract i s.size).size = s.extract i s.size := this
      rw [e1]; exact split_at s i hi0
    · have hRR := (ref_same name_same _).1 hl
      have h0 := hRR.lo
      have := refR_parts _ hRR
      rw [midA_R _ (by omega)]
      conv => rhs; rw [← hback, ← this]
      simp only [ByteArray.append_assoc]
  · have he := d2 hR
    rw [he]
    refine ⟨fun hl => hR (hline hl).1, fun x _ k2 => k2 fun k => hR k.1, fun hl => absurd (hline hl).1 hR⟩

/-- Each text has a place where its blanks end, and one where its backslashes do. -/
theorem gap_ex (s : ByteArray) : ∃ i, GapEnd s i := by
  have key : ∀ k i : Nat, k = s.size - i → i ≤ s.size → (∀ j : Nat, j < i → gapB (byteAt s j)) → ∃ i, GapEnd s i := by
    intro k
    induction k with
    | zero => exact fun i hk hi hj => ⟨i, hi, hj, fun h => by omega⟩
    | succ k ih =>
      intro i hk hi hj
      by_cases hg : gapB (byteAt s i)
      · exact ih (i + 1) (by omega) (by omega) fun j hj2 => by
          by_cases e : j = i
          · exact e ▸ hg
          · exact hj j (by omega)
      · exact ⟨i, hi, hj, fun _ => hg⟩
  exact key _ 0 rfl (Nat.zero_le _) fun j hj => absurd hj (Nat.not_lt_zero _)
theorem run_ex (s : ByteArray) (i : Nat) (c : Int) (hi : i ≤ s.size) : ∃ n, RunEnd s i c n := by
  have key : ∀ k n : Nat, k = s.size - (i + n) → i + n ≤ s.size → (∀ j : Nat, j < n → byteAt s (i + j : Nat) = c) → ∃ n, RunEnd s i c n := by
    intro k
    induction k with
    | zero => exact fun n hk hn hj => ⟨n, hn, hj, fun h => by omega⟩
    | succ k ih =>
      intro n hk hn hj
      by_cases hg : byteAt s (i + n : Nat) = c
      · exact ih (n + 1) (by omega) (by omega) fun j hj2 => by
          by_cases e : j = n
          · exact e ▸ hg
          · exact hj j (by omega)
      · exact ⟨n, hn, hj, fun _ => hg⟩
  exact key _ 0 rfl (by omega) fun j hj => absurd hj (Nat.not_lt_zero _)
end Go.Proofs.YtaelmnkddedddaaDoor.Ev
