/-
  Marks in plain words, second part: what the two readers find; numerals that are written digit by digit, and read so.
-/
import Derived.Test.YtllokljpacpafaaDoorEvMarkP
namespace Go.Proofs.YtllokljpacpafaaDoor.Ev
set_option linter.unusedVariables false
set_option linter.unusedSimpArgs false
open Go

theorem found_all {s style body x1 x2 : ByteArray} {ok is : Bool} {i : Nat} {kd ix : Int} (hi : GapEnd s i) (hc : CutAt (s.extract i s.size) style body) (k1 : PrefB body (aheadB kd) → x1 = body.extract (aheadB kd).size body.size ∧ ok = true)
    (k3 : SufB x1 (behindB kd) → x2 = x1.extract 0 (x1.size - (behindB kd).size) ∧ is = true) (hix : ix = Lib.lastIndex x2.data.toList (betwB kd).data.toList) :
    ∀ m, RightM m → lineM m = s → m.kind = kd → ok = true ∧ is = true ∧ ix = m.nam.size ∧ x2.extract 0 m.nam.size = m.nam ∧ x2.extract (m.nam.size + 1) x2.size = itoaB m.num ∧ s.extract 0 i = m.ind ∧ style = m.sty := by
  intro m hr hl hk
  subst hk
  obtain ⟨e1, e2, e3⟩ := found_head hi hc hr hl
  obtain ⟨f1, f2, f3, f4, f5, f6⟩ := found_tail hr e3 k1 k3
  exact ⟨f1, f2, hix.trans f3, f4, f5, e1.symm, e2.symm⟩
theorem ahead_le (k : Int) : (aheadB k).size ≤ 2 := by unfold aheadB; (repeat' split) <;> decide
theorem behind_le (k : Int) : (behindB k).size ≤ 2 := by unfold behindB; (repeat' split) <;> decide
theorem betw_1 (k : Int) : (betwB k).size = 1 := rfl
theorem sz_sp : (⟨#[32]⟩ : ByteArray).size = 1 := rfl

/-! ### What a mark's text is -/
def TextOf (m : Mk) (t : ByteArray) : Prop := (RightM m → t = lineM m) ∧ (¬ RightM m → t = ⟨#[]⟩)
theorem line_size (m : Mk) : (lineM m).size = m.ind.size + m.sty.size + 1 + (aheadB m.kind).size + m.nam.size + 1 + (itoaB m.num).size + (behindB m.kind).size := by
  unfold lineM
  simp only [size_app]
  rfl
theorem line_ne (m : Mk) : lineM m ≠ ⟨#[]⟩ := fun e => by
  have := congrArg ByteArray.size e
  rw [line_size] at this
  have h0 : (⟨#[]⟩ : ByteArray).size = 0 := rfl
  omega
theorem TextOf.unique {m : Mk} {t u : ByteArray} (h : TextOf m t) (k : TextOf m u) : t = u := by
  by_cases hr : RightM m
  · rw [h.1 hr, k.1 hr]
  · rw [h.2 hr, k.2 hr]
theorem TextOf.ne {m : Mk} {t : ByteArray} (h : TextOf m t) : t ≠ ⟨#[]⟩ ↔ RightM m := by
  by_cases hr : RightM m
  · rw [h.1 hr]; exact ⟨fun _ => hr, fun _ => line_ne m⟩
  · rw [h.2 hr]; exact ⟨fun k => absurd rfl k, fun k => absurd k hr⟩
theorem TextOf.size {m : Mk} {t : ByteArray} (h : TextOf m t) : t.size ≤ m.ind.size + 100 := by
  by_cases hr : RightM m
  · rw [h.1 hr, line_size]
    have h1 := hr.sty.2.1
    have h2 := hr.nam.hi
    have h3 := itoaB_len hr.num0 hr.hi
    have h4 := ahead_le m.kind
    have h5 := behind_le m.kind
    omega
  · rw [h.2 hr]; exact Nat.zero_le _
theorem app_nil (x : ByteArray) : x ++ ⟨#[]⟩ = x := ba_ext (by rw [app_list]; exact List.append_nil _)
theorem line1 {m : Mk} (h : m.kind = 1) : lineM m = m.ind ++ m.sty ++ ⟨#[32]⟩ ++ ⟨#[91, 91]⟩ ++ m.nam ++ ⟨#[35]⟩ ++ itoaB m.num := by
  unfold lineM
  rw [h]
  show _ ++ (⟨#[]⟩ : ByteArray) = _
  rw [app_nil]
  rfl
theorem line2 {m : Mk} (h : m.kind = 2) : lineM m = m.ind ++ m.sty ++ ⟨#[32]⟩ ++ m.nam ++ ⟨#[35]⟩ ++ itoaB m.num ++ ⟨#[93, 93]⟩ := by
  unfold lineM
  rw [h]
  show m.ind ++ m.sty ++ SPB ++ (⟨#[]⟩ : ByteArray) ++ _ ++ _ ++ _ ++ _ = _
  rw [app_nil]
  rfl
theorem line3 {m : Mk} (h : m.kind = 3) : lineM m = m.ind ++ m.sty ++ ⟨#[32]⟩ ++ ⟨#[64, 91]⟩ ++ m.nam ++ ⟨#[58]⟩ ++ itoaB m.num ++ ⟨#[93]⟩ := by
  unfold lineM
  rw [h]
  rfl

/-! ### A numeral, digit by digit -/
def digs (u : Int) : List UInt8 := if u = 0 then [] else Lib.decDigits u.toNat
def NumInv (n u : Int) (q : ByteArray) : Prop := (q = ⟨#[]⟩ ∧ u = n) ∨ (q ≠ ⟨#[]⟩ ∧ digs u ++ q.data.toList = Lib.decDigits n.toNat)
def DIGS : ByteArray := ⟨#[48, 49, 50, 51, 52, 53, 54, 55, 56, 57]⟩
theorem dig_one (d : Nat) (h : d < 10) : (DIGS.extract d (d + 1)).data.toList = [UInt8.ofNat (48 + d)] := by
  have : ∀ d : Fin 10, (DIGS.extract d.val (d.val + 1)).data.toList = [UInt8.ofNat (48 + d.val)] := by decide +kernel
  exact this ⟨d, h⟩
theorem digs_step (u : Int) (h : 0 ≤ u) : digs (u / 10) ++ [UInt8.ofNat (48 + u.toNat % 10)] = Lib.decDigits u.toNat := by
  unfold digs
  by_cases h1 : u / 10 = 0
  · rw [if_pos h1, Lib.decDigits, dif_pos (by omega), show u.toNat % 10 = u.toNat by omega]; rfl
  · rw [if_neg h1]
    conv => rhs; rw [Lib.decDigits]
    rw [dif_neg (by omega), show (u / 10).toNat = u.toNat / 10 by omega]
theorem num_step {n u : Int} {q : ByteArray} (h : NumInv n u q) (h0 : 0 ≤ u) (hq : 0 < u ∨ q = ⟨#[]⟩) : NumInv n (u / 10) (DIGS.extract (u % 10).toNat (u % 10 + 1).toNat ++ q) := by
  have hd : (DIGS.extract (u % 10).toNat (u % 10 + 1).toNat).data.toList = [UInt8.ofNat (48 + u.toNat % 10)] := by
    rw [show (u % 10).toNat = u.toNat % 10 by omega, show (u % 10 + 1).toNat = u.toNat % 10 + 1 by omega]
    exact dig_one _ (by omega)
  refine .inr ⟨fun e => ?_, ?_⟩
  · have := congrArg (fun x : ByteArray => x.data.toList) e
    have this : (DIGS.extract (u % 10).toNat (u % 10 + 1).toNat ++ q).data.toList = [] := this
    rw [app_list, hd] at this
    cases this
  · rw [app_list, hd, ← List.append_assoc, digs_step u h0]
    rcases h with ⟨rfl, rfl⟩ | ⟨h1, h2⟩
    · exact List.append_nil _
    · have hu : 0 < u := by
        rcases hq with hq | hq
        · exact hq
        · exact absurd hq h1
      unfold digs at h2
      rw [if_neg (by omega)] at h2
      exact h2
theorem num_end2 {n : Int} {q : ByteArray} (hn : 0 ≤ n) (h : NumInv n 0 q) (hq : q ≠ ⟨#[]⟩) : q = itoaB n := by
  rcases h with ⟨h1, _⟩ | ⟨_, h2⟩
  · exact absurd h1 hq
  · refine ba_ext ?_
    rw [itoaB_list n hn, ← h2]
    rfl
theorem num_size {n u : Int} {q : ByteArray} (hn : 0 ≤ n ∧ n ≤ 1000000) (h : NumInv n u q) : q.size ≤ 7 := by
  rcases h with ⟨rfl, _⟩ | ⟨_, h2⟩
  · exact Nat.zero_le _
  · have := dec_len n.toNat (by omega)
    rw [← h2, List.length_append, len_list] at this
    omega

/-! ### A name and a number, by the last sign -/
def SplitOk (s : ByteArray) (c : Nat) (nm : ByteArray) (n : Int) (b : Bool) : Prop := ∀ (A : ByteArray) (u : Int), 0 ≤ u → u ≤ 1000000 → s.data.toList = A.data.toList ++ UInt8.ofNat c :: (itoaB u).data.toList → nm = A ∧ n = u ∧ b = true
theorem byteAt_Int (s : ByteArray) (q : Int) (h0 : 0 ≤ q) : byteAt s q = byteAt s (q.toNat : Nat) := by
  rw [Int.toNat_of_nonneg h0]
theorem byte_list {s : ByteArray} {j : Nat} {b : UInt8} (h : s.data.toList[j]? = some b) : byteAt s (j : Nat) = (b.toNat : Int) := byteAt_list s j b h
theorem last_pos {s A : ByteArray} {c : Nat} (hc : c < 256) (hd : ¬ (48 ≤ c ∧ c ≤ 57)) {u : Int} (h0 : 0 ≤ u) (hl : s.data.toList = A.data.toList ++ UInt8.ofNat c :: (itoaB u).data.toList) {q : Int} (hq1 : -1 ≤ q) (hq2 : q < s.size)
    (hall : ∀ j : Nat, q < j → j < s.size → byteAt s (j : Nat) ≠ c) (hq : q < 0 ∨ byteAt s q = c) : q = A.size := by
  have hcn : (UInt8.ofNat c).toNat = c := by rw [UInt8.toNat_ofNat']; omega
  have hA : s.data.toList[A.size]? = some (UInt8.ofNat c) := by
    rw [hl, List.getElem?_append_right (by rw [len_list]; exact Nat.le_refl _), len_list, Nat.sub_self]; rfl
  have hAs : A.size < s.size := by have := (List.getElem?_eq_some_iff.1 hA).1; rwa [len_list] at this
  have hAb : byteAt s (A.size : Nat) = c := by rw [byte_list hA, hcn]
  rcases Int.lt_trichotomy q A.size with h | h | h
  · exact absurd hAb (hall A.size h hAs)
  · exact h
  · exfalso
    have hqb : byteAt s q = c := by rcases hq with hq | hq; omega; exact hq
    obtain ⟨q, rfl⟩ := Int.eq_ofNat_of_zero_le (show 0 ≤ q by omega)
    obtain ⟨bq, hg, e⟩ := byteAt_some s q (by omega)
    rw [hl, List.getElem?_append_right (by rw [len_list]; omega), len_list] at hg
    obtain ⟨k, hk⟩ : ∃ k, q - A.size = k + 1 := ⟨q - A.size - 1, by omega⟩
    rw [hk, List.getElem?_cons_succ] at hg
    have hm := itoaB_dig h0 _ (List.mem_of_getElem? hg)
    unfold digU at hm
    have e2 : byteAt s (q : Nat) = c := hqb
    rw [e2] at e
    omega
def decP (s : ByteArray) (a j : Nat) : Option Nat := Lib.decFrom 0 ((s.data.toList.drop a).take (j - a))
theorem decP_start (s : ByteArray) (a : Nat) : decP s a a = some 0 := by unfold decP; rw [Nat.sub_self]; rfl
theorem decP_step {s : ByteArray} {a j u : Nat} (ha : a ≤ j) (hj : j < s.size) (h : decP s a j = some u) (hd : 48 ≤ byteAt s (j : Nat) ∧ byteAt s (j : Nat) ≤ 57) : decP s a (j + 1) = some (u * 10 + (byteAt s (j : Nat) - 48).toNat) := by
  obtain ⟨b, hb, e⟩ := byteAt_some s j hj
  unfold decP at *
  rw [show j + 1 - a = (j - a) + 1 by omega]
  have := Lib.decFrom_take (s.data.toList.drop a) (j - a) 0 u b (b.toNat - 48) h (by rw [List.getElem?_drop, show a + (j - a) = j by omega]; exact hb) (by unfold Lib.digitVal; rw [if_pos (by omega)])
  rw [this, e]
  congr 1; congr 1; omega
theorem decP_lt {s : ByteArray} {a j u : Nat} (h : decP s a j = some u) (hj : j - a ≤ 7) : u < 10000000 := by
  unfold decP at h
  have := Lib.decFrom_lt _ 0 u h
  have hl : ((s.data.toList.drop a).take (j - a)).length ≤ 7 := by rw [List.length_take]; omega
  have hp : 10 ^ ((s.data.toList.drop a).take (j - a)).length ≤ 10 ^ 7 := Nat.pow_le_pow_right (by decide) hl
  omega
theorem split_end {s A : ByteArray} {c : Nat} {u : Int} {v : Nat} (h0 : 0 ≤ u) (hl : s.data.toList = A.data.toList ++ UInt8.ofNat c :: (itoaB u).data.toList) (h : decP s (A.size + 1) s.size = some v) : s.extract 0 A.size = A ∧ (v : Int) = u := by
  obtain ⟨m1, m2⟩ := ext_mid s _ _ _ hl
  rw [len_list] at m1
  refine ⟨ba_ext m1, ?_⟩
  have hd : s.data.toList.drop (A.size + 1) = (itoaB u).data.toList := by
    rw [hl, ← len_list A, List.drop_append]
    simp
  unfold decP at h
  rw [hd, List.take_of_length_le (by rw [← hd, List.length_drop, len_list]; exact Nat.le_refl _), itoaB_list u h0, dec_back] at h
  cases h
  omega
theorem split_digit {s A : ByteArray} {c : Nat} {u : Int} (h0 : 0 ≤ u) (hl : s.data.toList = A.data.toList ++ UInt8.ofNat c :: (itoaB u).data.toList) {j : Nat} (h1 : A.size < j) (h2 : j < s.size) : 48 ≤ byteAt s (j : Nat) ∧ byteAt s (j : Nat) ≤ 57 := by
  obtain ⟨b, hb, e⟩ := byteAt_some s j h2
  rw [hl, List.getElem?_append_right (by rw [len_list]; omega), len_list] at hb
  obtain ⟨k, hk⟩ : ∃ k, j - A.size = k + 1 := ⟨j - A.size - 1, by omega⟩
  rw [hk, List.getElem?_cons_succ] at hb
  have hm := itoaB_dig h0 _ (List.mem_of_getElem? hb)
  unfold digU at hm
  omega
theorem split_size {s A : ByteArray} {c : Nat} {u : Int} (h0 : 0 ≤ u) (h1 : u ≤ 1000000) (hl : s.data.toList = A.data.toList ++ UInt8.ofNat c :: (itoaB u).data.toList) : s.size ≤ A.size + 8 ∧ A.size < s.size := by
  have := congrArg List.length hl
  simp only [List.length_append, List.length_cons, len_list] at this
  have := itoaB_len h0 h1
  omega

/-! ### The reference's reader -/
theorem cut_mid {s : ByteArray} {i q : Nat} (hi : i ≤ q) (hq : q < s.size) (hall : ∀ j : Nat, i ≤ j → j < q → byteAt s (j : Nat) ≠ 32) (h : byteAt s (q : Nat) = 32) : CutAt (s.extract i s.size) (s.extract i q) (s.extract (q + 1) s.size) := by
  refine .inl ⟨?_, fun j hj => ?_⟩
  · have hsp : s.extract q (q + 1) = SPB := by
      refine ba_ext ?_
      obtain ⟨b, hb, e⟩ := byteAt_some s q hq
      have hb32 : b = 32 := u8_eq b 32 (by decide) (by rw [← e, h]; rfl)
      subst hb32
      rw [ByteArray.data_extract, Array.toList_extract, List.extract_eq_take_drop, show q + 1 - q = 1 by omega]
      have hlt : q < s.data.toList.length := by rw [len_list]; exact hq
      rw [List.drop_eq_getElem_cons hlt]
      rw [List.getElem?_eq_getElem hlt] at hb
      simp only [List.take_succ_cons, List.take_zero]
      rw [Option.some.inj hb]
    rw [← hsp, ByteArray.extract_append_extract, Nat.min_eq_left (by omega), Nat.max_eq_right (by omega), ByteArray.extract_append_extract, Nat.min_eq_left (by omega), Nat.max_eq_right (by omega)]
  · rw [ByteArray.size_extract] at hj
    have e : byteAt (s.extract i q) (j : Nat) = byteAt s (i + j : Nat) := by
      rw [← byteAt_ext]
      have e2 : s.extract i q = (s.extract i s.size).extract 0 (q - i) := by
        rw [ByteArray.extract_extract]
        congr 1 <;> omega
      rw [e2, byteAt_ext0 _ _ _ (by omega) (by rw [ByteArray.size_extract]; omega)]
    rw [e]
    exact hall (i + j) (by omega) (by omega)
theorem no_mark {s : ByteArray} {i : Nat} (hi : GapEnd s i) (hall : ∀ j : Nat, i ≤ j → j < s.size → byteAt s (j : Nat) ≠ 32) : ∀ m, RightM m → lineM m = s → False := by
  intro m hr hl
  have hc : CutAt (s.extract i s.size) (s.extract i s.size) ⟨#[]⟩ := .inr ⟨rfl, rfl, fun j hj => by
    rw [byteAt_ext]
    rw [ByteArray.size_extract] at hj
    exact hall (i + j) (by omega) (by omega)⟩
  obtain ⟨_, _, e⟩ := found_head hi hc hr hl
  have := congrArg List.length e
  unfold bodyL at this
  simp only [List.length_append, List.length_cons] at this
  exact absurd this (by show ¬ 0 = _; omega)
theorem ext_take (t : ByteArray) (A D : List UInt8) (h : t.data.toList = A ++ D) : (t.extract 0 A.length).data.toList = A ∧ (t.extract A.length t.size).data.toList = D := by
  have e1 : t = ⟨A.toArray⟩ ++ ⟨D.toArray⟩ := ba_ext (by rw [app_list, h])
  have hs : A.length = (⟨A.toArray⟩ : ByteArray).size := rfl
  rw [hs, e1, ext_left, ext_right]
  exact ⟨rfl, rfl⟩
theorem ext_mid3 (t : ByteArray) (A D E : List UInt8) (h : t.data.toList = A ++ (D ++ E)) : (t.extract A.length (t.size - E.length)).data.toList = D := by
  have hsz : t.size = A.length + (D.length + E.length) := by rw [← len_list, h]; simp
  rw [ByteArray.data_extract, Array.toList_extract, List.extract_eq_take_drop, h, List.drop_left, show t.size - E.length - A.length = D.length by omega, List.take_left]
structure Inner (m : Mk) (x : ByteArray) : Prop where
  eq : x.data.toList = m.nam.data.toList ++ betwC m.kind :: (itoaB m.num).data.toList
theorem body_facts {t : ByteArray} {m : Mk} (h : RightM m) (e : t.data.toList = bodyL m) :
    (m.kind = 3 ∧ 3 < t.size ∧ t.extract 0 2 = ⟨#[64, 91]⟩ ∧ byteAt t (t.size - 1 : Nat) = 93 ∧ Inner m (t.extract 2 (t.size - 1))) ∨
    (m.kind = 1 ∧ 2 < t.size ∧ t.extract 0 2 = ⟨#[91, 91]⟩ ∧ Inner m (t.extract 2 t.size)) ∨
    (m.kind = 2 ∧ 2 < t.size ∧ t.extract 0 2 ≠ ⟨#[64, 91]⟩ ∧ t.extract 0 2 ≠ ⟨#[91, 91]⟩ ∧ t.extract (t.size - 2) t.size = ⟨#[93, 93]⟩ ∧ Inner m (t.extract 0 (t.size - 2))) := by
  have hsz : t.size = (bodyL m).length := by rw [← len_list, e]
  have hn := h.nam.lo
  have hu := itoaB_len h.num0 h.hi
  unfold bodyL at e hsz
  rcases kind_cases h with hk | hk | hk
  · rw [hk] at e hsz
    have e2 : t.data.toList = [91, 91] ++ (m.nam.data.toList ++ (35 :: (itoaB m.num).data.toList)) := by rw [e]; show [91, 91] ++ (m.nam.data.toList ++ 35 :: ((itoaB m.num).data.toList ++ [])) = _; rw [List.append_nil]
    have hs2 : t.size = m.nam.size + (itoaB m.num).size + 3 := by rw [← len_list, e2]; simp only [List.length_append, List.length_cons, List.length_nil, len_list]; omega
    obtain ⟨x1, x2⟩ := ext_take t _ _ e2
    exact .inr (.inl ⟨hk, by omega, ba_ext x1, ⟨by rw [hk]; exact x2⟩⟩)
  · rw [hk] at e hsz
    have e2 : t.data.toList = (m.nam.data.toList ++ (35 :: (itoaB m.num).data.toList)) ++ [93, 93] := by rw [e]; show [] ++ (m.nam.data.toList ++ 35 :: ((itoaB m.num).data.toList ++ [93, 93])) = _; simp
    have hs2 : t.size = m.nam.size + (itoaB m.num).size + 3 := by rw [← len_list, e2]; simp only [List.length_append, List.length_cons, List.length_nil, len_list]; omega
    have hl : (m.nam.data.toList ++ (35 :: (itoaB m.num).data.toList)).length = t.size - 2 := by simp only [List.length_append, List.length_cons, len_list]; omega
    obtain ⟨x1, x2⟩ := ext_take t _ _ e2
    rw [hl] at x1 x2
    have key : ∀ a : UInt8, t.extract 0 2 ≠ ⟨#[a, 91]⟩ := by
      intro a ha
      have h2 : t.data.toList = [a, 91] ++ t.data.toList.drop 2 := by
        have h3 : t.data.toList.take 2 = [a, 91] := by
          have := congrArg (fun x : ByteArray => x.data.toList) ha
          have this : (t.extract 0 2).data.toList = [a, 91] := this
          rw [ByteArray.data_extract, Array.toList_extract, List.extract_eq_take_drop] at this
          simpa using this
        rw [← h3, List.take_append_drop]
      rw [e2, List.append_assoc] at h2
      cases hx : m.nam.data.toList with
      | nil => exact name_ne h.nam hx
      | cons b r =>
        rw [hx] at h2
        cases r with
        | nil =>
          have h2 : b :: (35 : UInt8) :: _ = a :: 91 :: _ := h2
          exact absurd (List.cons.inj (List.cons.inj h2).2).1 (by decide)
        | cons c r =>
          have h2 : b :: c :: _ = a :: (91 : UInt8) :: _ := h2
          exact name_no m h 91 (by unfold badB; decide) c (by rw [hx]; simp) (List.cons.inj (List.cons.inj h2).2).1
    exact .inr (.inr ⟨hk, by omega, key 64, key 91, ba_ext x2, ⟨by rw [hk]; exact x1⟩⟩)
  · rw [hk] at e hsz
    have e2 : t.data.toList = [64, 91] ++ ((m.nam.data.toList ++ (58 :: (itoaB m.num).data.toList)) ++ [93]) := by rw [e]; show [64, 91] ++ (m.nam.data.toList ++ 58 :: ((itoaB m.num).data.toList ++ [93])) = _; simp
    have hs2 : t.size = m.nam.size + (itoaB m.num).size + 4 := by rw [← len_list, e2]; simp only [List.length_append, List.length_cons, List.length_nil, len_list]; omega
    obtain ⟨x1, x2⟩ := ext_take t _ _ e2
    have x3 := ext_mid3 t _ _ _ e2
    refine .inl ⟨hk, by omega, ba_ext x1, ?_, ⟨by rw [hk]; exact x3⟩⟩
    have hg : t.data.toList[t.size - 1]? = some 93 := by
      rw [e2, List.getElem?_append_right (by simp; omega), List.getElem?_append_right (by simp only [List.length_append, List.length_cons, List.length_nil, len_list]; omega)]
      rw [show t.size - 1 - [(64 : UInt8), 91].length - (m.nam.data.toList ++ 58 :: (itoaB m.num).data.toList).length = 0 by simp only [List.length_append, List.length_cons, List.length_nil, len_list]; omega]
      rfl
    rw [byte_list hg]; rfl
end Go.Proofs.YtllokljpacpafaaDoor.Ev
