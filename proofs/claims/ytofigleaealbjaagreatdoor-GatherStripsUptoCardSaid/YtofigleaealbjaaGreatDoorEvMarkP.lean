/-
  Marks in plain words: what a mark may be, how it is written; that no two are one line; what a reader finds.
-/
import Derived.Test.YtofigleaealbjaaGreatDoorEvName
import Derived.Lib.ItoaNum
import Derived.Lib.ItoaMem
import Derived.Lib.AtoiTie
import Derived.Lib.LastIndexLaws
namespace Go.Proofs.YtofigleaealbjaaGreatDoor.Ev
set_option linter.unusedVariables false
set_option linter.unusedSimpArgs false
open Go

structure Mk where
  kind : Int
  ind : ByteArray
  sty : ByteArray
  nam : ByteArray
  num : Int
def Mk.cells (m : Mk) : Array Value := #[.int .i64 m.kind, .string m.ind, .string m.sty, .string m.nam, .int .i64 m.num]
def Mk.v (m : Mk) : Value := .agg m.cells
def zeroM : Mk := ⟨0, ⟨#[]⟩, ⟨#[]⟩, ⟨#[]⟩, 0⟩
def StyleM (s : ByteArray) : Prop := 1 ≤ s.size ∧ s.size ≤ 4 ∧ ∀ j : Nat, j < s.size → 33 ≤ byteAt s (j : Nat) ∧ byteAt s (j : Nat) ≤ 126
def noB (s : ByteArray) (c : Int) : Prop := ∀ j : Nat, j < s.size → byteAt s (j : Nat) ≠ c
def leastM (k : Int) : Int := if k = 3 then 1 else 0
structure RightM (m : Mk) : Prop where
  k1 : 1 ≤ m.kind
  k3 : m.kind ≤ 3
  ind : ∀ j : Nat, j < m.ind.size → gapB (byteAt m.ind (j : Nat))
  sty : StyleM m.sty
  nam : NameA m.nam
  path : m.kind = 3 → noB m.nam 58
  lo : leastM m.kind ≤ m.num
  hi : m.num ≤ 1000000
theorem RightM.num0 {m : Mk} (h : RightM m) : 0 ≤ m.num := by
  have := h.lo
  unfold leastM at this
  split at this <;> omega
def aheadB (k : Int) : ByteArray := if k = 1 then ⟨#[91, 91]⟩ else if k = 2 then ⟨#[]⟩ else ⟨#[64, 91]⟩
def betwC (k : Int) : UInt8 := if k = 1 ∨ k = 2 then 35 else 58
def betwB (k : Int) : ByteArray := ⟨#[betwC k]⟩
def behindB (k : Int) : ByteArray := if k = 1 then ⟨#[]⟩ else if k = 2 then ⟨#[93, 93]⟩ else ⟨#[93]⟩
def itoaB (n : Int) : ByteArray := ⟨(Lib.itoa n).toArray⟩
abbrev SPB : ByteArray := ⟨#[32]⟩
def lineM (m : Mk) : ByteArray := m.ind ++ m.sty ++ SPB ++ aheadB m.kind ++ m.nam ++ betwB m.kind ++ itoaB m.num ++ behindB m.kind

/-! ### Lists of bytes -/
theorem span_unique (p : UInt8 → Prop) : ∀ (I I' X X' : List UInt8), (∀ b, b ∈ I → p b) → (∀ b, b ∈ I' → p b) → (∀ b, X.head? = some b → ¬ p b) → (∀ b, X'.head? = some b → ¬ p b) → I ++ X = I' ++ X' → I = I' ∧ X = X'
  | [], [], X, X', _, _, _, _, h => ⟨rfl, h⟩
  | [], a :: I', X, X', _, h2, h3, _, h => by
    rw [List.nil_append] at h
    exact absurd (h2 a (by simp)) (h3 a (by rw [h]; rfl))
  | a :: I, [], X, X', h1, _, _, h4, h => by
    rw [List.nil_append] at h
    exact absurd (h1 a (by simp)) (h4 a (by rw [← h]; rfl))
  | a :: I, b :: I', X, X', h1, h2, h3, h4, h => by
    simp only [List.cons_append, List.cons.injEq] at h
    obtain ⟨rfl, h⟩ := h
    obtain ⟨e1, e2⟩ := span_unique p I I' X X' (fun x hx => h1 x (by simp [hx])) (fun x hx => h2 x (by simp [hx])) h3 h4 h
    exact ⟨by rw [e1], e2⟩
theorem ba_ext {a b : ByteArray} (h : a.data.toList = b.data.toList) : a = b := ByteArray.ext (Array.toList_inj.1 h)
theorem app_list (a b : ByteArray) : (a ++ b).data.toList = a.data.toList ++ b.data.toList := by rw [ByteArray.data_append, Array.toList_append]
theorem len_list (a : ByteArray) : a.data.toList.length = a.size := by simp
theorem mem_byte {s : ByteArray} {b : UInt8} (h : b ∈ s.data.toList) : ∃ j : Nat, j < s.size ∧ byteAt s (j : Nat) = (b.toNat : Int) := by
  obtain ⟨j, hj⟩ := List.getElem?_of_mem h
  exact ⟨j, by have := (List.getElem?_eq_some_iff.1 hj).1; simpa using this, byteAt_list s j b hj⟩
theorem byte_mem {s : ByteArray} {j : Nat} (h : j < s.size) : ∃ b : UInt8, b ∈ s.data.toList ∧ byteAt s (j : Nat) = (b.toNat : Int) := by
  obtain ⟨b, h1, h2⟩ := byteAt_some s j h
  exact ⟨b, List.mem_of_getElem? h1, h2⟩

/-! ### Names have no signs -/
theorem enc_high (r : Nat) (h : 128 ≤ r) : ∀ b : UInt8, b ∈ Lib.encodeRune (r : Int) → 128 ≤ b.toNat := by
  intro b hb
  unfold Lib.encodeRune at hb
  obtain ⟨x, hx, rfl⟩ := List.mem_map.1 hb
  have hx2 : 128 ≤ x ∧ x < 256 := by
    have h256 := Lib.encodeRuneZ_byte (r : Int) x hx
    refine ⟨?_, h256.2⟩
    by_cases h1 : r ≤ 2047
    · rw [Lib.encodeRuneZ_two (by omega) (by omega)] at hx
      simp only [List.mem_cons, List.not_mem_nil, or_false] at hx
      omega
    by_cases h2 : (2048 ≤ r ∧ r < 55296) ∨ (57343 < r ∧ r ≤ 65535)
    · rw [Lib.encodeRuneZ_three (by omega)] at hx
      simp only [List.mem_cons, List.not_mem_nil, or_false] at hx
      omega
    by_cases h3 : 65536 ≤ r ∧ r ≤ 1114111
    · rw [Lib.encodeRuneZ_four (by omega) (by omega)] at hx
      simp only [List.mem_cons, List.not_mem_nil, or_false] at hx
      omega
    · rw [Lib.encodeRuneZ_bad (by omega)] at hx
      simp only [List.mem_cons, List.not_mem_nil, or_false] at hx
      omega
  rw [show x.toNat.toUInt8 = UInt8.ofNat x.toNat from rfl, UInt8.toNat_ofNat']
  omega
theorem name_mem {s : ByteArray} (h : NameA s) {b : UInt8} (hb : b ∈ s.data.toList) : ¬ badB (b.toNat : Int) := by
  have hv := (valid_back s).1 h.valid
  have e : (encF (runes s) .empty).data.toList = s.data.toList := congrArg (fun x : ByteArray => x.data.toList) hv
  rw [encF_data] at e
  rw [← e] at hb
  simp only [List.mem_append, List.mem_flatMap] at hb
  rcases hb with hb | ⟨r, hr, hb⟩
  · exact absurd hb (by show ¬ b ∈ ([] : List UInt8); simp)
  by_cases h1 : 128 ≤ r
  · have := enc_high r h1 b hb
    unfold badB; omega
  · unfold Lib.encodeRune at hb
    rw [Lib.encodeRuneZ_one (by omega) (by omega)] at hb
    simp only [List.map_cons, List.map_nil, List.mem_cons, List.not_mem_nil, or_false] at hb
    have hg := ((good_iff r).1 (h.all r hr)).2
    subst hb
    have : ((r : Int).toNat.toUInt8).toNat = r := by rw [show (r : Int).toNat.toUInt8 = UInt8.ofNat r from rfl, UInt8.toNat_ofNat']; omega
    rw [this]; exact hg
theorem name_ne {s : ByteArray} (h : NameA s) : s.data.toList ≠ [] := fun e => by have := h.lo; rw [← len_list, e] at this; exact absurd this (by decide)

/-! ### Numerals -/
def digU (b : UInt8) : Prop := 48 ≤ b.toNat ∧ b.toNat ≤ 57
theorem ofNat_dig (d : Nat) (h : d < 10) : (UInt8.ofNat (48 + d)).toNat = 48 + d := by rw [UInt8.toNat_ofNat']; omega
theorem dec_dig (u : Nat) : ∀ b, b ∈ Lib.decDigits u → digU b := by
  induction u using Nat.strongRecOn with
  | _ u ih =>
    intro b hb
    rw [Lib.decDigits] at hb
    split at hb
    · simp only [List.mem_cons, List.not_mem_nil, or_false] at hb
      subst hb
      unfold digU; rw [ofNat_dig _ (by omega)]; omega
    · rcases List.mem_append.1 hb with hb | hb
      · exact ih (u / 10) (by omega) b hb
      · simp only [List.mem_cons, List.not_mem_nil, or_false] at hb
        subst hb
        unfold digU; rw [ofNat_dig _ (by omega)]; omega
theorem nDigits_le : ∀ (k u : Nat), u < 10 ^ (k + 1) → Lib.nDigits u ≤ k + 1
  | 0, u, h => by rw [Lib.nDigits_small (by simpa using h)]; exact Nat.le_refl _
  | k + 1, u, h => by
    by_cases h1 : u < 10
    · rw [Lib.nDigits_small h1]; omega
    · rw [Lib.nDigits_big h1]
      have := nDigits_le k (u / 10) (by rw [Nat.pow_succ] at h; omega)
      omega
theorem dec_len (u : Nat) (h : u ≤ 1000000) : 1 ≤ (Lib.decDigits u).length ∧ (Lib.decDigits u).length ≤ 7 := by
  rw [Lib.decDigits_length]
  exact ⟨Lib.nDigits_pos u, nDigits_le 6 u (by omega)⟩
theorem decFrom_app : ∀ (l r : List UInt8) (acc : Nat), Lib.decFrom acc (l ++ r) = (Lib.decFrom acc l).bind fun n => Lib.decFrom n r
  | [], r, acc => rfl
  | b :: l, r, acc => by
    simp only [List.cons_append, Lib.decFrom]
    cases Lib.digitVal b with
    | none => rfl
    | some d => exact decFrom_app l r _
theorem dec_back (u : Nat) : Lib.decFrom 0 (Lib.decDigits u) = some u := by
  induction u using Nat.strongRecOn with
  | _ u ih =>
    rw [Lib.decDigits]
    split
    · rename_i h
      simp only [Lib.decFrom, Lib.digitVal, ofNat_dig u h]
      rw [if_pos (by omega)]
      simp only [Lib.decFrom]
      congr 1; omega
    · rename_i h
      rw [decFrom_app, ih (u / 10) (by omega)]
      simp only [Option.bind_some, Lib.decFrom, Lib.digitVal, ofNat_dig (u % 10) (by omega)]
      rw [if_pos (by omega)]
      simp only [Lib.decFrom]
      congr 1; omega
theorem itoaB_list (n : Int) (h : 0 ≤ n) : (itoaB n).data.toList = Lib.decDigits n.toNat := by
  show Lib.itoa n = _
  obtain ⟨u, rfl⟩ := Int.eq_ofNat_of_zero_le h
  rw [Lib.itoa_nonneg]; rfl
theorem itoaB_dig {n : Int} (h : 0 ≤ n) : ∀ b, b ∈ (itoaB n).data.toList → digU b := by rw [itoaB_list n h]; exact dec_dig _
theorem itoaB_len {n : Int} (h : 0 ≤ n) (h2 : n ≤ 1000000) : 1 ≤ (itoaB n).size ∧ (itoaB n).size ≤ 7 := by
  rw [← len_list, itoaB_list n h]; exact dec_len _ (by omega)
theorem atoi_itoa {n : Int} (h : 0 ≤ n) (h2 : n ≤ 1000000) : Lib.atoiAll (itoaB n).data.toList = .ok n := by
  rw [itoaB_list n h, Lib.atoiAll_short _ (by have := dec_len n.toNat (by omega); omega)]
  have hd := dec_dig n.toNat
  have hb := dec_back n.toNat
  have hl := (dec_len n.toNat (by omega)).1
  generalize Lib.decDigits n.toNat = l at hd hb hl
  cases l with
  | nil => exact absurd hl (by decide)
  | cons b r =>
    have h1 := hd b (by simp)
    have h45 : ¬ b = 45 := fun e => by subst e; unfold digU at h1; exact absurd h1.1 (by decide)
    have h43 : ¬ b = 43 := fun e => by subst e; unfold digU at h1; exact absurd h1.1 (by decide)
    simp only [Lib.atoi, beq_iff_eq, h45, h43, if_false, Lib.decNat, List.isEmpty_cons, Bool.false_eq_true, hb, Option.map_some, Lib.NumEnd.ofOption]
    congr 1; omega
theorem itoaB_inj {n m : Int} (h : 0 ≤ n) (h2 : n ≤ 1000000) (k : 0 ≤ m) (k2 : m ≤ 1000000) (e : (itoaB n).data.toList = (itoaB m).data.toList) : n = m := by
  have h1 := atoi_itoa h h2
  rw [e, atoi_itoa k k2] at h1
  injection h1 with h1
  exact h1.symm

/-! ### A mark's parts -/
def bodyL (m : Mk) : List UInt8 := (aheadB m.kind).data.toList ++ (m.nam.data.toList ++ (betwC m.kind :: ((itoaB m.num).data.toList ++ (behindB m.kind).data.toList)))
theorem line_list (m : Mk) : (lineM m).data.toList = m.ind.data.toList ++ (m.sty.data.toList ++ (32 :: bodyL m)) := by
  unfold lineM bodyL
  simp only [app_list, List.append_assoc]
  rfl
def gapU (b : UInt8) : Prop := gapB (b.toNat : Int)
theorem ind_gap {m : Mk} (h : RightM m) : ∀ b, b ∈ m.ind.data.toList → gapU b := fun b hb => by
  obtain ⟨j, hj, e⟩ := mem_byte hb
  have := h.ind j hj
  rw [e] at this; exact this
theorem sty_all {m : Mk} (h : RightM m) : ∀ b, b ∈ m.sty.data.toList → 33 ≤ b.toNat ∧ b.toNat ≤ 126 := fun b hb => by
  obtain ⟨j, hj, e⟩ := mem_byte hb
  have := h.sty.2.2 j hj
  rw [e] at this; omega
theorem sty_ne {m : Mk} (h : RightM m) : m.sty.data.toList ≠ [] := fun e => by have := h.sty.1; rw [← len_list, e] at this; exact absurd this (by decide)
theorem sty_head {m : Mk} (h : RightM m) (X : List UInt8) : ∀ b, (m.sty.data.toList ++ X).head? = some b → ¬ gapU b := fun b hb => by
  cases hs : m.sty.data.toList with
  | nil => exact absurd hs (sty_ne h)
  | cons c r =>
    rw [hs] at hb
    simp only [List.cons_append, List.head?_cons, Option.some.injEq] at hb
    subst hb
    have := sty_all h c (by rw [hs]; simp)
    unfold gapU gapB; omega
theorem sty_n32 {m : Mk} (h : RightM m) : ∀ b : UInt8, b ∈ m.sty.data.toList → b ≠ 32 := fun b hb e => by
  subst e
  have := sty_all h 32 hb
  exact absurd this.1 (by decide)
theorem kind_cases {m : Mk} (h : RightM m) : m.kind = 1 ∨ m.kind = 2 ∨ m.kind = 3 := by have := h.k1; have := h.k3; omega
theorem name_no (m : Mk) (h : RightM m) (c : UInt8) (hc : badB (c.toNat : Int)) : ∀ b, b ∈ m.nam.data.toList → b ≠ c := fun b hb e => name_mem h.nam hb (e ▸ hc)
theorem num_end (m : Mk) (h : RightM m) : ∃ d r, (itoaB m.num).data.toList.reverse = d :: r ∧ digU d := by
  have hd := itoaB_dig h.num0
  have hl := (itoaB_len h.num0 h.hi).1
  rw [← len_list] at hl
  cases hr : (itoaB m.num).data.toList.reverse with
  | nil => rw [List.reverse_eq_nil_iff] at hr; rw [hr] at hl; exact absurd hl (by decide)
  | cons d r => exact ⟨d, r, rfl, hd d (by rw [← List.mem_reverse, hr]; simp)⟩
theorem tail_unique {a b : Mk} (ha : RightM a) (hb : RightM b) (c : UInt8) (hc : ¬ digU c) (e : a.nam.data.toList ++ (c :: (itoaB a.num).data.toList) = b.nam.data.toList ++ (c :: (itoaB b.num).data.toList)) : a.nam = b.nam ∧ a.num = b.num := by
  have er := congrArg List.reverse e
  simp only [List.reverse_append, List.reverse_cons, List.append_assoc] at er
  obtain ⟨e1, e2⟩ := span_unique digU _ _ _ _ (fun x hx => itoaB_dig ha.num0 x (List.mem_reverse.1 hx)) (fun x hx => itoaB_dig hb.num0 x (List.mem_reverse.1 hx))
    (fun x hx => by simp only [List.singleton_append, List.head?_cons, Option.some.injEq] at hx; subst hx; exact hc) (fun x hx => by simp only [List.singleton_append, List.head?_cons, Option.some.injEq] at hx; subst hx; exact hc) er
  simp only [List.singleton_append, List.cons.injEq, true_and, List.reverse_inj] at e2
  rw [List.reverse_inj] at e1
  exact ⟨ba_ext e2, itoaB_inj ha.num0 ha.hi hb.num0 hb.hi e1⟩
theorem not_dig35 : ¬ digU 35 := by unfold digU; decide
theorem not_dig58 : ¬ digU 58 := by unfold digU; decide
/-- The inside of a mark's body. -/
theorem body_unique {a b : Mk} (ha : RightM a) (hb : RightM b) (e : bodyL a = bodyL b) : a.kind = b.kind ∧ a.nam = b.nam ∧ a.num = b.num := by
  have key12 : ∀ {a b : Mk}, RightM a → RightM b → a.kind = 1 → (b.kind = 2 ∨ b.kind = 3) → bodyL a ≠ bodyL b := by
    intro a b ha hb k1 k2 e
    unfold bodyL at e
    rw [k1] at e
    rcases k2 with k2 | k2 <;> rw [k2] at e
    · cases hn : b.nam.data.toList with
      | nil => exact name_ne hb.nam hn
      | cons c r =>
        rw [hn] at e
        have e : (91 : UInt8) :: _ = c :: _ := e
        exact name_no b hb 91 (by unfold badB; decide) c (by rw [hn]; simp) (List.cons.inj e).1.symm
    · have e : (91 : UInt8) :: _ = 64 :: _ := e
      exact absurd (List.cons.inj e).1 (by decide)
  have key23 : ∀ {a b : Mk}, RightM a → RightM b → a.kind = 2 → b.kind = 3 → bodyL a ≠ bodyL b := by
    intro a b ha hb k1 k2 e
    have er := congrArg List.reverse e
    unfold bodyL at er
    rw [k1, k2] at er
    simp only [List.reverse_append, List.reverse_cons, List.append_assoc] at er
    obtain ⟨d, r, h1, h2⟩ := num_end b hb
    rw [h1] at er
    have er : (93 : UInt8) :: 93 :: _ = 93 :: d :: _ := er
    have := (List.cons.inj (List.cons.inj er).2).1
    subst this
    unfold digU at h2
    exact absurd h2.2 (by decide)
  have hk : a.kind = b.kind := by
    rcases kind_cases ha with h1 | h1 | h1 <;> rcases kind_cases hb with h2 | h2 | h2
    · rw [h1, h2]
    · exact absurd e (key12 ha hb h1 (.inl h2))
    · exact absurd e (key12 ha hb h1 (.inr h2))
    · exact absurd e.symm (key12 hb ha h2 (.inl h1))
    · rw [h1, h2]
    · exact absurd e (key23 ha hb h1 h2)
    · exact absurd e.symm (key12 hb ha h2 (.inr h1))
    · exact absurd e.symm (key23 hb ha h2 h1)
    · rw [h1, h2]
  refine ⟨hk, ?_⟩
  unfold bodyL at e
  rw [← hk] at e
  have e2 := List.append_cancel_left e
  have e3 : (a.nam.data.toList ++ (betwC a.kind :: (itoaB a.num).data.toList)) ++ (behindB a.kind).data.toList = (b.nam.data.toList ++ (betwC a.kind :: (itoaB b.num).data.toList)) ++ (behindB a.kind).data.toList := by
    simpa using e2
  have e4 := List.append_cancel_right e3
  exact tail_unique ha hb _ (by unfold betwC; split; exact not_dig35; exact not_dig58) e4
/-- What stands ahead of a mark's body. -/
theorem head_unique {m : Mk} (h : RightM m) {I S X : List UInt8} (hI : ∀ b, b ∈ I → gapU b) (hS0 : ∀ b, (S ++ 32 :: X).head? = some b → ¬ gapU b) (hS : ∀ b : UInt8, b ∈ S → b ≠ 32) (e : (lineM m).data.toList = I ++ (S ++ 32 :: X)) :
    m.ind.data.toList = I ∧ m.sty.data.toList = S ∧ bodyL m = X := by
  rw [line_list] at e
  obtain ⟨e1, e2⟩ := span_unique gapU _ _ _ _ (ind_gap h) hI (sty_head h _) hS0 e
  obtain ⟨e3, e4⟩ := span_unique (fun b => b ≠ 32) _ _ _ _ (sty_n32 h) hS (by intro b hb; simp at hb; simp [hb]) (by intro b hb; simp at hb; simp [hb]) e2
  simp only [List.cons.injEq, true_and] at e4
  exact ⟨e1, e3, e4⟩
/-- NO TWO MARKS ARE ONE LINE. -/
theorem line_inj {a b : Mk} (ha : RightM a) (hb : RightM b) (e : lineM a = lineM b) : a = b := by
  have h1 : (lineM a).data.toList = b.ind.data.toList ++ (b.sty.data.toList ++ 32 :: bodyL b) := by rw [e, line_list]
  obtain ⟨e1, e2, e3⟩ := head_unique ha (ind_gap hb) (sty_head hb _) (sty_n32 hb) h1
  obtain ⟨e4, e5, e6⟩ := body_unique ha hb e3
  obtain ⟨k, i, s, n, u⟩ := a
  obtain ⟨k', i', s', n', u'⟩ := b
  simp only at e1 e2 e4 e5 e6
  rw [ba_ext e1, ba_ext e2, e4, e5, e6]

/-! ### What a reader finds -/
def ReadOk (s : ByteArray) (m : Mk) (b : Bool) : Prop := (b = true → RightM m ∧ lineM m = s) ∧ (b = false → m = zeroM ∧ ∀ m', RightM m' → lineM m' = s → False)
theorem ReadOk.unique {s : ByteArray} {m m' : Mk} {b b' : Bool} (h : ReadOk s m b) (k : ReadOk s m' b') : m = m' ∧ b = b' := by
  cases b <;> cases b'
  · exact ⟨(h.2 rfl).1.trans (k.2 rfl).1.symm, rfl⟩
  · exact ((h.2 rfl).2 m' (k.1 rfl).1 (k.1 rfl).2).elim
  · exact ((k.2 rfl).2 m (h.1 rfl).1 (h.1 rfl).2).elim
  · exact ⟨line_inj (h.1 rfl).1 (k.1 rfl).1 ((h.1 rfl).2.trans (k.1 rfl).2.symm), rfl⟩
/-- A text, cut at its first blank. -/
def CutAt (r style body : ByteArray) : Prop := (r = style ++ SPB ++ body ∧ noB style 32) ∨ (style = r ∧ body = ⟨#[]⟩ ∧ noB r 32)
theorem noB_mem {s : ByteArray} {c : Nat} (hc : c < 256) (h : noB s c) : ∀ b : UInt8, b ∈ s.data.toList → b ≠ UInt8.ofNat c := fun b hb e => by
  obtain ⟨j, hj, e2⟩ := mem_byte hb
  have := h j hj
  rw [e2, e, UInt8.toNat_ofNat'] at this
  omega
theorem trimC_split (s : ByteArray) : ∃ i, GapEnd s i ∧ trimC s WS = s.extract i s.size := by
  obtain ⟨i, hi⟩ := gap_ex s
  exact ⟨i, hi, trim_gap s i hi⟩
theorem mem_ext0 {s : ByteArray} {i : Nat} (hi : GapEnd s i) : ∀ b, b ∈ (s.extract 0 i).data.toList → gapU b := fun b hb => by
  obtain ⟨j, hj, e⟩ := mem_byte hb
  have hsz : (s.extract 0 i).size ≤ i := by rw [ByteArray.size_extract]; omega
  rw [byteAt_ext0 s i j (by omega) hi.1] at e
  have := hi.2.1 j (by omega)
  rw [e] at this; exact this
theorem head_ext {s : ByteArray} {i : Nat} (hi : GapEnd s i) : ∀ b, (s.extract i s.size).data.toList.head? = some b → ¬ gapU b := fun b hb => by
  have h0 : (s.extract i s.size).data.toList[0]? = some b := by rw [← List.head?_eq_getElem?]; exact hb
  have hlt := (List.getElem?_eq_some_iff.1 h0).1
  rw [len_list, ByteArray.size_extract] at hlt
  have e := byteAt_list _ 0 b h0
  rw [byteAt_ext] at e
  have := hi.2.2 (by omega)
  rw [Nat.add_zero] at e
  rw [e] at this
  exact this
/-- A mark's parts are found. -/
theorem found_head {s style body : ByteArray} {i : Nat} (hi : GapEnd s i) (hc : CutAt (s.extract i s.size) style body) {m : Mk} (h : RightM m) (e : lineM m = s) : m.ind = s.extract 0 i ∧ m.sty = style ∧ body.data.toList = bodyL m := by
  have hs : s = s.extract 0 i ++ s.extract i s.size := (split_at s i hi.1).symm
  have hh := head_ext hi
  rcases hc with ⟨h1, h2⟩ | ⟨h1, h2, h3⟩
  · have e1 : (lineM m).data.toList = (s.extract 0 i).data.toList ++ (style.data.toList ++ 32 :: body.data.toList) := by
      rw [e]
      conv => lhs; rw [hs]
      rw [app_list, h1]
      simp only [app_list, List.append_assoc]; rfl
    rw [h1] at hh
    simp only [app_list, List.append_assoc] at hh
    obtain ⟨e2, e3, e4⟩ := head_unique h (mem_ext0 hi) hh (noB_mem (c := 32) (by decide) h2) e1
    exact ⟨ba_ext e2, ba_ext e3, e4.symm⟩
  · exfalso
    have e1 : (lineM m).data.toList = (s.extract 0 i).data.toList ++ (s.extract i s.size).data.toList := by
      rw [e]
      conv => lhs; rw [hs]
      rw [app_list]
    rw [line_list] at e1
    obtain ⟨_, e2⟩ := span_unique gapU _ _ _ _ (ind_gap h) (mem_ext0 hi) (sty_head h _) hh e1
    exact noB_mem (c := 32) (by decide) h3 32 (by rw [← e2]; simp) rfl
theorem pref_of {body x : ByteArray} {X : List UInt8} (h : body.data.toList = x.data.toList ++ X) : PrefB body x ∧ (body.extract x.size body.size).data.toList = X := by
  have hb : body = x ++ ⟨X.toArray⟩ := ba_ext (by rw [app_list, h])
  refine ⟨⟨by rw [hb, size_app]; omega, by rw [hb, ext_left]⟩, by rw [hb, ext_right]⟩
theorem suf_of {t x : ByteArray} {X : List UInt8} (h : t.data.toList = X ++ x.data.toList) : SufB t x ∧ (t.extract 0 (t.size - x.size)).data.toList = X := by
  have hb : t = ⟨X.toArray⟩ ++ x := ba_ext (by rw [app_list, h])
  have hs : t.size - x.size = (⟨X.toArray⟩ : ByteArray).size := by rw [hb, size_app]; omega
  refine ⟨⟨by rw [hb, size_app]; omega, ?_⟩, ?_⟩
  · rw [hs, hb, ext_right]
  · rw [hs, hb, ext_left]
theorem occ_one (s : List UInt8) (c : UInt8) (i : Nat) : Lib.occAt s [c] i = true ↔ s[i]? = some c := by
  unfold Lib.occAt
  cases h : s.drop i with
  | nil =>
    have : s[i]? = none := by rw [← List.head?_drop, h]; rfl
    rw [this]; simp [List.isPrefixOf]
  | cons a r =>
    have : s[i]? = some a := by rw [← List.head?_drop, h]; rfl
    rw [this]
    simp only [List.isPrefixOf, Bool.and_true, beq_iff_eq, Option.some.injEq]
    exact ⟨Eq.symm, Eq.symm⟩
theorem lastIndex_at (A D : List UInt8) (c : UInt8) (hD : ∀ b, b ∈ D → b ≠ c) : Lib.lastIndex (A ++ c :: D) [c] = A.length := by
  unfold Lib.lastIndex
  rw [if_pos (by simp; omega)]
  have h0 : (A ++ c :: D)[A.length]? = some c := by simp
  have hgt : ∀ j, A.length < j → (A ++ c :: D)[j]? ≠ some c := fun j hj e => by
    rw [List.getElem?_append_right (by omega)] at e
    obtain ⟨k, hk⟩ : ∃ k, j - A.length = k + 1 := ⟨j - A.length - 1, by omega⟩
    rw [hk, List.getElem?_cons_succ] at e
    exact hD c (List.mem_of_getElem? e) rfl
  rcases Lib.lastOcc_spec (A ++ c :: D) [c] ((A ++ c :: D).length - [c].length + 1) with ⟨e, hn⟩ | ⟨i, hi, e, ho, hn⟩
  · have := hn A.length (by simp; omega)
    rw [(occ_one _ _ _).2 h0] at this
    cases this
  · rw [e]
    have ho := (occ_one _ _ _).1 ho
    rcases Nat.lt_trichotomy i A.length with h | h | h
    · have := hn A.length h (by simp; omega)
      rw [(occ_one _ _ _).2 h0] at this
      cases this
    · rw [h]
    · exact absurd ho (hgt i h)
theorem ext_mid (t : ByteArray) (A D : List UInt8) (c : UInt8) (h : t.data.toList = A ++ c :: D) : (t.extract 0 A.length).data.toList = A ∧ (t.extract (A.length + 1) t.size).data.toList = D := by
  have e1 : t = ⟨A.toArray⟩ ++ ⟨(c :: D).toArray⟩ := ba_ext (by rw [app_list, h])
  have e2 : t = ⟨(A ++ [c]).toArray⟩ ++ ⟨D.toArray⟩ := ba_ext (by rw [app_list, h]; simp)
  constructor
  · have hs : A.length = (⟨A.toArray⟩ : ByteArray).size := rfl
    rw [hs]
    conv => lhs; rw [e1]
    rw [ext_left]
  · have hs : A.length + 1 = (⟨(A ++ [c]).toArray⟩ : ByteArray).size := by show _ = (A ++ [c]).length; simp
    rw [hs]
    conv => lhs; rw [e2]
    rw [ext_right]
/-- THE PROGRAM's READER FINDS A MARK's PARTS. -/
theorem found_tail {body t u : ByteArray} {ok is : Bool} {m : Mk} (h : RightM m) (hb : body.data.toList = bodyL m)
    (k1 : PrefB body (aheadB m.kind) → t = body.extract (aheadB m.kind).size body.size ∧ ok = true) (k2 : SufB t (behindB m.kind) → u = t.extract 0 (t.size - (behindB m.kind).size) ∧ is = true) :
    ok = true ∧ is = true ∧ Lib.lastIndex u.data.toList (betwB m.kind).data.toList = m.nam.size ∧ u.extract 0 m.nam.size = m.nam ∧ u.extract (m.nam.size + 1) u.size = itoaB m.num ∧ m.nam.size + 1 ≤ u.size := by
  obtain ⟨p1, p2⟩ := pref_of hb
  obtain ⟨rfl, q1⟩ := k1 p1
  have e1 : (body.extract (aheadB m.kind).size body.size).data.toList = (m.nam.data.toList ++ (betwC m.kind :: (itoaB m.num).data.toList)) ++ (behindB m.kind).data.toList := by rw [p2]; simp
  obtain ⟨p3, p4⟩ := suf_of e1
  obtain ⟨rfl, q2⟩ := k2 p3
  generalize (body.extract (aheadB m.kind).size body.size).extract 0 ((body.extract (aheadB m.kind).size body.size).size - (behindB m.kind).size) = u at p4
  obtain ⟨m1, m2⟩ := ext_mid u _ _ _ p4
  refine ⟨q1, q2, ?_, ?_, ?_, ?_⟩
  · rw [p4, show (betwB m.kind).data.toList = [betwC m.kind] from rfl, lastIndex_at _ _ _ (fun b hb e => ?_), len_list]
    have := itoaB_dig h.num0 b hb
    rw [e] at this
    unfold betwC at this
    split at this
    · exact not_dig35 this
    · exact not_dig58 this
  · rw [len_list] at m1
    exact ba_ext m1
  · rw [len_list] at m2
    exact ba_ext m2
  · rw [← len_list u, p4]; simp
end Go.Proofs.YtofigleaealbjaaGreatDoor.Ev
