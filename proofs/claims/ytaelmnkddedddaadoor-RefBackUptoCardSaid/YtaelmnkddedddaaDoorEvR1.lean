import Derived.Test.YtaelmnkddedddaaDoorEvSymSl
import Derived.Test.YtaelmnkddedddaaDoorEvPrims
import Derived.Lib.RuneCount
import Derived.Test.YtaelmnkddedddaaDoorProg
import Derived.KernelRfl
namespace Go.Proofs.YtaelmnkddedddaaDoor.Ev
open Go
set_option linter.unusedVariables false
set_option linter.unusedSimpArgs false
def trimC (s c : ByteArray) : ByteArray := ⟨(Lib.trimLeftS s.data.toList c.data.toList).toArray⟩
def trimL (s : ByteArray) : ByteArray := trimC s ⟨#[32, 9]⟩
theorem trimC_size (s c) : (trimC s c).size ≤ s.size := by
  show (Lib.trimLeftS s.data.toList c.data.toList).toArray.size ≤ s.data.size
  simp only [Lib.trimLeftS, List.size_toArray]
  exact (List.dropWhile_suffix _).length_le
theorem trimL_size (s) : (trimL s).size ≤ s.size := trimC_size s _
theorem trimL_spec (s : ByteArray) (H : AH) (Q : Value → AH → Prop) (h : Q (.string (trimL s)) H) : FWp Tryd.prog prims 20 [.string s, .string ⟨#[32, 9]⟩] H Q := FWp.prim rfl rfl h
theorem trimB_spec (s : ByteArray) (H : AH) (Q : Value → AH → Prop) (h : Q (.string (trimC s ⟨#[92]⟩)) H) : FWp Tryd.prog prims 20 [.string s, .string ⟨#[92]⟩] H Q := FWp.prim rfl rfl h
theorem Q_bool {H : AH} {Q : Value → AH → Prop} {a b : Bool} (h : Q (.bool a) H) (e : a = b) : Q (.bool b) H := e ▸ h
theorem Q_val {H : AH} {Q : Value → AH → Prop} {a b : Value} (h : Q a H) (e : a = b) : Q b H := e ▸ h
def blankB (r : Int) : Bool := decide (9 ≤ r ∧ r ≤ 13 ∨ r = 32 ∨ r = 160 ∨ r = 8195 ∨ r = 12288)
def gapB (c : Int) : Prop := c = 32 ∨ c = 9
theorem sz2 : (⟨#[60, 60]⟩ : ByteArray).size = 2 := rfl
theorem sz2' : (⟨#[62, 62]⟩ : ByteArray).size = 2 := rfl
def PrefB (s p : ByteArray) : Prop := p.size ≤ s.size ∧ s.extract 0 p.size = p
def SufB (s p : ByteArray) : Prop := p.size ≤ s.size ∧ s.extract (s.size - p.size) s.size = p
def runesF (s : ByteArray) : Nat → Nat → List Nat
  | 0, _ => []
  | f + 1, pos => if pos < s.size then (Utf8.decode s pos).1 :: runesF s f (pos + (Utf8.decode s pos).2) else []
theorem runesF_fuel (s : ByteArray) : ∀ f g pos, s.size - pos ≤ f → s.size - pos ≤ g → runesF s f pos = runesF s g pos
  | 0, 0, _, _, _ => rfl
  | 0, g + 1, pos, h, _ => by simp only [runesF]; rw [if_neg (by omega)]
  | f + 1, 0, pos, _, h => by simp only [runesF]; rw [if_neg (by omega)]
  | f + 1, g + 1, pos, h1, h2 => by
    simp only [runesF]
    split
    · rename_i hlt
      have := Lib.decode_width_pos s pos hlt
      rw [runesF_fuel s f g _ (by omega) (by omega)]
    · rfl
def runes (s : ByteArray) : List Nat := runesF s s.size 0
theorem runesF_step (s : ByteArray) (pos : Nat) (h : pos < s.size) : runesF s (s.size - pos) pos = (Utf8.decode s pos).1 :: runesF s (s.size - (pos + (Utf8.decode s pos).2)) (pos + (Utf8.decode s pos).2) := by
  have hw := Lib.decode_width_pos s pos h
  obtain ⟨n, hn⟩ : ∃ n, s.size - pos = n + 1 := ⟨s.size - pos - 1, by omega⟩
  rw [hn]
  simp only [runesF, if_pos h]
  rw [runesF_fuel s n (s.size - (pos + (Utf8.decode s pos).2)) _ (by omega) (Nat.le_refl _)]
theorem runesF_end (s : ByteArray) (f pos : Nat) (h : ¬ pos < s.size) : runesF s f pos = [] := by
  cases f <;> simp [runesF, h]
theorem runes_ne (s : ByteArray) (h : 0 < s.size) : 0 < (runes s).length := by
  have := runesF_step s 0 h
  unfold runes
  rw [show s.size = s.size - 0 from rfl, this]
  simp
theorem runesF_len (s : ByteArray) : ∀ f pos, (runesF s f pos).length ≤ f
  | 0, _ => by simp [runesF]
  | f + 1, pos => by
    simp only [runesF]
    split
    · have := runesF_len s f (pos + (Utf8.decode s pos).2); simp; exact this
    · simp
theorem runes_len (s : ByteArray) : (runes s).length ≤ s.size := runesF_len s _ _
def badB (c : Int) : Prop := c = 60 ∨ c = 62 ∨ c = 91 ∨ c = 93 ∨ c = 35 ∨ c = 34 ∨ c = 92
theorem has_set (c : Int) : (∃ i : Int, 0 ≤ i ∧ i < ((⟨#[60, 62, 91, 93, 35, 34, 92]⟩ : ByteArray).size : Int) ∧ byteAt ⟨#[60, 62, 91, 93, 35, 34, 92]⟩ i = c) ↔ badB c := by
  have hz : ((⟨#[60, 62, 91, 93, 35, 34, 92]⟩ : ByteArray).size : Int) = 7 := rfl
  rw [hz]
  constructor
  · rintro ⟨i, h0, h1, rfl⟩
    have : i = 0 ∨ i = 1 ∨ i = 2 ∨ i = 3 ∨ i = 4 ∨ i = 5 ∨ i = 6 := by omega
    rcases this with rfl | rfl | rfl | rfl | rfl | rfl | rfl <;> simp [byteAt, badB]
  · rintro (rfl | rfl | rfl | rfl | rfl | rfl | rfl)
    · exact ⟨0, by omega, by omega, rfl⟩
    · exact ⟨1, by omega, by omega, rfl⟩
    · exact ⟨2, by omega, by omega, rfl⟩
    · exact ⟨3, by omega, by omega, rfl⟩
    · exact ⟨4, by omega, by omega, rfl⟩
    · exact ⟨5, by omega, by omega, rfl⟩
    · exact ⟨6, by omega, by omega, rfl⟩
/-- What the reference asks of a name. -/
structure NameR (s : ByteArray) : Prop where
  lo : 1 ≤ s.size
  hi : s.size ≤ 60
  back : encF (runes s) .empty = s
  first : blankB ((runes s).getD 0 0 : Nat) = false
  last : blankB ((runes s).getD ((runes s).length - 1) 0 : Nat) = false
  all : ∀ i, i < (runes s).length → 32 ≤ (runes s).getD i 0 ∧ ¬ badB ((runes s).getD i 0 : Nat)
def stepF (col c : Int) : Int := if c = 9 then col + 4 - col % 4 else col + 1
theorem stepF_le (col c : Int) (h : 0 ≤ col) : col < stepF col c ∧ stepF col c ≤ col + 4 := by unfold stepF; split <;> omega
def colAt (s : ByteArray) : Nat → Int
  | 0 => 0
  | n + 1 => stepF (colAt s n) (byteAt s n)
theorem colAt_le (s : ByteArray) : ∀ n : Nat, (n : Int) ≤ colAt s n ∧ colAt s n ≤ 4 * n
  | 0 => by simp [colAt]
  | n + 1 => by have := colAt_le s n; have := stepF_le (colAt s n) (byteAt s n) (by omega); simp only [colAt]; omega
/-- The place behind a line's blanks. -/
def GapEnd (s : ByteArray) (i : Nat) : Prop := i ≤ s.size ∧ (∀ j : Nat, j < i → gapB (byteAt s j)) ∧ (i < s.size → ¬ gapB (byteAt s i))
def RunEnd (s : ByteArray) (at_ : Nat) (c : Int) (n : Nat) : Prop := at_ + n ≤ s.size ∧ (∀ j : Nat, j < n → byteAt s (at_ + j : Nat) = c) ∧ (at_ + n < s.size → ¬ byteAt s (at_ + n : Nat) = c)

theorem parts_spec (s : ByteArray) (hs : s.size ≤ 9000000) (H : AH) (Q : Value → AH → Prop) (h : Q (.tuple #[.string (s.extract 0 ((s.size : Int) - (trimL s).size).toNat), .string (trimL s)]) H) : FWp Tryd.prog prims 18 [.string s] H Q := by
  have hz := trimL_size s
  refine FWp.enter (rfl) Tryd.func18 rfl (e := [.string s, undef, undef, undef, undef, undef, undef, undef, undef, undef, undef, undef, undef, undef, undef]) rfl ?_
  refine CWp.seq ?_
  refine CWp.region ?_
  refine OWp.assign rfl rfl ?_
  refine OWp.assign rfl rfl ?_
  refine OWp.nil ?_
  refine CWp.seq ?_
  refine CWp.region ?_
  refine OWp.move rfl rfl ?_
  refine OWp.call rfl rfl rfl rfl ?_
  refine trimL_spec _ _ _ ?_
  refine OWp.norm ?_
  refine OWp.assign rfl rfl ?_
  refine OWp.nil ?_
  refine CWp.seq ?_
  refine CWp.region ?_
  refine OWp.move rfl rfl ?_
  refine OWp.move rfl rfl ?_
  refine OWp.lenS rfl rfl rfl rfl rfl Tryd.underlying9 rfl ?_
  refine OWp.move rfl rfl ?_
  refine OWp.lenS rfl rfl rfl rfl rfl Tryd.underlying9 rfl ?_
  refine OWp.subI rfl rfl rfl rfl (by omega) ?_
  refine OWp.sliceS rfl rfl Tryd.underlying9 rfl rfl rfl (by omega) (by omega) (by omega) ?_
  refine OWp.move rfl rfl ?_
  refine OWp.assign rfl rfl ?_
  refine OWp.assign rfl rfl ?_
  refine OWp.nil ?_
  refine CWp.ret ?_
  refine RetQ.two (by first | exact .inl rfl | exact .inr rfl) rfl rfl rfl rfl rfl ?_
  exact h

theorem gap_spec (c : Int) (H : AH) (Q : Value → AH → Prop) (h : ∀ b : Bool, (b = true ↔ gapB c) → Q (.bool b) H) : FWp Tryd.prog prims 33 [.int .u8 c] H Q := by
  refine FWp.enter (rfl) Tryd.func33 rfl (e := [.int .u8 c, undef, undef, undef, undef, undef, undef, undef, undef]) rfl ?_
  refine CWp.seq ?_
  refine CWp.region ?_
  refine OWp.assign rfl rfl ?_
  refine OWp.nil ?_
  refine CWp.seq ?_
  refine CWp.region ?_
  refine OWp.move rfl rfl ?_
  refine OWp.binI rfl rfl rfl rfl rfl ?_
  refine OWp.move rfl rfl ?_
  first | refine OWp.byF rfl (fun hg0 => ?_) (fun hg0 => ?_) | refine OWp.byBF rfl (fun hg0 => ?_) (fun hg0 => ?_)
  · skip
    try simp only [Decidable.not_not] at hg0
    try simp only [hg0, eq_self, decide_true, decide_false, not_true_eq_false, not_false_eq_true, Bool.not_true, Bool.not_false]
    refine OWp.move rfl rfl ?_
    refine OWp.binI rfl rfl rfl rfl rfl ?_
    refine OWp.pickF rfl rfl rfl ?_
    refine OWp.assign rfl rfl ?_
    refine OWp.nil ?_
    refine CWp.ret ?_
    refine RetQ.one (by first | exact .inl rfl | exact .inr rfl) rfl rfl ?_
    exact h _ (by simp [gapB, *])
  · skip
    try simp only [Decidable.not_not] at hg0
    try simp only [hg0, eq_self, decide_true, decide_false, not_true_eq_false, not_false_eq_true, Bool.not_true, Bool.not_false]
    refine OWp.leave rfl ?_
    refine OWp.leave rfl ?_
    refine OWp.pickT rfl rfl rfl ?_
    refine OWp.assign rfl rfl ?_
    refine OWp.nil ?_
    refine CWp.ret ?_
    refine RetQ.one (by first | exact .inl rfl | exact .inr rfl) rfl rfl ?_
    exact h _ (by simp [gapB, *])

theorem step_spec (col c : Int) (hc : 0 ≤ col ∧ col ≤ 1000000000) (H : AH) (Q : Value → AH → Prop) (h : Q (.int .i64 (stepF col c)) H) : FWp Tryd.prog prims 34 [.int .i64 col, .int .u8 c] H Q := by
  refine FWp.enter (rfl) Tryd.func34 rfl (e := [.int .i64 col, .int .u8 c, undef, undef, undef, undef, undef, undef, undef, undef, undef, undef, undef, undef]) rfl ?_
  refine CWp.seq ?_
  refine CWp.region ?_
  refine OWp.assign rfl rfl ?_
  refine OWp.nil ?_
  refine CWp.seq ?_
  refine CWp.seq ?_
  refine CWp.region ?_
  refine OWp.move rfl rfl ?_
  refine OWp.binI rfl rfl rfl rfl rfl ?_
  refine OWp.nil ?_
  first | refine CWp.condP rfl (fun h0 => ?_) (fun h0 => ?_) | refine CWp.cond rfl (fun h0 => ?_) (fun h0 => ?_)
  · skip
    try simp only [h0, eq_self, decide_true, decide_false, not_true_eq_false, not_false_eq_true, Bool.not_true, Bool.not_false]
    refine CWp.seq ?_
    refine CWp.region ?_
    refine OWp.move rfl rfl ?_
    refine OWp.addI rfl rfl rfl rfl (by omega) ?_
    refine OWp.move rfl rfl ?_
    refine OWp.remI rfl rfl rfl rfl (by omega) ?_
    refine OWp.subI rfl rfl rfl rfl (by omega) ?_
    refine OWp.assign rfl rfl ?_
    refine OWp.nil ?_
    refine CWp.ret ?_
    refine RetQ.one (by first | exact .inl rfl | exact .inr rfl) rfl rfl ?_
    exact Q_val h (by simp [stepF, h0])
  · skip
    try simp only [h0, eq_self, decide_true, decide_false, not_true_eq_false, not_false_eq_true, Bool.not_true, Bool.not_false]
    refine CWp.skip ?_
    refine CWp.seq ?_
    refine CWp.region ?_
    refine OWp.move rfl rfl ?_
    refine OWp.addI rfl rfl rfl rfl (by omega) ?_
    refine OWp.assign rfl rfl ?_
    refine OWp.nil ?_
    refine CWp.ret ?_
    refine RetQ.one (by first | exact .inl rfl | exact .inr rfl) rfl rfl ?_
    exact Q_val h (by simp [stepF, h0])

theorem has_spec (s : ByteArray) (c : Int) (hs : s.size ≤ 9000000) (H : AH) (Q : Value → AH → Prop) (h : ∀ b : Bool, (b = true ↔ ∃ i : Int, 0 ≤ i ∧ i < s.size ∧ byteAt s i = c) → Q (.bool b) H) : FWp Tryd.prog prims 23 [.string s, .int .u8 c] H Q := by
  refine FWp.enter (rfl) Tryd.func23 rfl (e := [.string s, .int .u8 c, undef, undef, undef, undef, undef, undef, undef, undef, undef, undef, undef, undef, undef, undef, undef]) rfl ?_
  refine CWp.seq ?_
  refine CWp.region ?_
  refine OWp.assign rfl rfl ?_
  refine OWp.nil ?_
  refine CWp.seq ?_
  refine CWp.seq ?_
  refine CWp.region ?_
  refine OWp.assign rfl rfl ?_
  refine OWp.nil ?_
  refine CWp.block ?_
  refine CWp.loop (fun k e H' => ∃ (i : Int) (t2 t3 t4 t6 t7 t8 t9 t10 t11 t12 t13 t14 t15 t16 : Value), e = [.string s, .int .u8 c, t2, t3, t4, .int .i64 i, t6, t7, t8, t9, t10, t11, t12, t13, t14, t15, t16] ∧ k = (s.size - i).toNat ∧ H' = H ∧ 0 ≤ i ∧ i ≤ s.size ∧ ∀ j, 0 ≤ j → j < i → byteAt s j ≠ c) ?_ ?_
  · exact ⟨_, 0, _, _, _, _, _, _, _, _, _, _, _, _, _, _, rfl, rfl, rfl, by omega, by omega, fun j h1 h2 => by omega⟩
  · rintro k e H' ⟨i, t2, t3, t4, t6, t7, t8, t9, t10, t11, t12, t13, t14, t15, t16, rfl, rfl, rfl, hi0, hi1, hj⟩
    refine CWp.seq ?_
    refine CWp.seq ?_
    refine CWp.region ?_
    refine OWp.move rfl rfl ?_
    refine OWp.move rfl rfl ?_
    refine OWp.lenS rfl rfl rfl rfl rfl Tryd.underlying9 rfl ?_
    refine OWp.binI rfl rfl rfl rfl rfl ?_
    refine OWp.nil ?_
    first | refine CWp.condP rfl (fun h1 => ?_) (fun h1 => ?_) | refine CWp.cond rfl (fun h1 => ?_) (fun h1 => ?_)
    · skip
      try simp only [h1, eq_self, decide_true, decide_false, not_true_eq_false, not_false_eq_true, Bool.not_true, Bool.not_false]
      refine CWp.skip ?_
      refine CWp.seq ?_
      refine CWp.block ?_
      refine CWp.seq ?_
      refine CWp.region ?_
      refine OWp.move rfl rfl ?_
      refine OWp.move rfl rfl ?_
      refine OWp.indexS rfl rfl Tryd.underlying9 rfl rfl (by omega) (by omega) ?_
      refine OWp.move rfl rfl ?_
      refine OWp.binI rfl rfl rfl rfl rfl ?_
      refine OWp.nil ?_
      first | refine CWp.condP rfl (fun h2 => ?_) (fun h2 => ?_) | refine CWp.cond rfl (fun h2 => ?_) (fun h2 => ?_)
      · skip
        try simp only [h2, eq_self, decide_true, decide_false, not_true_eq_false, not_false_eq_true, Bool.not_true, Bool.not_false]
        refine CWp.seq ?_
        refine CWp.region ?_
        refine OWp.assign rfl rfl ?_
        refine OWp.nil ?_
        refine CWp.ret ?_
        refine RetQ.one (by first | exact .inl rfl | exact .inr rfl) rfl rfl ?_
        exact h true (by simp; exact ⟨i, hi0, by omega, h2⟩)
      · skip
        try simp only [h2, eq_self, decide_true, decide_false, not_true_eq_false, not_false_eq_true, Bool.not_true, Bool.not_false]
        refine CWp.skip ?_
        refine CWp.region ?_
        refine OWp.move rfl rfl ?_
        refine OWp.addI rfl rfl rfl rfl (by omega) ?_
        refine OWp.assign rfl rfl ?_
        refine OWp.nil ?_
        exact ⟨_, by omega, i + 1, _, _, _, _, _, _, _, _, _, _, _, _, _, _, rfl, rfl, rfl, by omega, by omega, fun j a b => by by_cases e : j = i; exact e ▸ h2; exact hj j a (by omega)⟩
    · skip
      try simp only [h1, eq_self, decide_true, decide_false, not_true_eq_false, not_false_eq_true, Bool.not_true, Bool.not_false]
      refine CWp.exit ?_
      refine CWp.seq ?_
      refine CWp.region ?_
      refine OWp.assign rfl rfl ?_
      refine OWp.nil ?_
      refine CWp.ret ?_
      refine RetQ.one (by first | exact .inl rfl | exact .inr rfl) rfl rfl ?_
      exact h false (by simp; exact fun j a b => hj j a (by omega))

theorem make_spec (a b : ByteArray) (ha : a.size ≤ 9000000) (hb : b.size ≤ 9000000) (H : AH) (Q : Value → AH → Prop) (h : Q (.string (a ++ ⟨#[60, 60]⟩ ++ b ++ ⟨#[62, 62]⟩)) H) : FWp Tryd.prog prims 10 [.string a, .string b] H Q := by
  refine FWp.enter (rfl) Tryd.func10 rfl (e := [.string a, .string b, undef, undef, undef, undef, undef, undef, undef, undef]) rfl ?_
  refine CWp.seq ?_
  refine CWp.region ?_
  refine OWp.assign rfl rfl ?_
  refine OWp.nil ?_
  refine CWp.seq ?_
  refine CWp.region ?_
  refine OWp.move rfl rfl ?_
  refine OWp.catS rfl rfl rfl rfl (by simp [sz2, sz2']; omega) ?_
  refine OWp.move rfl rfl ?_
  refine OWp.catS rfl rfl rfl rfl (by simp [sz2, sz2']; omega) ?_
  refine OWp.catS rfl rfl rfl rfl (by simp [sz2, sz2']; omega) ?_
  refine OWp.assign rfl rfl ?_
  refine OWp.nil ?_
  refine CWp.ret ?_
  refine RetQ.one (by first | exact .inl rfl | exact .inr rfl) rfl rfl ?_
  exact h

theorem blankR_spec (c : Int) (H : AH) (Q : Value → AH → Prop) (h : Q (.bool (blankB c)) H) : FWp Tryd.prog prims 22 [.int .i32 c] H Q := by
  refine FWp.enter (rfl) Tryd.func22 rfl (e := [.int .i32 c, undef, undef, undef, undef, undef, undef, undef, undef, undef, undef, undef, undef, undef, undef, undef, undef, undef, undef, undef, undef, undef, undef, undef, undef]) rfl ?_
  refine CWp.seq ?_
  refine CWp.region ?_
  refine OWp.assign rfl rfl ?_
  refine OWp.nil ?_
  refine CWp.seq ?_
  refine CWp.region ?_
  refine OWp.move rfl rfl ?_
  refine OWp.binI rfl rfl rfl rfl rfl ?_
  refine OWp.move rfl rfl ?_
  first | refine OWp.byT rfl (fun hg0 => ?_) (fun hg0 => ?_) | refine OWp.byBT rfl (fun hg0 => ?_) (fun hg0 => ?_)
  · skip
    try simp only [Decidable.not_not] at hg0
    try simp only [hg0, eq_self, decide_true, decide_false, not_true_eq_false, not_false_eq_true, Bool.not_true, Bool.not_false]
    refine OWp.move rfl rfl ?_
    refine OWp.binI rfl rfl rfl rfl rfl ?_
    refine OWp.pickT rfl rfl rfl ?_
    refine OWp.move rfl rfl ?_
    first | refine OWp.byF rfl (fun hg1 => ?_) (fun hg1 => ?_) | refine OWp.byBF rfl (fun hg1 => ?_) (fun hg1 => ?_)
    · skip
      try simp only [Decidable.not_not] at hg1
      try simp only [hg1, eq_self, decide_true, decide_false, not_true_eq_false, not_false_eq_true, Bool.not_true, Bool.not_false]
      refine OWp.move rfl rfl ?_
      refine OWp.binI rfl rfl rfl rfl rfl ?_
      refine OWp.pickF rfl rfl rfl ?_
      refine OWp.move rfl rfl ?_
      first | refine OWp.byF rfl (fun hg2 => ?_) (fun hg2 => ?_) | refine OWp.byBF rfl (fun hg2 => ?_) (fun hg2 => ?_)
      · skip
        try simp only [Decidable.not_not] at hg2
        try simp only [hg2, eq_self, decide_true, decide_false, not_true_eq_false, not_false_eq_true, Bool.not_true, Bool.not_false]
        refine OWp.move rfl rfl ?_
        refine OWp.binI rfl rfl rfl rfl rfl ?_
        refine OWp.pickF rfl rfl rfl ?_
        refine OWp.move rfl rfl ?_
        first | refine OWp.byF rfl (fun hg3 => ?_) (fun hg3 => ?_) | refine OWp.byBF rfl (fun hg3 => ?_) (fun hg3 => ?_)
        · skip
          try simp only [Decidable.not_not] at hg3
          try simp only [hg3, eq_self, decide_true, decide_false, not_true_eq_false, not_false_eq_true, Bool.not_true, Bool.not_false]
          refine OWp.move rfl rfl ?_
          refine OWp.binI rfl rfl rfl rfl rfl ?_
          refine OWp.pickF rfl rfl rfl ?_
          refine OWp.move rfl rfl ?_
          first | refine OWp.byF rfl (fun hg4 => ?_) (fun hg4 => ?_) | refine OWp.byBF rfl (fun hg4 => ?_) (fun hg4 => ?_)
          · skip
            try simp only [Decidable.not_not] at hg4
            try simp only [hg4, eq_self, decide_true, decide_false, not_true_eq_false, not_false_eq_true, Bool.not_true, Bool.not_false]
            refine OWp.move rfl rfl ?_
            refine OWp.binI rfl rfl rfl rfl rfl ?_
            refine OWp.pickF rfl rfl rfl ?_
            refine OWp.assign rfl rfl ?_
            refine OWp.nil ?_
            refine CWp.ret ?_
            refine RetQ.one (by first | exact .inl rfl | exact .inr rfl) rfl rfl ?_
            exact Q_bool h (by first | (simp [blankB, gapB, *]; done) | (simp [blankB, gapB, *]; omega))
          · skip
            try simp only [Decidable.not_not] at hg4
            try simp only [hg4, eq_self, decide_true, decide_false, not_true_eq_false, not_false_eq_true, Bool.not_true, Bool.not_false]
            refine OWp.leave rfl ?_
            refine OWp.leave rfl ?_
            refine OWp.pickT rfl rfl rfl ?_
            refine OWp.assign rfl rfl ?_
            refine OWp.nil ?_
            refine CWp.ret ?_
            refine RetQ.one (by first | exact .inl rfl | exact .inr rfl) rfl rfl ?_
            exact Q_bool h (by first | (simp [blankB, gapB, *]; done) | (simp [blankB, gapB, *]; omega))
        · skip
          try simp only [Decidable.not_not] at hg3
          try simp only [hg3, eq_self, decide_true, decide_false, not_true_eq_false, not_false_eq_true, Bool.not_true, Bool.not_false]
          refine OWp.leave rfl ?_
          refine OWp.leave rfl ?_
          refine OWp.pickT rfl rfl rfl ?_
          refine OWp.move rfl rfl ?_
          refine OWp.leave rfl ?_
          refine OWp.leave rfl ?_
          refine OWp.pickT rfl rfl rfl ?_
          refine OWp.assign rfl rfl ?_
          refine OWp.nil ?_
          refine CWp.ret ?_
          refine RetQ.one (by first | exact .inl rfl | exact .inr rfl) rfl rfl ?_
          exact Q_bool h (by first | (simp [blankB, gapB, *]; done) | (simp [blankB, gapB, *]; omega))
      · skip
        try simp only [Decidable.not_not] at hg2
        try simp only [hg2, eq_self, decide_true, decide_false, not_true_eq_false, not_false_eq_true, Bool.not_true, Bool.not_false]
        refine OWp.leave rfl ?_
        refine OWp.leave rfl ?_
        refine OWp.pickT rfl rfl rfl ?_
        refine OWp.move rfl rfl ?_
        refine OWp.leave rfl ?_
        refine OWp.leave rfl ?_
        refine OWp.pickT rfl rfl rfl ?_
        refine OWp.move rfl rfl ?_
        refine OWp.leave rfl ?_
        refine OWp.leave rfl ?_
        refine OWp.pickT rfl rfl rfl ?_
        refine OWp.assign rfl rfl ?_
        refine OWp.nil ?_
        refine CWp.ret ?_
        refine RetQ.one (by first | exact .inl rfl | exact .inr rfl) rfl rfl ?_
        exact Q_bool h (by first | (simp [blankB, gapB, *]; done) | (simp [blankB, gapB, *]; omega))
    · skip
      try simp only [Decidable.not_not] at hg1
      try simp only [hg1, eq_self, decide_true, decide_false, not_true_eq_false, not_false_eq_true, Bool.not_true, Bool.not_false]
      refine OWp.leave rfl ?_
      refine OWp.leave rfl ?_
      refine OWp.pickT rfl rfl rfl ?_
      refine OWp.move rfl rfl ?_
      refine OWp.leave rfl ?_
      refine OWp.leave rfl ?_
      refine OWp.pickT rfl rfl rfl ?_
      refine OWp.move rfl rfl ?_
      refine OWp.leave rfl ?_
      refine OWp.leave rfl ?_
      refine OWp.pickT rfl rfl rfl ?_
      refine OWp.move rfl rfl ?_
      refine OWp.leave rfl ?_
      refine OWp.leave rfl ?_
      refine OWp.pickT rfl rfl rfl ?_
      refine OWp.assign rfl rfl ?_
      refine OWp.nil ?_
      refine CWp.ret ?_
      refine RetQ.one (by first | exact .inl rfl | exact .inr rfl) rfl rfl ?_
      exact Q_bool h (by first | (simp [blankB, gapB, *]; done) | (simp [blankB, gapB, *]; omega))
  · skip
    try simp only [Decidable.not_not] at hg0
    try simp only [hg0, eq_self, decide_true, decide_false, not_true_eq_false, not_false_eq_true, Bool.not_true, Bool.not_false]
    refine OWp.leave rfl ?_
    refine OWp.leave rfl ?_
    refine OWp.pickF rfl rfl rfl ?_
    refine OWp.move rfl rfl ?_
    refine OWp.move rfl rfl ?_
    refine OWp.binI rfl rfl rfl rfl rfl ?_
    refine OWp.pickF rfl rfl rfl ?_
    refine OWp.move rfl rfl ?_
    first | refine OWp.byF rfl (fun hg1 => ?_) (fun hg1 => ?_) | refine OWp.byBF rfl (fun hg1 => ?_) (fun hg1 => ?_)
    · skip
      try simp only [Decidable.not_not] at hg1
      try simp only [hg1, eq_self, decide_true, decide_false, not_true_eq_false, not_false_eq_true, Bool.not_true, Bool.not_false]
      refine OWp.move rfl rfl ?_
      refine OWp.binI rfl rfl rfl rfl rfl ?_
      refine OWp.pickF rfl rfl rfl ?_
      refine OWp.move rfl rfl ?_
      first | refine OWp.byF rfl (fun hg2 => ?_) (fun hg2 => ?_) | refine OWp.byBF rfl (fun hg2 => ?_) (fun hg2 => ?_)
      · skip
        try simp only [Decidable.not_not] at hg2
        try simp only [hg2, eq_self, decide_true, decide_false, not_true_eq_false, not_false_eq_true, Bool.not_true, Bool.not_false]
        refine OWp.move rfl rfl ?_
        refine OWp.binI rfl rfl rfl rfl rfl ?_
        refine OWp.pickF rfl rfl rfl ?_
        refine OWp.move rfl rfl ?_
        first | refine OWp.byF rfl (fun hg3 => ?_) (fun hg3 => ?_) | refine OWp.byBF rfl (fun hg3 => ?_) (fun hg3 => ?_)
        · skip
          try simp only [Decidable.not_not] at hg3
          try simp only [hg3, eq_self, decide_true, decide_false, not_true_eq_false, not_false_eq_true, Bool.not_true, Bool.not_false]
          refine OWp.move rfl rfl ?_
          refine OWp.binI rfl rfl rfl rfl rfl ?_
          refine OWp.pickF rfl rfl rfl ?_
          refine OWp.assign rfl rfl ?_
          refine OWp.nil ?_
          refine CWp.ret ?_
          refine RetQ.one (by first | exact .inl rfl | exact .inr rfl) rfl rfl ?_
          exact Q_bool h (by first | (simp [blankB, gapB, *]; done) | (simp [blankB, gapB, *]; omega))
        · skip
          try simp only [Decidable.not_not] at hg3
          try simp only [hg3, eq_self, decide_true, decide_false, not_true_eq_false, not_false_eq_true, Bool.not_true, Bool.not_false]
          refine OWp.leave rfl ?_
          refine OWp.leave rfl ?_
          refine OWp.pickT rfl rfl rfl ?_
          refine OWp.assign rfl rfl ?_
          refine OWp.nil ?_
          refine CWp.ret ?_
          refine RetQ.one (by first | exact .inl rfl | exact .inr rfl) rfl rfl ?_
          exact Q_bool h (by first | (simp [blankB, gapB, *]; done) | (simp [blankB, gapB, *]; omega))
      · skip
        try simp only [Decidable.not_not] at hg2
        try simp only [hg2, eq_self, decide_true, decide_false, not_true_eq_false, not_false_eq_true, Bool.not_true, Bool.not_false]
        refine OWp.leave rfl ?_
        refine OWp.leave rfl ?_
        refine OWp.pickT rfl rfl rfl ?_
        refine OWp.move rfl rfl ?_
        refine OWp.leave rfl ?_
        refine OWp.leave rfl ?_
        refine OWp.pickT rfl rfl rfl ?_
        refine OWp.assign rfl rfl ?_
        refine OWp.nil ?_
        refine CWp.ret ?_
        refine RetQ.one (by first | exact .inl rfl | exact .inr rfl) rfl rfl ?_
        exact Q_bool h (by first | (simp [blankB, gapB, *]; done) | (simp [blankB, gapB, *]; omega))
    · skip
      try simp only [Decidable.not_not] at hg1
      try simp only [hg1, eq_self, decide_true, decide_false, not_true_eq_false, not_false_eq_true, Bool.not_true, Bool.not_false]
      refine OWp.leave rfl ?_
      refine OWp.leave rfl ?_
      refine OWp.pickT rfl rfl rfl ?_
      refine OWp.move rfl rfl ?_
      refine OWp.leave rfl ?_
      refine OWp.leave rfl ?_
      refine OWp.pickT rfl rfl rfl ?_
      refine OWp.move rfl rfl ?_
      refine OWp.leave rfl ?_
      refine OWp.leave rfl ?_
      refine OWp.pickT rfl rfl rfl ?_
      refine OWp.assign rfl rfl ?_
      refine OWp.nil ?_
      refine CWp.ret ?_
      refine RetQ.one (by first | exact .inl rfl | exact .inr rfl) rfl rfl ?_
      exact Q_bool h (by first | (simp [blankB, gapB, *]; done) | (simp [blankB, gapB, *]; omega))

theorem blank_spec (c : Int) (H : AH) (Q : Value → AH → Prop) (h : Q (.bool (blankB c)) H) : FWp Tryd.prog prims 42 [.int .i32 c] H Q := by
  refine FWp.enter (rfl) Tryd.func42 rfl (e := [.int .i32 c, undef, undef, undef, undef, undef, undef, undef, undef, undef, undef, undef, undef, undef]) rfl ?_
  refine CWp.seq ?_
  refine CWp.region ?_
  refine OWp.assign rfl rfl ?_
  refine OWp.nil ?_
  refine CWp.seq ?_
  refine CWp.seq ?_
  refine CWp.region ?_
  refine OWp.move rfl rfl ?_
  refine OWp.nil ?_
  refine CWp.block ?_
  refine CWp.seq ?_
  refine CWp.seq ?_
  refine CWp.region ?_
  refine OWp.binI rfl rfl rfl rfl rfl ?_
  refine OWp.assign rfl rfl ?_
  refine OWp.nil ?_
  first | refine CWp.condP rfl (fun h0 => ?_) (fun h0 => ?_) | refine CWp.cond rfl (fun h0 => ?_) (fun h0 => ?_)
  · skip
    try simp only [h0, eq_self, decide_true, decide_false, not_true_eq_false, not_false_eq_true, Bool.not_true, Bool.not_false]
    refine CWp.skip ?_
    refine CWp.condT rfl ?_
    refine CWp.seq ?_
    refine CWp.region ?_
    refine OWp.assign rfl rfl ?_
    refine OWp.nil ?_
    refine CWp.ret ?_
    refine RetQ.one (by first | exact .inl rfl | exact .inr rfl) rfl rfl ?_
    exact Q_bool h (by first | (simp [blankB, gapB, *]; done) | (simp [blankB, gapB, *]; omega))
  · skip
    try simp only [h0, eq_self, decide_true, decide_false, not_true_eq_false, not_false_eq_true, Bool.not_true, Bool.not_false]
    refine CWp.seq ?_
    refine CWp.region ?_
    refine OWp.binI rfl rfl rfl rfl rfl ?_
    refine OWp.assign rfl rfl ?_
    refine OWp.nil ?_
    first | refine CWp.condP rfl (fun h1 => ?_) (fun h1 => ?_) | refine CWp.cond rfl (fun h1 => ?_) (fun h1 => ?_)
    · skip
      try simp only [h1, eq_self, decide_true, decide_false, not_true_eq_false, not_false_eq_true, Bool.not_true, Bool.not_false]
      refine CWp.skip ?_
      refine CWp.condT rfl ?_
      refine CWp.seq ?_
      refine CWp.region ?_
      refine OWp.assign rfl rfl ?_
      refine OWp.nil ?_
      refine CWp.ret ?_
      refine RetQ.one (by first | exact .inl rfl | exact .inr rfl) rfl rfl ?_
      exact Q_bool h (by first | (simp [blankB, gapB, *]; done) | (simp [blankB, gapB, *]; omega))
    · skip
      try simp only [h1, eq_self, decide_true, decide_false, not_true_eq_false, not_false_eq_true, Bool.not_true, Bool.not_false]
      refine CWp.seq ?_
      refine CWp.region ?_
      refine OWp.binI rfl rfl rfl rfl rfl ?_
      refine OWp.assign rfl rfl ?_
      refine OWp.nil ?_
      first | refine CWp.condP rfl (fun h2 => ?_) (fun h2 => ?_) | refine CWp.cond rfl (fun h2 => ?_) (fun h2 => ?_)
      · skip
        try simp only [h2, eq_self, decide_true, decide_false, not_true_eq_false, not_false_eq_true, Bool.not_true, Bool.not_false]
        refine CWp.skip ?_
        refine CWp.condT rfl ?_
        refine CWp.seq ?_
        refine CWp.region ?_
        refine OWp.assign rfl rfl ?_
        refine OWp.nil ?_
        refine CWp.ret ?_
        refine RetQ.one (by first | exact .inl rfl | exact .inr rfl) rfl rfl ?_
        exact Q_bool h (by first | (simp [blankB, gapB, *]; done) | (simp [blankB, gapB, *]; omega))
      · skip
        try simp only [h2, eq_self, decide_true, decide_false, not_true_eq_false, not_false_eq_true, Bool.not_true, Bool.not_false]
        refine CWp.seq ?_
        refine CWp.region ?_
        refine OWp.binI rfl rfl rfl rfl rfl ?_
        refine OWp.assign rfl rfl ?_
        refine OWp.nil ?_
        first | refine CWp.condP rfl (fun h3 => ?_) (fun h3 => ?_) | refine CWp.cond rfl (fun h3 => ?_) (fun h3 => ?_)
        · skip
          try simp only [h3, eq_self, decide_true, decide_false, not_true_eq_false, not_false_eq_true, Bool.not_true, Bool.not_false]
          refine CWp.skip ?_
          refine CWp.condT rfl ?_
          refine CWp.seq ?_
          refine CWp.region ?_
          refine OWp.assign rfl rfl ?_
          refine OWp.nil ?_
          refine CWp.ret ?_
          refine RetQ.one (by first | exact .inl rfl | exact .inr rfl) rfl rfl ?_
          exact Q_bool h (by first | (simp [blankB, gapB, *]; done) | (simp [blankB, gapB, *]; omega))
        · skip
          try simp only [h3, eq_self, decide_true, decide_false, not_true_eq_false, not_false_eq_true, Bool.not_true, Bool.not_false]
          refine CWp.seq ?_
          refine CWp.region ?_
          refine OWp.binI rfl rfl rfl rfl rfl ?_
          refine OWp.assign rfl rfl ?_
          refine OWp.nil ?_
          first | refine CWp.condP rfl (fun h4 => ?_) (fun h4 => ?_) | refine CWp.cond rfl (fun h4 => ?_) (fun h4 => ?_)
          · skip
            try simp only [h4, eq_self, decide_true, decide_false, not_true_eq_false, not_false_eq_true, Bool.not_true, Bool.not_false]
            refine CWp.skip ?_
            refine CWp.condT rfl ?_
            refine CWp.seq ?_
            refine CWp.region ?_
            refine OWp.assign rfl rfl ?_
            refine OWp.nil ?_
            refine CWp.ret ?_
            refine RetQ.one (by first | exact .inl rfl | exact .inr rfl) rfl rfl ?_
            exact Q_bool h (by first | (simp [blankB, gapB, *]; done) | (simp [blankB, gapB, *]; omega))
          · skip
            try simp only [h4, eq_self, decide_true, decide_false, not_true_eq_false, not_false_eq_true, Bool.not_true, Bool.not_false]
            refine CWp.seq ?_
            refine CWp.region ?_
            refine OWp.binI rfl rfl rfl rfl rfl ?_
            refine OWp.assign rfl rfl ?_
            refine OWp.nil ?_
            first | refine CWp.condP rfl (fun h5 => ?_) (fun h5 => ?_) | refine CWp.cond rfl (fun h5 => ?_) (fun h5 => ?_)
            · skip
              try simp only [h5, eq_self, decide_true, decide_false, not_true_eq_false, not_false_eq_true, Bool.not_true, Bool.not_false]
              refine CWp.skip ?_
              refine CWp.condT rfl ?_
              refine CWp.seq ?_
              refine CWp.region ?_
              refine OWp.assign rfl rfl ?_
              refine OWp.nil ?_
              refine CWp.ret ?_
              refine RetQ.one (by first | exact .inl rfl | exact .inr rfl) rfl rfl ?_
              exact Q_bool h (by first | (simp [blankB, gapB, *]; done) | (simp [blankB, gapB, *]; omega))
            · skip
              try simp only [h5, eq_self, decide_true, decide_false, not_true_eq_false, not_false_eq_true, Bool.not_true, Bool.not_false]
              refine CWp.seq ?_
              refine CWp.region ?_
              refine OWp.binI rfl rfl rfl rfl rfl ?_
              refine OWp.assign rfl rfl ?_
              refine OWp.nil ?_
              first | refine CWp.condP rfl (fun h6 => ?_) (fun h6 => ?_) | refine CWp.cond rfl (fun h6 => ?_) (fun h6 => ?_)
              · skip
                try simp only [h6, eq_self, decide_true, decide_false, not_true_eq_false, not_false_eq_true, Bool.not_true, Bool.not_false]
                refine CWp.skip ?_
                refine CWp.condT rfl ?_
                refine CWp.seq ?_
                refine CWp.region ?_
                refine OWp.assign rfl rfl ?_
                refine OWp.nil ?_
                refine CWp.ret ?_
                refine RetQ.one (by first | exact .inl rfl | exact .inr rfl) rfl rfl ?_
                exact Q_bool h (by first | (simp [blankB, gapB, *]; done) | (simp [blankB, gapB, *]; omega))
              · skip
                try simp only [h6, eq_self, decide_true, decide_false, not_true_eq_false, not_false_eq_true, Bool.not_true, Bool.not_false]
                refine CWp.seq ?_
                refine CWp.region ?_
                refine OWp.binI rfl rfl rfl rfl rfl ?_
                refine OWp.assign rfl rfl ?_
                refine OWp.nil ?_
                first | refine CWp.condP rfl (fun h7 => ?_) (fun h7 => ?_) | refine CWp.cond rfl (fun h7 => ?_) (fun h7 => ?_)
                · skip
                  try simp only [h7, eq_self, decide_true, decide_false, not_true_eq_false, not_false_eq_true, Bool.not_true, Bool.not_false]
                  refine CWp.skip ?_
                  refine CWp.condT rfl ?_
                  refine CWp.seq ?_
                  refine CWp.region ?_
                  refine OWp.assign rfl rfl ?_
                  refine OWp.nil ?_
                  refine CWp.ret ?_
                  refine RetQ.one (by first | exact .inl rfl | exact .inr rfl) rfl rfl ?_
                  exact Q_bool h (by first | (simp [blankB, gapB, *]; done) | (simp [blankB, gapB, *]; omega))
                · skip
                  try simp only [h7, eq_self, decide_true, decide_false, not_true_eq_false, not_false_eq_true, Bool.not_true, Bool.not_false]
                  refine CWp.region ?_
                  refine OWp.binI rfl rfl rfl rfl rfl ?_
                  refine OWp.assign rfl rfl ?_
                  refine OWp.nil ?_
                  first | refine CWp.condP rfl (fun h8 => ?_) (fun h8 => ?_) | refine CWp.cond rfl (fun h8 => ?_) (fun h8 => ?_)
                  · skip
                    try simp only [h8, eq_self, decide_true, decide_false, not_true_eq_false, not_false_eq_true, Bool.not_true, Bool.not_false]
                    refine CWp.seq ?_
                    refine CWp.region ?_
                    refine OWp.assign rfl rfl ?_
                    refine OWp.nil ?_
                    refine CWp.ret ?_
                    refine RetQ.one (by first | exact .inl rfl | exact .inr rfl) rfl rfl ?_
                    exact Q_bool h (by first | (simp [blankB, gapB, *]; done) | (simp [blankB, gapB, *]; omega))
                  · skip
                    try simp only [h8, eq_self, decide_true, decide_false, not_true_eq_false, not_false_eq_true, Bool.not_true, Bool.not_false]
                    refine CWp.skip ?_
                    refine CWp.seq ?_
                    refine CWp.region ?_
                    refine OWp.assign rfl rfl ?_
                    refine OWp.nil ?_
                    refine CWp.ret ?_
                    refine RetQ.one (by first | exact .inl rfl | exact .inr rfl) rfl rfl ?_
                    exact Q_bool h (by first | (simp [blankB, gapB, *]; done) | (simp [blankB, gapB, *]; omega))

theorem blankRv_spec (c : Int) (H : AH) (Q : Value → AH → Prop) (h : ∀ b, b = blankB c → Q (.bool b) H) : FWp Tryd.prog prims 22 [.int .i32 c] H Q := blankR_spec c H Q (h _ rfl)
theorem blankv_spec (c : Int) (H : AH) (Q : Value → AH → Prop) (h : ∀ b, b = blankB c → Q (.bool b) H) : FWp Tryd.prog prims 42 [.int .i32 c] H Q := blank_spec c H Q (h _ rfl)

theorem indent_spec (s : ByteArray) (hs : s.size ≤ 9000000) (H : AH) (Q : Value → AH → Prop) (h : ∀ i : Nat, GapEnd s i → Q (.tuple #[.int .i64 (colAt s i), .int .i64 i]) H) : FWp Tryd.prog prims 24 [.string s] H Q := by
  refine FWp.enter (rfl) Tryd.func24 rfl (e := [.string s, undef, undef, undef, undef, undef, undef, undef, undef, undef, undef, undef, undef, undef, undef, undef, undef, undef, undef, undef, undef, undef, undef, undef, undef]) rfl ?_
  refine CWp.seq ?_
  refine CWp.region ?_
  refine OWp.assign rfl rfl ?_
  refine OWp.assign rfl rfl ?_
  refine OWp.nil ?_
  refine CWp.seq ?_
  refine CWp.region ?_
  refine OWp.assign rfl rfl ?_
  refine OWp.assign rfl rfl ?_
  refine OWp.nil ?_
  refine CWp.seq ?_
  refine CWp.block ?_
  refine CWp.loop (fun k e H' => ∃ (i : Nat) (t1 t2 t3 t6 t7 t8 t9 t10 t11 t12 t13 t14 t15 t16 t17 t18 t19 t20 t21 t22 t23 t24 : Value), e = [.string s, t1, t2, t3, .int .i64 (colAt s i), .int .i64 (i : Nat), t6, t7, t8, t9, t10, t11, t12, t13, t14, t15, t16, t17, t18, t19, t20, t21, t22, t23, t24] ∧ k = s.size - i ∧ H' = H ∧ i ≤ s.size ∧ ∀ j : Nat, j < i → gapB (byteAt s j)) ?_ ?_
  · exact ⟨_, 0, _, _, _, _, _, _, _, _, _, _, _, _, _, _, _, _, _, _, _, _, _, _, rfl, rfl, rfl, by omega, fun j h1 => by omega⟩
  · rintro k e H' ⟨i, t1, t2, t3, t6, t7, t8, t9, t10, t11, t12, t13, t14, t15, t16, t17, t18, t19, t20, t21, t22, t23, t24, rfl, rfl, rfl, hi1, hj⟩
    have hcl := colAt_le s i
    refine CWp.seq ?_
    refine CWp.seq ?_
    refine CWp.region ?_
    refine OWp.move rfl rfl ?_
    refine OWp.move rfl rfl ?_
    refine OWp.lenS rfl rfl rfl rfl rfl Tryd.underlying9 rfl ?_
    refine OWp.binI rfl rfl rfl rfl rfl ?_
    refine OWp.move rfl rfl ?_
    first | refine OWp.byT rfl (fun hg1 => ?_) (fun hg1 => ?_) | refine OWp.byBT rfl (fun hg1 => ?_) (fun hg1 => ?_)
    · skip
      try simp only [Decidable.not_not] at hg1
      try simp only [hg1, eq_self, decide_true, decide_false, not_true_eq_false, not_false_eq_true, Bool.not_true, Bool.not_false]
      refine OWp.move rfl rfl ?_
      refine OWp.move rfl rfl ?_
      refine OWp.indexS rfl rfl Tryd.underlying9 rfl rfl (by omega) (by omega) ?_
      refine OWp.call rfl rfl rfl rfl ?_
      refine gap_spec _ _ _ (fun b hb => ?_)
      refine OWp.norm ?_
      refine OWp.pickT rfl rfl rfl ?_
      refine OWp.nil ?_
      first | refine CWp.condP rfl (fun h2 => ?_) (fun h2 => ?_) | refine CWp.cond rfl (fun h2 => ?_) (fun h2 => ?_)
      · skip
        try simp only [h2, eq_self, decide_true, decide_false, not_true_eq_false, not_false_eq_true, Bool.not_true, Bool.not_false]
        refine CWp.skip ?_
        refine CWp.block ?_
        refine CWp.seq ?_
        refine CWp.region ?_
        refine OWp.move rfl rfl ?_
        refine OWp.move rfl rfl ?_
        refine OWp.move rfl rfl ?_
        refine OWp.indexS rfl rfl Tryd.underlying9 rfl rfl (by omega) (by omega) ?_
        refine OWp.call rfl rfl rfl rfl ?_
        refine step_spec _ _ (by omega) _ _ ?_
        refine OWp.norm ?_
        refine OWp.assign rfl rfl ?_
        refine OWp.nil ?_
        refine CWp.region ?_
        refine OWp.move rfl rfl ?_
        refine OWp.addI rfl rfl rfl rfl (by omega) ?_
        refine OWp.assign rfl rfl ?_
        refine OWp.nil ?_
        exact ⟨_, by omega, i + 1, _, _, _, _, _, _, _, _, _, _, _, _, _, _, _, _, _, _, _, _, _, _, rfl, rfl, rfl, by omega, fun j a => by by_cases e : j = i; exact e ▸ (hb.1 (by assumption)); exact hj j (by omega)⟩
      · skip
        try simp only [h2, eq_self, decide_true, decide_false, not_true_eq_false, not_false_eq_true, Bool.not_true, Bool.not_false]
        refine CWp.exit ?_
        refine CWp.seq ?_
        refine CWp.region ?_
        refine OWp.move rfl rfl ?_
        refine OWp.move rfl rfl ?_
        refine OWp.assign rfl rfl ?_
        refine OWp.assign rfl rfl ?_
        refine OWp.nil ?_
        refine CWp.ret ?_
        refine RetQ.two (by first | exact .inl rfl | exact .inr rfl) rfl rfl rfl rfl rfl ?_
        exact h i ⟨by omega, hj, fun _ hgap => by first | omega | (have := hb.2 hgap; simp_all)⟩
    · skip
      try simp only [Decidable.not_not] at hg1
      try simp only [hg1, eq_self, decide_true, decide_false, not_true_eq_false, not_false_eq_true, Bool.not_true, Bool.not_false]
      refine OWp.leave rfl ?_
      refine OWp.leave rfl ?_
      refine OWp.leave rfl ?_
      refine OWp.leave rfl ?_
      refine OWp.pickF rfl rfl rfl ?_
      refine OWp.nil ?_
      refine CWp.condF rfl ?_
      refine CWp.exit ?_
      refine CWp.seq ?_
      refine CWp.region ?_
      refine OWp.move rfl rfl ?_
      refine OWp.move rfl rfl ?_
      refine OWp.assign rfl rfl ?_
      refine OWp.assign rfl rfl ?_
      refine OWp.nil ?_
      refine CWp.ret ?_
      refine RetQ.two (by first | exact .inl rfl | exact .inr rfl) rfl rfl rfl rfl rfl ?_
      exact h i ⟨by omega, hj, fun _ hgap => by first | omega | (have := hb.2 hgap; simp_all)⟩

theorem run_spec (s : ByteArray) (hs : s.size ≤ 9000000) (a : Nat) (c : Int) (ha : a ≤ s.size) (H : AH) (Q : Value → AH → Prop) (h : ∀ n : Nat, RunEnd s a c n → Q (.int .i64 n) H) : FWp Tryd.prog prims 35 [.string s, .int .i64 (a : Nat), .int .u8 c] H Q := by
  refine FWp.enter (rfl) Tryd.func35 rfl (e := [.string s, .int .i64 (a : Nat), .int .u8 c, undef, undef, undef, undef, undef, undef, undef, undef, undef, undef, undef, undef, undef, undef, undef, undef, undef, undef, undef, undef, undef, undef, undef, undef, undef, undef, undef]) rfl ?_
  refine CWp.seq ?_
  refine CWp.region ?_
  refine OWp.assign rfl rfl ?_
  refine OWp.nil ?_
  refine CWp.seq ?_
  refine CWp.region ?_
  refine OWp.assign rfl rfl ?_
  refine OWp.nil ?_
  refine CWp.seq ?_
  refine CWp.block ?_
  refine CWp.loop (fun k e H' => ∃ (n : Nat) (t3 t4 t5 t6 t8 t9 t10 t11 t12 t13 t14 t15 t16 t17 t18 t19 t20 t21 t22 t23 t24 t25 t26 t27 t28 t29 : Value), e = [.string s, .int .i64 (a : Nat), .int .u8 c, t3, t4, t5, t6, .int .i64 (n : Nat), t8, t9, t10, t11, t12, t13, t14, t15, t16, t17, t18, t19, t20, t21, t22, t23, t24, t25, t26, t27, t28, t29] ∧ k = s.size - n ∧ H' = H ∧ a + n ≤ s.size ∧ ∀ j : Nat, j < n → byteAt s (a + j : Nat) = c) ?_ ?_
  · exact ⟨_, 0, _, _, _, _, _, _, _, _, _, _, _, _, _, _, _, _, _, _, _, _, _, _, _, _, _, _, rfl, rfl, rfl, by omega, fun j h1 => by omega⟩
  · rintro k e H' ⟨n, t3, t4, t5, t6, t8, t9, t10, t11, t12, t13, t14, t15, t16, t17, t18, t19, t20, t21, t22, t23, t24, t25, t26, t27, t28, t29, rfl, rfl, rfl, hn, hj⟩
    refine CWp.seq ?_
    refine CWp.seq ?_
    refine CWp.region ?_
    refine OWp.move rfl rfl ?_
    refine OWp.binI rfl rfl rfl rfl rfl ?_
    refine OWp.move rfl rfl ?_
    first | refine OWp.byT rfl (fun hg1 => ?_) (fun hg1 => ?_) | refine OWp.byBT rfl (fun hg1 => ?_) (fun hg1 => ?_)
    · skip
      try simp only [Decidable.not_not] at hg1
      try simp only [hg1, eq_self, decide_true, decide_false, not_true_eq_false, not_false_eq_true, Bool.not_true, Bool.not_false]
      refine OWp.move rfl rfl ?_
      refine OWp.move rfl rfl ?_
      refine OWp.addI rfl rfl rfl rfl (by omega) ?_
      refine OWp.move rfl rfl ?_
      refine OWp.lenS rfl rfl rfl rfl rfl Tryd.underlying9 rfl ?_
      refine OWp.binI rfl rfl rfl rfl rfl ?_
      refine OWp.pickT rfl rfl rfl ?_
      refine OWp.move rfl rfl ?_
      first | refine OWp.byT rfl (fun hg2 => ?_) (fun hg2 => ?_) | refine OWp.byBT rfl (fun hg2 => ?_) (fun hg2 => ?_)
      · skip
        try simp only [Decidable.not_not] at hg2
        try simp only [hg2, eq_self, decide_true, decide_false, not_true_eq_false, not_false_eq_true, Bool.not_true, Bool.not_false]
        refine OWp.move rfl rfl ?_
        refine OWp.move rfl rfl ?_
        refine OWp.move rfl rfl ?_
        refine OWp.addI rfl rfl rfl rfl (by omega) ?_
        refine OWp.indexS rfl rfl Tryd.underlying9 rfl rfl (by omega) (by omega) ?_
        refine OWp.move rfl rfl ?_
        refine OWp.binI rfl rfl rfl rfl rfl ?_
        refine OWp.pickT rfl rfl rfl ?_
        refine OWp.nil ?_
        first | refine CWp.condP rfl (fun h3 => ?_) (fun h3 => ?_) | refine CWp.cond rfl (fun h3 => ?_) (fun h3 => ?_)
        · skip
          try simp only [h3, eq_self, decide_true, decide_false, not_true_eq_false, not_false_eq_true, Bool.not_true, Bool.not_false]
          refine CWp.skip ?_
          refine CWp.block ?_
          refine CWp.region ?_
          refine OWp.move rfl rfl ?_
          refine OWp.addI rfl rfl rfl rfl (by omega) ?_
          refine OWp.assign rfl rfl ?_
          refine OWp.nil ?_
          exact ⟨_, by omega, n + 1, _, _, _, _, _, _, _, _, _, _, _, _, _, _, _, _, _, _, _, _, _, _, _, _, _, _, rfl, rfl, rfl, by omega, fun j a => by by_cases e : j = n; exact e ▸ (by assumption); exact hj j (by omega)⟩
        · skip
          try simp only [h3, eq_self, decide_true, decide_false, not_true_eq_false, not_false_eq_true, Bool.not_true, Bool.not_false]
          refine CWp.exit ?_
          refine CWp.seq ?_
          refine CWp.region ?_
          refine OWp.move rfl rfl ?_
          refine OWp.assign rfl rfl ?_
          refine OWp.nil ?_
          refine CWp.ret ?_
          refine RetQ.one (by first | exact .inl rfl | exact .inr rfl) rfl rfl ?_
          exact h n ⟨hn, hj, fun hlt => by first | omega | assumption⟩
      · skip
        try simp only [Decidable.not_not] at hg2
        try simp only [hg2, eq_self, decide_true, decide_false, not_true_eq_false, not_false_eq_true, Bool.not_true, Bool.not_false]
        refine OWp.leave rfl ?_
        refine OWp.leave rfl ?_
        refine OWp.leave rfl ?_
        refine OWp.leave rfl ?_
        refine OWp.leave rfl ?_
        refine OWp.leave rfl ?_
        refine OWp.leave rfl ?_
        refine OWp.pickF rfl rfl rfl ?_
        refine OWp.nil ?_
        refine CWp.condF rfl ?_
        refine CWp.exit ?_
        refine CWp.seq ?_
        refine CWp.region ?_
        refine OWp.move rfl rfl ?_
        refine OWp.assign rfl rfl ?_
        refine OWp.nil ?_
        refine CWp.ret ?_
        refine RetQ.one (by first | exact .inl rfl | exact .inr rfl) rfl rfl ?_
        exact h n ⟨hn, hj, fun hlt => by first | omega | assumption⟩
    · skip
      try simp only [Decidable.not_not] at hg1
      try simp only [hg1, eq_self, decide_true, decide_false, not_true_eq_false, not_false_eq_true, Bool.not_true, Bool.not_false]
      refine OWp.leave rfl ?_
      refine OWp.leave rfl ?_
      refine OWp.leave rfl ?_
      refine OWp.leave rfl ?_
      refine OWp.leave rfl ?_
      refine OWp.leave rfl ?_
      refine OWp.pickF rfl rfl rfl ?_
      refine OWp.move rfl rfl ?_
      refine OWp.leave rfl ?_
      refine OWp.leave rfl ?_
      refine OWp.leave rfl ?_
      refine OWp.leave rfl ?_
      refine OWp.leave rfl ?_
      refine OWp.leave rfl ?_
      refine OWp.leave rfl ?_
      refine OWp.pickF rfl rfl rfl ?_
      refine OWp.nil ?_
      refine CWp.condF rfl ?_
      refine CWp.exit ?_
      refine CWp.seq ?_
      refine CWp.region ?_
      refine OWp.move rfl rfl ?_
      refine OWp.assign rfl rfl ?_
      refine OWp.nil ?_
      refine CWp.ret ?_
      refine RetQ.one (by first | exact .inl rfl | exact .inr rfl) rfl rfl ?_
      exact h n ⟨hn, hj, fun hlt => by first | omega | assumption⟩

theorem hasPrefix_spec (s p : ByteArray) (hs : s.size ≤ 9000000) (hp : p.size ≤ 9000000) (H : AH) (Q : Value → AH → Prop) (h : ∀ b : Bool, (b = true ↔ PrefB s p) → Q (.bool b) H) : FWp Tryd.prog prims 46 [.string s, .string p] H Q := by
  refine FWp.enter (rfl) Tryd.func46 rfl (e := [.string s, .string p, undef, undef, undef, undef, undef, undef, undef, undef, undef, undef, undef, undef, undef, undef, undef, undef]) rfl ?_
  refine CWp.seq ?_
  refine CWp.region ?_
  refine OWp.assign rfl rfl ?_
  refine OWp.nil ?_
  refine CWp.seq ?_
  refine CWp.region ?_
  refine OWp.move rfl rfl ?_
  refine OWp.lenS rfl rfl rfl rfl rfl Tryd.underlying9 rfl ?_
  refine OWp.move rfl rfl ?_
  refine OWp.lenS rfl rfl rfl rfl rfl Tryd.underlying9 rfl ?_
  refine OWp.binI rfl rfl rfl rfl rfl ?_
  refine OWp.move rfl rfl ?_
  first | refine OWp.byT rfl (fun hg0 => ?_) (fun hg0 => ?_) | refine OWp.byBT rfl (fun hg0 => ?_) (fun hg0 => ?_)
  · skip
    try simp only [Decidable.not_not] at hg0
    try simp only [hg0, eq_self, decide_true, decide_false, not_true_eq_false, not_false_eq_true, Bool.not_true, Bool.not_false]
    refine OWp.move rfl rfl ?_
    refine OWp.move rfl rfl ?_
    refine OWp.lenS rfl rfl rfl rfl rfl Tryd.underlying9 rfl ?_
    refine OWp.sliceS rfl rfl Tryd.underlying9 rfl rfl rfl (by omega) (by omega) (by omega) ?_
    refine OWp.move rfl rfl ?_
    refine OWp.binS rfl rfl rfl rfl rfl ?_
    refine OWp.pickT rfl rfl rfl ?_
    refine OWp.assign rfl rfl ?_
    refine OWp.nil ?_
    refine CWp.ret ?_
    refine RetQ.one (by first | exact .inl rfl | exact .inr rfl) rfl rfl ?_
    exact h _ (by simp [PrefB]; omega)
  · skip
    try simp only [Decidable.not_not] at hg0
    try simp only [hg0, eq_self, decide_true, decide_false, not_true_eq_false, not_false_eq_true, Bool.not_true, Bool.not_false]
    refine OWp.leave rfl ?_
    refine OWp.leave rfl ?_
    refine OWp.leave rfl ?_
    refine OWp.leave rfl ?_
    refine OWp.leave rfl ?_
    refine OWp.leave rfl ?_
    refine OWp.pickF rfl rfl rfl ?_
    refine OWp.assign rfl rfl ?_
    refine OWp.nil ?_
    refine CWp.ret ?_
    refine RetQ.one (by first | exact .inl rfl | exact .inr rfl) rfl rfl ?_
    exact h _ (by simp [PrefB]; intro hh; exact absurd (show (s.size : Int) ≥ p.size by omega) hg0)

theorem hasSuffix_spec (s p : ByteArray) (hs : s.size ≤ 9000000) (hp : p.size ≤ 9000000) (H : AH) (Q : Value → AH → Prop) (h : ∀ b : Bool, (b = true ↔ SufB s p) → Q (.bool b) H) : FWp Tryd.prog prims 47 [.string s, .string p] H Q := by
  refine FWp.enter (rfl) Tryd.func47 rfl (e := [.string s, .string p, undef, undef, undef, undef, undef, undef, undef, undef, undef, undef, undef, undef, undef, undef, undef, undef, undef, undef, undef]) rfl ?_
  refine CWp.seq ?_
  refine CWp.region ?_
  refine OWp.assign rfl rfl ?_
  refine OWp.nil ?_
  refine CWp.seq ?_
  refine CWp.region ?_
  refine OWp.move rfl rfl ?_
  refine OWp.lenS rfl rfl rfl rfl rfl Tryd.underlying9 rfl ?_
  refine OWp.move rfl rfl ?_
  refine OWp.lenS rfl rfl rfl rfl rfl Tryd.underlying9 rfl ?_
  refine OWp.binI rfl rfl rfl rfl rfl ?_
  refine OWp.move rfl rfl ?_
  first | refine OWp.byT rfl (fun hg0 => ?_) (fun hg0 => ?_) | refine OWp.byBT rfl (fun hg0 => ?_) (fun hg0 => ?_)
  · skip
    try simp only [Decidable.not_not] at hg0
    try simp only [hg0, eq_self, decide_true, decide_false, not_true_eq_false, not_false_eq_true, Bool.not_true, Bool.not_false]
    refine OWp.move rfl rfl ?_
    refine OWp.move rfl rfl ?_
    refine OWp.lenS rfl rfl rfl rfl rfl Tryd.underlying9 rfl ?_
    refine OWp.move rfl rfl ?_
    refine OWp.lenS rfl rfl rfl rfl rfl Tryd.underlying9 rfl ?_
    refine OWp.subI rfl rfl rfl rfl (by omega) ?_
    refine OWp.sliceS rfl rfl Tryd.underlying9 rfl rfl rfl (by omega) (by omega) (by omega) ?_
    refine OWp.move rfl rfl ?_
    refine OWp.binS rfl rfl rfl rfl rfl ?_
    refine OWp.pickT rfl rfl rfl ?_
    refine OWp.assign rfl rfl ?_
    refine OWp.nil ?_
    refine CWp.ret ?_
    refine RetQ.one (by first | exact .inl rfl | exact .inr rfl) rfl rfl ?_
    exact h _ (by simp [SufB]; omega)
  · skip
    try simp only [Decidable.not_not] at hg0
    try simp only [hg0, eq_self, decide_true, decide_false, not_true_eq_false, not_false_eq_true, Bool.not_true, Bool.not_false]
    refine OWp.leave rfl ?_
    refine OWp.leave rfl ?_
    refine OWp.leave rfl ?_
    refine OWp.leave rfl ?_
    refine OWp.leave rfl ?_
    refine OWp.leave rfl ?_
    refine OWp.leave rfl ?_
    refine OWp.leave rfl ?_
    refine OWp.leave rfl ?_
    refine OWp.pickF rfl rfl rfl ?_
    refine OWp.assign rfl rfl ?_
    refine OWp.nil ?_
    refine CWp.ret ?_
    refine RetQ.one (by first | exact .inl rfl | exact .inr rfl) rfl rfl ?_
    exact h _ (by simp [SufB]; intro hh; exact absurd (show (s.size : Int) ≥ p.size by omega) hg0)

theorem cutPrefixL_spec (s p : ByteArray) (hs : s.size ≤ 9000000) (hp : p.size ≤ 9000000) (H : AH) (Q : Value → AH → Prop) (h : PrefB s p → Q (.tuple #[.string (s.extract p.size s.size), .bool true]) H) (h2 : ¬ PrefB s p → Q (.tuple #[.string s, .bool false]) H) : FWp Tryd.prog prims 36 [.string s, .string p] H Q := by
  refine FWp.enter (rfl) Tryd.func36 rfl (e := [.string s, .string p, undef, undef, undef, undef, undef, undef, undef, undef, undef, undef, undef, undef, undef]) rfl ?_
  refine CWp.seq ?_
  refine CWp.region ?_
  refine OWp.assign rfl rfl ?_
  refine OWp.assign rfl rfl ?_
  refine OWp.nil ?_
  refine CWp.seq ?_
  refine CWp.seq ?_
  refine CWp.region ?_
  refine OWp.move rfl rfl ?_
  refine OWp.move rfl rfl ?_
  refine OWp.call rfl rfl rfl rfl ?_
  refine hasPrefix_spec _ _ (by omega) (by omega) _ _ (fun b hb => ?_)
  refine OWp.norm ?_
  first | refine OWp.notD rfl rfl rfl ?_ | refine OWp.notB rfl rfl rfl ?_
  refine OWp.nil ?_
  first | refine CWp.condP rfl (fun h0 => ?_) (fun h0 => ?_) | refine CWp.cond rfl (fun h0 => ?_) (fun h0 => ?_)
  · skip
    try simp only [h0, eq_self, decide_true, decide_false, not_true_eq_false, not_false_eq_true, Bool.not_true, Bool.not_false]
    refine CWp.seq ?_
    refine CWp.region ?_
    refine OWp.move rfl rfl ?_
    refine OWp.assign rfl rfl ?_
    refine OWp.assign rfl rfl ?_
    refine OWp.nil ?_
    refine CWp.ret ?_
    refine RetQ.two (by first | exact .inl rfl | exact .inr rfl) rfl rfl rfl rfl rfl ?_
    exact h2 (by simp_all)
  · skip
    have hp2 : p.size ≤ s.size := (show PrefB s p by simp_all).1
    try simp only [h0, eq_self, decide_true, decide_false, not_true_eq_false, not_false_eq_true, Bool.not_true, Bool.not_false]
    refine CWp.skip ?_
    refine CWp.seq ?_
    refine CWp.region ?_
    refine OWp.move rfl rfl ?_
    refine OWp.move rfl rfl ?_
    refine OWp.lenS rfl rfl rfl rfl rfl Tryd.underlying9 rfl ?_
    refine OWp.sliceS rfl rfl Tryd.underlying9 rfl rfl rfl (by omega) (by omega) (by omega) ?_
    refine OWp.assign rfl rfl ?_
    refine OWp.assign rfl rfl ?_
    refine OWp.nil ?_
    refine CWp.ret ?_
    refine RetQ.two (by first | exact .inl rfl | exact .inr rfl) rfl rfl rfl rfl rfl ?_
    exact h (by simp_all)

theorem cutSuffixL_spec (s p : ByteArray) (hs : s.size ≤ 9000000) (hp : p.size ≤ 9000000) (H : AH) (Q : Value → AH → Prop) (h : SufB s p → Q (.tuple #[.string (s.extract 0 (s.size - p.size)), .bool true]) H) (h2 : ¬ SufB s p → Q (.tuple #[.string s, .bool false]) H) : FWp Tryd.prog prims 37 [.string s, .string p] H Q := by
  refine FWp.enter (rfl) Tryd.func37 rfl (e := [.string s, .string p, undef, undef, undef, undef, undef, undef, undef, undef, undef, undef, undef, undef, undef, undef, undef, undef]) rfl ?_
  refine CWp.seq ?_
  refine CWp.region ?_
  refine OWp.assign rfl rfl ?_
  refine OWp.assign rfl rfl ?_
  refine OWp.nil ?_
  refine CWp.seq ?_
  refine CWp.seq ?_
  refine CWp.region ?_
  refine OWp.move rfl rfl ?_
  refine OWp.move rfl rfl ?_
  refine OWp.call rfl rfl rfl rfl ?_
  refine hasSuffix_spec _ _ (by omega) (by omega) _ _ (fun b hb => ?_)
  refine OWp.norm ?_
  first | refine OWp.notD rfl rfl rfl ?_ | refine OWp.notB rfl rfl rfl ?_
  refine OWp.nil ?_
  first | refine CWp.condP rfl (fun h0 => ?_) (fun h0 => ?_) | refine CWp.cond rfl (fun h0 => ?_) (fun h0 => ?_)
  · skip
    try simp only [h0, eq_self, decide_true, decide_false, not_true_eq_false, not_false_eq_true, Bool.not_true, Bool.not_false]
    refine CWp.seq ?_
    refine CWp.region ?_
    refine OWp.move rfl rfl ?_
    refine OWp.assign rfl rfl ?_
    refine OWp.assign rfl rfl ?_
    refine OWp.nil ?_
    refine CWp.ret ?_
    refine RetQ.two (by first | exact .inl rfl | exact .inr rfl) rfl rfl rfl rfl rfl ?_
    exact h2 (by simp_all)
  · skip
    have hp2 : p.size ≤ s.size := (show SufB s p by simp_all).1
    try simp only [h0, eq_self, decide_true, decide_false, not_true_eq_false, not_false_eq_true, Bool.not_true, Bool.not_false]
    refine CWp.skip ?_
    refine CWp.seq ?_
    refine CWp.region ?_
    refine OWp.move rfl rfl ?_
    refine OWp.move rfl rfl ?_
    refine OWp.lenS rfl rfl rfl rfl rfl Tryd.underlying9 rfl ?_
    refine OWp.move rfl rfl ?_
    refine OWp.lenS rfl rfl rfl rfl rfl Tryd.underlying9 rfl ?_
    refine OWp.subI rfl rfl rfl rfl (by omega) ?_
    refine OWp.sliceS rfl rfl Tryd.underlying9 rfl rfl rfl (by omega) (by omega) (by omega) ?_
    refine OWp.assign rfl rfl ?_
    refine OWp.assign rfl rfl ?_
    refine OWp.nil ?_
    refine CWp.ret ?_
    refine RetQ.two (by first | exact .inl rfl | exact .inr rfl) rfl rfl rfl rfl rfl ?_
    have e : ((s.size : Int) - p.size).toNat = s.size - p.size := by omega
    rw [← e] at h
    exact h (by simp_all)

theorem cutPrefixP_spec (s p : ByteArray) (hs : s.size ≤ 9000000) (hp : p.size ≤ 9000000) (H : AH) (Q : Value → AH → Prop) (h : ∀ (x : ByteArray) (b : Bool), (PrefB s p → x = s.extract p.size s.size ∧ b = true) → (¬ PrefB s p → x = s ∧ b = false) → Q (.tuple #[.string x, .bool b]) H) : FWp Tryd.prog prims 36 [.string s, .string p] H Q :=
  cutPrefixL_spec s p hs hp H Q (fun hh => h _ _ (fun _ => ⟨rfl, rfl⟩) (fun k => absurd hh k)) (fun hh => h _ _ (fun k => absurd k hh) (fun _ => ⟨rfl, rfl⟩))
theorem cutSuffixP_spec (s p : ByteArray) (hs : s.size ≤ 9000000) (hp : p.size ≤ 9000000) (H : AH) (Q : Value → AH → Prop) (h : ∀ (x : ByteArray) (b : Bool), (SufB s p → x = s.extract 0 (s.size - p.size) ∧ b = true) → (¬ SufB s p → x = s ∧ b = false) → Q (.tuple #[.string x, .bool b]) H) : FWp Tryd.prog prims 37 [.string s, .string p] H Q :=
  cutSuffixL_spec s p hs hp H Q (fun hh => h _ _ (fun _ => ⟨rfl, rfl⟩) (fun k => absurd hh k)) (fun hh => h _ _ (fun k => absurd k hh) (fun _ => ⟨rfl, rfl⟩))

theorem cutPrefix_spec (s p : ByteArray) (hs : s.size ≤ 9000000) (hp : p.size ≤ 9000000) (H : AH) (Q : Value → AH → Prop) (h : PrefB s p → Q (.tuple #[.string (s.extract p.size s.size), .bool true]) H) (h2 : ¬ PrefB s p → Q (.tuple #[.string s, .bool false]) H) : FWp Tryd.prog prims 26 [.string s, .string p] H Q := by
  have key : ∀ (x : ByteArray) (b : Bool), (PrefB s p → x = s.extract p.size s.size ∧ b = true) → (¬ PrefB s p → x = s ∧ b = false) → Q (.tuple #[.string x, .bool b]) H := fun x b k1 k2 => by
      by_cases hh : PrefB s p
      · obtain ⟨rfl, rfl⟩ := k1 hh; exact h hh
      · obtain ⟨rfl, rfl⟩ := k2 hh; exact h2 hh
  clear h h2
  refine FWp.enter (rfl) Tryd.func26 rfl (e := [.string s, .string p, undef, undef, undef, undef, undef, undef, undef, undef, undef]) rfl ?_
  refine CWp.seq ?_
  refine CWp.region ?_
  refine OWp.assign rfl rfl ?_
  refine OWp.assign rfl rfl ?_
  refine OWp.nil ?_
  refine CWp.seq ?_
  refine CWp.region ?_
  refine OWp.move rfl rfl ?_
  refine OWp.move rfl rfl ?_
  refine OWp.call rfl rfl rfl rfl ?_
  refine cutPrefixP_spec _ _ (by omega) (by omega) _ _ (fun x b k1 k2 => ?_)
  refine OWp.norm ?_
  refine OWp.extract rfl rfl rfl rfl ?_
  refine OWp.extract rfl rfl rfl rfl ?_
  refine OWp.assign rfl rfl ?_
  refine OWp.assign rfl rfl ?_
  refine OWp.nil ?_
  refine CWp.ret ?_
  refine RetQ.two (by first | exact .inl rfl | exact .inr rfl) rfl rfl rfl rfl rfl ?_
  exact key _ _ k1 k2

theorem cutSuffix_spec (s p : ByteArray) (hs : s.size ≤ 9000000) (hp : p.size ≤ 9000000) (H : AH) (Q : Value → AH → Prop) (h : SufB s p → Q (.tuple #[.string (s.extract 0 (s.size - p.size)), .bool true]) H) (h2 : ¬ SufB s p → Q (.tuple #[.string s, .bool false]) H) : FWp Tryd.prog prims 27 [.string s, .string p] H Q := by
  have key : ∀ (x : ByteArray) (b : Bool), (SufB s p → x = s.extract 0 (s.size - p.size) ∧ b = true) → (¬ SufB s p → x = s ∧ b = false) → Q (.tuple #[.string x, .bool b]) H := fun x b k1 k2 => by
      by_cases hh : SufB s p
      · obtain ⟨rfl, rfl⟩ := k1 hh; exact h hh
      · obtain ⟨rfl, rfl⟩ := k2 hh; exact h2 hh
  clear h h2
  refine FWp.enter (rfl) Tryd.func27 rfl (e := [.string s, .string p, undef, undef, undef, undef, undef, undef, undef, undef, undef]) rfl ?_
  refine CWp.seq ?_
  refine CWp.region ?_
  refine OWp.assign rfl rfl ?_
  refine OWp.assign rfl rfl ?_
  refine OWp.nil ?_
  refine CWp.seq ?_
  refine CWp.region ?_
  refine OWp.move rfl rfl ?_
  refine OWp.move rfl rfl ?_
  refine OWp.call rfl rfl rfl rfl ?_
  refine cutSuffixP_spec _ _ (by omega) (by omega) _ _ (fun x b k1 k2 => ?_)
  refine OWp.norm ?_
  refine OWp.extract rfl rfl rfl rfl ?_
  refine OWp.extract rfl rfl rfl rfl ?_
  refine OWp.assign rfl rfl ?_
  refine OWp.assign rfl rfl ?_
  refine OWp.nil ?_
  refine CWp.ret ?_
  refine RetQ.two (by first | exact .inl rfl | exact .inr rfl) rfl rfl rfl rfl rfl ?_
  exact key _ _ k1 k2

theorem first_spec (s : ByteArray) (H : AH) (Q : Value → AH → Prop) (h : ∀ H', Keeps H H' → Q (.tuple #[.int .i32 (if 0 < s.size then (Utf8.decode s 0).1 else 0), .bool (decide (0 < s.size))]) H') (hw : WfH H) : FWp Tryd.prog prims 40 [.string s] H Q := by
  refine FWp.enter (rfl) Tryd.func40 rfl (e := [.string s, undef, undef, undef, undef, undef, undef, undef, undef, undef, undef, undef]) rfl ?_
  refine CWp.seq ?_
  refine CWp.region ?_
  refine OWp.assign rfl rfl ?_
  refine OWp.assign rfl rfl ?_
  refine OWp.nil ?_
  refine CWp.seq ?_
  refine CWp.seq ?_
  refine CWp.region ?_
  refine OWp.move rfl rfl ?_
  refine OWp.rangeS hw rfl rfl Tryd.underlying9 rfl (fun H1 i hw1 hk1 hi1 ho1 => ?_)
  refine OWp.norm ?_
  refine OWp.nil ?_
  refine CWp.block ?_
  refine CWp.loop (fun k e H' => ∃ (i : Nat) (t1 t2 t3 t4 t5 t6 t8 t9 t10 t11 : Value), e = [.string s, t1, t2, t3, t4, t5, t6, .pointer (some ⟨i, 0, none⟩), t8, t9, t10, t11] ∧ k = 0 ∧ WfH H' ∧ Keeps H H' ∧ H.next ≤ i ∧ Own H' i (.stringIter s 0) true ∧ True) ?_ ?_
  · exact ⟨_, i, _, _, _, _, _, _, _, _, _, _, rfl, rfl, hw1, hk1, hi1, ho1, trivial⟩
  · rintro k e H' ⟨i, t1, t2, t3, t4, t5, t6, t8, t9, t10, t11, rfl, rfl, hw', hk', hi', hit, _⟩
    refine CWp.seq ?_
    refine CWp.region ?_
    refine OWp.nextS hw' hit rfl rfl rfl (fun hlt H1 hw1 hk1 hot hit1 hse1 hnx => ?_) (fun hge => ?_)
    · refine OWp.norm ?_
      refine OWp.extract rfl rfl rfl rfl ?_
      refine OWp.nil ?_
      refine CWp.seq ?_
      refine CWp.condT rfl ?_
      refine CWp.skip ?_
      refine CWp.block ?_
      refine CWp.seq ?_
      refine CWp.region ?_
      refine OWp.extract rfl rfl rfl rfl ?_
      refine OWp.assign rfl rfl ?_
      refine OWp.nil ?_
      refine CWp.seq ?_
      refine CWp.region ?_
      refine OWp.move rfl rfl ?_
      refine OWp.assign rfl rfl ?_
      refine OWp.assign rfl rfl ?_
      refine OWp.nil ?_
      refine CWp.ret ?_
      refine RetQ.two (by first | exact .inl rfl | exact .inr rfl) rfl rfl rfl rfl rfl ?_
      have hp : 0 < s.size := hlt
      have := h _ (hk1 H hw hk' hi')
      simp only [if_pos hp, decide_eq_true hp] at this
      exact this
    · refine OWp.norm ?_
      refine OWp.extract rfl rfl rfl rfl ?_
      refine OWp.nil ?_
      refine CWp.seq ?_
      refine CWp.condF rfl ?_
      refine CWp.exit ?_
      refine CWp.seq ?_
      refine CWp.region ?_
      refine OWp.assign rfl rfl ?_
      refine OWp.assign rfl rfl ?_
      refine OWp.nil ?_
      refine CWp.ret ?_
      refine RetQ.two (by first | exact .inl rfl | exact .inr rfl) rfl rfl rfl rfl rfl ?_
      have hp : ¬ 0 < s.size := hge
      have := h _ hk'
      simp only [if_neg hp, decide_eq_false hp] at this
      exact this

theorem runesR_spec (s : ByteArray) (hs : s.size ≤ 9000000) (H : AH) (Q : Value → AH → Prop) (h : ∀ H' v, Keeps H H' → Grow H.next H' v 21 (runeV (runes s)) → Q v H') (hw : WfH H) : FWp Tryd.prog prims 21 [.string s] H Q := by
  have hE : elemT Tryd.prog 38 = some 21 := by kernel_rfl
  have hz : zeroT Tryd.prog 21 = some (.int .i32 0) := by kernel_rfl
  have hs1 : szT Tryd.prog 21 = 1 := by kernel_rfl
  have hb4 : bytesT Tryd.prog 21 = 4 := by kernel_rfl
  refine FWp.enter (rfl) Tryd.func21 rfl (e := [.string s, undef, undef, undef, undef, undef, undef, undef, undef, undef, undef, undef, undef, undef, undef, undef]) rfl ?_
  refine CWp.seq ?_
  refine CWp.region ?_
  refine OWp.assign rfl rfl ?_
  refine OWp.nil ?_
  refine CWp.seq ?_
  refine CWp.region ?_
  refine OWp.assign rfl rfl ?_
  refine OWp.nil ?_
  refine CWp.seq ?_
  refine CWp.seq ?_
  refine CWp.region ?_
  refine OWp.move rfl rfl ?_
  refine OWp.rangeS hw rfl rfl Tryd.underlying9 rfl (fun H1 i hw1 hk1 hi1 ho1 => ?_)
  refine OWp.norm ?_
  refine OWp.nil ?_
  refine CWp.block ?_
  refine CWp.loop (fun k e H' => ∃ (i pos : Nat) (v : Value) (l : List Nat) (t1 t2 t4 t5 t6 t8 t9 t10 t11 t12 t13 t14 t15 : Value), e = [.string s, t1, t2, v, t4, t5, t6, .pointer (some ⟨i, 0, none⟩), t8, t9, t10, t11, t12, t13, t14, t15] ∧ k = s.size - pos ∧ WfH H' ∧ Keeps H H' ∧ H.next ≤ i ∧ Own H' i (.stringIter s pos) true ∧ Grow H.next H' v 21 (runeV l) ∧ l ++ runesF s (s.size - pos) pos = runes s ∧ l.length ≤ s.size ∧ (pos < s.size → l.length ≤ pos)) ?_ ?_
  · exact ⟨_, i, 0, _, [], _, _, _, _, _, _, _, _, _, _, _, _, _, rfl, rfl, hw1, hk1, hi1, ho1, .inl ⟨rfl, rfl⟩, rfl, by simp, by simp⟩
  · rintro k e H' ⟨i, pos, v, l, t1, t2, t4, t5, t6, t8, t9, t10, t11, t12, t13, t14, t15, rfl, rfl, hw', hk', hi', hit, hgr, hl, hll, hlp⟩
    refine CWp.seq ?_
    refine CWp.region ?_
    refine OWp.nextS hw' hit rfl rfl rfl (fun hlt H1 hw1 hk1 hot hit1 hse1 hnx => ?_) (fun hge => ?_)
    · refine OWp.norm ?_
      have hwid := Lib.decode_width_pos s pos hlt
      have hlp2 := hlp hlt
      refine OWp.extract rfl rfl rfl rfl ?_
      refine OWp.nil ?_
      refine CWp.seq ?_
      refine CWp.condT rfl ?_
      refine CWp.skip ?_
      refine CWp.block ?_
      refine CWp.seq ?_
      refine CWp.region ?_
      refine OWp.extract rfl rfl rfl rfl ?_
      refine OWp.assign rfl rfl ?_
      refine OWp.nil ?_
      refine CWp.region ?_
      refine OWp.move rfl rfl ?_
      refine OWp.move rfl rfl ?_
      refine OWp.buildSl hw1 rfl rfl rfl (t' := 21) (cells := #[.int .i32 ((Utf8.decode s pos).1 : Nat)]) (by kernel_rfl) (fun H2 c hw2 hk2 hc2 ho2 => ?_)
      refine OWp.norm ?_
      have hgr1 : Grow H.next H1 v 21 (runeV l) := hnx _ _ _ _ hgr
      refine OWp.append (B := H.next) hw2 (by have := hk'.next; have := (hk1 H hw hk' hi').next; have := hk2.next; omega) (hgr1.keep hw1 hk2) ho2.row rfl (by simp) rfl rfl rfl rfl rfl hE Tryd.underlying38 hz rfl hs1 (by omega) rfl rfl (by simp [runeV, hb4]; omega) (fun H3 v3 hg3 hgr3 => ?_)
      refine OWp.norm ?_
      refine OWp.assign rfl rfl ?_
      refine OWp.nil ?_
      exact ⟨_, by omega, i, pos + (Utf8.decode s pos).2, v3, l ++ [(Utf8.decode s pos).1], _, _, _, _, _, _, _, _, _, _, _, _, _, rfl, rfl, hg3.wf, hg3.keeps H hw ((hk1 H hw hk' hi').trans hk2 hw) (Nat.le_refl _), hi', hg3.own _ _ (hit1.keep hw1 hk2), by simpa [runeV] using hgr3, by rw [List.append_assoc, ← hl, runesF_step s pos hlt]; rfl, by simp; omega, by simp; omega⟩
    · refine OWp.norm ?_
      refine OWp.extract rfl rfl rfl rfl ?_
      refine OWp.nil ?_
      refine CWp.seq ?_
      refine CWp.condF rfl ?_
      refine CWp.exit ?_
      refine CWp.seq ?_
      refine CWp.region ?_
      refine OWp.move rfl rfl ?_
      refine OWp.assign rfl rfl ?_
      refine OWp.nil ?_
      refine CWp.ret ?_
      refine RetQ.one (by first | exact .inl rfl | exact .inr rfl) rfl rfl ?_
      have he : runesF s (s.size - pos) pos = [] := runesF_end _ _ _ hge
      rw [he, List.append_nil] at hl
      subst hl
      exact h _ _ hk' hgr

theorem nameR_spec (s : ByteArray) (hs : s.size ≤ 9000000) (H : AH) (Q : Value → AH → Prop) (h : ∀ H' b, Keeps H H' → (b = true ↔ NameR s) → Q (.bool b) H') (hw : WfH H) : FWp Tryd.prog prims 14 [.string s] H Q := by
  have hs1 : szT Tryd.prog 21 = 1 := by kernel_rfl
  have hrl := runes_len s
  refine FWp.enter (rfl) Tryd.func14 rfl (e := [.string s, undef, undef, undef, undef, undef, undef, undef, undef, undef, undef, undef, undef, undef, undef, undef, undef, undef, undef, undef, undef, undef, undef, undef, undef, undef, undef, undef, undef, undef, undef, undef, undef, undef, undef, undef, undef, undef, undef, undef, undef, undef, undef, undef, undef, undef, undef, undef, undef, undef, undef, undef, undef, undef, undef]) rfl ?_
  refine CWp.seq ?_
  refine CWp.region ?_
  refine OWp.assign rfl rfl ?_
  refine OWp.nil ?_
  refine CWp.seq ?_
  refine CWp.region ?_
  refine OWp.move rfl rfl ?_
  refine OWp.call rfl rfl rfl rfl ?_
  refine runesR_spec s hs H _ ?_ hw
  intro Hr v hk' hgr
  have hw' := hk'.wf
  obtain ⟨p, rfl, hrow⟩ := hgr.row
  rw [runeV_length]
  refine OWp.norm ?_
  refine OWp.assign rfl rfl ?_
  refine OWp.nil ?_
  refine CWp.seq ?_
  refine CWp.seq ?_
  refine CWp.region ?_
  refine OWp.move rfl rfl ?_
  refine OWp.lenS rfl rfl rfl rfl rfl Tryd.underlying9 rfl ?_
  refine OWp.binI rfl rfl rfl rfl rfl ?_
  refine OWp.move rfl rfl ?_
  first | refine OWp.byF rfl (fun hg0 => ?_) (fun hg0 => ?_) | refine OWp.byBF rfl (fun hg0 => ?_) (fun hg0 => ?_)
  · skip
    have hne := runes_ne s (by omega)
    obtain ⟨a, rfl⟩ : ∃ a, p = some a := by
      cases p with
      | none => have : runeV (runes s) = [] := hrow; rw [← runeV_length, this] at hne; simp at hne
      | some a => exact ⟨a, rfl⟩
    try simp only [hg0, decide_false, decide_true]
    refine OWp.move rfl rfl ?_
    refine OWp.lenS rfl rfl rfl rfl rfl Tryd.underlying9 rfl ?_
    refine OWp.binI rfl rfl rfl rfl rfl ?_
    refine OWp.pickF rfl rfl rfl ?_
    refine OWp.move rfl rfl ?_
    first | refine OWp.byF rfl (fun hg1 => ?_) (fun hg1 => ?_) | refine OWp.byBF rfl (fun hg1 => ?_) (fun hg1 => ?_)
    · skip
      try simp only [Decidable.not_not] at hg1
      try simp only [hg1, eq_self, decide_true, decide_false, not_true_eq_false, not_false_eq_true, Bool.not_true, Bool.not_false]
      refine OWp.move rfl rfl ?_
      first | refine OWp.convRunes rfl rfl Tryd.underlying38 Tryd.underlying21 Tryd.underlying9 rfl hrow (runeV_length _) ?_ | refine OWp.convI rfl rfl Tryd.underlying21 Tryd.underlying5 rfl (wrap_u8 (by omega)) ?_
      refine OWp.move rfl rfl ?_
      refine OWp.binS rfl rfl rfl rfl rfl ?_
      refine OWp.pickF rfl rfl rfl ?_
      refine OWp.move rfl rfl ?_
      first | refine OWp.byF rfl (fun hg2 => ?_) (fun hg2 => ?_) | refine OWp.byBF rfl (fun hg2 => ?_) (fun hg2 => ?_)
      · skip
        try simp only [Decidable.not_not] at hg2
        try simp only [hg2, eq_self, decide_true, decide_false, not_true_eq_false, not_false_eq_true, Bool.not_true, Bool.not_false]
        refine OWp.move rfl rfl ?_
        refine OWp.indexAddrSl1 rfl rfl Tryd.underlying38 hs1 rfl rfl (by omega) (by omega) ?_
        refine OWp.loadRow rfl rfl Tryd.underlying21 rfl rfl hrow (v := .int .i32 ((runes s).getD 0 0 : Nat)) (runeV_get _ _ (by omega)) ?_
        refine OWp.call rfl rfl rfl rfl ?_
        refine blankRv_spec _ _ _ (fun b1 hb1 => ?_)
        refine OWp.norm ?_
        refine OWp.pickF rfl rfl rfl ?_
        refine OWp.move rfl rfl ?_
        first | refine OWp.byF rfl (fun hg3 => ?_) (fun hg3 => ?_) | refine OWp.byBF rfl (fun hg3 => ?_) (fun hg3 => ?_)
        · skip
          try simp only [Decidable.not_not] at hg3
          try simp only [hg3, eq_self, decide_true, decide_false, not_true_eq_false, not_false_eq_true, Bool.not_true, Bool.not_false]
          refine OWp.move rfl rfl ?_
          refine OWp.move rfl rfl ?_
          refine OWp.lenSl rfl rfl rfl rfl rfl Tryd.underlying38 rfl ?_
          refine OWp.subI rfl rfl rfl rfl (by omega) ?_
          refine OWp.indexAddrSl1 rfl rfl Tryd.underlying38 hs1 rfl rfl (by omega) (by omega) ?_
          refine OWp.loadRow rfl rfl Tryd.underlying21 rfl rfl hrow (v := .int .i32 ((runes s).getD ((runes s).length - 1) 0 : Nat)) (by rw [show (((runes s).length : Int) - 1).toNat = (runes s).length - 1 by omega]; exact runeV_get _ _ (by omega)) ?_
          refine OWp.call rfl rfl rfl rfl ?_
          refine blankRv_spec _ _ _ (fun b2 hb2 => ?_)
          refine OWp.norm ?_
          refine OWp.pickF rfl rfl rfl ?_
          refine OWp.nil ?_
          first | refine CWp.condP rfl (fun h4 => ?_) (fun h4 => ?_) | refine CWp.cond rfl (fun h4 => ?_) (fun h4 => ?_)
          · skip
            try simp only [h4, eq_self, decide_true, decide_false, not_true_eq_false, not_false_eq_true, Bool.not_true, Bool.not_false]
            refine CWp.seq ?_
            refine CWp.region ?_
            refine OWp.assign rfl rfl ?_
            refine OWp.nil ?_
            refine CWp.ret ?_
            refine RetQ.one (by first | exact .inl rfl | exact .inr rfl) rfl rfl ?_
            exact h _ false hk' ⟨fun e => (by cases e), fun hN => Bool.noConfusion ((hb2.symm.trans h4).symm.trans hN.last)⟩
          · skip
            try simp only [h4, eq_self, decide_true, decide_false, not_true_eq_false, not_false_eq_true, Bool.not_true, Bool.not_false]
            refine CWp.skip ?_
            refine CWp.seq ?_
            refine CWp.seq ?_
            refine CWp.region ?_
            refine OWp.move rfl rfl ?_
            refine OWp.lenSl rfl rfl rfl rfl rfl Tryd.underlying38 rfl ?_
            refine OWp.move rfl rfl ?_
            refine OWp.nil ?_
            refine CWp.block ?_
            refine CWp.loop (fun k e H' => ∃ (i : Nat) (t1 t2 t4 t5 t6 t7 t8 t9 t10 t11 t12 t13 t14 t15 t16 t17 t18 t19 t20 t21 t22 t23 t24 t25 t26 t27 t28 t29 t30 t31 t32 t33 t34 t35 t36 t40 t41 t42 t43 t44 t45 t46 t47 t48 t49 t50 t51 t52 t53 t54 : Value), e = [.string s, t1, t2, .slice (some a) (runes s).length (runes s).length, t4, t5, t6, t7, t8, t9, t10, t11, t12, t13, t14, t15, t16, t17, t18, t19, t20, t21, t22, t23, t24, t25, t26, t27, t28, t29, t30, t31, t32, t33, t34, t35, t36, .slice (some a) (runes s).length (runes s).length, .int .i64 ((runes s).length : Nat), .int .i64 (i : Nat), t40, t41, t42, t43, t44, t45, t46, t47, t48, t49, t50, t51, t52, t53, t54] ∧ k = (runes s).length - i ∧ H' = Hr ∧ i ≤ (runes s).length ∧ ∀ j, j < i → 32 ≤ (runes s).getD j 0 ∧ ¬ badB ((runes s).getD j 0 : Nat)) ?_ ?_
            · exact ⟨_, 0, _, _, _, _, _, _, _, _, _, _, _, _, _, _, _, _, _, _, _, _, _, _, _, _, _, _, _, _, _, _, _, _, _, _, _, _, _, _, _, _, _, _, _, _, _, _, _, _, _, _, rfl, rfl, rfl, by omega, fun j h1 => by omega⟩
            · rintro k e H' ⟨i, t1, t2, t4, t5, t6, t7, t8, t9, t10, t11, t12, t13, t14, t15, t16, t17, t18, t19, t20, t21, t22, t23, t24, t25, t26, t27, t28, t29, t30, t31, t32, t33, t34, t35, t36, t40, t41, t42, t43, t44, t45, t46, t47, t48, t49, t50, t51, t52, t53, t54, rfl, rfl, rfl, hi1, hj⟩
              refine CWp.seq ?_
              refine CWp.region ?_
              refine OWp.binI rfl rfl rfl rfl rfl ?_
              refine OWp.nil ?_
              refine CWp.seq ?_
              first | refine CWp.condP rfl (fun h6 => ?_) (fun h6 => ?_) | refine CWp.cond rfl (fun h6 => ?_) (fun h6 => ?_)
              · skip
                try simp only [h6, eq_self, decide_true, decide_false, not_true_eq_false, not_false_eq_true, Bool.not_true, Bool.not_false]
                refine CWp.skip ?_
                refine CWp.seq ?_
                refine CWp.block ?_
                refine CWp.seq ?_
                refine CWp.region ?_
                refine OWp.indexAddrSl1 rfl rfl Tryd.underlying38 hs1 rfl rfl (by omega) (by omega) ?_
                refine OWp.loadRow rfl rfl Tryd.underlying21 rfl rfl hrow (v := .int .i32 ((runes s).getD i 0 : Nat)) (runeV_get _ i (by omega)) ?_
                refine OWp.assign rfl rfl ?_
                refine OWp.nil ?_
                refine CWp.seq ?_
                refine CWp.region ?_
                refine OWp.move rfl rfl ?_
                refine OWp.binI rfl rfl rfl rfl rfl ?_
                refine OWp.move rfl rfl ?_
                first | refine OWp.byF rfl (fun hg7 => ?_) (fun hg7 => ?_) | refine OWp.byBF rfl (fun hg7 => ?_) (fun hg7 => ?_)
                · skip
                  try simp only [Decidable.not_not] at hg7
                  try simp only [hg7, eq_self, decide_true, decide_false, not_true_eq_false, not_false_eq_true, Bool.not_true, Bool.not_false]
                  refine OWp.move rfl rfl ?_
                  refine OWp.binI rfl rfl rfl rfl rfl ?_
                  refine OWp.move rfl rfl ?_
                  first | refine OWp.byT rfl (fun hg8 => ?_) (fun hg8 => ?_) | refine OWp.byBT rfl (fun hg8 => ?_) (fun hg8 => ?_)
                  · skip
                    try simp only [Decidable.not_not] at hg8
                    try simp only [hg8, eq_self, decide_true, decide_false, not_true_eq_false, not_false_eq_true, Bool.not_true, Bool.not_false]
                    refine OWp.move rfl rfl ?_
                    first | refine OWp.convRunes rfl rfl Tryd.underlying38 Tryd.underlying21 Tryd.underlying9 rfl hrow (runeV_length _) ?_ | refine OWp.convI rfl rfl Tryd.underlying21 Tryd.underlying5 rfl (wrap_u8 (by omega)) ?_
                    refine OWp.call rfl rfl rfl rfl ?_
                    refine has_spec _ _ (by decide) _ _ (fun b hb => ?_)
                    refine OWp.norm ?_
                    refine OWp.pickT rfl rfl rfl ?_
                    refine OWp.pickF rfl rfl rfl ?_
                    refine OWp.nil ?_
                    first | refine CWp.condP rfl (fun h9 => ?_) (fun h9 => ?_) | refine CWp.cond rfl (fun h9 => ?_) (fun h9 => ?_)
                    · skip
                      try simp only [h9, eq_self, decide_true, decide_false, not_true_eq_false, not_false_eq_true, Bool.not_true, Bool.not_false]
                      refine CWp.seq ?_
                      refine CWp.region ?_
                      refine OWp.assign rfl rfl ?_
                      refine OWp.nil ?_
                      refine CWp.ret ?_
                      refine RetQ.one (by first | exact .inl rfl | exact .inr rfl) rfl rfl ?_
                      exact h _ false hk' ⟨fun e => (by cases e), fun hN => absurd ((has_set _).1 (hb.1 (by assumption))) (hN.all i (by omega)).2⟩
                    · skip
                      try simp only [h9, eq_self, decide_true, decide_false, not_true_eq_false, not_false_eq_true, Bool.not_true, Bool.not_false]
                      refine CWp.skip ?_
                      refine CWp.region ?_
                      refine OWp.addI rfl rfl rfl rfl (by omega) ?_
                      refine OWp.move rfl rfl ?_
                      refine OWp.nil ?_
                      exact ⟨_, by omega, i + 1, _, _, _, _, _, _, _, _, _, _, _, _, _, _, _, _, _, _, _, _, _, _, _, _, _, _, _, _, _, _, _, _, _, _, _, _, _, _, _, _, _, _, _, _, _, _, _, _, _, _, rfl, rfl, rfl, by omega, fun j hj2 => by by_cases e : j = i; exact e ▸ ⟨by omega, fun hbad => by first | (have := hb.2 ((has_set _).2 hbad); simp_all; done) | (unfold badB at hbad; omega)⟩; exact hj j (by omega)⟩
                  · skip
                    try simp only [Decidable.not_not] at hg8
                    try simp only [hg8, eq_self, decide_true, decide_false, not_true_eq_false, not_false_eq_true, Bool.not_true, Bool.not_false]
                    refine OWp.leave rfl ?_
                    refine OWp.leave rfl ?_
                    refine OWp.leave rfl ?_
                    refine OWp.pickF rfl rfl rfl ?_
                    refine OWp.pickF rfl rfl rfl ?_
                    refine OWp.nil ?_
                    refine CWp.condF rfl ?_
                    refine CWp.skip ?_
                    refine CWp.region ?_
                    refine OWp.addI rfl rfl rfl rfl (by omega) ?_
                    refine OWp.move rfl rfl ?_
                    refine OWp.nil ?_
                    exact ⟨_, by omega, i + 1, _, _, _, _, _, _, _, _, _, _, _, _, _, _, _, _, _, _, _, _, _, _, _, _, _, _, _, _, _, _, _, _, _, _, _, _, _, _, _, _, _, _, _, _, _, _, _, _, _, _, rfl, rfl, rfl, by omega, fun j hj2 => by by_cases e : j = i; exact e ▸ ⟨by omega, fun hbad => by first | (have := hb.2 ((has_set _).2 hbad); simp_all; done) | (unfold badB at hbad; omega)⟩; exact hj j (by omega)⟩
                · skip
                  try simp only [Decidable.not_not] at hg7
                  try simp only [hg7, eq_self, decide_true, decide_false, not_true_eq_false, not_false_eq_true, Bool.not_true, Bool.not_false]
                  refine OWp.leave rfl ?_
                  refine OWp.leave rfl ?_
                  refine OWp.leave rfl ?_
                  refine OWp.leave rfl ?_
                  refine OWp.leave rfl ?_
                  refine OWp.leave rfl ?_
                  refine OWp.leave rfl ?_
                  refine OWp.pickT rfl rfl rfl ?_
                  refine OWp.nil ?_
                  refine CWp.condT rfl ?_
                  refine CWp.seq ?_
                  refine CWp.region ?_
                  refine OWp.assign rfl rfl ?_
                  refine OWp.nil ?_
                  refine CWp.ret ?_
                  refine RetQ.one (by first | exact .inl rfl | exact .inr rfl) rfl rfl ?_
                  exact h _ false hk' ⟨fun e => (by cases e), fun hN => by have := (hN.all i (by omega)).1; omega⟩
              · skip
                try simp only [h6, eq_self, decide_true, decide_false, not_true_eq_false, not_false_eq_true, Bool.not_true, Bool.not_false]
                refine CWp.exit ?_
                refine CWp.seq ?_
                refine CWp.region ?_
                refine OWp.assign rfl rfl ?_
                refine OWp.nil ?_
                refine CWp.ret ?_
                refine RetQ.one (by first | exact .inl rfl | exact .inr rfl) rfl rfl ?_
                exact h _ true hk' ⟨fun _ => ⟨by omega, by omega, hg2, hb1.symm.trans hg3, hb2.symm.trans h4, fun j hj2 => hj j (by omega)⟩, fun _ => rfl⟩
        · skip
          try simp only [Decidable.not_not] at hg3
          try simp only [hg3, eq_self, decide_true, decide_false, not_true_eq_false, not_false_eq_true, Bool.not_true, Bool.not_false]
          refine OWp.leave rfl ?_
          refine OWp.leave rfl ?_
          refine OWp.leave rfl ?_
          refine OWp.leave rfl ?_
          refine OWp.leave rfl ?_
          refine OWp.leave rfl ?_
          refine OWp.leave rfl ?_
          refine OWp.pickT rfl rfl rfl ?_
          refine OWp.nil ?_
          refine CWp.condT rfl ?_
          refine CWp.seq ?_
          refine CWp.region ?_
          refine OWp.assign rfl rfl ?_
          refine OWp.nil ?_
          refine CWp.ret ?_
          refine RetQ.one (by first | exact .inl rfl | exact .inr rfl) rfl rfl ?_
          exact h _ false hk' ⟨fun e => (by cases e), fun hN => Bool.noConfusion ((hb1.symm.trans hg3).symm.trans hN.first)⟩
      · skip
        try simp only [Decidable.not_not] at hg2
        try simp only [hg2, eq_self, decide_true, decide_false, not_true_eq_false, not_false_eq_true, Bool.not_true, Bool.not_false]
        refine OWp.leave rfl ?_
        refine OWp.leave rfl ?_
        refine OWp.leave rfl ?_
        refine OWp.leave rfl ?_
        refine OWp.pickT rfl rfl rfl ?_
        refine OWp.move rfl rfl ?_
        refine OWp.leave rfl ?_
        refine OWp.leave rfl ?_
        refine OWp.leave rfl ?_
        refine OWp.leave rfl ?_
        refine OWp.leave rfl ?_
        refine OWp.leave rfl ?_
        refine OWp.leave rfl ?_
        refine OWp.pickT rfl rfl rfl ?_
        refine OWp.nil ?_
        refine CWp.condT rfl ?_
        refine CWp.seq ?_
        refine CWp.region ?_
        refine OWp.assign rfl rfl ?_
        refine OWp.nil ?_
        refine CWp.ret ?_
        refine RetQ.one (by first | exact .inl rfl | exact .inr rfl) rfl rfl ?_
        exact h _ false hk' ⟨fun e => (by cases e), fun hN => absurd hN.back hg2⟩
    · skip
      try simp only [Decidable.not_not] at hg1
      try simp only [hg1, eq_self, decide_true, decide_false, not_true_eq_false, not_false_eq_true, Bool.not_true, Bool.not_false]
      refine OWp.leave rfl ?_
      refine OWp.leave rfl ?_
      refine OWp.leave rfl ?_
      refine OWp.leave rfl ?_
      refine OWp.pickT rfl rfl rfl ?_
      refine OWp.move rfl rfl ?_
      refine OWp.leave rfl ?_
      refine OWp.leave rfl ?_
      refine OWp.leave rfl ?_
      refine OWp.leave rfl ?_
      refine OWp.pickT rfl rfl rfl ?_
      refine OWp.move rfl rfl ?_
      refine OWp.leave rfl ?_
      refine OWp.leave rfl ?_
      refine OWp.leave rfl ?_
      refine OWp.leave rfl ?_
      refine OWp.leave rfl ?_
      refine OWp.leave rfl ?_
      refine OWp.leave rfl ?_
      refine OWp.pickT rfl rfl rfl ?_
      refine OWp.nil ?_
      refine CWp.condT rfl ?_
      refine CWp.seq ?_
      refine CWp.region ?_
      refine OWp.assign rfl rfl ?_
      refine OWp.nil ?_
      refine CWp.ret ?_
      refine RetQ.one (by first | exact .inl rfl | exact .inr rfl) rfl rfl ?_
      exact h _ false hk' ⟨fun e => (by cases e), fun hN => by have := hN.hi; omega⟩
  · skip
    try simp only [Decidable.not_not] at hg0
    try simp only [hg0, eq_self, decide_true, decide_false, not_true_eq_false, not_false_eq_true, Bool.not_true, Bool.not_false]
    refine OWp.leave rfl ?_
    refine OWp.leave rfl ?_
    refine OWp.leave rfl ?_
    refine OWp.pickT rfl rfl rfl ?_
    refine OWp.move rfl rfl ?_
    refine OWp.leave rfl ?_
    refine OWp.leave rfl ?_
    refine OWp.leave rfl ?_
    refine OWp.leave rfl ?_
    refine OWp.pickT rfl rfl rfl ?_
    refine OWp.move rfl rfl ?_
    refine OWp.leave rfl ?_
    refine OWp.leave rfl ?_
    refine OWp.leave rfl ?_
    refine OWp.leave rfl ?_
    refine OWp.pickT rfl rfl rfl ?_
    refine OWp.move rfl rfl ?_
    refine OWp.leave rfl ?_
    refine OWp.leave rfl ?_
    refine OWp.leave rfl ?_
    refine OWp.leave rfl ?_
    refine OWp.leave rfl ?_
    refine OWp.leave rfl ?_
    refine OWp.leave rfl ?_
    refine OWp.pickT rfl rfl rfl ?_
    refine OWp.nil ?_
    refine CWp.condT rfl ?_
    refine CWp.seq ?_
    refine CWp.region ?_
    refine OWp.assign rfl rfl ?_
    refine OWp.nil ?_
    refine CWp.ret ?_
    refine RetQ.one (by first | exact .inl rfl | exact .inr rfl) rfl rfl ?_
    exact h _ false hk' ⟨fun e => (by cases e), fun hN => by have := hN.lo; omega⟩

end Go.Proofs.YtaelmnkddedddaaDoor.Ev
