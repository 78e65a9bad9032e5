import Derived.Test.YtaelmnkddedddaaDoorEvR1b
namespace Go.Proofs.YtaelmnkddedddaaDoor.Ev
open Go
set_option linter.unusedVariables false
set_option linter.unusedSimpArgs false
abbrev LL : ByteArray := ⟨#[60, 60]⟩
abbrev GG : ByteArray := ⟨#[62, 62]⟩
/-- What is left of a text between the signs. -/
def midA (s : ByteArray) : ByteArray := (s.extract 2 s.size).extract 0 ((s.extract 2 s.size).size - 2)
structure RefA (s : ByteArray) : Prop where
  pre : PrefB s LL
  suf : SufB (s.extract 2 s.size) GG
  name : NameA (midA s)
theorem ext_le (s : ByteArray) (a b : Nat) : (s.extract a b).size ≤ s.size := by simp [ByteArray.size_extract]; omega
/-- A line's blanks; what is behind them. -/
def headA (s : ByteArray) : ByteArray := s.extract 0 ((s.size : Int) - (trimL s).size).toNat

theorem cutPrefixV_spec (s p : ByteArray) (hs : s.size ≤ 9000000) (hp : p.size ≤ 9000000) (H : AH) (Q : Value → AH → Prop) (h : ∀ (x : ByteArray) (b : Bool), (PrefB s p → x = s.extract p.size s.size ∧ b = true) → (¬ PrefB s p → x = s ∧ b = false) → Q (.tuple #[.string x, .bool b]) H) : FWp Tryd.prog prims 26 [.string s, .string p] H Q :=
  cutPrefix_spec s p hs hp H Q (fun hh => h _ _ (fun _ => ⟨rfl, rfl⟩) (fun k => absurd hh k)) (fun hh => h _ _ (fun k => absurd k hh) (fun _ => ⟨rfl, rfl⟩))
theorem cutSuffixV_spec (s p : ByteArray) (hs : s.size ≤ 9000000) (hp : p.size ≤ 9000000) (H : AH) (Q : Value → AH → Prop) (h : ∀ (x : ByteArray) (b : Bool), (SufB s p → x = s.extract 0 (s.size - p.size) ∧ b = true) → (¬ SufB s p → x = s ∧ b = false) → Q (.tuple #[.string x, .bool b]) H) : FWp Tryd.prog prims 27 [.string s, .string p] H Q :=
  cutSuffix_spec s p hs hp H Q (fun hh => h _ _ (fun _ => ⟨rfl, rfl⟩) (fun k => absurd hh k)) (fun hh => h _ _ (fun k => absurd k hh) (fun _ => ⟨rfl, rfl⟩))

theorem refName_spec (s : ByteArray) (hs : s.size ≤ 9000000) (H : AH) (Q : Value → AH → Prop) (h : ∀ H' x b, Keeps H H' → (b = true ↔ RefA s) → (b = true → x = midA s) → (b = false → x = ⟨#[]⟩) → Q (.tuple #[.string x, .bool b]) H') (hw : WfH H) : FWp Tryd.prog prims 19 [.string s] H Q := by
  have hp : ∀ (x : ByteArray) (b : Bool), (PrefB s LL → x = s.extract 2 s.size ∧ b = true) → (¬ PrefB s LL → x = s ∧ b = false) → x.size ≤ s.size := fun x b k1 k2 => by
      by_cases hh : PrefB s LL
      · rw [(k1 hh).1]; exact ext_le _ _ _
      · rw [(k2 hh).1]; exact Nat.le_refl _
  refine FWp.enter (rfl) Tryd.func19 rfl (e := [.string s, undef, undef, undef, undef, undef, undef, undef, undef, undef, undef, undef, undef, undef, undef, undef, undef, undef, undef, undef, undef, undef, undef, undef, undef, undef, undef, undef]) rfl ?_
  refine CWp.seq ?_
  refine CWp.region ?_
  refine OWp.assign rfl rfl ?_
  refine OWp.assign rfl rfl ?_
  refine OWp.nil ?_
  refine CWp.seq ?_
  refine CWp.region ?_
  refine OWp.move rfl rfl ?_
  refine OWp.call rfl rfl rfl rfl ?_
  refine cutPrefixV_spec s LL hs (by decide) _ _ (fun x1 b1 k1 k2 => ?_)
  have hx1 := hp x1 b1 k1 k2
  refine OWp.norm ?_
  refine OWp.move rfl rfl ?_
  refine OWp.extract rfl rfl rfl rfl ?_
  refine OWp.extract rfl rfl rfl rfl ?_
  refine OWp.assign rfl rfl ?_
  refine OWp.assign rfl rfl ?_
  refine OWp.nil ?_
  refine CWp.seq ?_
  refine CWp.region ?_
  refine OWp.move rfl rfl ?_
  refine OWp.call rfl rfl rfl rfl ?_
  refine cutSuffixV_spec x1 GG (by omega) (by decide) _ _ (fun x2 b2 j1 j2 => ?_)
  have hx2 : x2.size ≤ x1.size := by
      by_cases hh : SufB x1 GG
      · rw [(j1 hh).1]; exact ext_le _ _ _
      · rw [(j2 hh).1]; exact Nat.le_refl _
  refine OWp.norm ?_
  refine OWp.move rfl rfl ?_
  refine OWp.extract rfl rfl rfl rfl ?_
  refine OWp.extract rfl rfl rfl rfl ?_
  refine OWp.assign rfl rfl ?_
  refine OWp.assign rfl rfl ?_
  refine OWp.nil ?_
  refine CWp.seq ?_
  refine CWp.seq ?_
  refine CWp.region ?_
  refine OWp.move rfl rfl ?_
  first | refine OWp.notD rfl rfl rfl ?_ | refine OWp.notB rfl rfl rfl ?_
  refine OWp.move rfl rfl ?_
  first | refine OWp.byF rfl (fun hg0 => ?_) (fun hg0 => ?_) | refine OWp.byBF rfl (fun hg0 => ?_) (fun hg0 => ?_)
  · skip
    try simp only [Decidable.not_not] at hg0
    try simp only [hg0, eq_self, decide_true, decide_false, not_true_eq_false, not_false_eq_true, Bool.not_true, Bool.not_false]
    refine OWp.move rfl rfl ?_
    first | refine OWp.notD rfl rfl rfl ?_ | refine OWp.notB rfl rfl rfl ?_
    refine OWp.pickF rfl rfl rfl ?_
    refine OWp.move rfl rfl ?_
    first | refine OWp.byF rfl (fun hg1 => ?_) (fun hg1 => ?_) | refine OWp.byBF rfl (fun hg1 => ?_) (fun hg1 => ?_)
    · skip
      try simp only [Decidable.not_not] at hg1
      try simp only [hg1, eq_self, decide_true, decide_false, not_true_eq_false, not_false_eq_true, Bool.not_true, Bool.not_false]
      refine OWp.move rfl rfl ?_
      refine OWp.call rfl rfl rfl rfl ?_
      refine nameA_spec x2 (by omega) _ _ ?_ hw
      intro Hn b3 hkn hb3
      refine OWp.norm ?_
      first | refine OWp.notD rfl rfl rfl ?_ | refine OWp.notB rfl rfl rfl ?_
      refine OWp.pickF rfl rfl rfl ?_
      refine OWp.nil ?_
      first | refine CWp.condP rfl (fun h2 => ?_) (fun h2 => ?_) | refine CWp.cond rfl (fun h2 => ?_) (fun h2 => ?_)
      · skip
        try simp only [h2, eq_self, decide_true, decide_false, not_true_eq_false, not_false_eq_true, Bool.not_true, Bool.not_false]
        refine CWp.seq ?_
        refine CWp.region ?_
        refine OWp.assign rfl rfl ?_
        refine OWp.assign rfl rfl ?_
        refine OWp.nil ?_
        refine CWp.ret ?_
        refine RetQ.two (by first | exact .inl rfl | exact .inr rfl) rfl rfl rfl rfl rfl ?_
        exact h _ _ false hkn ⟨fun e => (by cases e), fun hr => by have e1 : x1 = s.extract 2 s.size := (k1 hr.pre).1; have e2 := (j1 (e1 ▸ hr.suf)).1; subst e1; have : b3 = true := hb3.2 (by rw [e2]; exact hr.name); rw [this] at h2; cases h2⟩ (fun e => by cases e) (fun _ => rfl)
      · skip
        try simp only [h2, eq_self, decide_true, decide_false, not_true_eq_false, not_false_eq_true, Bool.not_true, Bool.not_false]
        refine CWp.skip ?_
        refine CWp.seq ?_
        refine CWp.region ?_
        refine OWp.move rfl rfl ?_
        refine OWp.assign rfl rfl ?_
        refine OWp.assign rfl rfl ?_
        refine OWp.nil ?_
        refine CWp.ret ?_
        refine RetQ.two (by first | exact .inl rfl | exact .inr rfl) rfl rfl rfl rfl rfl ?_
        have p1 : PrefB s LL := by
            by_cases hh : PrefB s LL
            · exact hh
            · rw [(k2 hh).2] at hg0; cases hg0
        have e1 : x1 = s.extract 2 s.size := (k1 p1).1
        have p2 : SufB x1 GG := by
            by_cases hh : SufB x1 GG
            · exact hh
            · rw [(j2 hh).2] at hg1; cases hg1
        have e2 : x2 = midA s := by rw [(j1 p2).1, e1]; rfl
        exact h _ _ true hkn ⟨fun _ => ⟨p1, e1 ▸ p2, e2 ▸ hb3.1 (by simpa using h2)⟩, fun _ => rfl⟩ (fun _ => e2) (fun e => by cases e)
    · skip
      try simp only [Decidable.not_not] at hg1
      try simp only [hg1, eq_self, decide_true, decide_false, not_true_eq_false, not_false_eq_true, Bool.not_true, Bool.not_false]
      refine OWp.leave rfl ?_
      refine OWp.leave rfl ?_
      refine OWp.leave rfl ?_
      refine OWp.pickT rfl rfl rfl ?_
      refine OWp.nil ?_
      refine CWp.condT rfl ?_
      refine CWp.seq ?_
      refine CWp.region ?_
      refine OWp.assign rfl rfl ?_
      refine OWp.assign rfl rfl ?_
      refine OWp.nil ?_
      refine CWp.ret ?_
      refine RetQ.two (by first | exact .inl rfl | exact .inr rfl) rfl rfl rfl rfl rfl ?_
      exact h _ _ false (Keeps.refl hw) ⟨fun e => (by cases e), fun hr => by have e1 : x1 = s.extract 2 s.size := (k1 hr.pre).1; have := (j1 (e1 ▸ hr.suf)).2; rw [this] at hg1; cases hg1⟩ (fun e => by cases e) (fun _ => rfl)
  · skip
    try simp only [Decidable.not_not] at hg0
    try simp only [hg0, eq_self, decide_true, decide_false, not_true_eq_false, not_false_eq_true, Bool.not_true, Bool.not_false]
    refine OWp.leave rfl ?_
    refine OWp.leave rfl ?_
    refine OWp.pickT rfl rfl rfl ?_
    refine OWp.move rfl rfl ?_
    refine OWp.leave rfl ?_
    refine OWp.leave rfl ?_
    refine OWp.leave rfl ?_
    refine OWp.pickT rfl rfl rfl ?_
    refine OWp.nil ?_
    refine CWp.condT rfl ?_
    refine CWp.seq ?_
    refine CWp.region ?_
    refine OWp.assign rfl rfl ?_
    refine OWp.assign rfl rfl ?_
    refine OWp.nil ?_
    refine CWp.ret ?_
    refine RetQ.two (by first | exact .inl rfl | exact .inr rfl) rfl rfl rfl rfl rfl ?_
    exact h _ _ false (Keeps.refl hw) ⟨fun e => (by cases e), fun hr => by have := (k1 hr.pre).2; rw [this] at hg0; cases hg0⟩ (fun e => by cases e) (fun _ => rfl)

theorem line_spec (s : ByteArray) (hs : s.size ≤ 9000000) (H : AH) (Q : Value → AH → Prop) (h : ∀ H' x y b, Keeps H H' → (b = true ↔ RefA (trimL s)) → (b = true → x = headA s ∧ y = midA (trimL s)) → (b = false → x = ⟨#[]⟩ ∧ y = ⟨#[]⟩) → Q (.tuple #[.string x, .string y, .bool b]) H') (hw : WfH H) : FWp Tryd.prog prims 12 [.string s] H Q := by
  have hz := trimL_size s
  refine FWp.enter (rfl) Tryd.func12 rfl (e := [.string s, undef, undef, undef, undef, undef, undef, undef, undef, undef, undef, undef, undef, undef, undef, undef, undef, undef, undef, undef, undef, undef, undef]) rfl ?_
  refine CWp.seq ?_
  refine CWp.region ?_
  refine OWp.assign rfl rfl ?_
  refine OWp.assign rfl rfl ?_
  refine OWp.assign rfl rfl ?_
  refine OWp.nil ?_
  refine CWp.seq ?_
  refine CWp.region ?_
  refine OWp.move rfl rfl ?_
  refine OWp.call rfl rfl rfl rfl ?_
  refine parts_spec _ (by omega) _ _ ?_
  refine OWp.norm ?_
  refine OWp.move rfl rfl ?_
  refine OWp.extract rfl rfl rfl rfl ?_
  refine OWp.extract rfl rfl rfl rfl ?_
  refine OWp.assign rfl rfl ?_
  refine OWp.assign rfl rfl ?_
  refine OWp.nil ?_
  refine CWp.seq ?_
  refine CWp.region ?_
  refine OWp.move rfl rfl ?_
  refine OWp.call rfl rfl rfl rfl ?_
  refine refName_spec _ (by omega) _ _ ?_ hw
  intro Hn y b hkn hb hb1 hb2
  refine OWp.norm ?_
  refine OWp.move rfl rfl ?_
  refine OWp.extract rfl rfl rfl rfl ?_
  refine OWp.extract rfl rfl rfl rfl ?_
  refine OWp.assign rfl rfl ?_
  refine OWp.assign rfl rfl ?_
  refine OWp.nil ?_
  refine CWp.seq ?_
  refine CWp.seq ?_
  refine CWp.region ?_
  refine OWp.move rfl rfl ?_
  first | refine OWp.notD rfl rfl rfl ?_ | refine OWp.notB rfl rfl rfl ?_
  refine OWp.nil ?_
  first | refine CWp.condP rfl (fun h0 => ?_) (fun h0 => ?_) | refine CWp.cond rfl (fun h0 => ?_) (fun h0 => ?_)
  · skip
    try simp only [h0, eq_self, decide_true, decide_false, not_true_eq_false, not_false_eq_true, Bool.not_true, Bool.not_false]
    refine CWp.seq ?_
    refine CWp.region ?_
    refine OWp.assign rfl rfl ?_
    refine OWp.assign rfl rfl ?_
    refine OWp.assign rfl rfl ?_
    refine OWp.nil ?_
    refine CWp.ret ?_
    refine RetQ.three (by first | exact .inl rfl | exact .inr rfl) rfl rfl rfl rfl rfl rfl rfl ?_
    have hbf : b = false := by simpa using h0
    exact h _ _ _ false hkn ⟨fun e => (by cases e), fun hr => by rw [hb.2 hr] at hbf; cases hbf⟩ (fun e => by cases e) (fun _ => ⟨rfl, rfl⟩)
  · skip
    try simp only [h0, eq_self, decide_true, decide_false, not_true_eq_false, not_false_eq_true, Bool.not_true, Bool.not_false]
    refine CWp.skip ?_
    refine CWp.seq ?_
    refine CWp.region ?_
    refine OWp.move rfl rfl ?_
    refine OWp.move rfl rfl ?_
    refine OWp.assign rfl rfl ?_
    refine OWp.assign rfl rfl ?_
    refine OWp.assign rfl rfl ?_
    refine OWp.nil ?_
    refine CWp.ret ?_
    refine RetQ.three (by first | exact .inl rfl | exact .inr rfl) rfl rfl rfl rfl rfl rfl rfl ?_
    have hbt : b = true := by simpa using h0
    exact h _ _ _ true hkn ⟨fun _ => hb.1 hbt, fun _ => rfl⟩ (fun _ => ⟨rfl, hb1 hbt⟩) (fun e => by cases e)

theorem out_spec (s : ByteArray) (hs : s.size ≤ 9000000) (H : AH) (Q : Value → AH → Prop) (h : ∀ H' x, Keeps H H' → (RefA (trimC (trimL s) ⟨#[92]⟩) ∧ (trimC (trimL s) ⟨#[92]⟩).size < (trimL s).size → x = headA s ++ (trimL s).extract 1 (trimL s).size) → (¬ (RefA (trimC (trimL s) ⟨#[92]⟩) ∧ (trimC (trimL s) ⟨#[92]⟩).size < (trimL s).size) → x = s) → Q (.string x) H') (hw : WfH H) : FWp Tryd.prog prims 13 [.string s] H Q := by
  have hz := trimL_size s
  have hz2 := trimC_size (trimL s) ⟨#[92]⟩
  have hz3 := ext_le s 0 ((s.size : Int) - (trimL s).size).toNat
  have hz4 := ext_le (trimL s) (1 : Int).toNat ((trimL s).size : Int).toNat
  refine FWp.enter (rfl) Tryd.func13 rfl (e := [.string s, undef, undef, undef, undef, undef, undef, undef, undef, undef, undef, undef, undef, undef, undef, undef, undef, undef, undef, undef, undef, undef, undef, undef, undef, undef, undef, undef, undef, undef, undef, undef, undef]) rfl ?_
  refine CWp.seq ?_
  refine CWp.region ?_
  refine OWp.assign rfl rfl ?_
  refine OWp.nil ?_
  refine CWp.seq ?_
  refine CWp.region ?_
  refine OWp.move rfl rfl ?_
  refine OWp.call rfl rfl rfl rfl ?_
  refine parts_spec _ (by omega) _ _ ?_
  refine OWp.norm ?_
  refine OWp.move rfl rfl ?_
  refine OWp.extract rfl rfl rfl rfl ?_
  refine OWp.extract rfl rfl rfl rfl ?_
  refine OWp.assign rfl rfl ?_
  refine OWp.assign rfl rfl ?_
  refine OWp.nil ?_
  refine CWp.seq ?_
  refine CWp.region ?_
  refine OWp.move rfl rfl ?_
  refine OWp.call rfl rfl rfl rfl ?_
  refine trimB_spec _ _ _ ?_
  refine OWp.norm ?_
  refine OWp.assign rfl rfl ?_
  refine OWp.nil ?_
  refine CWp.seq ?_
  refine CWp.seq ?_
  refine CWp.region ?_
  refine OWp.move rfl rfl ?_
  refine OWp.call rfl rfl rfl rfl ?_
  refine refName_spec _ (by omega) _ _ ?_ hw
  intro Hn y b hkn hb hb1 hb2
  refine OWp.norm ?_
  refine OWp.move rfl rfl ?_
  refine OWp.extract rfl rfl rfl rfl ?_
  refine OWp.extract rfl rfl rfl rfl ?_
  refine OWp.assign rfl rfl ?_
  refine OWp.assign rfl rfl ?_
  refine OWp.nil ?_
  refine CWp.seq ?_
  refine CWp.region ?_
  refine OWp.move rfl rfl ?_
  refine OWp.move rfl rfl ?_
  first | refine OWp.byT rfl (fun hg0 => ?_) (fun hg0 => ?_) | refine OWp.byBT rfl (fun hg0 => ?_) (fun hg0 => ?_)
  · skip
    try simp only [Decidable.not_not] at hg0
    try simp only [hg0, eq_self, decide_true, decide_false, not_true_eq_false, not_false_eq_true, Bool.not_true, Bool.not_false]
    refine OWp.move rfl rfl ?_
    refine OWp.lenS rfl rfl rfl rfl rfl Tryd.underlying9 rfl ?_
    refine OWp.move rfl rfl ?_
    refine OWp.lenS rfl rfl rfl rfl rfl Tryd.underlying9 rfl ?_
    refine OWp.binI rfl rfl rfl rfl rfl ?_
    refine OWp.pickT rfl rfl rfl ?_
    refine OWp.nil ?_
    first | refine CWp.condP rfl (fun h1 => ?_) (fun h1 => ?_) | refine CWp.cond rfl (fun h1 => ?_) (fun h1 => ?_)
    · skip
      try simp only [h1, eq_self, decide_true, decide_false, not_true_eq_false, not_false_eq_true, Bool.not_true, Bool.not_false]
      refine CWp.seq ?_
      refine CWp.region ?_
      refine OWp.move rfl rfl ?_
      refine OWp.move rfl rfl ?_
      refine OWp.sliceS rfl rfl Tryd.underlying9 rfl rfl rfl (by omega) (by omega) (by omega) ?_
      refine OWp.catS rfl rfl rfl rfl (by omega) ?_
      refine OWp.assign rfl rfl ?_
      refine OWp.nil ?_
      refine CWp.ret ?_
      refine RetQ.one (by first | exact .inl rfl | exact .inr rfl) rfl rfl ?_
      exact h _ _ hkn (fun _ => rfl) (fun k => absurd ⟨hb.1 (by simpa using hg0), by omega⟩ k)
    · skip
      try simp only [h1, eq_self, decide_true, decide_false, not_true_eq_false, not_false_eq_true, Bool.not_true, Bool.not_false]
      refine CWp.skip ?_
      refine CWp.seq ?_
      refine CWp.region ?_
      refine OWp.move rfl rfl ?_
      refine OWp.assign rfl rfl ?_
      refine OWp.nil ?_
      refine CWp.ret ?_
      refine RetQ.one (by first | exact .inl rfl | exact .inr rfl) rfl rfl ?_
      exact h _ _ hkn (fun k => absurd k.2 (by omega)) (fun _ => rfl)
  · skip
    try simp only [Decidable.not_not] at hg0
    try simp only [hg0, eq_self, decide_true, decide_false, not_true_eq_false, not_false_eq_true, Bool.not_true, Bool.not_false]
    refine OWp.leave rfl ?_
    refine OWp.leave rfl ?_
    refine OWp.leave rfl ?_
    refine OWp.leave rfl ?_
    refine OWp.leave rfl ?_
    refine OWp.pickF rfl rfl rfl ?_
    refine OWp.nil ?_
    refine CWp.condF rfl ?_
    refine CWp.skip ?_
    refine CWp.seq ?_
    refine CWp.region ?_
    refine OWp.move rfl rfl ?_
    refine OWp.assign rfl rfl ?_
    refine OWp.nil ?_
    refine CWp.ret ?_
    refine RetQ.one (by first | exact .inl rfl | exact .inr rfl) rfl rfl ?_
    exact h _ _ hkn (fun k => by rw [hb.2 k.1] at hg0; cases hg0) (fun _ => rfl)

theorem inn_spec (s : ByteArray) (hs : s.size ≤ 9000000) (H : AH) (Q : Value → AH → Prop) (h : ∀ H' x, Keeps H H' → (RefA (trimC (trimL s) ⟨#[92]⟩) → x = headA s ++ ⟨#[92]⟩ ++ trimL s) → (¬ RefA (trimC (trimL s) ⟨#[92]⟩) → x = s) → Q (.string x) H') (hw : WfH H) : FWp Tryd.prog prims 11 [.string s] H Q := by
  have hz := trimL_size s
  have hz2 := trimC_size (trimL s) ⟨#[92]⟩
  have hz3 := ext_le s 0 ((s.size : Int) - (trimL s).size).toNat
  have hz5 : (⟨#[92]⟩ : ByteArray).size = 1 := rfl
  refine FWp.enter (rfl) Tryd.func11 rfl (e := [.string s, undef, undef, undef, undef, undef, undef, undef, undef, undef, undef, undef, undef, undef, undef, undef, undef, undef, undef, undef, undef, undef, undef, undef]) rfl ?_
  refine CWp.seq ?_
  refine CWp.region ?_
  refine OWp.assign rfl rfl ?_
  refine OWp.nil ?_
  refine CWp.seq ?_
  refine CWp.region ?_
  refine OWp.move rfl rfl ?_
  refine OWp.call rfl rfl rfl rfl ?_
  refine parts_spec _ (by omega) _ _ ?_
  refine OWp.norm ?_
  refine OWp.move rfl rfl ?_
  refine OWp.extract rfl rfl rfl rfl ?_
  refine OWp.extract rfl rfl rfl rfl ?_
  refine OWp.assign rfl rfl ?_
  refine OWp.assign rfl rfl ?_
  refine OWp.nil ?_
  refine CWp.seq ?_
  refine CWp.seq ?_
  refine CWp.region ?_
  refine OWp.move rfl rfl ?_
  refine OWp.call rfl rfl rfl rfl ?_
  refine trimB_spec _ _ _ ?_
  refine OWp.norm ?_
  refine OWp.call rfl rfl rfl rfl ?_
  refine refName_spec _ (by omega) _ _ ?_ hw
  intro Hn y b hkn hb hb1 hb2
  refine OWp.norm ?_
  refine OWp.move rfl rfl ?_
  refine OWp.extract rfl rfl rfl rfl ?_
  refine OWp.extract rfl rfl rfl rfl ?_
  refine OWp.assign rfl rfl ?_
  refine OWp.assign rfl rfl ?_
  refine OWp.nil ?_
  refine CWp.seq ?_
  refine CWp.region ?_
  refine OWp.move rfl rfl ?_
  refine OWp.nil ?_
  first | refine CWp.condP rfl (fun h0 => ?_) (fun h0 => ?_) | refine CWp.cond rfl (fun h0 => ?_) (fun h0 => ?_)
  · skip
    try simp only [h0, eq_self, decide_true, decide_false, not_true_eq_false, not_false_eq_true, Bool.not_true, Bool.not_false]
    refine CWp.seq ?_
    refine CWp.region ?_
    refine OWp.move rfl rfl ?_
    refine OWp.catS rfl rfl rfl rfl (by first | omega | (simp only [ByteArray.size_append]; omega)) ?_
    refine OWp.move rfl rfl ?_
    refine OWp.catS rfl rfl rfl rfl (by first | omega | (simp only [ByteArray.size_append]; omega)) ?_
    refine OWp.assign rfl rfl ?_
    refine OWp.nil ?_
    refine CWp.ret ?_
    refine RetQ.one (by first | exact .inl rfl | exact .inr rfl) rfl rfl ?_
    exact h _ _ hkn (fun _ => rfl) (fun k => absurd (hb.1 (by simpa using h0)) k)
  · skip
    try simp only [h0, eq_self, decide_true, decide_false, not_true_eq_false, not_false_eq_true, Bool.not_true, Bool.not_false]
    refine CWp.skip ?_
    refine CWp.seq ?_
    refine CWp.region ?_
    refine OWp.move rfl rfl ?_
    refine OWp.assign rfl rfl ?_
    refine OWp.nil ?_
    refine CWp.ret ?_
    refine RetQ.one (by first | exact .inl rfl | exact .inr rfl) rfl rfl ?_
    exact h _ _ hkn (fun k => by rw [hb.2 k] at h0; cases h0) (fun _ => rfl)

end Go.Proofs.YtaelmnkddedddaaDoor.Ev
