import Derived.Test.YtaelmnkddedddaaDoorEvR1c
namespace Go.Proofs.YtaelmnkddedddaaDoor.Ev
open Go
set_option linter.unusedVariables false
set_option linter.unusedSimpArgs false
def midR (t : ByteArray) : ByteArray := t.extract 2 (t.size - 2)
structure RefR (t : ByteArray) : Prop where
  lo : 5 ≤ t.size
  pre : t.extract 0 2 = LL
  suf : t.extract (t.size - 2) t.size = GG
  name : NameR (midR t)
theorem gap_unique (s : ByteArray) (i j : Nat) (hi : GapEnd s i) (hj : GapEnd s j) : i = j := by
  rcases Nat.lt_trichotomy i j with h | h | h
  · exact absurd (hj.2.1 i h) (hi.2.2 (by have := hj.1; omega))
  · exact h
  · exact absurd (hi.2.1 j h) (hj.2.2 (by have := hi.1; omega))
theorem ext_all (t : ByteArray) : t.extract 0 t.size = t := by simp
theorem ext_nil (t : ByteArray) (j : Nat) (hj : j ≤ t.size) : t.extract 0 j = ⟨#[]⟩ ↔ j = 0 := by
  constructor
  · intro h
    have := congrArg ByteArray.size h
    rw [ByteArray.size_extract] at this
    have h0 : (⟨#[]⟩ : ByteArray).size = 0 := rfl
    omega
  · rintro rfl
    apply ByteArray.ext
    simp
def SlashR (s : ByteArray) (i n : Nat) : Prop := RefR (s.extract (i + n) s.size)

theorem ref14_spec (s : ByteArray) (hs : s.size ≤ 9000000) (H : AH) (Q : Value → AH → Prop) (h : ∀ H' (i : Nat) x y b, Keeps H H' → GapEnd s i → (b = true ↔ RefR (s.extract i s.size)) → (b = true → x = s.extract 0 i ∧ y = midR (s.extract i s.size)) → (b = false → x = ⟨#[]⟩ ∧ y = ⟨#[]⟩) → Q (.tuple #[.string x, .string y, .bool b]) H') (hw : WfH H) : FWp Tryd.prog prims 15 [.string s] H Q := by
  refine FWp.enter (rfl) Tryd.func15 rfl (e := [.string s, undef, undef, undef, undef, undef, undef, undef, undef, undef, undef, undef, undef, undef, undef, undef, undef, undef, undef, undef, undef, undef, undef, undef, undef, undef, undef, undef, undef, undef, undef, undef, undef, undef, undef, undef, undef, undef, undef, undef, undef, undef, undef, undef, undef, undef, undef, undef, undef]) rfl ?_
  refine CWp.seq ?_
  refine CWp.region ?_
  refine OWp.assign rfl rfl ?_
  refine OWp.assign rfl rfl ?_
  refine OWp.assign rfl rfl ?_
  refine OWp.nil ?_
  refine CWp.seq ?_
  refine CWp.region ?_
  refine OWp.move rfl rfl ?_
  refine OWp.call rfl rfl rfl rfl ?_
  refine indent_spec _ (by omega) _ _ (fun i hi => ?_)
  have hi1 := hi.1
  refine OWp.norm ?_
  refine OWp.move rfl rfl ?_
  refine OWp.extract rfl rfl rfl rfl ?_
  refine OWp.extract rfl rfl rfl rfl ?_
  refine OWp.assign rfl rfl ?_
  refine OWp.assign rfl rfl ?_
  refine OWp.nil ?_
  refine CWp.seq ?_
  refine CWp.region ?_
  refine OWp.move rfl rfl ?_
  refine OWp.move rfl rfl ?_
  refine OWp.sliceS rfl rfl Tryd.underlying9 rfl rfl rfl (by omega) (by omega) (by omega) ?_
  have ht0 := ext_le s (i : Int).toNat (s.size : Int).toNat
  generalize ht : s.extract (i : Int).toNat (s.size : Int).toNat = t at ht0
  have ht1 : s.extract i s.size = t := ht
  refine OWp.assign rfl rfl ?_
  refine OWp.nil ?_
  refine CWp.seq ?_
  refine CWp.seq ?_
  refine CWp.region ?_
  refine OWp.move rfl rfl ?_
  refine OWp.lenS rfl rfl rfl rfl rfl Tryd.underlying9 rfl ?_
  refine OWp.binI rfl rfl rfl rfl rfl ?_
  refine OWp.move rfl rfl ?_
  first | refine OWp.byF rfl (fun hg0 => ?_) (fun hg0 => ?_) | refine OWp.byBF rfl (fun hg0 => ?_) (fun hg0 => ?_)
  · skip
    try simp only [Decidable.not_not] at hg0
    try simp only [hg0, eq_self, decide_true, decide_false, not_true_eq_false, not_false_eq_true, Bool.not_true, Bool.not_false]
    refine OWp.move rfl rfl ?_
    refine OWp.sliceS rfl rfl Tryd.underlying9 rfl rfl rfl (by omega) (by omega) (by omega) ?_
    refine OWp.binS rfl rfl rfl rfl rfl ?_
    refine OWp.pickF rfl rfl rfl ?_
    refine OWp.move rfl rfl ?_
    first | refine OWp.byF rfl (fun hg1 => ?_) (fun hg1 => ?_) | refine OWp.byBF rfl (fun hg1 => ?_) (fun hg1 => ?_)
    · skip
      try simp only [Decidable.not_not] at hg1
      try simp only [hg1, eq_self, decide_true, decide_false, not_true_eq_false, not_false_eq_true, Bool.not_true, Bool.not_false]
      refine OWp.move rfl rfl ?_
      refine OWp.move rfl rfl ?_
      refine OWp.lenS rfl rfl rfl rfl rfl Tryd.underlying9 rfl ?_
      refine OWp.subI rfl rfl rfl rfl (by omega) ?_
      refine OWp.sliceS rfl rfl Tryd.underlying9 rfl rfl rfl (by omega) (by omega) (by omega) ?_
      refine OWp.binS rfl rfl rfl rfl rfl ?_
      refine OWp.pickF rfl rfl rfl ?_
      refine OWp.move rfl rfl ?_
      first | refine OWp.byF rfl (fun hg2 => ?_) (fun hg2 => ?_) | refine OWp.byBF rfl (fun hg2 => ?_) (fun hg2 => ?_)
      · skip
        have e2 : ((t.size : Int) - 2).toNat = t.size - 2 := by omega
        try simp only [Decidable.not_not] at hg2
        try simp only [hg2, decide_true, decide_false, not_true_eq_false, not_false_eq_true, Bool.not_true, Bool.not_false]
        refine OWp.move rfl rfl ?_
        refine OWp.move rfl rfl ?_
        refine OWp.lenS rfl rfl rfl rfl rfl Tryd.underlying9 rfl ?_
        refine OWp.subI rfl rfl rfl rfl (by omega) ?_
        refine OWp.sliceS rfl rfl Tryd.underlying9 rfl rfl rfl (by omega) (by omega) (by omega) ?_
        refine OWp.call rfl rfl rfl rfl ?_
        refine nameR_spec _ (by have := ext_le t (2 : Int).toNat ((t.size : Int) - 2).toNat; omega) _ _ ?_ hw
        intro Hn b hkn hb
        refine OWp.norm ?_
        first | refine OWp.notD rfl rfl rfl ?_ | refine OWp.notB rfl rfl rfl ?_
        refine OWp.pickF rfl rfl rfl ?_
        refine OWp.nil ?_
        first | refine CWp.condP rfl (fun h3 => ?_) (fun h3 => ?_) | refine CWp.cond rfl (fun h3 => ?_) (fun h3 => ?_)
        · skip
          try simp only [h3, eq_self, decide_true, decide_false, not_true_eq_false, not_false_eq_true, Bool.not_true, Bool.not_false]
          refine CWp.seq ?_
          refine CWp.region ?_
          refine OWp.assign rfl rfl ?_
          refine OWp.assign rfl rfl ?_
          refine OWp.assign rfl rfl ?_
          refine OWp.nil ?_
          refine CWp.ret ?_
          refine RetQ.three (by first | exact .inl rfl | exact .inr rfl) rfl rfl rfl rfl rfl rfl rfl ?_
          exact h _ i _ _ false hkn hi ⟨fun e => (by cases e), fun hr => by rw [ht1] at hr; have : b = true := hb.2 (by rw [show t.extract (2 : Int).toNat ((t.size : Int) - 2).toNat = midR t by rw [e2]; rfl]; exact hr.name); rw [this] at h3; cases h3⟩ (fun e => by cases e) (fun _ => ⟨rfl, rfl⟩)
        · skip
          have hb1 : b = true := by simpa using h3
          try simp only [h3, eq_self, decide_true, decide_false, not_true_eq_false, not_false_eq_true, Bool.not_true, Bool.not_false]
          refine CWp.skip ?_
          refine CWp.seq ?_
          refine CWp.drawn (by kernel_rfl) ?_
          refine OWp.move rfl rfl ?_
          refine OWp.move rfl rfl ?_
          refine OWp.sliceS rfl rfl Tryd.underlying9 rfl rfl rfl (by omega) (by omega) (by omega) ?_
          refine OWp.move rfl rfl ?_
          refine OWp.move rfl rfl ?_
          refine OWp.lenS rfl rfl rfl rfl rfl Tryd.underlying9 rfl ?_
          refine OWp.subI rfl rfl rfl rfl (by omega) ?_
          refine OWp.sliceS rfl rfl Tryd.underlying9 rfl rfl rfl (by omega) (by omega) (by omega) ?_
          refine OWp.assign rfl rfl ?_
          refine OWp.assign rfl rfl ?_
          refine OWp.assign rfl rfl ?_
          refine OWp.nil ?_
          refine CWp.ret ?_
          refine RetQ.three (by first | exact .inl rfl | exact .inr rfl) rfl rfl rfl rfl rfl rfl rfl ?_
          exact h _ i _ _ true hkn hi ⟨fun _ => ht1 ▸ ⟨by omega, hg1, by rw [← e2]; exact hg2, by have := hb.1 hb1; rw [show t.extract (2 : Int).toNat ((t.size : Int) - 2).toNat = midR t by rw [e2]; rfl] at this; exact this⟩, fun _ => rfl⟩ (fun _ => ⟨rfl, by rw [ht1, e2]; rfl⟩) (fun e => by cases e)
      · skip
        try simp only [Decidable.not_not] at hg2
        try simp only [hg2, eq_self, decide_true, decide_false, not_true_eq_false, not_false_eq_true, Bool.not_true, Bool.not_false]
        refine OWp.leave rfl ?_
        refine OWp.leave rfl ?_
        refine OWp.leave rfl ?_
        refine OWp.leave rfl ?_
        refine OWp.leave rfl ?_
        refine OWp.leave rfl ?_
        refine OWp.leave rfl ?_
        refine OWp.pickT rfl rfl rfl ?_
        refine OWp.nil ?_
        refine CWp.condT rfl ?_
        refine CWp.seq ?_
        refine CWp.region ?_
        refine OWp.assign rfl rfl ?_
        refine OWp.assign rfl rfl ?_
        refine OWp.assign rfl rfl ?_
        refine OWp.nil ?_
        refine CWp.ret ?_
        refine RetQ.three (by first | exact .inl rfl | exact .inr rfl) rfl rfl rfl rfl rfl rfl rfl ?_
        exact h _ i _ _ false (Keeps.refl hw) hi ⟨fun e => (by cases e), fun hr => by rw [ht1] at hr; exact absurd (show t.extract ((t.size : Int) - 2).toNat t.size = GG by rw [show ((t.size : Int) - 2).toNat = t.size - 2 by omega]; exact hr.suf) hg2⟩ (fun e => by cases e) (fun _ => ⟨rfl, rfl⟩)
    · skip
      try simp only [Decidable.not_not] at hg1
      try simp only [hg1, eq_self, decide_true, decide_false, not_true_eq_false, not_false_eq_true, Bool.not_true, Bool.not_false]
      refine OWp.leave rfl ?_
      refine OWp.leave rfl ?_
      refine OWp.leave rfl ?_
      refine OWp.leave rfl ?_
      refine OWp.leave rfl ?_
      refine OWp.leave rfl ?_
      refine OWp.pickT rfl rfl rfl ?_
      refine OWp.move rfl rfl ?_
      refine OWp.leave rfl ?_
      refine OWp.leave rfl ?_
      refine OWp.leave rfl ?_
      refine OWp.leave rfl ?_
      refine OWp.leave rfl ?_
      refine OWp.leave rfl ?_
      refine OWp.leave rfl ?_
      refine OWp.pickT rfl rfl rfl ?_
      refine OWp.nil ?_
      refine CWp.condT rfl ?_
      refine CWp.seq ?_
      refine CWp.region ?_
      refine OWp.assign rfl rfl ?_
      refine OWp.assign rfl rfl ?_
      refine OWp.assign rfl rfl ?_
      refine OWp.nil ?_
      refine CWp.ret ?_
      refine RetQ.three (by first | exact .inl rfl | exact .inr rfl) rfl rfl rfl rfl rfl rfl rfl ?_
      exact h _ i _ _ false (Keeps.refl hw) hi ⟨fun e => (by cases e), fun hr => by rw [ht1] at hr; exact absurd hr.pre hg1⟩ (fun e => by cases e) (fun _ => ⟨rfl, rfl⟩)
  · skip
    try simp only [Decidable.not_not] at hg0
    try simp only [hg0, eq_self, decide_true, decide_false, not_true_eq_false, not_false_eq_true, Bool.not_true, Bool.not_false]
    refine OWp.leave rfl ?_
    refine OWp.leave rfl ?_
    refine OWp.leave rfl ?_
    refine OWp.pickT rfl rfl rfl ?_
    refine OWp.move rfl rfl ?_
    refine OWp.leave rfl ?_
    refine OWp.leave rfl ?_
    refine OWp.leave rfl ?_
    refine OWp.leave rfl ?_
    refine OWp.leave rfl ?_
    refine OWp.leave rfl ?_
    refine OWp.pickT rfl rfl rfl ?_
    refine OWp.move rfl rfl ?_
    refine OWp.leave rfl ?_
    refine OWp.leave rfl ?_
    refine OWp.leave rfl ?_
    refine OWp.leave rfl ?_
    refine OWp.leave rfl ?_
    refine OWp.leave rfl ?_
    refine OWp.leave rfl ?_
    refine OWp.pickT rfl rfl rfl ?_
    refine OWp.nil ?_
    refine CWp.condT rfl ?_
    refine CWp.seq ?_
    refine CWp.region ?_
    refine OWp.assign rfl rfl ?_
    refine OWp.assign rfl rfl ?_
    refine OWp.assign rfl rfl ?_
    refine OWp.nil ?_
    refine CWp.ret ?_
    refine RetQ.three (by first | exact .inl rfl | exact .inr rfl) rfl rfl rfl rfl rfl rfl rfl ?_
    exact h _ i _ _ false (Keeps.refl hw) hi ⟨fun e => (by cases e), fun hr => by rw [ht1] at hr; have := hr.lo; omega⟩ (fun e => by cases e) (fun _ => ⟨rfl, rfl⟩)

theorem slashes_spec (s : ByteArray) (hs : s.size ≤ 9000000) (H : AH) (Q : Value → AH → Prop) (h : ∀ H' (i n : Nat) b, Keeps H H' → GapEnd s i → RunEnd s i 92 n → (b = true ↔ RefR (s.extract (i + n) s.size) ∧ GapEnd (s.extract (i + n) s.size) 0) → Q (.tuple #[.int .i64 i, .int .i64 n, .bool b]) H') (hw : WfH H) : FWp Tryd.prog prims 25 [.string s] H Q := by
  refine FWp.enter (rfl) Tryd.func25 rfl (e := [.string s, undef, undef, undef, undef, undef, undef, undef, undef, undef, undef, undef, undef, undef, undef, undef, undef, undef, undef, undef, undef, undef, undef, undef, undef, undef, undef, undef, undef, undef, undef, undef, undef, undef, undef, undef]) rfl ?_
  refine CWp.seq ?_
  refine CWp.region ?_
  refine OWp.assign rfl rfl ?_
  refine OWp.assign rfl rfl ?_
  refine OWp.assign rfl rfl ?_
  refine OWp.nil ?_
  refine CWp.seq ?_
  refine CWp.region ?_
  refine OWp.move rfl rfl ?_
  refine OWp.call rfl rfl rfl rfl ?_
  refine indent_spec _ (by omega) _ _ (fun i hi => ?_)
  have hi1 := hi.1
  refine OWp.norm ?_
  refine OWp.move rfl rfl ?_
  refine OWp.extract rfl rfl rfl rfl ?_
  refine OWp.extract rfl rfl rfl rfl ?_
  refine OWp.assign rfl rfl ?_
  refine OWp.assign rfl rfl ?_
  refine OWp.nil ?_
  refine CWp.seq ?_
  refine CWp.region ?_
  refine OWp.move rfl rfl ?_
  refine OWp.move rfl rfl ?_
  refine OWp.call rfl rfl rfl rfl ?_
  refine run_spec s (by omega) i 92 hi1 _ _ (fun n hn => ?_)
  have hn1 := hn.1
  refine OWp.norm ?_
  refine OWp.assign rfl rfl ?_
  refine OWp.nil ?_
  refine CWp.seq ?_
  refine CWp.region ?_
  refine OWp.move rfl rfl ?_
  refine OWp.move rfl rfl ?_
  refine OWp.move rfl rfl ?_
  refine OWp.addI rfl rfl rfl rfl (by omega) ?_
  refine OWp.sliceS rfl rfl Tryd.underlying9 rfl rfl rfl (by omega) (by omega) (by omega) ?_
  have ht0 := ext_le s ((i : Int) + (n : Int)).toNat (s.size : Int).toNat
  generalize ht : s.extract ((i : Int) + (n : Int)).toNat (s.size : Int).toNat = t at ht0
  have ht1 : s.extract (i + n) s.size = t := by rw [← ht, show ((i : Int) + (n : Int)).toNat = i + n by omega]; rfl
  refine OWp.call rfl rfl rfl rfl ?_
  refine ref14_spec _ (by have := ext_le s ((i : Int) + (n : Int)).toNat (s.size : Int).toNat; omega) _ _ ?_ hw
  intro Hn j x y b hkn hj hb hb1 hb2
  refine OWp.norm ?_
  refine OWp.move rfl rfl ?_
  refine OWp.extract rfl rfl rfl rfl ?_
  refine OWp.extract rfl rfl rfl rfl ?_
  refine OWp.extract rfl rfl rfl rfl ?_
  refine OWp.assign rfl rfl ?_
  refine OWp.assign rfl rfl ?_
  refine OWp.assign rfl rfl ?_
  refine OWp.nil ?_
  refine CWp.seq ?_
  refine CWp.region ?_
  refine OWp.move rfl rfl ?_
  refine OWp.move rfl rfl ?_
  refine OWp.move rfl rfl ?_
  refine OWp.move rfl rfl ?_
  first | refine OWp.byT rfl (fun hg0 => ?_) (fun hg0 => ?_) | refine OWp.byBT rfl (fun hg0 => ?_) (fun hg0 => ?_)
  · skip
    try simp only [Decidable.not_not] at hg0
    try simp only [hg0, eq_self, decide_true, decide_false, not_true_eq_false, not_false_eq_true, Bool.not_true, Bool.not_false]
    refine OWp.move rfl rfl ?_
    refine OWp.binS rfl rfl rfl rfl rfl ?_
    refine OWp.pickT rfl rfl rfl ?_
    refine OWp.assign rfl rfl ?_
    refine OWp.assign rfl rfl ?_
    refine OWp.assign rfl rfl ?_
    refine OWp.nil ?_
    refine CWp.ret ?_
    refine RetQ.three (by first | exact .inl rfl | exact .inr rfl) rfl rfl rfl rfl rfl rfl rfl ?_
    refine h _ i n _ hkn hi hn ?_
    rw [ht1, decide_eq_true_iff, (hb1 hg0).1, ext_nil t j hj.1]
    exact ⟨fun e => by subst e; exact ⟨by have := hb.1 hg0; rwa [ext_all] at this, hj⟩, fun k => gap_unique t j 0 hj k.2⟩
  · skip
    try simp only [Decidable.not_not] at hg0
    try simp only [hg0, eq_self, decide_true, decide_false, not_true_eq_false, not_false_eq_true, Bool.not_true, Bool.not_false]
    refine OWp.leave rfl ?_
    refine OWp.leave rfl ?_
    refine OWp.pickF rfl rfl rfl ?_
    refine OWp.assign rfl rfl ?_
    refine OWp.assign rfl rfl ?_
    refine OWp.assign rfl rfl ?_
    refine OWp.nil ?_
    refine CWp.ret ?_
    refine RetQ.three (by first | exact .inl rfl | exact .inr rfl) rfl rfl rfl rfl rfl rfl rfl ?_
    refine h _ i n false hkn hi hn ?_
    rw [ht1]
    exact ⟨fun e => (by cases e), fun k => by have e := gap_unique t j 0 hj k.2; subst e; rw [ext_all] at hb; rw [hb.2 k.1] at hg0; cases hg0⟩

theorem out14_spec (s : ByteArray) (hs : s.size ≤ 9000000) (H : AH) (Q : Value → AH → Prop) (h : ∀ H' (i n : Nat) x, Keeps H H' → GapEnd s i → RunEnd s i 92 n → ((RefR (s.extract (i + n) s.size) ∧ GapEnd (s.extract (i + n) s.size) 0) ∧ 0 < n → x = s.extract 0 i ++ s.extract (i + 1) s.size) → (¬ ((RefR (s.extract (i + n) s.size) ∧ GapEnd (s.extract (i + n) s.size) 0) ∧ 0 < n) → x = s) → Q (.string x) H') (hw : WfH H) : FWp Tryd.prog prims 16 [.string s] H Q := by
  refine FWp.enter (rfl) Tryd.func16 rfl (e := [.string s, undef, undef, undef, undef, undef, undef, undef, undef, undef, undef, undef, undef, undef, undef, undef, undef, undef, undef, undef, undef, undef, undef, undef, undef, undef]) rfl ?_
  refine CWp.seq ?_
  refine CWp.region ?_
  refine OWp.assign rfl rfl ?_
  refine OWp.nil ?_
  refine CWp.seq ?_
  refine CWp.region ?_
  refine OWp.move rfl rfl ?_
  refine OWp.call rfl rfl rfl rfl ?_
  refine slashes_spec s hs _ _ ?_ hw
  intro Hn i n b hkn hi hn hb
  have hi1 := hi.1
  have hn1 := hn.1
  have hz1 := ext_le s (Int.toNat 0) (i : Int).toNat
  have hz2 := ext_le s ((i : Int) + 1).toNat (s.size : Int).toNat
  refine OWp.norm ?_
  refine OWp.move rfl rfl ?_
  refine OWp.extract rfl rfl rfl rfl ?_
  refine OWp.extract rfl rfl rfl rfl ?_
  refine OWp.extract rfl rfl rfl rfl ?_
  refine OWp.assign rfl rfl ?_
  refine OWp.assign rfl rfl ?_
  refine OWp.assign rfl rfl ?_
  refine OWp.nil ?_
  refine CWp.seq ?_
  refine CWp.seq ?_
  refine CWp.region ?_
  refine OWp.move rfl rfl ?_
  refine OWp.move rfl rfl ?_
  first | refine OWp.byT rfl (fun hg0 => ?_) (fun hg0 => ?_) | refine OWp.byBT rfl (fun hg0 => ?_) (fun hg0 => ?_)
  · skip
    try simp only [Decidable.not_not] at hg0
    try simp only [hg0, eq_self, decide_true, decide_false, not_true_eq_false, not_false_eq_true, Bool.not_true, Bool.not_false]
    refine OWp.move rfl rfl ?_
    refine OWp.binI rfl rfl rfl rfl rfl ?_
    refine OWp.pickT rfl rfl rfl ?_
    refine OWp.nil ?_
    first | refine CWp.condP rfl (fun h1 => ?_) (fun h1 => ?_) | refine CWp.cond rfl (fun h1 => ?_) (fun h1 => ?_)
    · skip
      try simp only [h1, eq_self, decide_true, decide_false, not_true_eq_false, not_false_eq_true, Bool.not_true, Bool.not_false]
      refine CWp.seq ?_
      refine CWp.drawn (by kernel_rfl) ?_
      refine OWp.move rfl rfl ?_
      refine OWp.move rfl rfl ?_
      refine OWp.sliceS rfl rfl Tryd.underlying9 rfl rfl rfl (by omega) (by omega) (by omega) ?_
      refine OWp.move rfl rfl ?_
      refine OWp.move rfl rfl ?_
      refine OWp.addI rfl rfl rfl rfl (by omega) ?_
      refine OWp.sliceS rfl rfl Tryd.underlying9 rfl rfl rfl (by omega) (by omega) (by omega) ?_
      refine OWp.catS rfl rfl rfl rfl (by omega) ?_
      refine OWp.assign rfl rfl ?_
      refine OWp.nil ?_
      refine CWp.ret ?_
      refine RetQ.one (by first | exact .inl rfl | exact .inr rfl) rfl rfl ?_
      exact h _ i n _ hkn hi hn (fun _ => by rw [show ((i : Int) + 1).toNat = i + 1 by omega]; rfl) (fun k => absurd ⟨hb.1 (by simpa using hg0), by omega⟩ k)
    · skip
      try simp only [h1, eq_self, decide_true, decide_false, not_true_eq_false, not_false_eq_true, Bool.not_true, Bool.not_false]
      refine CWp.skip ?_
      refine CWp.seq ?_
      refine CWp.region ?_
      refine OWp.move rfl rfl ?_
      refine OWp.assign rfl rfl ?_
      refine OWp.nil ?_
      refine CWp.ret ?_
      refine RetQ.one (by first | exact .inl rfl | exact .inr rfl) rfl rfl ?_
      exact h _ i n _ hkn hi hn (fun k => absurd k.2 (by omega)) (fun _ => rfl)
  · skip
    try simp only [Decidable.not_not] at hg0
    try simp only [hg0, eq_self, decide_true, decide_false, not_true_eq_false, not_false_eq_true, Bool.not_true, Bool.not_false]
    refine OWp.leave rfl ?_
    refine OWp.leave rfl ?_
    refine OWp.pickF rfl rfl rfl ?_
    refine OWp.nil ?_
    refine CWp.condF rfl ?_
    refine CWp.skip ?_
    refine CWp.seq ?_
    refine CWp.region ?_
    refine OWp.move rfl rfl ?_
    refine OWp.assign rfl rfl ?_
    refine OWp.nil ?_
    refine CWp.ret ?_
    refine RetQ.one (by first | exact .inl rfl | exact .inr rfl) rfl rfl ?_
    exact h _ i n _ hkn hi hn (fun k => by rw [hb.2 k.1] at hg0; cases hg0) (fun _ => rfl)

theorem in14_spec (s : ByteArray) (hs : s.size ≤ 9000000) (H : AH) (Q : Value → AH → Prop) (h : ∀ H' (i n : Nat) x, Keeps H H' → GapEnd s i → RunEnd s i 92 n → (RefR (s.extract (i + n) s.size) ∧ GapEnd (s.extract (i + n) s.size) 0 → x = s.extract 0 i ++ ⟨#[92]⟩ ++ s.extract i s.size) → (¬ (RefR (s.extract (i + n) s.size) ∧ GapEnd (s.extract (i + n) s.size) 0) → x = s) → Q (.string x) H') (hw : WfH H) : FWp Tryd.prog prims 17 [.string s] H Q := by
  have hz5 : (⟨#[92]⟩ : ByteArray).size = 1 := rfl
  refine FWp.enter (rfl) Tryd.func17 rfl (e := [.string s, undef, undef, undef, undef, undef, undef, undef, undef, undef, undef, undef, undef, undef, undef, undef, undef, undef, undef, undef, undef, undef]) rfl ?_
  refine CWp.seq ?_
  refine CWp.region ?_
  refine OWp.assign rfl rfl ?_
  refine OWp.nil ?_
  refine CWp.seq ?_
  refine CWp.region ?_
  refine OWp.move rfl rfl ?_
  refine OWp.call rfl rfl rfl rfl ?_
  refine slashes_spec s hs _ _ ?_ hw
  intro Hn i n b hkn hi hn hb
  have hi1 := hi.1
  have hn1 := hn.1
  have hz1 := ext_le s (Int.toNat 0) (i : Int).toNat
  have hz2 := ext_le s (i : Int).toNat (s.size : Int).toNat
  refine OWp.norm ?_
  refine OWp.move rfl rfl ?_
  refine OWp.extract rfl rfl rfl rfl ?_
  refine OWp.extract rfl rfl rfl rfl ?_
  refine OWp.extract rfl rfl rfl rfl ?_
  refine OWp.assign rfl rfl ?_
  refine OWp.assign rfl rfl ?_
  refine OWp.assign rfl rfl ?_
  refine OWp.nil ?_
  refine CWp.seq ?_
  refine CWp.seq ?_
  refine CWp.region ?_
  refine OWp.move rfl rfl ?_
  refine OWp.nil ?_
  first | refine CWp.condP rfl (fun h0 => ?_) (fun h0 => ?_) | refine CWp.cond rfl (fun h0 => ?_) (fun h0 => ?_)
  · skip
    try simp only [h0, eq_self, decide_true, decide_false, not_true_eq_false, not_false_eq_true, Bool.not_true, Bool.not_false]
    refine CWp.seq ?_
    refine CWp.drawn (by kernel_rfl) ?_
    refine OWp.move rfl rfl ?_
    refine OWp.move rfl rfl ?_
    refine OWp.sliceS rfl rfl Tryd.underlying9 rfl rfl rfl (by first | omega | (simp only [ByteArray.size_append]; omega)) (by first | omega | (simp only [ByteArray.size_append]; omega)) (by first | omega | (simp only [ByteArray.size_append]; omega)) ?_
    refine OWp.catS rfl rfl rfl rfl (by first | omega | (simp only [ByteArray.size_append]; omega)) ?_
    refine OWp.move rfl rfl ?_
    refine OWp.move rfl rfl ?_
    refine OWp.sliceS rfl rfl Tryd.underlying9 rfl rfl rfl (by first | omega | (simp only [ByteArray.size_append]; omega)) (by first | omega | (simp only [ByteArray.size_append]; omega)) (by first | omega | (simp only [ByteArray.size_append]; omega)) ?_
    refine OWp.catS rfl rfl rfl rfl (by first | omega | (simp only [ByteArray.size_append]; omega)) ?_
    refine OWp.assign rfl rfl ?_
    refine OWp.nil ?_
    refine CWp.ret ?_
    refine RetQ.one (by first | exact .inl rfl | exact .inr rfl) rfl rfl ?_
    exact h _ i n _ hkn hi hn (fun _ => rfl) (fun k => absurd (hb.1 (by simpa using h0)) k)
  · skip
    try simp only [h0, eq_self, decide_true, decide_false, not_true_eq_false, not_false_eq_true, Bool.not_true, Bool.not_false]
    refine CWp.skip ?_
    refine CWp.seq ?_
    refine CWp.region ?_
    refine OWp.move rfl rfl ?_
    refine OWp.assign rfl rfl ?_
    refine OWp.nil ?_
    refine CWp.ret ?_
    refine RetQ.one (by first | exact .inl rfl | exact .inr rfl) rfl rfl ?_
    exact h _ i n _ hkn hi hn (fun k => by rw [hb.2 k] at h0; cases h0) (fun _ => rfl)

end Go.Proofs.YtaelmnkddedddaaDoor.Ev
