import Derived.Test.YtnlkgnoogcakjaaGreatDoorEvName
import Derived.Test.YtnlkgnoogcakjaaGreatDoorEvPrimD
namespace Go.Proofs.YtnlkgnoogcakjaaGreatDoor.Ev
open Go
set_option linter.unusedVariables false
set_option linter.unusedSimpArgs false

theorem has_spec (s : ByteArray) (c : Int) (hs : s.size ≤ 9000000) (H : AH) (Q : Value → AH → Prop) (h : ∀ b : Bool, (b = true ↔ ∃ i : Int, 0 ≤ i ∧ i < s.size ∧ byteAt s i = c) → Q (.bool b) H) : FWp Tryz.prog prims 32 [.string s, .int .u8 c] H Q := by
  refine FWp.enter (rfl) Tryz.func32 rfl (e := [.string s, .int .u8 c, undef, undef, undef, undef, undef, undef, undef, undef, undef, undef, undef, undef, undef, undef, undef]) rfl ?_
  refine CWp.seq ?_
  refine CWp.region ?_
  refine OWp.assign rfl rfl ?_
  refine OWp.nil ?_
  refine CWp.seq ?_
  refine CWp.seq ?_
  refine CWp.region ?_
  refine OWp.assign rfl rfl ?_
  refine OWp.nil ?_
  refine CWp.block ?_
  refine CWp.loop (fun k e H' => ∃ (i : Int) (g : Nat → Value), e = [.string s, .int .u8 c, g 2, g 3, g 4, .int .i64 i, g 6, g 7, g 8, g 9, g 10, g 11, g 12, g 13, g 14, g 15, g 16] ∧ k = (s.size - i).toNat ∧ H' = H ∧ 0 ≤ i ∧ i ≤ s.size ∧ ∀ j, 0 ≤ j → j < i → byteAt s j ≠ c) ?_ ?_
  · exact ⟨_, 0, ex_env rfl ⟨rfl, rfl, by omega, by omega, fun j h1 h2 => by omega⟩⟩
  · rintro k e H' ⟨i, g, rfl, rfl, rfl, hi0, hi1, hj⟩
    refine CWp.seq ?_
    refine CWp.seq ?_
    refine CWp.region ?_
    refine OWp.move rfl rfl ?_
    refine OWp.move rfl rfl ?_
    refine OWp.lenS rfl rfl rfl rfl rfl Tryz.underlying9 rfl ?_
    refine OWp.binI rfl rfl rfl rfl rfl ?_
    refine OWp.nil ?_
    first | refine CWp.condP rfl (fun h1 => ?_) (fun h1 => ?_) | refine CWp.cond rfl (fun h1 => ?_) (fun h1 => ?_)
    · skip
      first | rw [decide_eq_true h1] | rw [decide_eq_false h1] | rw [h1] | skip
      refine CWp.skip ?_
      refine CWp.seq ?_
      refine CWp.block ?_
      refine CWp.seq ?_
      refine CWp.region ?_
      refine OWp.move rfl rfl ?_
      refine OWp.move rfl rfl ?_
      refine OWp.indexS rfl rfl Tryz.underlying9 rfl rfl (by omega) (by omega) ?_
      refine OWp.move rfl rfl ?_
      refine OWp.binI rfl rfl rfl rfl rfl ?_
      refine OWp.nil ?_
      first | refine CWp.condP rfl (fun h2 => ?_) (fun h2 => ?_) | refine CWp.cond rfl (fun h2 => ?_) (fun h2 => ?_)
      · skip
        first | rw [decide_eq_true h2] | rw [decide_eq_false h2] | rw [h2] | skip
        refine CWp.seq ?_
        refine CWp.region ?_
        refine OWp.assign rfl rfl ?_
        refine OWp.nil ?_
        refine CWp.ret ?_
        refine RetQ.one (by first | exact .inl rfl | exact .inr rfl) rfl rfl ?_
        exact h true (by simp; exact ⟨i, hi0, by omega, h2⟩)
      · skip
        first | rw [decide_eq_true h2] | rw [decide_eq_false h2] | rw [h2] | skip
        refine CWp.skip ?_
        refine CWp.region ?_
        refine OWp.move rfl rfl ?_
        refine OWp.addI rfl rfl rfl rfl (by omega) ?_
        refine OWp.assign rfl rfl ?_
        refine OWp.nil ?_
        exact ⟨_, by omega, i + 1, ex_env rfl ⟨rfl, rfl, by omega, by omega, fun j a b => by by_cases e : j = i; exact e ▸ h2; exact hj j a (by omega)⟩⟩
    · skip
      first | rw [decide_eq_true h1] | rw [decide_eq_false h1] | rw [h1] | skip
      refine CWp.exit ?_
      refine CWp.seq ?_
      refine CWp.region ?_
      refine OWp.assign rfl rfl ?_
      refine OWp.nil ?_
      refine CWp.ret ?_
      refine RetQ.one (by first | exact .inl rfl | exact .inr rfl) rfl rfl ?_
      exact h false (by simp; exact fun j a b => hj j a (by omega))

theorem blankR_spec (c : Int) (H : AH) (Q : Value → AH → Prop) (h : Q (.bool (blankB c)) H) : FWp Tryz.prog prims 31 [.int .i32 c] H Q := by
  refine FWp.enter (rfl) Tryz.func31 rfl (e := [.int .i32 c, undef, undef, undef, undef, undef, undef, undef, undef, undef, undef, undef, undef, undef, undef, undef, undef, undef, undef, undef, undef, undef, undef, undef, undef]) rfl ?_
  refine CWp.seq ?_
  refine CWp.region ?_
  refine OWp.assign rfl rfl ?_
  refine OWp.nil ?_
  refine CWp.seq ?_
  refine CWp.region ?_
  refine OWp.move rfl rfl ?_
  refine OWp.binI rfl rfl rfl rfl rfl ?_
  refine OWp.move rfl rfl ?_
  first | refine OWp.byT rfl (fun hg0 => ?_) (fun hg0 => ?_) | refine OWp.byBT rfl (fun hg0 => ?_) (fun hg0 => ?_)
  · skip
    first | rw [decide_eq_true hg0] | rw [decide_eq_false hg0] | rw [hg0] | skip
    try simp only [Decidable.not_not] at hg0
    refine OWp.move rfl rfl ?_
    refine OWp.binI rfl rfl rfl rfl rfl ?_
    refine OWp.pickT rfl rfl rfl ?_
    refine OWp.move rfl rfl ?_
    first | refine OWp.byF rfl (fun hg1 => ?_) (fun hg1 => ?_) | refine OWp.byBF rfl (fun hg1 => ?_) (fun hg1 => ?_)
    · skip
      first | rw [decide_eq_true hg1] | rw [decide_eq_false hg1] | rw [hg1] | skip
      try simp only [Decidable.not_not] at hg1
      refine OWp.move rfl rfl ?_
      refine OWp.binI rfl rfl rfl rfl rfl ?_
      refine OWp.pickF rfl rfl rfl ?_
      refine OWp.move rfl rfl ?_
      first | refine OWp.byF rfl (fun hg2 => ?_) (fun hg2 => ?_) | refine OWp.byBF rfl (fun hg2 => ?_) (fun hg2 => ?_)
      · skip
        first | rw [decide_eq_true hg2] | rw [decide_eq_false hg2] | rw [hg2] | skip
        try simp only [Decidable.not_not] at hg2
        refine OWp.move rfl rfl ?_
        refine OWp.binI rfl rfl rfl rfl rfl ?_
        refine OWp.pickF rfl rfl rfl ?_
        refine OWp.move rfl rfl ?_
        first | refine OWp.byF rfl (fun hg3 => ?_) (fun hg3 => ?_) | refine OWp.byBF rfl (fun hg3 => ?_) (fun hg3 => ?_)
        · skip
          first | rw [decide_eq_true hg3] | rw [decide_eq_false hg3] | rw [hg3] | skip
          try simp only [Decidable.not_not] at hg3
          refine OWp.move rfl rfl ?_
          refine OWp.binI rfl rfl rfl rfl rfl ?_
          refine OWp.pickF rfl rfl rfl ?_
          refine OWp.move rfl rfl ?_
          first | refine OWp.byF rfl (fun hg4 => ?_) (fun hg4 => ?_) | refine OWp.byBF rfl (fun hg4 => ?_) (fun hg4 => ?_)
          · skip
            first | rw [decide_eq_true hg4] | rw [decide_eq_false hg4] | rw [hg4] | skip
            try simp only [Decidable.not_not] at hg4
            refine OWp.move rfl rfl ?_
            refine OWp.binI rfl rfl rfl rfl rfl ?_
            refine OWp.pickF rfl rfl rfl ?_
            refine OWp.assign rfl rfl ?_
            refine OWp.nil ?_
            refine CWp.ret ?_
            refine RetQ.one (by first | exact .inl rfl | exact .inr rfl) rfl rfl ?_
            exact Q_bool h (by first | (simp [blankB, gapB, *]; done) | (simp [blankB, gapB, *]; omega))
          · skip
            first | rw [decide_eq_true hg4] | rw [decide_eq_false hg4] | rw [hg4] | skip
            try simp only [Decidable.not_not] at hg4
            refine OWp.leave rfl ?_
            refine OWp.leave rfl ?_
            refine OWp.pickT rfl rfl rfl ?_
            refine OWp.assign rfl rfl ?_
            refine OWp.nil ?_
            refine CWp.ret ?_
            refine RetQ.one (by first | exact .inl rfl | exact .inr rfl) rfl rfl ?_
            exact Q_bool h (by first | (simp [blankB, gapB, *]; done) | (simp [blankB, gapB, *]; omega))
        · skip
          first | rw [decide_eq_true hg3] | rw [decide_eq_false hg3] | rw [hg3] | skip
          try simp only [Decidable.not_not] at hg3
          refine OWp.leave rfl ?_
          refine OWp.leave rfl ?_
          refine OWp.pickT rfl rfl rfl ?_
          refine OWp.move rfl rfl ?_
          refine OWp.leave rfl ?_
          refine OWp.leave rfl ?_
          refine OWp.pickT rfl rfl rfl ?_
          refine OWp.assign rfl rfl ?_
          refine OWp.nil ?_
          refine CWp.ret ?_
          refine RetQ.one (by first | exact .inl rfl | exact .inr rfl) rfl rfl ?_
          exact Q_bool h (by first | (simp [blankB, gapB, *]; done) | (simp [blankB, gapB, *]; omega))
      · skip
        first | rw [decide_eq_true hg2] | rw [decide_eq_false hg2] | rw [hg2] | skip
        try simp only [Decidable.not_not] at hg2
        refine OWp.leave rfl ?_
        refine OWp.leave rfl ?_
        refine OWp.pickT rfl rfl rfl ?_
        refine OWp.move rfl rfl ?_
        refine OWp.leave rfl ?_
        refine OWp.leave rfl ?_
        refine OWp.pickT rfl rfl rfl ?_
        refine OWp.move rfl rfl ?_
        refine OWp.leave rfl ?_
        refine OWp.leave rfl ?_
        refine OWp.pickT rfl rfl rfl ?_
        refine OWp.assign rfl rfl ?_
        refine OWp.nil ?_
        refine CWp.ret ?_
        refine RetQ.one (by first | exact .inl rfl | exact .inr rfl) rfl rfl ?_
        exact Q_bool h (by first | (simp [blankB, gapB, *]; done) | (simp [blankB, gapB, *]; omega))
    · skip
      first | rw [decide_eq_true hg1] | rw [decide_eq_false hg1] | rw [hg1] | skip
      try simp only [Decidable.not_not] at hg1
      refine OWp.leave rfl ?_
      refine OWp.leave rfl ?_
      refine OWp.pickT rfl rfl rfl ?_
      refine OWp.move rfl rfl ?_
      refine OWp.leave rfl ?_
      refine OWp.leave rfl ?_
      refine OWp.pickT rfl rfl rfl ?_
      refine OWp.move rfl rfl ?_
      refine OWp.leave rfl ?_
      refine OWp.leave rfl ?_
      refine OWp.pickT rfl rfl rfl ?_
      refine OWp.move rfl rfl ?_
      refine OWp.leave rfl ?_
      refine OWp.leave rfl ?_
      refine OWp.pickT rfl rfl rfl ?_
      refine OWp.assign rfl rfl ?_
      refine OWp.nil ?_
      refine CWp.ret ?_
      refine RetQ.one (by first | exact .inl rfl | exact .inr rfl) rfl rfl ?_
      exact Q_bool h (by first | (simp [blankB, gapB, *]; done) | (simp [blankB, gapB, *]; omega))
  · skip
    first | rw [decide_eq_true hg0] | rw [decide_eq_false hg0] | rw [hg0] | skip
    try simp only [Decidable.not_not] at hg0
    refine OWp.leave rfl ?_
    refine OWp.leave rfl ?_
    refine OWp.pickF rfl rfl rfl ?_
    refine OWp.move rfl rfl ?_
    refine OWp.move rfl rfl ?_
    refine OWp.binI rfl rfl rfl rfl rfl ?_
    refine OWp.pickF rfl rfl rfl ?_
    refine OWp.move rfl rfl ?_
    first | refine OWp.byF rfl (fun hg1 => ?_) (fun hg1 => ?_) | refine OWp.byBF rfl (fun hg1 => ?_) (fun hg1 => ?_)
    · skip
      first | rw [decide_eq_true hg1] | rw [decide_eq_false hg1] | rw [hg1] | skip
      try simp only [Decidable.not_not] at hg1
      refine OWp.move rfl rfl ?_
      refine OWp.binI rfl rfl rfl rfl rfl ?_
      refine OWp.pickF rfl rfl rfl ?_
      refine OWp.move rfl rfl ?_
      first | refine OWp.byF rfl (fun hg2 => ?_) (fun hg2 => ?_) | refine OWp.byBF rfl (fun hg2 => ?_) (fun hg2 => ?_)
      · skip
        first | rw [decide_eq_true hg2] | rw [decide_eq_false hg2] | rw [hg2] | skip
        try simp only [Decidable.not_not] at hg2
        refine OWp.move rfl rfl ?_
        refine OWp.binI rfl rfl rfl rfl rfl ?_
        refine OWp.pickF rfl rfl rfl ?_
        refine OWp.move rfl rfl ?_
        first | refine OWp.byF rfl (fun hg3 => ?_) (fun hg3 => ?_) | refine OWp.byBF rfl (fun hg3 => ?_) (fun hg3 => ?_)
        · skip
          first | rw [decide_eq_true hg3] | rw [decide_eq_false hg3] | rw [hg3] | skip
          try simp only [Decidable.not_not] at hg3
          refine OWp.move rfl rfl ?_
          refine OWp.binI rfl rfl rfl rfl rfl ?_
          refine OWp.pickF rfl rfl rfl ?_
          refine OWp.assign rfl rfl ?_
          refine OWp.nil ?_
          refine CWp.ret ?_
          refine RetQ.one (by first | exact .inl rfl | exact .inr rfl) rfl rfl ?_
          exact Q_bool h (by first | (simp [blankB, gapB, *]; done) | (simp [blankB, gapB, *]; omega))
        · skip
          first | rw [decide_eq_true hg3] | rw [decide_eq_false hg3] | rw [hg3] | skip
          try simp only [Decidable.not_not] at hg3
          refine OWp.leave rfl ?_
          refine OWp.leave rfl ?_
          refine OWp.pickT rfl rfl rfl ?_
          refine OWp.assign rfl rfl ?_
          refine OWp.nil ?_
          refine CWp.ret ?_
          refine RetQ.one (by first | exact .inl rfl | exact .inr rfl) rfl rfl ?_
          exact Q_bool h (by first | (simp [blankB, gapB, *]; done) | (simp [blankB, gapB, *]; omega))
      · skip
        first | rw [decide_eq_true hg2] | rw [decide_eq_false hg2] | rw [hg2] | skip
        try simp only [Decidable.not_not] at hg2
        refine OWp.leave rfl ?_
        refine OWp.leave rfl ?_
        refine OWp.pickT rfl rfl rfl ?_
        refine OWp.move rfl rfl ?_
        refine OWp.leave rfl ?_
        refine OWp.leave rfl ?_
        refine OWp.pickT rfl rfl rfl ?_
        refine OWp.assign rfl rfl ?_
        refine OWp.nil ?_
        refine CWp.ret ?_
        refine RetQ.one (by first | exact .inl rfl | exact .inr rfl) rfl rfl ?_
        exact Q_bool h (by first | (simp [blankB, gapB, *]; done) | (simp [blankB, gapB, *]; omega))
    · skip
      first | rw [decide_eq_true hg1] | rw [decide_eq_false hg1] | rw [hg1] | skip
      try simp only [Decidable.not_not] at hg1
      refine OWp.leave rfl ?_
      refine OWp.leave rfl ?_
      refine OWp.pickT rfl rfl rfl ?_
      refine OWp.move rfl rfl ?_
      refine OWp.leave rfl ?_
      refine OWp.leave rfl ?_
      refine OWp.pickT rfl rfl rfl ?_
      refine OWp.move rfl rfl ?_
      refine OWp.leave rfl ?_
      refine OWp.leave rfl ?_
      refine OWp.pickT rfl rfl rfl ?_
      refine OWp.assign rfl rfl ?_
      refine OWp.nil ?_
      refine CWp.ret ?_
      refine RetQ.one (by first | exact .inl rfl | exact .inr rfl) rfl rfl ?_
      exact Q_bool h (by first | (simp [blankB, gapB, *]; done) | (simp [blankB, gapB, *]; omega))

theorem blank_spec (c : Int) (H : AH) (Q : Value → AH → Prop) (h : Q (.bool (blankB c)) H) : FWp Tryz.prog prims 29 [.int .i32 c] H Q := by
  refine FWp.enter (rfl) Tryz.func29 rfl (e := [.int .i32 c, undef, undef, undef, undef, undef, undef, undef, undef, undef, undef, undef, undef, undef]) rfl ?_
  refine CWp.seq ?_
  refine CWp.region ?_
  refine OWp.assign rfl rfl ?_
  refine OWp.nil ?_
  refine CWp.seq ?_
  refine CWp.seq ?_
  refine CWp.region ?_
  refine OWp.move rfl rfl ?_
  refine OWp.nil ?_
  refine CWp.block ?_
  refine CWp.seq ?_
  refine CWp.seq ?_
  refine CWp.region ?_
  refine OWp.binI rfl rfl rfl rfl rfl ?_
  refine OWp.assign rfl rfl ?_
  refine OWp.nil ?_
  first | refine CWp.condP rfl (fun h0 => ?_) (fun h0 => ?_) | refine CWp.cond rfl (fun h0 => ?_) (fun h0 => ?_)
  · skip
    first | rw [decide_eq_true h0] | rw [decide_eq_false h0] | rw [h0] | skip
    refine CWp.skip ?_
    refine CWp.condT rfl ?_
    refine CWp.seq ?_
    refine CWp.region ?_
    refine OWp.assign rfl rfl ?_
    refine OWp.nil ?_
    refine CWp.ret ?_
    refine RetQ.one (by first | exact .inl rfl | exact .inr rfl) rfl rfl ?_
    exact Q_bool h (by first | (simp [blankB, gapB, *]; done) | (simp [blankB, gapB, *]; omega))
  · skip
    first | rw [decide_eq_true h0] | rw [decide_eq_false h0] | rw [h0] | skip
    refine CWp.seq ?_
    refine CWp.region ?_
    refine OWp.binI rfl rfl rfl rfl rfl ?_
    refine OWp.assign rfl rfl ?_
    refine OWp.nil ?_
    first | refine CWp.condP rfl (fun h1 => ?_) (fun h1 => ?_) | refine CWp.cond rfl (fun h1 => ?_) (fun h1 => ?_)
    · skip
      first | rw [decide_eq_true h1] | rw [decide_eq_false h1] | rw [h1] | skip
      refine CWp.skip ?_
      refine CWp.condT rfl ?_
      refine CWp.seq ?_
      refine CWp.region ?_
      refine OWp.assign rfl rfl ?_
      refine OWp.nil ?_
      refine CWp.ret ?_
      refine RetQ.one (by first | exact .inl rfl | exact .inr rfl) rfl rfl ?_
      exact Q_bool h (by first | (simp [blankB, gapB, *]; done) | (simp [blankB, gapB, *]; omega))
    · skip
      first | rw [decide_eq_true h1] | rw [decide_eq_false h1] | rw [h1] | skip
      refine CWp.seq ?_
      refine CWp.region ?_
      refine OWp.binI rfl rfl rfl rfl rfl ?_
      refine OWp.assign rfl rfl ?_
      refine OWp.nil ?_
      first | refine CWp.condP rfl (fun h2 => ?_) (fun h2 => ?_) | refine CWp.cond rfl (fun h2 => ?_) (fun h2 => ?_)
      · skip
        first | rw [decide_eq_true h2] | rw [decide_eq_false h2] | rw [h2] | skip
        refine CWp.skip ?_
        refine CWp.condT rfl ?_
        refine CWp.seq ?_
        refine CWp.region ?_
        refine OWp.assign rfl rfl ?_
        refine OWp.nil ?_
        refine CWp.ret ?_
        refine RetQ.one (by first | exact .inl rfl | exact .inr rfl) rfl rfl ?_
        exact Q_bool h (by first | (simp [blankB, gapB, *]; done) | (simp [blankB, gapB, *]; omega))
      · skip
        first | rw [decide_eq_true h2] | rw [decide_eq_false h2] | rw [h2] | skip
        refine CWp.seq ?_
        refine CWp.region ?_
        refine OWp.binI rfl rfl rfl rfl rfl ?_
        refine OWp.assign rfl rfl ?_
        refine OWp.nil ?_
        first | refine CWp.condP rfl (fun h3 => ?_) (fun h3 => ?_) | refine CWp.cond rfl (fun h3 => ?_) (fun h3 => ?_)
        · skip
          first | rw [decide_eq_true h3] | rw [decide_eq_false h3] | rw [h3] | skip
          refine CWp.skip ?_
          refine CWp.condT rfl ?_
          refine CWp.seq ?_
          refine CWp.region ?_
          refine OWp.assign rfl rfl ?_
          refine OWp.nil ?_
          refine CWp.ret ?_
          refine RetQ.one (by first | exact .inl rfl | exact .inr rfl) rfl rfl ?_
          exact Q_bool h (by first | (simp [blankB, gapB, *]; done) | (simp [blankB, gapB, *]; omega))
        · skip
          first | rw [decide_eq_true h3] | rw [decide_eq_false h3] | rw [h3] | skip
          refine CWp.seq ?_
          refine CWp.region ?_
          refine OWp.binI rfl rfl rfl rfl rfl ?_
          refine OWp.assign rfl rfl ?_
          refine OWp.nil ?_
          first | refine CWp.condP rfl (fun h4 => ?_) (fun h4 => ?_) | refine CWp.cond rfl (fun h4 => ?_) (fun h4 => ?_)
          · skip
            first | rw [decide_eq_true h4] | rw [decide_eq_false h4] | rw [h4] | skip
            refine CWp.skip ?_
            refine CWp.condT rfl ?_
            refine CWp.seq ?_
            refine CWp.region ?_
            refine OWp.assign rfl rfl ?_
            refine OWp.nil ?_
            refine CWp.ret ?_
            refine RetQ.one (by first | exact .inl rfl | exact .inr rfl) rfl rfl ?_
            exact Q_bool h (by first | (simp [blankB, gapB, *]; done) | (simp [blankB, gapB, *]; omega))
          · skip
            first | rw [decide_eq_true h4] | rw [decide_eq_false h4] | rw [h4] | skip
            refine CWp.seq ?_
            refine CWp.region ?_
            refine OWp.binI rfl rfl rfl rfl rfl ?_
            refine OWp.assign rfl rfl ?_
            refine OWp.nil ?_
            first | refine CWp.condP rfl (fun h5 => ?_) (fun h5 => ?_) | refine CWp.cond rfl (fun h5 => ?_) (fun h5 => ?_)
            · skip
              first | rw [decide_eq_true h5] | rw [decide_eq_false h5] | rw [h5] | skip
              refine CWp.skip ?_
              refine CWp.condT rfl ?_
              refine CWp.seq ?_
              refine CWp.region ?_
              refine OWp.assign rfl rfl ?_
              refine OWp.nil ?_
              refine CWp.ret ?_
              refine RetQ.one (by first | exact .inl rfl | exact .inr rfl) rfl rfl ?_
              exact Q_bool h (by first | (simp [blankB, gapB, *]; done) | (simp [blankB, gapB, *]; omega))
            · skip
              first | rw [decide_eq_true h5] | rw [decide_eq_false h5] | rw [h5] | skip
              refine CWp.seq ?_
              refine CWp.region ?_
              refine OWp.binI rfl rfl rfl rfl rfl ?_
              refine OWp.assign rfl rfl ?_
              refine OWp.nil ?_
              first | refine CWp.condP rfl (fun h6 => ?_) (fun h6 => ?_) | refine CWp.cond rfl (fun h6 => ?_) (fun h6 => ?_)
              · skip
                first | rw [decide_eq_true h6] | rw [decide_eq_false h6] | rw [h6] | skip
                refine CWp.skip ?_
                refine CWp.condT rfl ?_
                refine CWp.seq ?_
                refine CWp.region ?_
                refine OWp.assign rfl rfl ?_
                refine OWp.nil ?_
                refine CWp.ret ?_
                refine RetQ.one (by first | exact .inl rfl | exact .inr rfl) rfl rfl ?_
                exact Q_bool h (by first | (simp [blankB, gapB, *]; done) | (simp [blankB, gapB, *]; omega))
              · skip
                first | rw [decide_eq_true h6] | rw [decide_eq_false h6] | rw [h6] | skip
                refine CWp.seq ?_
                refine CWp.region ?_
                refine OWp.binI rfl rfl rfl rfl rfl ?_
                refine OWp.assign rfl rfl ?_
                refine OWp.nil ?_
                first | refine CWp.condP rfl (fun h7 => ?_) (fun h7 => ?_) | refine CWp.cond rfl (fun h7 => ?_) (fun h7 => ?_)
                · skip
                  first | rw [decide_eq_true h7] | rw [decide_eq_false h7] | rw [h7] | skip
                  refine CWp.skip ?_
                  refine CWp.condT rfl ?_
                  refine CWp.seq ?_
                  refine CWp.region ?_
                  refine OWp.assign rfl rfl ?_
                  refine OWp.nil ?_
                  refine CWp.ret ?_
                  refine RetQ.one (by first | exact .inl rfl | exact .inr rfl) rfl rfl ?_
                  exact Q_bool h (by first | (simp [blankB, gapB, *]; done) | (simp [blankB, gapB, *]; omega))
                · skip
                  first | rw [decide_eq_true h7] | rw [decide_eq_false h7] | rw [h7] | skip
                  refine CWp.region ?_
                  refine OWp.binI rfl rfl rfl rfl rfl ?_
                  refine OWp.assign rfl rfl ?_
                  refine OWp.nil ?_
                  first | refine CWp.condP rfl (fun h8 => ?_) (fun h8 => ?_) | refine CWp.cond rfl (fun h8 => ?_) (fun h8 => ?_)
                  · skip
                    first | rw [decide_eq_true h8] | rw [decide_eq_false h8] | rw [h8] | skip
                    refine CWp.seq ?_
                    refine CWp.region ?_
                    refine OWp.assign rfl rfl ?_
                    refine OWp.nil ?_
                    refine CWp.ret ?_
                    refine RetQ.one (by first | exact .inl rfl | exact .inr rfl) rfl rfl ?_
                    exact Q_bool h (by first | (simp [blankB, gapB, *]; done) | (simp [blankB, gapB, *]; omega))
                  · skip
                    first | rw [decide_eq_true h8] | rw [decide_eq_false h8] | rw [h8] | skip
                    refine CWp.skip ?_
                    refine CWp.seq ?_
                    refine CWp.region ?_
                    refine OWp.assign rfl rfl ?_
                    refine OWp.nil ?_
                    refine CWp.ret ?_
                    refine RetQ.one (by first | exact .inl rfl | exact .inr rfl) rfl rfl ?_
                    exact Q_bool h (by first | (simp [blankB, gapB, *]; done) | (simp [blankB, gapB, *]; omega))

theorem blankRv_spec (c : Int) (H : AH) (Q : Value → AH → Prop) (h : ∀ b, b = blankB c → Q (.bool b) H) : FWp Tryz.prog prims 31 [.int .i32 c] H Q := blankR_spec c H Q (h _ rfl)
theorem blankv_spec (c : Int) (H : AH) (Q : Value → AH → Prop) (h : ∀ b, b = blankB c → Q (.bool b) H) : FWp Tryz.prog prims 29 [.int .i32 c] H Q := blank_spec c H Q (h _ rfl)

theorem hasPrefix_spec (s p : ByteArray) (hs : s.size ≤ 9000000) (hp : p.size ≤ 9000000) (H : AH) (Q : Value → AH → Prop) (h : ∀ b : Bool, (b = true ↔ PrefB s p) → Q (.bool b) H) : FWp Tryz.prog prims 105 [.string s, .string p] H Q := by
  refine FWp.enter (rfl) Tryz.func105 rfl (e := [.string s, .string p, undef, undef, undef, undef, undef, undef, undef, undef, undef, undef, undef, undef, undef, undef, undef, undef]) rfl ?_
  refine CWp.seq ?_
  refine CWp.region ?_
  refine OWp.assign rfl rfl ?_
  refine OWp.nil ?_
  refine CWp.seq ?_
  refine CWp.region ?_
  refine OWp.move rfl rfl ?_
  refine OWp.lenS rfl rfl rfl rfl rfl Tryz.underlying9 rfl ?_
  refine OWp.move rfl rfl ?_
  refine OWp.lenS rfl rfl rfl rfl rfl Tryz.underlying9 rfl ?_
  refine OWp.binI rfl rfl rfl rfl rfl ?_
  refine OWp.move rfl rfl ?_
  first | refine OWp.byT rfl (fun hg0 => ?_) (fun hg0 => ?_) | refine OWp.byBT rfl (fun hg0 => ?_) (fun hg0 => ?_)
  · skip
    first | rw [decide_eq_true hg0] | rw [decide_eq_false hg0] | rw [hg0] | skip
    try simp only [Decidable.not_not] at hg0
    refine OWp.move rfl rfl ?_
    refine OWp.move rfl rfl ?_
    refine OWp.lenS rfl rfl rfl rfl rfl Tryz.underlying9 rfl ?_
    refine OWp.sliceS rfl rfl Tryz.underlying9 rfl rfl rfl (by omega) (by omega) (by omega) ?_
    refine OWp.move rfl rfl ?_
    refine OWp.binS rfl rfl rfl rfl rfl ?_
    refine OWp.pickT rfl rfl rfl ?_
    refine OWp.assign rfl rfl ?_
    refine OWp.nil ?_
    refine CWp.ret ?_
    refine RetQ.one (by first | exact .inl rfl | exact .inr rfl) rfl rfl ?_
    exact h _ (by simp [PrefB]; omega)
  · skip
    first | rw [decide_eq_true hg0] | rw [decide_eq_false hg0] | rw [hg0] | skip
    try simp only [Decidable.not_not] at hg0
    refine OWp.leave rfl ?_
    refine OWp.leave rfl ?_
    refine OWp.leave rfl ?_
    refine OWp.leave rfl ?_
    refine OWp.leave rfl ?_
    refine OWp.leave rfl ?_
    refine OWp.pickF rfl rfl rfl ?_
    refine OWp.assign rfl rfl ?_
    refine OWp.nil ?_
    refine CWp.ret ?_
    refine RetQ.one (by first | exact .inl rfl | exact .inr rfl) rfl rfl ?_
    exact h _ (by simp [PrefB]; intro hh; exact absurd (show (s.size : Int) ≥ p.size by omega) hg0)

theorem first_spec (s : ByteArray) (H : AH) (Q : Value → AH → Prop) (h : ∀ H', Keeps H H' → Q (.tuple #[.int .i32 (if 0 < s.size then (Utf8.decode s 0).1 else 0), .bool (decide (0 < s.size))]) H') (hw : WfH H) : FWp Tryz.prog prims 27 [.string s] H Q := by
  refine FWp.enter (rfl) Tryz.func27 rfl (e := [.string s, undef, undef, undef, undef, undef, undef, undef, undef, undef, undef, undef]) rfl ?_
  refine CWp.seq ?_
  refine CWp.region ?_
  refine OWp.assign rfl rfl ?_
  refine OWp.assign rfl rfl ?_
  refine OWp.nil ?_
  refine CWp.seq ?_
  refine CWp.seq ?_
  refine CWp.region ?_
  refine OWp.move rfl rfl ?_
  refine OWp.rangeS hw rfl rfl Tryz.underlying9 rfl (fun H1 i hw1 hk1 hi1 ho1 => ?_)
  refine OWp.norm ?_
  refine OWp.nil ?_
  refine CWp.block ?_
  refine CWp.loop (fun k e H' => ∃ (i : Nat) (g : Nat → Value), e = [.string s, g 1, g 2, g 3, g 4, g 5, g 6, .pointer (some ⟨i, 0, none⟩), g 8, g 9, g 10, g 11] ∧ k = 0 ∧ WfH H' ∧ Keeps H H' ∧ H.next ≤ i ∧ Own H' i (.stringIter s 0) true ∧ True) ?_ ?_
  · exact ⟨_, i, ex_env rfl ⟨rfl, hw1, hk1, hi1, ho1, trivial⟩⟩
  · rintro k e H' ⟨i, g, rfl, rfl, hw', hk', hi', hit, _⟩
    refine CWp.seq ?_
    refine CWp.region ?_
    refine OWp.nextS hw' hit rfl rfl rfl (fun hlt H1 hw1 hk1 hot hit1 hse1 hnx => ?_) (fun hge => ?_)
    · refine OWp.norm ?_
      refine OWp.extract rfl rfl rfl rfl ?_
      refine OWp.nil ?_
      refine CWp.seq ?_
      refine CWp.condT rfl ?_
      refine CWp.skip ?_
      refine CWp.block ?_
      refine CWp.seq ?_
      refine CWp.region ?_
      refine OWp.extract rfl rfl rfl rfl ?_
      refine OWp.assign rfl rfl ?_
      refine OWp.nil ?_
      refine CWp.seq ?_
      refine CWp.region ?_
      refine OWp.move rfl rfl ?_
      refine OWp.assign rfl rfl ?_
      refine OWp.assign rfl rfl ?_
      refine OWp.nil ?_
      refine CWp.ret ?_
      refine RetQ.two (by first | exact .inl rfl | exact .inr rfl) rfl rfl rfl rfl rfl ?_
      have hp : 0 < s.size := hlt
      have := h _ (hk1 H hw hk' hi')
      simp only [if_pos hp, decide_eq_true hp] at this
      exact this
    · refine OWp.norm ?_
      refine OWp.extract rfl rfl rfl rfl ?_
      refine OWp.nil ?_
      refine CWp.seq ?_
      refine CWp.condF rfl ?_
      refine CWp.exit ?_
      refine CWp.seq ?_
      refine CWp.region ?_
      refine OWp.assign rfl rfl ?_
      refine OWp.assign rfl rfl ?_
      refine OWp.nil ?_
      refine CWp.ret ?_
      refine RetQ.two (by first | exact .inl rfl | exact .inr rfl) rfl rfl rfl rfl rfl ?_
      have hp : ¬ 0 < s.size := hge
      have := h _ hk'
      simp only [if_neg hp, decide_eq_false hp] at this
      exact this

theorem runesR_spec (s : ByteArray) (hs : s.size ≤ 9000000) (H : AH) (Q : Value → AH → Prop) (h : ∀ H' v, Keeps H H' → Grow H.next H' v 21 (runeV (runes s)) → Q v H') (hw : WfH H) : FWp Tryz.prog prims 30 [.string s] H Q := by
  have hE : elemT Tryz.prog 56 = some 21 := by kernel_rfl
  have hz : zeroT Tryz.prog 21 = some (.int .i32 0) := by kernel_rfl
  have hs1 : szT Tryz.prog 21 = 1 := by kernel_rfl
  have hb4 : bytesT Tryz.prog 21 = 4 := by kernel_rfl
  refine FWp.enter (rfl) Tryz.func30 rfl (e := [.string s, undef, undef, undef, undef, undef, undef, undef, undef, undef, undef, undef, undef, undef, undef, undef]) rfl ?_
  refine CWp.seq ?_
  refine CWp.region ?_
  refine OWp.assign rfl rfl ?_
  refine OWp.nil ?_
  refine CWp.seq ?_
  refine CWp.region ?_
  refine OWp.assign rfl rfl ?_
  refine OWp.nil ?_
  refine CWp.seq ?_
  refine CWp.seq ?_
  refine CWp.region ?_
  refine OWp.move rfl rfl ?_
  refine OWp.rangeS hw rfl rfl Tryz.underlying9 rfl (fun H1 i hw1 hk1 hi1 ho1 => ?_)
  refine OWp.norm ?_
  refine OWp.nil ?_
  refine CWp.block ?_
  refine CWp.loop (fun k e H' => ∃ (i pos : Nat) (v : Value) (l : List Nat) (g : Nat → Value), e = [.string s, g 1, g 2, v, g 4, g 5, g 6, .pointer (some ⟨i, 0, none⟩), g 8, g 9, g 10, g 11, g 12, g 13, g 14, g 15] ∧ k = s.size - pos ∧ WfH H' ∧ Keeps H H' ∧ H.next ≤ i ∧ Own H' i (.stringIter s pos) true ∧ Grow H.next H' v 21 (runeV l) ∧ l ++ runesF s (s.size - pos) pos = runes s ∧ l.length ≤ s.size ∧ (pos < s.size → l.length ≤ pos)) ?_ ?_
  · exact ⟨_, i, 0, _, [], ex_env rfl ⟨rfl, hw1, hk1, hi1, ho1, .inl ⟨rfl, rfl⟩, rfl, by simp, by simp⟩⟩
  · rintro k e H' ⟨i, pos, v, l, g, rfl, rfl, hw', hk', hi', hit, hgr, hl, hll, hlp⟩
    refine CWp.seq ?_
    refine CWp.region ?_
    refine OWp.nextS hw' hit rfl rfl rfl (fun hlt H1 hw1 hk1 hot hit1 hse1 hnx => ?_) (fun hge => ?_)
    · refine OWp.norm ?_
      have hwid := Lib.decode_width_pos s pos hlt
      have hlp2 := hlp hlt
      refine OWp.extract rfl rfl rfl rfl ?_
      refine OWp.nil ?_
      refine CWp.seq ?_
      refine CWp.condT rfl ?_
      refine CWp.skip ?_
      refine CWp.block ?_
      refine CWp.seq ?_
      refine CWp.region ?_
      refine OWp.extract rfl rfl rfl rfl ?_
      refine OWp.assign rfl rfl ?_
      refine OWp.nil ?_
      refine CWp.region ?_
      refine OWp.move rfl rfl ?_
      refine OWp.move rfl rfl ?_
      refine OWp.buildSl hw1 rfl rfl rfl (t' := 21) (cells := #[.int .i32 ((Utf8.decode s pos).1 : Nat)]) (by kernel_rfl) (fun H2 c hw2 hk2 hc2 ho2 => ?_)
      refine OWp.norm ?_
      have hgr1 : Grow H.next H1 v 21 (runeV l) := hnx _ _ _ _ hgr
      refine OWp.append (B := H.next) hw2 (by have := hk'.next; have := (hk1 H hw hk' hi').next; have := hk2.next; omega) (hgr1.keep hw1 hk2) ho2.row rfl (by simp) rfl rfl rfl rfl rfl hE Tryz.underlying56 hz rfl hs1 (by omega) rfl rfl (by simp [runeV, hb4]; omega) (fun H3 v3 hg3 hgr3 => ?_)
      refine OWp.norm ?_
      refine OWp.assign rfl rfl ?_
      refine OWp.nil ?_
      exact ⟨_, by omega, i, pos + (Utf8.decode s pos).2, v3, l ++ [(Utf8.decode s pos).1], ex_env rfl ⟨rfl, hg3.wf, hg3.keeps H hw ((hk1 H hw hk' hi').trans hk2 hw) (Nat.le_refl _), hi', hg3.own _ _ (hit1.keep hw1 hk2), by simpa [runeV] using hgr3, by rw [List.append_assoc, ← hl, runesF_step s pos hlt]; rfl, by simp; omega, by simp; omega⟩⟩
    · refine OWp.norm ?_
      refine OWp.extract rfl rfl rfl rfl ?_
      refine OWp.nil ?_
      refine CWp.seq ?_
      refine CWp.condF rfl ?_
      refine CWp.exit ?_
      refine CWp.seq ?_
      refine CWp.region ?_
      refine OWp.move rfl rfl ?_
      refine OWp.assign rfl rfl ?_
      refine OWp.nil ?_
      refine CWp.ret ?_
      refine RetQ.one (by first | exact .inl rfl | exact .inr rfl) rfl rfl ?_
      have he : runesF s (s.size - pos) pos = [] := runesF_end _ _ _ hge
      rw [he, List.append_nil] at hl
      subst hl
      exact h _ _ hk' hgr

theorem nameR_spec (s : ByteArray) (hs : s.size ≤ 9000000) (H : AH) (Q : Value → AH → Prop) (h : ∀ H' b, Keeps H H' → (b = true ↔ NameR s) → Q (.bool b) H') (hw : WfH H) : FWp Tryz.prog prims 15 [.string s] H Q := by
  have hs1 : szT Tryz.prog 21 = 1 := by kernel_rfl
  have hrl := runes_len s
  refine FWp.enter (rfl) Tryz.func15 rfl (e := [.string s, undef, undef, undef, undef, undef, undef, undef, undef, undef, undef, undef, undef, undef, undef, undef, undef, undef, undef, undef, undef, undef, undef, undef, undef, undef, undef, undef, undef, undef, undef, undef, undef, undef, undef, undef, undef, undef, undef, undef, undef, undef, undef, undef, undef, undef, undef, undef, undef, undef, undef, undef, undef, undef, undef]) rfl ?_
  refine CWp.seq ?_
  refine CWp.region ?_
  refine OWp.assign rfl rfl ?_
  refine OWp.nil ?_
  refine CWp.seq ?_
  refine CWp.region ?_
  refine OWp.move rfl rfl ?_
  refine OWp.call rfl rfl rfl rfl ?_
  refine runesR_spec s hs H _ ?_ hw
  intro Hr v hk' hgr
  have hw' := hk'.wf
  obtain ⟨p, rfl, hrow⟩ := hgr.row
  rw [runeV_length]
  refine OWp.norm ?_
  refine OWp.assign rfl rfl ?_
  refine OWp.nil ?_
  refine CWp.seq ?_
  refine CWp.seq ?_
  refine CWp.region ?_
  refine OWp.move rfl rfl ?_
  refine OWp.lenS rfl rfl rfl rfl rfl Tryz.underlying9 rfl ?_
  refine OWp.binI rfl rfl rfl rfl rfl ?_
  refine OWp.move rfl rfl ?_
  first | refine OWp.byF rfl (fun hg0 => ?_) (fun hg0 => ?_) | refine OWp.byBF rfl (fun hg0 => ?_) (fun hg0 => ?_)
  · skip
    have hne := runes_ne s (by omega)
    obtain ⟨a, rfl⟩ : ∃ a, p = some a := by
      cases p with
      | none => have : runeV (runes s) = [] := hrow; rw [← runeV_length, this] at hne; simp at hne
      | some a => exact ⟨a, rfl⟩
    try simp only [hg0, decide_false, decide_true]
    refine OWp.move rfl rfl ?_
    refine OWp.lenS rfl rfl rfl rfl rfl Tryz.underlying9 rfl ?_
    refine OWp.binI rfl rfl rfl rfl rfl ?_
    refine OWp.pickF rfl rfl rfl ?_
    refine OWp.move rfl rfl ?_
    first | refine OWp.byF rfl (fun hg1 => ?_) (fun hg1 => ?_) | refine OWp.byBF rfl (fun hg1 => ?_) (fun hg1 => ?_)
    · skip
      first | rw [decide_eq_true hg1] | rw [decide_eq_false hg1] | rw [hg1] | skip
      try simp only [Decidable.not_not] at hg1
      refine OWp.move rfl rfl ?_
      refine OWp.convRunes rfl rfl Tryz.underlying56 Tryz.underlying21 Tryz.underlying9 rfl hrow (runeV_length _) ?_
      refine OWp.move rfl rfl ?_
      refine OWp.binS rfl rfl rfl rfl rfl ?_
      refine OWp.pickF rfl rfl rfl ?_
      refine OWp.move rfl rfl ?_
      first | refine OWp.byF rfl (fun hg2 => ?_) (fun hg2 => ?_) | refine OWp.byBF rfl (fun hg2 => ?_) (fun hg2 => ?_)
      · skip
        first | rw [decide_eq_true hg2] | rw [decide_eq_false hg2] | rw [hg2] | skip
        try simp only [Decidable.not_not] at hg2
        refine OWp.move rfl rfl ?_
        refine OWp.indexAddrSl1 rfl rfl Tryz.underlying56 hs1 rfl rfl (by omega) (by omega) ?_
        refine OWp.loadRow rfl rfl Tryz.underlying21 rfl rfl hrow (v := .int .i32 ((runes s).getD 0 0 : Nat)) (runeV_get _ _ (by omega)) ?_
        refine OWp.call rfl rfl rfl rfl ?_
        refine blankRv_spec _ _ _ (fun b1 hb1 => ?_)
        refine OWp.norm ?_
        refine OWp.pickF rfl rfl rfl ?_
        refine OWp.move rfl rfl ?_
        first | refine OWp.byF rfl (fun hg3 => ?_) (fun hg3 => ?_) | refine OWp.byBF rfl (fun hg3 => ?_) (fun hg3 => ?_)
        · skip
          first | rw [decide_eq_true hg3] | rw [decide_eq_false hg3] | rw [hg3] | skip
          try simp only [Decidable.not_not] at hg3
          refine OWp.move rfl rfl ?_
          refine OWp.move rfl rfl ?_
          refine OWp.lenSl rfl rfl rfl rfl rfl Tryz.underlying56 rfl ?_
          refine OWp.subI rfl rfl rfl rfl (by omega) ?_
          refine OWp.indexAddrSl1 rfl rfl Tryz.underlying56 hs1 rfl rfl (by omega) (by omega) ?_
          refine OWp.loadRow rfl rfl Tryz.underlying21 rfl rfl hrow (v := .int .i32 ((runes s).getD ((runes s).length - 1) 0 : Nat)) (by rw [show (((runes s).length : Int) - 1).toNat = (runes s).length - 1 by omega]; exact runeV_get _ _ (by omega)) ?_
          refine OWp.call rfl rfl rfl rfl ?_
          refine blankRv_spec _ _ _ (fun b2 hb2 => ?_)
          refine OWp.norm ?_
          refine OWp.pickF rfl rfl rfl ?_
          refine OWp.nil ?_
          first | refine CWp.condP rfl (fun h4 => ?_) (fun h4 => ?_) | refine CWp.cond rfl (fun h4 => ?_) (fun h4 => ?_)
          · skip
            first | rw [decide_eq_true h4] | rw [decide_eq_false h4] | rw [h4] | skip
            refine CWp.seq ?_
            refine CWp.region ?_
            refine OWp.assign rfl rfl ?_
            refine OWp.nil ?_
            refine CWp.ret ?_
            refine RetQ.one (by first | exact .inl rfl | exact .inr rfl) rfl rfl ?_
            exact h _ false hk' ⟨fun e => (by cases e), fun hN => Bool.noConfusion ((hb2.symm.trans h4).symm.trans hN.last)⟩
          · skip
            first | rw [decide_eq_true h4] | rw [decide_eq_false h4] | rw [h4] | skip
            refine CWp.skip ?_
            refine CWp.seq ?_
            refine CWp.seq ?_
            refine CWp.region ?_
            refine OWp.move rfl rfl ?_
            refine OWp.lenSl rfl rfl rfl rfl rfl Tryz.underlying56 rfl ?_
            refine OWp.move rfl rfl ?_
            refine OWp.nil ?_
            refine CWp.block ?_
            refine CWp.loop (fun k e H' => ∃ (i : Nat) (g : Nat → Value), e = [.string s, g 1, g 2, .slice (some a) (runes s).length (runes s).length, g 4, g 5, g 6, g 7, g 8, g 9, g 10, g 11, g 12, g 13, g 14, g 15, g 16, g 17, g 18, g 19, g 20, g 21, g 22, g 23, g 24, g 25, g 26, g 27, g 28, g 29, g 30, g 31, g 32, g 33, g 34, g 35, g 36, .slice (some a) (runes s).length (runes s).length, .int .i64 ((runes s).length : Nat), .int .i64 (i : Nat), g 40, g 41, g 42, g 43, g 44, g 45, g 46, g 47, g 48, g 49, g 50, g 51, g 52, g 53, g 54] ∧ k = (runes s).length - i ∧ H' = Hr ∧ i ≤ (runes s).length ∧ ∀ j, j < i → 32 ≤ (runes s).getD j 0 ∧ ¬ badB ((runes s).getD j 0 : Nat)) ?_ ?_
            · exact ⟨_, 0, ex_env rfl ⟨rfl, rfl, by omega, fun j h1 => by omega⟩⟩
            · rintro k e H' ⟨i, g, rfl, rfl, rfl, hi1, hj⟩
              refine CWp.seq ?_
              refine CWp.region ?_
              refine OWp.binI rfl rfl rfl rfl rfl ?_
              refine OWp.nil ?_
              refine CWp.seq ?_
              first | refine CWp.condP rfl (fun h6 => ?_) (fun h6 => ?_) | refine CWp.cond rfl (fun h6 => ?_) (fun h6 => ?_)
              · skip
                first | rw [decide_eq_true h6] | rw [decide_eq_false h6] | rw [h6] | skip
                refine CWp.skip ?_
                refine CWp.seq ?_
                refine CWp.block ?_
                refine CWp.seq ?_
                refine CWp.region ?_
                refine OWp.indexAddrSl1 rfl rfl Tryz.underlying56 hs1 rfl rfl (by omega) (by omega) ?_
                refine OWp.loadRow rfl rfl Tryz.underlying21 rfl rfl hrow (v := .int .i32 ((runes s).getD i 0 : Nat)) (runeV_get _ i (by omega)) ?_
                refine OWp.assign rfl rfl ?_
                refine OWp.nil ?_
                refine CWp.seq ?_
                refine CWp.region ?_
                refine OWp.move rfl rfl ?_
                refine OWp.binI rfl rfl rfl rfl rfl ?_
                refine OWp.move rfl rfl ?_
                first | refine OWp.byF rfl (fun hg7 => ?_) (fun hg7 => ?_) | refine OWp.byBF rfl (fun hg7 => ?_) (fun hg7 => ?_)
                · skip
                  first | rw [decide_eq_true hg7] | rw [decide_eq_false hg7] | rw [hg7] | skip
                  try simp only [Decidable.not_not] at hg7
                  refine OWp.move rfl rfl ?_
                  refine OWp.binI rfl rfl rfl rfl rfl ?_
                  refine OWp.move rfl rfl ?_
                  first | refine OWp.byT rfl (fun hg8 => ?_) (fun hg8 => ?_) | refine OWp.byBT rfl (fun hg8 => ?_) (fun hg8 => ?_)
                  · skip
                    first | rw [decide_eq_true hg8] | rw [decide_eq_false hg8] | rw [hg8] | skip
                    try simp only [Decidable.not_not] at hg8
                    refine OWp.move rfl rfl ?_
                    refine OWp.convI rfl rfl Tryz.underlying21 Tryz.underlying5 rfl (wrap_u8 (by omega)) ?_
                    refine OWp.call rfl rfl rfl rfl ?_
                    refine has_spec ⟨#[60, 62, 91, 93, 35, 34, 92]⟩ _ (show (7 : Nat) ≤ 9000000 by omega) _ _ (fun b hb => ?_)
                    refine OWp.norm ?_
                    refine OWp.pickT rfl rfl rfl ?_
                    refine OWp.pickF rfl rfl rfl ?_
                    refine OWp.nil ?_
                    first | refine CWp.condP rfl (fun h9 => ?_) (fun h9 => ?_) | refine CWp.cond rfl (fun h9 => ?_) (fun h9 => ?_)
                    · skip
                      first | rw [decide_eq_true h9] | rw [decide_eq_false h9] | rw [h9] | skip
                      refine CWp.seq ?_
                      refine CWp.region ?_
                      refine OWp.assign rfl rfl ?_
                      refine OWp.nil ?_
                      refine CWp.ret ?_
                      refine RetQ.one (by first | exact .inl rfl | exact .inr rfl) rfl rfl ?_
                      exact h _ false hk' ⟨fun e => (by cases e), fun hN => absurd ((has_set _).1 (hb.1 (by assumption))) (hN.all i (by omega)).2⟩
                    · skip
                      first | rw [decide_eq_true h9] | rw [decide_eq_false h9] | rw [h9] | skip
                      refine CWp.skip ?_
                      refine CWp.region ?_
                      refine OWp.addI rfl rfl rfl rfl (by omega) ?_
                      refine OWp.move rfl rfl ?_
                      refine OWp.nil ?_
                      exact ⟨_, by omega, i + 1, ex_env rfl ⟨rfl, rfl, by omega, fun j hj2 => by by_cases e : j = i; exact e ▸ ⟨by omega, fun hbad => by first | (have := hb.2 ((has_set _).2 hbad); simp_all; done) | (unfold badB at hbad; omega)⟩; exact hj j (by omega)⟩⟩
                  · skip
                    first | rw [decide_eq_true hg8] | rw [decide_eq_false hg8] | rw [hg8] | skip
                    try simp only [Decidable.not_not] at hg8
                    refine OWp.leave rfl ?_
                    refine OWp.leave rfl ?_
                    refine OWp.leave rfl ?_
                    refine OWp.pickF rfl rfl rfl ?_
                    refine OWp.pickF rfl rfl rfl ?_
                    refine OWp.nil ?_
                    refine CWp.condF rfl ?_
                    refine CWp.skip ?_
                    refine CWp.region ?_
                    refine OWp.addI rfl rfl rfl rfl (by omega) ?_
                    refine OWp.move rfl rfl ?_
                    refine OWp.nil ?_
                    exact ⟨_, by omega, i + 1, ex_env rfl ⟨rfl, rfl, by omega, fun j hj2 => by by_cases e : j = i; exact e ▸ ⟨by omega, fun hbad => by first | (have := hb.2 ((has_set _).2 hbad); simp_all; done) | (unfold badB at hbad; omega)⟩; exact hj j (by omega)⟩⟩
                · skip
                  first | rw [decide_eq_true hg7] | rw [decide_eq_false hg7] | rw [hg7] | skip
                  try simp only [Decidable.not_not] at hg7
                  refine OWp.leave rfl ?_
                  refine OWp.leave rfl ?_
                  refine OWp.leave rfl ?_
                  refine OWp.leave rfl ?_
                  refine OWp.leave rfl ?_
                  refine OWp.leave rfl ?_
                  refine OWp.leave rfl ?_
                  refine OWp.pickT rfl rfl rfl ?_
                  refine OWp.nil ?_
                  refine CWp.condT rfl ?_
                  refine CWp.seq ?_
                  refine CWp.region ?_
                  refine OWp.assign rfl rfl ?_
                  refine OWp.nil ?_
                  refine CWp.ret ?_
                  refine RetQ.one (by first | exact .inl rfl | exact .inr rfl) rfl rfl ?_
                  exact h _ false hk' ⟨fun e => (by cases e), fun hN => by have := (hN.all i (by omega)).1; omega⟩
              · skip
                first | rw [decide_eq_true h6] | rw [decide_eq_false h6] | rw [h6] | skip
                refine CWp.exit ?_
                refine CWp.seq ?_
                refine CWp.region ?_
                refine OWp.assign rfl rfl ?_
                refine OWp.nil ?_
                refine CWp.ret ?_
                refine RetQ.one (by first | exact .inl rfl | exact .inr rfl) rfl rfl ?_
                exact h _ true hk' ⟨fun _ => ⟨by omega, by omega, hg2, hb1.symm.trans hg3, hb2.symm.trans h4, fun j hj2 => hj j (by omega)⟩, fun _ => rfl⟩
        · skip
          first | rw [decide_eq_true hg3] | rw [decide_eq_false hg3] | rw [hg3] | skip
          try simp only [Decidable.not_not] at hg3
          refine OWp.leave rfl ?_
          refine OWp.leave rfl ?_
          refine OWp.leave rfl ?_
          refine OWp.leave rfl ?_
          refine OWp.leave rfl ?_
          refine OWp.leave rfl ?_
          refine OWp.leave rfl ?_
          refine OWp.pickT rfl rfl rfl ?_
          refine OWp.nil ?_
          refine CWp.condT rfl ?_
          refine CWp.seq ?_
          refine CWp.region ?_
          refine OWp.assign rfl rfl ?_
          refine OWp.nil ?_
          refine CWp.ret ?_
          refine RetQ.one (by first | exact .inl rfl | exact .inr rfl) rfl rfl ?_
          exact h _ false hk' ⟨fun e => (by cases e), fun hN => Bool.noConfusion ((hb1.symm.trans hg3).symm.trans hN.first)⟩
      · skip
        first | rw [decide_eq_true hg2] | rw [decide_eq_false hg2] | rw [hg2] | skip
        try simp only [Decidable.not_not] at hg2
        refine OWp.leave rfl ?_
        refine OWp.leave rfl ?_
        refine OWp.leave rfl ?_
        refine OWp.leave rfl ?_
        refine OWp.pickT rfl rfl rfl ?_
        refine OWp.move rfl rfl ?_
        refine OWp.leave rfl ?_
        refine OWp.leave rfl ?_
        refine OWp.leave rfl ?_
        refine OWp.leave rfl ?_
        refine OWp.leave rfl ?_
        refine OWp.leave rfl ?_
        refine OWp.leave rfl ?_
        refine OWp.pickT rfl rfl rfl ?_
        refine OWp.nil ?_
        refine CWp.condT rfl ?_
        refine CWp.seq ?_
        refine CWp.region ?_
        refine OWp.assign rfl rfl ?_
        refine OWp.nil ?_
        refine CWp.ret ?_
        refine RetQ.one (by first | exact .inl rfl | exact .inr rfl) rfl rfl ?_
        exact h _ false hk' ⟨fun e => (by cases e), fun hN => absurd hN.back hg2⟩
    · skip
      first | rw [decide_eq_true hg1] | rw [decide_eq_false hg1] | rw [hg1] | skip
      try simp only [Decidable.not_not] at hg1
      refine OWp.leave rfl ?_
      refine OWp.leave rfl ?_
      refine OWp.leave rfl ?_
      refine OWp.leave rfl ?_
      refine OWp.pickT rfl rfl rfl ?_
      refine OWp.move rfl rfl ?_
      refine OWp.leave rfl ?_
      refine OWp.leave rfl ?_
      refine OWp.leave rfl ?_
      refine OWp.leave rfl ?_
      refine OWp.pickT rfl rfl rfl ?_
      refine OWp.move rfl rfl ?_
      refine OWp.leave rfl ?_
      refine OWp.leave rfl ?_
      refine OWp.leave rfl ?_
      refine OWp.leave rfl ?_
      refine OWp.leave rfl ?_
      refine OWp.leave rfl ?_
      refine OWp.leave rfl ?_
      refine OWp.pickT rfl rfl rfl ?_
      refine OWp.nil ?_
      refine CWp.condT rfl ?_
      refine CWp.seq ?_
      refine CWp.region ?_
      refine OWp.assign rfl rfl ?_
      refine OWp.nil ?_
      refine CWp.ret ?_
      refine RetQ.one (by first | exact .inl rfl | exact .inr rfl) rfl rfl ?_
      exact h _ false hk' ⟨fun e => (by cases e), fun hN => by have := hN.hi; omega⟩
  · skip
    first | rw [decide_eq_true hg0] | rw [decide_eq_false hg0] | rw [hg0] | skip
    try simp only [Decidable.not_not] at hg0
    refine OWp.leave rfl ?_
    refine OWp.leave rfl ?_
    refine OWp.leave rfl ?_
    refine OWp.pickT rfl rfl rfl ?_
    refine OWp.move rfl rfl ?_
    refine OWp.leave rfl ?_
    refine OWp.leave rfl ?_
    refine OWp.leave rfl ?_
    refine OWp.leave rfl ?_
    refine OWp.pickT rfl rfl rfl ?_
    refine OWp.move rfl rfl ?_
    refine OWp.leave rfl ?_
    refine OWp.leave rfl ?_
    refine OWp.leave rfl ?_
    refine OWp.leave rfl ?_
    refine OWp.pickT rfl rfl rfl ?_
    refine OWp.move rfl rfl ?_
    refine OWp.leave rfl ?_
    refine OWp.leave rfl ?_
    refine OWp.leave rfl ?_
    refine OWp.leave rfl ?_
    refine OWp.leave rfl ?_
    refine OWp.leave rfl ?_
    refine OWp.leave rfl ?_
    refine OWp.pickT rfl rfl rfl ?_
    refine OWp.nil ?_
    refine CWp.condT rfl ?_
    refine CWp.seq ?_
    refine CWp.region ?_
    refine OWp.assign rfl rfl ?_
    refine OWp.nil ?_
    refine CWp.ret ?_
    refine RetQ.one (by first | exact .inl rfl | exact .inr rfl) rfl rfl ?_
    exact h _ false hk' ⟨fun e => (by cases e), fun hN => by have := hN.lo; omega⟩

theorem last_spec (s : ByteArray) (hs : s.size ≤ 9000000) (H : AH) (Q : Value → AH → Prop) (h : Q (.tuple #[.int .i32 (if s = ⟨#[]⟩ then 0 else (Lib.decodeLastL s.data.toList).1 : Nat), .bool (decide (¬ s = ⟨#[]⟩))]) H) : FWp Tryz.prog prims 28 [.string s] H Q := by
  refine FWp.enter (rfl) Tryz.func28 rfl (e := [.string s, undef, undef, undef, undef, undef, undef, undef, undef, undef, undef, undef, undef, undef]) rfl ?_
  refine CWp.seq ?_
  refine CWp.region ?_
  refine OWp.assign rfl rfl ?_
  refine OWp.assign rfl rfl ?_
  refine OWp.nil ?_
  refine CWp.seq ?_
  refine CWp.seq ?_
  refine CWp.region ?_
  refine OWp.move rfl rfl ?_
  refine OWp.binS rfl rfl rfl rfl rfl ?_
  refine OWp.nil ?_
  first | refine CWp.condP rfl (fun h0 => ?_) (fun h0 => ?_) | refine CWp.cond rfl (fun h0 => ?_) (fun h0 => ?_)
  · skip
    first | rw [decide_eq_true h0] | rw [decide_eq_false h0] | rw [h0] | skip
    refine CWp.seq ?_
    refine CWp.region ?_
    refine OWp.assign rfl rfl ?_
    refine OWp.assign rfl rfl ?_
    refine OWp.nil ?_
    refine CWp.ret ?_
    refine RetQ.two (by first | exact .inl rfl | exact .inr rfl) rfl rfl rfl rfl rfl ?_
    simp only [if_pos h0, h0, not_true_eq_false, decide_false] at h
    exact h
  · skip
    first | rw [decide_eq_true h0] | rw [decide_eq_false h0] | rw [h0] | skip
    refine CWp.skip ?_
    refine CWp.seq ?_
    refine CWp.region ?_
    refine OWp.move rfl rfl ?_
    refine OWp.call rfl rfl rfl rfl ?_
    refine FWp.prim (g := primLast) rfl (show primLast [.string s] H = some (.tuple #[.int .i32 (Lib.decodeLastL s.data.toList).1, .int .i64 (Lib.decodeLastL s.data.toList).2], H) by simp only [primLast]; rw [if_pos (by omega)]) ?_
    refine OWp.norm ?_
    refine OWp.move rfl rfl ?_
    refine OWp.extract rfl rfl rfl rfl ?_
    refine OWp.extract rfl rfl rfl rfl ?_
    refine OWp.assign rfl rfl ?_
    refine OWp.assign rfl rfl ?_
    refine OWp.nil ?_
    refine CWp.seq ?_
    refine CWp.region ?_
    refine OWp.move rfl rfl ?_
    refine OWp.assign rfl rfl ?_
    refine OWp.assign rfl rfl ?_
    refine OWp.nil ?_
    refine CWp.ret ?_
    refine RetQ.two (by first | exact .inl rfl | exact .inr rfl) rfl rfl rfl rfl rfl ?_
    simp only [if_neg h0, h0, not_false_eq_true, decide_true] at h
    exact h

theorem nameA_spec (s : ByteArray) (hs : s.size ≤ 9000000) (H : AH) (Q : Value → AH → Prop) (h : ∀ H' b, Keeps H H' → (b = true ↔ NameA s) → Q (.bool b) H') (hw : WfH H) : FWp Tryz.prog prims 14 [.string s] H Q := by
  refine FWp.enter (rfl) Tryz.func14 rfl (e := [.string s, undef, undef, undef, undef, undef, undef, undef, undef, undef, undef, undef, undef, undef, undef, undef, undef, undef, undef, undef, undef, undef, undef, undef, undef, undef, undef, undef, undef, undef, undef, undef, undef, undef, undef, undef, undef, undef, undef, undef, undef, undef, undef, undef, undef, undef, undef, undef, undef, undef, undef, undef, undef, undef]) rfl ?_
  refine CWp.seq ?_
  refine CWp.region ?_
  refine OWp.assign rfl rfl ?_
  refine OWp.nil ?_
  refine CWp.seq ?_
  refine CWp.seq ?_
  refine CWp.region ?_
  refine OWp.move rfl rfl ?_
  refine OWp.lenS rfl rfl rfl rfl rfl Tryz.underlying9 rfl ?_
  refine OWp.binI rfl rfl rfl rfl rfl ?_
  refine OWp.move rfl rfl ?_
  first | refine OWp.byF rfl (fun hg0 => ?_) (fun hg0 => ?_) | refine OWp.byBF rfl (fun hg0 => ?_) (fun hg0 => ?_)
  · skip
    first | rw [decide_eq_true hg0] | rw [decide_eq_false hg0] | rw [hg0] | skip
    try simp only [Decidable.not_not] at hg0
    refine OWp.move rfl rfl ?_
    refine OWp.lenS rfl rfl rfl rfl rfl Tryz.underlying9 rfl ?_
    refine OWp.binI rfl rfl rfl rfl rfl ?_
    refine OWp.pickF rfl rfl rfl ?_
    refine OWp.move rfl rfl ?_
    first | refine OWp.byF rfl (fun hg1 => ?_) (fun hg1 => ?_) | refine OWp.byBF rfl (fun hg1 => ?_) (fun hg1 => ?_)
    · skip
      first | rw [decide_eq_true hg1] | rw [decide_eq_false hg1] | rw [hg1] | skip
      try simp only [Decidable.not_not] at hg1
      refine OWp.move rfl rfl ?_
      refine OWp.call rfl rfl rfl rfl ?_
      refine FWp.prim (g := primValid) rfl (show primValid [.string s] H = some (.bool (Lib.validD s.data.toList), H) by simp only [primValid]; rw [if_pos (by omega)]) ?_
      generalize hval : Lib.validD s.data.toList = bv
      refine OWp.norm ?_
      first | refine OWp.notD rfl rfl rfl ?_ | refine OWp.notB rfl rfl rfl ?_
      refine OWp.pickF rfl rfl rfl ?_
      refine OWp.nil ?_
      first | refine CWp.condP rfl (fun h2 => ?_) (fun h2 => ?_) | refine CWp.cond rfl (fun h2 => ?_) (fun h2 => ?_)
      · skip
        first | rw [decide_eq_true h2] | rw [decide_eq_false h2] | rw [h2] | skip
        refine CWp.seq ?_
        refine CWp.region ?_
        refine OWp.assign rfl rfl ?_
        refine OWp.nil ?_
        refine CWp.ret ?_
        refine RetQ.one (by first | exact .inl rfl | exact .inr rfl) rfl rfl ?_
        exact h _ false (Keeps.refl hw) ⟨fun e => (by cases e), fun hN => by have := hN.valid; rw [hval] at this; rw [this] at h2; cases h2⟩
      · skip
        first | rw [decide_eq_true h2] | rw [decide_eq_false h2] | rw [h2] | skip
        refine CWp.skip ?_
        refine CWp.seq ?_
        refine CWp.seq ?_
        refine CWp.region ?_
        refine OWp.move rfl rfl ?_
        refine OWp.rangeS hw rfl rfl Tryz.underlying9 rfl (fun H1 i hw1 hk1 hi1 ho1 => ?_)
        refine OWp.norm ?_
        refine OWp.nil ?_
        refine CWp.block ?_
        refine CWp.loop (fun k e H' => ∃ (i pos : Nat) (l : List Nat) (g : Nat → Value), e = [.string s, g 1, g 2, g 3, g 4, g 5, g 6, g 7, g 8, g 9, g 10, g 11, g 12, g 13, g 14, g 15, g 16, g 17, g 18, g 19, g 20, g 21, g 22, .pointer (some ⟨i, 0, none⟩), g 24, g 25, g 26, g 27, g 28, g 29, g 30, g 31, g 32, g 33, g 34, g 35, g 36, g 37, g 38, g 39, g 40, g 41, g 42, g 43, g 44, g 45, g 46, g 47, g 48, g 49, g 50, g 51, g 52, g 53] ∧ k = s.size - pos ∧ WfH H' ∧ Keeps H H' ∧ H.next ≤ i ∧ Own H' i (.stringIter s pos) true ∧ l ++ runesF s (s.size - pos) pos = runes s ∧ ∀ r, r ∈ l → goodA r) ?_ ?_
        · exact ⟨_, i, 0, [], ex_env rfl ⟨rfl, hw1, hk1, hi1, ho1, rfl, by simp⟩⟩
        · rintro k e H' ⟨i, pos, l, g, rfl, rfl, hw', hk', hi', hit, hl, hall⟩
          refine CWp.seq ?_
          refine CWp.region ?_
          refine OWp.nextS hw' hit rfl rfl rfl (fun hlt H1 hw1 hk1 hot hit1 hse1 hnx => ?_) (fun hge => ?_)
          · refine OWp.norm ?_
            have hwid := Lib.decode_width_pos s pos hlt
            refine OWp.extract rfl rfl rfl rfl ?_
            refine OWp.nil ?_
            refine CWp.seq ?_
            refine CWp.condT rfl ?_
            refine CWp.skip ?_
            refine CWp.block ?_
            refine CWp.seq ?_
            refine CWp.region ?_
            refine OWp.extract rfl rfl rfl rfl ?_
            refine OWp.assign rfl rfl ?_
            refine OWp.nil ?_
            refine CWp.seq ?_
            refine CWp.region ?_
            refine OWp.move rfl rfl ?_
            refine OWp.binI rfl rfl rfl rfl rfl ?_
            refine OWp.move rfl rfl ?_
            first | refine OWp.byF rfl (fun hg5 => ?_) (fun hg5 => ?_) | refine OWp.byBF rfl (fun hg5 => ?_) (fun hg5 => ?_)
            · skip
              first | rw [decide_eq_true hg5] | rw [decide_eq_false hg5] | rw [hg5] | skip
              try simp only [Decidable.not_not] at hg5
              refine OWp.move rfl rfl ?_
              refine OWp.minI rfl rfl rfl rfl rfl rfl ?_
              refine OWp.convI rfl rfl Tryz.underlying21 Tryz.underlying5 rfl (wrap_u8 (by split <;> omega)) ?_
              refine OWp.call rfl rfl rfl rfl ?_
              refine FWp.prim (g := primIndexByte) rfl rfl ?_
              refine OWp.norm ?_
              refine OWp.binI rfl rfl rfl rfl rfl ?_
              refine OWp.pickF rfl rfl rfl ?_
              refine OWp.nil ?_
              first | refine CWp.condP rfl (fun h6 => ?_) (fun h6 => ?_) | refine CWp.cond rfl (fun h6 => ?_) (fun h6 => ?_)
              · skip
                first | rw [decide_eq_true h6] | rw [decide_eq_false h6] | rw [h6] | skip
                refine CWp.seq ?_
                refine CWp.region ?_
                refine OWp.assign rfl rfl ?_
                refine OWp.nil ?_
                refine CWp.ret ?_
                refine RetQ.one (by first | exact .inl rfl | exact .inr rfl) rfl rfl ?_
                exact h _ false (hk1 H hw hk' hi') ⟨fun e => (by cases e), fun hN => False.elim ((hN.all _ (mem_runes s pos l hl hlt)).2 (by assumption))⟩
              · skip
                first | rw [decide_eq_true h6] | rw [decide_eq_false h6] | rw [h6] | skip
                refine CWp.skip ?_
                exact ⟨_, by omega, i, pos + (Utf8.decode s pos).2, l ++ [(Utf8.decode s pos).1], ex_env rfl ⟨rfl, hw1, hk1 H hw hk' hi', hi', hit1, by rw [List.append_assoc, ← hl, runesF_step s pos hlt]; rfl, by intro r hr; rcases List.mem_append.1 hr with hr | hr; exact hall r hr; simp at hr; subst hr; exact ⟨by omega, by assumption⟩⟩⟩
            · skip
              first | rw [decide_eq_true hg5] | rw [decide_eq_false hg5] | rw [hg5] | skip
              try simp only [Decidable.not_not] at hg5
              refine OWp.leave rfl ?_
              refine OWp.leave rfl ?_
              refine OWp.leave rfl ?_
              refine OWp.leave rfl ?_
              refine OWp.leave rfl ?_
              refine OWp.pickT rfl rfl rfl ?_
              refine OWp.nil ?_
              refine CWp.condT rfl ?_
              refine CWp.seq ?_
              refine CWp.region ?_
              refine OWp.assign rfl rfl ?_
              refine OWp.nil ?_
              refine CWp.ret ?_
              refine RetQ.one (by first | exact .inl rfl | exact .inr rfl) rfl rfl ?_
              exact h _ false (hk1 H hw hk' hi') ⟨fun e => (by cases e), fun hN => by have := (hN.all _ (mem_runes s pos l hl hlt)).1; omega⟩
          · refine OWp.norm ?_
            have hend : l = runes s := by rw [runesF_end _ _ _ hge, List.append_nil] at hl; exact hl
            refine OWp.extract rfl rfl rfl rfl ?_
            refine OWp.nil ?_
            refine CWp.seq ?_
            refine CWp.condF rfl ?_
            refine CWp.exit ?_
            refine CWp.seq ?_
            refine CWp.region ?_
            refine OWp.move rfl rfl ?_
            refine OWp.call rfl rfl rfl rfl ?_
            refine first_spec s _ _ ?_ hw'
            intro Hf hkf
            rw [if_pos (show 0 < s.size by omega)]
            refine OWp.norm ?_
            refine OWp.move rfl rfl ?_
            refine OWp.extract rfl rfl rfl rfl ?_
            refine OWp.extract rfl rfl rfl rfl ?_
            refine OWp.assign rfl rfl ?_
            refine OWp.assign rfl rfl ?_
            refine OWp.nil ?_
            refine CWp.seq ?_
            refine CWp.region ?_
            refine OWp.move rfl rfl ?_
            refine OWp.call rfl rfl rfl rfl ?_
            refine last_spec s hs _ _ ?_
            rw [if_neg (show ¬ s = ⟨#[]⟩ from fun e => by rw [e] at hg0; exact hg0 (by decide))]
            refine OWp.norm ?_
            refine OWp.move rfl rfl ?_
            refine OWp.extract rfl rfl rfl rfl ?_
            refine OWp.extract rfl rfl rfl rfl ?_
            refine OWp.assign rfl rfl ?_
            refine OWp.assign rfl rfl ?_
            refine OWp.nil ?_
            refine CWp.seq ?_
            refine CWp.region ?_
            refine OWp.move rfl rfl ?_
            refine OWp.call rfl rfl rfl rfl ?_
            refine blankv_spec _ _ _ (fun b1 hb1 => ?_)
            refine OWp.norm ?_
            first | refine OWp.notD rfl rfl rfl ?_ | refine OWp.notB rfl rfl rfl ?_
            refine OWp.move rfl rfl ?_
            first | refine OWp.byT rfl (fun hg5 => ?_) (fun hg5 => ?_) | refine OWp.byBT rfl (fun hg5 => ?_) (fun hg5 => ?_)
            · skip
              first | rw [decide_eq_true hg5] | rw [decide_eq_false hg5] | rw [hg5] | skip
              try simp only [Decidable.not_not] at hg5
              refine OWp.move rfl rfl ?_
              refine OWp.call rfl rfl rfl rfl ?_
              refine blankv_spec _ _ _ (fun b2 hb2 => ?_)
              refine OWp.norm ?_
              first | refine OWp.notD rfl rfl rfl ?_ | refine OWp.notB rfl rfl rfl ?_
              refine OWp.pickT rfl rfl rfl ?_
              refine OWp.assign rfl rfl ?_
              refine OWp.nil ?_
              refine CWp.ret ?_
              refine RetQ.one (by first | exact .inl rfl | exact .inr rfl) rfl rfl ?_
              refine h _ (!b2) (hk'.trans hkf hw) ⟨fun e => ⟨by omega, by omega, by rw [hval]; simpa using h2, fun r hr => hall r (hend ▸ hr), by rw [← hb1]; simpa using hg5, by rw [← hb2]; simpa using e⟩, fun hN => by rw [hb2, hN.last]; rfl⟩
            · skip
              first | rw [decide_eq_true hg5] | rw [decide_eq_false hg5] | rw [hg5] | skip
              try simp only [Decidable.not_not] at hg5
              refine OWp.leave rfl ?_
              refine OWp.leave rfl ?_
              refine OWp.leave rfl ?_
              refine OWp.pickF rfl rfl rfl ?_
              refine OWp.assign rfl rfl ?_
              refine OWp.nil ?_
              refine CWp.ret ?_
              refine RetQ.one (by first | exact .inl rfl | exact .inr rfl) rfl rfl ?_
              exact h _ false (hk'.trans hkf hw) ⟨fun e => (by cases e), fun hN => by have := hN.first; rw [← hb1] at this; rw [this] at hg5; cases hg5⟩
    · skip
      first | rw [decide_eq_true hg1] | rw [decide_eq_false hg1] | rw [hg1] | skip
      try simp only [Decidable.not_not] at hg1
      refine OWp.leave rfl ?_
      refine OWp.leave rfl ?_
      refine OWp.leave rfl ?_
      refine OWp.pickT rfl rfl rfl ?_
      refine OWp.nil ?_
      refine CWp.condT rfl ?_
      refine CWp.seq ?_
      refine CWp.region ?_
      refine OWp.assign rfl rfl ?_
      refine OWp.nil ?_
      refine CWp.ret ?_
      refine RetQ.one (by first | exact .inl rfl | exact .inr rfl) rfl rfl ?_
      exact h _ false (Keeps.refl hw) ⟨fun e => (by cases e), fun hN => by have := hN.hi; omega⟩
  · skip
    first | rw [decide_eq_true hg0] | rw [decide_eq_false hg0] | rw [hg0] | skip
    try simp only [Decidable.not_not] at hg0
    refine OWp.leave rfl ?_
    refine OWp.leave rfl ?_
    refine OWp.leave rfl ?_
    refine OWp.pickT rfl rfl rfl ?_
    refine OWp.move rfl rfl ?_
    refine OWp.leave rfl ?_
    refine OWp.leave rfl ?_
    refine OWp.leave rfl ?_
    refine OWp.pickT rfl rfl rfl ?_
    refine OWp.nil ?_
    refine CWp.condT rfl ?_
    refine CWp.seq ?_
    refine CWp.region ?_
    refine OWp.assign rfl rfl ?_
    refine OWp.nil ?_
    refine CWp.ret ?_
    refine RetQ.one (by first | exact .inl rfl | exact .inr rfl) rfl rfl ?_
    exact h _ false (Keeps.refl hw) ⟨fun e => (by cases e), fun hN => by have := hN.lo; omega⟩

end Go.Proofs.YtnlkgnoogcakjaaGreatDoor.Ev
