import Derived.Test.YtpfhkjbnofgikaaDoorEvL1b
namespace Go.Proofs.YtpfhkjbnofgikaaDoor.Ev
open Go
set_option linter.unusedVariables false
set_option linter.unusedSimpArgs false

theorem headR_spec (s : ByteArray) (hs : s.size ≤ 9000000) (H : AH) (Q : Value → AH → Prop) (h : ∀ (i m : Nat) (n : Int) (x : ByteArray) (b : Bool), GapEnd s i → RunEnd s i 35 m → (b = true ↔ HeadR s i m) → (b = true → n = m ∧ x = titleC (s.extract (i + m) s.size)) → (b = false → n = 0 ∧ x = ⟨#[]⟩) → Q (.tuple #[.int .i64 n, .string x, .bool b]) H) : FWp Tryd.prog prims 15 [.string s] H Q := by
  refine FWp.enter (rfl) Tryd.func15 rfl (e := [.string s, undef, undef, undef, undef, undef, undef, undef, undef, undef, undef, undef, undef, undef, undef, undef, undef, undef, undef, undef, undef, undef, undef, undef, undef, undef, undef, undef, undef, undef, undef, undef, undef, undef, undef, undef, undef, undef, undef, undef, undef, undef, undef, undef, undef, undef, undef, undef, undef, undef, undef, undef, undef, undef, undef, undef, undef, undef, undef, undef, undef, undef, undef, undef, undef, undef, undef, undef, undef, undef, undef, undef, undef, undef, undef, undef, undef, undef, undef, undef, undef, undef, undef, undef, undef, undef, undef, undef, undef, undef, undef, undef, undef]) rfl ?_
  refine CWp.seq ?_
  refine CWp.region ?_
  refine OWp.assign rfl rfl ?_
  refine OWp.assign rfl rfl ?_
  refine OWp.assign rfl rfl ?_
  refine OWp.nil ?_
  refine CWp.seq ?_
  refine CWp.region ?_
  refine OWp.move rfl rfl ?_
  refine OWp.call rfl rfl rfl rfl ?_
  refine indent_spec s hs _ _ (fun i hi => ?_)
  have hi1 := hi.1
  have hcl := colAt_le s i
  refine OWp.norm ?_
  refine OWp.move rfl rfl ?_
  refine OWp.extract rfl rfl rfl rfl ?_
  refine OWp.extract rfl rfl rfl rfl ?_
  refine OWp.assign rfl rfl ?_
  refine OWp.assign rfl rfl ?_
  refine OWp.nil ?_
  refine CWp.seq ?_
  refine CWp.region ?_
  refine OWp.move rfl rfl ?_
  refine OWp.move rfl rfl ?_
  refine OWp.call rfl rfl rfl rfl ?_
  refine run_spec s hs i 35 hi1 _ _ (fun m hm => ?_)
  have hm1 := hm.1
  refine OWp.norm ?_
  refine OWp.assign rfl rfl ?_
  refine OWp.nil ?_
  refine CWp.cut (fun e H' => ∃ (g : Nat → Value), e = [.string s, g 1, g 2, g 3, g 4, g 5, .int .i64 (i : Nat), .int .i64 (m : Nat), g 8, g 9, g 10, g 11, g 12, g 13, g 14, g 15, g 16, g 17, g 18, g 19, g 20, g 21, g 22, g 23, g 24, g 25, g 26, g 27, g 28, g 29, g 30, g 31, g 32, g 33, g 34, g 35, g 36, g 37, g 38, g 39, g 40, g 41, g 42, g 43, g 44, g 45, g 46, g 47, g 48, g 49, g 50, g 51, g 52, g 53, g 54, g 55, g 56, g 57, g 58, g 59, g 60, g 61, g 62, g 63, g 64, g 65, g 66, g 67, g 68, g 69, g 70, g 71, g 72, g 73, g 74, g 75, g 76, g 77, g 78, g 79, g 80, g 81, g 82, g 83, g 84, g 85, g 86, g 87, g 88, g 89, g 90, g 91, g 92] ∧ H = H' ∧ HeadR s i m) ?_ ?_
  · skip
    refine CWp.seq ?_
    refine CWp.region ?_
    refine OWp.move rfl rfl ?_
    refine OWp.binI rfl rfl rfl rfl rfl ?_
    refine OWp.move rfl rfl ?_
    first | refine OWp.byF rfl (fun hg0 => ?_) (fun hg0 => ?_) | refine OWp.byBF rfl (fun hg0 => ?_) (fun hg0 => ?_)
    · skip
      first | rw [decide_eq_true hg0] | rw [decide_eq_false hg0] | rw [hg0] | skip
      try simp only [Decidable.not_not] at hg0
      refine OWp.move rfl rfl ?_
      refine OWp.binI rfl rfl rfl rfl rfl ?_
      refine OWp.pickF rfl rfl rfl ?_
      refine OWp.move rfl rfl ?_
      first | refine OWp.byF rfl (fun hg1 => ?_) (fun hg1 => ?_) | refine OWp.byBF rfl (fun hg1 => ?_) (fun hg1 => ?_)
      · skip
        first | rw [decide_eq_true hg1] | rw [decide_eq_false hg1] | rw [hg1] | skip
        try simp only [Decidable.not_not] at hg1
        refine OWp.move rfl rfl ?_
        refine OWp.binI rfl rfl rfl rfl rfl ?_
        refine OWp.pickF rfl rfl rfl ?_
        refine OWp.move rfl rfl ?_
        first | refine OWp.byF rfl (fun hg2 => ?_) (fun hg2 => ?_) | refine OWp.byBF rfl (fun hg2 => ?_) (fun hg2 => ?_)
        · skip
          first | rw [decide_eq_true hg2] | rw [decide_eq_false hg2] | rw [hg2] | skip
          try simp only [Decidable.not_not] at hg2
          refine OWp.move rfl rfl ?_
          refine OWp.move rfl rfl ?_
          refine OWp.addI rfl rfl rfl rfl (by omega) ?_
          refine OWp.move rfl rfl ?_
          refine OWp.lenS rfl rfl rfl rfl rfl Tryd.underlying9 rfl ?_
          refine OWp.binI rfl rfl rfl rfl rfl ?_
          refine OWp.move rfl rfl ?_
          first | refine OWp.byT rfl (fun hg3 => ?_) (fun hg3 => ?_) | refine OWp.byBT rfl (fun hg3 => ?_) (fun hg3 => ?_)
          · skip
            first | rw [decide_eq_true hg3] | rw [decide_eq_false hg3] | rw [hg3] | skip
            try simp only [Decidable.not_not] at hg3
            refine OWp.move rfl rfl ?_
            refine OWp.move rfl rfl ?_
            refine OWp.move rfl rfl ?_
            refine OWp.addI rfl rfl rfl rfl (by omega) ?_
            refine OWp.indexS rfl rfl Tryd.underlying9 rfl rfl (by omega) (by omega) ?_
            rw [show ((i : Int) + (m : Int)) = ((i + m : Nat) : Int) from by omega]
            refine OWp.binI rfl rfl rfl rfl rfl ?_
            refine OWp.pickT rfl rfl rfl ?_
            refine OWp.move rfl rfl ?_
            first | refine OWp.byT rfl (fun hg4 => ?_) (fun hg4 => ?_) | refine OWp.byBT rfl (fun hg4 => ?_) (fun hg4 => ?_)
            · skip
              first | rw [decide_eq_true hg4] | rw [decide_eq_false hg4] | rw [hg4] | skip
              try simp only [Decidable.not_not] at hg4
              refine OWp.move rfl rfl ?_
              refine OWp.move rfl rfl ?_
              refine OWp.move rfl rfl ?_
              refine OWp.addI rfl rfl rfl rfl (by omega) ?_
              refine OWp.indexS rfl rfl Tryd.underlying9 rfl rfl (by omega) (by omega) ?_
              rw [show ((i : Int) + (m : Int)) = ((i + m : Nat) : Int) from by omega]
              refine OWp.binI rfl rfl rfl rfl rfl ?_
              refine OWp.pickT rfl rfl rfl ?_
              refine OWp.pickF rfl rfl rfl ?_
              refine OWp.nil ?_
              first | refine CWp.condP rfl (fun h5 => ?_) (fun h5 => ?_) | refine CWp.cond rfl (fun h5 => ?_) (fun h5 => ?_)
              · skip
                first | rw [decide_eq_true h5] | rw [decide_eq_false h5] | rw [h5] | skip
                refine CWp.seq ?_
                refine CWp.region ?_
                refine OWp.assign rfl rfl ?_
                refine OWp.assign rfl rfl ?_
                refine OWp.assign rfl rfl ?_
                refine OWp.nil ?_
                refine CWp.ret ?_
                refine RetQ.three (by first | exact .inl rfl | exact .inr rfl) rfl rfl rfl rfl rfl rfl rfl ?_
                exact h i m 0 _ false hi hm ⟨fun e => (by cases e), fun hr => (by have a5 := hr.next (by omega); unfold gapB at a5; omega)⟩ (fun e => by cases e) (fun _ => ⟨rfl, rfl⟩)
              · skip
                first | rw [decide_eq_true h5] | rw [decide_eq_false h5] | rw [h5] | skip
                refine CWp.skip ?_
                exact ex_env rfl ⟨rfl, ⟨by omega, by omega, by omega, fun hlt => by unfold gapB; omega⟩⟩
            · skip
              first | rw [decide_eq_true hg4] | rw [decide_eq_false hg4] | rw [hg4] | skip
              try simp only [Decidable.not_not] at hg4
              refine OWp.leave rfl ?_
              refine OWp.leave rfl ?_
              refine OWp.leave rfl ?_
              refine OWp.leave rfl ?_
              refine OWp.leave rfl ?_
              refine OWp.leave rfl ?_
              refine OWp.pickF rfl rfl rfl ?_
              refine OWp.pickF rfl rfl rfl ?_
              refine OWp.nil ?_
              refine CWp.condF rfl ?_
              refine CWp.skip ?_
              exact ex_env rfl ⟨rfl, ⟨by omega, by omega, by omega, fun hlt => by unfold gapB; omega⟩⟩
          · skip
            first | rw [decide_eq_true hg3] | rw [decide_eq_false hg3] | rw [hg3] | skip
            try simp only [Decidable.not_not] at hg3
            refine OWp.leave rfl ?_
            refine OWp.leave rfl ?_
            refine OWp.leave rfl ?_
            refine OWp.leave rfl ?_
            refine OWp.leave rfl ?_
            refine OWp.leave rfl ?_
            refine OWp.pickF rfl rfl rfl ?_
            refine OWp.move rfl rfl ?_
            refine OWp.leave rfl ?_
            refine OWp.leave rfl ?_
            refine OWp.leave rfl ?_
            refine OWp.leave rfl ?_
            refine OWp.leave rfl ?_
            refine OWp.leave rfl ?_
            refine OWp.pickF rfl rfl rfl ?_
            refine OWp.pickF rfl rfl rfl ?_
            refine OWp.nil ?_
            refine CWp.condF rfl ?_
            refine CWp.skip ?_
            exact ex_env rfl ⟨rfl, ⟨by omega, by omega, by omega, fun hlt => by unfold gapB; omega⟩⟩
        · skip
          first | rw [decide_eq_true hg2] | rw [decide_eq_false hg2] | rw [hg2] | skip
          try simp only [Decidable.not_not] at hg2
          refine OWp.leave rfl ?_
          refine OWp.leave rfl ?_
          refine OWp.leave rfl ?_
          refine OWp.leave rfl ?_
          refine OWp.leave rfl ?_
          refine OWp.leave rfl ?_
          refine OWp.leave rfl ?_
          refine OWp.leave rfl ?_
          refine OWp.leave rfl ?_
          refine OWp.leave rfl ?_
          refine OWp.leave rfl ?_
          refine OWp.leave rfl ?_
          refine OWp.leave rfl ?_
          refine OWp.leave rfl ?_
          refine OWp.leave rfl ?_
          refine OWp.leave rfl ?_
          refine OWp.leave rfl ?_
          refine OWp.leave rfl ?_
          refine OWp.leave rfl ?_
          refine OWp.leave rfl ?_
          refine OWp.leave rfl ?_
          refine OWp.leave rfl ?_
          refine OWp.pickT rfl rfl rfl ?_
          refine OWp.nil ?_
          refine CWp.condT rfl ?_
          refine CWp.seq ?_
          refine CWp.region ?_
          refine OWp.assign rfl rfl ?_
          refine OWp.assign rfl rfl ?_
          refine OWp.assign rfl rfl ?_
          refine OWp.nil ?_
          refine CWp.ret ?_
          refine RetQ.three (by first | exact .inl rfl | exact .inr rfl) rfl rfl rfl rfl rfl rfl rfl ?_
          exact h i m 0 _ false hi hm ⟨fun e => (by cases e), fun hr => (by have := hr.hi; omega)⟩ (fun e => by cases e) (fun _ => ⟨rfl, rfl⟩)
      · skip
        first | rw [decide_eq_true hg1] | rw [decide_eq_false hg1] | rw [hg1] | skip
        try simp only [Decidable.not_not] at hg1
        refine OWp.leave rfl ?_
        refine OWp.leave rfl ?_
        refine OWp.pickT rfl rfl rfl ?_
        refine OWp.move rfl rfl ?_
        refine OWp.leave rfl ?_
        refine OWp.leave rfl ?_
        refine OWp.leave rfl ?_
        refine OWp.leave rfl ?_
        refine OWp.leave rfl ?_
        refine OWp.leave rfl ?_
        refine OWp.leave rfl ?_
        refine OWp.leave rfl ?_
        refine OWp.leave rfl ?_
        refine OWp.leave rfl ?_
        refine OWp.leave rfl ?_
        refine OWp.leave rfl ?_
        refine OWp.leave rfl ?_
        refine OWp.leave rfl ?_
        refine OWp.leave rfl ?_
        refine OWp.leave rfl ?_
        refine OWp.leave rfl ?_
        refine OWp.leave rfl ?_
        refine OWp.leave rfl ?_
        refine OWp.leave rfl ?_
        refine OWp.leave rfl ?_
        refine OWp.leave rfl ?_
        refine OWp.pickT rfl rfl rfl ?_
        refine OWp.nil ?_
        refine CWp.condT rfl ?_
        refine CWp.seq ?_
        refine CWp.region ?_
        refine OWp.assign rfl rfl ?_
        refine OWp.assign rfl rfl ?_
        refine OWp.assign rfl rfl ?_
        refine OWp.nil ?_
        refine CWp.ret ?_
        refine RetQ.three (by first | exact .inl rfl | exact .inr rfl) rfl rfl rfl rfl rfl rfl rfl ?_
        exact h i m 0 _ false hi hm ⟨fun e => (by cases e), fun hr => (by have := hr.lo; omega)⟩ (fun e => by cases e) (fun _ => ⟨rfl, rfl⟩)
    · skip
      first | rw [decide_eq_true hg0] | rw [decide_eq_false hg0] | rw [hg0] | skip
      try simp only [Decidable.not_not] at hg0
      refine OWp.leave rfl ?_
      refine OWp.leave rfl ?_
      refine OWp.pickT rfl rfl rfl ?_
      refine OWp.move rfl rfl ?_
      refine OWp.leave rfl ?_
      refine OWp.leave rfl ?_
      refine OWp.pickT rfl rfl rfl ?_
      refine OWp.move rfl rfl ?_
      refine OWp.leave rfl ?_
      refine OWp.leave rfl ?_
      refine OWp.leave rfl ?_
      refine OWp.leave rfl ?_
      refine OWp.leave rfl ?_
      refine OWp.leave rfl ?_
      refine OWp.leave rfl ?_
      refine OWp.leave rfl ?_
      refine OWp.leave rfl ?_
      refine OWp.leave rfl ?_
      refine OWp.leave rfl ?_
      refine OWp.leave rfl ?_
      refine OWp.leave rfl ?_
      refine OWp.leave rfl ?_
      refine OWp.leave rfl ?_
      refine OWp.leave rfl ?_
      refine OWp.leave rfl ?_
      refine OWp.leave rfl ?_
      refine OWp.leave rfl ?_
      refine OWp.leave rfl ?_
      refine OWp.leave rfl ?_
      refine OWp.leave rfl ?_
      refine OWp.pickT rfl rfl rfl ?_
      refine OWp.nil ?_
      refine CWp.condT rfl ?_
      refine CWp.seq ?_
      refine CWp.region ?_
      refine OWp.assign rfl rfl ?_
      refine OWp.assign rfl rfl ?_
      refine OWp.assign rfl rfl ?_
      refine OWp.nil ?_
      refine CWp.ret ?_
      refine RetQ.three (by first | exact .inl rfl | exact .inr rfl) rfl rfl rfl rfl rfl rfl rfl ?_
      exact h i m 0 _ false hi hm ⟨fun e => (by cases e), fun hr => (by have := hr.col; omega)⟩ (fun e => by cases e) (fun _ => ⟨rfl, rfl⟩)
  · rintro e H' ⟨g, rfl, rfl, hhr⟩
    refine CWp.seq ?_
    refine CWp.region ?_
    refine OWp.move rfl rfl ?_
    refine OWp.move rfl rfl ?_
    refine OWp.move rfl rfl ?_
    refine OWp.addI rfl rfl rfl rfl (by omega) ?_
    refine OWp.sliceS rfl rfl Tryd.underlying9 rfl rfl rfl (by omega) (by omega) (by omega) ?_
    have hX : s.extract ((i : Int) + (m : Int)).toNat (s.size : Int).toNat = s.extract (i + m) s.size := by rw [show ((i : Int) + (m : Int)).toNat = i + m by omega]; rfl
    rw [hX]
    have hXz := ext_le s (i + m) s.size
    generalize hXe : s.extract (i + m) s.size = X at hXz ⊢
    refine OWp.call rfl rfl rfl rfl ?_
    refine trimR_spec X (by omega) _ _ ?_
    have hTz := trW_size X
    generalize hT : trW X = T at hTz ⊢
    refine OWp.norm ?_
    refine OWp.assign rfl rfl ?_
    refine OWp.nil ?_
    refine CWp.seq ?_
    refine CWp.region ?_
    refine OWp.move rfl rfl ?_
    refine OWp.lenS rfl rfl rfl rfl rfl Tryd.underlying9 rfl ?_
    refine OWp.assign rfl rfl ?_
    refine OWp.nil ?_
    refine CWp.cut (fun e H' => ∃ (q : Nat) (g : Nat → Value), e = [.string s, g 1, g 2, g 3, g 4, g 5, g 6, .int .i64 (m : Nat), .string T, .int .i64 (q : Nat), g 10, g 11, g 12, g 13, g 14, g 15, g 16, g 17, g 18, g 19, g 20, g 21, g 22, g 23, g 24, g 25, g 26, g 27, g 28, g 29, g 30, g 31, g 32, g 33, g 34, g 35, g 36, g 37, g 38, g 39, g 40, g 41, g 42, g 43, g 44, g 45, g 46, g 47, g 48, g 49, g 50, g 51, g 52, g 53, g 54, g 55, g 56, g 57, g 58, g 59, g 60, g 61, g 62, g 63, g 64, g 65, g 66, g 67, g 68, g 69, g 70, g 71, g 72, g 73, g 74, g 75, g 76, g 77, g 78, g 79, g 80, g 81, g 82, g 83, g 84, g 85, g 86, g 87, g 88, g 89, g 90, g 91, g 92] ∧ H = H' ∧ RunBack T 35 q) ?_ ?_
    · skip
      refine CWp.block ?_
      refine CWp.loop (fun k e H' => ∃ (q : Nat) (g : Nat → Value), e = [.string s, g 1, g 2, g 3, g 4, g 5, g 6, .int .i64 (m : Nat), .string T, .int .i64 (q : Nat), g 10, g 11, g 12, g 13, g 14, g 15, g 16, g 17, g 18, g 19, g 20, g 21, g 22, g 23, g 24, g 25, g 26, g 27, g 28, g 29, g 30, g 31, g 32, g 33, g 34, g 35, g 36, g 37, g 38, g 39, g 40, g 41, g 42, g 43, g 44, g 45, g 46, g 47, g 48, g 49, g 50, g 51, g 52, g 53, g 54, g 55, g 56, g 57, g 58, g 59, g 60, g 61, g 62, g 63, g 64, g 65, g 66, g 67, g 68, g 69, g 70, g 71, g 72, g 73, g 74, g 75, g 76, g 77, g 78, g 79, g 80, g 81, g 82, g 83, g 84, g 85, g 86, g 87, g 88, g 89, g 90, g 91, g 92] ∧ k = 1 + q ∧ H = H' ∧ q ≤ T.size ∧ ∀ j : Nat, q ≤ j → j < T.size → byteAt T (j : Nat) = 35) ?_ ?_
      · exact ⟨_, T.size, ex_env rfl ⟨rfl, rfl, by omega, fun j h1 h2 => by omega⟩⟩
      · rintro k e H' ⟨q, g, rfl, rfl, rfl, hq0, hj⟩
        refine CWp.seq ?_
        refine CWp.seq ?_
        refine CWp.region ?_
        refine OWp.move rfl rfl ?_
        refine OWp.binI rfl rfl rfl rfl rfl ?_
        refine OWp.move rfl rfl ?_
        first | refine OWp.byT rfl (fun hg3 => ?_) (fun hg3 => ?_) | refine OWp.byBT rfl (fun hg3 => ?_) (fun hg3 => ?_)
        · skip
          first | rw [decide_eq_true hg3] | rw [decide_eq_false hg3] | rw [hg3] | skip
          try simp only [Decidable.not_not] at hg3
          refine OWp.move rfl rfl ?_
          refine OWp.move rfl rfl ?_
          refine OWp.subI rfl rfl rfl rfl (by omega) ?_
          refine OWp.indexS rfl rfl Tryd.underlying9 rfl rfl (by omega) (by omega) ?_
          rw [show ((q : Int) - 1) = ((q - 1 : Nat) : Int) from by omega]
          refine OWp.binI rfl rfl rfl rfl rfl ?_
          refine OWp.pickT rfl rfl rfl ?_
          refine OWp.nil ?_
          first | refine CWp.condP rfl (fun h4 => ?_) (fun h4 => ?_) | refine CWp.cond rfl (fun h4 => ?_) (fun h4 => ?_)
          · skip
            first | rw [decide_eq_true h4] | rw [decide_eq_false h4] | rw [h4] | skip
            refine CWp.skip ?_
            refine CWp.block ?_
            refine CWp.region ?_
            refine OWp.move rfl rfl ?_
            refine OWp.subI rfl rfl rfl rfl (by omega) ?_
            rw [show ((q : Int) - 1) = ((q - 1 : Nat) : Int) from by omega]
            refine OWp.assign rfl rfl ?_
            refine OWp.nil ?_
            exact ⟨_, by omega, q - 1, ex_env rfl ⟨rfl, rfl, by omega, fun j a b => by by_cases e : j = q - 1; exact e ▸ (by assumption); exact hj j (by omega) b⟩⟩
          · skip
            first | rw [decide_eq_true h4] | rw [decide_eq_false h4] | rw [h4] | skip
            refine CWp.exit ?_
            exact ⟨q, ex_env rfl ⟨rfl, ⟨hq0, hj, fun h0 => by first | omega | assumption⟩⟩⟩
        · skip
          first | rw [decide_eq_true hg3] | rw [decide_eq_false hg3] | rw [hg3] | skip
          try simp only [Decidable.not_not] at hg3
          refine OWp.leave rfl ?_
          refine OWp.leave rfl ?_
          refine OWp.leave rfl ?_
          refine OWp.leave rfl ?_
          refine OWp.leave rfl ?_
          refine OWp.pickF rfl rfl rfl ?_
          refine OWp.nil ?_
          refine CWp.condF rfl ?_
          refine CWp.exit ?_
          exact ⟨q, ex_env rfl ⟨rfl, ⟨hq0, hj, fun h0 => by first | omega | assumption⟩⟩⟩
    · rintro e H' ⟨q, g, rfl, rfl, hq⟩
      have hq0 := hq.1
      refine CWp.seq ?_
      refine CWp.seq ?_
      refine CWp.region ?_
      refine OWp.move rfl rfl ?_
      refine OWp.binI rfl rfl rfl rfl rfl ?_
      refine OWp.move rfl rfl ?_
      first | refine OWp.byF rfl (fun hg2 => ?_) (fun hg2 => ?_) | refine OWp.byBF rfl (fun hg2 => ?_) (fun hg2 => ?_)
      · skip
        first | rw [decide_eq_true hg2] | rw [decide_eq_false hg2] | rw [hg2] | skip
        try simp only [Decidable.not_not] at hg2
        refine OWp.move rfl rfl ?_
        refine OWp.move rfl rfl ?_
        refine OWp.subI rfl rfl rfl rfl (by omega) ?_
        refine OWp.indexS rfl rfl Tryd.underlying9 rfl rfl (by omega) (by omega) ?_
        rw [show ((q : Int) - 1) = ((q - 1 : Nat) : Int) from by omega]
        refine OWp.binI rfl rfl rfl rfl rfl ?_
        refine OWp.pickF rfl rfl rfl ?_
        refine OWp.move rfl rfl ?_
        first | refine OWp.byF rfl (fun hg3 => ?_) (fun hg3 => ?_) | refine OWp.byBF rfl (fun hg3 => ?_) (fun hg3 => ?_)
        · skip
          first | rw [decide_eq_true hg3] | rw [decide_eq_false hg3] | rw [hg3] | skip
          try simp only [Decidable.not_not] at hg3
          refine OWp.move rfl rfl ?_
          refine OWp.move rfl rfl ?_
          refine OWp.subI rfl rfl rfl rfl (by omega) ?_
          refine OWp.indexS rfl rfl Tryd.underlying9 rfl rfl (by omega) (by omega) ?_
          rw [show ((q : Int) - 1) = ((q - 1 : Nat) : Int) from by omega]
          refine OWp.binI rfl rfl rfl rfl rfl ?_
          refine OWp.pickF rfl rfl rfl ?_
          refine OWp.nil ?_
          first | refine CWp.condP rfl (fun h4 => ?_) (fun h4 => ?_) | refine CWp.cond rfl (fun h4 => ?_) (fun h4 => ?_)
          · skip
            first | rw [decide_eq_true h4] | rw [decide_eq_false h4] | rw [h4] | skip
            refine CWp.region ?_
            refine OWp.move rfl rfl ?_
            refine OWp.move rfl rfl ?_
            refine OWp.sliceS rfl rfl Tryd.underlying9 rfl rfl rfl (by omega) (by omega) (by omega) ?_
            refine OWp.call rfl rfl rfl rfl ?_
            refine backR_spec (T.extract 0 q) (by have := ext_le T 0 q; omega) _ _ (fun k2 hk2 => ?_)
            refine OWp.norm ?_
            refine OWp.assign rfl rfl ?_
            refine OWp.nil ?_
            refine CWp.seq ?_
            refine CWp.region ?_
            refine OWp.move rfl rfl ?_
            refine OWp.move rfl rfl ?_
            refine OWp.assign rfl rfl ?_
            refine OWp.assign rfl rfl ?_
            refine OWp.assign rfl rfl ?_
            refine OWp.nil ?_
            refine CWp.ret ?_
            refine RetQ.three (by first | exact .inl rfl | exact .inr rfl) rfl rfl rfl rfl rfl rfl rfl ?_
            have hq0 := hq.1
            have hU : backC (trW X) ⟨#[35]⟩ = T.extract 0 q := by rw [hT]; exact back_run T 35 (by decide) q hq
            have hUz : (T.extract 0 q).size = q := by rw [ByteArray.size_extract]; omega
            have hlast : 0 < q → byteAt (T.extract 0 q) (q - 1 : Nat) = byteAt T (q - 1 : Nat) := fun h0 => byteAt_ext0 T q (q - 1) (by omega) hq0
            exact h i m _ _ true hi hm ⟨fun _ => hhr, fun _ => rfl⟩ (fun _ => ⟨rfl, by rw [hXe]; exact (by rw [titleC_T X (by rw [hU, hUz]; by_cases h0 : q = 0; exact .inl h0; exact .inr (by rw [hlast (by omega)]; unfold gapB; omega)), hU, back_gap _ k2 hk2])⟩) (fun e => by cases e)
          · skip
            first | rw [decide_eq_true h4] | rw [decide_eq_false h4] | rw [h4] | skip
            refine CWp.skip ?_
            refine CWp.seq ?_
            refine CWp.region ?_
            refine OWp.move rfl rfl ?_
            refine OWp.move rfl rfl ?_
            refine OWp.assign rfl rfl ?_
            refine OWp.assign rfl rfl ?_
            refine OWp.assign rfl rfl ?_
            refine OWp.nil ?_
            refine CWp.ret ?_
            refine RetQ.three (by first | exact .inl rfl | exact .inr rfl) rfl rfl rfl rfl rfl rfl rfl ?_
            have hq0 := hq.1
            have hU : backC (trW X) ⟨#[35]⟩ = T.extract 0 q := by rw [hT]; exact back_run T 35 (by decide) q hq
            have hUz : (T.extract 0 q).size = q := by rw [ByteArray.size_extract]; omega
            have hlast : 0 < q → byteAt (T.extract 0 q) (q - 1 : Nat) = byteAt T (q - 1 : Nat) := fun h0 => byteAt_ext0 T q (q - 1) (by omega) hq0
            exact h i m _ _ true hi hm ⟨fun _ => hhr, fun _ => rfl⟩ (fun _ => ⟨rfl, by rw [hXe]; exact (by rw [titleC_F X (by rw [hU, hUz]; rintro (k1 | k1); omega; rw [hlast (by omega)] at k1; unfold gapB at k1; omega), hT])⟩) (fun e => by cases e)
        · skip
          first | rw [decide_eq_true hg3] | rw [decide_eq_false hg3] | rw [hg3] | skip
          try simp only [Decidable.not_not] at hg3
          refine OWp.leave rfl ?_
          refine OWp.leave rfl ?_
          refine OWp.leave rfl ?_
          refine OWp.leave rfl ?_
          refine OWp.leave rfl ?_
          refine OWp.pickT rfl rfl rfl ?_
          refine OWp.nil ?_
          refine CWp.condT rfl ?_
          refine CWp.region ?_
          refine OWp.move rfl rfl ?_
          refine OWp.move rfl rfl ?_
          refine OWp.sliceS rfl rfl Tryd.underlying9 rfl rfl rfl (by omega) (by omega) (by omega) ?_
          refine OWp.call rfl rfl rfl rfl ?_
          refine backR_spec (T.extract 0 q) (by have := ext_le T 0 q; omega) _ _ (fun k2 hk2 => ?_)
          refine OWp.norm ?_
          refine OWp.assign rfl rfl ?_
          refine OWp.nil ?_
          refine CWp.seq ?_
          refine CWp.region ?_
          refine OWp.move rfl rfl ?_
          refine OWp.move rfl rfl ?_
          refine OWp.assign rfl rfl ?_
          refine OWp.assign rfl rfl ?_
          refine OWp.assign rfl rfl ?_
          refine OWp.nil ?_
          refine CWp.ret ?_
          refine RetQ.three (by first | exact .inl rfl | exact .inr rfl) rfl rfl rfl rfl rfl rfl rfl ?_
          have hq0 := hq.1
          have hU : backC (trW X) ⟨#[35]⟩ = T.extract 0 q := by rw [hT]; exact back_run T 35 (by decide) q hq
          have hUz : (T.extract 0 q).size = q := by rw [ByteArray.size_extract]; omega
          have hlast : 0 < q → byteAt (T.extract 0 q) (q - 1 : Nat) = byteAt T (q - 1 : Nat) := fun h0 => byteAt_ext0 T q (q - 1) (by omega) hq0
          exact h i m _ _ true hi hm ⟨fun _ => hhr, fun _ => rfl⟩ (fun _ => ⟨rfl, by rw [hXe]; exact (by rw [titleC_T X (by rw [hU, hUz]; by_cases h0 : q = 0; exact .inl h0; exact .inr (by rw [hlast (by omega)]; unfold gapB; omega)), hU, back_gap _ k2 hk2])⟩) (fun e => by cases e)
      · skip
        simp only [decide_eq_true hg2]
        refine OWp.leave rfl ?_
        refine OWp.leave rfl ?_
        refine OWp.leave rfl ?_
        refine OWp.leave rfl ?_
        refine OWp.leave rfl ?_
        refine OWp.pickT rfl rfl rfl ?_
        refine OWp.move rfl rfl ?_
        refine OWp.leave rfl ?_
        refine OWp.leave rfl ?_
        refine OWp.leave rfl ?_
        refine OWp.leave rfl ?_
        refine OWp.leave rfl ?_
        refine OWp.pickT rfl rfl rfl ?_
        refine OWp.nil ?_
        refine CWp.condT rfl ?_
        refine CWp.region ?_
        refine OWp.move rfl rfl ?_
        refine OWp.move rfl rfl ?_
        refine OWp.sliceS rfl rfl Tryd.underlying9 rfl rfl rfl (by omega) (by omega) (by omega) ?_
        refine OWp.call rfl rfl rfl rfl ?_
        refine backR_spec (T.extract 0 q) (by have := ext_le T 0 q; omega) _ _ (fun k2 hk2 => ?_)
        refine OWp.norm ?_
        refine OWp.assign rfl rfl ?_
        refine OWp.nil ?_
        refine CWp.seq ?_
        refine CWp.region ?_
        refine OWp.move rfl rfl ?_
        refine OWp.move rfl rfl ?_
        refine OWp.assign rfl rfl ?_
        refine OWp.assign rfl rfl ?_
        refine OWp.assign rfl rfl ?_
        refine OWp.nil ?_
        refine CWp.ret ?_
        refine RetQ.three (by first | exact .inl rfl | exact .inr rfl) rfl rfl rfl rfl rfl rfl rfl ?_
        have hq0 := hq.1
        have hU : backC (trW X) ⟨#[35]⟩ = T.extract 0 q := by rw [hT]; exact back_run T 35 (by decide) q hq
        have hUz : (T.extract 0 q).size = q := by rw [ByteArray.size_extract]; omega
        have hlast : 0 < q → byteAt (T.extract 0 q) (q - 1 : Nat) = byteAt T (q - 1 : Nat) := fun h0 => byteAt_ext0 T q (q - 1) (by omega) hq0
        exact h i m _ _ true hi hm ⟨fun _ => hhr, fun _ => rfl⟩ (fun _ => ⟨rfl, by rw [hXe]; exact (by rw [titleC_T X (by rw [hU, hUz]; by_cases h0 : q = 0; exact .inl h0; exact .inr (by rw [hlast (by omega)]; unfold gapB; omega)), hU, back_gap _ k2 hk2])⟩) (fun e => by cases e)

end Go.Proofs.YtpfhkjbnofgikaaDoor.Ev
