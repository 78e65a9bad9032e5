import Derived.Test.YtllokljpacpafaaDoorEvM3
namespace Go.Proofs.YtllokljpacpafaaDoor.Ev
open Go
set_option linter.unusedVariables false
set_option linter.unusedSimpArgs false
set_option maxHeartbeats 4000000

theorem is_spec (s : ByteArray) (hs : s.size ≤ 9000000) (H : AH) (Q : Value → AH → Prop) (h : ∀ H' m b, Keeps H H' → ReadOk s m b → Q (.bool b) H') (hw : WfH H) : FWp Tryd.prog prims 14 [.string s] H Q := by
  have hh := Has.start hw
  refine FWp.enter (rfl) Tryd.func14 rfl (e := [.string s, undef, undef, undef, undef, undef, undef, undef, undef, undef, undef]) rfl ?_
  refine CWp.seq ?_
  refine CWp.region ?_
  refine OWp.assign rfl rfl ?_
  refine OWp.nil ?_
  refine CWp.seq ?_
  refine CWp.region ?_
  refine OWp.move rfl rfl ?_
  refine OWp.call rfl rfl rfl rfl ?_
  refine read_spec s hs _ _ ?_ hh.wf
  intro H2 mm bb hk2 hro
  replace hh := hh.after hk2
  refine OWp.norm ?_
  refine OWp.move rfl rfl ?_
  refine OWp.extract rfl rfl rfl rfl ?_
  refine OWp.extract rfl rfl rfl rfl ?_
  refine OWp.allocM hh rfl rfl (fun H3 b3 hh => ?_)
  refine OWp.norm ?_
  first | refine OWp.storeM (k := 0) hh rfl rfl rfl rfl rfl (fun H4 hh => ?_) | refine OWp.storeM (k := 1) hh rfl rfl rfl rfl rfl (fun H4 hh => ?_) | refine OWp.storeM (k := 2) hh rfl rfl rfl rfl rfl (fun H4 hh => ?_)
  simp only [List.set_cons_zero, List.set_cons_succ] at hh
  refine OWp.norm ?_
  refine OWp.assign rfl rfl ?_
  refine OWp.nil ?_
  refine CWp.seq ?_
  refine CWp.region ?_
  refine OWp.move rfl rfl ?_
  refine OWp.assign rfl rfl ?_
  refine OWp.nil ?_
  refine CWp.ret ?_
  refine RetQ.one (by first | exact .inl rfl | exact .inr rfl) rfl rfl ?_
  exact h _ _ _ hh.keep hro

theorem number_spec (n : Int) (hn : 0 ≤ n ∧ n ≤ 1000000) (H : AH) (Q : Value → AH → Prop) (h : Q (.string (itoaB n)) H) : FWp Tryd.prog prims 18 [.int .i64 n] H Q := by
  refine FWp.enter (rfl) Tryd.func18 rfl (e := [.int .i64 n, undef, undef, undef, undef, undef, undef, undef, undef, undef, undef, undef, undef, undef, undef, undef, undef, undef, undef, undef, undef]) rfl ?_
  refine CWp.seq ?_
  refine CWp.region ?_
  refine OWp.assign rfl rfl ?_
  refine OWp.nil ?_
  refine CWp.seq ?_
  refine CWp.region ?_
  refine OWp.assign rfl rfl ?_
  refine OWp.nil ?_
  refine CWp.seq ?_
  refine CWp.block ?_
  refine CWp.loop (fun k e H' => ∃ (u : Int) (q : ByteArray) (g : Nat → Value), e = [.int .i64 u, g 1, g 2, .string q, g 4, g 5, g 6, g 7, g 8, g 9, g 10, g 11, g 12, g 13, g 14, g 15, g 16, g 17, g 18, g 19, g 20] ∧ k = u.toNat + (if q = ⟨#[]⟩ then 1 else 0) ∧ H' = H ∧ 0 ≤ u ∧ u ≤ 1000000 ∧ NumInv n u q) ?_ ?_
  · exact ⟨_, n, ⟨#[]⟩, ex_env rfl ⟨rfl, rfl, by omega, by omega, .inl ⟨rfl, rfl⟩⟩⟩
  · rintro k e H' ⟨u, q, g, rfl, rfl, rfl, hu0, hu1, hnu⟩
    have hq7 := num_size hn hnu
    have hne : (⟨#[48, 49, 50, 51, 52, 53, 54, 55, 56, 57]⟩ : ByteArray).extract (u % 10).toNat (u % 10 + 1).toNat ++ q ≠ ⟨#[]⟩ := fun e => by
      have this : (DIGS.extract (u % 10).toNat (u % 10 + 1).toNat ++ q).data.toList = [] := congrArg (fun x : ByteArray => x.data.toList) e
      rw [app_list, show (u % 10).toNat = u.toNat % 10 by omega, show (u % 10 + 1).toNat = u.toNat % 10 + 1 by omega, dig_one _ (by omega)] at this
      cases this
    have hdz : (⟨#[48, 49, 50, 51, 52, 53, 54, 55, 56, 57]⟩ : ByteArray).size = 10 := rfl
    have hxz := ext_le ⟨#[48, 49, 50, 51, 52, 53, 54, 55, 56, 57]⟩ (u % 10).toNat (u % 10 + 1).toNat
    refine CWp.seq ?_
    refine CWp.seq ?_
    refine CWp.region ?_
    refine OWp.move rfl rfl ?_
    refine OWp.binI rfl rfl rfl rfl rfl ?_
    refine OWp.move rfl rfl ?_
    first | refine OWp.byF rfl (fun hg1 => ?_) (fun hg1 => ?_) | refine OWp.byBF rfl (fun hg1 => ?_) (fun hg1 => ?_)
    · skip
      first | rw [decide_eq_true hg1] | rw [decide_eq_false hg1] | rw [hg1] | skip
      try simp only [Decidable.not_not] at hg1
      refine OWp.move rfl rfl ?_
      refine OWp.binS rfl rfl rfl rfl rfl ?_
      refine OWp.pickF rfl rfl rfl ?_
      refine OWp.nil ?_
      first | refine CWp.condP rfl (fun h2 => ?_) (fun h2 => ?_) | refine CWp.cond rfl (fun h2 => ?_) (fun h2 => ?_)
      · skip
        first | rw [decide_eq_true h2] | rw [decide_eq_false h2] | rw [h2] | skip
        refine CWp.skip ?_
        refine CWp.seq ?_
        refine CWp.block ?_
        refine CWp.region ?_
        refine OWp.move rfl rfl ?_
        refine OWp.remI rfl rfl rfl rfl (by omega) ?_
        refine OWp.move rfl rfl ?_
        refine OWp.remI rfl rfl rfl rfl (by omega) ?_
        refine OWp.addI rfl rfl rfl rfl (by omega) ?_
        refine OWp.sliceS rfl rfl Tryd.underlying9 rfl rfl rfl (by omega) (by omega) (by omega) ?_
        refine OWp.move rfl rfl ?_
        refine OWp.catS rfl rfl rfl rfl (by omega) ?_
        refine OWp.assign rfl rfl ?_
        refine OWp.nil ?_
        refine CWp.region ?_
        refine OWp.move rfl rfl ?_
        refine OWp.quoI rfl rfl rfl rfl (by omega) ?_
        refine OWp.assign rfl rfl ?_
        refine OWp.nil ?_
        exact ⟨_, by rw [if_neg hne, if_pos (by assumption)]; omega, u / 10, _, ex_env rfl ⟨rfl, rfl, by omega, by omega, num_step hnu hu0 (.inr (by assumption))⟩⟩
      · skip
        first | rw [decide_eq_true h2] | rw [decide_eq_false h2] | rw [h2] | skip
        refine CWp.exit ?_
        refine CWp.seq ?_
        refine CWp.region ?_
        refine OWp.move rfl rfl ?_
        refine OWp.assign rfl rfl ?_
        refine OWp.nil ?_
        refine CWp.ret ?_
        refine RetQ.one (by first | exact .inl rfl | exact .inr rfl) rfl rfl ?_
        have e0 : u = 0 := by omega
        subst e0
        have e1 := num_end2 hn.1 hnu (by assumption)
        subst e1
        exact h
    · skip
      first | rw [decide_eq_true hg1] | rw [decide_eq_false hg1] | rw [hg1] | skip
      try simp only [Decidable.not_not] at hg1
      refine OWp.leave rfl ?_
      refine OWp.leave rfl ?_
      refine OWp.pickT rfl rfl rfl ?_
      refine OWp.nil ?_
      refine CWp.condT rfl ?_
      refine CWp.skip ?_
      refine CWp.seq ?_
      refine CWp.block ?_
      refine CWp.region ?_
      refine OWp.move rfl rfl ?_
      refine OWp.remI rfl rfl rfl rfl (by omega) ?_
      refine OWp.move rfl rfl ?_
      refine OWp.remI rfl rfl rfl rfl (by omega) ?_
      refine OWp.addI rfl rfl rfl rfl (by omega) ?_
      refine OWp.sliceS rfl rfl Tryd.underlying9 rfl rfl rfl (by omega) (by omega) (by omega) ?_
      refine OWp.move rfl rfl ?_
      refine OWp.catS rfl rfl rfl rfl (by omega) ?_
      refine OWp.assign rfl rfl ?_
      refine OWp.nil ?_
      refine CWp.region ?_
      refine OWp.move rfl rfl ?_
      refine OWp.quoI rfl rfl rfl rfl (by omega) ?_
      refine OWp.assign rfl rfl ?_
      refine OWp.nil ?_
      exact ⟨_, by rw [if_neg hne]; omega, u / 10, _, ex_env rfl ⟨rfl, rfl, by omega, by omega, num_step hnu hu0 (.inl (by omega))⟩⟩

theorem split_spec (s : ByteArray) (hs : s.size ≤ 9000000) (c : Nat) (hc : c < 256) (hd : ¬ (48 ≤ c ∧ c ≤ 57)) (H : AH) (Q : Value → AH → Prop) (h : ∀ (nm : ByteArray) (n : Int) (b : Bool), nm.size ≤ s.size → 0 ≤ n ∧ n ≤ 1000000000 → SplitOk s c nm n b → Q (.tuple #[.string nm, .int .i64 n, .bool b]) H) : FWp Tryd.prog prims 32 [.string s, .int .u8 (c : Nat)] H Q := by
  refine FWp.enter (rfl) Tryd.func32 rfl (e := [.string s, .int .u8 (c : Nat), undef, undef, undef, undef, undef, undef, undef, undef, undef, undef, undef, undef, undef, undef, undef, undef, undef, undef, undef, undef, undef, undef, undef, undef, undef, undef, undef, undef, undef, undef, undef, undef, undef, undef, undef, undef, undef, undef, undef, undef, undef, undef, undef, undef, undef, undef, undef, undef, undef, undef, undef, undef, undef, undef, undef, undef, undef, undef, undef, undef, undef]) rfl ?_
  refine CWp.seq ?_
  refine CWp.region ?_
  refine OWp.assign rfl rfl ?_
  refine OWp.assign rfl rfl ?_
  refine OWp.assign rfl rfl ?_
  refine OWp.nil ?_
  refine CWp.seq ?_
  refine CWp.region ?_
  refine OWp.move rfl rfl ?_
  refine OWp.lenS rfl rfl rfl rfl rfl Tryd.underlying9 rfl ?_
  refine OWp.subI rfl rfl rfl rfl (by omega) ?_
  refine OWp.assign rfl rfl ?_
  refine OWp.nil ?_
  refine CWp.cut (fun e H' => ∃ (q : Int) (g : Nat → Value), e = [.string s, .int .u8 (c : Nat), g 2, g 3, g 4, g 5, g 6, .int .i64 q, g 8, g 9, g 10, g 11, g 12, g 13, g 14, g 15, g 16, g 17, g 18, g 19, g 20, g 21, g 22, g 23, g 24, g 25, g 26, g 27, g 28, g 29, g 30, g 31, g 32, g 33, g 34, g 35, g 36, g 37, g 38, g 39, g 40, g 41, g 42, g 43, g 44, g 45, g 46, g 47, g 48, g 49, g 50, g 51, g 52, g 53, g 54, g 55, g 56, g 57, g 58, g 59, g 60, g 61, g 62] ∧ H = H' ∧ -1 ≤ q ∧ q < s.size ∧ (∀ j : Nat, q < j → j < s.size → byteAt s (j : Nat) ≠ c) ∧ (q < 0 ∨ byteAt s q = c)) ?_ ?_
  · skip
    refine CWp.block ?_
    refine CWp.loop (fun k e H' => ∃ (q : Int) (g : Nat → Value), e = [.string s, .int .u8 (c : Nat), g 2, g 3, g 4, g 5, g 6, .int .i64 q, g 8, g 9, g 10, g 11, g 12, g 13, g 14, g 15, g 16, g 17, g 18, g 19, g 20, g 21, g 22, g 23, g 24, g 25, g 26, g 27, g 28, g 29, g 30, g 31, g 32, g 33, g 34, g 35, g 36, g 37, g 38, g 39, g 40, g 41, g 42, g 43, g 44, g 45, g 46, g 47, g 48, g 49, g 50, g 51, g 52, g 53, g 54, g 55, g 56, g 57, g 58, g 59, g 60, g 61, g 62] ∧ k = (q + 1).toNat ∧ H' = H ∧ -1 ≤ q ∧ q < s.size ∧ ∀ j : Nat, q < j → j < s.size → byteAt s (j : Nat) ≠ c) ?_ ?_
    · exact ⟨_, (s.size : Int) - 1, ex_env rfl ⟨rfl, rfl, by omega, by omega, fun j h1 h2 => by omega⟩⟩
    · rintro k e H' ⟨q, g, rfl, rfl, rfl, hq1, hq2, hall⟩
      refine CWp.seq ?_
      refine CWp.seq ?_
      refine CWp.region ?_
      refine OWp.move rfl rfl ?_
      refine OWp.binI rfl rfl rfl rfl rfl ?_
      refine OWp.move rfl rfl ?_
      first | refine OWp.byT rfl (fun hg1 => ?_) (fun hg1 => ?_) | refine OWp.byBT rfl (fun hg1 => ?_) (fun hg1 => ?_)
      · skip
        first | rw [decide_eq_true hg1] | rw [decide_eq_false hg1] | rw [hg1] | skip
        try simp only [Decidable.not_not] at hg1
        refine OWp.move rfl rfl ?_
        refine OWp.move rfl rfl ?_
        refine OWp.indexS rfl rfl Tryd.underlying9 rfl rfl (by omega) (by omega) ?_
        refine OWp.move rfl rfl ?_
        refine OWp.binI rfl rfl rfl rfl rfl ?_
        refine OWp.pickT rfl rfl rfl ?_
        refine OWp.nil ?_
        first | refine CWp.condP rfl (fun h2 => ?_) (fun h2 => ?_) | refine CWp.cond rfl (fun h2 => ?_) (fun h2 => ?_)
        · skip
          first | rw [decide_eq_true h2] | rw [decide_eq_false h2] | rw [h2] | skip
          refine CWp.skip ?_
          refine CWp.block ?_
          refine CWp.region ?_
          refine OWp.move rfl rfl ?_
          refine OWp.subI rfl rfl rfl rfl (by omega) ?_
          refine OWp.assign rfl rfl ?_
          refine OWp.nil ?_
          exact ⟨_, by omega, q - 1, ex_env rfl ⟨rfl, rfl, by omega, by omega, fun j h1 h2 => by by_cases e : (j : Int) = q; exact e ▸ (by assumption); exact hall j (by omega) h2⟩⟩
        · skip
          first | rw [decide_eq_true h2] | rw [decide_eq_false h2] | rw [h2] | skip
          refine CWp.exit ?_
          exact ⟨q, ex_env rfl ⟨rfl, hq1, hq2, hall, .inr (by simp_all)⟩⟩
      · skip
        first | rw [decide_eq_true hg1] | rw [decide_eq_false hg1] | rw [hg1] | skip
        try simp only [Decidable.not_not] at hg1
        refine OWp.leave rfl ?_
        refine OWp.leave rfl ?_
        refine OWp.leave rfl ?_
        refine OWp.leave rfl ?_
        refine OWp.leave rfl ?_
        refine OWp.pickF rfl rfl rfl ?_
        refine OWp.nil ?_
        refine CWp.condF rfl ?_
        refine CWp.exit ?_
        exact ⟨q, ex_env rfl ⟨rfl, hq1, hq2, hall, .inl (by omega)⟩⟩
  · rintro e H' ⟨q, g, rfl, rfl, hq1, hq2, hall, hqc⟩
    refine CWp.seq ?_
    refine CWp.seq ?_
    refine CWp.region ?_
    refine OWp.move rfl rfl ?_
    refine OWp.binI rfl rfl rfl rfl rfl ?_
    refine OWp.move rfl rfl ?_
    first | refine OWp.byF rfl (fun hg2 => ?_) (fun hg2 => ?_) | refine OWp.byBF rfl (fun hg2 => ?_) (fun hg2 => ?_)
    · skip
      first | rw [decide_eq_true hg2] | rw [decide_eq_false hg2] | rw [hg2] | skip
      try simp only [Decidable.not_not] at hg2
      refine OWp.move rfl rfl ?_
      refine OWp.lenS rfl rfl rfl rfl rfl Tryd.underlying9 rfl ?_
      refine OWp.move rfl rfl ?_
      refine OWp.subI rfl rfl rfl rfl (by omega) ?_
      refine OWp.binI rfl rfl rfl rfl rfl ?_
      refine OWp.pickF rfl rfl rfl ?_
      refine OWp.nil ?_
      first | refine CWp.condP rfl (fun h3 => ?_) (fun h3 => ?_) | refine CWp.cond rfl (fun h3 => ?_) (fun h3 => ?_)
      · skip
        first | rw [decide_eq_true h3] | rw [decide_eq_false h3] | rw [h3] | skip
        refine CWp.seq ?_
        refine CWp.region ?_
        refine OWp.assign rfl rfl ?_
        refine OWp.assign rfl rfl ?_
        refine OWp.assign rfl rfl ?_
        refine OWp.nil ?_
        refine CWp.ret ?_
        refine RetQ.three (by first | exact .inl rfl | exact .inr rfl) rfl rfl rfl rfl rfl rfl rfl ?_
        exact h ⟨#[]⟩ 0 false (Nat.zero_le _) (by decide) (fun A u h8 h9 hl => by exfalso; have hq := last_pos hc hd h8 hl (by omega) (by omega) hall (hqc); have := split_size h8 h9 hl; omega)
      · skip
        obtain ⟨q, rfl⟩ := Int.eq_ofNat_of_zero_le (show 0 ≤ q by omega)
        first | rw [decide_eq_true h3] | rw [decide_eq_false h3] | rw [h3] | skip
        refine CWp.skip ?_
        refine CWp.seq ?_
        refine CWp.region ?_
        refine OWp.assign rfl rfl ?_
        refine OWp.nil ?_
        refine CWp.seq ?_
        refine CWp.seq ?_
        refine CWp.region ?_
        refine OWp.move rfl rfl ?_
        refine OWp.addI rfl rfl rfl rfl (by omega) ?_
        refine OWp.assign rfl rfl ?_
        refine OWp.nil ?_
        refine CWp.block ?_
        refine CWp.loop (fun k e H' => ∃ (v : Int) (j : Nat) (g : Nat → Value), e = [.string s, .int .u8 (c : Nat), g 2, g 3, g 4, g 5, g 6, .int .i64 (q : Nat), .int .i64 v, .int .i64 (j : Nat), g 10, g 11, g 12, g 13, g 14, g 15, g 16, g 17, g 18, g 19, g 20, g 21, g 22, g 23, g 24, g 25, g 26, g 27, g 28, g 29, g 30, g 31, g 32, g 33, g 34, g 35, g 36, g 37, g 38, g 39, g 40, g 41, g 42, g 43, g 44, g 45, g 46, g 47, g 48, g 49, g 50, g 51, g 52, g 53, g 54, g 55, g 56, g 57, g 58, g 59, g 60, g 61, g 62] ∧ k = s.size - j ∧ H' = H ∧ q + 1 ≤ j ∧ j ≤ s.size ∧ 0 ≤ v ∧ decP s (q + 1) j = some v.toNat) ?_ ?_
        · exact ⟨_, 0, q + 1, ex_env rfl ⟨rfl, rfl, by omega, by omega, by omega, decP_start s _⟩⟩
        · rintro k e H' ⟨v, j, g, rfl, rfl, rfl, hj1, hj2, hv0, hv⟩
          have hvl := decP_lt hv (by omega)
          refine CWp.seq ?_
          refine CWp.seq ?_
          refine CWp.region ?_
          refine OWp.move rfl rfl ?_
          refine OWp.move rfl rfl ?_
          refine OWp.lenS rfl rfl rfl rfl rfl Tryd.underlying9 rfl ?_
          refine OWp.binI rfl rfl rfl rfl rfl ?_
          refine OWp.nil ?_
          first | refine CWp.condP rfl (fun h5 => ?_) (fun h5 => ?_) | refine CWp.cond rfl (fun h5 => ?_) (fun h5 => ?_)
          · skip
            first | rw [decide_eq_true h5] | rw [decide_eq_false h5] | rw [h5] | skip
            refine CWp.skip ?_
            refine CWp.seq ?_
            refine CWp.block ?_
            refine CWp.seq ?_
            refine CWp.seq ?_
            refine CWp.region ?_
            refine OWp.move rfl rfl ?_
            refine OWp.move rfl rfl ?_
            refine OWp.indexS rfl rfl Tryd.underlying9 rfl rfl (by omega) (by omega) ?_
            refine OWp.binI rfl rfl rfl rfl rfl ?_
            refine OWp.move rfl rfl ?_
            first | refine OWp.byF rfl (fun hg6 => ?_) (fun hg6 => ?_) | refine OWp.byBF rfl (fun hg6 => ?_) (fun hg6 => ?_)
            · skip
              first | rw [decide_eq_true hg6] | rw [decide_eq_false hg6] | rw [hg6] | skip
              try simp only [Decidable.not_not] at hg6
              refine OWp.move rfl rfl ?_
              refine OWp.move rfl rfl ?_
              refine OWp.indexS rfl rfl Tryd.underlying9 rfl rfl (by omega) (by omega) ?_
              refine OWp.binI rfl rfl rfl rfl rfl ?_
              refine OWp.pickF rfl rfl rfl ?_
              refine OWp.nil ?_
              first | refine CWp.condP rfl (fun h7 => ?_) (fun h7 => ?_) | refine CWp.cond rfl (fun h7 => ?_) (fun h7 => ?_)
              · skip
                first | rw [decide_eq_true h7] | rw [decide_eq_false h7] | rw [h7] | skip
                refine CWp.seq ?_
                refine CWp.region ?_
                refine OWp.assign rfl rfl ?_
                refine OWp.assign rfl rfl ?_
                refine OWp.assign rfl rfl ?_
                refine OWp.nil ?_
                refine CWp.ret ?_
                refine RetQ.three (by first | exact .inl rfl | exact .inr rfl) rfl rfl rfl rfl rfl rfl rfl ?_
                exact h ⟨#[]⟩ 0 false (Nat.zero_le _) (by decide) (fun A u h8 h9 hl => by exfalso; have hq := last_pos hc hd h8 hl (by omega) (by omega) hall (hqc); have := split_digit h8 hl (j := j) (by omega) (by omega); omega)
              · skip
                first | rw [decide_eq_true h7] | rw [decide_eq_false h7] | rw [h7] | skip
                refine CWp.skip ?_
                refine CWp.region ?_
                refine OWp.move rfl rfl ?_
                refine OWp.mulI rfl rfl rfl rfl (by omega) ?_
                refine OWp.move rfl rfl ?_
                refine OWp.move rfl rfl ?_
                refine OWp.indexS rfl rfl Tryd.underlying9 rfl rfl (by omega) (by omega) ?_
                refine OWp.subU rfl rfl rfl rfl (by have := byteAt_u8 s j; omega) ?_
                refine OWp.convI rfl rfl Tryd.underlying5 Tryd.underlying3 rfl (wrap_id (by have := byteAt_u8 s j; omega)) ?_
                refine OWp.addI rfl rfl rfl rfl (by omega) ?_
                refine OWp.assign rfl rfl ?_
                refine OWp.nil ?_
                refine CWp.region ?_
                refine OWp.move rfl rfl ?_
                refine OWp.addI rfl rfl rfl rfl (by omega) ?_
                refine OWp.assign rfl rfl ?_
                refine OWp.nil ?_
                exact ⟨_, by omega, v * 10 + (byteAt s (j : Nat) - 48), j + 1, ex_env rfl ⟨rfl, rfl, by omega, by omega, by omega, by rw [show (v * 10 + (byteAt s (j : Nat) - 48)).toNat = v.toNat * 10 + (byteAt s (j : Nat) - 48).toNat by omega]; exact decP_step hj1 (by omega) hv (by omega)⟩⟩
            · skip
              first | rw [decide_eq_true hg6] | rw [decide_eq_false hg6] | rw [hg6] | skip
              try simp only [Decidable.not_not] at hg6
              refine OWp.leave rfl ?_
              refine OWp.leave rfl ?_
              refine OWp.leave rfl ?_
              refine OWp.leave rfl ?_
              refine OWp.pickT rfl rfl rfl ?_
              refine OWp.nil ?_
              refine CWp.condT rfl ?_
              refine CWp.seq ?_
              refine CWp.region ?_
              refine OWp.assign rfl rfl ?_
              refine OWp.assign rfl rfl ?_
              refine OWp.assign rfl rfl ?_
              refine OWp.nil ?_
              refine CWp.ret ?_
              refine RetQ.three (by first | exact .inl rfl | exact .inr rfl) rfl rfl rfl rfl rfl rfl rfl ?_
              exact h ⟨#[]⟩ 0 false (Nat.zero_le _) (by decide) (fun A u h8 h9 hl => by exfalso; have hq := last_pos hc hd h8 hl (by omega) (by omega) hall (hqc); have := split_digit h8 hl (j := j) (by omega) (by omega); omega)
          · skip
            first | rw [decide_eq_true h5] | rw [decide_eq_false h5] | rw [h5] | skip
            refine CWp.exit ?_
            refine CWp.seq ?_
            refine CWp.region ?_
            refine OWp.move rfl rfl ?_
            refine OWp.move rfl rfl ?_
            refine OWp.sliceS rfl rfl Tryd.underlying9 rfl rfl rfl (by omega) (by omega) (by omega) ?_
            refine OWp.move rfl rfl ?_
            refine OWp.assign rfl rfl ?_
            refine OWp.assign rfl rfl ?_
            refine OWp.assign rfl rfl ?_
            refine OWp.nil ?_
            refine CWp.ret ?_
            refine RetQ.three (by first | exact .inl rfl | exact .inr rfl) rfl rfl rfl rfl rfl rfl rfl ?_
            exact h (s.extract 0 q) v true (ext_le _ _ _) (by omega) (fun A u h8 h9 hl => by have hq := last_pos hc hd h8 hl (by omega) (by omega) hall (hqc); obtain rfl : q = A.size := (by omega); obtain rfl : j = s.size := (by omega); obtain ⟨e1, e2⟩ := split_end h8 hl hv; exact ⟨e1, by omega, rfl⟩)
    · skip
      first | rw [decide_eq_true hg2] | rw [decide_eq_false hg2] | rw [hg2] | skip
      try simp only [Decidable.not_not] at hg2
      refine OWp.leave rfl ?_
      refine OWp.leave rfl ?_
      refine OWp.leave rfl ?_
      refine OWp.leave rfl ?_
      refine OWp.leave rfl ?_
      refine OWp.pickT rfl rfl rfl ?_
      refine OWp.nil ?_
      refine CWp.condT rfl ?_
      refine CWp.seq ?_
      refine CWp.region ?_
      refine OWp.assign rfl rfl ?_
      refine OWp.assign rfl rfl ?_
      refine OWp.assign rfl rfl ?_
      refine OWp.nil ?_
      refine CWp.ret ?_
      refine RetQ.three (by first | exact .inl rfl | exact .inr rfl) rfl rfl rfl rfl rfl rfl rfl ?_
      exact h ⟨#[]⟩ 0 false (Nat.zero_le _) (by decide) (fun A u h8 h9 hl => by exfalso; have hq := last_pos hc hd h8 hl (by omega) (by omega) hall (.inl (by omega)); omega)

end Go.Proofs.YtllokljpacpafaaDoor.Ev
