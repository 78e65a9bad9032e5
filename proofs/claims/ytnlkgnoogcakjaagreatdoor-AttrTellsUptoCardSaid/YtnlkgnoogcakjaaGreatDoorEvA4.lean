import Derived.Test.YtnlkgnoogcakjaaGreatDoorEvAttrR
namespace Go.Proofs.YtnlkgnoogcakjaaGreatDoor.Ev
open Go
set_option linter.unusedVariables false
set_option linter.unusedSimpArgs false
set_option maxHeartbeats 4000000
set_option maxRecDepth 20000

theorem styled_spec (s : ByteArray) (hs : s.size ≤ 9000000) (H : AH) (Q : Value → AH → Prop) (h : ∀ H' b, Keeps H H' → (b = true ↔ StyleP s) → Q (.bool b) H') (hw : WfH H) : FWp Tryz.prog prims 51 [.string s] H Q := by
  have hs5 : szT Tryz.prog 5 = 1 := by kernel_rfl
  refine FWp.enter (rfl) Tryz.func51 rfl (e := [.string s, undef, undef, undef, undef, undef, undef, undef, undef, undef, undef, undef, undef, undef, undef, undef, undef, undef, undef, undef, undef, undef, undef, undef, undef, undef, undef]) rfl ?_
  refine CWp.seq ?_
  refine CWp.region ?_
  refine OWp.assign rfl rfl ?_
  refine OWp.nil ?_
  refine CWp.seq ?_
  refine CWp.seq ?_
  refine CWp.region ?_
  refine OWp.move rfl rfl ?_
  refine OWp.convBytes hw rfl rfl Tryz.underlying9 Tryz.underlying22 Tryz.underlying5 hs5 rfl (fun H2 cc hw2 hk2 hc2 hrw => ?_)
  refine OWp.norm ?_
  refine OWp.lenSl rfl rfl rfl rfl rfl Tryz.underlying22 rfl ?_
  refine OWp.move rfl rfl ?_
  refine OWp.nil ?_
  refine CWp.block ?_
  refine CWp.loop (fun k e H' => ∃ (cc j : Nat) (g : Nat → Value), e = [.string s, g 1, g 2, g 3, g 4, g 5, .slice (some ⟨cc, 0, none⟩) s.size s.size, .int .i64 (s.size : Nat), .int .i64 (j : Nat), g 9, g 10, g 11, g 12, g 13, g 14, g 15, g 16, g 17, g 18, g 19, g 20, g 21, g 22, g 23, g 24, g 25, g 26] ∧ k = s.size - j ∧ WfH H' ∧ Keeps H H' ∧ Row H' (some ⟨cc, 0, none⟩) (byteV s) ∧ j ≤ s.size ∧ ∀ a : Nat, a < j → 33 ≤ byteAt s (a : Nat) ∧ byteAt s (a : Nat) ≤ 126) ?_ ?_
  · exact ⟨_, cc, 0, ex_env rfl ⟨rfl, hw2, hk2, hrw, by omega, fun a h => by omega⟩⟩
  · rintro k e H' ⟨cc, j, g, rfl, rfl, hw', hk', hrow, hj, ha⟩
    refine CWp.seq ?_
    refine CWp.region ?_
    refine OWp.binI rfl rfl rfl rfl rfl ?_
    refine OWp.nil ?_
    refine CWp.seq ?_
    first | refine CWp.condP rfl (fun h1 => ?_) (fun h1 => ?_) | refine CWp.cond rfl (fun h1 => ?_) (fun h1 => ?_)
    · skip
      first | rw [decide_eq_true h1] | rw [decide_eq_false h1] | rw [h1] | skip
      refine CWp.skip ?_
      refine CWp.seq ?_
      refine CWp.block ?_
      refine CWp.seq ?_
      refine CWp.region ?_
      refine OWp.indexAddrSl1 rfl rfl Tryz.underlying22 hs5 rfl rfl (by omega) (by omega) ?_
      refine OWp.loadRow rfl rfl Tryz.underlying5 rfl rfl hrow (byteV_get s j (by omega)) ?_
      refine OWp.assign rfl rfl ?_
      refine OWp.nil ?_
      refine CWp.seq ?_
      refine CWp.region ?_
      refine OWp.move rfl rfl ?_
      refine OWp.binI rfl rfl rfl rfl rfl ?_
      refine OWp.move rfl rfl ?_
      first | refine OWp.byF rfl (fun hg2 => ?_) (fun hg2 => ?_) | refine OWp.byBF rfl (fun hg2 => ?_) (fun hg2 => ?_)
      · skip
        first | rw [decide_eq_true hg2] | rw [decide_eq_false hg2] | rw [hg2] | skip
        try simp only [Decidable.not_not] at hg2
        refine OWp.move rfl rfl ?_
        refine OWp.binI rfl rfl rfl rfl rfl ?_
        refine OWp.pickF rfl rfl rfl ?_
        refine OWp.nil ?_
        first | refine CWp.condP rfl (fun h3 => ?_) (fun h3 => ?_) | refine CWp.cond rfl (fun h3 => ?_) (fun h3 => ?_)
        · skip
          first | rw [decide_eq_true h3] | rw [decide_eq_false h3] | rw [h3] | skip
          refine CWp.seq ?_
          refine CWp.region ?_
          refine OWp.assign rfl rfl ?_
          refine OWp.nil ?_
          refine CWp.ret ?_
          refine RetQ.one (by first | exact .inl rfl | exact .inr rfl) rfl rfl ?_
          exact h _ false hk' ⟨fun e => (by cases e), fun hr => (by have := hr.2.2 j (by omega); omega)⟩
        · skip
          first | rw [decide_eq_true h3] | rw [decide_eq_false h3] | rw [h3] | skip
          refine CWp.skip ?_
          refine CWp.region ?_
          refine OWp.addI rfl rfl rfl rfl (by omega) ?_
          refine OWp.move rfl rfl ?_
          refine OWp.nil ?_
          exact ⟨_, by omega, cc, j + 1, ex_env rfl ⟨rfl, hw', hk', hrow, by omega, fun a h1 => by by_cases e : a = j; exact e ▸ ⟨by omega, by omega⟩; exact ha a (by omega)⟩⟩
      · skip
        first | rw [decide_eq_true hg2] | rw [decide_eq_false hg2] | rw [hg2] | skip
        try simp only [Decidable.not_not] at hg2
        refine OWp.leave rfl ?_
        refine OWp.leave rfl ?_
        refine OWp.pickT rfl rfl rfl ?_
        refine OWp.nil ?_
        refine CWp.condT rfl ?_
        refine CWp.seq ?_
        refine CWp.region ?_
        refine OWp.assign rfl rfl ?_
        refine OWp.nil ?_
        refine CWp.ret ?_
        refine RetQ.one (by first | exact .inl rfl | exact .inr rfl) rfl rfl ?_
        exact h _ false hk' ⟨fun e => (by cases e), fun hr => (by have := hr.2.2 j (by omega); omega)⟩
    · skip
      first | rw [decide_eq_true h1] | rw [decide_eq_false h1] | rw [h1] | skip
      refine CWp.exit ?_
      refine CWp.seq ?_
      refine CWp.region ?_
      refine OWp.move rfl rfl ?_
      refine OWp.lenS rfl rfl rfl rfl rfl Tryz.underlying9 rfl ?_
      refine OWp.binI rfl rfl rfl rfl rfl ?_
      refine OWp.move rfl rfl ?_
      first | refine OWp.byT rfl (fun hg2 => ?_) (fun hg2 => ?_) | refine OWp.byBT rfl (fun hg2 => ?_) (fun hg2 => ?_)
      · skip
        first | rw [decide_eq_true hg2] | rw [decide_eq_false hg2] | rw [hg2] | skip
        try simp only [Decidable.not_not] at hg2
        refine OWp.move rfl rfl ?_
        refine OWp.lenS rfl rfl rfl rfl rfl Tryz.underlying9 rfl ?_
        refine OWp.binI rfl rfl rfl rfl rfl ?_
        refine OWp.pickT rfl rfl rfl ?_
        refine OWp.assign rfl rfl ?_
        refine OWp.nil ?_
        refine CWp.ret ?_
        refine RetQ.one (by first | exact .inl rfl | exact .inr rfl) rfl rfl ?_
        exact h _ _ hk' ⟨fun e => ⟨by omega, by have := of_decide_eq_true e; omega, fun a h9 => ha a (by omega)⟩, fun hr => decide_eq_true (by have := hr.2.1; omega)⟩
      · skip
        first | rw [decide_eq_true hg2] | rw [decide_eq_false hg2] | rw [hg2] | skip
        try simp only [Decidable.not_not] at hg2
        refine OWp.leave rfl ?_
        refine OWp.leave rfl ?_
        refine OWp.leave rfl ?_
        refine OWp.pickF rfl rfl rfl ?_
        refine OWp.assign rfl rfl ?_
        refine OWp.nil ?_
        refine CWp.ret ?_
        refine RetQ.one (by first | exact .inl rfl | exact .inr rfl) rfl rfl ?_
        exact h _ false hk' ⟨fun e => (by cases e), fun hr => by have := hr.1; omega⟩

theorem styleR_spec (s : ByteArray) (hs : s.size ≤ 9000000) (H : AH) (Q : Value → AH → Prop) (h : ∀ b, (b = true ↔ StyleP s) → Q (.bool b) H) : FWp Tryz.prog prims 24 [.string s] H Q := by
  refine FWp.enter (rfl) Tryz.func24 rfl (e := [.string s, undef, undef, undef, undef, undef, undef, undef, undef, undef, undef, undef, undef, undef, undef, undef, undef, undef, undef, undef, undef, undef, undef, undef, undef, undef, undef, undef]) rfl ?_
  refine CWp.seq ?_
  refine CWp.region ?_
  refine OWp.assign rfl rfl ?_
  refine OWp.nil ?_
  refine CWp.seq ?_
  refine CWp.seq ?_
  refine CWp.region ?_
  refine OWp.assign rfl rfl ?_
  refine OWp.nil ?_
  refine CWp.block ?_
  refine CWp.loop (fun k e H' => ∃ (j : Nat) (g : Nat → Value), e = [.string s, g 1, g 2, .int .i64 (j : Nat), g 4, g 5, g 6, g 7, g 8, g 9, g 10, g 11, g 12, g 13, g 14, g 15, g 16, g 17, g 18, g 19, g 20, g 21, g 22, g 23, g 24, g 25, g 26, g 27] ∧ k = s.size - j ∧ H' = H ∧ j ≤ s.size ∧ ∀ a : Nat, a < j → 33 ≤ byteAt s (a : Nat) ∧ byteAt s (a : Nat) ≤ 126) ?_ ?_
  · exact ⟨_, 0, ex_env rfl ⟨rfl, rfl, by omega, fun a h => by omega⟩⟩
  · rintro k e H' ⟨j, g, rfl, rfl, rfl, hj, ha⟩
    refine CWp.seq ?_
    refine CWp.seq ?_
    refine CWp.region ?_
    refine OWp.move rfl rfl ?_
    refine OWp.move rfl rfl ?_
    refine OWp.lenS rfl rfl rfl rfl rfl Tryz.underlying9 rfl ?_
    refine OWp.binI rfl rfl rfl rfl rfl ?_
    refine OWp.nil ?_
    first | refine CWp.condP rfl (fun h1 => ?_) (fun h1 => ?_) | refine CWp.cond rfl (fun h1 => ?_) (fun h1 => ?_)
    · skip
      first | rw [decide_eq_true h1] | rw [decide_eq_false h1] | rw [h1] | skip
      refine CWp.skip ?_
      refine CWp.seq ?_
      refine CWp.block ?_
      refine CWp.seq ?_
      refine CWp.region ?_
      refine OWp.move rfl rfl ?_
      refine OWp.move rfl rfl ?_
      refine OWp.indexS rfl rfl Tryz.underlying9 rfl rfl (by omega) (by omega) ?_
      refine OWp.binI rfl rfl rfl rfl rfl ?_
      refine OWp.move rfl rfl ?_
      first | refine OWp.byF rfl (fun hg2 => ?_) (fun hg2 => ?_) | refine OWp.byBF rfl (fun hg2 => ?_) (fun hg2 => ?_)
      · skip
        first | rw [decide_eq_true hg2] | rw [decide_eq_false hg2] | rw [hg2] | skip
        try simp only [Decidable.not_not] at hg2
        refine OWp.move rfl rfl ?_
        refine OWp.move rfl rfl ?_
        refine OWp.indexS rfl rfl Tryz.underlying9 rfl rfl (by omega) (by omega) ?_
        refine OWp.binI rfl rfl rfl rfl rfl ?_
        refine OWp.pickF rfl rfl rfl ?_
        refine OWp.nil ?_
        first | refine CWp.condP rfl (fun h3 => ?_) (fun h3 => ?_) | refine CWp.cond rfl (fun h3 => ?_) (fun h3 => ?_)
        · skip
          first | rw [decide_eq_true h3] | rw [decide_eq_false h3] | rw [h3] | skip
          refine CWp.seq ?_
          refine CWp.region ?_
          refine OWp.assign rfl rfl ?_
          refine OWp.nil ?_
          refine CWp.ret ?_
          refine RetQ.one (by first | exact .inl rfl | exact .inr rfl) rfl rfl ?_
          exact h false   ⟨fun e => (by cases e), fun hr => (by have := hr.2.2 j (by omega); omega)⟩
        · skip
          first | rw [decide_eq_true h3] | rw [decide_eq_false h3] | rw [h3] | skip
          refine CWp.skip ?_
          refine CWp.region ?_
          refine OWp.move rfl rfl ?_
          refine OWp.addI rfl rfl rfl rfl (by omega) ?_
          refine OWp.assign rfl rfl ?_
          refine OWp.nil ?_
          exact ⟨_, by omega, j + 1, ex_env rfl ⟨rfl, rfl, by omega, fun a h1 => by by_cases e : a = j; exact e ▸ ⟨by omega, by omega⟩; exact ha a (by omega)⟩⟩
      · skip
        first | rw [decide_eq_true hg2] | rw [decide_eq_false hg2] | rw [hg2] | skip
        try simp only [Decidable.not_not] at hg2
        refine OWp.leave rfl ?_
        refine OWp.leave rfl ?_
        refine OWp.leave rfl ?_
        refine OWp.leave rfl ?_
        refine OWp.pickT rfl rfl rfl ?_
        refine OWp.nil ?_
        refine CWp.condT rfl ?_
        refine CWp.seq ?_
        refine CWp.region ?_
        refine OWp.assign rfl rfl ?_
        refine OWp.nil ?_
        refine CWp.ret ?_
        refine RetQ.one (by first | exact .inl rfl | exact .inr rfl) rfl rfl ?_
        exact h false   ⟨fun e => (by cases e), fun hr => (by have := hr.2.2 j (by omega); omega)⟩
    · skip
      first | rw [decide_eq_true h1] | rw [decide_eq_false h1] | rw [h1] | skip
      refine CWp.exit ?_
      refine CWp.seq ?_
      refine CWp.region ?_
      refine OWp.move rfl rfl ?_
      refine OWp.lenS rfl rfl rfl rfl rfl Tryz.underlying9 rfl ?_
      refine OWp.binI rfl rfl rfl rfl rfl ?_
      refine OWp.move rfl rfl ?_
      first | refine OWp.byT rfl (fun hg2 => ?_) (fun hg2 => ?_) | refine OWp.byBT rfl (fun hg2 => ?_) (fun hg2 => ?_)
      · skip
        first | rw [decide_eq_true hg2] | rw [decide_eq_false hg2] | rw [hg2] | skip
        try simp only [Decidable.not_not] at hg2
        refine OWp.move rfl rfl ?_
        refine OWp.lenS rfl rfl rfl rfl rfl Tryz.underlying9 rfl ?_
        refine OWp.binI rfl rfl rfl rfl rfl ?_
        refine OWp.pickT rfl rfl rfl ?_
        refine OWp.assign rfl rfl ?_
        refine OWp.nil ?_
        refine CWp.ret ?_
        refine RetQ.one (by first | exact .inl rfl | exact .inr rfl) rfl rfl ?_
        exact h _  ⟨fun e => ⟨by omega, by have := of_decide_eq_true e; omega, fun a h9 => ha a (by omega)⟩, fun hr => decide_eq_true (by have := hr.2.1; omega)⟩
      · skip
        first | rw [decide_eq_true hg2] | rw [decide_eq_false hg2] | rw [hg2] | skip
        try simp only [Decidable.not_not] at hg2
        refine OWp.leave rfl ?_
        refine OWp.leave rfl ?_
        refine OWp.leave rfl ?_
        refine OWp.pickF rfl rfl rfl ?_
        refine OWp.assign rfl rfl ?_
        refine OWp.nil ?_
        refine CWp.ret ?_
        refine RetQ.one (by first | exact .inl rfl | exact .inr rfl) rfl rfl ?_
        exact h false  ⟨fun e => (by cases e), fun hr => by have := hr.1; omega⟩

theorem textV_spec (a : AnyV) (H : AH) (Q : Value → AH → Prop) (h : Q (.tuple #[.string a.text, .bool a.isS]) H) : FWp Tryz.prog prims 18 [a.v] H Q := by
  refine FWp.enter (rfl) Tryz.func18 rfl (e := [a.v, undef, undef, undef, undef, undef, undef, undef, undef, undef, undef, undef, undef]) rfl ?_
  refine CWp.seq ?_
  refine CWp.region ?_
  refine OWp.assign rfl rfl ?_
  refine OWp.assign rfl rfl ?_
  refine OWp.nil ?_
  refine CWp.seq ?_
  refine CWp.region ?_
  refine OWp.move rfl rfl ?_
  refine OWp.assertS a rfl rfl rfl ?_
  refine OWp.move rfl rfl ?_
  refine OWp.extract rfl rfl rfl rfl ?_
  refine OWp.extract rfl rfl rfl rfl ?_
  refine OWp.assign rfl rfl ?_
  refine OWp.assign rfl rfl ?_
  refine OWp.nil ?_
  refine CWp.seq ?_
  refine CWp.region ?_
  refine OWp.move rfl rfl ?_
  refine OWp.move rfl rfl ?_
  refine OWp.assign rfl rfl ?_
  refine OWp.assign rfl rfl ?_
  refine OWp.nil ?_
  refine CWp.ret ?_
  refine RetQ.two (by first | exact .inl rfl | exact .inr rfl) rfl rfl rfl rfl rfl ?_
  exact h

theorem must_spec (a : AnyV) (ha : a.isS = true) (H : AH) (Q : Value → AH → Prop) (h : Q (.string a.text) H) : FWp Tryz.prog prims 19 [a.v] H Q := by
  refine FWp.enter (rfl) Tryz.func19 rfl (e := [a.v, undef, undef, undef, undef]) rfl ?_
  refine CWp.seq ?_
  refine CWp.region ?_
  refine OWp.assign rfl rfl ?_
  refine OWp.nil ?_
  refine CWp.seq ?_
  refine CWp.region ?_
  refine OWp.move rfl rfl ?_
  refine OWp.assertM a ha rfl rfl rfl ?_
  refine OWp.assign rfl rfl ?_
  refine OWp.nil ?_
  refine CWp.ret ?_
  refine RetQ.one (by first | exact .inl rfl | exact .inr rfl) rfl rfl ?_
  exact h

theorem flag_spec (a : AnyV) (H : AH) (Q : Value → AH → Prop) (h : ∀ b : Bool, b = a.isT → Q (.bool b) H) : FWp Tryz.prog prims 50 [a.v] H Q := by
  refine FWp.enter (rfl) Tryz.func50 rfl (e := [a.v, undef, undef, undef, undef, undef, undef, undef, undef, undef, undef, undef, undef, undef]) rfl ?_
  refine CWp.seq ?_
  refine CWp.region ?_
  refine OWp.assign rfl rfl ?_
  refine OWp.nil ?_
  refine CWp.seq ?_
  refine CWp.region ?_
  refine OWp.move rfl rfl ?_
  refine OWp.assertB a rfl rfl rfl ?_
  refine OWp.move rfl rfl ?_
  refine OWp.extract rfl rfl rfl rfl ?_
  refine OWp.extract rfl rfl rfl rfl ?_
  refine OWp.assign rfl rfl ?_
  refine OWp.assign rfl rfl ?_
  refine OWp.nil ?_
  refine CWp.seq ?_
  refine CWp.region ?_
  refine OWp.move rfl rfl ?_
  refine OWp.move rfl rfl ?_
  first | refine OWp.byT rfl (fun hg0 => ?_) (fun hg0 => ?_) | refine OWp.byBT rfl (fun hg0 => ?_) (fun hg0 => ?_)
  · skip
    first | rw [decide_eq_true hg0] | rw [decide_eq_false hg0] | rw [hg0] | skip
    try simp only [Decidable.not_not] at hg0
    refine OWp.move rfl rfl ?_
    refine OWp.pickT rfl rfl rfl ?_
    refine OWp.assign rfl rfl ?_
    refine OWp.nil ?_
    refine CWp.ret ?_
    refine RetQ.one (by first | exact .inl rfl | exact .inr rfl) rfl rfl ?_
    exact h _ (by simp_all)
  · skip
    first | rw [decide_eq_true hg0] | rw [decide_eq_false hg0] | rw [hg0] | skip
    try simp only [Decidable.not_not] at hg0
    refine OWp.leave rfl ?_
    refine OWp.pickF rfl rfl rfl ?_
    refine OWp.assign rfl rfl ?_
    refine OWp.nil ?_
    refine CWp.ret ?_
    refine RetQ.one (by first | exact .inl rfl | exact .inr rfl) rfl rfl ?_
    exact h _ (by simp_all)

theorem put_spec (a : At) (p : PR) (hp : p.text.size ≤ 9000000) (c b9 : Nat) (H0 : AH) (m9 : PA) (H : AH) (Q : Value → AH → Prop) (h : ∀ H' (a' : At) (b : Bool), Has H0 H' [(b9, m9.O), (c, a'.O)] → (∀ a2, putS a p = some a2 → b = true ∧ a' = a2) → (putS a p = none → b = false) → Q (.bool b) H') (hh : Has H0 H [(b9, m9.O), (c, a.O)]) : FWp Tryz.prog prims 23 [.pointer (some ⟨c, 0, none⟩), (paOf p).v] H Q := by
  refine FWp.enter (rfl) Tryz.func23 rfl (e := [.pointer (some ⟨c, 0, none⟩), (paOf p).v, undef, undef, undef, undef, undef, undef, undef, undef, undef, undef, undef, undef, undef, undef, undef, undef, undef, undef, undef, undef, undef, undef, undef, undef, undef, undef, undef, undef, undef, undef, undef, undef, undef, undef, undef, undef, undef, undef, undef, undef, undef, undef, undef, undef, undef, undef, undef, undef, undef, undef, undef, undef, undef, undef, undef, undef, undef, undef]) rfl ?_
  refine CWp.seq ?_
  refine CWp.region ?_
  refine OWp.boxPA _ hh rfl rfl rfl (fun H3 b3 hh => ?_)
  refine OWp.norm ?_
  refine OWp.assign rfl rfl ?_
  refine OWp.nil ?_
  refine CWp.seq ?_
  refine CWp.seq ?_
  refine CWp.region ?_
  refine OWp.fieldPA 0 (by decide) rfl rfl rfl ?_
  first | refine OWp.loadPA_0 (k := 0) hh rfl rfl rfl rfl ?_ | refine OWp.loadPA_0 (k := 1) hh rfl rfl rfl rfl ?_ | refine OWp.loadPA_0 (k := 2) hh rfl rfl rfl rfl ?_
  refine OWp.call rfl rfl rfl rfl ?_
  refine alone_spec _ _ _ (fun b hb => ?_)
  refine OWp.norm ?_
  refine OWp.nil ?_
  first | refine CWp.condP rfl (fun h0 => ?_) (fun h0 => ?_) | refine CWp.cond rfl (fun h0 => ?_) (fun h0 => ?_)
  · skip
    have hal0 := hb.1 h0
    first | rw [decide_eq_true h0] | rw [decide_eq_false h0] | rw [h0] | skip
    refine CWp.seq ?_
    refine CWp.seq ?_
    refine CWp.region ?_
    refine OWp.fieldPA 0 (by decide) rfl rfl rfl ?_
    first | refine OWp.loadPA_0 (k := 0) hh rfl rfl rfl rfl ?_ | refine OWp.loadPA_0 (k := 1) hh rfl rfl rfl rfl ?_ | refine OWp.loadPA_0 (k := 2) hh rfl rfl rfl rfl ?_
    refine OWp.binS rfl rfl rfl rfl rfl ?_
    refine OWp.nil ?_
    first | refine CWp.condP rfl (fun h1 => ?_) (fun h1 => ?_) | refine CWp.cond rfl (fun h1 => ?_) (fun h1 => ?_)
    · skip
      first | rw [decide_eq_true h1] | rw [decide_eq_false h1] | rw [h1] | skip
      refine CWp.region ?_
      refine OWp.move rfl rfl ?_
      refine OWp.nilCheck rfl rfl rfl ?_
      refine OWp.fieldAt 4 (by decide) rfl rfl rfl ?_
      first | refine OWp.storeAt_4 (k := 0) hh rfl rfl rfl rfl rfl (fun H4 hh => ?_) | refine OWp.storeAt_4 (k := 1) hh rfl rfl rfl rfl rfl (fun H4 hh => ?_) | refine OWp.storeAt_4 (k := 2) hh rfl rfl rfl rfl rfl (fun H4 hh => ?_)
      simp only [List.set_cons_zero, List.set_cons_succ] at hh
      refine OWp.norm ?_
      refine OWp.nil ?_
      refine CWp.seq ?_
      refine CWp.region ?_
      refine OWp.fieldPA 1 (by decide) rfl rfl rfl ?_
      first | refine OWp.loadPA_1 (k := 0) hh rfl rfl rfl rfl ?_ | refine OWp.loadPA_1 (k := 1) hh rfl rfl rfl rfl ?_ | refine OWp.loadPA_1 (k := 2) hh rfl rfl rfl rfl ?_
      refine OWp.call rfl rfl rfl rfl ?_
      refine flag_spec _ _ _ (fun bf hbf => ?_)
      rw [paOf_isT] at hbf
      refine OWp.norm ?_
      refine OWp.assign rfl rfl ?_
      refine OWp.nil ?_
      refine CWp.ret ?_
      refine RetQ.one (by first | exact .inl rfl | exact .inr rfl) rfl rfl ?_
      refine h _ _ _ hh.drop (fun a2 e => ?_) (fun e => ?_)
      · rw [put_app h1] at e
        split at e
        · rename_i hc; cases e; exact ⟨hbf.trans hc, by first | rfl | rw [htx]⟩
        · cases e
      · rw [put_app h1] at e
        split at e
        · cases e
        · rename_i hc; exact hbf.trans (by simpa using hc)
    · skip
      first | rw [decide_eq_true h1] | rw [decide_eq_false h1] | rw [h1] | skip
      refine CWp.region ?_
      refine OWp.move rfl rfl ?_
      refine OWp.nilCheck rfl rfl rfl ?_
      refine OWp.fieldAt 5 (by decide) rfl rfl rfl ?_
      first | refine OWp.storeAt_5 (k := 0) hh rfl rfl rfl rfl rfl (fun H4 hh => ?_) | refine OWp.storeAt_5 (k := 1) hh rfl rfl rfl rfl rfl (fun H4 hh => ?_) | refine OWp.storeAt_5 (k := 2) hh rfl rfl rfl rfl rfl (fun H4 hh => ?_)
      simp only [List.set_cons_zero, List.set_cons_succ] at hh
      refine OWp.norm ?_
      refine OWp.nil ?_
      refine CWp.seq ?_
      refine CWp.region ?_
      refine OWp.fieldPA 1 (by decide) rfl rfl rfl ?_
      first | refine OWp.loadPA_1 (k := 0) hh rfl rfl rfl rfl ?_ | refine OWp.loadPA_1 (k := 1) hh rfl rfl rfl rfl ?_ | refine OWp.loadPA_1 (k := 2) hh rfl rfl rfl rfl ?_
      refine OWp.call rfl rfl rfl rfl ?_
      refine flag_spec _ _ _ (fun bf hbf => ?_)
      rw [paOf_isT] at hbf
      refine OWp.norm ?_
      refine OWp.assign rfl rfl ?_
      refine OWp.nil ?_
      refine CWp.ret ?_
      refine RetQ.one (by first | exact .inl rfl | exact .inr rfl) rfl rfl ?_
      refine h _ _ _ hh.drop (fun a2 e => ?_) (fun e => ?_)
      · rw [put_nol h1 (hal0.resolve_left h1)] at e
        split at e
        · rename_i hc; cases e; exact ⟨hbf.trans hc, by first | rfl | rw [htx]⟩
        · cases e
      · rw [put_nol h1 (hal0.resolve_left h1)] at e
        split at e
        · cases e
        · rename_i hc; exact hbf.trans (by simpa using hc)
  · skip
    have hal0 : ¬ aloneP p.key := fun e => by have := hb.2 e; simp_all
    first | rw [decide_eq_true h0] | rw [decide_eq_false h0] | rw [h0] | skip
    refine CWp.skip ?_
    refine CWp.seq ?_
    refine CWp.seq ?_
    refine CWp.region ?_
    refine OWp.fieldPA 1 (by decide) rfl rfl rfl ?_
    first | refine OWp.loadPA_1 (k := 0) hh rfl rfl rfl rfl ?_ | refine OWp.loadPA_1 (k := 1) hh rfl rfl rfl rfl ?_ | refine OWp.loadPA_1 (k := 2) hh rfl rfl rfl rfl ?_
    refine OWp.call rfl rfl rfl rfl ?_
    refine textV_spec _ _ _ ?_
    rw [paOf_isS]
    obtain ⟨ba, hba⟩ : ∃ ba, ba = p.alone := ⟨_, rfl⟩
    rw [← hba]
    refine OWp.norm ?_
    refine OWp.move rfl rfl ?_
    refine OWp.extract rfl rfl rfl rfl ?_
    refine OWp.extract rfl rfl rfl rfl ?_
    refine OWp.assign rfl rfl ?_
    refine OWp.assign rfl rfl ?_
    refine OWp.nil ?_
    refine CWp.seq ?_
    refine CWp.region ?_
    refine OWp.move rfl rfl ?_
    first | refine OWp.notD rfl rfl rfl ?_ | refine OWp.notB rfl rfl rfl ?_
    refine OWp.nil ?_
    first | refine CWp.condP rfl (fun h1 => ?_) (fun h1 => ?_) | refine CWp.cond rfl (fun h1 => ?_) (fun h1 => ?_)
    · skip
      first | rw [decide_eq_true h1] | rw [decide_eq_false h1] | rw [h1] | skip
      refine CWp.seq ?_
      refine CWp.region ?_
      refine OWp.assign rfl rfl ?_
      refine OWp.nil ?_
      refine CWp.ret ?_
      refine RetQ.one (by first | exact .inl rfl | exact .inr rfl) rfl rfl ?_
      exact h _ a _ hh.drop (fun a2 e => by rw [put_alone hal0 (by rw [← hba]; simp_all)] at e; cases e) (fun _ => rfl)
    · skip
      first | rw [decide_eq_true h1] | rw [decide_eq_false h1] | rw [h1] | skip
      refine CWp.skip ?_
      refine CWp.seq ?_
      refine CWp.region ?_
      refine OWp.fieldPA 1 (by decide) rfl rfl rfl ?_
      first | refine OWp.loadPA_1 (k := 0) hh rfl rfl rfl rfl ?_ | refine OWp.loadPA_1 (k := 1) hh rfl rfl rfl rfl ?_ | refine OWp.loadPA_1 (k := 2) hh rfl rfl rfl rfl ?_
      refine OWp.call rfl rfl rfl rfl ?_
      refine must_spec _ (by rw [paOf_isS, ← hba]; simp_all) _ _ ?_
      have hal : p.alone = false := by rw [← hba]; simp_all
      rw [paOf_text p hal]
      obtain ⟨tx, htx⟩ : ∃ tx, tx = p.text := ⟨_, rfl⟩
      rw [← htx]
      have hpz : tx.size ≤ 9000000 := by rw [htx]; exact hp
      refine OWp.norm ?_
      refine OWp.assign rfl rfl ?_
      refine OWp.nil ?_
      refine CWp.seq ?_
      refine CWp.seq ?_
      refine CWp.region ?_
      refine OWp.fieldPA 0 (by decide) rfl rfl rfl ?_
      first | refine OWp.loadPA_0 (k := 0) hh rfl rfl rfl rfl ?_ | refine OWp.loadPA_0 (k := 1) hh rfl rfl rfl rfl ?_ | refine OWp.loadPA_0 (k := 2) hh rfl rfl rfl rfl ?_
      refine OWp.nil ?_
      refine CWp.block ?_
      refine CWp.seq ?_
      refine CWp.region ?_
      refine OWp.binS rfl rfl rfl rfl rfl ?_
      refine OWp.assign rfl rfl ?_
      refine OWp.nil ?_
      first | refine CWp.condP rfl (fun h2 => ?_) (fun h2 => ?_) | refine CWp.cond rfl (fun h2 => ?_) (fun h2 => ?_)
      · skip
        first | rw [decide_eq_true h2] | rw [decide_eq_false h2] | rw [h2] | skip
        refine CWp.seq ?_
        refine CWp.region ?_
        refine OWp.move rfl rfl ?_
        refine OWp.move rfl rfl ?_
        refine OWp.nilCheck rfl rfl rfl ?_
        refine OWp.fieldAt 1 (by decide) rfl rfl rfl ?_
        first | refine OWp.storeAt_1 (k := 0) hh rfl rfl rfl rfl rfl (fun H4 hh => ?_) | refine OWp.storeAt_1 (k := 1) hh rfl rfl rfl rfl rfl (fun H4 hh => ?_) | refine OWp.storeAt_1 (k := 2) hh rfl rfl rfl rfl rfl (fun H4 hh => ?_)
        simp only [List.set_cons_zero, List.set_cons_succ] at hh
        refine OWp.norm ?_
        refine OWp.nil ?_
        refine CWp.seq ?_
        refine CWp.region ?_
        refine OWp.move rfl rfl ?_
        refine OWp.call rfl rfl rfl rfl ?_
        refine nameA_spec _ hpz _ _ ?_ hh.wf
        intro H9 bn hkn hbn
        replace hh := hh.after hkn
        refine OWp.norm ?_
        refine OWp.assign rfl rfl ?_
        refine OWp.nil ?_
        refine CWp.ret ?_
        refine RetQ.one (by first | exact .inl rfl | exact .inr rfl) rfl rfl ?_
        refine h _ _ _ hh.drop (fun a2 e => ?_) (fun e => ?_)
        · rw [put_nam hal0 hal h2] at e
          split at e
          · rename_i hc; cases e; exact ⟨hbn.2 (htx ▸ hc), by first | rfl | rw [htx]⟩
          · cases e
        · rw [put_nam hal0 hal h2] at e
          split at e
          · cases e
          · rename_i hc; exact Bool.eq_false_iff.2 fun hh9 => hc (htx ▸ hbn.1 hh9)
      · skip
        first | rw [decide_eq_true h2] | rw [decide_eq_false h2] | rw [h2] | skip
        refine CWp.seq ?_
        refine CWp.region ?_
        refine OWp.binS rfl rfl rfl rfl rfl ?_
        refine OWp.assign rfl rfl ?_
        refine OWp.nil ?_
        first | refine CWp.condP rfl (fun h3 => ?_) (fun h3 => ?_) | refine CWp.cond rfl (fun h3 => ?_) (fun h3 => ?_)
        · skip
          first | rw [decide_eq_true h3] | rw [decide_eq_false h3] | rw [h3] | skip
          refine CWp.seq ?_
          refine CWp.region ?_
          refine OWp.move rfl rfl ?_
          refine OWp.move rfl rfl ?_
          refine OWp.nilCheck rfl rfl rfl ?_
          refine OWp.fieldAt 2 (by decide) rfl rfl rfl ?_
          first | refine OWp.storeAt_2 (k := 0) hh rfl rfl rfl rfl rfl (fun H4 hh => ?_) | refine OWp.storeAt_2 (k := 1) hh rfl rfl rfl rfl rfl (fun H4 hh => ?_) | refine OWp.storeAt_2 (k := 2) hh rfl rfl rfl rfl rfl (fun H4 hh => ?_)
          simp only [List.set_cons_zero, List.set_cons_succ] at hh
          refine OWp.norm ?_
          refine OWp.nil ?_
          refine CWp.seq ?_
          refine CWp.region ?_
          refine OWp.move rfl rfl ?_
          refine OWp.call rfl rfl rfl rfl ?_
          refine nameA_spec _ hpz _ _ ?_ hh.wf
          intro H9 bn hkn hbn
          replace hh := hh.after hkn
          refine OWp.norm ?_
          refine OWp.assign rfl rfl ?_
          refine OWp.nil ?_
          refine CWp.ret ?_
          refine RetQ.one (by first | exact .inl rfl | exact .inr rfl) rfl rfl ?_
          refine h _ _ _ hh.drop (fun a2 e => ?_) (fun e => ?_)
          · rw [put_fil hal0 hal h2 h3] at e
            split at e
            · rename_i hc; cases e; exact ⟨hbn.2 (htx ▸ hc), by first | rfl | rw [htx]⟩
            · cases e
          · rw [put_fil hal0 hal h2 h3] at e
            split at e
            · cases e
            · rename_i hc; exact Bool.eq_false_iff.2 fun hh9 => hc (htx ▸ hbn.1 hh9)
        · skip
          first | rw [decide_eq_true h3] | rw [decide_eq_false h3] | rw [h3] | skip
          refine CWp.seq ?_
          refine CWp.region ?_
          refine OWp.binS rfl rfl rfl rfl rfl ?_
          refine OWp.assign rfl rfl ?_
          refine OWp.nil ?_
          first | refine CWp.condP rfl (fun h4 => ?_) (fun h4 => ?_) | refine CWp.cond rfl (fun h4 => ?_) (fun h4 => ?_)
          · skip
            first | rw [decide_eq_true h4] | rw [decide_eq_false h4] | rw [h4] | skip
            refine CWp.seq ?_
            refine CWp.region ?_
            refine OWp.move rfl rfl ?_
            refine OWp.move rfl rfl ?_
            refine OWp.nilCheck rfl rfl rfl ?_
            refine OWp.fieldAt 3 (by decide) rfl rfl rfl ?_
            first | refine OWp.storeAt_3 (k := 0) hh rfl rfl rfl rfl rfl (fun H4 hh => ?_) | refine OWp.storeAt_3 (k := 1) hh rfl rfl rfl rfl rfl (fun H4 hh => ?_) | refine OWp.storeAt_3 (k := 2) hh rfl rfl rfl rfl rfl (fun H4 hh => ?_)
            simp only [List.set_cons_zero, List.set_cons_succ] at hh
            refine OWp.norm ?_
            refine OWp.nil ?_
            refine CWp.seq ?_
            refine CWp.region ?_
            refine OWp.move rfl rfl ?_
            refine OWp.call rfl rfl rfl rfl ?_
            refine styled_spec _ hpz _ _ ?_ hh.wf
            intro H9 bn hkn hbn
            replace hh := hh.after hkn
            refine OWp.norm ?_
            refine OWp.assign rfl rfl ?_
            refine OWp.nil ?_
            refine CWp.ret ?_
            refine RetQ.one (by first | exact .inl rfl | exact .inr rfl) rfl rfl ?_
            refine h _ _ _ hh.drop (fun a2 e => ?_) (fun e => ?_)
            · rw [put_com hal0 hal h2 h3 h4] at e
              split at e
              · rename_i hc; cases e; exact ⟨hbn.2 (htx ▸ hc), by first | rfl | rw [htx]⟩
              · cases e
            · rw [put_com hal0 hal h2 h3 h4] at e
              split at e
              · cases e
              · rename_i hc; exact Bool.eq_false_iff.2 fun hh9 => hc (htx ▸ hbn.1 hh9)
          · skip
            first | rw [decide_eq_true h4] | rw [decide_eq_false h4] | rw [h4] | skip
            refine CWp.skip ?_
            refine CWp.seq ?_
            refine CWp.region ?_
            refine OWp.assign rfl rfl ?_
            refine OWp.nil ?_
            refine CWp.ret ?_
            refine RetQ.one (by first | exact .inl rfl | exact .inr rfl) rfl rfl ?_
            exact h _ a _ hh.drop (fun a2 e => by rw [put_oth hal0 hal h2 h3 h4] at e; cases e) (fun _ => rfl)

theorem read_spec (s : ByteArray) (hs : s.size ≤ 9000000) (H : AH) (Q : Value → AH → Prop) (h : ∀ H' (a : At) (ok : Bool), Keeps H H' → (∀ a2, readS s = some a2 → ok = true ∧ a = a2) → (readS s = none → ok = false ∧ a = zeroAt) → Q (.tuple #[a.v, .bool ok]) H') (hw : WfH H) : FWp Tryz.prog prims 12 [.string s] H Q := by
  have hh := Has.start hw
  refine FWp.enter (rfl) Tryz.func12 rfl (e := [.string s, undef, undef, undef, undef, undef, undef, undef, undef, undef, undef, undef, undef, undef, undef, undef, undef, undef, undef, undef, undef, undef, undef, undef, undef, undef, undef, undef, undef, undef, undef, undef, undef, undef, undef, undef, undef, undef, undef, undef, undef, undef, undef, undef]) rfl ?_
  refine CWp.seq ?_
  refine CWp.region ?_
  refine OWp.allocAt hh rfl rfl (fun H2 b2 hh => ?_)
  refine OWp.norm ?_
  refine OWp.assign rfl rfl ?_
  refine OWp.nil ?_
  refine CWp.seq ?_
  refine CWp.region ?_
  refine OWp.move rfl rfl ?_
  refine OWp.call rfl rfl rfl rfl ?_
  refine pairs_spec s hs _ _ ?_ hh.wf
  intro H1 lang w ms ok hk1 hp1 hp2 hsl
  replace hh := hh.after hk1
  obtain ⟨p, rfl, hrow⟩ := hsl
  have hhA := hh
  replace hh := Has.start hhA.wf
  obtain ⟨l, hms, hbd, hll, hR1, hR2⟩ := pairs_l hp1 hp2
  have hlen : ms.length = l.length := by rw [hms]; simp
  refine OWp.norm ?_
  refine OWp.move rfl rfl ?_
  refine OWp.extract rfl rfl rfl rfl ?_
  refine OWp.extract rfl rfl rfl rfl ?_
  refine OWp.extract rfl rfl rfl rfl ?_
  refine OWp.assign rfl rfl ?_
  refine OWp.assign rfl rfl ?_
  refine OWp.assign rfl rfl ?_
  refine OWp.nil ?_
  refine CWp.seq ?_
  refine CWp.region ?_
  refine OWp.move rfl rfl ?_
  refine OWp.buildAt (lang0 lang) rfl rfl rfl (by kernel_rfl) ?_
  refine OWp.allocAt hh rfl rfl (fun H7 b7 hh => ?_)
  refine OWp.norm ?_
  first | refine OWp.storeAt (k := 0) hh rfl rfl rfl rfl rfl (fun H4 hh => ?_) | refine OWp.storeAt (k := 1) hh rfl rfl rfl rfl rfl (fun H4 hh => ?_)
  simp only [List.set_cons_zero, List.set_cons_succ] at hh
  refine OWp.norm ?_
  refine OWp.nil ?_
  refine CWp.seq ?_
  refine CWp.seq ?_
  refine CWp.region ?_
  refine OWp.move rfl rfl ?_
  refine OWp.lenSl rfl rfl rfl rfl rfl Tryz.underlying35 rfl ?_
  refine OWp.move rfl rfl ?_
  refine OWp.nil ?_
  refine CWp.block ?_
  refine CWp.loop (fun k e H' => ∃ (a : At) (ok2 : Bool) (j : Nat) (g : Nat → Value), e = [.string s, g 1, .pointer (some ⟨b2, 0, none⟩), g 3, g 4, g 5, .bool ok2, .pointer (some ⟨b7, 0, none⟩), g 8, g 9, g 10, g 11, g 12, g 13, g 14, g 15, g 16, g 17, .slice p ms.length ms.length, .int .i64 (ms.length : Nat), .int .i64 (j : Nat), g 21, g 22, g 23, g 24, g 25, g 26, g 27, g 28, g 29, g 30, g 31, g 32, g 33, g 34, g 35, g 36, g 37, g 38, g 39, g 40, g 41, g 42, g 43] ∧ k = ms.length - j ∧ Has H1 H' [(b7, a.O)] ∧ j ≤ ms.length ∧ (ok2 = true → readR s = readL a (l.drop j)) ∧ (ok2 = false → readR s = none)) ?_ ?_
  · exact ⟨_, lang0 lang, ok, 0, ex_env rfl ⟨rfl, hh, by omega, hR1, hR2⟩⟩
  · rintro k e H' ⟨a, ok2, j, g, rfl, rfl, hh, hj, hr1, hr2⟩
    refine CWp.seq ?_
    refine CWp.region ?_
    refine OWp.binI rfl rfl rfl rfl rfl ?_
    refine OWp.nil ?_
    refine CWp.seq ?_
    first | refine CWp.condP rfl (fun h1 => ?_) (fun h1 => ?_) | refine CWp.cond rfl (fun h1 => ?_) (fun h1 => ?_)
    · skip
      obtain ⟨p0, hp0⟩ : ∃ p0, l[j]? = some p0 := ⟨_, List.getElem?_eq_getElem (show j < l.length by omega)⟩
      have hqm : ms[j]? = some (paOf p0) := by rw [hms, List.getElem?_map, hp0]; rfl
      obtain ⟨pa, rfl⟩ := row_some hrow (by omega)
      first | rw [decide_eq_true h1] | rw [decide_eq_false h1] | rw [h1] | skip
      refine CWp.skip ?_
      refine CWp.seq ?_
      refine CWp.block ?_
      refine CWp.seq ?_
      refine CWp.region ?_
      refine OWp.indexAddrK rfl rfl Tryz.underlying35 szPA (by decide) rfl rfl (by omega) (by omega) ?_
      refine OWp.loadRowS (f := fun m : PA => m.cells.toList) (ms := ms) (m := paOf p0) (v := (paOf p0).v) (fun _ => rfl) rfl rfl Tryz.underlying44 rfl (hrow.sees (hh.keep.sees hhA.wf)) szPA hqm (by simp [PA.v]) ?_
      refine OWp.allocPA hh rfl rfl (fun H9 b9 hh => ?_)
      refine OWp.norm ?_
      first | refine OWp.storePA (k := 0) hh rfl rfl rfl rfl rfl (fun H4 hh => ?_) | refine OWp.storePA (k := 1) hh rfl rfl rfl rfl rfl (fun H4 hh => ?_)
      simp only [List.set_cons_zero, List.set_cons_succ] at hh
      refine OWp.norm ?_
      refine OWp.nil ?_
      refine CWp.region ?_
      refine OWp.move rfl rfl ?_
      refine OWp.move rfl rfl ?_
      first | refine OWp.byT rfl (fun hg2 => ?_) (fun hg2 => ?_) | refine OWp.byBT rfl (fun hg2 => ?_) (fun hg2 => ?_)
      · skip
        have hg3 := hg2
        first | rw [hg2] | skip
        first | refine OWp.loadPA (k := 0) hh rfl rfl rfl rfl ?_ | refine OWp.loadPA (k := 1) hh rfl rfl rfl rfl ?_
        refine OWp.call rfl rfl rfl rfl ?_
        refine put_spec a p0 (by have := (hbd p0 (List.mem_of_getElem? hp0)).2.1; omega) b7 b9 H1 _ _ _ ?_ hh
        intro H8 a2 bp hh8 hq1 hq2
        replace hh := hh8
        have hst := put_step (hr1 hg3) hp0 hq1 hq2
        refine OWp.norm ?_
        refine OWp.pickT rfl rfl rfl ?_
        refine OWp.assign rfl rfl ?_
        refine OWp.nil ?_
        refine CWp.region ?_
        refine OWp.addI rfl rfl rfl rfl (by omega) ?_
        refine OWp.move rfl rfl ?_
        refine OWp.nil ?_
        exact ⟨_, by omega, a2, bp, j + 1, ex_env rfl ⟨rfl, hh.drop, by omega, hst.1, hst.2⟩⟩
      · skip
        first | rw [decide_eq_true hg2] | rw [decide_eq_false hg2] | rw [hg2] | skip
        try simp only [Decidable.not_not] at hg2
        refine OWp.leave rfl ?_
        refine OWp.leave rfl ?_
        refine OWp.pickF rfl rfl rfl ?_
        refine OWp.assign rfl rfl ?_
        refine OWp.nil ?_
        refine CWp.region ?_
        refine OWp.addI rfl rfl rfl rfl (by omega) ?_
        refine OWp.move rfl rfl ?_
        refine OWp.nil ?_
        exact ⟨_, by omega, a, false, j + 1, ex_env rfl ⟨rfl, hh.drop, by omega, fun e => (by cases e), fun _ => hr2 hg2⟩⟩
    · skip
      first | rw [decide_eq_true h1] | rw [decide_eq_false h1] | rw [h1] | skip
      refine CWp.exit ?_
      refine CWp.seq ?_
      refine CWp.seq ?_
      refine CWp.region ?_
      refine OWp.move rfl rfl ?_
      first | refine OWp.notD rfl rfl rfl ?_ | refine OWp.notB rfl rfl rfl ?_
      refine OWp.move rfl rfl ?_
      first | refine OWp.byF rfl (fun hg2 => ?_) (fun hg2 => ?_) | refine OWp.byBF rfl (fun hg2 => ?_) (fun hg2 => ?_)
      · skip
        first | rw [decide_eq_true hg2] | rw [decide_eq_false hg2] | rw [hg2] | skip
        try simp only [Decidable.not_not] at hg2
        refine OWp.fieldAt 1 (by decide) rfl rfl rfl ?_
        first | refine OWp.loadAt_1 (k := 0) hh rfl rfl rfl rfl ?_ | refine OWp.loadAt_1 (k := 1) hh rfl rfl rfl rfl ?_
        refine OWp.binS rfl rfl rfl rfl rfl ?_
        refine OWp.move rfl rfl ?_
        first | refine OWp.byT rfl (fun hg3 => ?_) (fun hg3 => ?_) | refine OWp.byBT rfl (fun hg3 => ?_) (fun hg3 => ?_)
        · skip
          first | rw [decide_eq_true hg3] | rw [decide_eq_false hg3] | rw [hg3] | skip
          try simp only [Decidable.not_not] at hg3
          refine OWp.fieldAt 2 (by decide) rfl rfl rfl ?_
          first | refine OWp.loadAt_2 (k := 0) hh rfl rfl rfl rfl ?_ | refine OWp.loadAt_2 (k := 1) hh rfl rfl rfl rfl ?_
          refine OWp.binS rfl rfl rfl rfl rfl ?_
          refine OWp.pickT rfl rfl rfl ?_
          refine OWp.pickF rfl rfl rfl ?_
          refine OWp.nil ?_
          first | refine CWp.condP rfl (fun h4 => ?_) (fun h4 => ?_) | refine CWp.cond rfl (fun h4 => ?_) (fun h4 => ?_)
          · skip
            first | rw [decide_eq_true h4] | rw [decide_eq_false h4] | rw [h4] | skip
            refine CWp.seq ?_
            refine CWp.region ?_
            refine OWp.buildAt (zeroAt) rfl rfl rfl (by kernel_rfl) ?_
            replace hh := hhA.join hh
            simp only [List.cons_append, List.nil_append] at hh
            refine OWp.storeAt (k := 1) hh rfl rfl rfl rfl rfl (fun H9 hh => ?_)
            simp only [List.set_cons_zero, List.set_cons_succ] at hh
            refine OWp.norm ?_
            refine OWp.assign rfl rfl ?_
            refine OWp.nil ?_
            refine CWp.ret ?_
            first | refine RetQ.cellAt2 (k := 0) (by first | exact .inl rfl | exact .inr rfl) rfl rfl hh rfl rfl rfl ?_ | refine RetQ.cellAt2 (k := 1) (by first | exact .inl rfl | exact .inr rfl) rfl rfl hh rfl rfl rfl ?_
            have hR := (hr1 (by simp_all)).trans (readL_end (by omega))
            exact h _ _ _ hh.keep (fun a2 e => by rw [readS_both hR ⟨by assumption, by assumption⟩] at e; cases e) (fun _ => ⟨rfl, rfl⟩)
          · skip
            first | rw [decide_eq_true h4] | rw [decide_eq_false h4] | rw [h4] | skip
            refine CWp.skip ?_
            refine CWp.seq ?_
            refine CWp.region ?_
            first | refine OWp.loadAt (k := 0) hh rfl rfl rfl rfl ?_ | refine OWp.loadAt (k := 1) hh rfl rfl rfl rfl ?_
            replace hh := hhA.join hh
            simp only [List.cons_append, List.nil_append] at hh
            refine OWp.storeAt (k := 1) hh rfl rfl rfl rfl rfl (fun H9 hh => ?_)
            simp only [List.set_cons_zero, List.set_cons_succ] at hh
            refine OWp.norm ?_
            refine OWp.assign rfl rfl ?_
            refine OWp.nil ?_
            refine CWp.ret ?_
            first | refine RetQ.cellAt2 (k := 0) (by first | exact .inl rfl | exact .inr rfl) rfl rfl hh rfl rfl rfl ?_ | refine RetQ.cellAt2 (k := 1) (by first | exact .inl rfl | exact .inr rfl) rfl rfl hh rfl rfl rfl ?_
            have hR := (hr1 (by simp_all)).trans (readL_end (by omega))
            have hS := readS_some hR (fun hb => by simp_all [bothP])
            exact h _ _ _ hh.keep (fun a2 e => by rw [hS] at e; cases e; exact ⟨rfl, rfl⟩) (fun e => by rw [hS] at e; cases e)
        · skip
          first | rw [decide_eq_true hg3] | rw [decide_eq_false hg3] | rw [hg3] | skip
          try simp only [Decidable.not_not] at hg3
          refine OWp.leave rfl ?_
          refine OWp.leave rfl ?_
          refine OWp.leave rfl ?_
          refine OWp.pickF rfl rfl rfl ?_
          refine OWp.pickF rfl rfl rfl ?_
          refine OWp.nil ?_
          refine CWp.condF rfl ?_
          refine CWp.skip ?_
          refine CWp.seq ?_
          refine CWp.region ?_
          first | refine OWp.loadAt (k := 0) hh rfl rfl rfl rfl ?_ | refine OWp.loadAt (k := 1) hh rfl rfl rfl rfl ?_
          replace hh := hhA.join hh
          simp only [List.cons_append, List.nil_append] at hh
          refine OWp.storeAt (k := 1) hh rfl rfl rfl rfl rfl (fun H9 hh => ?_)
          simp only [List.set_cons_zero, List.set_cons_succ] at hh
          refine OWp.norm ?_
          refine OWp.assign rfl rfl ?_
          refine OWp.nil ?_
          refine CWp.ret ?_
          first | refine RetQ.cellAt2 (k := 0) (by first | exact .inl rfl | exact .inr rfl) rfl rfl hh rfl rfl rfl ?_ | refine RetQ.cellAt2 (k := 1) (by first | exact .inl rfl | exact .inr rfl) rfl rfl hh rfl rfl rfl ?_
          have hR := (hr1 (by simp_all)).trans (readL_end (by omega))
          have hS := readS_some hR (fun hb => by simp_all [bothP])
          exact h _ _ _ hh.keep (fun a2 e => by rw [hS] at e; cases e; exact ⟨rfl, rfl⟩) (fun e => by rw [hS] at e; cases e)
      · skip
        first | rw [decide_eq_true hg2] | rw [decide_eq_false hg2] | rw [hg2] | skip
        try simp only [Decidable.not_not] at hg2
        refine OWp.leave rfl ?_
        refine OWp.leave rfl ?_
        refine OWp.leave rfl ?_
        refine OWp.leave rfl ?_
        refine OWp.leave rfl ?_
        refine OWp.leave rfl ?_
        refine OWp.leave rfl ?_
        refine OWp.leave rfl ?_
        refine OWp.pickT rfl rfl rfl ?_
        refine OWp.nil ?_
        refine CWp.condT rfl ?_
        refine CWp.seq ?_
        refine CWp.region ?_
        refine OWp.buildAt (zeroAt) rfl rfl rfl (by kernel_rfl) ?_
        replace hh := hhA.join hh
        simp only [List.cons_append, List.nil_append] at hh
        refine OWp.storeAt (k := 1) hh rfl rfl rfl rfl rfl (fun H9 hh => ?_)
        simp only [List.set_cons_zero, List.set_cons_succ] at hh
        refine OWp.norm ?_
        refine OWp.assign rfl rfl ?_
        refine OWp.nil ?_
        refine CWp.ret ?_
        first | refine RetQ.cellAt2 (k := 0) (by first | exact .inl rfl | exact .inr rfl) rfl rfl hh rfl rfl rfl ?_ | refine RetQ.cellAt2 (k := 1) (by first | exact .inl rfl | exact .inr rfl) rfl rfl hh rfl rfl rfl ?_
        exact h _ _ _ hh.keep (fun a2 e => by rw [readS_none (hr2 (by simp_all))] at e; cases e) (fun _ => ⟨rfl, rfl⟩)

theorem readR_spec (s : ByteArray) (hs : s.size ≤ 9000000) (H : AH) (Q : Value → AH → Prop) (h : ∀ H' (a : At) (ok : Bool), Keeps H H' → (∀ a2, readS s = some a2 → ok = true ∧ a = a2) → (readS s = none → ok = false ∧ a = zeroAt) → Q (.tuple #[a.v, .bool ok]) H') (hw : WfH H) : FWp Tryz.prog prims 13 [.string s] H Q := by
  have hh := Has.start hw
  refine FWp.enter (rfl) Tryz.func13 rfl (e := [.string s, undef, undef, undef, undef, undef, undef, undef, undef, undef, undef, undef, undef, undef, undef, undef, undef, undef, undef, undef, undef, undef, undef, undef, undef, undef, undef, undef, undef, undef, undef, undef, undef, undef, undef, undef, undef, undef, undef, undef, undef, undef, undef, undef, undef, undef, undef, undef, undef, undef, undef, undef, undef, undef, undef, undef, undef, undef, undef, undef, undef, undef, undef, undef, undef, undef, undef, undef, undef, undef, undef, undef, undef, undef, undef, undef, undef, undef, undef, undef, undef, undef, undef, undef, undef, undef, undef, undef, undef, undef, undef, undef, undef, undef, undef, undef, undef, undef, undef, undef, undef, undef, undef, undef, undef, undef, undef, undef, undef]) rfl ?_
  refine CWp.seq ?_
  refine CWp.region ?_
  refine OWp.allocAt hh rfl rfl (fun H2 b2 hh => ?_)
  refine OWp.norm ?_
  refine OWp.assign rfl rfl ?_
  refine OWp.nil ?_
  refine CWp.seq ?_
  refine CWp.region ?_
  refine OWp.move rfl rfl ?_
  refine OWp.call rfl rfl rfl rfl ?_
  refine pairsR_spec s hs _ _ ?_ hh.wf
  intro H1 lang w l ok hk1 hp1 hp2 hsl
  replace hh := hh.after hk1
  obtain ⟨p, rfl, hrow⟩ := hsl
  have hhA := hh
  replace hh := Has.start hhA.wf
  obtain ⟨hbd, hll, hR1, hR2⟩ := pairs_lR hp1 (fun e => ⟨(hp2 e).1, (hp2 e).2.1⟩)
  refine OWp.norm ?_
  refine OWp.move rfl rfl ?_
  refine OWp.extract rfl rfl rfl rfl ?_
  refine OWp.extract rfl rfl rfl rfl ?_
  refine OWp.extract rfl rfl rfl rfl ?_
  refine OWp.assign rfl rfl ?_
  refine OWp.assign rfl rfl ?_
  refine OWp.assign rfl rfl ?_
  refine OWp.nil ?_
  refine CWp.seq ?_
  refine CWp.region ?_
  refine OWp.move rfl rfl ?_
  refine OWp.buildAt (lang0 lang) rfl rfl rfl (by kernel_rfl) ?_
  refine OWp.allocAt hh rfl rfl (fun H7 b7 hh => ?_)
  refine OWp.norm ?_
  first | refine OWp.storeAt (k := 0) hh rfl rfl rfl rfl rfl (fun H4 hh => ?_) | refine OWp.storeAt (k := 1) hh rfl rfl rfl rfl rfl (fun H4 hh => ?_) | refine OWp.storeAt (k := 2) hh rfl rfl rfl rfl rfl (fun H4 hh => ?_)
  simp only [List.set_cons_zero, List.set_cons_succ] at hh
  refine OWp.norm ?_
  refine OWp.nil ?_
  refine CWp.seq ?_
  refine CWp.seq ?_
  refine CWp.region ?_
  refine OWp.move rfl rfl ?_
  refine OWp.lenSl rfl rfl rfl rfl rfl Tryz.underlying38 rfl ?_
  refine OWp.move rfl rfl ?_
  refine OWp.nil ?_
  refine CWp.block ?_
  refine CWp.loop (fun k e H' => ∃ (a : At) (j : Nat) (g : Nat → Value), e = [.string s, g 1, .pointer (some ⟨b2, 0, none⟩), g 3, g 4, g 5, .bool ok, .pointer (some ⟨b7, 0, none⟩), g 8, g 9, g 10, g 11, g 12, g 13, g 14, g 15, g 16, g 17, .slice p l.length l.length, .int .i64 (l.length : Nat), .int .i64 (j : Nat), g 21, g 22, g 23, g 24, g 25, g 26, g 27, g 28, g 29, g 30, g 31, g 32, g 33, g 34, g 35, g 36, g 37, g 38, g 39, g 40, g 41, g 42, g 43, g 44, g 45, g 46, g 47, g 48, g 49, g 50, g 51, g 52, g 53, g 54, g 55, g 56, g 57, g 58, g 59, g 60, g 61, g 62, g 63, g 64, g 65, g 66, g 67, g 68, g 69, g 70, g 71, g 72, g 73, g 74, g 75, g 76, g 77, g 78, g 79, g 80, g 81, g 82, g 83, g 84, g 85, g 86, g 87, g 88, g 89, g 90, g 91, g 92, g 93, g 94, g 95, g 96, g 97, g 98, g 99, g 100, g 101, g 102, g 103, g 104, g 105, g 106, g 107, g 108] ∧ k = l.length - j ∧ Has H1 H' [(b7, a.O)] ∧ j ≤ l.length ∧ (ok = true → readR s = readL a (l.drop j))) ?_ ?_
  · exact ⟨_, lang0 lang, 0, ex_env rfl ⟨rfl, hh, by omega, hR1⟩⟩
  · rintro k e H' ⟨a, j, g, rfl, rfl, hh, hj, hr1⟩
    refine CWp.seq ?_
    refine CWp.region ?_
    refine OWp.binI rfl rfl rfl rfl rfl ?_
    refine OWp.nil ?_
    refine CWp.seq ?_
    first | refine CWp.condP rfl (fun h1 => ?_) (fun h1 => ?_) | refine CWp.cond rfl (fun h1 => ?_) (fun h1 => ?_)
    · skip
      obtain ⟨p0, hp0⟩ : ∃ p0, l[j]? = some p0 := ⟨_, List.getElem?_eq_getElem (show j < l.length by omega)⟩
      obtain ⟨pa, rfl⟩ := row_someR hrow (by omega)
      have hok : ok = true := by
        cases hok : ok with
        | true => rfl
        | false => have := (hR2 hok).2; rw [this] at hp0; cases hp0
      have hR0 := hr1 hok
      have htz : p0.text.size ≤ 9000000 := by have := (hbd p0 (List.mem_of_getElem? hp0)).2.1; omega
      first | rw [decide_eq_true h1] | rw [decide_eq_false h1] | rw [h1] | skip
      refine CWp.skip ?_
      refine CWp.seq ?_
      refine CWp.block ?_
      refine CWp.seq ?_
      refine CWp.region ?_
      refine OWp.indexAddrK rfl rfl Tryz.underlying38 szPR (by decide) rfl rfl (by omega) (by omega) ?_
      refine OWp.loadRowS (f := fun m : PR => m.cells.toList) (ms := l) (m := p0) (v := p0.v) (fun _ => rfl) rfl rfl Tryz.underlying46 rfl (hrow.sees (hh.keep.sees hhA.wf)) szPR hp0 (by simp [PR.v]) ?_
      refine OWp.allocPR hh rfl rfl (fun H9 b9 hh => ?_)
      refine OWp.norm ?_
      first | refine OWp.storePR (k := 0) hh rfl rfl rfl rfl rfl (fun H4 hh => ?_) | refine OWp.storePR (k := 1) hh rfl rfl rfl rfl rfl (fun H4 hh => ?_) | refine OWp.storePR (k := 2) hh rfl rfl rfl rfl rfl (fun H4 hh => ?_)
      simp only [List.set_cons_zero, List.set_cons_succ] at hh
      refine OWp.norm ?_
      refine OWp.nil ?_
      refine CWp.block ?_
      refine CWp.cut (fun e H' => ∃ (c1 : Bool) (g : Nat → Value), e = [.string s, g 1, .pointer (some ⟨b2, 0, none⟩), g 3, g 4, g 5, .bool ok, .pointer (some ⟨b7, 0, none⟩), g 8, .pointer (some ⟨b9, 0, none⟩), g 10, g 11, g 12, g 13, g 14, g 15, g 16, g 17, .slice (some pa) l.length l.length, .int .i64 (l.length : Nat), .int .i64 (j : Nat), g 21, g 22, g 23, g 24, .bool c1, g 26, g 27, g 28, g 29, g 30, g 31, g 32, g 33, g 34, g 35, g 36, g 37, g 38, g 39, g 40, g 41, g 42, g 43, g 44, g 45, g 46, g 47, g 48, g 49, g 50, g 51, g 52, g 53, g 54, g 55, g 56, g 57, g 58, g 59, g 60, g 61, g 62, g 63, g 64, g 65, g 66, g 67, g 68, g 69, g 70, g 71, g 72, g 73, g 74, g 75, g 76, g 77, g 78, g 79, g 80, g 81, g 82, g 83, g 84, g 85, g 86, g 87, g 88, g 89, g 90, g 91, g 92, g 93, g 94, g 95, g 96, g 97, g 98, g 99, g 100, g 101, g 102, g 103, g 104, g 105, g 106, g 107, g 108] ∧ Has H1 H' [(b9, p0.O), (b7, a.O)] ∧ (c1 = true ↔ (p0.key = KNAM ∧ p0.alone = false ∧ NameR p0.text))) ?_ ?_
      · skip
        refine CWp.region ?_
        refine OWp.fieldPR 0 (by decide) rfl rfl rfl ?_
        first | refine OWp.loadPR_0 (k := 0) hh rfl rfl rfl rfl ?_ | refine OWp.loadPR_0 (k := 1) hh rfl rfl rfl rfl ?_ | refine OWp.loadPR_0 (k := 2) hh rfl rfl rfl rfl ?_
        refine OWp.binS rfl rfl rfl rfl rfl ?_
        refine OWp.move rfl rfl ?_
        first | refine OWp.byT rfl (fun hg2 => ?_) (fun hg2 => ?_) | refine OWp.byBT rfl (fun hg2 => ?_) (fun hg2 => ?_)
        · skip
          first | rw [decide_eq_true hg2] | rw [decide_eq_false hg2] | rw [hg2] | skip
          try simp only [Decidable.not_not] at hg2
          refine OWp.fieldPR 2 (by decide) rfl rfl rfl ?_
          first | refine OWp.loadPR_2 (k := 0) hh rfl rfl rfl rfl ?_ | refine OWp.loadPR_2 (k := 1) hh rfl rfl rfl rfl ?_ | refine OWp.loadPR_2 (k := 2) hh rfl rfl rfl rfl ?_
          first | refine OWp.notD rfl rfl rfl ?_ | refine OWp.notB rfl rfl rfl ?_
          refine OWp.pickT rfl rfl rfl ?_
          refine OWp.move rfl rfl ?_
          first | refine OWp.byT rfl (fun hg3 => ?_) (fun hg3 => ?_) | refine OWp.byBT rfl (fun hg3 => ?_) (fun hg3 => ?_)
          · skip
            first | rw [decide_eq_true hg3] | rw [decide_eq_false hg3] | rw [hg3] | skip
            try simp only [Decidable.not_not] at hg3
            refine OWp.fieldPR 1 (by decide) rfl rfl rfl ?_
            first | refine OWp.loadPR_1 (k := 0) hh rfl rfl rfl rfl ?_ | refine OWp.loadPR_1 (k := 1) hh rfl rfl rfl rfl ?_ | refine OWp.loadPR_1 (k := 2) hh rfl rfl rfl rfl ?_
            refine OWp.call rfl rfl rfl rfl ?_
            refine nameR_spec _ htz _ _ ?_ hh.wf
            intro H9 bn hkn hbn
            replace hh := hh.after hkn
            refine OWp.norm ?_
            refine OWp.pickT rfl rfl rfl ?_
            refine OWp.assign rfl rfl ?_
            refine OWp.nil ?_
            exact ⟨bn, ex_env rfl ⟨hh, ⟨fun e => ⟨hg2, by simpa using hg3, hbn.1 e⟩, fun e => hbn.2 e.2.2⟩⟩⟩
          · skip
            first | rw [decide_eq_true hg3] | rw [decide_eq_false hg3] | rw [hg3] | skip
            try simp only [Decidable.not_not] at hg3
            refine OWp.leave rfl ?_
            refine OWp.leave rfl ?_
            refine OWp.leave rfl ?_
            refine OWp.pickF rfl rfl rfl ?_
            refine OWp.assign rfl rfl ?_
            refine OWp.nil ?_
            exact ⟨false, ex_env rfl ⟨hh, ⟨fun e => (by cases e), fun e => by simp_all⟩⟩⟩
        · skip
          first | rw [decide_eq_true hg2] | rw [decide_eq_false hg2] | rw [hg2] | skip
          try simp only [Decidable.not_not] at hg2
          refine OWp.leave rfl ?_
          refine OWp.leave rfl ?_
          refine OWp.leave rfl ?_
          refine OWp.pickF rfl rfl rfl ?_
          refine OWp.move rfl rfl ?_
          refine OWp.leave rfl ?_
          refine OWp.leave rfl ?_
          refine OWp.leave rfl ?_
          refine OWp.pickF rfl rfl rfl ?_
          refine OWp.assign rfl rfl ?_
          refine OWp.nil ?_
          exact ⟨false, ex_env rfl ⟨hh, ⟨fun e => (by cases e), fun e => absurd e.1 hg2⟩⟩⟩
      · rintro e H' ⟨c1, g, rfl, hh, hc1⟩
        first | refine CWp.condP rfl (fun h2 => ?_) (fun h2 => ?_) | refine CWp.cond rfl (fun h2 => ?_) (fun h2 => ?_)
        · skip
          first | rw [decide_eq_true h2] | rw [decide_eq_false h2] | rw [h2] | skip
          refine CWp.region ?_
          refine OWp.fieldPR 1 (by decide) rfl rfl rfl ?_
          first | refine OWp.loadPR_1 (k := 0) hh rfl rfl rfl rfl ?_ | refine OWp.loadPR_1 (k := 1) hh rfl rfl rfl rfl ?_ | refine OWp.loadPR_1 (k := 2) hh rfl rfl rfl rfl ?_
          refine OWp.fieldAt 1 (by decide) rfl rfl rfl ?_
          first | refine OWp.storeAt_1 (k := 0) hh rfl rfl rfl rfl rfl (fun H4 hh => ?_) | refine OWp.storeAt_1 (k := 1) hh rfl rfl rfl rfl rfl (fun H4 hh => ?_) | refine OWp.storeAt_1 (k := 2) hh rfl rfl rfl rfl rfl (fun H4 hh => ?_)
          simp only [List.set_cons_zero, List.set_cons_succ] at hh
          refine OWp.norm ?_
          refine OWp.nil ?_
          refine CWp.region ?_
          refine OWp.addI rfl rfl rfl rfl (by omega) ?_
          refine OWp.move rfl rfl ?_
          refine OWp.nil ?_
          exact ⟨_, by omega, { a with name := p0.text }, j + 1, ex_env rfl ⟨rfl, hh.drop, by omega, fun _ => by rw [hR0, readL_drop hp0, putR_nam (hc1.1 h2).1 (hc1.1 h2).2.1 (hc1.1 h2).2.2]⟩⟩
        · skip
          first | rw [decide_eq_true h2] | rw [decide_eq_false h2] | rw [h2] | skip
          refine CWp.cut (fun e H' => ∃ (c2 : Bool) (g : Nat → Value), e = [.string s, g 1, .pointer (some ⟨b2, 0, none⟩), g 3, g 4, g 5, .bool ok, .pointer (some ⟨b7, 0, none⟩), g 8, .pointer (some ⟨b9, 0, none⟩), g 10, g 11, g 12, g 13, g 14, g 15, g 16, g 17, .slice (some pa) l.length l.length, .int .i64 (l.length : Nat), .int .i64 (j : Nat), g 21, g 22, g 23, g 24, g 25, g 26, g 27, g 28, g 29, g 30, g 31, g 32, g 33, g 34, g 35, g 36, g 37, g 38, g 39, g 40, g 41, .bool c2, g 43, g 44, g 45, g 46, g 47, g 48, g 49, g 50, g 51, g 52, g 53, g 54, g 55, g 56, g 57, g 58, g 59, g 60, g 61, g 62, g 63, g 64, g 65, g 66, g 67, g 68, g 69, g 70, g 71, g 72, g 73, g 74, g 75, g 76, g 77, g 78, g 79, g 80, g 81, g 82, g 83, g 84, g 85, g 86, g 87, g 88, g 89, g 90, g 91, g 92, g 93, g 94, g 95, g 96, g 97, g 98, g 99, g 100, g 101, g 102, g 103, g 104, g 105, g 106, g 107, g 108] ∧ Has H1 H' [(b9, p0.O), (b7, a.O)] ∧ (c2 = true ↔ (p0.key = KFIL ∧ p0.alone = false ∧ NameR p0.text))) ?_ ?_
          · skip
            refine CWp.region ?_
            refine OWp.fieldPR 0 (by decide) rfl rfl rfl ?_
            first | refine OWp.loadPR_0 (k := 0) hh rfl rfl rfl rfl ?_ | refine OWp.loadPR_0 (k := 1) hh rfl rfl rfl rfl ?_ | refine OWp.loadPR_0 (k := 2) hh rfl rfl rfl rfl ?_
            refine OWp.binS rfl rfl rfl rfl rfl ?_
            refine OWp.move rfl rfl ?_
            first | refine OWp.byT rfl (fun hg3 => ?_) (fun hg3 => ?_) | refine OWp.byBT rfl (fun hg3 => ?_) (fun hg3 => ?_)
            · skip
              first | rw [decide_eq_true hg3] | rw [decide_eq_false hg3] | rw [hg3] | skip
              try simp only [Decidable.not_not] at hg3
              refine OWp.fieldPR 2 (by decide) rfl rfl rfl ?_
              first | refine OWp.loadPR_2 (k := 0) hh rfl rfl rfl rfl ?_ | refine OWp.loadPR_2 (k := 1) hh rfl rfl rfl rfl ?_ | refine OWp.loadPR_2 (k := 2) hh rfl rfl rfl rfl ?_
              first | refine OWp.notD rfl rfl rfl ?_ | refine OWp.notB rfl rfl rfl ?_
              refine OWp.pickT rfl rfl rfl ?_
              refine OWp.move rfl rfl ?_
              first | refine OWp.byT rfl (fun hg4 => ?_) (fun hg4 => ?_) | refine OWp.byBT rfl (fun hg4 => ?_) (fun hg4 => ?_)
              · skip
                first | rw [decide_eq_true hg4] | rw [decide_eq_false hg4] | rw [hg4] | skip
                try simp only [Decidable.not_not] at hg4
                refine OWp.fieldPR 1 (by decide) rfl rfl rfl ?_
                first | refine OWp.loadPR_1 (k := 0) hh rfl rfl rfl rfl ?_ | refine OWp.loadPR_1 (k := 1) hh rfl rfl rfl rfl ?_ | refine OWp.loadPR_1 (k := 2) hh rfl rfl rfl rfl ?_
                refine OWp.call rfl rfl rfl rfl ?_
                refine nameR_spec _ htz _ _ ?_ hh.wf
                intro H9 bn hkn hbn
                replace hh := hh.after hkn
                refine OWp.norm ?_
                refine OWp.pickT rfl rfl rfl ?_
                refine OWp.assign rfl rfl ?_
                refine OWp.nil ?_
                exact ⟨bn, ex_env rfl ⟨hh, ⟨fun e => ⟨hg3, by simpa using hg4, hbn.1 e⟩, fun e => hbn.2 e.2.2⟩⟩⟩
              · skip
                first | rw [decide_eq_true hg4] | rw [decide_eq_false hg4] | rw [hg4] | skip
                try simp only [Decidable.not_not] at hg4
                refine OWp.leave rfl ?_
                refine OWp.leave rfl ?_
                refine OWp.leave rfl ?_
                refine OWp.pickF rfl rfl rfl ?_
                refine OWp.assign rfl rfl ?_
                refine OWp.nil ?_
                exact ⟨false, ex_env rfl ⟨hh, ⟨fun e => (by cases e), fun e => by simp_all⟩⟩⟩
            · skip
              first | rw [decide_eq_true hg3] | rw [decide_eq_false hg3] | rw [hg3] | skip
              try simp only [Decidable.not_not] at hg3
              refine OWp.leave rfl ?_
              refine OWp.leave rfl ?_
              refine OWp.leave rfl ?_
              refine OWp.pickF rfl rfl rfl ?_
              refine OWp.move rfl rfl ?_
              refine OWp.leave rfl ?_
              refine OWp.leave rfl ?_
              refine OWp.leave rfl ?_
              refine OWp.pickF rfl rfl rfl ?_
              refine OWp.assign rfl rfl ?_
              refine OWp.nil ?_
              exact ⟨false, ex_env rfl ⟨hh, ⟨fun e => (by cases e), fun e => absurd e.1 hg3⟩⟩⟩
          · rintro e H' ⟨c2, g, rfl, hh, hc2⟩
            first | refine CWp.condP rfl (fun h2 => ?_) (fun h2 => ?_) | refine CWp.cond rfl (fun h2 => ?_) (fun h2 => ?_)
            · skip
              first | rw [decide_eq_true h2] | rw [decide_eq_false h2] | rw [h2] | skip
              refine CWp.region ?_
              refine OWp.fieldPR 1 (by decide) rfl rfl rfl ?_
              first | refine OWp.loadPR_1 (k := 0) hh rfl rfl rfl rfl ?_ | refine OWp.loadPR_1 (k := 1) hh rfl rfl rfl rfl ?_ | refine OWp.loadPR_1 (k := 2) hh rfl rfl rfl rfl ?_
              refine OWp.fieldAt 2 (by decide) rfl rfl rfl ?_
              first | refine OWp.storeAt_2 (k := 0) hh rfl rfl rfl rfl rfl (fun H4 hh => ?_) | refine OWp.storeAt_2 (k := 1) hh rfl rfl rfl rfl rfl (fun H4 hh => ?_) | refine OWp.storeAt_2 (k := 2) hh rfl rfl rfl rfl rfl (fun H4 hh => ?_)
              simp only [List.set_cons_zero, List.set_cons_succ] at hh
              refine OWp.norm ?_
              refine OWp.nil ?_
              refine CWp.region ?_
              refine OWp.addI rfl rfl rfl rfl (by omega) ?_
              refine OWp.move rfl rfl ?_
              refine OWp.nil ?_
              exact ⟨_, by omega, { a with file := p0.text }, j + 1, ex_env rfl ⟨rfl, hh.drop, by omega, fun _ => by rw [hR0, readL_drop hp0, putR_fil (hc2.1 h2).1 (hc2.1 h2).2.1 (hc2.1 h2).2.2]⟩⟩
            · skip
              first | rw [decide_eq_true h2] | rw [decide_eq_false h2] | rw [h2] | skip
              refine CWp.cut (fun e H' => ∃ (c3 : Bool) (g : Nat → Value), e = [.string s, g 1, .pointer (some ⟨b2, 0, none⟩), g 3, g 4, g 5, .bool ok, .pointer (some ⟨b7, 0, none⟩), g 8, .pointer (some ⟨b9, 0, none⟩), g 10, g 11, g 12, g 13, g 14, g 15, g 16, g 17, .slice (some pa) l.length l.length, .int .i64 (l.length : Nat), .int .i64 (j : Nat), g 21, g 22, g 23, g 24, g 25, g 26, g 27, g 28, g 29, g 30, g 31, g 32, g 33, g 34, g 35, g 36, g 37, g 38, g 39, g 40, g 41, g 42, g 43, g 44, g 45, g 46, g 47, g 48, g 49, g 50, g 51, g 52, g 53, g 54, g 55, g 56, g 57, g 58, .bool c3, g 60, g 61, g 62, g 63, g 64, g 65, g 66, g 67, g 68, g 69, g 70, g 71, g 72, g 73, g 74, g 75, g 76, g 77, g 78, g 79, g 80, g 81, g 82, g 83, g 84, g 85, g 86, g 87, g 88, g 89, g 90, g 91, g 92, g 93, g 94, g 95, g 96, g 97, g 98, g 99, g 100, g 101, g 102, g 103, g 104, g 105, g 106, g 107, g 108] ∧ Has H1 H' [(b9, p0.O), (b7, a.O)] ∧ (c3 = true ↔ (p0.key = KCOM ∧ p0.alone = false ∧ StyleP p0.text))) ?_ ?_
              · skip
                refine CWp.region ?_
                refine OWp.fieldPR 0 (by decide) rfl rfl rfl ?_
                first | refine OWp.loadPR_0 (k := 0) hh rfl rfl rfl rfl ?_ | refine OWp.loadPR_0 (k := 1) hh rfl rfl rfl rfl ?_ | refine OWp.loadPR_0 (k := 2) hh rfl rfl rfl rfl ?_
                refine OWp.binS rfl rfl rfl rfl rfl ?_
                refine OWp.move rfl rfl ?_
                first | refine OWp.byT rfl (fun hg3 => ?_) (fun hg3 => ?_) | refine OWp.byBT rfl (fun hg3 => ?_) (fun hg3 => ?_)
                · skip
                  first | rw [decide_eq_true hg3] | rw [decide_eq_false hg3] | rw [hg3] | skip
                  try simp only [Decidable.not_not] at hg3
                  refine OWp.fieldPR 2 (by decide) rfl rfl rfl ?_
                  first | refine OWp.loadPR_2 (k := 0) hh rfl rfl rfl rfl ?_ | refine OWp.loadPR_2 (k := 1) hh rfl rfl rfl rfl ?_ | refine OWp.loadPR_2 (k := 2) hh rfl rfl rfl rfl ?_
                  first | refine OWp.notD rfl rfl rfl ?_ | refine OWp.notB rfl rfl rfl ?_
                  refine OWp.pickT rfl rfl rfl ?_
                  refine OWp.move rfl rfl ?_
                  first | refine OWp.byT rfl (fun hg4 => ?_) (fun hg4 => ?_) | refine OWp.byBT rfl (fun hg4 => ?_) (fun hg4 => ?_)
                  · skip
                    first | rw [decide_eq_true hg4] | rw [decide_eq_false hg4] | rw [hg4] | skip
                    try simp only [Decidable.not_not] at hg4
                    refine OWp.fieldPR 1 (by decide) rfl rfl rfl ?_
                    first | refine OWp.loadPR_1 (k := 0) hh rfl rfl rfl rfl ?_ | refine OWp.loadPR_1 (k := 1) hh rfl rfl rfl rfl ?_ | refine OWp.loadPR_1 (k := 2) hh rfl rfl rfl rfl ?_
                    refine OWp.call rfl rfl rfl rfl ?_
                    refine styleR_spec _ htz _ _ (fun bn hbn => ?_)
                    refine OWp.norm ?_
                    refine OWp.pickT rfl rfl rfl ?_
                    refine OWp.assign rfl rfl ?_
                    refine OWp.nil ?_
                    exact ⟨bn, ex_env rfl ⟨hh, ⟨fun e => ⟨hg3, by simpa using hg4, hbn.1 e⟩, fun e => hbn.2 e.2.2⟩⟩⟩
                  · skip
                    first | rw [decide_eq_true hg4] | rw [decide_eq_false hg4] | rw [hg4] | skip
                    try simp only [Decidable.not_not] at hg4
                    refine OWp.leave rfl ?_
                    refine OWp.leave rfl ?_
                    refine OWp.leave rfl ?_
                    refine OWp.pickF rfl rfl rfl ?_
                    refine OWp.assign rfl rfl ?_
                    refine OWp.nil ?_
                    exact ⟨false, ex_env rfl ⟨hh, ⟨fun e => (by cases e), fun e => by simp_all⟩⟩⟩
                · skip
                  first | rw [decide_eq_true hg3] | rw [decide_eq_false hg3] | rw [hg3] | skip
                  try simp only [Decidable.not_not] at hg3
                  refine OWp.leave rfl ?_
                  refine OWp.leave rfl ?_
                  refine OWp.leave rfl ?_
                  refine OWp.pickF rfl rfl rfl ?_
                  refine OWp.move rfl rfl ?_
                  refine OWp.leave rfl ?_
                  refine OWp.leave rfl ?_
                  refine OWp.leave rfl ?_
                  refine OWp.pickF rfl rfl rfl ?_
                  refine OWp.assign rfl rfl ?_
                  refine OWp.nil ?_
                  exact ⟨false, ex_env rfl ⟨hh, ⟨fun e => (by cases e), fun e => absurd e.1 hg3⟩⟩⟩
              · rintro e H' ⟨c3, g, rfl, hh, hc3⟩
                first | refine CWp.condP rfl (fun h3 => ?_) (fun h3 => ?_) | refine CWp.cond rfl (fun h3 => ?_) (fun h3 => ?_)
                · skip
                  first | rw [decide_eq_true h3] | rw [decide_eq_false h3] | rw [h3] | skip
                  refine CWp.region ?_
                  refine OWp.fieldPR 1 (by decide) rfl rfl rfl ?_
                  first | refine OWp.loadPR_1 (k := 0) hh rfl rfl rfl rfl ?_ | refine OWp.loadPR_1 (k := 1) hh rfl rfl rfl rfl ?_ | refine OWp.loadPR_1 (k := 2) hh rfl rfl rfl rfl ?_
                  refine OWp.fieldAt 3 (by decide) rfl rfl rfl ?_
                  first | refine OWp.storeAt_3 (k := 0) hh rfl rfl rfl rfl rfl (fun H4 hh => ?_) | refine OWp.storeAt_3 (k := 1) hh rfl rfl rfl rfl rfl (fun H4 hh => ?_) | refine OWp.storeAt_3 (k := 2) hh rfl rfl rfl rfl rfl (fun H4 hh => ?_)
                  simp only [List.set_cons_zero, List.set_cons_succ] at hh
                  refine OWp.norm ?_
                  refine OWp.nil ?_
                  refine CWp.region ?_
                  refine OWp.addI rfl rfl rfl rfl (by omega) ?_
                  refine OWp.move rfl rfl ?_
                  refine OWp.nil ?_
                  exact ⟨_, by omega, { a with sty := p0.text }, j + 1, ex_env rfl ⟨rfl, hh.drop, by omega, fun _ => by rw [hR0, readL_drop hp0, putR_com (hc3.1 h3).1 (hc3.1 h3).2.1 (hc3.1 h3).2.2]⟩⟩
                · skip
                  first | rw [decide_eq_true h3] | rw [decide_eq_false h3] | rw [h3] | skip
                  refine CWp.cut (fun e H' => ∃ (c4 : Bool) (g : Nat → Value), e = [.string s, g 1, .pointer (some ⟨b2, 0, none⟩), g 3, g 4, g 5, .bool ok, .pointer (some ⟨b7, 0, none⟩), g 8, .pointer (some ⟨b9, 0, none⟩), g 10, g 11, g 12, g 13, g 14, g 15, g 16, g 17, .slice (some pa) l.length l.length, .int .i64 (l.length : Nat), .int .i64 (j : Nat), g 21, g 22, g 23, g 24, g 25, g 26, g 27, g 28, g 29, g 30, g 31, g 32, g 33, g 34, g 35, g 36, g 37, g 38, g 39, g 40, g 41, g 42, g 43, g 44, g 45, g 46, g 47, g 48, g 49, g 50, g 51, g 52, g 53, g 54, g 55, g 56, g 57, g 58, g 59, g 60, g 61, g 62, g 63, g 64, g 65, g 66, g 67, g 68, g 69, g 70, g 71, g 72, g 73, g 74, g 75, .bool c4, g 77, g 78, g 79, g 80, g 81, g 82, g 83, g 84, g 85, g 86, g 87, g 88, g 89, g 90, g 91, g 92, g 93, g 94, g 95, g 96, g 97, g 98, g 99, g 100, g 101, g 102, g 103, g 104, g 105, g 106, g 107, g 108] ∧ Has H1 H' [(b9, p0.O), (b7, a.O)] ∧ (c4 = true ↔ (p0.key = KAPP ∧ p0.alone = true))) ?_ ?_
                  · skip
                    refine CWp.region ?_
                    refine OWp.fieldPR 0 (by decide) rfl rfl rfl ?_
                    first | refine OWp.loadPR_0 (k := 0) hh rfl rfl rfl rfl ?_ | refine OWp.loadPR_0 (k := 1) hh rfl rfl rfl rfl ?_ | refine OWp.loadPR_0 (k := 2) hh rfl rfl rfl rfl ?_
                    refine OWp.binS rfl rfl rfl rfl rfl ?_
                    refine OWp.move rfl rfl ?_
                    first | refine OWp.byT rfl (fun hg4 => ?_) (fun hg4 => ?_) | refine OWp.byBT rfl (fun hg4 => ?_) (fun hg4 => ?_)
                    · skip
                      first | rw [decide_eq_true hg4] | rw [decide_eq_false hg4] | rw [hg4] | skip
                      try simp only [Decidable.not_not] at hg4
                      refine OWp.fieldPR 2 (by decide) rfl rfl rfl ?_
                      first | refine OWp.loadPR_2 (k := 0) hh rfl rfl rfl rfl ?_ | refine OWp.loadPR_2 (k := 1) hh rfl rfl rfl rfl ?_ | refine OWp.loadPR_2 (k := 2) hh rfl rfl rfl rfl ?_
                      refine OWp.pickT rfl rfl rfl ?_
                      refine OWp.assign rfl rfl ?_
                      refine OWp.nil ?_
                      exact ⟨p0.alone, ex_env rfl ⟨hh, ⟨fun e => ⟨hg4, e⟩, fun e => e.2⟩⟩⟩
                    · skip
                      first | rw [decide_eq_true hg4] | rw [decide_eq_false hg4] | rw [hg4] | skip
                      try simp only [Decidable.not_not] at hg4
                      refine OWp.leave rfl ?_
                      refine OWp.leave rfl ?_
                      refine OWp.pickF rfl rfl rfl ?_
                      refine OWp.assign rfl rfl ?_
                      refine OWp.nil ?_
                      exact ⟨false, ex_env rfl ⟨hh, ⟨fun e => (by cases e), fun e => absurd e.1 hg4⟩⟩⟩
                  · rintro e H' ⟨c4, g, rfl, hh, hc4⟩
                    first | refine CWp.condP rfl (fun h3 => ?_) (fun h3 => ?_) | refine CWp.cond rfl (fun h3 => ?_) (fun h3 => ?_)
                    · skip
                      first | rw [decide_eq_true h3] | rw [decide_eq_false h3] | rw [h3] | skip
                      refine CWp.region ?_
                      refine OWp.fieldAt 4 (by decide) rfl rfl rfl ?_
                      first | refine OWp.storeAt_4 (k := 0) hh rfl rfl rfl rfl rfl (fun H4 hh => ?_) | refine OWp.storeAt_4 (k := 1) hh rfl rfl rfl rfl rfl (fun H4 hh => ?_) | refine OWp.storeAt_4 (k := 2) hh rfl rfl rfl rfl rfl (fun H4 hh => ?_)
                      simp only [List.set_cons_zero, List.set_cons_succ] at hh
                      refine OWp.norm ?_
                      refine OWp.nil ?_
                      refine CWp.region ?_
                      refine OWp.addI rfl rfl rfl rfl (by omega) ?_
                      refine OWp.move rfl rfl ?_
                      refine OWp.nil ?_
                      exact ⟨_, by omega, { a with app := true }, j + 1, ex_env rfl ⟨rfl, hh.drop, by omega, fun _ => by rw [hR0, readL_drop hp0, putR_app (hc4.1 h3).1 (hc4.1 h3).2]⟩⟩
                    · skip
                      first | rw [decide_eq_true h3] | rw [decide_eq_false h3] | rw [h3] | skip
                      refine CWp.cut (fun e H' => ∃ (c5 : Bool) (g : Nat → Value), e = [.string s, g 1, .pointer (some ⟨b2, 0, none⟩), g 3, g 4, g 5, .bool ok, .pointer (some ⟨b7, 0, none⟩), g 8, .pointer (some ⟨b9, 0, none⟩), g 10, g 11, g 12, g 13, g 14, g 15, g 16, g 17, .slice (some pa) l.length l.length, .int .i64 (l.length : Nat), .int .i64 (j : Nat), g 21, g 22, g 23, g 24, g 25, g 26, g 27, g 28, g 29, g 30, g 31, g 32, g 33, g 34, g 35, g 36, g 37, g 38, g 39, g 40, g 41, g 42, g 43, g 44, g 45, g 46, g 47, g 48, g 49, g 50, g 51, g 52, g 53, g 54, g 55, g 56, g 57, g 58, g 59, g 60, g 61, g 62, g 63, g 64, g 65, g 66, g 67, g 68, g 69, g 70, g 71, g 72, g 73, g 74, g 75, g 76, g 77, g 78, g 79, g 80, g 81, g 82, g 83, g 84, .bool c5, g 86, g 87, g 88, g 89, g 90, g 91, g 92, g 93, g 94, g 95, g 96, g 97, g 98, g 99, g 100, g 101, g 102, g 103, g 104, g 105, g 106, g 107, g 108] ∧ Has H1 H' [(b9, p0.O), (b7, a.O)] ∧ (c5 = true ↔ (p0.key = KNOL ∧ p0.alone = true))) ?_ ?_
                      · skip
                        refine CWp.region ?_
                        refine OWp.fieldPR 0 (by decide) rfl rfl rfl ?_
                        first | refine OWp.loadPR_0 (k := 0) hh rfl rfl rfl rfl ?_ | refine OWp.loadPR_0 (k := 1) hh rfl rfl rfl rfl ?_ | refine OWp.loadPR_0 (k := 2) hh rfl rfl rfl rfl ?_
                        refine OWp.binS rfl rfl rfl rfl rfl ?_
                        refine OWp.move rfl rfl ?_
                        first | refine OWp.byT rfl (fun hg4 => ?_) (fun hg4 => ?_) | refine OWp.byBT rfl (fun hg4 => ?_) (fun hg4 => ?_)
                        · skip
                          first | rw [decide_eq_true hg4] | rw [decide_eq_false hg4] | rw [hg4] | skip
                          try simp only [Decidable.not_not] at hg4
                          refine OWp.fieldPR 2 (by decide) rfl rfl rfl ?_
                          first | refine OWp.loadPR_2 (k := 0) hh rfl rfl rfl rfl ?_ | refine OWp.loadPR_2 (k := 1) hh rfl rfl rfl rfl ?_ | refine OWp.loadPR_2 (k := 2) hh rfl rfl rfl rfl ?_
                          refine OWp.pickT rfl rfl rfl ?_
                          refine OWp.assign rfl rfl ?_
                          refine OWp.nil ?_
                          exact ⟨p0.alone, ex_env rfl ⟨hh, ⟨fun e => ⟨hg4, e⟩, fun e => e.2⟩⟩⟩
                        · skip
                          first | rw [decide_eq_true hg4] | rw [decide_eq_false hg4] | rw [hg4] | skip
                          try simp only [Decidable.not_not] at hg4
                          refine OWp.leave rfl ?_
                          refine OWp.leave rfl ?_
                          refine OWp.pickF rfl rfl rfl ?_
                          refine OWp.assign rfl rfl ?_
                          refine OWp.nil ?_
                          exact ⟨false, ex_env rfl ⟨hh, ⟨fun e => (by cases e), fun e => absurd e.1 hg4⟩⟩⟩
                      · rintro e H' ⟨c5, g, rfl, hh, hc5⟩
                        first | refine CWp.condP rfl (fun h3 => ?_) (fun h3 => ?_) | refine CWp.cond rfl (fun h3 => ?_) (fun h3 => ?_)
                        · skip
                          first | rw [decide_eq_true h3] | rw [decide_eq_false h3] | rw [h3] | skip
                          refine CWp.region ?_
                          refine OWp.fieldAt 5 (by decide) rfl rfl rfl ?_
                          first | refine OWp.storeAt_5 (k := 0) hh rfl rfl rfl rfl rfl (fun H4 hh => ?_) | refine OWp.storeAt_5 (k := 1) hh rfl rfl rfl rfl rfl (fun H4 hh => ?_) | refine OWp.storeAt_5 (k := 2) hh rfl rfl rfl rfl rfl (fun H4 hh => ?_)
                          simp only [List.set_cons_zero, List.set_cons_succ] at hh
                          refine OWp.norm ?_
                          refine OWp.nil ?_
                          refine CWp.region ?_
                          refine OWp.addI rfl rfl rfl rfl (by omega) ?_
                          refine OWp.move rfl rfl ?_
                          refine OWp.nil ?_
                          exact ⟨_, by omega, { a with nol := true }, j + 1, ex_env rfl ⟨rfl, hh.drop, by omega, fun _ => by rw [hR0, readL_drop hp0, putR_nol (hc5.1 h3).1 (hc5.1 h3).2]⟩⟩
                        · skip
                          first | rw [decide_eq_true h3] | rw [decide_eq_false h3] | rw [h3] | skip
                          refine CWp.seq ?_
                          refine CWp.region ?_
                          refine OWp.buildAt (zeroAt) rfl rfl rfl (by kernel_rfl) ?_
                          replace hh := hhA.join hh
                          simp only [List.cons_append, List.nil_append] at hh
                          refine OWp.storeAt (k := 2) hh rfl rfl rfl rfl rfl (fun H9 hh => ?_)
                          simp only [List.set_cons_zero, List.set_cons_succ] at hh
                          refine OWp.norm ?_
                          refine OWp.assign rfl rfl ?_
                          refine OWp.nil ?_
                          refine CWp.ret ?_
                          first | refine RetQ.cellAt2 (k := 0) (by first | exact .inl rfl | exact .inr rfl) rfl rfl hh rfl rfl rfl ?_ | refine RetQ.cellAt2 (k := 1) (by first | exact .inl rfl | exact .inr rfl) rfl rfl hh rfl rfl rfl ?_ | refine RetQ.cellAt2 (k := 2) (by first | exact .inl rfl | exact .inr rfl) rfl rfl hh rfl rfl rfl ?_
                          have hRn : readR s = none := by
                            rw [hR0, readL_drop hp0, putR_no (fun e => by have := hc1.2 e; simp_all) (fun e => by have := hc2.2 e; simp_all) (fun e => by have := hc3.2 e; simp_all) (fun e => by have := hc4.2 e; simp_all) (fun e => by have := hc5.2 e; simp_all)]
                          exact h _ _ _ hh.keep (fun a2 e => by rw [readS_none hRn] at e; cases e) (fun _ => ⟨rfl, rfl⟩)
    · skip
      first | rw [decide_eq_true h1] | rw [decide_eq_false h1] | rw [h1] | skip
      refine CWp.exit ?_
      refine CWp.seq ?_
      refine CWp.seq ?_
      refine CWp.region ?_
      refine OWp.move rfl rfl ?_
      first | refine OWp.notD rfl rfl rfl ?_ | refine OWp.notB rfl rfl rfl ?_
      refine OWp.move rfl rfl ?_
      first | refine OWp.byF rfl (fun hg2 => ?_) (fun hg2 => ?_) | refine OWp.byBF rfl (fun hg2 => ?_) (fun hg2 => ?_)
      · skip
        first | rw [decide_eq_true hg2] | rw [decide_eq_false hg2] | rw [hg2] | skip
        try simp only [Decidable.not_not] at hg2
        refine OWp.fieldAt 1 (by decide) rfl rfl rfl ?_
        first | refine OWp.loadAt_1 (k := 0) hh rfl rfl rfl rfl ?_ | refine OWp.loadAt_1 (k := 1) hh rfl rfl rfl rfl ?_ | refine OWp.loadAt_1 (k := 2) hh rfl rfl rfl rfl ?_
        refine OWp.binS rfl rfl rfl rfl rfl ?_
        refine OWp.move rfl rfl ?_
        first | refine OWp.byT rfl (fun hg3 => ?_) (fun hg3 => ?_) | refine OWp.byBT rfl (fun hg3 => ?_) (fun hg3 => ?_)
        · skip
          first | rw [decide_eq_true hg3] | rw [decide_eq_false hg3] | rw [hg3] | skip
          try simp only [Decidable.not_not] at hg3
          refine OWp.fieldAt 2 (by decide) rfl rfl rfl ?_
          first | refine OWp.loadAt_2 (k := 0) hh rfl rfl rfl rfl ?_ | refine OWp.loadAt_2 (k := 1) hh rfl rfl rfl rfl ?_ | refine OWp.loadAt_2 (k := 2) hh rfl rfl rfl rfl ?_
          refine OWp.binS rfl rfl rfl rfl rfl ?_
          refine OWp.pickT rfl rfl rfl ?_
          refine OWp.pickF rfl rfl rfl ?_
          refine OWp.nil ?_
          first | refine CWp.condP rfl (fun h4 => ?_) (fun h4 => ?_) | refine CWp.cond rfl (fun h4 => ?_) (fun h4 => ?_)
          · skip
            first | rw [decide_eq_true h4] | rw [decide_eq_false h4] | rw [h4] | skip
            refine CWp.seq ?_
            refine CWp.region ?_
            refine OWp.buildAt (zeroAt) rfl rfl rfl (by kernel_rfl) ?_
            replace hh := hhA.join hh
            simp only [List.cons_append, List.nil_append] at hh
            refine OWp.storeAt (k := 1) hh rfl rfl rfl rfl rfl (fun H9 hh => ?_)
            simp only [List.set_cons_zero, List.set_cons_succ] at hh
            refine OWp.norm ?_
            refine OWp.assign rfl rfl ?_
            refine OWp.nil ?_
            refine CWp.ret ?_
            first | refine RetQ.cellAt2 (k := 0) (by first | exact .inl rfl | exact .inr rfl) rfl rfl hh rfl rfl rfl ?_ | refine RetQ.cellAt2 (k := 1) (by first | exact .inl rfl | exact .inr rfl) rfl rfl hh rfl rfl rfl ?_ | refine RetQ.cellAt2 (k := 2) (by first | exact .inl rfl | exact .inr rfl) rfl rfl hh rfl rfl rfl ?_
            have hR := (hr1 (by simp_all)).trans (readL_end (by omega))
            exact h _ _ _ hh.keep (fun a2 e => by rw [readS_both hR ⟨by assumption, by assumption⟩] at e; cases e) (fun _ => ⟨rfl, rfl⟩)
          · skip
            first | rw [decide_eq_true h4] | rw [decide_eq_false h4] | rw [h4] | skip
            refine CWp.skip ?_
            refine CWp.seq ?_
            refine CWp.region ?_
            first | refine OWp.loadAt (k := 0) hh rfl rfl rfl rfl ?_ | refine OWp.loadAt (k := 1) hh rfl rfl rfl rfl ?_ | refine OWp.loadAt (k := 2) hh rfl rfl rfl rfl ?_
            replace hh := hhA.join hh
            simp only [List.cons_append, List.nil_append] at hh
            refine OWp.storeAt (k := 1) hh rfl rfl rfl rfl rfl (fun H9 hh => ?_)
            simp only [List.set_cons_zero, List.set_cons_succ] at hh
            refine OWp.norm ?_
            refine OWp.assign rfl rfl ?_
            refine OWp.nil ?_
            refine CWp.ret ?_
            first | refine RetQ.cellAt2 (k := 0) (by first | exact .inl rfl | exact .inr rfl) rfl rfl hh rfl rfl rfl ?_ | refine RetQ.cellAt2 (k := 1) (by first | exact .inl rfl | exact .inr rfl) rfl rfl hh rfl rfl rfl ?_ | refine RetQ.cellAt2 (k := 2) (by first | exact .inl rfl | exact .inr rfl) rfl rfl hh rfl rfl rfl ?_
            have hR := (hr1 (by simp_all)).trans (readL_end (by omega))
            have hS := readS_some hR (fun hb => by simp_all [bothP])
            exact h _ _ _ hh.keep (fun a2 e => by rw [hS] at e; cases e; exact ⟨rfl, rfl⟩) (fun e => by rw [hS] at e; cases e)
        · skip
          first | rw [decide_eq_true hg3] | rw [decide_eq_false hg3] | rw [hg3] | skip
          try simp only [Decidable.not_not] at hg3
          refine OWp.leave rfl ?_
          refine OWp.leave rfl ?_
          refine OWp.leave rfl ?_
          refine OWp.pickF rfl rfl rfl ?_
          refine OWp.pickF rfl rfl rfl ?_
          refine OWp.nil ?_
          refine CWp.condF rfl ?_
          refine CWp.skip ?_
          refine CWp.seq ?_
          refine CWp.region ?_
          first | refine OWp.loadAt (k := 0) hh rfl rfl rfl rfl ?_ | refine OWp.loadAt (k := 1) hh rfl rfl rfl rfl ?_ | refine OWp.loadAt (k := 2) hh rfl rfl rfl rfl ?_
          replace hh := hhA.join hh
          simp only [List.cons_append, List.nil_append] at hh
          refine OWp.storeAt (k := 1) hh rfl rfl rfl rfl rfl (fun H9 hh => ?_)
          simp only [List.set_cons_zero, List.set_cons_succ] at hh
          refine OWp.norm ?_
          refine OWp.assign rfl rfl ?_
          refine OWp.nil ?_
          refine CWp.ret ?_
          first | refine RetQ.cellAt2 (k := 0) (by first | exact .inl rfl | exact .inr rfl) rfl rfl hh rfl rfl rfl ?_ | refine RetQ.cellAt2 (k := 1) (by first | exact .inl rfl | exact .inr rfl) rfl rfl hh rfl rfl rfl ?_ | refine RetQ.cellAt2 (k := 2) (by first | exact .inl rfl | exact .inr rfl) rfl rfl hh rfl rfl rfl ?_
          have hR := (hr1 (by simp_all)).trans (readL_end (by omega))
          have hS := readS_some hR (fun hb => by simp_all [bothP])
          exact h _ _ _ hh.keep (fun a2 e => by rw [hS] at e; cases e; exact ⟨rfl, rfl⟩) (fun e => by rw [hS] at e; cases e)
      · skip
        first | rw [decide_eq_true hg2] | rw [decide_eq_false hg2] | rw [hg2] | skip
        try simp only [Decidable.not_not] at hg2
        refine OWp.leave rfl ?_
        refine OWp.leave rfl ?_
        refine OWp.leave rfl ?_
        refine OWp.leave rfl ?_
        refine OWp.leave rfl ?_
        refine OWp.leave rfl ?_
        refine OWp.leave rfl ?_
        refine OWp.leave rfl ?_
        refine OWp.pickT rfl rfl rfl ?_
        refine OWp.nil ?_
        refine CWp.condT rfl ?_
        refine CWp.seq ?_
        refine CWp.region ?_
        refine OWp.buildAt (zeroAt) rfl rfl rfl (by kernel_rfl) ?_
        replace hh := hhA.join hh
        simp only [List.cons_append, List.nil_append] at hh
        refine OWp.storeAt (k := 1) hh rfl rfl rfl rfl rfl (fun H9 hh => ?_)
        simp only [List.set_cons_zero, List.set_cons_succ] at hh
        refine OWp.norm ?_
        refine OWp.assign rfl rfl ?_
        refine OWp.nil ?_
        refine CWp.ret ?_
        first | refine RetQ.cellAt2 (k := 0) (by first | exact .inl rfl | exact .inr rfl) rfl rfl hh rfl rfl rfl ?_ | refine RetQ.cellAt2 (k := 1) (by first | exact .inl rfl | exact .inr rfl) rfl rfl hh rfl rfl rfl ?_ | refine RetQ.cellAt2 (k := 2) (by first | exact .inl rfl | exact .inr rfl) rfl rfl hh rfl rfl rfl ?_
        exact h _ _ _ hh.keep (fun a2 e => by rw [readS_none (hR2 (by simp_all)).1] at e; cases e) (fun _ => ⟨rfl, rfl⟩)

end Go.Proofs.YtnlkgnoogcakjaaGreatDoor.Ev
