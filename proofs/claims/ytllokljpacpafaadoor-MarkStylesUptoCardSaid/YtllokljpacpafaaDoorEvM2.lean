import Derived.Test.YtllokljpacpafaaDoorEvM1
import Derived.Test.YtllokljpacpafaaDoorEvMarkC
import Derived.Test.YtllokljpacpafaaDoorEvMarkQ
namespace Go.Proofs.YtllokljpacpafaaDoor.Ev
open Go
set_option linter.unusedVariables false
set_option linter.unusedSimpArgs false
set_option maxHeartbeats 2000000
def SzM (m : Mk) : Prop := m.ind.size ≤ 9000000 ∧ m.sty.size ≤ 9000000 ∧ m.nam.size ≤ 9000000

theorem ends_spec (c : Int) (H : AH) (Q : Value → AH → Prop) (h : Q (.tuple #[.string (aheadB c), .string (betwB c), .string (behindB c)]) H) : FWp Tryd.prog prims 19 [.int .i64 c] H Q := by
  refine FWp.enter (rfl) Tryd.func19 rfl (e := [.int .i64 c, undef, undef, undef, undef, undef, undef, undef, undef, undef]) rfl ?_
  refine CWp.seq ?_
  refine CWp.region ?_
  refine OWp.assign rfl rfl ?_
  refine OWp.assign rfl rfl ?_
  refine OWp.assign rfl rfl ?_
  refine OWp.nil ?_
  refine CWp.seq ?_
  refine CWp.seq ?_
  refine CWp.region ?_
  refine OWp.move rfl rfl ?_
  refine OWp.nil ?_
  refine CWp.block ?_
  refine CWp.seq ?_
  refine CWp.region ?_
  refine OWp.binI rfl rfl rfl rfl rfl ?_
  refine OWp.assign rfl rfl ?_
  refine OWp.nil ?_
  first | refine CWp.condP rfl (fun h0 => ?_) (fun h0 => ?_) | refine CWp.cond rfl (fun h0 => ?_) (fun h0 => ?_)
  · skip
    first | rw [decide_eq_true h0] | rw [decide_eq_false h0] | rw [h0] | skip
    refine CWp.seq ?_
    refine CWp.region ?_
    refine OWp.assign rfl rfl ?_
    refine OWp.assign rfl rfl ?_
    refine OWp.assign rfl rfl ?_
    refine OWp.nil ?_
    refine CWp.ret ?_
    refine RetQ.three (by first | exact .inl rfl | exact .inr rfl) rfl rfl rfl rfl rfl rfl rfl ?_
    exact Q_val h (by simp [aheadB, betwB, betwC, behindB, h0])
  · skip
    first | rw [decide_eq_true h0] | rw [decide_eq_false h0] | rw [h0] | skip
    refine CWp.seq ?_
    refine CWp.region ?_
    refine OWp.binI rfl rfl rfl rfl rfl ?_
    refine OWp.assign rfl rfl ?_
    refine OWp.nil ?_
    first | refine CWp.condP rfl (fun h1 => ?_) (fun h1 => ?_) | refine CWp.cond rfl (fun h1 => ?_) (fun h1 => ?_)
    · skip
      first | rw [decide_eq_true h1] | rw [decide_eq_false h1] | rw [h1] | skip
      refine CWp.seq ?_
      refine CWp.region ?_
      refine OWp.assign rfl rfl ?_
      refine OWp.assign rfl rfl ?_
      refine OWp.assign rfl rfl ?_
      refine OWp.nil ?_
      refine CWp.ret ?_
      refine RetQ.three (by first | exact .inl rfl | exact .inr rfl) rfl rfl rfl rfl rfl rfl rfl ?_
      exact Q_val h (by simp [aheadB, betwB, betwC, behindB, h0, h1])
    · skip
      first | rw [decide_eq_true h1] | rw [decide_eq_false h1] | rw [h1] | skip
      refine CWp.skip ?_
      refine CWp.seq ?_
      refine CWp.region ?_
      refine OWp.assign rfl rfl ?_
      refine OWp.assign rfl rfl ?_
      refine OWp.assign rfl rfl ?_
      refine OWp.nil ?_
      refine CWp.ret ?_
      refine RetQ.three (by first | exact .inl rfl | exact .inr rfl) rfl rfl rfl rfl rfl rfl rfl ?_
      exact Q_val h (by simp [aheadB, betwB, betwC, behindB, h0, h1])

theorem styled_spec (s : ByteArray) (hs : s.size ≤ 9000000) (H : AH) (Q : Value → AH → Prop) (h : ∀ H' b, Keeps H H' → (b = true ↔ StyleM s) → Q (.bool b) H') (hw : WfH H) : FWp Tryd.prog prims 22 [.string s] H Q := by
  have hs5 : szT Tryd.prog 5 = 1 := by kernel_rfl
  refine FWp.enter (rfl) Tryd.func22 rfl (e := [.string s, undef, undef, undef, undef, undef, undef, undef, undef, undef, undef, undef, undef, undef, undef, undef, undef, undef, undef, undef, undef, undef, undef, undef, undef, undef, undef]) rfl ?_
  refine CWp.seq ?_
  refine CWp.region ?_
  refine OWp.assign rfl rfl ?_
  refine OWp.nil ?_
  refine CWp.seq ?_
  refine CWp.seq ?_
  refine CWp.region ?_
  refine OWp.move rfl rfl ?_
  refine OWp.convBytes hw rfl rfl Tryd.underlying9 Tryd.underlying22 Tryd.underlying5 hs5 rfl (fun H2 cc hw2 hk2 hc2 hrw => ?_)
  refine OWp.norm ?_
  refine OWp.lenSl rfl rfl rfl rfl rfl Tryd.underlying22 rfl ?_
  refine OWp.move rfl rfl ?_
  refine OWp.nil ?_
  refine CWp.block ?_
  refine CWp.loop (fun k e H' => ∃ (cc j : Nat) (g : Nat → Value), e = [.string s, g 1, g 2, g 3, g 4, g 5, .slice (some ⟨cc, 0, none⟩) s.size s.size, .int .i64 (s.size : Nat), .int .i64 (j : Nat), g 9, g 10, g 11, g 12, g 13, g 14, g 15, g 16, g 17, g 18, g 19, g 20, g 21, g 22, g 23, g 24, g 25, g 26] ∧ k = s.size - j ∧ WfH H' ∧ Keeps H H' ∧ Row H' (some ⟨cc, 0, none⟩) (byteV s) ∧ j ≤ s.size ∧ ∀ a : Nat, a < j → 33 ≤ byteAt s (a : Nat) ∧ byteAt s (a : Nat) ≤ 126) ?_ ?_
  · exact ⟨_, cc, 0, ex_env rfl ⟨rfl, hw2, hk2, hrw, by omega, fun a h => by omega⟩⟩
  · rintro k e H' ⟨cc, j, g, rfl, rfl, hw', hk', hrow, hj, ha⟩
    refine CWp.seq ?_
    refine CWp.region ?_
    refine OWp.binI rfl rfl rfl rfl rfl ?_
    refine OWp.nil ?_
    refine CWp.seq ?_
    first | refine CWp.condP rfl (fun h1 => ?_) (fun h1 => ?_) | refine CWp.cond rfl (fun h1 => ?_) (fun h1 => ?_)
    · skip
      first | rw [decide_eq_true h1] | rw [decide_eq_false h1] | rw [h1] | skip
      refine CWp.skip ?_
      refine CWp.seq ?_
      refine CWp.block ?_
      refine CWp.seq ?_
      refine CWp.region ?_
      refine OWp.indexAddrSl1 rfl rfl Tryd.underlying22 hs5 rfl rfl (by omega) (by omega) ?_
      refine OWp.loadRow rfl rfl Tryd.underlying5 rfl rfl hrow (byteV_get s j (by omega)) ?_
      refine OWp.assign rfl rfl ?_
      refine OWp.nil ?_
      refine CWp.seq ?_
      refine CWp.region ?_
      refine OWp.move rfl rfl ?_
      refine OWp.binI rfl rfl rfl rfl rfl ?_
      refine OWp.move rfl rfl ?_
      first | refine OWp.byF rfl (fun hg2 => ?_) (fun hg2 => ?_) | refine OWp.byBF rfl (fun hg2 => ?_) (fun hg2 => ?_)
      · skip
        first | rw [decide_eq_true hg2] | rw [decide_eq_false hg2] | rw [hg2] | skip
        try simp only [Decidable.not_not] at hg2
        refine OWp.move rfl rfl ?_
        refine OWp.binI rfl rfl rfl rfl rfl ?_
        refine OWp.pickF rfl rfl rfl ?_
        refine OWp.nil ?_
        first | refine CWp.condP rfl (fun h3 => ?_) (fun h3 => ?_) | refine CWp.cond rfl (fun h3 => ?_) (fun h3 => ?_)
        · skip
          first | rw [decide_eq_true h3] | rw [decide_eq_false h3] | rw [h3] | skip
          refine CWp.seq ?_
          refine CWp.region ?_
          refine OWp.assign rfl rfl ?_
          refine OWp.nil ?_
          refine CWp.ret ?_
          refine RetQ.one (by first | exact .inl rfl | exact .inr rfl) rfl rfl ?_
          exact h _ false hk' ⟨fun e => (by cases e), fun hr => (by have := hr.2.2 j (by omega); omega)⟩
        · skip
          first | rw [decide_eq_true h3] | rw [decide_eq_false h3] | rw [h3] | skip
          refine CWp.skip ?_
          refine CWp.region ?_
          refine OWp.addI rfl rfl rfl rfl (by omega) ?_
          refine OWp.move rfl rfl ?_
          refine OWp.nil ?_
          exact ⟨_, by omega, cc, j + 1, ex_env rfl ⟨rfl, hw', hk', hrow, by omega, fun a h1 => by by_cases e : a = j; exact e ▸ ⟨by omega, by omega⟩; exact ha a (by omega)⟩⟩
      · skip
        first | rw [decide_eq_true hg2] | rw [decide_eq_false hg2] | rw [hg2] | skip
        try simp only [Decidable.not_not] at hg2
        refine OWp.leave rfl ?_
        refine OWp.leave rfl ?_
        refine OWp.pickT rfl rfl rfl ?_
        refine OWp.nil ?_
        refine CWp.condT rfl ?_
        refine CWp.seq ?_
        refine CWp.region ?_
        refine OWp.assign rfl rfl ?_
        refine OWp.nil ?_
        refine CWp.ret ?_
        refine RetQ.one (by first | exact .inl rfl | exact .inr rfl) rfl rfl ?_
        exact h _ false hk' ⟨fun e => (by cases e), fun hr => (by have := hr.2.2 j (by omega); omega)⟩
    · skip
      first | rw [decide_eq_true h1] | rw [decide_eq_false h1] | rw [h1] | skip
      refine CWp.exit ?_
      refine CWp.seq ?_
      refine CWp.region ?_
      refine OWp.move rfl rfl ?_
      refine OWp.lenS rfl rfl rfl rfl rfl Tryd.underlying9 rfl ?_
      refine OWp.binI rfl rfl rfl rfl rfl ?_
      refine OWp.move rfl rfl ?_
      first | refine OWp.byT rfl (fun hg2 => ?_) (fun hg2 => ?_) | refine OWp.byBT rfl (fun hg2 => ?_) (fun hg2 => ?_)
      · skip
        first | rw [decide_eq_true hg2] | rw [decide_eq_false hg2] | rw [hg2] | skip
        try simp only [Decidable.not_not] at hg2
        refine OWp.move rfl rfl ?_
        refine OWp.lenS rfl rfl rfl rfl rfl Tryd.underlying9 rfl ?_
        refine OWp.binI rfl rfl rfl rfl rfl ?_
        refine OWp.pickT rfl rfl rfl ?_
        refine OWp.assign rfl rfl ?_
        refine OWp.nil ?_
        refine CWp.ret ?_
        refine RetQ.one (by first | exact .inl rfl | exact .inr rfl) rfl rfl ?_
        exact h _ _ hk' ⟨fun e => ⟨by omega, by have := of_decide_eq_true e; omega, fun a h1 => ha a (by omega)⟩, fun hr => decide_eq_true (by have := hr.2.1; omega)⟩
      · skip
        first | rw [decide_eq_true hg2] | rw [decide_eq_false hg2] | rw [hg2] | skip
        try simp only [Decidable.not_not] at hg2
        refine OWp.leave rfl ?_
        refine OWp.leave rfl ?_
        refine OWp.leave rfl ?_
        refine OWp.pickF rfl rfl rfl ?_
        refine OWp.assign rfl rfl ?_
        refine OWp.nil ?_
        refine CWp.ret ?_
        refine RetQ.one (by first | exact .inl rfl | exact .inr rfl) rfl rfl ?_
        exact h _ false hk' ⟨fun e => (by cases e), fun hr => (by have := hr.1; omega)⟩

theorem styleR_spec (s : ByteArray) (hs : s.size ≤ 9000000) (H : AH) (Q : Value → AH → Prop) (h : ∀ b : Bool, (b = true ↔ StyleM s) → Q (.bool b) H) : FWp Tryd.prog prims 33 [.string s] H Q := by
  refine FWp.enter (rfl) Tryd.func33 rfl (e := [.string s, undef, undef, undef, undef, undef, undef, undef, undef, undef, undef, undef, undef, undef, undef, undef, undef, undef, undef, undef, undef, undef, undef, undef, undef, undef, undef, undef]) rfl ?_
  refine CWp.seq ?_
  refine CWp.region ?_
  refine OWp.assign rfl rfl ?_
  refine OWp.nil ?_
  refine CWp.seq ?_
  refine CWp.seq ?_
  refine CWp.region ?_
  refine OWp.assign rfl rfl ?_
  refine OWp.nil ?_
  refine CWp.block ?_
  refine CWp.loop (fun k e H' => ∃ (j : Nat) (g : Nat → Value), e = [.string s, g 1, g 2, .int .i64 (j : Nat), g 4, g 5, g 6, g 7, g 8, g 9, g 10, g 11, g 12, g 13, g 14, g 15, g 16, g 17, g 18, g 19, g 20, g 21, g 22, g 23, g 24, g 25, g 26, g 27] ∧ k = s.size - j ∧ H' = H ∧ j ≤ s.size ∧ ∀ a : Nat, a < j → 33 ≤ byteAt s (a : Nat) ∧ byteAt s (a : Nat) ≤ 126) ?_ ?_
  · exact ⟨_, 0, ex_env rfl ⟨rfl, rfl, by omega, fun a h => by omega⟩⟩
  · rintro k e H' ⟨j, g, rfl, rfl, rfl, hj, ha⟩
    refine CWp.seq ?_
    refine CWp.seq ?_
    refine CWp.region ?_
    refine OWp.move rfl rfl ?_
    refine OWp.move rfl rfl ?_
    refine OWp.lenS rfl rfl rfl rfl rfl Tryd.underlying9 rfl ?_
    refine OWp.binI rfl rfl rfl rfl rfl ?_
    refine OWp.nil ?_
    first | refine CWp.condP rfl (fun h1 => ?_) (fun h1 => ?_) | refine CWp.cond rfl (fun h1 => ?_) (fun h1 => ?_)
    · skip
      first | rw [decide_eq_true h1] | rw [decide_eq_false h1] | rw [h1] | skip
      refine CWp.skip ?_
      refine CWp.seq ?_
      refine CWp.block ?_
      refine CWp.seq ?_
      refine CWp.region ?_
      refine OWp.move rfl rfl ?_
      refine OWp.move rfl rfl ?_
      refine OWp.indexS rfl rfl Tryd.underlying9 rfl rfl (by omega) (by omega) ?_
      refine OWp.binI rfl rfl rfl rfl rfl ?_
      refine OWp.move rfl rfl ?_
      first | refine OWp.byF rfl (fun hg2 => ?_) (fun hg2 => ?_) | refine OWp.byBF rfl (fun hg2 => ?_) (fun hg2 => ?_)
      · skip
        first | rw [decide_eq_true hg2] | rw [decide_eq_false hg2] | rw [hg2] | skip
        try simp only [Decidable.not_not] at hg2
        refine OWp.move rfl rfl ?_
        refine OWp.move rfl rfl ?_
        refine OWp.indexS rfl rfl Tryd.underlying9 rfl rfl (by omega) (by omega) ?_
        refine OWp.binI rfl rfl rfl rfl rfl ?_
        refine OWp.pickF rfl rfl rfl ?_
        refine OWp.nil ?_
        first | refine CWp.condP rfl (fun h3 => ?_) (fun h3 => ?_) | refine CWp.cond rfl (fun h3 => ?_) (fun h3 => ?_)
        · skip
          first | rw [decide_eq_true h3] | rw [decide_eq_false h3] | rw [h3] | skip
          refine CWp.seq ?_
          refine CWp.region ?_
          refine OWp.assign rfl rfl ?_
          refine OWp.nil ?_
          refine CWp.ret ?_
          refine RetQ.one (by first | exact .inl rfl | exact .inr rfl) rfl rfl ?_
          exact h false ⟨fun e => (by cases e), fun hr => (by have := hr.2.2 j (by omega); omega)⟩
        · skip
          first | rw [decide_eq_true h3] | rw [decide_eq_false h3] | rw [h3] | skip
          refine CWp.skip ?_
          refine CWp.region ?_
          refine OWp.move rfl rfl ?_
          refine OWp.addI rfl rfl rfl rfl (by omega) ?_
          refine OWp.assign rfl rfl ?_
          refine OWp.nil ?_
          exact ⟨_, by omega, j + 1, ex_env rfl ⟨rfl, rfl, by omega, fun a h1 => by by_cases e : a = j; exact e ▸ ⟨by omega, by omega⟩; exact ha a (by omega)⟩⟩
      · skip
        first | rw [decide_eq_true hg2] | rw [decide_eq_false hg2] | rw [hg2] | skip
        try simp only [Decidable.not_not] at hg2
        refine OWp.leave rfl ?_
        refine OWp.leave rfl ?_
        refine OWp.leave rfl ?_
        refine OWp.leave rfl ?_
        refine OWp.pickT rfl rfl rfl ?_
        refine OWp.nil ?_
        refine CWp.condT rfl ?_
        refine CWp.seq ?_
        refine CWp.region ?_
        refine OWp.assign rfl rfl ?_
        refine OWp.nil ?_
        refine CWp.ret ?_
        refine RetQ.one (by first | exact .inl rfl | exact .inr rfl) rfl rfl ?_
        exact h false ⟨fun e => (by cases e), fun hr => (by have := hr.2.2 j (by omega); omega)⟩
    · skip
      first | rw [decide_eq_true h1] | rw [decide_eq_false h1] | rw [h1] | skip
      refine CWp.exit ?_
      refine CWp.seq ?_
      refine CWp.region ?_
      refine OWp.move rfl rfl ?_
      refine OWp.lenS rfl rfl rfl rfl rfl Tryd.underlying9 rfl ?_
      refine OWp.binI rfl rfl rfl rfl rfl ?_
      refine OWp.move rfl rfl ?_
      first | refine OWp.byT rfl (fun hg2 => ?_) (fun hg2 => ?_) | refine OWp.byBT rfl (fun hg2 => ?_) (fun hg2 => ?_)
      · skip
        first | rw [decide_eq_true hg2] | rw [decide_eq_false hg2] | rw [hg2] | skip
        try simp only [Decidable.not_not] at hg2
        refine OWp.move rfl rfl ?_
        refine OWp.lenS rfl rfl rfl rfl rfl Tryd.underlying9 rfl ?_
        refine OWp.binI rfl rfl rfl rfl rfl ?_
        refine OWp.pickT rfl rfl rfl ?_
        refine OWp.assign rfl rfl ?_
        refine OWp.nil ?_
        refine CWp.ret ?_
        refine RetQ.one (by first | exact .inl rfl | exact .inr rfl) rfl rfl ?_
        exact h _ ⟨fun e => ⟨by omega, by have := of_decide_eq_true e; omega, fun a h1 => ha a (by omega)⟩, fun hr => decide_eq_true (by have := hr.2.1; omega)⟩
      · skip
        first | rw [decide_eq_true hg2] | rw [decide_eq_false hg2] | rw [hg2] | skip
        try simp only [Decidable.not_not] at hg2
        refine OWp.leave rfl ?_
        refine OWp.leave rfl ?_
        refine OWp.leave rfl ?_
        refine OWp.pickF rfl rfl rfl ?_
        refine OWp.assign rfl rfl ?_
        refine OWp.nil ?_
        refine CWp.ret ?_
        refine RetQ.one (by first | exact .inl rfl | exact .inr rfl) rfl rfl ?_
        exact h false ⟨fun e => (by cases e), fun hr => (by have := hr.1; omega)⟩

theorem path_spec (s : ByteArray) (hs : s.size ≤ 9000000) (H : AH) (Q : Value → AH → Prop) (h : ∀ H' b, Keeps H H' → (b = true ↔ NameA s ∧ noB s 58) → Q (.bool b) H') (hw : WfH H) : FWp Tryd.prog prims 35 [.string s] H Q := by
  refine FWp.enter (rfl) Tryd.func35 rfl (e := [.string s, undef, undef, undef, undef, undef, undef, undef, undef, undef, undef, undef, undef, undef, undef, undef]) rfl ?_
  refine CWp.seq ?_
  refine CWp.region ?_
  refine OWp.assign rfl rfl ?_
  refine OWp.nil ?_
  refine CWp.seq ?_
  refine CWp.seq ?_
  refine CWp.region ?_
  refine OWp.assign rfl rfl ?_
  refine OWp.nil ?_
  refine CWp.block ?_
  refine CWp.loop (fun k e H' => ∃ (j : Nat) (g : Nat → Value), e = [.string s, g 1, g 2, .int .i64 (j : Nat), g 4, g 5, g 6, g 7, g 8, g 9, g 10, g 11, g 12, g 13, g 14, g 15] ∧ k = s.size - j ∧ H' = H ∧ j ≤ s.size ∧ ∀ a : Nat, a < j → byteAt s (a : Nat) ≠ 58) ?_ ?_
  · exact ⟨_, 0, ex_env rfl ⟨rfl, rfl, by omega, fun a h => by omega⟩⟩
  · rintro k e H' ⟨j, g, rfl, rfl, rfl, hj, ha⟩
    refine CWp.seq ?_
    refine CWp.seq ?_
    refine CWp.region ?_
    refine OWp.move rfl rfl ?_
    refine OWp.move rfl rfl ?_
    refine OWp.lenS rfl rfl rfl rfl rfl Tryd.underlying9 rfl ?_
    refine OWp.binI rfl rfl rfl rfl rfl ?_
    refine OWp.nil ?_
    first | refine CWp.condP rfl (fun h1 => ?_) (fun h1 => ?_) | refine CWp.cond rfl (fun h1 => ?_) (fun h1 => ?_)
    · skip
      first | rw [decide_eq_true h1] | rw [decide_eq_false h1] | rw [h1] | skip
      refine CWp.skip ?_
      refine CWp.seq ?_
      refine CWp.block ?_
      refine CWp.seq ?_
      refine CWp.region ?_
      refine OWp.move rfl rfl ?_
      refine OWp.move rfl rfl ?_
      refine OWp.indexS rfl rfl Tryd.underlying9 rfl rfl (by omega) (by omega) ?_
      refine OWp.binI rfl rfl rfl rfl rfl ?_
      refine OWp.nil ?_
      first | refine CWp.condP rfl (fun h2 => ?_) (fun h2 => ?_) | refine CWp.cond rfl (fun h2 => ?_) (fun h2 => ?_)
      · skip
        first | rw [decide_eq_true h2] | rw [decide_eq_false h2] | rw [h2] | skip
        refine CWp.seq ?_
        refine CWp.region ?_
        refine OWp.assign rfl rfl ?_
        refine OWp.nil ?_
        refine CWp.ret ?_
        refine RetQ.one (by first | exact .inl rfl | exact .inr rfl) rfl rfl ?_
        exact h _ false (Keeps.refl hw) ⟨fun e => (by cases e), fun hr => absurd (by assumption) (hr.2 j (by omega))⟩
      · skip
        first | rw [decide_eq_true h2] | rw [decide_eq_false h2] | rw [h2] | skip
        refine CWp.skip ?_
        refine CWp.region ?_
        refine OWp.move rfl rfl ?_
        refine OWp.addI rfl rfl rfl rfl (by omega) ?_
        refine OWp.assign rfl rfl ?_
        refine OWp.nil ?_
        exact ⟨_, by omega, j + 1, ex_env rfl ⟨rfl, rfl, by omega, fun a h1 => by by_cases e : a = j; exact e ▸ (by assumption); exact ha a (by omega)⟩⟩
    · skip
      first | rw [decide_eq_true h1] | rw [decide_eq_false h1] | rw [h1] | skip
      refine CWp.exit ?_
      refine CWp.seq ?_
      refine CWp.region ?_
      refine OWp.move rfl rfl ?_
      refine OWp.call rfl rfl rfl rfl ?_
      refine nameR_spec s hs _ _ ?_ hw
      intro H2 b2 hk2 hb2
      refine OWp.norm ?_
      refine OWp.assign rfl rfl ?_
      refine OWp.nil ?_
      refine CWp.ret ?_
      refine RetQ.one (by first | exact .inl rfl | exact .inr rfl) rfl rfl ?_
      exact h _ b2 hk2 ⟨fun e => ⟨(name_same s).2 (hb2.1 e), fun a h1 => ha a (by omega)⟩, fun hr => hb2.2 ((name_same s).1 hr.1)⟩

theorem right_spec (m : Mk) (hm : SzM m) (H : AH) (Q : Value → AH → Prop) (h : ∀ H' b, Keeps H H' → (b = true ↔ RightM m) → Q (.bool b) H') (hw : WfH H) : FWp Tryd.prog prims 12 [m.v] H Q := by
  have hh := Has.start hw
  obtain ⟨hm1, hm2, hm3⟩ := hm
  refine FWp.enter (rfl) Tryd.func12 rfl (e := [m.v, undef, undef, undef, undef, undef, undef, undef, undef, undef, undef, undef, undef, undef, undef, undef, undef, undef, undef, undef, undef, undef, undef, undef, undef, undef, undef, undef, undef, undef, undef, undef, undef, undef, undef, undef, undef, undef, undef, undef, undef, undef, undef, undef, undef, undef, undef, undef, undef, undef, undef, undef, undef]) rfl ?_
  refine CWp.seq ?_
  refine CWp.region ?_
  refine OWp.boxM _ hh rfl rfl rfl (fun H1 b1 hh => ?_)
  refine OWp.norm ?_
  refine OWp.assign rfl rfl ?_
  refine OWp.nil ?_
  refine CWp.seq ?_
  refine CWp.region ?_
  refine OWp.assign rfl rfl ?_
  refine OWp.nil ?_
  refine CWp.cut (fun e H' => ∃ (b1 : Nat) (g : Nat → Value), e = [m.v, .pointer (some ⟨b1, 0, none⟩), g 2, .int .i64 (leastM m.kind), g 4, g 5, g 6, g 7, g 8, g 9, g 10, g 11, g 12, g 13, g 14, g 15, g 16, g 17, g 18, g 19, g 20, g 21, g 22, g 23, g 24, g 25, g 26, g 27, g 28, g 29, g 30, g 31, g 32, g 33, g 34, g 35, g 36, g 37, g 38, g 39, g 40, g 41, g 42, g 43, g 44, g 45, g 46, g 47, g 48, g 49, g 50, g 51, g 52] ∧ Has H H' [(b1, mkO m)] ∧ True) ?_ ?_
  · skip
    refine CWp.seq ?_
    refine CWp.region ?_
    refine OWp.fieldN 0 (by decide) rfl rfl rfl ?_
    first | refine OWp.loadI (k := 0) hh rfl rfl rfl rfl rfl ?_ | refine OWp.loadI (k := 1) hh rfl rfl rfl rfl rfl ?_ | refine OWp.loadI (k := 2) hh rfl rfl rfl rfl rfl ?_
    refine OWp.binI rfl rfl rfl rfl rfl ?_
    refine OWp.nil ?_
    first | refine CWp.condP rfl (fun h0 => ?_) (fun h0 => ?_) | refine CWp.cond rfl (fun h0 => ?_) (fun h0 => ?_)
    · skip
      first | rw [decide_eq_true h0] | rw [decide_eq_false h0] | rw [h0] | skip
      refine CWp.region ?_
      refine OWp.assign rfl rfl ?_
      refine OWp.nil ?_
      rw [show (1 : Int) = leastM m.kind by unfold leastM; rw [if_pos h0]]
      exact ⟨b1, ex_env rfl ⟨hh, trivial⟩⟩
    · skip
      first | rw [decide_eq_true h0] | rw [decide_eq_false h0] | rw [h0] | skip
      refine CWp.skip ?_
      rw [show (0 : Int) = leastM m.kind by unfold leastM; rw [if_neg h0]]
      exact ⟨b1, ex_env rfl ⟨hh, trivial⟩⟩
  · rintro e H' ⟨b1, g, rfl, hh, _⟩
    refine CWp.seq ?_
    refine CWp.region ?_
    refine OWp.fieldN 0 (by decide) rfl rfl rfl ?_
    first | refine OWp.loadI (k := 0) hh rfl rfl rfl rfl rfl ?_ | refine OWp.loadI (k := 1) hh rfl rfl rfl rfl rfl ?_ | refine OWp.loadI (k := 2) hh rfl rfl rfl rfl rfl ?_
    refine OWp.binI rfl rfl rfl rfl rfl ?_
    refine OWp.move rfl rfl ?_
    first | refine OWp.byT rfl (fun hg2 => ?_) (fun hg2 => ?_) | refine OWp.byBT rfl (fun hg2 => ?_) (fun hg2 => ?_)
    · skip
      first | rw [decide_eq_true hg2] | rw [decide_eq_false hg2] | rw [hg2] | skip
      try simp only [Decidable.not_not] at hg2
      refine OWp.fieldN 0 (by decide) rfl rfl rfl ?_
      first | refine OWp.loadI (k := 0) hh rfl rfl rfl rfl rfl ?_ | refine OWp.loadI (k := 1) hh rfl rfl rfl rfl rfl ?_ | refine OWp.loadI (k := 2) hh rfl rfl rfl rfl rfl ?_
      refine OWp.binI rfl rfl rfl rfl rfl ?_
      refine OWp.pickT rfl rfl rfl ?_
      refine OWp.move rfl rfl ?_
      first | refine OWp.byT rfl (fun hg3 => ?_) (fun hg3 => ?_) | refine OWp.byBT rfl (fun hg3 => ?_) (fun hg3 => ?_)
      · skip
        first | rw [decide_eq_true hg3] | rw [decide_eq_false hg3] | rw [hg3] | skip
        try simp only [Decidable.not_not] at hg3
        refine OWp.fieldN 1 (by decide) rfl rfl rfl ?_
        first | refine OWp.loadS (k := 0) hh rfl rfl rfl rfl rfl ?_ | refine OWp.loadS (k := 1) hh rfl rfl rfl rfl rfl ?_ | refine OWp.loadS (k := 2) hh rfl rfl rfl rfl rfl ?_
        refine OWp.call rfl rfl rfl rfl ?_
        refine trim_spec _ (by assumption) ?_
        refine OWp.norm ?_
        refine OWp.binS rfl rfl rfl rfl rfl ?_
        refine OWp.pickT rfl rfl rfl ?_
        refine OWp.move rfl rfl ?_
        first | refine OWp.byT rfl (fun hg4 => ?_) (fun hg4 => ?_) | refine OWp.byBT rfl (fun hg4 => ?_) (fun hg4 => ?_)
        · skip
          first | rw [decide_eq_true hg4] | rw [decide_eq_false hg4] | rw [hg4] | skip
          try simp only [Decidable.not_not] at hg4
          refine OWp.fieldN 2 (by decide) rfl rfl rfl ?_
          first | refine OWp.loadS (k := 0) hh rfl rfl rfl rfl rfl ?_ | refine OWp.loadS (k := 1) hh rfl rfl rfl rfl rfl ?_ | refine OWp.loadS (k := 2) hh rfl rfl rfl rfl rfl ?_
          refine OWp.call rfl rfl rfl rfl ?_
          refine styled_spec _ (by assumption) _ _ ?_ hh.wf
          intro H2 b2 hk2 hb2
          replace hh := hh.after hk2
          refine OWp.norm ?_
          refine OWp.pickT rfl rfl rfl ?_
          refine OWp.move rfl rfl ?_
          first | refine OWp.byT rfl (fun hg5 => ?_) (fun hg5 => ?_) | refine OWp.byBT rfl (fun hg5 => ?_) (fun hg5 => ?_)
          · skip
            first | rw [decide_eq_true hg5] | rw [decide_eq_false hg5] | rw [hg5] | skip
            try simp only [Decidable.not_not] at hg5
            refine OWp.fieldN 3 (by decide) rfl rfl rfl ?_
            first | refine OWp.loadS (k := 0) hh rfl rfl rfl rfl rfl ?_ | refine OWp.loadS (k := 1) hh rfl rfl rfl rfl rfl ?_ | refine OWp.loadS (k := 2) hh rfl rfl rfl rfl rfl ?_
            refine OWp.call rfl rfl rfl rfl ?_
            refine nameA_spec _ (by assumption) _ _ ?_ hh.wf
            intro H3 b3 hk3 hb3
            replace hh := hh.after hk3
            refine OWp.norm ?_
            refine OWp.pickT rfl rfl rfl ?_
            refine OWp.move rfl rfl ?_
            first | refine OWp.byT rfl (fun hg6 => ?_) (fun hg6 => ?_) | refine OWp.byBT rfl (fun hg6 => ?_) (fun hg6 => ?_)
            · skip
              first | rw [decide_eq_true hg6] | rw [decide_eq_false hg6] | rw [hg6] | skip
              try simp only [Decidable.not_not] at hg6
              refine OWp.fieldN 0 (by decide) rfl rfl rfl ?_
              first | refine OWp.loadI (k := 0) hh rfl rfl rfl rfl rfl ?_ | refine OWp.loadI (k := 1) hh rfl rfl rfl rfl rfl ?_ | refine OWp.loadI (k := 2) hh rfl rfl rfl rfl rfl ?_
              refine OWp.binI rfl rfl rfl rfl rfl ?_
              refine OWp.move rfl rfl ?_
              first | refine OWp.byF rfl (fun hg7 => ?_) (fun hg7 => ?_) | refine OWp.byBF rfl (fun hg7 => ?_) (fun hg7 => ?_)
              · skip
                first | rw [decide_eq_true hg7] | rw [decide_eq_false hg7] | rw [hg7] | skip
                try simp only [Decidable.not_not] at hg7
                refine OWp.fieldN 3 (by decide) rfl rfl rfl ?_
                first | refine OWp.loadS (k := 0) hh rfl rfl rfl rfl rfl ?_ | refine OWp.loadS (k := 1) hh rfl rfl rfl rfl rfl ?_ | refine OWp.loadS (k := 2) hh rfl rfl rfl rfl rfl ?_
                refine OWp.call rfl rfl rfl rfl ?_
                refine idx58_spec _ (fun i4 hi4 => ?_)
                refine OWp.norm ?_
                refine OWp.binI rfl rfl rfl rfl rfl ?_
                refine OWp.pickF rfl rfl rfl ?_
                refine OWp.pickT rfl rfl rfl ?_
                refine OWp.move rfl rfl ?_
                first | refine OWp.byT rfl (fun hg8 => ?_) (fun hg8 => ?_) | refine OWp.byBT rfl (fun hg8 => ?_) (fun hg8 => ?_)
                · skip
                  first | rw [decide_eq_true hg8] | rw [decide_eq_false hg8] | rw [hg8] | skip
                  try simp only [Decidable.not_not] at hg8
                  refine OWp.fieldN 4 (by decide) rfl rfl rfl ?_
                  first | refine OWp.loadI (k := 0) hh rfl rfl rfl rfl rfl ?_ | refine OWp.loadI (k := 1) hh rfl rfl rfl rfl rfl ?_ | refine OWp.loadI (k := 2) hh rfl rfl rfl rfl rfl ?_
                  refine OWp.move rfl rfl ?_
                  refine OWp.binI rfl rfl rfl rfl rfl ?_
                  refine OWp.pickT rfl rfl rfl ?_
                  refine OWp.move rfl rfl ?_
                  first | refine OWp.byT rfl (fun hg9 => ?_) (fun hg9 => ?_) | refine OWp.byBT rfl (fun hg9 => ?_) (fun hg9 => ?_)
                  · skip
                    first | rw [decide_eq_true hg9] | rw [decide_eq_false hg9] | rw [hg9] | skip
                    try simp only [Decidable.not_not] at hg9
                    refine OWp.fieldN 4 (by decide) rfl rfl rfl ?_
                    first | refine OWp.loadI (k := 0) hh rfl rfl rfl rfl rfl ?_ | refine OWp.loadI (k := 1) hh rfl rfl rfl rfl rfl ?_ | refine OWp.loadI (k := 2) hh rfl rfl rfl rfl rfl ?_
                    refine OWp.binI rfl rfl rfl rfl rfl ?_
                    refine OWp.pickT rfl rfl rfl ?_
                    refine OWp.assign rfl rfl ?_
                    refine OWp.nil ?_
                    refine CWp.ret ?_
                    refine RetQ.one (by first | exact .inl rfl | exact .inr rfl) rfl rfl ?_
                    exact h _ _ hh.keep ⟨fun e => ⟨by omega, by omega, (trimW_nil _).1 hg4, hb2.1 hg5, hb3.1 hg6, fun _ => hi4.1 hg8, by omega, of_decide_eq_true e⟩, fun hr => decide_eq_true hr.hi⟩
                  · skip
                    first | rw [decide_eq_true hg9] | rw [decide_eq_false hg9] | rw [hg9] | skip
                    try simp only [Decidable.not_not] at hg9
                    refine OWp.leave rfl ?_
                    refine OWp.leave rfl ?_
                    refine OWp.leave rfl ?_
                    refine OWp.pickF rfl rfl rfl ?_
                    refine OWp.assign rfl rfl ?_
                    refine OWp.nil ?_
                    refine CWp.ret ?_
                    refine RetQ.one (by first | exact .inl rfl | exact .inr rfl) rfl rfl ?_
                    exact h _ false hh.keep ⟨fun e => (by cases e), fun hr => (by have := hr.lo; omega)⟩
                · skip
                  first | rw [decide_eq_true hg8] | rw [decide_eq_false hg8] | rw [hg8] | skip
                  try simp only [Decidable.not_not] at hg8
                  refine OWp.leave rfl ?_
                  refine OWp.leave rfl ?_
                  refine OWp.leave rfl ?_
                  refine OWp.leave rfl ?_
                  refine OWp.pickF rfl rfl rfl ?_
                  refine OWp.move rfl rfl ?_
                  refine OWp.leave rfl ?_
                  refine OWp.leave rfl ?_
                  refine OWp.leave rfl ?_
                  refine OWp.pickF rfl rfl rfl ?_
                  refine OWp.assign rfl rfl ?_
                  refine OWp.nil ?_
                  refine CWp.ret ?_
                  refine RetQ.one (by first | exact .inl rfl | exact .inr rfl) rfl rfl ?_
                  exact h _ false hh.keep ⟨fun e => (by cases e), fun hr => (by exact absurd (hi4.2 (hr.path hg7)) hg8)⟩
              · skip
                first | rw [decide_eq_true hg7] | rw [decide_eq_false hg7] | rw [hg7] | skip
                try simp only [Decidable.not_not] at hg7
                refine OWp.leave rfl ?_
                refine OWp.leave rfl ?_
                refine OWp.leave rfl ?_
                refine OWp.leave rfl ?_
                refine OWp.pickT rfl rfl rfl ?_
                refine OWp.pickT rfl rfl rfl ?_
                refine OWp.move rfl rfl ?_
                refine OWp.fieldN 4 (by decide) rfl rfl rfl ?_
                first | refine OWp.loadI (k := 0) hh rfl rfl rfl rfl rfl ?_ | refine OWp.loadI (k := 1) hh rfl rfl rfl rfl rfl ?_ | refine OWp.loadI (k := 2) hh rfl rfl rfl rfl rfl ?_
                refine OWp.move rfl rfl ?_
                refine OWp.binI rfl rfl rfl rfl rfl ?_
                refine OWp.pickT rfl rfl rfl ?_
                refine OWp.move rfl rfl ?_
                first | refine OWp.byT rfl (fun hg8 => ?_) (fun hg8 => ?_) | refine OWp.byBT rfl (fun hg8 => ?_) (fun hg8 => ?_)
                · skip
                  first | rw [decide_eq_true hg8] | rw [decide_eq_false hg8] | rw [hg8] | skip
                  try simp only [Decidable.not_not] at hg8
                  refine OWp.fieldN 4 (by decide) rfl rfl rfl ?_
                  first | refine OWp.loadI (k := 0) hh rfl rfl rfl rfl rfl ?_ | refine OWp.loadI (k := 1) hh rfl rfl rfl rfl rfl ?_ | refine OWp.loadI (k := 2) hh rfl rfl rfl rfl rfl ?_
                  refine OWp.binI rfl rfl rfl rfl rfl ?_
                  refine OWp.pickT rfl rfl rfl ?_
                  refine OWp.assign rfl rfl ?_
                  refine OWp.nil ?_
                  refine CWp.ret ?_
                  refine RetQ.one (by first | exact .inl rfl | exact .inr rfl) rfl rfl ?_
                  exact h _ _ hh.keep ⟨fun e => ⟨by omega, by omega, (trimW_nil _).1 hg4, hb2.1 hg5, hb3.1 hg6, fun e3 => absurd e3 hg7, by omega, of_decide_eq_true e⟩, fun hr => decide_eq_true hr.hi⟩
                · skip
                  first | rw [decide_eq_true hg8] | rw [decide_eq_false hg8] | rw [hg8] | skip
                  try simp only [Decidable.not_not] at hg8
                  refine OWp.leave rfl ?_
                  refine OWp.leave rfl ?_
                  refine OWp.leave rfl ?_
                  refine OWp.pickF rfl rfl rfl ?_
                  refine OWp.assign rfl rfl ?_
                  refine OWp.nil ?_
                  refine CWp.ret ?_
                  refine RetQ.one (by first | exact .inl rfl | exact .inr rfl) rfl rfl ?_
                  exact h _ false hh.keep ⟨fun e => (by cases e), fun hr => (by have := hr.lo; omega)⟩
            · skip
              first | rw [decide_eq_true hg6] | rw [decide_eq_false hg6] | rw [hg6] | skip
              try simp only [Decidable.not_not] at hg6
              refine OWp.leave rfl ?_
              refine OWp.leave rfl ?_
              refine OWp.leave rfl ?_
              refine OWp.leave rfl ?_
              refine OWp.leave rfl ?_
              refine OWp.leave rfl ?_
              refine OWp.leave rfl ?_
              refine OWp.leave rfl ?_
              refine OWp.leave rfl ?_
              refine OWp.pickF rfl rfl rfl ?_
              refine OWp.move rfl rfl ?_
              refine OWp.leave rfl ?_
              refine OWp.leave rfl ?_
              refine OWp.leave rfl ?_
              refine OWp.leave rfl ?_
              refine OWp.pickF rfl rfl rfl ?_
              refine OWp.move rfl rfl ?_
              refine OWp.leave rfl ?_
              refine OWp.leave rfl ?_
              refine OWp.leave rfl ?_
              refine OWp.pickF rfl rfl rfl ?_
              refine OWp.assign rfl rfl ?_
              refine OWp.nil ?_
              refine CWp.ret ?_
              refine RetQ.one (by first | exact .inl rfl | exact .inr rfl) rfl rfl ?_
              exact h _ false hh.keep ⟨fun e => (by cases e), fun hr => (by have := hb3.2 hr.nam; rw [hg6] at this; cases this)⟩
          · skip
            first | rw [decide_eq_true hg5] | rw [decide_eq_false hg5] | rw [hg5] | skip
            try simp only [Decidable.not_not] at hg5
            refine OWp.leave rfl ?_
            refine OWp.leave rfl ?_
            refine OWp.leave rfl ?_
            refine OWp.pickF rfl rfl rfl ?_
            refine OWp.move rfl rfl ?_
            refine OWp.leave rfl ?_
            refine OWp.leave rfl ?_
            refine OWp.leave rfl ?_
            refine OWp.leave rfl ?_
            refine OWp.leave rfl ?_
            refine OWp.leave rfl ?_
            refine OWp.leave rfl ?_
            refine OWp.leave rfl ?_
            refine OWp.leave rfl ?_
            refine OWp.pickF rfl rfl rfl ?_
            refine OWp.move rfl rfl ?_
            refine OWp.leave rfl ?_
            refine OWp.leave rfl ?_
            refine OWp.leave rfl ?_
            refine OWp.leave rfl ?_
            refine OWp.pickF rfl rfl rfl ?_
            refine OWp.move rfl rfl ?_
            refine OWp.leave rfl ?_
            refine OWp.leave rfl ?_
            refine OWp.leave rfl ?_
            refine OWp.pickF rfl rfl rfl ?_
            refine OWp.assign rfl rfl ?_
            refine OWp.nil ?_
            refine CWp.ret ?_
            refine RetQ.one (by first | exact .inl rfl | exact .inr rfl) rfl rfl ?_
            exact h _ false hh.keep ⟨fun e => (by cases e), fun hr => (by have := hb2.2 hr.sty; rw [hg5] at this; cases this)⟩
        · skip
          first | rw [decide_eq_true hg4] | rw [decide_eq_false hg4] | rw [hg4] | skip
          try simp only [Decidable.not_not] at hg4
          refine OWp.leave rfl ?_
          refine OWp.leave rfl ?_
          refine OWp.leave rfl ?_
          refine OWp.pickF rfl rfl rfl ?_
          refine OWp.move rfl rfl ?_
          refine OWp.leave rfl ?_
          refine OWp.leave rfl ?_
          refine OWp.leave rfl ?_
          refine OWp.pickF rfl rfl rfl ?_
          refine OWp.move rfl rfl ?_
          refine OWp.leave rfl ?_
          refine OWp.leave rfl ?_
          refine OWp.leave rfl ?_
          refine OWp.leave rfl ?_
          refine OWp.leave rfl ?_
          refine OWp.leave rfl ?_
          refine OWp.leave rfl ?_
          refine OWp.leave rfl ?_
          refine OWp.leave rfl ?_
          refine OWp.pickF rfl rfl rfl ?_
          refine OWp.move rfl rfl ?_
          refine OWp.leave rfl ?_
          refine OWp.leave rfl ?_
          refine OWp.leave rfl ?_
          refine OWp.leave rfl ?_
          refine OWp.pickF rfl rfl rfl ?_
          refine OWp.move rfl rfl ?_
          refine OWp.leave rfl ?_
          refine OWp.leave rfl ?_
          refine OWp.leave rfl ?_
          refine OWp.pickF rfl rfl rfl ?_
          refine OWp.assign rfl rfl ?_
          refine OWp.nil ?_
          refine CWp.ret ?_
          refine RetQ.one (by first | exact .inl rfl | exact .inr rfl) rfl rfl ?_
          exact h _ false hh.keep ⟨fun e => (by cases e), fun hr => (by exact absurd ((trimW_nil _).2 hr.ind) hg4)⟩
      · skip
        first | rw [decide_eq_true hg3] | rw [decide_eq_false hg3] | rw [hg3] | skip
        try simp only [Decidable.not_not] at hg3
        refine OWp.leave rfl ?_
        refine OWp.leave rfl ?_
        refine OWp.leave rfl ?_
        refine OWp.leave rfl ?_
        refine OWp.pickF rfl rfl rfl ?_
        refine OWp.move rfl rfl ?_
        refine OWp.leave rfl ?_
        refine OWp.leave rfl ?_
        refine OWp.leave rfl ?_
        refine OWp.pickF rfl rfl rfl ?_
        refine OWp.move rfl rfl ?_
        refine OWp.leave rfl ?_
        refine OWp.leave rfl ?_
        refine OWp.leave rfl ?_
        refine OWp.pickF rfl rfl rfl ?_
        refine OWp.move rfl rfl ?_
        refine OWp.leave rfl ?_
        refine OWp.leave rfl ?_
        refine OWp.leave rfl ?_
        refine OWp.leave rfl ?_
        refine OWp.leave rfl ?_
        refine OWp.leave rfl ?_
        refine OWp.leave rfl ?_
        refine OWp.leave rfl ?_
        refine OWp.leave rfl ?_
        refine OWp.pickF rfl rfl rfl ?_
        refine OWp.move rfl rfl ?_
        refine OWp.leave rfl ?_
        refine OWp.leave rfl ?_
        refine OWp.leave rfl ?_
        refine OWp.leave rfl ?_
        refine OWp.pickF rfl rfl rfl ?_
        refine OWp.move rfl rfl ?_
        refine OWp.leave rfl ?_
        refine OWp.leave rfl ?_
        refine OWp.leave rfl ?_
        refine OWp.pickF rfl rfl rfl ?_
        refine OWp.assign rfl rfl ?_
        refine OWp.nil ?_
        refine CWp.ret ?_
        refine RetQ.one (by first | exact .inl rfl | exact .inr rfl) rfl rfl ?_
        exact h _ false hh.keep ⟨fun e => (by cases e), fun hr => (by have := hr.k3; omega)⟩
    · skip
      first | rw [decide_eq_true hg2] | rw [decide_eq_false hg2] | rw [hg2] | skip
      try simp only [Decidable.not_not] at hg2
      refine OWp.leave rfl ?_
      refine OWp.leave rfl ?_
      refine OWp.leave rfl ?_
      refine OWp.pickF rfl rfl rfl ?_
      refine OWp.move rfl rfl ?_
      refine OWp.leave rfl ?_
      refine OWp.leave rfl ?_
      refine OWp.leave rfl ?_
      refine OWp.leave rfl ?_
      refine OWp.pickF rfl rfl rfl ?_
      refine OWp.move rfl rfl ?_
      refine OWp.leave rfl ?_
      refine OWp.leave rfl ?_
      refine OWp.leave rfl ?_
      refine OWp.pickF rfl rfl rfl ?_
      refine OWp.move rfl rfl ?_
      refine OWp.leave rfl ?_
      refine OWp.leave rfl ?_
      refine OWp.leave rfl ?_
      refine OWp.pickF rfl rfl rfl ?_
      refine OWp.move rfl rfl ?_
      refine OWp.leave rfl ?_
      refine OWp.leave rfl ?_
      refine OWp.leave rfl ?_
      refine OWp.leave rfl ?_
      refine OWp.leave rfl ?_
      refine OWp.leave rfl ?_
      refine OWp.leave rfl ?_
      refine OWp.leave rfl ?_
      refine OWp.leave rfl ?_
      refine OWp.pickF rfl rfl rfl ?_
      refine OWp.move rfl rfl ?_
      refine OWp.leave rfl ?_
      refine OWp.leave rfl ?_
      refine OWp.leave rfl ?_
      refine OWp.leave rfl ?_
      refine OWp.pickF rfl rfl rfl ?_
      refine OWp.move rfl rfl ?_
      refine OWp.leave rfl ?_
      refine OWp.leave rfl ?_
      refine OWp.leave rfl ?_
      refine OWp.pickF rfl rfl rfl ?_
      refine OWp.assign rfl rfl ?_
      refine OWp.nil ?_
      refine CWp.ret ?_
      refine RetQ.one (by first | exact .inl rfl | exact .inr rfl) rfl rfl ?_
      exact h _ false hh.keep ⟨fun e => (by cases e), fun hr => (by have := hr.k1; omega)⟩

theorem text_spec (m : Mk) (hm : SzM m) (H : AH) (Q : Value → AH → Prop) (h : ∀ H' t, Keeps H H' → TextOf m t → Q (.string t) H') (hw : WfH H) : FWp Tryd.prog prims 11 [m.v] H Q := by
  have hh := Has.start hw
  obtain ⟨hm1, hm2, hm3⟩ := hm
  refine FWp.enter (rfl) Tryd.func11 rfl (e := [m.v, undef, undef, undef, undef, undef, undef, undef, undef, undef, undef, undef, undef, undef, undef, undef, undef, undef, undef, undef, undef, undef, undef, undef, undef, undef, undef, undef, undef, undef, undef, undef, undef, undef, undef]) rfl ?_
  refine CWp.seq ?_
  refine CWp.region ?_
  refine OWp.boxM _ hh rfl rfl rfl (fun H1 b1 hh => ?_)
  refine OWp.norm ?_
  refine OWp.assign rfl rfl ?_
  refine OWp.nil ?_
  refine CWp.seq ?_
  refine CWp.seq ?_
  refine CWp.region ?_
  first | refine OWp.loadM (k := 0) hh rfl rfl rfl rfl ?_ | refine OWp.loadM (k := 1) hh rfl rfl rfl rfl ?_ | refine OWp.loadM (k := 2) hh rfl rfl rfl rfl ?_
  refine OWp.call rfl rfl rfl rfl ?_
  refine right_spec m ⟨hm1, hm2, hm3⟩ _ _ ?_ hh.wf
  intro H2 b2 hk2 hb2
  replace hh := hh.after hk2
  refine OWp.norm ?_
  first | refine OWp.notD rfl rfl rfl ?_ | refine OWp.notB rfl rfl rfl ?_
  refine OWp.nil ?_
  first | refine CWp.condP rfl (fun h0 => ?_) (fun h0 => ?_) | refine CWp.cond rfl (fun h0 => ?_) (fun h0 => ?_)
  · skip
    first | rw [decide_eq_true h0] | rw [decide_eq_false h0] | rw [h0] | skip
    refine CWp.seq ?_
    refine CWp.region ?_
    refine OWp.assign rfl rfl ?_
    refine OWp.nil ?_
    refine CWp.ret ?_
    refine RetQ.one (by first | exact .inl rfl | exact .inr rfl) rfl rfl ?_
    exact h _ _ hh.keep ⟨fun hr => (by have := hb2.2 hr; simp_all), fun _ => rfl⟩
  · skip
    have hr : RightM m := hb2.1 (by simpa using h0)
    have hz1 := hr.sty.2.1
    have hz2 := hr.nam.hi
    have hz3 := itoaB_len hr.num0 hr.hi
    have hz4 := ahead_le m.kind
    have hz5 := behind_le m.kind
    have hz6 := betw_1 m.kind
    first | rw [decide_eq_true h0] | rw [decide_eq_false h0] | rw [h0] | skip
    refine CWp.skip ?_
    refine CWp.seq ?_
    refine CWp.region ?_
    refine OWp.fieldN 0 (by decide) rfl rfl rfl ?_
    first | refine OWp.loadI (k := 0) hh rfl rfl rfl rfl rfl ?_ | refine OWp.loadI (k := 1) hh rfl rfl rfl rfl rfl ?_ | refine OWp.loadI (k := 2) hh rfl rfl rfl rfl rfl ?_
    refine OWp.call rfl rfl rfl rfl ?_
    refine ends_spec _ _ _ ?_
    refine OWp.norm ?_
    refine OWp.move rfl rfl ?_
    refine OWp.extract rfl rfl rfl rfl ?_
    refine OWp.extract rfl rfl rfl rfl ?_
    refine OWp.extract rfl rfl rfl rfl ?_
    refine OWp.assign rfl rfl ?_
    refine OWp.assign rfl rfl ?_
    refine OWp.assign rfl rfl ?_
    refine OWp.nil ?_
    refine CWp.seq ?_
    refine CWp.drawnN (by kernel_rfl) ?_
    have hhS := hh
    have hkS := Keeps.refl hh.wf
    refine OWp.fieldN 1 (by decide) rfl rfl rfl ?_
    first | refine OWp.loadS (k := 0) hh rfl rfl rfl rfl rfl ?_ | refine OWp.loadS (k := 1) hh rfl rfl rfl rfl rfl ?_ | refine OWp.loadS (k := 2) hh rfl rfl rfl rfl rfl ?_
    refine OWp.fieldN 2 (by decide) rfl rfl rfl ?_
    first | refine OWp.loadS (k := 0) hh rfl rfl rfl rfl rfl ?_ | refine OWp.loadS (k := 1) hh rfl rfl rfl rfl rfl ?_ | refine OWp.loadS (k := 2) hh rfl rfl rfl rfl rfl ?_
    refine OWp.catS rfl rfl rfl rfl (by first | omega | (simp only [size_app, sz_sp]; omega)) ?_
    refine OWp.catS rfl rfl rfl rfl (by first | omega | (simp only [size_app, sz_sp]; omega)) ?_
    refine OWp.move rfl rfl ?_
    refine OWp.catS rfl rfl rfl rfl (by first | omega | (simp only [size_app, sz_sp]; omega)) ?_
    refine OWp.fieldN 3 (by decide) rfl rfl rfl ?_
    first | refine OWp.loadS (k := 0) hh rfl rfl rfl rfl rfl ?_ | refine OWp.loadS (k := 1) hh rfl rfl rfl rfl rfl ?_ | refine OWp.loadS (k := 2) hh rfl rfl rfl rfl rfl ?_
    refine OWp.catS rfl rfl rfl rfl (by first | omega | (simp only [size_app, sz_sp]; omega)) ?_
    refine OWp.move rfl rfl ?_
    refine OWp.catS rfl rfl rfl rfl (by first | omega | (simp only [size_app, sz_sp]; omega)) ?_
    refine OWp.fieldN 4 (by decide) rfl rfl rfl ?_
    first | refine OWp.loadI (k := 0) hh rfl rfl rfl rfl rfl ?_ | refine OWp.loadI (k := 1) hh rfl rfl rfl rfl rfl ?_ | refine OWp.loadI (k := 2) hh rfl rfl rfl rfl rfl ?_
    refine OWp.call rfl rfl rfl rfl ?_
    refine itoa_spec _ (by have := hr.num0; have := hr.hi; omega) ?_
    refine OWp.norm ?_
    refine OWp.catS rfl rfl rfl rfl (by first | omega | (simp only [size_app, sz_sp]; omega)) ?_
    refine OWp.move rfl rfl ?_
    refine OWp.catS rfl rfl rfl rfl (by first | omega | (simp only [size_app, sz_sp]; omega)) ?_
    refine OWp.assign rfl rfl ?_
    refine OWp.nil ?_
    refine ⟨still_all (L := [.pointer (some ⟨b1, 1, none⟩), .pointer (some ⟨b1, 2, none⟩), .pointer (some ⟨b1, 3, none⟩), .pointer (some ⟨b1, 4, none⟩)]) rfl (by simp only [List.all_cons, List.all_nil, Bool.and_true, Bool.and_eq_true]; first | rfl | (refine ⟨?_, ?_, ?_, ?_⟩ <;> first | rfl | exact still_has (k := 0) hhS rfl hkS | exact still_has (k := 1) hhS rfl hkS | exact still_has (k := 2) hhS rfl hkS) | exact still_has (k := 0) hhS rfl hkS | exact still_has (k := 1) hhS rfl hkS | exact still_has (k := 2) hhS rfl hkS), ?_⟩
    refine CWp.ret ?_
    refine RetQ.one (by first | exact .inl rfl | exact .inr rfl) rfl rfl ?_
    exact h _ _ hh.keep ⟨fun _ => rfl, fun hn => absurd hr hn⟩

theorem cutL_spec (s : ByteArray) (hs : s.size ≤ 9000000) (H : AH) (Q : Value → AH → Prop) (h : ∀ style body b, CutAt s style body → style.size ≤ s.size → body.size ≤ s.size → Q (.tuple #[.string style, .string body, .bool b]) H) : FWp Tryd.prog prims 49 [.string s, .string ⟨#[32]⟩] H Q := by
  refine FWp.enter (rfl) Tryd.func49 rfl (e := [.string s, .string ⟨#[32]⟩, undef, undef, undef, undef, undef, undef, undef, undef, undef, undef, undef, undef, undef, undef, undef, undef, undef, undef, undef, undef, undef]) rfl ?_
  refine CWp.seq ?_
  refine CWp.region ?_
  refine OWp.assign rfl rfl ?_
  refine OWp.assign rfl rfl ?_
  refine OWp.assign rfl rfl ?_
  refine OWp.nil ?_
  refine CWp.seq ?_
  refine CWp.seq ?_
  refine CWp.region ?_
  refine OWp.move rfl rfl ?_
  refine OWp.move rfl rfl ?_
  refine OWp.call rfl rfl rfl rfl ?_
  refine idx32_spec s ?_
  have hz := sz_sp
  generalize hix : Lib.indexByte s.data.toList 32 = ix
  refine OWp.norm ?_
  refine OWp.assign rfl rfl ?_
  refine OWp.nil ?_
  refine CWp.seq ?_
  refine CWp.region ?_
  refine OWp.move rfl rfl ?_
  refine OWp.binI rfl rfl rfl rfl rfl ?_
  refine OWp.nil ?_
  first | refine CWp.condP rfl (fun h0 => ?_) (fun h0 => ?_) | refine CWp.cond rfl (fun h0 => ?_) (fun h0 => ?_)
  · skip
    obtain ⟨o, rfl⟩ := Int.eq_ofNat_of_zero_le h0
    have hc := cut_at s o hix
    first | rw [decide_eq_true h0] | rw [decide_eq_false h0] | rw [h0] | skip
    refine CWp.seq ?_
    refine CWp.drawn (by kernel_rfl) ?_
    refine OWp.move rfl rfl ?_
    refine OWp.move rfl rfl ?_
    refine OWp.sliceS rfl rfl Tryd.underlying9 rfl rfl rfl (by omega) (by omega) (by omega) ?_
    refine OWp.move rfl rfl ?_
    refine OWp.move rfl rfl ?_
    refine OWp.move rfl rfl ?_
    refine OWp.lenS rfl rfl rfl rfl rfl Tryd.underlying9 rfl ?_
    refine OWp.addI rfl rfl rfl rfl (by omega) ?_
    refine OWp.sliceS rfl rfl Tryd.underlying9 rfl rfl rfl (by omega) (by omega) (by omega) ?_
    refine OWp.assign rfl rfl ?_
    refine OWp.assign rfl rfl ?_
    refine OWp.assign rfl rfl ?_
    refine OWp.nil ?_
    refine CWp.ret ?_
    refine RetQ.three (by first | exact .inl rfl | exact .inr rfl) rfl rfl rfl rfl rfl rfl rfl ?_
    exact Q_val (h (s.extract 0 o) (s.extract (o + 1) s.size) true hc.2 (ext_le _ _ _) (ext_le _ _ _)) (by rw [show ((o : Int) + ((⟨#[32]⟩ : ByteArray).size : Int)).toNat = o + 1 by rw [hz]; omega]; rfl)
  · skip
    first | rw [decide_eq_true h0] | rw [decide_eq_false h0] | rw [h0] | skip
    refine CWp.skip ?_
    refine CWp.seq ?_
    refine CWp.region ?_
    refine OWp.move rfl rfl ?_
    refine OWp.assign rfl rfl ?_
    refine OWp.assign rfl rfl ?_
    refine OWp.assign rfl rfl ?_
    refine OWp.nil ?_
    refine CWp.ret ?_
    refine RetQ.three (by first | exact .inl rfl | exact .inr rfl) rfl rfl rfl rfl rfl rfl rfl ?_
    exact h s ⟨#[]⟩ false (cut_no s (by omega)) (Nat.le_refl _) (Nat.zero_le _)

theorem cut_spec (s : ByteArray) (hs : s.size ≤ 9000000) (H : AH) (Q : Value → AH → Prop) (h : ∀ style body b, CutAt s style body → style.size ≤ s.size → body.size ≤ s.size → Q (.tuple #[.string style, .string body, .bool b]) H) : FWp Tryd.prog prims 26 [.string s, .string ⟨#[32]⟩] H Q := by
  refine FWp.enter (rfl) Tryd.func26 rfl (e := [.string s, .string ⟨#[32]⟩, undef, undef, undef, undef, undef, undef, undef, undef, undef, undef, undef]) rfl ?_
  refine CWp.seq ?_
  refine CWp.region ?_
  refine OWp.assign rfl rfl ?_
  refine OWp.assign rfl rfl ?_
  refine OWp.assign rfl rfl ?_
  refine OWp.nil ?_
  refine CWp.seq ?_
  refine CWp.region ?_
  refine OWp.move rfl rfl ?_
  refine OWp.move rfl rfl ?_
  refine OWp.call rfl rfl rfl rfl ?_
  refine cutL_spec s hs _ _ (fun style body bb hc hz1 hz2 => ?_)
  refine OWp.norm ?_
  refine OWp.extract rfl rfl rfl rfl ?_
  refine OWp.extract rfl rfl rfl rfl ?_
  refine OWp.extract rfl rfl rfl rfl ?_
  refine OWp.assign rfl rfl ?_
  refine OWp.assign rfl rfl ?_
  refine OWp.assign rfl rfl ?_
  refine OWp.nil ?_
  refine CWp.ret ?_
  refine RetQ.three (by first | exact .inl rfl | exact .inr rfl) rfl rfl rfl rfl rfl rfl rfl ?_
  exact h _ _ _ hc hz1 hz2

end Go.Proofs.YtllokljpacpafaaDoor.Ev
