import Derived.Test.YtofigleaealbjaaGreatDoorEvM1
import Derived.Test.YtofigleaealbjaaGreatDoorEvRefP
namespace Go.Proofs.YtofigleaealbjaaGreatDoor.Ev
open Go
set_option linter.unusedVariables false
set_option linter.unusedSimpArgs false
set_option maxHeartbeats 2000000
theorem trimL_spec (s : ByteArray) (H : AH) (Q : Value → AH → Prop) (h : Q (.string (trimL s)) H) : FWp Tryz.prog prims 26 [.string s, .string ⟨#[32, 9]⟩] H Q :=
  FWp.prim (g := primTrimL) rfl (by simp only [primTrimL]; rw [if_pos (by decide)]; rfl) h
theorem trimB_spec (s : ByteArray) (H : AH) (Q : Value → AH → Prop) (h : Q (.string (trimC s ⟨#[92]⟩)) H) : FWp Tryz.prog prims 26 [.string s, .string ⟨#[92]⟩] H Q :=
  FWp.prim (g := primTrimL) rfl (by simp only [primTrimL]; rw [if_pos (by decide)]; rfl) h

theorem parts_spec (s : ByteArray) (hs : s.size ≤ 9000000) (H : AH) (Q : Value → AH → Prop) (h : Q (.tuple #[.string (headA s), .string (trimL s)]) H) : FWp Tryz.prog prims 24 [.string s] H Q := by
  have hz := trimL_size s
  refine FWp.enter (rfl) Tryz.func24 rfl (e := [.string s, undef, undef, undef, undef, undef, undef, undef, undef, undef, undef, undef, undef, undef, undef]) rfl ?_
  refine CWp.seq ?_
  refine CWp.region ?_
  refine OWp.assign rfl rfl ?_
  refine OWp.assign rfl rfl ?_
  refine OWp.nil ?_
  refine CWp.seq ?_
  refine CWp.region ?_
  refine OWp.move rfl rfl ?_
  refine OWp.call rfl rfl rfl rfl ?_
  refine trimL_spec _ _ _ ?_
  refine OWp.norm ?_
  refine OWp.assign rfl rfl ?_
  refine OWp.nil ?_
  refine CWp.seq ?_
  refine CWp.region ?_
  refine OWp.move rfl rfl ?_
  refine OWp.move rfl rfl ?_
  refine OWp.lenS rfl rfl rfl rfl rfl Tryz.underlying9 rfl ?_
  refine OWp.move rfl rfl ?_
  refine OWp.lenS rfl rfl rfl rfl rfl Tryz.underlying9 rfl ?_
  refine OWp.subI rfl rfl rfl rfl (by omega) ?_
  refine OWp.sliceS rfl rfl Tryz.underlying9 rfl rfl rfl (by omega) (by omega) (by omega) ?_
  refine OWp.move rfl rfl ?_
  refine OWp.assign rfl rfl ?_
  refine OWp.assign rfl rfl ?_
  refine OWp.nil ?_
  refine CWp.ret ?_
  refine RetQ.two (by first | exact .inl rfl | exact .inr rfl) rfl rfl rfl rfl rfl ?_
  exact h

theorem refName_spec (s : ByteArray) (hs : s.size ≤ 9000000) (H : AH) (Q : Value → AH → Prop) (h : ∀ H' x b, Keeps H H' → (b = true ↔ RefA s) → (b = true → x = midA s) → (b = false → x = ⟨#[]⟩) → Q (.tuple #[.string x, .bool b]) H') (hw : WfH H) : FWp Tryz.prog prims 25 [.string s] H Q := by
  have hp : ∀ (x : ByteArray) (b : Bool), (PrefB s LL → x = s.extract 2 s.size ∧ b = true) → (¬ PrefB s LL → x = s ∧ b = false) → x.size ≤ s.size := fun x b k1 k2 => by
      by_cases hh : PrefB s LL
      · rw [(k1 hh).1]; exact ext_le _ _ _
      · rw [(k2 hh).1]; exact Nat.le_refl _
  refine FWp.enter (rfl) Tryz.func25 rfl (e := [.string s, undef, undef, undef, undef, undef, undef, undef, undef, undef, undef, undef, undef, undef, undef, undef, undef, undef, undef, undef, undef, undef, undef, undef, undef, undef, undef, undef]) rfl ?_
  refine CWp.seq ?_
  refine CWp.region ?_
  refine OWp.assign rfl rfl ?_
  refine OWp.assign rfl rfl ?_
  refine OWp.nil ?_
  refine CWp.seq ?_
  refine CWp.region ?_
  refine OWp.move rfl rfl ?_
  refine OWp.call rfl rfl rfl rfl ?_
  refine cutPrefixV_spec s LL hs (show (2 : Nat) ≤ 9000000 by omega) _ _ (fun x1 b1 k1 k2 => ?_)
  have hx1 := hp x1 b1 k1 k2
  refine OWp.norm ?_
  refine OWp.move rfl rfl ?_
  refine OWp.extract rfl rfl rfl rfl ?_
  refine OWp.extract rfl rfl rfl rfl ?_
  refine OWp.assign rfl rfl ?_
  refine OWp.assign rfl rfl ?_
  refine OWp.nil ?_
  refine CWp.seq ?_
  refine CWp.region ?_
  refine OWp.move rfl rfl ?_
  refine OWp.call rfl rfl rfl rfl ?_
  refine cutSuffixV_spec x1 GG (by omega) (show (2 : Nat) ≤ 9000000 by omega) _ _ (fun x2 b2 j1 j2 => ?_)
  have hx2 : x2.size ≤ x1.size := by
      by_cases hh : SufB x1 GG
      · rw [(j1 hh).1]; exact ext_le _ _ _
      · rw [(j2 hh).1]; exact Nat.le_refl _
  refine OWp.norm ?_
  refine OWp.move rfl rfl ?_
  refine OWp.extract rfl rfl rfl rfl ?_
  refine OWp.extract rfl rfl rfl rfl ?_
  refine OWp.assign rfl rfl ?_
  refine OWp.assign rfl rfl ?_
  refine OWp.nil ?_
  refine CWp.seq ?_
  refine CWp.seq ?_
  refine CWp.region ?_
  refine OWp.move rfl rfl ?_
  first | refine OWp.notD rfl rfl rfl ?_ | refine OWp.notB rfl rfl rfl ?_
  refine OWp.move rfl rfl ?_
  first | refine OWp.byF rfl (fun hg0 => ?_) (fun hg0 => ?_) | refine OWp.byBF rfl (fun hg0 => ?_) (fun hg0 => ?_)
  · skip
    first | rw [decide_eq_true hg0] | rw [decide_eq_false hg0] | rw [hg0] | skip
    try simp only [Decidable.not_not] at hg0
    refine OWp.move rfl rfl ?_
    first | refine OWp.notD rfl rfl rfl ?_ | refine OWp.notB rfl rfl rfl ?_
    refine OWp.pickF rfl rfl rfl ?_
    refine OWp.move rfl rfl ?_
    first | refine OWp.byF rfl (fun hg1 => ?_) (fun hg1 => ?_) | refine OWp.byBF rfl (fun hg1 => ?_) (fun hg1 => ?_)
    · skip
      first | rw [decide_eq_true hg1] | rw [decide_eq_false hg1] | rw [hg1] | skip
      try simp only [Decidable.not_not] at hg1
      refine OWp.move rfl rfl ?_
      refine OWp.call rfl rfl rfl rfl ?_
      refine nameA_spec x2 (by omega) _ _ ?_ hw
      intro Hn b3 hkn hb3
      refine OWp.norm ?_
      first | refine OWp.notD rfl rfl rfl ?_ | refine OWp.notB rfl rfl rfl ?_
      refine OWp.pickF rfl rfl rfl ?_
      refine OWp.nil ?_
      first | refine CWp.condP rfl (fun h2 => ?_) (fun h2 => ?_) | refine CWp.cond rfl (fun h2 => ?_) (fun h2 => ?_)
      · skip
        first | rw [decide_eq_true h2] | rw [decide_eq_false h2] | rw [h2] | skip
        refine CWp.seq ?_
        refine CWp.region ?_
        refine OWp.assign rfl rfl ?_
        refine OWp.assign rfl rfl ?_
        refine OWp.nil ?_
        refine CWp.ret ?_
        refine RetQ.two (by first | exact .inl rfl | exact .inr rfl) rfl rfl rfl rfl rfl ?_
        exact h _ _ false hkn ⟨fun e => (by cases e), fun hr => by have e1 : x1 = s.extract 2 s.size := (k1 hr.pre).1; have e2 := (j1 (e1 ▸ hr.suf)).1; subst e1; have : b3 = true := hb3.2 (by rw [e2]; exact hr.name); rw [this] at h2; cases h2⟩ (fun e => by cases e) (fun _ => rfl)
      · skip
        first | rw [decide_eq_true h2] | rw [decide_eq_false h2] | rw [h2] | skip
        refine CWp.skip ?_
        refine CWp.seq ?_
        refine CWp.region ?_
        refine OWp.move rfl rfl ?_
        refine OWp.assign rfl rfl ?_
        refine OWp.assign rfl rfl ?_
        refine OWp.nil ?_
        refine CWp.ret ?_
        refine RetQ.two (by first | exact .inl rfl | exact .inr rfl) rfl rfl rfl rfl rfl ?_
        have p1 : PrefB s LL := by
            by_cases hh : PrefB s LL
            · exact hh
            · rw [(k2 hh).2] at hg0; cases hg0
        have e1 : x1 = s.extract 2 s.size := (k1 p1).1
        have p2 : SufB x1 GG := by
            by_cases hh : SufB x1 GG
            · exact hh
            · rw [(j2 hh).2] at hg1; cases hg1
        have e2 : x2 = midA s := by rw [(j1 p2).1, e1]; rfl
        exact h _ _ true hkn ⟨fun _ => ⟨p1, e1 ▸ p2, e2 ▸ hb3.1 (by simpa using h2)⟩, fun _ => rfl⟩ (fun _ => e2) (fun e => by cases e)
    · skip
      first | rw [decide_eq_true hg1] | rw [decide_eq_false hg1] | rw [hg1] | skip
      try simp only [Decidable.not_not] at hg1
      refine OWp.leave rfl ?_
      refine OWp.leave rfl ?_
      refine OWp.leave rfl ?_
      refine OWp.pickT rfl rfl rfl ?_
      refine OWp.nil ?_
      refine CWp.condT rfl ?_
      refine CWp.seq ?_
      refine CWp.region ?_
      refine OWp.assign rfl rfl ?_
      refine OWp.assign rfl rfl ?_
      refine OWp.nil ?_
      refine CWp.ret ?_
      refine RetQ.two (by first | exact .inl rfl | exact .inr rfl) rfl rfl rfl rfl rfl ?_
      exact h _ _ false (Keeps.refl hw) ⟨fun e => (by cases e), fun hr => by have e1 : x1 = s.extract 2 s.size := (k1 hr.pre).1; have := (j1 (e1 ▸ hr.suf)).2; rw [this] at hg1; cases hg1⟩ (fun e => by cases e) (fun _ => rfl)
  · skip
    first | rw [decide_eq_true hg0] | rw [decide_eq_false hg0] | rw [hg0] | skip
    try simp only [Decidable.not_not] at hg0
    refine OWp.leave rfl ?_
    refine OWp.leave rfl ?_
    refine OWp.pickT rfl rfl rfl ?_
    refine OWp.move rfl rfl ?_
    refine OWp.leave rfl ?_
    refine OWp.leave rfl ?_
    refine OWp.leave rfl ?_
    refine OWp.pickT rfl rfl rfl ?_
    refine OWp.nil ?_
    refine CWp.condT rfl ?_
    refine CWp.seq ?_
    refine CWp.region ?_
    refine OWp.assign rfl rfl ?_
    refine OWp.assign rfl rfl ?_
    refine OWp.nil ?_
    refine CWp.ret ?_
    refine RetQ.two (by first | exact .inl rfl | exact .inr rfl) rfl rfl rfl rfl rfl ?_
    exact h _ _ false (Keeps.refl hw) ⟨fun e => (by cases e), fun hr => by have := (k1 hr.pre).2; rw [this] at hg0; cases hg0⟩ (fun e => by cases e) (fun _ => rfl)

theorem inn_spec (s : ByteArray) (hs : s.size ≤ 9000000) (H : AH) (Q : Value → AH → Prop) (h : ∀ H' x, Keeps H H' → (RefA (trimC (trimL s) ⟨#[92]⟩) → x = headA s ++ ⟨#[92]⟩ ++ trimL s) → (¬ RefA (trimC (trimL s) ⟨#[92]⟩) → x = s) → Q (.string x) H') (hw : WfH H) : FWp Tryz.prog prims 12 [.string s] H Q := by
  have hz := trimL_size s
  have hz2 := trimC_size (trimL s) ⟨#[92]⟩
  have hz3 := ext_le s 0 ((s.size : Int) - (trimL s).size).toNat
  have hz4 : (headA s).size ≤ s.size := hz3
  have hz5 : (⟨#[92]⟩ : ByteArray).size = 1 := rfl
  refine FWp.enter (rfl) Tryz.func12 rfl (e := [.string s, undef, undef, undef, undef, undef, undef, undef, undef, undef, undef, undef, undef, undef, undef, undef, undef, undef, undef, undef, undef, undef, undef, undef]) rfl ?_
  refine CWp.seq ?_
  refine CWp.region ?_
  refine OWp.assign rfl rfl ?_
  refine OWp.nil ?_
  refine CWp.seq ?_
  refine CWp.region ?_
  refine OWp.move rfl rfl ?_
  refine OWp.call rfl rfl rfl rfl ?_
  refine parts_spec _ hs _ _ ?_
  refine OWp.norm ?_
  refine OWp.move rfl rfl ?_
  refine OWp.extract rfl rfl rfl rfl ?_
  refine OWp.extract rfl rfl rfl rfl ?_
  refine OWp.assign rfl rfl ?_
  refine OWp.assign rfl rfl ?_
  refine OWp.nil ?_
  refine CWp.seq ?_
  refine CWp.seq ?_
  refine CWp.region ?_
  refine OWp.move rfl rfl ?_
  refine OWp.call rfl rfl rfl rfl ?_
  refine trimB_spec _ _ _ ?_
  refine OWp.norm ?_
  refine OWp.call rfl rfl rfl rfl ?_
  refine refName_spec _ (by omega) _ _ ?_ hw
  intro Hn y b hkn hb hb1 hb2
  refine OWp.norm ?_
  refine OWp.move rfl rfl ?_
  refine OWp.extract rfl rfl rfl rfl ?_
  refine OWp.extract rfl rfl rfl rfl ?_
  refine OWp.assign rfl rfl ?_
  refine OWp.assign rfl rfl ?_
  refine OWp.nil ?_
  refine CWp.seq ?_
  refine CWp.region ?_
  refine OWp.move rfl rfl ?_
  refine OWp.nil ?_
  first | refine CWp.condP rfl (fun h0 => ?_) (fun h0 => ?_) | refine CWp.cond rfl (fun h0 => ?_) (fun h0 => ?_)
  · skip
    first | rw [decide_eq_true h0] | rw [decide_eq_false h0] | rw [h0] | skip
    refine CWp.seq ?_
    refine CWp.region ?_
    refine OWp.move rfl rfl ?_
    refine OWp.catS rfl rfl rfl rfl (by first | omega | (simp only [ByteArray.size_append]; omega)) ?_
    refine OWp.move rfl rfl ?_
    refine OWp.catS rfl rfl rfl rfl (by first | omega | (simp only [ByteArray.size_append]; omega)) ?_
    refine OWp.assign rfl rfl ?_
    refine OWp.nil ?_
    refine CWp.ret ?_
    refine RetQ.one (by first | exact .inl rfl | exact .inr rfl) rfl rfl ?_
    exact h _ _ hkn (fun _ => rfl) (fun k => absurd (hb.1 (by simpa using h0)) k)
  · skip
    first | rw [decide_eq_true h0] | rw [decide_eq_false h0] | rw [h0] | skip
    refine CWp.skip ?_
    refine CWp.seq ?_
    refine CWp.region ?_
    refine OWp.move rfl rfl ?_
    refine OWp.assign rfl rfl ?_
    refine OWp.nil ?_
    refine CWp.ret ?_
    refine RetQ.one (by first | exact .inl rfl | exact .inr rfl) rfl rfl ?_
    exact h _ _ hkn (fun k => by rw [hb.2 k] at h0; cases h0) (fun _ => rfl)

theorem ref14_spec (s : ByteArray) (hs : s.size ≤ 9000000) (H : AH) (Q : Value → AH → Prop) (h : ∀ H' (i : Nat) x y b, Keeps H H' → GapEnd s i → (b = true ↔ RefR (s.extract i s.size)) → (b = true → x = s.extract 0 i ∧ y = midR (s.extract i s.size)) → (b = false → x = ⟨#[]⟩ ∧ y = ⟨#[]⟩) → Q (.tuple #[.string x, .string y, .bool b]) H') (hw : WfH H) : FWp Tryz.prog prims 5 [.string s] H Q := by
  refine FWp.enter (rfl) Tryz.func5 rfl (e := [.string s, undef, undef, undef, undef, undef, undef, undef, undef, undef, undef, undef, undef, undef, undef, undef, undef, undef, undef, undef, undef, undef, undef, undef, undef, undef, undef, undef, undef, undef, undef, undef, undef, undef, undef, undef, undef, undef, undef, undef, undef, undef, undef, undef, undef, undef, undef, undef, undef]) rfl ?_
  refine CWp.seq ?_
  refine CWp.region ?_
  refine OWp.assign rfl rfl ?_
  refine OWp.assign rfl rfl ?_
  refine OWp.assign rfl rfl ?_
  refine OWp.nil ?_
  refine CWp.seq ?_
  refine CWp.region ?_
  refine OWp.move rfl rfl ?_
  refine OWp.call rfl rfl rfl rfl ?_
  refine indent_spec _ (by omega) _ _ (fun i hi => ?_)
  have hi1 := hi.1
  refine OWp.norm ?_
  refine OWp.move rfl rfl ?_
  refine OWp.extract rfl rfl rfl rfl ?_
  refine OWp.extract rfl rfl rfl rfl ?_
  refine OWp.assign rfl rfl ?_
  refine OWp.assign rfl rfl ?_
  refine OWp.nil ?_
  refine CWp.seq ?_
  refine CWp.region ?_
  refine OWp.move rfl rfl ?_
  refine OWp.move rfl rfl ?_
  refine OWp.sliceS rfl rfl Tryz.underlying9 rfl rfl rfl (by omega) (by omega) (by omega) ?_
  have ht0 := ext_le s (i : Int).toNat (s.size : Int).toNat
  generalize ht : s.extract (i : Int).toNat (s.size : Int).toNat = t at ht0
  have ht1 : s.extract i s.size = t := ht
  refine OWp.assign rfl rfl ?_
  refine OWp.nil ?_
  refine CWp.seq ?_
  refine CWp.seq ?_
  refine CWp.region ?_
  refine OWp.move rfl rfl ?_
  refine OWp.lenS rfl rfl rfl rfl rfl Tryz.underlying9 rfl ?_
  refine OWp.binI rfl rfl rfl rfl rfl ?_
  refine OWp.move rfl rfl ?_
  first | refine OWp.byF rfl (fun hg0 => ?_) (fun hg0 => ?_) | refine OWp.byBF rfl (fun hg0 => ?_) (fun hg0 => ?_)
  · skip
    first | rw [decide_eq_true hg0] | rw [decide_eq_false hg0] | rw [hg0] | skip
    try simp only [Decidable.not_not] at hg0
    refine OWp.move rfl rfl ?_
    refine OWp.sliceS rfl rfl Tryz.underlying9 rfl rfl rfl (by omega) (by omega) (by omega) ?_
    refine OWp.binS rfl rfl rfl rfl rfl ?_
    refine OWp.pickF rfl rfl rfl ?_
    refine OWp.move rfl rfl ?_
    first | refine OWp.byF rfl (fun hg1 => ?_) (fun hg1 => ?_) | refine OWp.byBF rfl (fun hg1 => ?_) (fun hg1 => ?_)
    · skip
      first | rw [decide_eq_true hg1] | rw [decide_eq_false hg1] | rw [hg1] | skip
      try simp only [Decidable.not_not] at hg1
      refine OWp.move rfl rfl ?_
      refine OWp.move rfl rfl ?_
      refine OWp.lenS rfl rfl rfl rfl rfl Tryz.underlying9 rfl ?_
      refine OWp.subI rfl rfl rfl rfl (by omega) ?_
      refine OWp.sliceS rfl rfl Tryz.underlying9 rfl rfl rfl (by omega) (by omega) (by omega) ?_
      refine OWp.binS rfl rfl rfl rfl rfl ?_
      refine OWp.pickF rfl rfl rfl ?_
      refine OWp.move rfl rfl ?_
      first | refine OWp.byF rfl (fun hg2 => ?_) (fun hg2 => ?_) | refine OWp.byBF rfl (fun hg2 => ?_) (fun hg2 => ?_)
      · skip
        have e2 : ((t.size : Int) - 2).toNat = t.size - 2 := by omega
        try simp only [Decidable.not_not] at hg2
        try simp only [hg2, decide_true, decide_false, not_true_eq_false, not_false_eq_true, Bool.not_true, Bool.not_false]
        refine OWp.move rfl rfl ?_
        refine OWp.move rfl rfl ?_
        refine OWp.lenS rfl rfl rfl rfl rfl Tryz.underlying9 rfl ?_
        refine OWp.subI rfl rfl rfl rfl (by omega) ?_
        refine OWp.sliceS rfl rfl Tryz.underlying9 rfl rfl rfl (by omega) (by omega) (by omega) ?_
        refine OWp.call rfl rfl rfl rfl ?_
        refine nameR_spec _ (by have := ext_le t (2 : Int).toNat ((t.size : Int) - 2).toNat; omega) _ _ ?_ hw
        intro Hn b hkn hb
        refine OWp.norm ?_
        first | refine OWp.notD rfl rfl rfl ?_ | refine OWp.notB rfl rfl rfl ?_
        refine OWp.pickF rfl rfl rfl ?_
        refine OWp.nil ?_
        first | refine CWp.condP rfl (fun h3 => ?_) (fun h3 => ?_) | refine CWp.cond rfl (fun h3 => ?_) (fun h3 => ?_)
        · skip
          first | rw [decide_eq_true h3] | rw [decide_eq_false h3] | rw [h3] | skip
          refine CWp.seq ?_
          refine CWp.region ?_
          refine OWp.assign rfl rfl ?_
          refine OWp.assign rfl rfl ?_
          refine OWp.assign rfl rfl ?_
          refine OWp.nil ?_
          refine CWp.ret ?_
          refine RetQ.three (by first | exact .inl rfl | exact .inr rfl) rfl rfl rfl rfl rfl rfl rfl ?_
          exact h _ i _ _ false hkn hi ⟨fun e => (by cases e), fun hr => by rw [ht1] at hr; have : b = true := hb.2 (by rw [show t.extract (2 : Int).toNat ((t.size : Int) - 2).toNat = midR t by rw [e2]; rfl]; exact hr.name); rw [this] at h3; cases h3⟩ (fun e => by cases e) (fun _ => ⟨rfl, rfl⟩)
        · skip
          have hb1 : b = true := by simpa using h3
          first | rw [decide_eq_true h3] | rw [decide_eq_false h3] | rw [h3] | skip
          refine CWp.skip ?_
          refine CWp.seq ?_
          refine CWp.drawn (by kernel_rfl) ?_
          refine OWp.move rfl rfl ?_
          refine OWp.move rfl rfl ?_
          refine OWp.sliceS rfl rfl Tryz.underlying9 rfl rfl rfl (by omega) (by omega) (by omega) ?_
          refine OWp.move rfl rfl ?_
          refine OWp.move rfl rfl ?_
          refine OWp.lenS rfl rfl rfl rfl rfl Tryz.underlying9 rfl ?_
          refine OWp.subI rfl rfl rfl rfl (by omega) ?_
          refine OWp.sliceS rfl rfl Tryz.underlying9 rfl rfl rfl (by omega) (by omega) (by omega) ?_
          refine OWp.assign rfl rfl ?_
          refine OWp.assign rfl rfl ?_
          refine OWp.assign rfl rfl ?_
          refine OWp.nil ?_
          refine CWp.ret ?_
          refine RetQ.three (by first | exact .inl rfl | exact .inr rfl) rfl rfl rfl rfl rfl rfl rfl ?_
          exact h _ i _ _ true hkn hi ⟨fun _ => ht1 ▸ ⟨by omega, hg1, by rw [← e2]; exact hg2, by have := hb.1 hb1; rw [show t.extract (2 : Int).toNat ((t.size : Int) - 2).toNat = midR t by rw [e2]; rfl] at this; exact this⟩, fun _ => rfl⟩ (fun _ => ⟨rfl, by rw [ht1, e2]; rfl⟩) (fun e => by cases e)
      · skip
        first | rw [decide_eq_true hg2] | rw [decide_eq_false hg2] | rw [hg2] | skip
        try simp only [Decidable.not_not] at hg2
        refine OWp.leave rfl ?_
        refine OWp.leave rfl ?_
        refine OWp.leave rfl ?_
        refine OWp.leave rfl ?_
        refine OWp.leave rfl ?_
        refine OWp.leave rfl ?_
        refine OWp.leave rfl ?_
        refine OWp.pickT rfl rfl rfl ?_
        refine OWp.nil ?_
        refine CWp.condT rfl ?_
        refine CWp.seq ?_
        refine CWp.region ?_
        refine OWp.assign rfl rfl ?_
        refine OWp.assign rfl rfl ?_
        refine OWp.assign rfl rfl ?_
        refine OWp.nil ?_
        refine CWp.ret ?_
        refine RetQ.three (by first | exact .inl rfl | exact .inr rfl) rfl rfl rfl rfl rfl rfl rfl ?_
        exact h _ i _ _ false (Keeps.refl hw) hi ⟨fun e => (by cases e), fun hr => by rw [ht1] at hr; exact absurd (show t.extract ((t.size : Int) - 2).toNat t.size = GG by rw [show ((t.size : Int) - 2).toNat = t.size - 2 by omega]; exact hr.suf) hg2⟩ (fun e => by cases e) (fun _ => ⟨rfl, rfl⟩)
    · skip
      first | rw [decide_eq_true hg1] | rw [decide_eq_false hg1] | rw [hg1] | skip
      try simp only [Decidable.not_not] at hg1
      refine OWp.leave rfl ?_
      refine OWp.leave rfl ?_
      refine OWp.leave rfl ?_
      refine OWp.leave rfl ?_
      refine OWp.leave rfl ?_
      refine OWp.leave rfl ?_
      refine OWp.pickT rfl rfl rfl ?_
      refine OWp.move rfl rfl ?_
      refine OWp.leave rfl ?_
      refine OWp.leave rfl ?_
      refine OWp.leave rfl ?_
      refine OWp.leave rfl ?_
      refine OWp.leave rfl ?_
      refine OWp.leave rfl ?_
      refine OWp.leave rfl ?_
      refine OWp.pickT rfl rfl rfl ?_
      refine OWp.nil ?_
      refine CWp.condT rfl ?_
      refine CWp.seq ?_
      refine CWp.region ?_
      refine OWp.assign rfl rfl ?_
      refine OWp.assign rfl rfl ?_
      refine OWp.assign rfl rfl ?_
      refine OWp.nil ?_
      refine CWp.ret ?_
      refine RetQ.three (by first | exact .inl rfl | exact .inr rfl) rfl rfl rfl rfl rfl rfl rfl ?_
      exact h _ i _ _ false (Keeps.refl hw) hi ⟨fun e => (by cases e), fun hr => by rw [ht1] at hr; exact absurd hr.pre hg1⟩ (fun e => by cases e) (fun _ => ⟨rfl, rfl⟩)
  · skip
    first | rw [decide_eq_true hg0] | rw [decide_eq_false hg0] | rw [hg0] | skip
    try simp only [Decidable.not_not] at hg0
    refine OWp.leave rfl ?_
    refine OWp.leave rfl ?_
    refine OWp.leave rfl ?_
    refine OWp.pickT rfl rfl rfl ?_
    refine OWp.move rfl rfl ?_
    refine OWp.leave rfl ?_
    refine OWp.leave rfl ?_
    refine OWp.leave rfl ?_
    refine OWp.leave rfl ?_
    refine OWp.leave rfl ?_
    refine OWp.leave rfl ?_
    refine OWp.pickT rfl rfl rfl ?_
    refine OWp.move rfl rfl ?_
    refine OWp.leave rfl ?_
    refine OWp.leave rfl ?_
    refine OWp.leave rfl ?_
    refine OWp.leave rfl ?_
    refine OWp.leave rfl ?_
    refine OWp.leave rfl ?_
    refine OWp.leave rfl ?_
    refine OWp.pickT rfl rfl rfl ?_
    refine OWp.nil ?_
    refine CWp.condT rfl ?_
    refine CWp.seq ?_
    refine CWp.region ?_
    refine OWp.assign rfl rfl ?_
    refine OWp.assign rfl rfl ?_
    refine OWp.assign rfl rfl ?_
    refine OWp.nil ?_
    refine CWp.ret ?_
    refine RetQ.three (by first | exact .inl rfl | exact .inr rfl) rfl rfl rfl rfl rfl rfl rfl ?_
    exact h _ i _ _ false (Keeps.refl hw) hi ⟨fun e => (by cases e), fun hr => by rw [ht1] at hr; have := hr.lo; omega⟩ (fun e => by cases e) (fun _ => ⟨rfl, rfl⟩)

theorem slashes_spec (s : ByteArray) (hs : s.size ≤ 9000000) (H : AH) (Q : Value → AH → Prop) (h : ∀ H' (i n : Nat) b, Keeps H H' → GapEnd s i → RunEnd s i 92 n → (b = true ↔ RefR (s.extract (i + n) s.size) ∧ GapEnd (s.extract (i + n) s.size) 0) → Q (.tuple #[.int .i64 i, .int .i64 n, .bool b]) H') (hw : WfH H) : FWp Tryz.prog prims 8 [.string s] H Q := by
  refine FWp.enter (rfl) Tryz.func8 rfl (e := [.string s, undef, undef, undef, undef, undef, undef, undef, undef, undef, undef, undef, undef, undef, undef, undef, undef, undef, undef, undef, undef, undef, undef, undef, undef, undef, undef, undef, undef, undef, undef, undef, undef, undef, undef, undef]) rfl ?_
  refine CWp.seq ?_
  refine CWp.region ?_
  refine OWp.assign rfl rfl ?_
  refine OWp.assign rfl rfl ?_
  refine OWp.assign rfl rfl ?_
  refine OWp.nil ?_
  refine CWp.seq ?_
  refine CWp.region ?_
  refine OWp.move rfl rfl ?_
  refine OWp.call rfl rfl rfl rfl ?_
  refine indent_spec _ (by omega) _ _ (fun i hi => ?_)
  have hi1 := hi.1
  refine OWp.norm ?_
  refine OWp.move rfl rfl ?_
  refine OWp.extract rfl rfl rfl rfl ?_
  refine OWp.extract rfl rfl rfl rfl ?_
  refine OWp.assign rfl rfl ?_
  refine OWp.assign rfl rfl ?_
  refine OWp.nil ?_
  refine CWp.seq ?_
  refine CWp.region ?_
  refine OWp.move rfl rfl ?_
  refine OWp.move rfl rfl ?_
  refine OWp.call rfl rfl rfl rfl ?_
  refine run_spec s (by omega) i 92 hi1 _ _ (fun n hn => ?_)
  have hn1 := hn.1
  refine OWp.norm ?_
  refine OWp.assign rfl rfl ?_
  refine OWp.nil ?_
  refine CWp.seq ?_
  refine CWp.region ?_
  refine OWp.move rfl rfl ?_
  refine OWp.move rfl rfl ?_
  refine OWp.move rfl rfl ?_
  refine OWp.addI rfl rfl rfl rfl (by omega) ?_
  refine OWp.sliceS rfl rfl Tryz.underlying9 rfl rfl rfl (by omega) (by omega) (by omega) ?_
  have ht0 := ext_le s ((i : Int) + (n : Int)).toNat (s.size : Int).toNat
  generalize ht : s.extract ((i : Int) + (n : Int)).toNat (s.size : Int).toNat = t at ht0
  have ht1 : s.extract (i + n) s.size = t := by rw [← ht, show ((i : Int) + (n : Int)).toNat = i + n by omega]; rfl
  refine OWp.call rfl rfl rfl rfl ?_
  refine ref14_spec _ (by have := ext_le s ((i : Int) + (n : Int)).toNat (s.size : Int).toNat; omega) _ _ ?_ hw
  intro Hn j x y b hkn hj hb hb1 hb2
  refine OWp.norm ?_
  refine OWp.move rfl rfl ?_
  refine OWp.extract rfl rfl rfl rfl ?_
  refine OWp.extract rfl rfl rfl rfl ?_
  refine OWp.extract rfl rfl rfl rfl ?_
  refine OWp.assign rfl rfl ?_
  refine OWp.assign rfl rfl ?_
  refine OWp.assign rfl rfl ?_
  refine OWp.nil ?_
  refine CWp.seq ?_
  refine CWp.region ?_
  refine OWp.move rfl rfl ?_
  refine OWp.move rfl rfl ?_
  refine OWp.move rfl rfl ?_
  refine OWp.move rfl rfl ?_
  first | refine OWp.byT rfl (fun hg0 => ?_) (fun hg0 => ?_) | refine OWp.byBT rfl (fun hg0 => ?_) (fun hg0 => ?_)
  · skip
    first | rw [decide_eq_true hg0] | rw [decide_eq_false hg0] | rw [hg0] | skip
    try simp only [Decidable.not_not] at hg0
    refine OWp.move rfl rfl ?_
    refine OWp.binS rfl rfl rfl rfl rfl ?_
    refine OWp.pickT rfl rfl rfl ?_
    refine OWp.assign rfl rfl ?_
    refine OWp.assign rfl rfl ?_
    refine OWp.assign rfl rfl ?_
    refine OWp.nil ?_
    refine CWp.ret ?_
    refine RetQ.three (by first | exact .inl rfl | exact .inr rfl) rfl rfl rfl rfl rfl rfl rfl ?_
    refine h _ i n _ hkn hi hn ?_
    rw [ht1, decide_eq_true_iff, (hb1 hg0).1, ext_nil t j hj.1]
    exact ⟨fun e => by subst e; exact ⟨by have := hb.1 hg0; rwa [ext_all] at this, hj⟩, fun k => gap_unique t j 0 hj k.2⟩
  · skip
    first | rw [decide_eq_true hg0] | rw [decide_eq_false hg0] | rw [hg0] | skip
    try simp only [Decidable.not_not] at hg0
    refine OWp.leave rfl ?_
    refine OWp.leave rfl ?_
    refine OWp.pickF rfl rfl rfl ?_
    refine OWp.assign rfl rfl ?_
    refine OWp.assign rfl rfl ?_
    refine OWp.assign rfl rfl ?_
    refine OWp.nil ?_
    refine CWp.ret ?_
    refine RetQ.three (by first | exact .inl rfl | exact .inr rfl) rfl rfl rfl rfl rfl rfl rfl ?_
    refine h _ i n false hkn hi hn ?_
    rw [ht1]
    exact ⟨fun e => (by cases e), fun k => by have e := gap_unique t j 0 hj k.2; subst e; rw [ext_all] at hb; rw [hb.2 k.1] at hg0; cases hg0⟩

theorem out14_spec (s : ByteArray) (hs : s.size ≤ 9000000) (H : AH) (Q : Value → AH → Prop) (h : ∀ H' (i n : Nat) x, Keeps H H' → GapEnd s i → RunEnd s i 92 n → ((RefR (s.extract (i + n) s.size) ∧ GapEnd (s.extract (i + n) s.size) 0) ∧ 0 < n → x = s.extract 0 i ++ s.extract (i + 1) s.size) → (¬ ((RefR (s.extract (i + n) s.size) ∧ GapEnd (s.extract (i + n) s.size) 0) ∧ 0 < n) → x = s) → Q (.string x) H') (hw : WfH H) : FWp Tryz.prog prims 4 [.string s] H Q := by
  refine FWp.enter (rfl) Tryz.func4 rfl (e := [.string s, undef, undef, undef, undef, undef, undef, undef, undef, undef, undef, undef, undef, undef, undef, undef, undef, undef, undef, undef, undef, undef, undef, undef, undef, undef]) rfl ?_
  refine CWp.seq ?_
  refine CWp.region ?_
  refine OWp.assign rfl rfl ?_
  refine OWp.nil ?_
  refine CWp.seq ?_
  refine CWp.region ?_
  refine OWp.move rfl rfl ?_
  refine OWp.call rfl rfl rfl rfl ?_
  refine slashes_spec s hs _ _ ?_ hw
  intro Hn i n b hkn hi hn hb
  have hi1 := hi.1
  have hn1 := hn.1
  have hz1 := ext_le s (Int.toNat 0) (i : Int).toNat
  have hz2 := ext_le s ((i : Int) + 1).toNat (s.size : Int).toNat
  refine OWp.norm ?_
  refine OWp.move rfl rfl ?_
  refine OWp.extract rfl rfl rfl rfl ?_
  refine OWp.extract rfl rfl rfl rfl ?_
  refine OWp.extract rfl rfl rfl rfl ?_
  refine OWp.assign rfl rfl ?_
  refine OWp.assign rfl rfl ?_
  refine OWp.assign rfl rfl ?_
  refine OWp.nil ?_
  refine CWp.seq ?_
  refine CWp.seq ?_
  refine CWp.region ?_
  refine OWp.move rfl rfl ?_
  refine OWp.move rfl rfl ?_
  first | refine OWp.byT rfl (fun hg0 => ?_) (fun hg0 => ?_) | refine OWp.byBT rfl (fun hg0 => ?_) (fun hg0 => ?_)
  · skip
    first | rw [decide_eq_true hg0] | rw [decide_eq_false hg0] | rw [hg0] | skip
    try simp only [Decidable.not_not] at hg0
    refine OWp.move rfl rfl ?_
    refine OWp.binI rfl rfl rfl rfl rfl ?_
    refine OWp.pickT rfl rfl rfl ?_
    refine OWp.nil ?_
    first | refine CWp.condP rfl (fun h1 => ?_) (fun h1 => ?_) | refine CWp.cond rfl (fun h1 => ?_) (fun h1 => ?_)
    · skip
      first | rw [decide_eq_true h1] | rw [decide_eq_false h1] | rw [h1] | skip
      refine CWp.seq ?_
      refine CWp.drawn (by kernel_rfl) ?_
      refine OWp.move rfl rfl ?_
      refine OWp.move rfl rfl ?_
      refine OWp.sliceS rfl rfl Tryz.underlying9 rfl rfl rfl (by omega) (by omega) (by omega) ?_
      refine OWp.move rfl rfl ?_
      refine OWp.move rfl rfl ?_
      refine OWp.addI rfl rfl rfl rfl (by omega) ?_
      refine OWp.sliceS rfl rfl Tryz.underlying9 rfl rfl rfl (by omega) (by omega) (by omega) ?_
      refine OWp.catS rfl rfl rfl rfl (by omega) ?_
      refine OWp.assign rfl rfl ?_
      refine OWp.nil ?_
      refine CWp.ret ?_
      refine RetQ.one (by first | exact .inl rfl | exact .inr rfl) rfl rfl ?_
      exact h _ i n _ hkn hi hn (fun _ => by rw [show ((i : Int) + 1).toNat = i + 1 by omega]; rfl) (fun k => absurd ⟨hb.1 (by simpa using hg0), by omega⟩ k)
    · skip
      first | rw [decide_eq_true h1] | rw [decide_eq_false h1] | rw [h1] | skip
      refine CWp.skip ?_
      refine CWp.seq ?_
      refine CWp.region ?_
      refine OWp.move rfl rfl ?_
      refine OWp.assign rfl rfl ?_
      refine OWp.nil ?_
      refine CWp.ret ?_
      refine RetQ.one (by first | exact .inl rfl | exact .inr rfl) rfl rfl ?_
      exact h _ i n _ hkn hi hn (fun k => absurd k.2 (by omega)) (fun _ => rfl)
  · skip
    first | rw [decide_eq_true hg0] | rw [decide_eq_false hg0] | rw [hg0] | skip
    try simp only [Decidable.not_not] at hg0
    refine OWp.leave rfl ?_
    refine OWp.leave rfl ?_
    refine OWp.pickF rfl rfl rfl ?_
    refine OWp.nil ?_
    refine CWp.condF rfl ?_
    refine CWp.skip ?_
    refine CWp.seq ?_
    refine CWp.region ?_
    refine OWp.move rfl rfl ?_
    refine OWp.assign rfl rfl ?_
    refine OWp.nil ?_
    refine CWp.ret ?_
    refine RetQ.one (by first | exact .inl rfl | exact .inr rfl) rfl rfl ?_
    exact h _ i n _ hkn hi hn (fun k => by rw [hb.2 k.1] at hg0; cases hg0) (fun _ => rfl)

end Go.Proofs.YtofigleaealbjaaGreatDoor.Ev
