import Derived.Test.YtllokljpacpafaaDoorEvM4
namespace Go.Proofs.YtllokljpacpafaaDoor.Ev
open Go
set_option linter.unusedVariables false
set_option linter.unusedSimpArgs false
set_option maxHeartbeats 8000000
theorem sz_1 (a : UInt8) : (⟨#[a]⟩ : ByteArray).size = 1 := rfl
theorem sz_2 (a b : UInt8) : (⟨#[a, b]⟩ : ByteArray).size = 2 := rfl
theorem mk_eq {m : Mk} {k n : Int} {a b c : ByteArray} (h1 : k = m.kind) (h2 : a = m.ind) (h3 : b = m.sty) (h4 : c = m.nam) (h5 : n = m.num) : (⟨k, a, b, c, n⟩ : Mk) = m := by
  subst h1 h2 h3 h4 h5
  rfl
theorem split_use {m : Mk} {x nm : ByteArray} {c : Nat} {u : Int} {ok : Bool} (hso : SplitOk x c nm u ok) (hI : Inner m x) (hc : betwC m.kind = UInt8.ofNat c) (hr : RightM m) : nm = m.nam ∧ u = m.num ∧ ok = true :=
  hso m.nam m.num hr.num0 hr.hi (by rw [hI.eq, hc])

theorem rightR_spec (m : Mk) (hm : SzM m) (H : AH) (Q : Value → AH → Prop) (h : ∀ H' b, Keeps H H' → (b = true ↔ RightM m) → Q (.bool b) H') (hw : WfH H) : FWp Tryd.prog prims 17 [m.v] H Q := by
  have hh := Has.start hw
  obtain ⟨hm1, hm2, hm3⟩ := hm
  refine FWp.enter (rfl) Tryd.func17 rfl (e := [m.v, undef, undef, undef, undef, undef, undef, undef, undef, undef, undef, undef, undef, undef, undef, undef, undef, undef, undef, undef, undef, undef, undef, undef, undef, undef, undef, undef, undef, undef, undef, undef, undef, undef, undef, undef, undef, undef, undef, undef, undef, undef, undef, undef, undef, undef, undef, undef, undef, undef, undef, undef, undef, undef, undef, undef, undef, undef, undef, undef, undef]) rfl ?_
  refine CWp.seq ?_
  refine CWp.region ?_
  refine OWp.boxM _ hh rfl rfl rfl (fun H1 b1 hh => ?_)
  refine OWp.norm ?_
  refine OWp.assign rfl rfl ?_
  refine OWp.nil ?_
  refine CWp.seq ?_
  refine CWp.region ?_
  refine OWp.assign rfl rfl ?_
  refine OWp.nil ?_
  refine CWp.cut (fun e H' => ∃ (b1 : Nat) (g : Nat → Value), e = [m.v, .pointer (some ⟨b1, 0, none⟩), g 2, .int .i64 (leastM m.kind), g 4, g 5, g 6, g 7, g 8, g 9, g 10, g 11, g 12, g 13, g 14, g 15, g 16, g 17, g 18, g 19, g 20, g 21, g 22, g 23, g 24, g 25, g 26, g 27, g 28, g 29, g 30, g 31, g 32, g 33, g 34, g 35, g 36, g 37, g 38, g 39, g 40, g 41, g 42, g 43, g 44, g 45, g 46, g 47, g 48, g 49, g 50, g 51, g 52, g 53, g 54, g 55, g 56, g 57, g 58, g 59, g 60] ∧ Has H H' [(b1, mkO m)] ∧ True) ?_ ?_
  · skip
    refine CWp.seq ?_
    refine CWp.region ?_
    refine OWp.fieldN 0 (by decide) rfl rfl rfl ?_
    first | refine OWp.loadI (k := 0) hh rfl rfl rfl rfl rfl ?_ | refine OWp.loadI (k := 1) hh rfl rfl rfl rfl rfl ?_ | refine OWp.loadI (k := 2) hh rfl rfl rfl rfl rfl ?_
    refine OWp.binI rfl rfl rfl rfl rfl ?_
    refine OWp.nil ?_
    first | refine CWp.condP rfl (fun h0 => ?_) (fun h0 => ?_) | refine CWp.cond rfl (fun h0 => ?_) (fun h0 => ?_)
    · skip
      first | rw [decide_eq_true h0] | rw [decide_eq_false h0] | rw [h0] | skip
      refine CWp.region ?_
      refine OWp.assign rfl rfl ?_
      refine OWp.nil ?_
      rw [show (1 : Int) = leastM m.kind by unfold leastM; rw [if_pos h0]]
      exact ⟨b1, ex_env rfl ⟨hh, trivial⟩⟩
    · skip
      first | rw [decide_eq_true h0] | rw [decide_eq_false h0] | rw [h0] | skip
      refine CWp.skip ?_
      rw [show (0 : Int) = leastM m.kind by unfold leastM; rw [if_neg h0]]
      exact ⟨b1, ex_env rfl ⟨hh, trivial⟩⟩
  · rintro e H' ⟨b1, g, rfl, hh, _⟩
    refine CWp.seq ?_
    refine CWp.region ?_
    refine OWp.fieldN 1 (by decide) rfl rfl rfl ?_
    first | refine OWp.loadS (k := 0) hh rfl rfl rfl rfl rfl ?_ | refine OWp.loadS (k := 1) hh rfl rfl rfl rfl rfl ?_ | refine OWp.loadS (k := 2) hh rfl rfl rfl rfl rfl ?_
    refine OWp.call rfl rfl rfl rfl ?_
    refine indent_spec _ hm1 _ _ (fun i hi => ?_)
    have hi1 := hi.1
    refine OWp.norm ?_
    refine OWp.move rfl rfl ?_
    refine OWp.extract rfl rfl rfl rfl ?_
    refine OWp.extract rfl rfl rfl rfl ?_
    refine OWp.assign rfl rfl ?_
    refine OWp.assign rfl rfl ?_
    refine OWp.nil ?_
    refine CWp.seq ?_
    refine CWp.region ?_
    refine OWp.fieldN 0 (by decide) rfl rfl rfl ?_
    first | refine OWp.loadI (k := 0) hh rfl rfl rfl rfl rfl ?_ | refine OWp.loadI (k := 1) hh rfl rfl rfl rfl rfl ?_ | refine OWp.loadI (k := 2) hh rfl rfl rfl rfl rfl ?_
    refine OWp.binI rfl rfl rfl rfl rfl ?_
    refine OWp.move rfl rfl ?_
    first | refine OWp.byT rfl (fun hg2 => ?_) (fun hg2 => ?_) | refine OWp.byBT rfl (fun hg2 => ?_) (fun hg2 => ?_)
    · skip
      first | rw [decide_eq_true hg2] | rw [decide_eq_false hg2] | rw [hg2] | skip
      try simp only [Decidable.not_not] at hg2
      refine OWp.fieldN 0 (by decide) rfl rfl rfl ?_
      first | refine OWp.loadI (k := 0) hh rfl rfl rfl rfl rfl ?_ | refine OWp.loadI (k := 1) hh rfl rfl rfl rfl rfl ?_ | refine OWp.loadI (k := 2) hh rfl rfl rfl rfl rfl ?_
      refine OWp.binI rfl rfl rfl rfl rfl ?_
      refine OWp.pickT rfl rfl rfl ?_
      refine OWp.move rfl rfl ?_
      first | refine OWp.byT rfl (fun hg3 => ?_) (fun hg3 => ?_) | refine OWp.byBT rfl (fun hg3 => ?_) (fun hg3 => ?_)
      · skip
        first | rw [decide_eq_true hg3] | rw [decide_eq_false hg3] | rw [hg3] | skip
        try simp only [Decidable.not_not] at hg3
        refine OWp.move rfl rfl ?_
        refine OWp.fieldN 1 (by decide) rfl rfl rfl ?_
        first | refine OWp.loadS (k := 0) hh rfl rfl rfl rfl rfl ?_ | refine OWp.loadS (k := 1) hh rfl rfl rfl rfl rfl ?_ | refine OWp.loadS (k := 2) hh rfl rfl rfl rfl rfl ?_
        refine OWp.lenS rfl rfl rfl rfl rfl Tryd.underlying9 rfl ?_
        refine OWp.binI rfl rfl rfl rfl rfl ?_
        refine OWp.pickT rfl rfl rfl ?_
        refine OWp.move rfl rfl ?_
        first | refine OWp.byT rfl (fun hg4 => ?_) (fun hg4 => ?_) | refine OWp.byBT rfl (fun hg4 => ?_) (fun hg4 => ?_)
        · skip
          first | rw [decide_eq_true hg4] | rw [decide_eq_false hg4] | rw [hg4] | skip
          try simp only [Decidable.not_not] at hg4
          refine OWp.fieldN 2 (by decide) rfl rfl rfl ?_
          first | refine OWp.loadS (k := 0) hh rfl rfl rfl rfl rfl ?_ | refine OWp.loadS (k := 1) hh rfl rfl rfl rfl rfl ?_ | refine OWp.loadS (k := 2) hh rfl rfl rfl rfl rfl ?_
          refine OWp.call rfl rfl rfl rfl ?_
          refine styleR_spec _ hm2 _ _ (fun b2 hb2 => ?_)
          refine OWp.norm ?_
          refine OWp.pickT rfl rfl rfl ?_
          refine OWp.move rfl rfl ?_
          first | refine OWp.byT rfl (fun hg5 => ?_) (fun hg5 => ?_) | refine OWp.byBT rfl (fun hg5 => ?_) (fun hg5 => ?_)
          · skip
            first | rw [decide_eq_true hg5] | rw [decide_eq_false hg5] | rw [hg5] | skip
            try simp only [Decidable.not_not] at hg5
            refine OWp.fieldN 3 (by decide) rfl rfl rfl ?_
            first | refine OWp.loadS (k := 0) hh rfl rfl rfl rfl rfl ?_ | refine OWp.loadS (k := 1) hh rfl rfl rfl rfl rfl ?_ | refine OWp.loadS (k := 2) hh rfl rfl rfl rfl rfl ?_
            refine OWp.call rfl rfl rfl rfl ?_
            refine nameR_spec _ hm3 _ _ ?_ hh.wf
            intro H3 b3 hk3 hb3
            replace hh := hh.after hk3
            refine OWp.norm ?_
            refine OWp.pickT rfl rfl rfl ?_
            refine OWp.move rfl rfl ?_
            first | refine OWp.byT rfl (fun hg6 => ?_) (fun hg6 => ?_) | refine OWp.byBT rfl (fun hg6 => ?_) (fun hg6 => ?_)
            · skip
              first | rw [decide_eq_true hg6] | rw [decide_eq_false hg6] | rw [hg6] | skip
              try simp only [Decidable.not_not] at hg6
              refine OWp.fieldN 0 (by decide) rfl rfl rfl ?_
              first | refine OWp.loadI (k := 0) hh rfl rfl rfl rfl rfl ?_ | refine OWp.loadI (k := 1) hh rfl rfl rfl rfl rfl ?_ | refine OWp.loadI (k := 2) hh rfl rfl rfl rfl rfl ?_
              refine OWp.binI rfl rfl rfl rfl rfl ?_
              refine OWp.move rfl rfl ?_
              first | refine OWp.byF rfl (fun hg7 => ?_) (fun hg7 => ?_) | refine OWp.byBF rfl (fun hg7 => ?_) (fun hg7 => ?_)
              · skip
                first | rw [decide_eq_true hg7] | rw [decide_eq_false hg7] | rw [hg7] | skip
                try simp only [Decidable.not_not] at hg7
                refine OWp.fieldN 3 (by decide) rfl rfl rfl ?_
                first | refine OWp.loadS (k := 0) hh rfl rfl rfl rfl rfl ?_ | refine OWp.loadS (k := 1) hh rfl rfl rfl rfl rfl ?_ | refine OWp.loadS (k := 2) hh rfl rfl rfl rfl rfl ?_
                refine OWp.call rfl rfl rfl rfl ?_
                refine path_spec _ hm3 _ _ ?_ hh.wf
                intro H4 b4 hk4 hb4
                replace hh := hh.after hk4
                refine OWp.norm ?_
                refine OWp.pickF rfl rfl rfl ?_
                refine OWp.pickT rfl rfl rfl ?_
                refine OWp.move rfl rfl ?_
                first | refine OWp.byT rfl (fun hg8 => ?_) (fun hg8 => ?_) | refine OWp.byBT rfl (fun hg8 => ?_) (fun hg8 => ?_)
                · skip
                  first | rw [decide_eq_true hg8] | rw [decide_eq_false hg8] | rw [hg8] | skip
                  try simp only [Decidable.not_not] at hg8
                  refine OWp.fieldN 4 (by decide) rfl rfl rfl ?_
                  first | refine OWp.loadI (k := 0) hh rfl rfl rfl rfl rfl ?_ | refine OWp.loadI (k := 1) hh rfl rfl rfl rfl rfl ?_ | refine OWp.loadI (k := 2) hh rfl rfl rfl rfl rfl ?_
                  refine OWp.move rfl rfl ?_
                  refine OWp.binI rfl rfl rfl rfl rfl ?_
                  refine OWp.pickT rfl rfl rfl ?_
                  refine OWp.move rfl rfl ?_
                  first | refine OWp.byT rfl (fun hg9 => ?_) (fun hg9 => ?_) | refine OWp.byBT rfl (fun hg9 => ?_) (fun hg9 => ?_)
                  · skip
                    first | rw [decide_eq_true hg9] | rw [decide_eq_false hg9] | rw [hg9] | skip
                    try simp only [Decidable.not_not] at hg9
                    refine OWp.fieldN 4 (by decide) rfl rfl rfl ?_
                    first | refine OWp.loadI (k := 0) hh rfl rfl rfl rfl rfl ?_ | refine OWp.loadI (k := 1) hh rfl rfl rfl rfl rfl ?_ | refine OWp.loadI (k := 2) hh rfl rfl rfl rfl rfl ?_
                    refine OWp.binI rfl rfl rfl rfl rfl ?_
                    refine OWp.pickT rfl rfl rfl ?_
                    refine OWp.assign rfl rfl ?_
                    refine OWp.nil ?_
                    refine CWp.ret ?_
                    refine RetQ.one (by first | exact .inl rfl | exact .inr rfl) rfl rfl ?_
                    exact h _ _ hh.keep ⟨fun e => ⟨by omega, by omega, fun j hj => hi.2.1 j (by omega), hb2.1 hg5, (name_same _).2 (hb3.1 hg6), fun _ => (hb4.1 hg8).2, by omega, of_decide_eq_true e⟩, fun hr => decide_eq_true hr.hi⟩
                  · skip
                    first | rw [decide_eq_true hg9] | rw [decide_eq_false hg9] | rw [hg9] | skip
                    try simp only [Decidable.not_not] at hg9
                    refine OWp.leave rfl ?_
                    refine OWp.leave rfl ?_
                    refine OWp.leave rfl ?_
                    refine OWp.pickF rfl rfl rfl ?_
                    refine OWp.assign rfl rfl ?_
                    refine OWp.nil ?_
                    refine CWp.ret ?_
                    refine RetQ.one (by first | exact .inl rfl | exact .inr rfl) rfl rfl ?_
                    exact h _ false hh.keep ⟨fun e => (by cases e), fun hr => (by have := hr.lo; omega)⟩
                · skip
                  first | rw [decide_eq_true hg8] | rw [decide_eq_false hg8] | rw [hg8] | skip
                  try simp only [Decidable.not_not] at hg8
                  refine OWp.leave rfl ?_
                  refine OWp.leave rfl ?_
                  refine OWp.leave rfl ?_
                  refine OWp.leave rfl ?_
                  refine OWp.pickF rfl rfl rfl ?_
                  refine OWp.move rfl rfl ?_
                  refine OWp.leave rfl ?_
                  refine OWp.leave rfl ?_
                  refine OWp.leave rfl ?_
                  refine OWp.pickF rfl rfl rfl ?_
                  refine OWp.assign rfl rfl ?_
                  refine OWp.nil ?_
                  refine CWp.ret ?_
                  refine RetQ.one (by first | exact .inl rfl | exact .inr rfl) rfl rfl ?_
                  exact h _ false hh.keep ⟨fun e => (by cases e), fun hr => (by have := hb4.2 ⟨hr.nam, hr.path hg7⟩; rw [hg8] at this; cases this)⟩
              · skip
                first | rw [decide_eq_true hg7] | rw [decide_eq_false hg7] | rw [hg7] | skip
                try simp only [Decidable.not_not] at hg7
                refine OWp.leave rfl ?_
                refine OWp.leave rfl ?_
                refine OWp.leave rfl ?_
                refine OWp.pickT rfl rfl rfl ?_
                refine OWp.pickT rfl rfl rfl ?_
                refine OWp.move rfl rfl ?_
                refine OWp.fieldN 4 (by decide) rfl rfl rfl ?_
                first | refine OWp.loadI (k := 0) hh rfl rfl rfl rfl rfl ?_ | refine OWp.loadI (k := 1) hh rfl rfl rfl rfl rfl ?_ | refine OWp.loadI (k := 2) hh rfl rfl rfl rfl rfl ?_
                refine OWp.move rfl rfl ?_
                refine OWp.binI rfl rfl rfl rfl rfl ?_
                refine OWp.pickT rfl rfl rfl ?_
                refine OWp.move rfl rfl ?_
                first | refine OWp.byT rfl (fun hg8 => ?_) (fun hg8 => ?_) | refine OWp.byBT rfl (fun hg8 => ?_) (fun hg8 => ?_)
                · skip
                  first | rw [decide_eq_true hg8] | rw [decide_eq_false hg8] | rw [hg8] | skip
                  try simp only [Decidable.not_not] at hg8
                  refine OWp.fieldN 4 (by decide) rfl rfl rfl ?_
                  first | refine OWp.loadI (k := 0) hh rfl rfl rfl rfl rfl ?_ | refine OWp.loadI (k := 1) hh rfl rfl rfl rfl rfl ?_ | refine OWp.loadI (k := 2) hh rfl rfl rfl rfl rfl ?_
                  refine OWp.binI rfl rfl rfl rfl rfl ?_
                  refine OWp.pickT rfl rfl rfl ?_
                  refine OWp.assign rfl rfl ?_
                  refine OWp.nil ?_
                  refine CWp.ret ?_
                  refine RetQ.one (by first | exact .inl rfl | exact .inr rfl) rfl rfl ?_
                  exact h _ _ hh.keep ⟨fun e => ⟨by omega, by omega, fun j hj => hi.2.1 j (by omega), hb2.1 hg5, (name_same _).2 (hb3.1 hg6), fun e3 => absurd e3 hg7, by omega, of_decide_eq_true e⟩, fun hr => decide_eq_true hr.hi⟩
                · skip
                  first | rw [decide_eq_true hg8] | rw [decide_eq_false hg8] | rw [hg8] | skip
                  try simp only [Decidable.not_not] at hg8
                  refine OWp.leave rfl ?_
                  refine OWp.leave rfl ?_
                  refine OWp.leave rfl ?_
                  refine OWp.pickF rfl rfl rfl ?_
                  refine OWp.assign rfl rfl ?_
                  refine OWp.nil ?_
                  refine CWp.ret ?_
                  refine RetQ.one (by first | exact .inl rfl | exact .inr rfl) rfl rfl ?_
                  exact h _ false hh.keep ⟨fun e => (by cases e), fun hr => (by have := hr.lo; omega)⟩
            · skip
              first | rw [decide_eq_true hg6] | rw [decide_eq_false hg6] | rw [hg6] | skip
              try simp only [Decidable.not_not] at hg6
              refine OWp.leave rfl ?_
              refine OWp.leave rfl ?_
              refine OWp.leave rfl ?_
              refine OWp.leave rfl ?_
              refine OWp.leave rfl ?_
              refine OWp.leave rfl ?_
              refine OWp.leave rfl ?_
              refine OWp.leave rfl ?_
              refine OWp.pickF rfl rfl rfl ?_
              refine OWp.move rfl rfl ?_
              refine OWp.leave rfl ?_
              refine OWp.leave rfl ?_
              refine OWp.leave rfl ?_
              refine OWp.leave rfl ?_
              refine OWp.pickF rfl rfl rfl ?_
              refine OWp.move rfl rfl ?_
              refine OWp.leave rfl ?_
              refine OWp.leave rfl ?_
              refine OWp.leave rfl ?_
              refine OWp.pickF rfl rfl rfl ?_
              refine OWp.assign rfl rfl ?_
              refine OWp.nil ?_
              refine CWp.ret ?_
              refine RetQ.one (by first | exact .inl rfl | exact .inr rfl) rfl rfl ?_
              exact h _ false hh.keep ⟨fun e => (by cases e), fun hr => (by have := hb3.2 ((name_same _).1 hr.nam); rw [hg6] at this; cases this)⟩
          · skip
            first | rw [decide_eq_true hg5] | rw [decide_eq_false hg5] | rw [hg5] | skip
            try simp only [Decidable.not_not] at hg5
            refine OWp.leave rfl ?_
            refine OWp.leave rfl ?_
            refine OWp.leave rfl ?_
            refine OWp.pickF rfl rfl rfl ?_
            refine OWp.move rfl rfl ?_
            refine OWp.leave rfl ?_
            refine OWp.leave rfl ?_
            refine OWp.leave rfl ?_
            refine OWp.leave rfl ?_
            refine OWp.leave rfl ?_
            refine OWp.leave rfl ?_
            refine OWp.leave rfl ?_
            refine OWp.leave rfl ?_
            refine OWp.pickF rfl rfl rfl ?_
            refine OWp.move rfl rfl ?_
            refine OWp.leave rfl ?_
            refine OWp.leave rfl ?_
            refine OWp.leave rfl ?_
            refine OWp.leave rfl ?_
            refine OWp.pickF rfl rfl rfl ?_
            refine OWp.move rfl rfl ?_
            refine OWp.leave rfl ?_
            refine OWp.leave rfl ?_
            refine OWp.leave rfl ?_
            refine OWp.pickF rfl rfl rfl ?_
            refine OWp.assign rfl rfl ?_
            refine OWp.nil ?_
            refine CWp.ret ?_
            refine RetQ.one (by first | exact .inl rfl | exact .inr rfl) rfl rfl ?_
            exact h _ false hh.keep ⟨fun e => (by cases e), fun hr => (by have := hb2.2 hr.sty; rw [hg5] at this; cases this)⟩
        · skip
          first | rw [decide_eq_true hg4] | rw [decide_eq_false hg4] | rw [hg4] | skip
          try simp only [Decidable.not_not] at hg4
          refine OWp.leave rfl ?_
          refine OWp.leave rfl ?_
          refine OWp.leave rfl ?_
          refine OWp.pickF rfl rfl rfl ?_
          refine OWp.move rfl rfl ?_
          refine OWp.leave rfl ?_
          refine OWp.leave rfl ?_
          refine OWp.leave rfl ?_
          refine OWp.pickF rfl rfl rfl ?_
          refine OWp.move rfl rfl ?_
          refine OWp.leave rfl ?_
          refine OWp.leave rfl ?_
          refine OWp.leave rfl ?_
          refine OWp.leave rfl ?_
          refine OWp.leave rfl ?_
          refine OWp.leave rfl ?_
          refine OWp.leave rfl ?_
          refine OWp.leave rfl ?_
          refine OWp.pickF rfl rfl rfl ?_
          refine OWp.move rfl rfl ?_
          refine OWp.leave rfl ?_
          refine OWp.leave rfl ?_
          refine OWp.leave rfl ?_
          refine OWp.leave rfl ?_
          refine OWp.pickF rfl rfl rfl ?_
          refine OWp.move rfl rfl ?_
          refine OWp.leave rfl ?_
          refine OWp.leave rfl ?_
          refine OWp.leave rfl ?_
          refine OWp.pickF rfl rfl rfl ?_
          refine OWp.assign rfl rfl ?_
          refine OWp.nil ?_
          refine CWp.ret ?_
          refine RetQ.one (by first | exact .inl rfl | exact .inr rfl) rfl rfl ?_
          exact h _ false hh.keep ⟨fun e => (by cases e), fun hr => (by exact (hi.2.2 (by omega) (hr.ind i (by omega))).elim)⟩
      · skip
        first | rw [decide_eq_true hg3] | rw [decide_eq_false hg3] | rw [hg3] | skip
        try simp only [Decidable.not_not] at hg3
        refine OWp.leave rfl ?_
        refine OWp.leave rfl ?_
        refine OWp.leave rfl ?_
        refine OWp.leave rfl ?_
        refine OWp.leave rfl ?_
        refine OWp.pickF rfl rfl rfl ?_
        refine OWp.move rfl rfl ?_
        refine OWp.leave rfl ?_
        refine OWp.leave rfl ?_
        refine OWp.leave rfl ?_
        refine OWp.pickF rfl rfl rfl ?_
        refine OWp.move rfl rfl ?_
        refine OWp.leave rfl ?_
        refine OWp.leave rfl ?_
        refine OWp.leave rfl ?_
        refine OWp.pickF rfl rfl rfl ?_
        refine OWp.move rfl rfl ?_
        refine OWp.leave rfl ?_
        refine OWp.leave rfl ?_
        refine OWp.leave rfl ?_
        refine OWp.leave rfl ?_
        refine OWp.leave rfl ?_
        refine OWp.leave rfl ?_
        refine OWp.leave rfl ?_
        refine OWp.leave rfl ?_
        refine OWp.pickF rfl rfl rfl ?_
        refine OWp.move rfl rfl ?_
        refine OWp.leave rfl ?_
        refine OWp.leave rfl ?_
        refine OWp.leave rfl ?_
        refine OWp.leave rfl ?_
        refine OWp.pickF rfl rfl rfl ?_
        refine OWp.move rfl rfl ?_
        refine OWp.leave rfl ?_
        refine OWp.leave rfl ?_
        refine OWp.leave rfl ?_
        refine OWp.pickF rfl rfl rfl ?_
        refine OWp.assign rfl rfl ?_
        refine OWp.nil ?_
        refine CWp.ret ?_
        refine RetQ.one (by first | exact .inl rfl | exact .inr rfl) rfl rfl ?_
        exact h _ false hh.keep ⟨fun e => (by cases e), fun hr => (by have := hr.k3; omega)⟩
    · skip
      first | rw [decide_eq_true hg2] | rw [decide_eq_false hg2] | rw [hg2] | skip
      try simp only [Decidable.not_not] at hg2
      refine OWp.leave rfl ?_
      refine OWp.leave rfl ?_
      refine OWp.leave rfl ?_
      refine OWp.pickF rfl rfl rfl ?_
      refine OWp.move rfl rfl ?_
      refine OWp.leave rfl ?_
      refine OWp.leave rfl ?_
      refine OWp.leave rfl ?_
      refine OWp.leave rfl ?_
      refine OWp.leave rfl ?_
      refine OWp.pickF rfl rfl rfl ?_
      refine OWp.move rfl rfl ?_
      refine OWp.leave rfl ?_
      refine OWp.leave rfl ?_
      refine OWp.leave rfl ?_
      refine OWp.pickF rfl rfl rfl ?_
      refine OWp.move rfl rfl ?_
      refine OWp.leave rfl ?_
      refine OWp.leave rfl ?_
      refine OWp.leave rfl ?_
      refine OWp.pickF rfl rfl rfl ?_
      refine OWp.move rfl rfl ?_
      refine OWp.leave rfl ?_
      refine OWp.leave rfl ?_
      refine OWp.leave rfl ?_
      refine OWp.leave rfl ?_
      refine OWp.leave rfl ?_
      refine OWp.leave rfl ?_
      refine OWp.leave rfl ?_
      refine OWp.leave rfl ?_
      refine OWp.pickF rfl rfl rfl ?_
      refine OWp.move rfl rfl ?_
      refine OWp.leave rfl ?_
      refine OWp.leave rfl ?_
      refine OWp.leave rfl ?_
      refine OWp.leave rfl ?_
      refine OWp.pickF rfl rfl rfl ?_
      refine OWp.move rfl rfl ?_
      refine OWp.leave rfl ?_
      refine OWp.leave rfl ?_
      refine OWp.leave rfl ?_
      refine OWp.pickF rfl rfl rfl ?_
      refine OWp.assign rfl rfl ?_
      refine OWp.nil ?_
      refine CWp.ret ?_
      refine RetQ.one (by first | exact .inl rfl | exact .inr rfl) rfl rfl ?_
      exact h _ false hh.keep ⟨fun e => (by cases e), fun hr => (by have := hr.k1; omega)⟩

theorem textR_spec (m : Mk) (hm : SzM m) (H : AH) (Q : Value → AH → Prop) (h : ∀ H' t, Keeps H H' → TextOf m t → Q (.string t) H') (hw : WfH H) : FWp Tryd.prog prims 9 [m.v] H Q := by
  have hh := Has.start hw
  obtain ⟨hm1, hm2, hm3⟩ := hm
  refine FWp.enter (rfl) Tryd.func9 rfl (e := [m.v, undef, undef, undef, undef, undef, undef, undef, undef, undef, undef, undef, undef, undef, undef, undef, undef, undef, undef, undef, undef, undef, undef, undef, undef, undef, undef, undef, undef, undef, undef, undef, undef, undef, undef, undef, undef, undef, undef, undef, undef, undef, undef, undef, undef, undef, undef, undef, undef, undef]) rfl ?_
  refine CWp.seq ?_
  refine CWp.region ?_
  refine OWp.boxM _ hh rfl rfl rfl (fun H1 b1 hh => ?_)
  refine OWp.norm ?_
  refine OWp.assign rfl rfl ?_
  refine OWp.nil ?_
  refine CWp.seq ?_
  refine CWp.seq ?_
  refine CWp.region ?_
  first | refine OWp.loadM (k := 0) hh rfl rfl rfl rfl ?_ | refine OWp.loadM (k := 1) hh rfl rfl rfl rfl ?_ | refine OWp.loadM (k := 2) hh rfl rfl rfl rfl ?_
  refine OWp.call rfl rfl rfl rfl ?_
  refine rightR_spec m ⟨hm1, hm2, hm3⟩ _ _ ?_ hh.wf
  intro H2 b2 hk2 hb2
  replace hh := hh.after hk2
  refine OWp.norm ?_
  first | refine OWp.notD rfl rfl rfl ?_ | refine OWp.notB rfl rfl rfl ?_
  refine OWp.nil ?_
  first | refine CWp.condP rfl (fun h0 => ?_) (fun h0 => ?_) | refine CWp.cond rfl (fun h0 => ?_) (fun h0 => ?_)
  · skip
    first | rw [decide_eq_true h0] | rw [decide_eq_false h0] | rw [h0] | skip
    refine CWp.seq ?_
    refine CWp.region ?_
    refine OWp.assign rfl rfl ?_
    refine OWp.nil ?_
    refine CWp.ret ?_
    refine RetQ.one (by first | exact .inl rfl | exact .inr rfl) rfl rfl ?_
    exact h _ _ hh.keep ⟨fun hr => (by have := hb2.2 hr; simp_all), fun _ => rfl⟩
  · skip
    have hr : RightM m := hb2.1 (by simpa using h0)
    have hz1 := hr.sty.2.1
    have hz2 := hr.nam.hi
    have hz3 := itoaB_len hr.num0 hr.hi
    first | rw [decide_eq_true h0] | rw [decide_eq_false h0] | rw [h0] | skip
    refine CWp.skip ?_
    refine CWp.seq ?_
    refine CWp.region ?_
    refine OWp.fieldN 1 (by decide) rfl rfl rfl ?_
    first | refine OWp.loadS (k := 0) hh rfl rfl rfl rfl rfl ?_ | refine OWp.loadS (k := 1) hh rfl rfl rfl rfl rfl ?_ | refine OWp.loadS (k := 2) hh rfl rfl rfl rfl rfl ?_
    refine OWp.fieldN 2 (by decide) rfl rfl rfl ?_
    first | refine OWp.loadS (k := 0) hh rfl rfl rfl rfl rfl ?_ | refine OWp.loadS (k := 1) hh rfl rfl rfl rfl rfl ?_ | refine OWp.loadS (k := 2) hh rfl rfl rfl rfl rfl ?_
    refine OWp.catS rfl rfl rfl rfl (by first | omega | (simp only [size_app, sz_1, sz_2]; omega)) ?_
    refine OWp.catS rfl rfl rfl rfl (by first | omega | (simp only [size_app, sz_1, sz_2]; omega)) ?_
    refine OWp.assign rfl rfl ?_
    refine OWp.nil ?_
    refine CWp.seq ?_
    refine CWp.seq ?_
    refine CWp.region ?_
    refine OWp.fieldN 0 (by decide) rfl rfl rfl ?_
    first | refine OWp.loadI (k := 0) hh rfl rfl rfl rfl rfl ?_ | refine OWp.loadI (k := 1) hh rfl rfl rfl rfl rfl ?_ | refine OWp.loadI (k := 2) hh rfl rfl rfl rfl rfl ?_
    refine OWp.nil ?_
    refine CWp.block ?_
    refine CWp.seq ?_
    refine CWp.region ?_
    refine OWp.binI rfl rfl rfl rfl rfl ?_
    refine OWp.assign rfl rfl ?_
    refine OWp.nil ?_
    first | refine CWp.condP rfl (fun h1 => ?_) (fun h1 => ?_) | refine CWp.cond rfl (fun h1 => ?_) (fun h1 => ?_)
    · skip
      first | rw [decide_eq_true h1] | rw [decide_eq_false h1] | rw [h1] | skip
      refine CWp.seq ?_
      refine CWp.drawnN (by kernel_rfl) ?_
      have hhS := hh
      have hkS := Keeps.refl hh.wf
      refine OWp.move rfl rfl ?_
      refine OWp.catS rfl rfl rfl rfl (by first | omega | (simp only [size_app, sz_1, sz_2]; omega)) ?_
      refine OWp.fieldN 3 (by decide) rfl rfl rfl ?_
      first | refine OWp.loadS (k := 0) hh rfl rfl rfl rfl rfl ?_ | refine OWp.loadS (k := 1) hh rfl rfl rfl rfl rfl ?_ | refine OWp.loadS (k := 2) hh rfl rfl rfl rfl rfl ?_
      refine OWp.catS rfl rfl rfl rfl (by first | omega | (simp only [size_app, sz_1, sz_2]; omega)) ?_
      refine OWp.catS rfl rfl rfl rfl (by first | omega | (simp only [size_app, sz_1, sz_2]; omega)) ?_
      refine OWp.fieldN 4 (by decide) rfl rfl rfl ?_
      first | refine OWp.loadI (k := 0) hh rfl rfl rfl rfl rfl ?_ | refine OWp.loadI (k := 1) hh rfl rfl rfl rfl rfl ?_ | refine OWp.loadI (k := 2) hh rfl rfl rfl rfl rfl ?_
      refine OWp.call rfl rfl rfl rfl ?_
      refine number_spec _ (by have := hr.num0; have := hr.hi; omega) _ _ ?_
      refine OWp.norm ?_
      refine OWp.catS rfl rfl rfl rfl (by first | omega | (simp only [size_app, sz_1, sz_2]; omega)) ?_
      refine OWp.assign rfl rfl ?_
      refine OWp.nil ?_
      refine ⟨still_all (L := [.pointer (some ⟨b1, 3, none⟩), .pointer (some ⟨b1, 4, none⟩)]) rfl (by simp only [List.all_cons, List.all_nil, Bool.and_true, Bool.and_eq_true]; first | rfl | (refine ⟨?_, ?_⟩ <;> first | rfl | exact still_has (k := 0) hhS rfl hkS | exact still_has (k := 1) hhS rfl hkS | exact still_has (k := 2) hhS rfl hkS) | exact still_has (k := 0) hhS rfl hkS | exact still_has (k := 1) hhS rfl hkS | exact still_has (k := 2) hhS rfl hkS), ?_⟩
      refine CWp.ret ?_
      refine RetQ.one (by first | exact .inl rfl | exact .inr rfl) rfl rfl ?_
      exact h _ _ hh.keep ⟨fun _ => (line1 h1).symm, fun hn => absurd hr hn⟩
    · skip
      first | rw [decide_eq_true h1] | rw [decide_eq_false h1] | rw [h1] | skip
      refine CWp.seq ?_
      refine CWp.region ?_
      refine OWp.binI rfl rfl rfl rfl rfl ?_
      refine OWp.assign rfl rfl ?_
      refine OWp.nil ?_
      first | refine CWp.condP rfl (fun h2 => ?_) (fun h2 => ?_) | refine CWp.cond rfl (fun h2 => ?_) (fun h2 => ?_)
      · skip
        first | rw [decide_eq_true h2] | rw [decide_eq_false h2] | rw [h2] | skip
        refine CWp.seq ?_
        refine CWp.drawnN (by kernel_rfl) ?_
        have hhS := hh
        have hkS := Keeps.refl hh.wf
        refine OWp.move rfl rfl ?_
        refine OWp.fieldN 3 (by decide) rfl rfl rfl ?_
        first | refine OWp.loadS (k := 0) hh rfl rfl rfl rfl rfl ?_ | refine OWp.loadS (k := 1) hh rfl rfl rfl rfl rfl ?_ | refine OWp.loadS (k := 2) hh rfl rfl rfl rfl rfl ?_
        refine OWp.catS rfl rfl rfl rfl (by first | omega | (simp only [size_app, sz_1, sz_2]; omega)) ?_
        refine OWp.catS rfl rfl rfl rfl (by first | omega | (simp only [size_app, sz_1, sz_2]; omega)) ?_
        refine OWp.fieldN 4 (by decide) rfl rfl rfl ?_
        first | refine OWp.loadI (k := 0) hh rfl rfl rfl rfl rfl ?_ | refine OWp.loadI (k := 1) hh rfl rfl rfl rfl rfl ?_ | refine OWp.loadI (k := 2) hh rfl rfl rfl rfl rfl ?_
        refine OWp.call rfl rfl rfl rfl ?_
        refine number_spec _ (by have := hr.num0; have := hr.hi; omega) _ _ ?_
        refine OWp.norm ?_
        refine OWp.catS rfl rfl rfl rfl (by first | omega | (simp only [size_app, sz_1, sz_2]; omega)) ?_
        refine OWp.catS rfl rfl rfl rfl (by first | omega | (simp only [size_app, sz_1, sz_2]; omega)) ?_
        refine OWp.assign rfl rfl ?_
        refine OWp.nil ?_
        refine ⟨still_all (L := [.pointer (some ⟨b1, 3, none⟩), .pointer (some ⟨b1, 4, none⟩)]) rfl (by simp only [List.all_cons, List.all_nil, Bool.and_true, Bool.and_eq_true]; first | rfl | (refine ⟨?_, ?_⟩ <;> first | rfl | exact still_has (k := 0) hhS rfl hkS | exact still_has (k := 1) hhS rfl hkS | exact still_has (k := 2) hhS rfl hkS) | exact still_has (k := 0) hhS rfl hkS | exact still_has (k := 1) hhS rfl hkS | exact still_has (k := 2) hhS rfl hkS), ?_⟩
        refine CWp.ret ?_
        refine RetQ.one (by first | exact .inl rfl | exact .inr rfl) rfl rfl ?_
        exact h _ _ hh.keep ⟨fun _ => (line2 h2).symm, fun hn => absurd hr hn⟩
      · skip
        first | rw [decide_eq_true h2] | rw [decide_eq_false h2] | rw [h2] | skip
        refine CWp.skip ?_
        refine CWp.seq ?_
        refine CWp.drawnN (by kernel_rfl) ?_
        have hhS := hh
        have hkS := Keeps.refl hh.wf
        refine OWp.move rfl rfl ?_
        refine OWp.catS rfl rfl rfl rfl (by first | omega | (simp only [size_app, sz_1, sz_2]; omega)) ?_
        refine OWp.fieldN 3 (by decide) rfl rfl rfl ?_
        first | refine OWp.loadS (k := 0) hh rfl rfl rfl rfl rfl ?_ | refine OWp.loadS (k := 1) hh rfl rfl rfl rfl rfl ?_ | refine OWp.loadS (k := 2) hh rfl rfl rfl rfl rfl ?_
        refine OWp.catS rfl rfl rfl rfl (by first | omega | (simp only [size_app, sz_1, sz_2]; omega)) ?_
        refine OWp.catS rfl rfl rfl rfl (by first | omega | (simp only [size_app, sz_1, sz_2]; omega)) ?_
        refine OWp.fieldN 4 (by decide) rfl rfl rfl ?_
        first | refine OWp.loadI (k := 0) hh rfl rfl rfl rfl rfl ?_ | refine OWp.loadI (k := 1) hh rfl rfl rfl rfl rfl ?_ | refine OWp.loadI (k := 2) hh rfl rfl rfl rfl rfl ?_
        refine OWp.call rfl rfl rfl rfl ?_
        refine number_spec _ (by have := hr.num0; have := hr.hi; omega) _ _ ?_
        refine OWp.norm ?_
        refine OWp.catS rfl rfl rfl rfl (by first | omega | (simp only [size_app, sz_1, sz_2]; omega)) ?_
        refine OWp.catS rfl rfl rfl rfl (by first | omega | (simp only [size_app, sz_1, sz_2]; omega)) ?_
        refine OWp.assign rfl rfl ?_
        refine OWp.nil ?_
        refine ⟨still_all (L := [.pointer (some ⟨b1, 3, none⟩), .pointer (some ⟨b1, 4, none⟩)]) rfl (by simp only [List.all_cons, List.all_nil, Bool.and_true, Bool.and_eq_true]; first | rfl | (refine ⟨?_, ?_⟩ <;> first | rfl | exact still_has (k := 0) hhS rfl hkS | exact still_has (k := 1) hhS rfl hkS | exact still_has (k := 2) hhS rfl hkS) | exact still_has (k := 0) hhS rfl hkS | exact still_has (k := 1) hhS rfl hkS | exact still_has (k := 2) hhS rfl hkS), ?_⟩
        refine CWp.ret ?_
        refine RetQ.one (by first | exact .inl rfl | exact .inr rfl) rfl rfl ?_
        exact h _ _ hh.keep ⟨fun _ => (line3 (by have := kind_cases hr; omega)).symm, fun hn => absurd hr hn⟩

theorem readR_spec (s : ByteArray) (hs : s.size ≤ 9000000) (H : AH) (Q : Value → AH → Prop) (h : ∀ H' m b, Keeps H H' → ReadOk s m b → Q (.tuple #[m.v, .bool b]) H') (hw : WfH H) : FWp Tryd.prog prims 16 [.string s] H Q := by
  have hh := Has.start hw
  refine FWp.enter (rfl) Tryd.func16 rfl (e := [.string s, undef, undef, undef, undef, undef, undef, undef, undef, undef, undef, undef, undef, undef, undef, undef, undef, undef, undef, undef, undef, undef, undef, undef, undef, undef, undef, undef, undef, undef, undef, undef, undef, undef, undef, undef, undef, undef, undef, undef, undef, undef, undef, undef, undef, undef, undef, undef, undef, undef, undef, undef, undef, undef, undef, undef, undef, undef, undef, undef, undef, undef, undef, undef, undef, undef, undef, undef, undef, undef, undef, undef, undef, undef, undef, undef, undef, undef, undef, undef, undef, undef, undef, undef, undef, undef, undef, undef, undef, undef, undef, undef, undef, undef, undef, undef, undef, undef, undef, undef, undef, undef, undef, undef, undef, undef, undef, undef, undef, undef, undef, undef, undef, undef, undef, undef, undef, undef, undef, undef, undef, undef, undef, undef, undef]) rfl ?_
  refine CWp.seq ?_
  refine CWp.region ?_
  refine OWp.allocM hh rfl rfl (fun H2 b2 hh => ?_)
  refine OWp.norm ?_
  refine OWp.assign rfl rfl ?_
  refine OWp.nil ?_
  refine CWp.seq ?_
  refine CWp.region ?_
  refine OWp.move rfl rfl ?_
  refine OWp.call rfl rfl rfl rfl ?_
  refine indent_spec s hs _ _ (fun i hi => ?_)
  have hi1 := hi.1
  refine OWp.norm ?_
  refine OWp.move rfl rfl ?_
  refine OWp.extract rfl rfl rfl rfl ?_
  refine OWp.extract rfl rfl rfl rfl ?_
  refine OWp.assign rfl rfl ?_
  refine OWp.assign rfl rfl ?_
  refine OWp.nil ?_
  refine CWp.seq ?_
  refine CWp.region ?_
  refine OWp.move rfl rfl ?_
  refine OWp.assign rfl rfl ?_
  refine OWp.nil ?_
  refine CWp.cut (fun e H' => ∃ (b2 q : Nat) (g : Nat → Value), e = [.string s, g 1, .pointer (some ⟨b2, 0, none⟩), g 3, g 4, .int .i64 (i : Nat), .int .i64 (q : Nat), g 7, g 8, g 9, g 10, g 11, g 12, g 13, g 14, g 15, g 16, g 17, g 18, g 19, g 20, g 21, g 22, g 23, g 24, g 25, g 26, g 27, g 28, g 29, g 30, g 31, g 32, g 33, g 34, g 35, g 36, g 37, g 38, g 39, g 40, g 41, g 42, g 43, g 44, g 45, g 46, g 47, g 48, g 49, g 50, g 51, g 52, g 53, g 54, g 55, g 56, g 57, g 58, g 59, g 60, g 61, g 62, g 63, g 64, g 65, g 66, g 67, g 68, g 69, g 70, g 71, g 72, g 73, g 74, g 75, g 76, g 77, g 78, g 79, g 80, g 81, g 82, g 83, g 84, g 85, g 86, g 87, g 88, g 89, g 90, g 91, g 92, g 93, g 94, g 95, g 96, g 97, g 98, g 99, g 100, g 101, g 102, g 103, g 104, g 105, g 106, g 107, g 108, g 109, g 110, g 111, g 112, g 113, g 114, g 115, g 116, g 117, g 118, g 119, g 120, g 121, g 122, g 123, g 124] ∧ Has H H' [(b2, mkO zeroM)] ∧ i ≤ q ∧ q ≤ s.size ∧ (∀ j : Nat, i ≤ j → j < q → byteAt s (j : Nat) ≠ 32) ∧ (q = s.size ∨ byteAt s (q : Nat) = 32)) ?_ ?_
  · skip
    refine CWp.block ?_
    refine CWp.loop (fun k e H' => ∃ (b2 q : Nat) (g : Nat → Value), e = [.string s, g 1, .pointer (some ⟨b2, 0, none⟩), g 3, g 4, .int .i64 (i : Nat), .int .i64 (q : Nat), g 7, g 8, g 9, g 10, g 11, g 12, g 13, g 14, g 15, g 16, g 17, g 18, g 19, g 20, g 21, g 22, g 23, g 24, g 25, g 26, g 27, g 28, g 29, g 30, g 31, g 32, g 33, g 34, g 35, g 36, g 37, g 38, g 39, g 40, g 41, g 42, g 43, g 44, g 45, g 46, g 47, g 48, g 49, g 50, g 51, g 52, g 53, g 54, g 55, g 56, g 57, g 58, g 59, g 60, g 61, g 62, g 63, g 64, g 65, g 66, g 67, g 68, g 69, g 70, g 71, g 72, g 73, g 74, g 75, g 76, g 77, g 78, g 79, g 80, g 81, g 82, g 83, g 84, g 85, g 86, g 87, g 88, g 89, g 90, g 91, g 92, g 93, g 94, g 95, g 96, g 97, g 98, g 99, g 100, g 101, g 102, g 103, g 104, g 105, g 106, g 107, g 108, g 109, g 110, g 111, g 112, g 113, g 114, g 115, g 116, g 117, g 118, g 119, g 120, g 121, g 122, g 123, g 124] ∧ k = s.size - q ∧ Has H H' [(b2, mkO zeroM)] ∧ i ≤ q ∧ q ≤ s.size ∧ ∀ j : Nat, i ≤ j → j < q → byteAt s (j : Nat) ≠ 32) ?_ ?_
    · exact ⟨_, b2, i, ex_env rfl ⟨rfl, hh, by omega, by omega, fun j h1 h2 => by omega⟩⟩
    · rintro k e H' ⟨b2, q, g, rfl, rfl, hh, hq1, hq2, hall⟩
      refine CWp.seq ?_
      refine CWp.seq ?_
      refine CWp.region ?_
      refine OWp.move rfl rfl ?_
      refine OWp.move rfl rfl ?_
      refine OWp.lenS rfl rfl rfl rfl rfl Tryd.underlying9 rfl ?_
      refine OWp.binI rfl rfl rfl rfl rfl ?_
      refine OWp.move rfl rfl ?_
      first | refine OWp.byT rfl (fun hg1 => ?_) (fun hg1 => ?_) | refine OWp.byBT rfl (fun hg1 => ?_) (fun hg1 => ?_)
      · skip
        first | rw [decide_eq_true hg1] | rw [decide_eq_false hg1] | rw [hg1] | skip
        try simp only [Decidable.not_not] at hg1
        refine OWp.move rfl rfl ?_
        refine OWp.move rfl rfl ?_
        refine OWp.indexS rfl rfl Tryd.underlying9 rfl rfl (by omega) (by omega) ?_
        refine OWp.binI rfl rfl rfl rfl rfl ?_
        refine OWp.pickT rfl rfl rfl ?_
        refine OWp.nil ?_
        first | refine CWp.condP rfl (fun h2 => ?_) (fun h2 => ?_) | refine CWp.cond rfl (fun h2 => ?_) (fun h2 => ?_)
        · skip
          first | rw [decide_eq_true h2] | rw [decide_eq_false h2] | rw [h2] | skip
          refine CWp.skip ?_
          refine CWp.block ?_
          refine CWp.region ?_
          refine OWp.move rfl rfl ?_
          refine OWp.addI rfl rfl rfl rfl (by omega) ?_
          refine OWp.assign rfl rfl ?_
          refine OWp.nil ?_
          exact ⟨_, by omega, b2, q + 1, ex_env rfl ⟨rfl, hh, by omega, by omega, fun j h1 h2 => by by_cases e : j = q; exact e ▸ (by assumption); exact hall j h1 (by omega)⟩⟩
        · skip
          first | rw [decide_eq_true h2] | rw [decide_eq_false h2] | rw [h2] | skip
          refine CWp.exit ?_
          exact ⟨b2, q, ex_env rfl ⟨hh, hq1, hq2, hall, .inr (by simp_all)⟩⟩
      · skip
        first | rw [decide_eq_true hg1] | rw [decide_eq_false hg1] | rw [hg1] | skip
        try simp only [Decidable.not_not] at hg1
        refine OWp.leave rfl ?_
        refine OWp.leave rfl ?_
        refine OWp.leave rfl ?_
        refine OWp.leave rfl ?_
        refine OWp.pickF rfl rfl rfl ?_
        refine OWp.nil ?_
        refine CWp.condF rfl ?_
        refine CWp.exit ?_
        exact ⟨b2, q, ex_env rfl ⟨hh, hq1, hq2, hall, .inl (by omega)⟩⟩
  · rintro e H' ⟨b2, q, g, rfl, hh, hq1, hq2, hall, hqe⟩
    refine CWp.seq ?_
    refine CWp.seq ?_
    refine CWp.region ?_
    refine OWp.move rfl rfl ?_
    refine OWp.move rfl rfl ?_
    refine OWp.lenS rfl rfl rfl rfl rfl Tryd.underlying9 rfl ?_
    refine OWp.binI rfl rfl rfl rfl rfl ?_
    refine OWp.nil ?_
    first | refine CWp.condP rfl (fun h2 => ?_) (fun h2 => ?_) | refine CWp.cond rfl (fun h2 => ?_) (fun h2 => ?_)
    · skip
      first | rw [decide_eq_true h2] | rw [decide_eq_false h2] | rw [h2] | skip
      refine CWp.seq ?_
      refine CWp.region ?_
      refine OWp.buildM (zeroM) rfl rfl rfl (by kernel_rfl) ?_
      first | refine OWp.storeM (k := 0) hh rfl rfl rfl rfl rfl (fun H4 hh => ?_) | refine OWp.storeM (k := 1) hh rfl rfl rfl rfl rfl (fun H4 hh => ?_) | refine OWp.storeM (k := 2) hh rfl rfl rfl rfl rfl (fun H4 hh => ?_)
      simp only [List.set_cons_zero, List.set_cons_succ] at hh
      refine OWp.norm ?_
      refine OWp.assign rfl rfl ?_
      refine OWp.nil ?_
      refine CWp.ret ?_
      first | refine RetQ.cellM (k := 0) (by first | exact .inl rfl | exact .inr rfl) rfl rfl hh rfl rfl rfl ?_ | refine RetQ.cellM (k := 1) (by first | exact .inl rfl | exact .inr rfl) rfl rfl hh rfl rfl rfl ?_ | refine RetQ.cellM (k := 2) (by first | exact .inl rfl | exact .inr rfl) rfl rfl hh rfl rfl rfl ?_
      exact h _ zeroM false hh.keep ⟨fun e => (by cases e), fun _ => ⟨rfl, no_mark hi (fun j h1 h2 => hall j h1 (by omega))⟩⟩
    · skip
      have hqb : byteAt s (q : Nat) = 32 := by rcases hqe with e | e; omega; exact e
      have hc := cut_mid hq1 (by omega) hall hqb
      first | rw [decide_eq_true h2] | rw [decide_eq_false h2] | rw [h2] | skip
      refine CWp.skip ?_
      refine CWp.seq ?_
      refine CWp.drawnN (by kernel_rfl) ?_
      have hhS := hh
      have hkS := Keeps.refl hh.wf
      refine OWp.move rfl rfl ?_
      refine OWp.move rfl rfl ?_
      refine OWp.sliceS rfl rfl Tryd.underlying9 rfl rfl rfl (by omega) (by omega) (by omega) ?_
      refine OWp.move rfl rfl ?_
      refine OWp.move rfl rfl ?_
      refine OWp.move rfl rfl ?_
      refine OWp.sliceS rfl rfl Tryd.underlying9 rfl rfl rfl (by omega) (by omega) (by omega) ?_
      refine OWp.buildM (⟨0, s.extract 0 i, s.extract i q, ⟨#[]⟩, 0⟩) rfl rfl rfl (by kernel_rfl) ?_
      refine OWp.allocM hh rfl rfl (fun H7 b7 hh => ?_)
      refine OWp.norm ?_
      first | refine OWp.storeM (k := 0) hh rfl rfl rfl rfl rfl (fun H4 hh => ?_) | refine OWp.storeM (k := 1) hh rfl rfl rfl rfl rfl (fun H4 hh => ?_) | refine OWp.storeM (k := 2) hh rfl rfl rfl rfl rfl (fun H4 hh => ?_)
      simp only [List.set_cons_zero, List.set_cons_succ] at hh
      refine OWp.norm ?_
      refine OWp.nil ?_
      refine ⟨rfl, ?_⟩
      refine CWp.seq ?_
      refine CWp.region ?_
      refine OWp.move rfl rfl ?_
      refine OWp.move rfl rfl ?_
      refine OWp.addI rfl rfl rfl rfl (by omega) ?_
      refine OWp.sliceS rfl rfl Tryd.underlying9 rfl rfl rfl (by omega) (by omega) (by omega) ?_
      rw [show ((q : Int) + 1).toNat = q + 1 by omega, show (s.size : Int).toNat = s.size from rfl]
      obtain ⟨tt, htt⟩ : ∃ tt, tt = s.extract (q + 1) s.size := ⟨_, rfl⟩
      have htz : tt.size ≤ s.size := by rw [htt]; exact ext_le _ _ _
      rw [← htt]
      have hft : ∀ m', RightM m' → lineM m' = s → s.extract 0 i = m'.ind ∧ s.extract i q = m'.sty ∧ tt.data.toList = bodyL m' := fun m' hr hl => by
        obtain ⟨e1, e2, e3⟩ := found_head hi hc hr hl
        rw [← htt] at e3
        exact ⟨e1.symm, e2.symm, e3⟩
      refine OWp.assign rfl rfl ?_
      refine OWp.nil ?_
      refine CWp.seq ?_
      refine CWp.region ?_
      refine OWp.move rfl rfl ?_
      refine OWp.lenS rfl rfl rfl rfl rfl Tryd.underlying9 rfl ?_
      refine OWp.assign rfl rfl ?_
      refine OWp.nil ?_
      refine CWp.seq ?_
      refine CWp.region ?_
      refine OWp.assign rfl rfl ?_
      refine OWp.nil ?_
      refine CWp.cut (fun e H' => ∃ (b2 b7 : Nat) (mm : Mk) (ok : Bool) (g : Nat → Value), e = [.string s, g 1, .pointer (some ⟨b2, 0, none⟩), g 3, g 4, g 5, g 6, .pointer (some ⟨b7, 0, none⟩), g 8, g 9, .bool ok, g 11, g 12, g 13, g 14, g 15, g 16, g 17, g 18, g 19, g 20, g 21, g 22, g 23, g 24, g 25, g 26, g 27, g 28, g 29, g 30, g 31, g 32, g 33, g 34, g 35, g 36, g 37, g 38, g 39, g 40, g 41, g 42, g 43, g 44, g 45, g 46, g 47, g 48, g 49, g 50, g 51, g 52, g 53, g 54, g 55, g 56, g 57, g 58, g 59, g 60, g 61, g 62, g 63, g 64, g 65, g 66, g 67, g 68, g 69, g 70, g 71, g 72, g 73, g 74, g 75, g 76, g 77, g 78, g 79, g 80, g 81, g 82, g 83, g 84, g 85, g 86, g 87, g 88, g 89, g 90, g 91, g 92, g 93, g 94, g 95, g 96, g 97, g 98, g 99, g 100, g 101, g 102, g 103, g 104, g 105, g 106, g 107, g 108, g 109, g 110, g 111, g 112, g 113, g 114, g 115, g 116, g 117, g 118, g 119, g 120, g 121, g 122, g 123, g 124] ∧ Has H H' [(b7, mkO mm), (b2, mkO zeroM)] ∧ 0 < s.size ∧ SzM mm ∧ ∀ m', RightM m' → lineM m' = s → ok = true ∧ mm = m') ?_ ?_
      · skip
        refine CWp.block ?_
        refine CWp.seq ?_
        refine CWp.region ?_
        refine OWp.move rfl rfl ?_
        refine OWp.binI rfl rfl rfl rfl rfl ?_
        refine OWp.move rfl rfl ?_
        first | refine OWp.byT rfl (fun hg3 => ?_) (fun hg3 => ?_) | refine OWp.byBT rfl (fun hg3 => ?_) (fun hg3 => ?_)
        · skip
          first | rw [decide_eq_true hg3] | rw [decide_eq_false hg3] | rw [hg3] | skip
          try simp only [Decidable.not_not] at hg3
          refine OWp.move rfl rfl ?_
          refine OWp.sliceS rfl rfl Tryd.underlying9 rfl rfl rfl (by omega) (by omega) (by omega) ?_
          rw [show (0 : Int).toNat = 0 by omega, show (2 : Int).toNat = 2 by omega]
          refine OWp.binS rfl rfl rfl rfl rfl ?_
          refine OWp.pickT rfl rfl rfl ?_
          refine OWp.move rfl rfl ?_
          first | refine OWp.byT rfl (fun hg4 => ?_) (fun hg4 => ?_) | refine OWp.byBT rfl (fun hg4 => ?_) (fun hg4 => ?_)
          · skip
            first | rw [decide_eq_true hg4] | rw [decide_eq_false hg4] | rw [hg4] | skip
            try simp only [Decidable.not_not] at hg4
            refine OWp.move rfl rfl ?_
            refine OWp.move rfl rfl ?_
            refine OWp.subI rfl rfl rfl rfl (by omega) ?_
            refine OWp.indexS rfl rfl Tryd.underlying9 rfl rfl (by omega) (by omega) ?_
            rw [show ((tt.size : Int) - 1) = ((tt.size - 1 : Nat) : Int) by omega]
            refine OWp.binI rfl rfl rfl rfl rfl ?_
            refine OWp.pickT rfl rfl rfl ?_
            refine OWp.assign rfl rfl ?_
            refine OWp.nil ?_
            first | refine CWp.condP rfl (fun h5 => ?_) (fun h5 => ?_) | refine CWp.cond rfl (fun h5 => ?_) (fun h5 => ?_)
            · skip
              first | rw [decide_eq_true h5] | rw [decide_eq_false h5] | rw [h5] | skip
              refine CWp.seq ?_
              refine CWp.region ?_
              refine OWp.fieldN 0 (by decide) rfl rfl rfl ?_
              first | refine OWp.storeF0 (k := 0) hh rfl rfl rfl rfl rfl (fun H4 hh => ?_) | refine OWp.storeF0 (k := 1) hh rfl rfl rfl rfl rfl (fun H4 hh => ?_) | refine OWp.storeF0 (k := 2) hh rfl rfl rfl rfl rfl (fun H4 hh => ?_)
              simp only [List.set_cons_zero, List.set_cons_succ] at hh
              refine OWp.norm ?_
              refine OWp.nil ?_
              refine CWp.region ?_
              refine OWp.move rfl rfl ?_
              refine OWp.move rfl rfl ?_
              refine OWp.subI rfl rfl rfl rfl (by omega) ?_
              refine OWp.sliceS rfl rfl Tryd.underlying9 rfl rfl rfl (by omega) (by omega) (by omega) ?_
              rw [show (2 : Int).toNat = 2 by omega, show ((tt.size : Int) - 1).toNat = tt.size - 1 by omega]
              refine OWp.call rfl rfl rfl rfl ?_
              refine split_spec _ (by have := ext_le tt (2) (tt.size - 1); omega) 58 (by omega) (by omega) _ _ (fun nm u ok hz8 hn8 hso => ?_)
              have hz9 : nm.size ≤ 9000000 := by have := ext_le tt (2) (tt.size - 1); omega
              refine OWp.norm ?_
              refine OWp.move rfl rfl ?_
              refine OWp.extract rfl rfl rfl rfl ?_
              refine OWp.extract rfl rfl rfl rfl ?_
              refine OWp.extract rfl rfl rfl rfl ?_
              refine OWp.fieldN 3 (by decide) rfl rfl rfl ?_
              first | refine OWp.storeF3 (k := 0) hh rfl rfl rfl rfl rfl (fun H4 hh => ?_) | refine OWp.storeF3 (k := 1) hh rfl rfl rfl rfl rfl (fun H4 hh => ?_) | refine OWp.storeF3 (k := 2) hh rfl rfl rfl rfl rfl (fun H4 hh => ?_)
              simp only [List.set_cons_zero, List.set_cons_succ] at hh
              refine OWp.norm ?_
              refine OWp.fieldN 4 (by decide) rfl rfl rfl ?_
              first | refine OWp.storeF4 (k := 0) hh rfl rfl rfl rfl rfl (fun H4 hh => ?_) | refine OWp.storeF4 (k := 1) hh rfl rfl rfl rfl rfl (fun H4 hh => ?_) | refine OWp.storeF4 (k := 2) hh rfl rfl rfl rfl rfl (fun H4 hh => ?_)
              simp only [List.set_cons_zero, List.set_cons_succ] at hh
              refine OWp.norm ?_
              refine OWp.assign rfl rfl ?_
              refine OWp.nil ?_
              exact ⟨b2, b7, _, _, ex_env rfl ⟨hh, by omega, ⟨by have := ext_le s 0 i; show (s.extract 0 i).size ≤ _; omega, by have := ext_le s i q; show (s.extract i q).size ≤ _; omega, by first | exact hz9 | exact Nat.zero_le _⟩, fun m' hr hl => by obtain ⟨f1, f2, f3⟩ := hft m' hr hl; rcases body_facts hr f3 with ⟨g1, g2, g3, g4, g5⟩ | ⟨g1, g2, g3, g4⟩ | ⟨g1, g2, g3, g4, g5, g6⟩; (first | (exfalso; omega) | (exfalso; exact absurd g3 (by assumption)) | (exfalso; exact absurd g4 (by assumption)) | (obtain ⟨e1, e2, e3⟩ := split_use hso g5 (by rw [g1]; rfl) hr; exact ⟨e3, mk_eq g1.symm f1 f2 e1 e2⟩)); (first | (exfalso; omega) | (exfalso; exact absurd (g3.symm.trans ‹tt.extract 0 2 = ⟨#[64, 91]⟩›) (by decide)) | (exfalso; exact absurd g3 (by assumption)) | (obtain ⟨e1, e2, e3⟩ := split_use hso g4 (by rw [g1]; rfl) hr; exact ⟨e3, mk_eq g1.symm f1 f2 e1 e2⟩)); (first | (exfalso; omega) | (exfalso; exact g3 (by assumption)) | (exfalso; exact g4 (by assumption)) | (exfalso; exact absurd g5 (by assumption)) | (obtain ⟨e1, e2, e3⟩ := split_use hso g6 (by rw [g1]; rfl) hr; exact ⟨e3, mk_eq g1.symm f1 f2 e1 e2⟩))⟩⟩
            · skip
              first | rw [decide_eq_true h5] | rw [decide_eq_false h5] | rw [h5] | skip
              refine CWp.seq ?_
              refine CWp.region ?_
              refine OWp.move rfl rfl ?_
              refine OWp.binI rfl rfl rfl rfl rfl ?_
              refine OWp.move rfl rfl ?_
              first | refine OWp.byT rfl (fun hg6 => ?_) (fun hg6 => ?_) | refine OWp.byBT rfl (fun hg6 => ?_) (fun hg6 => ?_)
              · skip
                first | rw [decide_eq_true hg6] | rw [decide_eq_false hg6] | rw [hg6] | skip
                try simp only [Decidable.not_not] at hg6
                refine OWp.move rfl rfl ?_
                refine OWp.sliceS rfl rfl Tryd.underlying9 rfl rfl rfl (by omega) (by omega) (by omega) ?_
                rw [show (0 : Int).toNat = 0 by omega, show (2 : Int).toNat = 2 by omega]
                refine OWp.binS rfl rfl rfl rfl rfl ?_
                refine OWp.pickT rfl rfl rfl ?_
                refine OWp.assign rfl rfl ?_
                refine OWp.nil ?_
                first | refine CWp.condP rfl (fun h7 => ?_) (fun h7 => ?_) | refine CWp.cond rfl (fun h7 => ?_) (fun h7 => ?_)
                · skip
                  first | rw [decide_eq_true h7] | rw [decide_eq_false h7] | rw [h7] | skip
                  refine CWp.seq ?_
                  refine CWp.region ?_
                  refine OWp.fieldN 0 (by decide) rfl rfl rfl ?_
                  first | refine OWp.storeF0 (k := 0) hh rfl rfl rfl rfl rfl (fun H4 hh => ?_) | refine OWp.storeF0 (k := 1) hh rfl rfl rfl rfl rfl (fun H4 hh => ?_) | refine OWp.storeF0 (k := 2) hh rfl rfl rfl rfl rfl (fun H4 hh => ?_)
                  simp only [List.set_cons_zero, List.set_cons_succ] at hh
                  refine OWp.norm ?_
                  refine OWp.nil ?_
                  refine CWp.region ?_
                  refine OWp.move rfl rfl ?_
                  refine OWp.sliceS rfl rfl Tryd.underlying9 rfl rfl rfl (by omega) (by omega) (by omega) ?_
                  rw [show (2 : Int).toNat = 2 by omega, show (tt.size : Int).toNat = tt.size from rfl]
                  refine OWp.call rfl rfl rfl rfl ?_
                  refine split_spec _ (by have := ext_le tt (2) (tt.size); omega) 35 (by omega) (by omega) _ _ (fun nm u ok hz8 hn8 hso => ?_)
                  have hz9 : nm.size ≤ 9000000 := by have := ext_le tt (2) (tt.size); omega
                  refine OWp.norm ?_
                  refine OWp.move rfl rfl ?_
                  refine OWp.extract rfl rfl rfl rfl ?_
                  refine OWp.extract rfl rfl rfl rfl ?_
                  refine OWp.extract rfl rfl rfl rfl ?_
                  refine OWp.fieldN 3 (by decide) rfl rfl rfl ?_
                  first | refine OWp.storeF3 (k := 0) hh rfl rfl rfl rfl rfl (fun H4 hh => ?_) | refine OWp.storeF3 (k := 1) hh rfl rfl rfl rfl rfl (fun H4 hh => ?_) | refine OWp.storeF3 (k := 2) hh rfl rfl rfl rfl rfl (fun H4 hh => ?_)
                  simp only [List.set_cons_zero, List.set_cons_succ] at hh
                  refine OWp.norm ?_
                  refine OWp.fieldN 4 (by decide) rfl rfl rfl ?_
                  first | refine OWp.storeF4 (k := 0) hh rfl rfl rfl rfl rfl (fun H4 hh => ?_) | refine OWp.storeF4 (k := 1) hh rfl rfl rfl rfl rfl (fun H4 hh => ?_) | refine OWp.storeF4 (k := 2) hh rfl rfl rfl rfl rfl (fun H4 hh => ?_)
                  simp only [List.set_cons_zero, List.set_cons_succ] at hh
                  refine OWp.norm ?_
                  refine OWp.assign rfl rfl ?_
                  refine OWp.nil ?_
                  exact ⟨b2, b7, _, _, ex_env rfl ⟨hh, by omega, ⟨by have := ext_le s 0 i; show (s.extract 0 i).size ≤ _; omega, by have := ext_le s i q; show (s.extract i q).size ≤ _; omega, by first | exact hz9 | exact Nat.zero_le _⟩, fun m' hr hl => by obtain ⟨f1, f2, f3⟩ := hft m' hr hl; rcases body_facts hr f3 with ⟨g1, g2, g3, g4, g5⟩ | ⟨g1, g2, g3, g4⟩ | ⟨g1, g2, g3, g4, g5, g6⟩; (first | (exfalso; omega) | (exfalso; exact absurd g3 (by assumption)) | (exfalso; exact absurd g4 (by assumption)) | (obtain ⟨e1, e2, e3⟩ := split_use hso g5 (by rw [g1]; rfl) hr; exact ⟨e3, mk_eq g1.symm f1 f2 e1 e2⟩)); (first | (exfalso; omega) | (exfalso; exact absurd (g3.symm.trans ‹tt.extract 0 2 = ⟨#[64, 91]⟩›) (by decide)) | (exfalso; exact absurd g3 (by assumption)) | (obtain ⟨e1, e2, e3⟩ := split_use hso g4 (by rw [g1]; rfl) hr; exact ⟨e3, mk_eq g1.symm f1 f2 e1 e2⟩)); (first | (exfalso; omega) | (exfalso; exact g3 (by assumption)) | (exfalso; exact g4 (by assumption)) | (exfalso; exact absurd g5 (by assumption)) | (obtain ⟨e1, e2, e3⟩ := split_use hso g6 (by rw [g1]; rfl) hr; exact ⟨e3, mk_eq g1.symm f1 f2 e1 e2⟩))⟩⟩
                · skip
                  first | rw [decide_eq_true h7] | rw [decide_eq_false h7] | rw [h7] | skip
                  refine CWp.seq ?_
                  refine CWp.region ?_
                  refine OWp.move rfl rfl ?_
                  refine OWp.binI rfl rfl rfl rfl rfl ?_
                  refine OWp.move rfl rfl ?_
                  first | refine OWp.byT rfl (fun hg8 => ?_) (fun hg8 => ?_) | refine OWp.byBT rfl (fun hg8 => ?_) (fun hg8 => ?_)
                  · skip
                    first | rw [decide_eq_true hg8] | rw [decide_eq_false hg8] | rw [hg8] | skip
                    try simp only [Decidable.not_not] at hg8
                    refine OWp.move rfl rfl ?_
                    refine OWp.move rfl rfl ?_
                    refine OWp.subI rfl rfl rfl rfl (by omega) ?_
                    refine OWp.sliceS rfl rfl Tryd.underlying9 rfl rfl rfl (by omega) (by omega) (by omega) ?_
                    rw [show ((tt.size : Int) - 2).toNat = tt.size - 2 by omega, show (tt.size : Int).toNat = tt.size from rfl]
                    refine OWp.binS rfl rfl rfl rfl rfl ?_
                    refine OWp.pickT rfl rfl rfl ?_
                    refine OWp.assign rfl rfl ?_
                    refine OWp.nil ?_
                    first | refine CWp.condP rfl (fun h9 => ?_) (fun h9 => ?_) | refine CWp.cond rfl (fun h9 => ?_) (fun h9 => ?_)
                    · skip
                      first | rw [decide_eq_true h9] | rw [decide_eq_false h9] | rw [h9] | skip
                      refine CWp.seq ?_
                      refine CWp.region ?_
                      refine OWp.fieldN 0 (by decide) rfl rfl rfl ?_
                      first | refine OWp.storeF0 (k := 0) hh rfl rfl rfl rfl rfl (fun H4 hh => ?_) | refine OWp.storeF0 (k := 1) hh rfl rfl rfl rfl rfl (fun H4 hh => ?_) | refine OWp.storeF0 (k := 2) hh rfl rfl rfl rfl rfl (fun H4 hh => ?_)
                      simp only [List.set_cons_zero, List.set_cons_succ] at hh
                      refine OWp.norm ?_
                      refine OWp.nil ?_
                      refine CWp.region ?_
                      refine OWp.move rfl rfl ?_
                      refine OWp.move rfl rfl ?_
                      refine OWp.subI rfl rfl rfl rfl (by omega) ?_
                      refine OWp.sliceS rfl rfl Tryd.underlying9 rfl rfl rfl (by omega) (by omega) (by omega) ?_
                      rw [show (0 : Int).toNat = 0 by omega, show ((tt.size : Int) - 2).toNat = tt.size - 2 by omega]
                      refine OWp.call rfl rfl rfl rfl ?_
                      refine split_spec _ (by have := ext_le tt (0) (tt.size - 2); omega) 35 (by omega) (by omega) _ _ (fun nm u ok hz8 hn8 hso => ?_)
                      have hz9 : nm.size ≤ 9000000 := by have := ext_le tt (0) (tt.size - 2); omega
                      refine OWp.norm ?_
                      refine OWp.move rfl rfl ?_
                      refine OWp.extract rfl rfl rfl rfl ?_
                      refine OWp.extract rfl rfl rfl rfl ?_
                      refine OWp.extract rfl rfl rfl rfl ?_
                      refine OWp.fieldN 3 (by decide) rfl rfl rfl ?_
                      first | refine OWp.storeF3 (k := 0) hh rfl rfl rfl rfl rfl (fun H4 hh => ?_) | refine OWp.storeF3 (k := 1) hh rfl rfl rfl rfl rfl (fun H4 hh => ?_) | refine OWp.storeF3 (k := 2) hh rfl rfl rfl rfl rfl (fun H4 hh => ?_)
                      simp only [List.set_cons_zero, List.set_cons_succ] at hh
                      refine OWp.norm ?_
                      refine OWp.fieldN 4 (by decide) rfl rfl rfl ?_
                      first | refine OWp.storeF4 (k := 0) hh rfl rfl rfl rfl rfl (fun H4 hh => ?_) | refine OWp.storeF4 (k := 1) hh rfl rfl rfl rfl rfl (fun H4 hh => ?_) | refine OWp.storeF4 (k := 2) hh rfl rfl rfl rfl rfl (fun H4 hh => ?_)
                      simp only [List.set_cons_zero, List.set_cons_succ] at hh
                      refine OWp.norm ?_
                      refine OWp.assign rfl rfl ?_
                      refine OWp.nil ?_
                      exact ⟨b2, b7, _, _, ex_env rfl ⟨hh, by omega, ⟨by have := ext_le s 0 i; show (s.extract 0 i).size ≤ _; omega, by have := ext_le s i q; show (s.extract i q).size ≤ _; omega, by first | exact hz9 | exact Nat.zero_le _⟩, fun m' hr hl => by obtain ⟨f1, f2, f3⟩ := hft m' hr hl; rcases body_facts hr f3 with ⟨g1, g2, g3, g4, g5⟩ | ⟨g1, g2, g3, g4⟩ | ⟨g1, g2, g3, g4, g5, g6⟩; (first | (exfalso; omega) | (exfalso; exact absurd g3 (by assumption)) | (exfalso; exact absurd g4 (by assumption)) | (obtain ⟨e1, e2, e3⟩ := split_use hso g5 (by rw [g1]; rfl) hr; exact ⟨e3, mk_eq g1.symm f1 f2 e1 e2⟩)); (first | (exfalso; omega) | (exfalso; exact absurd (g3.symm.trans ‹tt.extract 0 2 = ⟨#[64, 91]⟩›) (by decide)) | (exfalso; exact absurd g3 (by assumption)) | (obtain ⟨e1, e2, e3⟩ := split_use hso g4 (by rw [g1]; rfl) hr; exact ⟨e3, mk_eq g1.symm f1 f2 e1 e2⟩)); (first | (exfalso; omega) | (exfalso; exact g3 (by assumption)) | (exfalso; exact g4 (by assumption)) | (exfalso; exact absurd g5 (by assumption)) | (obtain ⟨e1, e2, e3⟩ := split_use hso g6 (by rw [g1]; rfl) hr; exact ⟨e3, mk_eq g1.symm f1 f2 e1 e2⟩))⟩⟩
                    · skip
                      first | rw [decide_eq_true h9] | rw [decide_eq_false h9] | rw [h9] | skip
                      refine CWp.skip ?_
                      exact ⟨b2, b7, _, _, ex_env rfl ⟨hh, by omega, ⟨by have := ext_le s 0 i; show (s.extract 0 i).size ≤ _; omega, by have := ext_le s i q; show (s.extract i q).size ≤ _; omega, by first | exact hz9 | exact Nat.zero_le _⟩, fun m' hr hl => by obtain ⟨f1, f2, f3⟩ := hft m' hr hl; rcases body_facts hr f3 with ⟨g1, g2, g3, g4, g5⟩ | ⟨g1, g2, g3, g4⟩ | ⟨g1, g2, g3, g4, g5, g6⟩; (first | (exfalso; omega) | (exfalso; exact absurd g3 (by assumption)) | (exfalso; exact absurd g4 (by assumption)) | (obtain ⟨e1, e2, e3⟩ := split_use hso g5 (by rw [g1]; rfl) hr; exact ⟨e3, mk_eq g1.symm f1 f2 e1 e2⟩)); (first | (exfalso; omega) | (exfalso; exact absurd (g3.symm.trans ‹tt.extract 0 2 = ⟨#[64, 91]⟩›) (by decide)) | (exfalso; exact absurd g3 (by assumption)) | (obtain ⟨e1, e2, e3⟩ := split_use hso g4 (by rw [g1]; rfl) hr; exact ⟨e3, mk_eq g1.symm f1 f2 e1 e2⟩)); (first | (exfalso; omega) | (exfalso; exact g3 (by assumption)) | (exfalso; exact g4 (by assumption)) | (exfalso; exact absurd g5 (by assumption)) | (obtain ⟨e1, e2, e3⟩ := split_use hso g6 (by rw [g1]; rfl) hr; exact ⟨e3, mk_eq g1.symm f1 f2 e1 e2⟩))⟩⟩
                  · skip
                    first | rw [decide_eq_true hg8] | rw [decide_eq_false hg8] | rw [hg8] | skip
                    try simp only [Decidable.not_not] at hg8
                    refine OWp.leave rfl ?_
                    refine OWp.leave rfl ?_
                    refine OWp.leave rfl ?_
                    refine OWp.leave rfl ?_
                    refine OWp.leave rfl ?_
                    refine OWp.pickF rfl rfl rfl ?_
                    refine OWp.assign rfl rfl ?_
                    refine OWp.nil ?_
                    refine CWp.condF rfl ?_
                    refine CWp.skip ?_
                    exact ⟨b2, b7, _, _, ex_env rfl ⟨hh, by omega, ⟨by have := ext_le s 0 i; show (s.extract 0 i).size ≤ _; omega, by have := ext_le s i q; show (s.extract i q).size ≤ _; omega, by first | exact hz9 | exact Nat.zero_le _⟩, fun m' hr hl => by obtain ⟨f1, f2, f3⟩ := hft m' hr hl; rcases body_facts hr f3 with ⟨g1, g2, g3, g4, g5⟩ | ⟨g1, g2, g3, g4⟩ | ⟨g1, g2, g3, g4, g5, g6⟩; (first | (exfalso; omega) | (exfalso; exact absurd g3 (by assumption)) | (exfalso; exact absurd g4 (by assumption)) | (obtain ⟨e1, e2, e3⟩ := split_use hso g5 (by rw [g1]; rfl) hr; exact ⟨e3, mk_eq g1.symm f1 f2 e1 e2⟩)); (first | (exfalso; omega) | (exfalso; exact absurd (g3.symm.trans ‹tt.extract 0 2 = ⟨#[64, 91]⟩›) (by decide)) | (exfalso; exact absurd g3 (by assumption)) | (obtain ⟨e1, e2, e3⟩ := split_use hso g4 (by rw [g1]; rfl) hr; exact ⟨e3, mk_eq g1.symm f1 f2 e1 e2⟩)); (first | (exfalso; omega) | (exfalso; exact g3 (by assumption)) | (exfalso; exact g4 (by assumption)) | (exfalso; exact absurd g5 (by assumption)) | (obtain ⟨e1, e2, e3⟩ := split_use hso g6 (by rw [g1]; rfl) hr; exact ⟨e3, mk_eq g1.symm f1 f2 e1 e2⟩))⟩⟩
              · skip
                first | rw [decide_eq_true hg6] | rw [decide_eq_false hg6] | rw [hg6] | skip
                try simp only [Decidable.not_not] at hg6
                refine OWp.leave rfl ?_
                refine OWp.leave rfl ?_
                refine OWp.leave rfl ?_
                refine OWp.pickF rfl rfl rfl ?_
                refine OWp.assign rfl rfl ?_
                refine OWp.nil ?_
                refine CWp.condF rfl ?_
                refine CWp.seq ?_
                refine CWp.region ?_
                refine OWp.move rfl rfl ?_
                refine OWp.binI rfl rfl rfl rfl rfl ?_
                refine OWp.move rfl rfl ?_
                first | refine OWp.byT rfl (fun hg7 => ?_) (fun hg7 => ?_) | refine OWp.byBT rfl (fun hg7 => ?_) (fun hg7 => ?_)
                · skip
                  first | rw [decide_eq_true hg7] | rw [decide_eq_false hg7] | rw [hg7] | skip
                  try simp only [Decidable.not_not] at hg7
                  refine OWp.move rfl rfl ?_
                  refine OWp.move rfl rfl ?_
                  refine OWp.subI rfl rfl rfl rfl (by omega) ?_
                  refine OWp.sliceS rfl rfl Tryd.underlying9 rfl rfl rfl (by omega) (by omega) (by omega) ?_
                  rw [show ((tt.size : Int) - 2).toNat = tt.size - 2 by omega, show (tt.size : Int).toNat = tt.size from rfl]
                  refine OWp.binS rfl rfl rfl rfl rfl ?_
                  refine OWp.pickT rfl rfl rfl ?_
                  refine OWp.assign rfl rfl ?_
                  refine OWp.nil ?_
                  first | refine CWp.condP rfl (fun h8 => ?_) (fun h8 => ?_) | refine CWp.cond rfl (fun h8 => ?_) (fun h8 => ?_)
                  · skip
                    first | rw [decide_eq_true h8] | rw [decide_eq_false h8] | rw [h8] | skip
                    refine CWp.seq ?_
                    refine CWp.region ?_
                    refine OWp.fieldN 0 (by decide) rfl rfl rfl ?_
                    first | refine OWp.storeF0 (k := 0) hh rfl rfl rfl rfl rfl (fun H4 hh => ?_) | refine OWp.storeF0 (k := 1) hh rfl rfl rfl rfl rfl (fun H4 hh => ?_) | refine OWp.storeF0 (k := 2) hh rfl rfl rfl rfl rfl (fun H4 hh => ?_)
                    simp only [List.set_cons_zero, List.set_cons_succ] at hh
                    refine OWp.norm ?_
                    refine OWp.nil ?_
                    refine CWp.region ?_
                    refine OWp.move rfl rfl ?_
                    refine OWp.move rfl rfl ?_
                    refine OWp.subI rfl rfl rfl rfl (by omega) ?_
                    refine OWp.sliceS rfl rfl Tryd.underlying9 rfl rfl rfl (by omega) (by omega) (by omega) ?_
                    rw [show (0 : Int).toNat = 0 by omega, show ((tt.size : Int) - 2).toNat = tt.size - 2 by omega]
                    refine OWp.call rfl rfl rfl rfl ?_
                    refine split_spec _ (by have := ext_le tt (0) (tt.size - 2); omega) 35 (by omega) (by omega) _ _ (fun nm u ok hz8 hn8 hso => ?_)
                    have hz9 : nm.size ≤ 9000000 := by have := ext_le tt (0) (tt.size - 2); omega
                    refine OWp.norm ?_
                    refine OWp.move rfl rfl ?_
                    refine OWp.extract rfl rfl rfl rfl ?_
                    refine OWp.extract rfl rfl rfl rfl ?_
                    refine OWp.extract rfl rfl rfl rfl ?_
                    refine OWp.fieldN 3 (by decide) rfl rfl rfl ?_
                    first | refine OWp.storeF3 (k := 0) hh rfl rfl rfl rfl rfl (fun H4 hh => ?_) | refine OWp.storeF3 (k := 1) hh rfl rfl rfl rfl rfl (fun H4 hh => ?_) | refine OWp.storeF3 (k := 2) hh rfl rfl rfl rfl rfl (fun H4 hh => ?_)
                    simp only [List.set_cons_zero, List.set_cons_succ] at hh
                    refine OWp.norm ?_
                    refine OWp.fieldN 4 (by decide) rfl rfl rfl ?_
                    first | refine OWp.storeF4 (k := 0) hh rfl rfl rfl rfl rfl (fun H4 hh => ?_) | refine OWp.storeF4 (k := 1) hh rfl rfl rfl rfl rfl (fun H4 hh => ?_) | refine OWp.storeF4 (k := 2) hh rfl rfl rfl rfl rfl (fun H4 hh => ?_)
                    simp only [List.set_cons_zero, List.set_cons_succ] at hh
                    refine OWp.norm ?_
                    refine OWp.assign rfl rfl ?_
                    refine OWp.nil ?_
                    exact ⟨b2, b7, _, _, ex_env rfl ⟨hh, by omega, ⟨by have := ext_le s 0 i; show (s.extract 0 i).size ≤ _; omega, by have := ext_le s i q; show (s.extract i q).size ≤ _; omega, by first | exact hz9 | exact Nat.zero_le _⟩, fun m' hr hl => by obtain ⟨f1, f2, f3⟩ := hft m' hr hl; rcases body_facts hr f3 with ⟨g1, g2, g3, g4, g5⟩ | ⟨g1, g2, g3, g4⟩ | ⟨g1, g2, g3, g4, g5, g6⟩; (first | (exfalso; omega) | (exfalso; exact absurd g3 (by assumption)) | (exfalso; exact absurd g4 (by assumption)) | (obtain ⟨e1, e2, e3⟩ := split_use hso g5 (by rw [g1]; rfl) hr; exact ⟨e3, mk_eq g1.symm f1 f2 e1 e2⟩)); (first | (exfalso; omega) | (exfalso; exact absurd (g3.symm.trans ‹tt.extract 0 2 = ⟨#[64, 91]⟩›) (by decide)) | (exfalso; exact absurd g3 (by assumption)) | (obtain ⟨e1, e2, e3⟩ := split_use hso g4 (by rw [g1]; rfl) hr; exact ⟨e3, mk_eq g1.symm f1 f2 e1 e2⟩)); (first | (exfalso; omega) | (exfalso; exact g3 (by assumption)) | (exfalso; exact g4 (by assumption)) | (exfalso; exact absurd g5 (by assumption)) | (obtain ⟨e1, e2, e3⟩ := split_use hso g6 (by rw [g1]; rfl) hr; exact ⟨e3, mk_eq g1.symm f1 f2 e1 e2⟩))⟩⟩
                  · skip
                    first | rw [decide_eq_true h8] | rw [decide_eq_false h8] | rw [h8] | skip
                    refine CWp.skip ?_
                    exact ⟨b2, b7, _, _, ex_env rfl ⟨hh, by omega, ⟨by have := ext_le s 0 i; show (s.extract 0 i).size ≤ _; omega, by have := ext_le s i q; show (s.extract i q).size ≤ _; omega, by first | exact hz9 | exact Nat.zero_le _⟩, fun m' hr hl => by obtain ⟨f1, f2, f3⟩ := hft m' hr hl; rcases body_facts hr f3 with ⟨g1, g2, g3, g4, g5⟩ | ⟨g1, g2, g3, g4⟩ | ⟨g1, g2, g3, g4, g5, g6⟩; (first | (exfalso; omega) | (exfalso; exact absurd g3 (by assumption)) | (exfalso; exact absurd g4 (by assumption)) | (obtain ⟨e1, e2, e3⟩ := split_use hso g5 (by rw [g1]; rfl) hr; exact ⟨e3, mk_eq g1.symm f1 f2 e1 e2⟩)); (first | (exfalso; omega) | (exfalso; exact absurd (g3.symm.trans ‹tt.extract 0 2 = ⟨#[64, 91]⟩›) (by decide)) | (exfalso; exact absurd g3 (by assumption)) | (obtain ⟨e1, e2, e3⟩ := split_use hso g4 (by rw [g1]; rfl) hr; exact ⟨e3, mk_eq g1.symm f1 f2 e1 e2⟩)); (first | (exfalso; omega) | (exfalso; exact g3 (by assumption)) | (exfalso; exact g4 (by assumption)) | (exfalso; exact absurd g5 (by assumption)) | (obtain ⟨e1, e2, e3⟩ := split_use hso g6 (by rw [g1]; rfl) hr; exact ⟨e3, mk_eq g1.symm f1 f2 e1 e2⟩))⟩⟩
                · skip
                  first | rw [decide_eq_true hg7] | rw [decide_eq_false hg7] | rw [hg7] | skip
                  try simp only [Decidable.not_not] at hg7
                  refine OWp.leave rfl ?_
                  refine OWp.leave rfl ?_
                  refine OWp.leave rfl ?_
                  refine OWp.leave rfl ?_
                  refine OWp.leave rfl ?_
                  refine OWp.pickF rfl rfl rfl ?_
                  refine OWp.assign rfl rfl ?_
                  refine OWp.nil ?_
                  refine CWp.condF rfl ?_
                  refine CWp.skip ?_
                  exact ⟨b2, b7, _, _, ex_env rfl ⟨hh, by omega, ⟨by have := ext_le s 0 i; show (s.extract 0 i).size ≤ _; omega, by have := ext_le s i q; show (s.extract i q).size ≤ _; omega, by first | exact hz9 | exact Nat.zero_le _⟩, fun m' hr hl => by obtain ⟨f1, f2, f3⟩ := hft m' hr hl; rcases body_facts hr f3 with ⟨g1, g2, g3, g4, g5⟩ | ⟨g1, g2, g3, g4⟩ | ⟨g1, g2, g3, g4, g5, g6⟩; (first | (exfalso; omega) | (exfalso; exact absurd g3 (by assumption)) | (exfalso; exact absurd g4 (by assumption)) | (obtain ⟨e1, e2, e3⟩ := split_use hso g5 (by rw [g1]; rfl) hr; exact ⟨e3, mk_eq g1.symm f1 f2 e1 e2⟩)); (first | (exfalso; omega) | (exfalso; exact absurd (g3.symm.trans ‹tt.extract 0 2 = ⟨#[64, 91]⟩›) (by decide)) | (exfalso; exact absurd g3 (by assumption)) | (obtain ⟨e1, e2, e3⟩ := split_use hso g4 (by rw [g1]; rfl) hr; exact ⟨e3, mk_eq g1.symm f1 f2 e1 e2⟩)); (first | (exfalso; omega) | (exfalso; exact g3 (by assumption)) | (exfalso; exact g4 (by assumption)) | (exfalso; exact absurd g5 (by assumption)) | (obtain ⟨e1, e2, e3⟩ := split_use hso g6 (by rw [g1]; rfl) hr; exact ⟨e3, mk_eq g1.symm f1 f2 e1 e2⟩))⟩⟩
          · skip
            first | rw [decide_eq_true hg4] | rw [decide_eq_false hg4] | rw [hg4] | skip
            try simp only [Decidable.not_not] at hg4
            refine OWp.leave rfl ?_
            refine OWp.leave rfl ?_
            refine OWp.leave rfl ?_
            refine OWp.leave rfl ?_
            refine OWp.leave rfl ?_
            refine OWp.pickF rfl rfl rfl ?_
            refine OWp.assign rfl rfl ?_
            refine OWp.nil ?_
            refine CWp.condF rfl ?_
            refine CWp.seq ?_
            refine CWp.region ?_
            refine OWp.move rfl rfl ?_
            refine OWp.binI rfl rfl rfl rfl rfl ?_
            refine OWp.move rfl rfl ?_
            first | refine OWp.byT rfl (fun hg5 => ?_) (fun hg5 => ?_) | refine OWp.byBT rfl (fun hg5 => ?_) (fun hg5 => ?_)
            · skip
              first | rw [decide_eq_true hg5] | rw [decide_eq_false hg5] | rw [hg5] | skip
              try simp only [Decidable.not_not] at hg5
              refine OWp.move rfl rfl ?_
              refine OWp.sliceS rfl rfl Tryd.underlying9 rfl rfl rfl (by omega) (by omega) (by omega) ?_
              rw [show (0 : Int).toNat = 0 by omega, show (2 : Int).toNat = 2 by omega]
              refine OWp.binS rfl rfl rfl rfl rfl ?_
              refine OWp.pickT rfl rfl rfl ?_
              refine OWp.assign rfl rfl ?_
              refine OWp.nil ?_
              first | refine CWp.condP rfl (fun h6 => ?_) (fun h6 => ?_) | refine CWp.cond rfl (fun h6 => ?_) (fun h6 => ?_)
              · skip
                first | rw [decide_eq_true h6] | rw [decide_eq_false h6] | rw [h6] | skip
                refine CWp.seq ?_
                refine CWp.region ?_
                refine OWp.fieldN 0 (by decide) rfl rfl rfl ?_
                first | refine OWp.storeF0 (k := 0) hh rfl rfl rfl rfl rfl (fun H4 hh => ?_) | refine OWp.storeF0 (k := 1) hh rfl rfl rfl rfl rfl (fun H4 hh => ?_) | refine OWp.storeF0 (k := 2) hh rfl rfl rfl rfl rfl (fun H4 hh => ?_)
                simp only [List.set_cons_zero, List.set_cons_succ] at hh
                refine OWp.norm ?_
                refine OWp.nil ?_
                refine CWp.region ?_
                refine OWp.move rfl rfl ?_
                refine OWp.sliceS rfl rfl Tryd.underlying9 rfl rfl rfl (by omega) (by omega) (by omega) ?_
                rw [show (2 : Int).toNat = 2 by omega, show (tt.size : Int).toNat = tt.size from rfl]
                refine OWp.call rfl rfl rfl rfl ?_
                refine split_spec _ (by have := ext_le tt (2) (tt.size); omega) 35 (by omega) (by omega) _ _ (fun nm u ok hz8 hn8 hso => ?_)
                have hz9 : nm.size ≤ 9000000 := by have := ext_le tt (2) (tt.size); omega
                refine OWp.norm ?_
                refine OWp.move rfl rfl ?_
                refine OWp.extract rfl rfl rfl rfl ?_
                refine OWp.extract rfl rfl rfl rfl ?_
                refine OWp.extract rfl rfl rfl rfl ?_
                refine OWp.fieldN 3 (by decide) rfl rfl rfl ?_
                first | refine OWp.storeF3 (k := 0) hh rfl rfl rfl rfl rfl (fun H4 hh => ?_) | refine OWp.storeF3 (k := 1) hh rfl rfl rfl rfl rfl (fun H4 hh => ?_) | refine OWp.storeF3 (k := 2) hh rfl rfl rfl rfl rfl (fun H4 hh => ?_)
                simp only [List.set_cons_zero, List.set_cons_succ] at hh
                refine OWp.norm ?_
                refine OWp.fieldN 4 (by decide) rfl rfl rfl ?_
                first | refine OWp.storeF4 (k := 0) hh rfl rfl rfl rfl rfl (fun H4 hh => ?_) | refine OWp.storeF4 (k := 1) hh rfl rfl rfl rfl rfl (fun H4 hh => ?_) | refine OWp.storeF4 (k := 2) hh rfl rfl rfl rfl rfl (fun H4 hh => ?_)
                simp only [List.set_cons_zero, List.set_cons_succ] at hh
                refine OWp.norm ?_
                refine OWp.assign rfl rfl ?_
                refine OWp.nil ?_
                exact ⟨b2, b7, _, _, ex_env rfl ⟨hh, by omega, ⟨by have := ext_le s 0 i; show (s.extract 0 i).size ≤ _; omega, by have := ext_le s i q; show (s.extract i q).size ≤ _; omega, by first | exact hz9 | exact Nat.zero_le _⟩, fun m' hr hl => by obtain ⟨f1, f2, f3⟩ := hft m' hr hl; rcases body_facts hr f3 with ⟨g1, g2, g3, g4, g5⟩ | ⟨g1, g2, g3, g4⟩ | ⟨g1, g2, g3, g4, g5, g6⟩; (first | (exfalso; omega) | (exfalso; exact absurd g3 (by assumption)) | (exfalso; exact absurd g4 (by assumption)) | (obtain ⟨e1, e2, e3⟩ := split_use hso g5 (by rw [g1]; rfl) hr; exact ⟨e3, mk_eq g1.symm f1 f2 e1 e2⟩)); (first | (exfalso; omega) | (exfalso; exact absurd (g3.symm.trans ‹tt.extract 0 2 = ⟨#[64, 91]⟩›) (by decide)) | (exfalso; exact absurd g3 (by assumption)) | (obtain ⟨e1, e2, e3⟩ := split_use hso g4 (by rw [g1]; rfl) hr; exact ⟨e3, mk_eq g1.symm f1 f2 e1 e2⟩)); (first | (exfalso; omega) | (exfalso; exact g3 (by assumption)) | (exfalso; exact g4 (by assumption)) | (exfalso; exact absurd g5 (by assumption)) | (obtain ⟨e1, e2, e3⟩ := split_use hso g6 (by rw [g1]; rfl) hr; exact ⟨e3, mk_eq g1.symm f1 f2 e1 e2⟩))⟩⟩
              · skip
                first | rw [decide_eq_true h6] | rw [decide_eq_false h6] | rw [h6] | skip
                refine CWp.seq ?_
                refine CWp.region ?_
                refine OWp.move rfl rfl ?_
                refine OWp.binI rfl rfl rfl rfl rfl ?_
                refine OWp.move rfl rfl ?_
                first | refine OWp.byT rfl (fun hg7 => ?_) (fun hg7 => ?_) | refine OWp.byBT rfl (fun hg7 => ?_) (fun hg7 => ?_)
                · skip
                  first | rw [decide_eq_true hg7] | rw [decide_eq_false hg7] | rw [hg7] | skip
                  try simp only [Decidable.not_not] at hg7
                  refine OWp.move rfl rfl ?_
                  refine OWp.move rfl rfl ?_
                  refine OWp.subI rfl rfl rfl rfl (by omega) ?_
                  refine OWp.sliceS rfl rfl Tryd.underlying9 rfl rfl rfl (by omega) (by omega) (by omega) ?_
                  rw [show ((tt.size : Int) - 2).toNat = tt.size - 2 by omega, show (tt.size : Int).toNat = tt.size from rfl]
                  refine OWp.binS rfl rfl rfl rfl rfl ?_
                  refine OWp.pickT rfl rfl rfl ?_
                  refine OWp.assign rfl rfl ?_
                  refine OWp.nil ?_
                  first | refine CWp.condP rfl (fun h8 => ?_) (fun h8 => ?_) | refine CWp.cond rfl (fun h8 => ?_) (fun h8 => ?_)
                  · skip
                    first | rw [decide_eq_true h8] | rw [decide_eq_false h8] | rw [h8] | skip
                    refine CWp.seq ?_
                    refine CWp.region ?_
                    refine OWp.fieldN 0 (by decide) rfl rfl rfl ?_
                    first | refine OWp.storeF0 (k := 0) hh rfl rfl rfl rfl rfl (fun H4 hh => ?_) | refine OWp.storeF0 (k := 1) hh rfl rfl rfl rfl rfl (fun H4 hh => ?_) | refine OWp.storeF0 (k := 2) hh rfl rfl rfl rfl rfl (fun H4 hh => ?_)
                    simp only [List.set_cons_zero, List.set_cons_succ] at hh
                    refine OWp.norm ?_
                    refine OWp.nil ?_
                    refine CWp.region ?_
                    refine OWp.move rfl rfl ?_
                    refine OWp.move rfl rfl ?_
                    refine OWp.subI rfl rfl rfl rfl (by omega) ?_
                    refine OWp.sliceS rfl rfl Tryd.underlying9 rfl rfl rfl (by omega) (by omega) (by omega) ?_
                    rw [show (0 : Int).toNat = 0 by omega, show ((tt.size : Int) - 2).toNat = tt.size - 2 by omega]
                    refine OWp.call rfl rfl rfl rfl ?_
                    refine split_spec _ (by have := ext_le tt (0) (tt.size - 2); omega) 35 (by omega) (by omega) _ _ (fun nm u ok hz8 hn8 hso => ?_)
                    have hz9 : nm.size ≤ 9000000 := by have := ext_le tt (0) (tt.size - 2); omega
                    refine OWp.norm ?_
                    refine OWp.move rfl rfl ?_
                    refine OWp.extract rfl rfl rfl rfl ?_
                    refine OWp.extract rfl rfl rfl rfl ?_
                    refine OWp.extract rfl rfl rfl rfl ?_
                    refine OWp.fieldN 3 (by decide) rfl rfl rfl ?_
                    first | refine OWp.storeF3 (k := 0) hh rfl rfl rfl rfl rfl (fun H4 hh => ?_) | refine OWp.storeF3 (k := 1) hh rfl rfl rfl rfl rfl (fun H4 hh => ?_) | refine OWp.storeF3 (k := 2) hh rfl rfl rfl rfl rfl (fun H4 hh => ?_)
                    simp only [List.set_cons_zero, List.set_cons_succ] at hh
                    refine OWp.norm ?_
                    refine OWp.fieldN 4 (by decide) rfl rfl rfl ?_
                    first | refine OWp.storeF4 (k := 0) hh rfl rfl rfl rfl rfl (fun H4 hh => ?_) | refine OWp.storeF4 (k := 1) hh rfl rfl rfl rfl rfl (fun H4 hh => ?_) | refine OWp.storeF4 (k := 2) hh rfl rfl rfl rfl rfl (fun H4 hh => ?_)
                    simp only [List.set_cons_zero, List.set_cons_succ] at hh
                    refine OWp.norm ?_
                    refine OWp.assign rfl rfl ?_
                    refine OWp.nil ?_
                    exact ⟨b2, b7, _, _, ex_env rfl ⟨hh, by omega, ⟨by have := ext_le s 0 i; show (s.extract 0 i).size ≤ _; omega, by have := ext_le s i q; show (s.extract i q).size ≤ _; omega, by first | exact hz9 | exact Nat.zero_le _⟩, fun m' hr hl => by obtain ⟨f1, f2, f3⟩ := hft m' hr hl; rcases body_facts hr f3 with ⟨g1, g2, g3, g4, g5⟩ | ⟨g1, g2, g3, g4⟩ | ⟨g1, g2, g3, g4, g5, g6⟩; (first | (exfalso; omega) | (exfalso; exact absurd g3 (by assumption)) | (exfalso; exact absurd g4 (by assumption)) | (obtain ⟨e1, e2, e3⟩ := split_use hso g5 (by rw [g1]; rfl) hr; exact ⟨e3, mk_eq g1.symm f1 f2 e1 e2⟩)); (first | (exfalso; omega) | (exfalso; exact absurd (g3.symm.trans ‹tt.extract 0 2 = ⟨#[64, 91]⟩›) (by decide)) | (exfalso; exact absurd g3 (by assumption)) | (obtain ⟨e1, e2, e3⟩ := split_use hso g4 (by rw [g1]; rfl) hr; exact ⟨e3, mk_eq g1.symm f1 f2 e1 e2⟩)); (first | (exfalso; omega) | (exfalso; exact g3 (by assumption)) | (exfalso; exact g4 (by assumption)) | (exfalso; exact absurd g5 (by assumption)) | (obtain ⟨e1, e2, e3⟩ := split_use hso g6 (by rw [g1]; rfl) hr; exact ⟨e3, mk_eq g1.symm f1 f2 e1 e2⟩))⟩⟩
                  · skip
                    first | rw [decide_eq_true h8] | rw [decide_eq_false h8] | rw [h8] | skip
                    refine CWp.skip ?_
                    exact ⟨b2, b7, _, _, ex_env rfl ⟨hh, by omega, ⟨by have := ext_le s 0 i; show (s.extract 0 i).size ≤ _; omega, by have := ext_le s i q; show (s.extract i q).size ≤ _; omega, by first | exact hz9 | exact Nat.zero_le _⟩, fun m' hr hl => by obtain ⟨f1, f2, f3⟩ := hft m' hr hl; rcases body_facts hr f3 with ⟨g1, g2, g3, g4, g5⟩ | ⟨g1, g2, g3, g4⟩ | ⟨g1, g2, g3, g4, g5, g6⟩; (first | (exfalso; omega) | (exfalso; exact absurd g3 (by assumption)) | (exfalso; exact absurd g4 (by assumption)) | (obtain ⟨e1, e2, e3⟩ := split_use hso g5 (by rw [g1]; rfl) hr; exact ⟨e3, mk_eq g1.symm f1 f2 e1 e2⟩)); (first | (exfalso; omega) | (exfalso; exact absurd (g3.symm.trans ‹tt.extract 0 2 = ⟨#[64, 91]⟩›) (by decide)) | (exfalso; exact absurd g3 (by assumption)) | (obtain ⟨e1, e2, e3⟩ := split_use hso g4 (by rw [g1]; rfl) hr; exact ⟨e3, mk_eq g1.symm f1 f2 e1 e2⟩)); (first | (exfalso; omega) | (exfalso; exact g3 (by assumption)) | (exfalso; exact g4 (by assumption)) | (exfalso; exact absurd g5 (by assumption)) | (obtain ⟨e1, e2, e3⟩ := split_use hso g6 (by rw [g1]; rfl) hr; exact ⟨e3, mk_eq g1.symm f1 f2 e1 e2⟩))⟩⟩
                · skip
                  first | rw [decide_eq_true hg7] | rw [decide_eq_false hg7] | rw [hg7] | skip
                  try simp only [Decidable.not_not] at hg7
                  refine OWp.leave rfl ?_
                  refine OWp.leave rfl ?_
                  refine OWp.leave rfl ?_
                  refine OWp.leave rfl ?_
                  refine OWp.leave rfl ?_
                  refine OWp.pickF rfl rfl rfl ?_
                  refine OWp.assign rfl rfl ?_
                  refine OWp.nil ?_
                  refine CWp.condF rfl ?_
                  refine CWp.skip ?_
                  exact ⟨b2, b7, _, _, ex_env rfl ⟨hh, by omega, ⟨by have := ext_le s 0 i; show (s.extract 0 i).size ≤ _; omega, by have := ext_le s i q; show (s.extract i q).size ≤ _; omega, by first | exact hz9 | exact Nat.zero_le _⟩, fun m' hr hl => by obtain ⟨f1, f2, f3⟩ := hft m' hr hl; rcases body_facts hr f3 with ⟨g1, g2, g3, g4, g5⟩ | ⟨g1, g2, g3, g4⟩ | ⟨g1, g2, g3, g4, g5, g6⟩; (first | (exfalso; omega) | (exfalso; exact absurd g3 (by assumption)) | (exfalso; exact absurd g4 (by assumption)) | (obtain ⟨e1, e2, e3⟩ := split_use hso g5 (by rw [g1]; rfl) hr; exact ⟨e3, mk_eq g1.symm f1 f2 e1 e2⟩)); (first | (exfalso; omega) | (exfalso; exact absurd (g3.symm.trans ‹tt.extract 0 2 = ⟨#[64, 91]⟩›) (by decide)) | (exfalso; exact absurd g3 (by assumption)) | (obtain ⟨e1, e2, e3⟩ := split_use hso g4 (by rw [g1]; rfl) hr; exact ⟨e3, mk_eq g1.symm f1 f2 e1 e2⟩)); (first | (exfalso; omega) | (exfalso; exact g3 (by assumption)) | (exfalso; exact g4 (by assumption)) | (exfalso; exact absurd g5 (by assumption)) | (obtain ⟨e1, e2, e3⟩ := split_use hso g6 (by rw [g1]; rfl) hr; exact ⟨e3, mk_eq g1.symm f1 f2 e1 e2⟩))⟩⟩
            · skip
              first | rw [decide_eq_true hg5] | rw [decide_eq_false hg5] | rw [hg5] | skip
              try simp only [Decidable.not_not] at hg5
              refine OWp.leave rfl ?_
              refine OWp.leave rfl ?_
              refine OWp.leave rfl ?_
              refine OWp.pickF rfl rfl rfl ?_
              refine OWp.assign rfl rfl ?_
              refine OWp.nil ?_
              refine CWp.condF rfl ?_
              refine CWp.seq ?_
              refine CWp.region ?_
              refine OWp.move rfl rfl ?_
              refine OWp.binI rfl rfl rfl rfl rfl ?_
              refine OWp.move rfl rfl ?_
              first | refine OWp.byT rfl (fun hg6 => ?_) (fun hg6 => ?_) | refine OWp.byBT rfl (fun hg6 => ?_) (fun hg6 => ?_)
              · skip
                first | rw [decide_eq_true hg6] | rw [decide_eq_false hg6] | rw [hg6] | skip
                try simp only [Decidable.not_not] at hg6
                refine OWp.move rfl rfl ?_
                refine OWp.move rfl rfl ?_
                refine OWp.subI rfl rfl rfl rfl (by omega) ?_
                refine OWp.sliceS rfl rfl Tryd.underlying9 rfl rfl rfl (by omega) (by omega) (by omega) ?_
                rw [show ((tt.size : Int) - 2).toNat = tt.size - 2 by omega, show (tt.size : Int).toNat = tt.size from rfl]
                refine OWp.binS rfl rfl rfl rfl rfl ?_
                refine OWp.pickT rfl rfl rfl ?_
                refine OWp.assign rfl rfl ?_
                refine OWp.nil ?_
                first | refine CWp.condP rfl (fun h7 => ?_) (fun h7 => ?_) | refine CWp.cond rfl (fun h7 => ?_) (fun h7 => ?_)
                · skip
                  first | rw [decide_eq_true h7] | rw [decide_eq_false h7] | rw [h7] | skip
                  refine CWp.seq ?_
                  refine CWp.region ?_
                  refine OWp.fieldN 0 (by decide) rfl rfl rfl ?_
                  first | refine OWp.storeF0 (k := 0) hh rfl rfl rfl rfl rfl (fun H4 hh => ?_) | refine OWp.storeF0 (k := 1) hh rfl rfl rfl rfl rfl (fun H4 hh => ?_) | refine OWp.storeF0 (k := 2) hh rfl rfl rfl rfl rfl (fun H4 hh => ?_)
                  simp only [List.set_cons_zero, List.set_cons_succ] at hh
                  refine OWp.norm ?_
                  refine OWp.nil ?_
                  refine CWp.region ?_
                  refine OWp.move rfl rfl ?_
                  refine OWp.move rfl rfl ?_
                  refine OWp.subI rfl rfl rfl rfl (by omega) ?_
                  refine OWp.sliceS rfl rfl Tryd.underlying9 rfl rfl rfl (by omega) (by omega) (by omega) ?_
                  rw [show (0 : Int).toNat = 0 by omega, show ((tt.size : Int) - 2).toNat = tt.size - 2 by omega]
                  refine OWp.call rfl rfl rfl rfl ?_
                  refine split_spec _ (by have := ext_le tt (0) (tt.size - 2); omega) 35 (by omega) (by omega) _ _ (fun nm u ok hz8 hn8 hso => ?_)
                  have hz9 : nm.size ≤ 9000000 := by have := ext_le tt (0) (tt.size - 2); omega
                  refine OWp.norm ?_
                  refine OWp.move rfl rfl ?_
                  refine OWp.extract rfl rfl rfl rfl ?_
                  refine OWp.extract rfl rfl rfl rfl ?_
                  refine OWp.extract rfl rfl rfl rfl ?_
                  refine OWp.fieldN 3 (by decide) rfl rfl rfl ?_
                  first | refine OWp.storeF3 (k := 0) hh rfl rfl rfl rfl rfl (fun H4 hh => ?_) | refine OWp.storeF3 (k := 1) hh rfl rfl rfl rfl rfl (fun H4 hh => ?_) | refine OWp.storeF3 (k := 2) hh rfl rfl rfl rfl rfl (fun H4 hh => ?_)
                  simp only [List.set_cons_zero, List.set_cons_succ] at hh
                  refine OWp.norm ?_
                  refine OWp.fieldN 4 (by decide) rfl rfl rfl ?_
                  first | refine OWp.storeF4 (k := 0) hh rfl rfl rfl rfl rfl (fun H4 hh => ?_) | refine OWp.storeF4 (k := 1) hh rfl rfl rfl rfl rfl (fun H4 hh => ?_) | refine OWp.storeF4 (k := 2) hh rfl rfl rfl rfl rfl (fun H4 hh => ?_)
                  simp only [List.set_cons_zero, List.set_cons_succ] at hh
                  refine OWp.norm ?_
                  refine OWp.assign rfl rfl ?_
                  refine OWp.nil ?_
                  exact ⟨b2, b7, _, _, ex_env rfl ⟨hh, by omega, ⟨by have := ext_le s 0 i; show (s.extract 0 i).size ≤ _; omega, by have := ext_le s i q; show (s.extract i q).size ≤ _; omega, by first | exact hz9 | exact Nat.zero_le _⟩, fun m' hr hl => by obtain ⟨f1, f2, f3⟩ := hft m' hr hl; rcases body_facts hr f3 with ⟨g1, g2, g3, g4, g5⟩ | ⟨g1, g2, g3, g4⟩ | ⟨g1, g2, g3, g4, g5, g6⟩; (first | (exfalso; omega) | (exfalso; exact absurd g3 (by assumption)) | (exfalso; exact absurd g4 (by assumption)) | (obtain ⟨e1, e2, e3⟩ := split_use hso g5 (by rw [g1]; rfl) hr; exact ⟨e3, mk_eq g1.symm f1 f2 e1 e2⟩)); (first | (exfalso; omega) | (exfalso; exact absurd (g3.symm.trans ‹tt.extract 0 2 = ⟨#[64, 91]⟩›) (by decide)) | (exfalso; exact absurd g3 (by assumption)) | (obtain ⟨e1, e2, e3⟩ := split_use hso g4 (by rw [g1]; rfl) hr; exact ⟨e3, mk_eq g1.symm f1 f2 e1 e2⟩)); (first | (exfalso; omega) | (exfalso; exact g3 (by assumption)) | (exfalso; exact g4 (by assumption)) | (exfalso; exact absurd g5 (by assumption)) | (obtain ⟨e1, e2, e3⟩ := split_use hso g6 (by rw [g1]; rfl) hr; exact ⟨e3, mk_eq g1.symm f1 f2 e1 e2⟩))⟩⟩
                · skip
                  first | rw [decide_eq_true h7] | rw [decide_eq_false h7] | rw [h7] | skip
                  refine CWp.skip ?_
                  exact ⟨b2, b7, _, _, ex_env rfl ⟨hh, by omega, ⟨by have := ext_le s 0 i; show (s.extract 0 i).size ≤ _; omega, by have := ext_le s i q; show (s.extract i q).size ≤ _; omega, by first | exact hz9 | exact Nat.zero_le _⟩, fun m' hr hl => by obtain ⟨f1, f2, f3⟩ := hft m' hr hl; rcases body_facts hr f3 with ⟨g1, g2, g3, g4, g5⟩ | ⟨g1, g2, g3, g4⟩ | ⟨g1, g2, g3, g4, g5, g6⟩; (first | (exfalso; omega) | (exfalso; exact absurd g3 (by assumption)) | (exfalso; exact absurd g4 (by assumption)) | (obtain ⟨e1, e2, e3⟩ := split_use hso g5 (by rw [g1]; rfl) hr; exact ⟨e3, mk_eq g1.symm f1 f2 e1 e2⟩)); (first | (exfalso; omega) | (exfalso; exact absurd (g3.symm.trans ‹tt.extract 0 2 = ⟨#[64, 91]⟩›) (by decide)) | (exfalso; exact absurd g3 (by assumption)) | (obtain ⟨e1, e2, e3⟩ := split_use hso g4 (by rw [g1]; rfl) hr; exact ⟨e3, mk_eq g1.symm f1 f2 e1 e2⟩)); (first | (exfalso; omega) | (exfalso; exact g3 (by assumption)) | (exfalso; exact g4 (by assumption)) | (exfalso; exact absurd g5 (by assumption)) | (obtain ⟨e1, e2, e3⟩ := split_use hso g6 (by rw [g1]; rfl) hr; exact ⟨e3, mk_eq g1.symm f1 f2 e1 e2⟩))⟩⟩
              · skip
                first | rw [decide_eq_true hg6] | rw [decide_eq_false hg6] | rw [hg6] | skip
                try simp only [Decidable.not_not] at hg6
                refine OWp.leave rfl ?_
                refine OWp.leave rfl ?_
                refine OWp.leave rfl ?_
                refine OWp.leave rfl ?_
                refine OWp.leave rfl ?_
                refine OWp.pickF rfl rfl rfl ?_
                refine OWp.assign rfl rfl ?_
                refine OWp.nil ?_
                refine CWp.condF rfl ?_
                refine CWp.skip ?_
                exact ⟨b2, b7, _, _, ex_env rfl ⟨hh, by omega, ⟨by have := ext_le s 0 i; show (s.extract 0 i).size ≤ _; omega, by have := ext_le s i q; show (s.extract i q).size ≤ _; omega, by first | exact hz9 | exact Nat.zero_le _⟩, fun m' hr hl => by obtain ⟨f1, f2, f3⟩ := hft m' hr hl; rcases body_facts hr f3 with ⟨g1, g2, g3, g4, g5⟩ | ⟨g1, g2, g3, g4⟩ | ⟨g1, g2, g3, g4, g5, g6⟩; (first | (exfalso; omega) | (exfalso; exact absurd g3 (by assumption)) | (exfalso; exact absurd g4 (by assumption)) | (obtain ⟨e1, e2, e3⟩ := split_use hso g5 (by rw [g1]; rfl) hr; exact ⟨e3, mk_eq g1.symm f1 f2 e1 e2⟩)); (first | (exfalso; omega) | (exfalso; exact absurd (g3.symm.trans ‹tt.extract 0 2 = ⟨#[64, 91]⟩›) (by decide)) | (exfalso; exact absurd g3 (by assumption)) | (obtain ⟨e1, e2, e3⟩ := split_use hso g4 (by rw [g1]; rfl) hr; exact ⟨e3, mk_eq g1.symm f1 f2 e1 e2⟩)); (first | (exfalso; omega) | (exfalso; exact g3 (by assumption)) | (exfalso; exact g4 (by assumption)) | (exfalso; exact absurd g5 (by assumption)) | (obtain ⟨e1, e2, e3⟩ := split_use hso g6 (by rw [g1]; rfl) hr; exact ⟨e3, mk_eq g1.symm f1 f2 e1 e2⟩))⟩⟩
        · skip
          first | rw [decide_eq_true hg3] | rw [decide_eq_false hg3] | rw [hg3] | skip
          try simp only [Decidable.not_not] at hg3
          refine OWp.leave rfl ?_
          refine OWp.leave rfl ?_
          refine OWp.leave rfl ?_
          refine OWp.pickF rfl rfl rfl ?_
          refine OWp.move rfl rfl ?_
          refine OWp.leave rfl ?_
          refine OWp.leave rfl ?_
          refine OWp.leave rfl ?_
          refine OWp.leave rfl ?_
          refine OWp.leave rfl ?_
          refine OWp.pickF rfl rfl rfl ?_
          refine OWp.assign rfl rfl ?_
          refine OWp.nil ?_
          refine CWp.condF rfl ?_
          refine CWp.seq ?_
          refine CWp.region ?_
          refine OWp.move rfl rfl ?_
          refine OWp.binI rfl rfl rfl rfl rfl ?_
          refine OWp.move rfl rfl ?_
          first | refine OWp.byT rfl (fun hg4 => ?_) (fun hg4 => ?_) | refine OWp.byBT rfl (fun hg4 => ?_) (fun hg4 => ?_)
          · skip
            first | rw [decide_eq_true hg4] | rw [decide_eq_false hg4] | rw [hg4] | skip
            try simp only [Decidable.not_not] at hg4
            refine OWp.move rfl rfl ?_
            refine OWp.sliceS rfl rfl Tryd.underlying9 rfl rfl rfl (by omega) (by omega) (by omega) ?_
            rw [show (0 : Int).toNat = 0 by omega, show (2 : Int).toNat = 2 by omega]
            refine OWp.binS rfl rfl rfl rfl rfl ?_
            refine OWp.pickT rfl rfl rfl ?_
            refine OWp.assign rfl rfl ?_
            refine OWp.nil ?_
            first | refine CWp.condP rfl (fun h5 => ?_) (fun h5 => ?_) | refine CWp.cond rfl (fun h5 => ?_) (fun h5 => ?_)
            · skip
              first | rw [decide_eq_true h5] | rw [decide_eq_false h5] | rw [h5] | skip
              refine CWp.seq ?_
              refine CWp.region ?_
              refine OWp.fieldN 0 (by decide) rfl rfl rfl ?_
              first | refine OWp.storeF0 (k := 0) hh rfl rfl rfl rfl rfl (fun H4 hh => ?_) | refine OWp.storeF0 (k := 1) hh rfl rfl rfl rfl rfl (fun H4 hh => ?_) | refine OWp.storeF0 (k := 2) hh rfl rfl rfl rfl rfl (fun H4 hh => ?_)
              simp only [List.set_cons_zero, List.set_cons_succ] at hh
              refine OWp.norm ?_
              refine OWp.nil ?_
              refine CWp.region ?_
              refine OWp.move rfl rfl ?_
              refine OWp.sliceS rfl rfl Tryd.underlying9 rfl rfl rfl (by omega) (by omega) (by omega) ?_
              rw [show (2 : Int).toNat = 2 by omega, show (tt.size : Int).toNat = tt.size from rfl]
              refine OWp.call rfl rfl rfl rfl ?_
              refine split_spec _ (by have := ext_le tt (2) (tt.size); omega) 35 (by omega) (by omega) _ _ (fun nm u ok hz8 hn8 hso => ?_)
              have hz9 : nm.size ≤ 9000000 := by have := ext_le tt (2) (tt.size); omega
              refine OWp.norm ?_
              refine OWp.move rfl rfl ?_
              refine OWp.extract rfl rfl rfl rfl ?_
              refine OWp.extract rfl rfl rfl rfl ?_
              refine OWp.extract rfl rfl rfl rfl ?_
              refine OWp.fieldN 3 (by decide) rfl rfl rfl ?_
              first | refine OWp.storeF3 (k := 0) hh rfl rfl rfl rfl rfl (fun H4 hh => ?_) | refine OWp.storeF3 (k := 1) hh rfl rfl rfl rfl rfl (fun H4 hh => ?_) | refine OWp.storeF3 (k := 2) hh rfl rfl rfl rfl rfl (fun H4 hh => ?_)
              simp only [List.set_cons_zero, List.set_cons_succ] at hh
              refine OWp.norm ?_
              refine OWp.fieldN 4 (by decide) rfl rfl rfl ?_
              first | refine OWp.storeF4 (k := 0) hh rfl rfl rfl rfl rfl (fun H4 hh => ?_) | refine OWp.storeF4 (k := 1) hh rfl rfl rfl rfl rfl (fun H4 hh => ?_) | refine OWp.storeF4 (k := 2) hh rfl rfl rfl rfl rfl (fun H4 hh => ?_)
              simp only [List.set_cons_zero, List.set_cons_succ] at hh
              refine OWp.norm ?_
              refine OWp.assign rfl rfl ?_
              refine OWp.nil ?_
              exact ⟨b2, b7, _, _, ex_env rfl ⟨hh, by omega, ⟨by have := ext_le s 0 i; show (s.extract 0 i).size ≤ _; omega, by have := ext_le s i q; show (s.extract i q).size ≤ _; omega, by first | exact hz9 | exact Nat.zero_le _⟩, fun m' hr hl => by obtain ⟨f1, f2, f3⟩ := hft m' hr hl; rcases body_facts hr f3 with ⟨g1, g2, g3, g4, g5⟩ | ⟨g1, g2, g3, g4⟩ | ⟨g1, g2, g3, g4, g5, g6⟩; (first | (exfalso; omega) | (exfalso; exact absurd g3 (by assumption)) | (exfalso; exact absurd g4 (by assumption)) | (obtain ⟨e1, e2, e3⟩ := split_use hso g5 (by rw [g1]; rfl) hr; exact ⟨e3, mk_eq g1.symm f1 f2 e1 e2⟩)); (first | (exfalso; omega) | (exfalso; exact absurd (g3.symm.trans ‹tt.extract 0 2 = ⟨#[64, 91]⟩›) (by decide)) | (exfalso; exact absurd g3 (by assumption)) | (obtain ⟨e1, e2, e3⟩ := split_use hso g4 (by rw [g1]; rfl) hr; exact ⟨e3, mk_eq g1.symm f1 f2 e1 e2⟩)); (first | (exfalso; omega) | (exfalso; exact g3 (by assumption)) | (exfalso; exact g4 (by assumption)) | (exfalso; exact absurd g5 (by assumption)) | (obtain ⟨e1, e2, e3⟩ := split_use hso g6 (by rw [g1]; rfl) hr; exact ⟨e3, mk_eq g1.symm f1 f2 e1 e2⟩))⟩⟩
            · skip
              first | rw [decide_eq_true h5] | rw [decide_eq_false h5] | rw [h5] | skip
              refine CWp.seq ?_
              refine CWp.region ?_
              refine OWp.move rfl rfl ?_
              refine OWp.binI rfl rfl rfl rfl rfl ?_
              refine OWp.move rfl rfl ?_
              first | refine OWp.byT rfl (fun hg6 => ?_) (fun hg6 => ?_) | refine OWp.byBT rfl (fun hg6 => ?_) (fun hg6 => ?_)
              · skip
                first | rw [decide_eq_true hg6] | rw [decide_eq_false hg6] | rw [hg6] | skip
                try simp only [Decidable.not_not] at hg6
                refine OWp.move rfl rfl ?_
                refine OWp.move rfl rfl ?_
                refine OWp.subI rfl rfl rfl rfl (by omega) ?_
                refine OWp.sliceS rfl rfl Tryd.underlying9 rfl rfl rfl (by omega) (by omega) (by omega) ?_
                rw [show ((tt.size : Int) - 2).toNat = tt.size - 2 by omega, show (tt.size : Int).toNat = tt.size from rfl]
                refine OWp.binS rfl rfl rfl rfl rfl ?_
                refine OWp.pickT rfl rfl rfl ?_
                refine OWp.assign rfl rfl ?_
                refine OWp.nil ?_
                first | refine CWp.condP rfl (fun h7 => ?_) (fun h7 => ?_) | refine CWp.cond rfl (fun h7 => ?_) (fun h7 => ?_)
                · skip
                  first | rw [decide_eq_true h7] | rw [decide_eq_false h7] | rw [h7] | skip
                  refine CWp.seq ?_
                  refine CWp.region ?_
                  refine OWp.fieldN 0 (by decide) rfl rfl rfl ?_
                  first | refine OWp.storeF0 (k := 0) hh rfl rfl rfl rfl rfl (fun H4 hh => ?_) | refine OWp.storeF0 (k := 1) hh rfl rfl rfl rfl rfl (fun H4 hh => ?_) | refine OWp.storeF0 (k := 2) hh rfl rfl rfl rfl rfl (fun H4 hh => ?_)
                  simp only [List.set_cons_zero, List.set_cons_succ] at hh
                  refine OWp.norm ?_
                  refine OWp.nil ?_
                  refine CWp.region ?_
                  refine OWp.move rfl rfl ?_
                  refine OWp.move rfl rfl ?_
                  refine OWp.subI rfl rfl rfl rfl (by omega) ?_
                  refine OWp.sliceS rfl rfl Tryd.underlying9 rfl rfl rfl (by omega) (by omega) (by omega) ?_
                  rw [show (0 : Int).toNat = 0 by omega, show ((tt.size : Int) - 2).toNat = tt.size - 2 by omega]
                  refine OWp.call rfl rfl rfl rfl ?_
                  refine split_spec _ (by have := ext_le tt (0) (tt.size - 2); omega) 35 (by omega) (by omega) _ _ (fun nm u ok hz8 hn8 hso => ?_)
                  have hz9 : nm.size ≤ 9000000 := by have := ext_le tt (0) (tt.size - 2); omega
                  refine OWp.norm ?_
                  refine OWp.move rfl rfl ?_
                  refine OWp.extract rfl rfl rfl rfl ?_
                  refine OWp.extract rfl rfl rfl rfl ?_
                  refine OWp.extract rfl rfl rfl rfl ?_
                  refine OWp.fieldN 3 (by decide) rfl rfl rfl ?_
                  first | refine OWp.storeF3 (k := 0) hh rfl rfl rfl rfl rfl (fun H4 hh => ?_) | refine OWp.storeF3 (k := 1) hh rfl rfl rfl rfl rfl (fun H4 hh => ?_) | refine OWp.storeF3 (k := 2) hh rfl rfl rfl rfl rfl (fun H4 hh => ?_)
                  simp only [List.set_cons_zero, List.set_cons_succ] at hh
                  refine OWp.norm ?_
                  refine OWp.fieldN 4 (by decide) rfl rfl rfl ?_
                  first | refine OWp.storeF4 (k := 0) hh rfl rfl rfl rfl rfl (fun H4 hh => ?_) | refine OWp.storeF4 (k := 1) hh rfl rfl rfl rfl rfl (fun H4 hh => ?_) | refine OWp.storeF4 (k := 2) hh rfl rfl rfl rfl rfl (fun H4 hh => ?_)
                  simp only [List.set_cons_zero, List.set_cons_succ] at hh
                  refine OWp.norm ?_
                  refine OWp.assign rfl rfl ?_
                  refine OWp.nil ?_
                  exact ⟨b2, b7, _, _, ex_env rfl ⟨hh, by omega, ⟨by have := ext_le s 0 i; show (s.extract 0 i).size ≤ _; omega, by have := ext_le s i q; show (s.extract i q).size ≤ _; omega, by first | exact hz9 | exact Nat.zero_le _⟩, fun m' hr hl => by obtain ⟨f1, f2, f3⟩ := hft m' hr hl; rcases body_facts hr f3 with ⟨g1, g2, g3, g4, g5⟩ | ⟨g1, g2, g3, g4⟩ | ⟨g1, g2, g3, g4, g5, g6⟩; (first | (exfalso; omega) | (exfalso; exact absurd g3 (by assumption)) | (exfalso; exact absurd g4 (by assumption)) | (obtain ⟨e1, e2, e3⟩ := split_use hso g5 (by rw [g1]; rfl) hr; exact ⟨e3, mk_eq g1.symm f1 f2 e1 e2⟩)); (first | (exfalso; omega) | (exfalso; exact absurd (g3.symm.trans ‹tt.extract 0 2 = ⟨#[64, 91]⟩›) (by decide)) | (exfalso; exact absurd g3 (by assumption)) | (obtain ⟨e1, e2, e3⟩ := split_use hso g4 (by rw [g1]; rfl) hr; exact ⟨e3, mk_eq g1.symm f1 f2 e1 e2⟩)); (first | (exfalso; omega) | (exfalso; exact g3 (by assumption)) | (exfalso; exact g4 (by assumption)) | (exfalso; exact absurd g5 (by assumption)) | (obtain ⟨e1, e2, e3⟩ := split_use hso g6 (by rw [g1]; rfl) hr; exact ⟨e3, mk_eq g1.symm f1 f2 e1 e2⟩))⟩⟩
                · skip
                  first | rw [decide_eq_true h7] | rw [decide_eq_false h7] | rw [h7] | skip
                  refine CWp.skip ?_
                  exact ⟨b2, b7, _, _, ex_env rfl ⟨hh, by omega, ⟨by have := ext_le s 0 i; show (s.extract 0 i).size ≤ _; omega, by have := ext_le s i q; show (s.extract i q).size ≤ _; omega, by first | exact hz9 | exact Nat.zero_le _⟩, fun m' hr hl => by obtain ⟨f1, f2, f3⟩ := hft m' hr hl; rcases body_facts hr f3 with ⟨g1, g2, g3, g4, g5⟩ | ⟨g1, g2, g3, g4⟩ | ⟨g1, g2, g3, g4, g5, g6⟩; (first | (exfalso; omega) | (exfalso; exact absurd g3 (by assumption)) | (exfalso; exact absurd g4 (by assumption)) | (obtain ⟨e1, e2, e3⟩ := split_use hso g5 (by rw [g1]; rfl) hr; exact ⟨e3, mk_eq g1.symm f1 f2 e1 e2⟩)); (first | (exfalso; omega) | (exfalso; exact absurd (g3.symm.trans ‹tt.extract 0 2 = ⟨#[64, 91]⟩›) (by decide)) | (exfalso; exact absurd g3 (by assumption)) | (obtain ⟨e1, e2, e3⟩ := split_use hso g4 (by rw [g1]; rfl) hr; exact ⟨e3, mk_eq g1.symm f1 f2 e1 e2⟩)); (first | (exfalso; omega) | (exfalso; exact g3 (by assumption)) | (exfalso; exact g4 (by assumption)) | (exfalso; exact absurd g5 (by assumption)) | (obtain ⟨e1, e2, e3⟩ := split_use hso g6 (by rw [g1]; rfl) hr; exact ⟨e3, mk_eq g1.symm f1 f2 e1 e2⟩))⟩⟩
              · skip
                first | rw [decide_eq_true hg6] | rw [decide_eq_false hg6] | rw [hg6] | skip
                try simp only [Decidable.not_not] at hg6
                refine OWp.leave rfl ?_
                refine OWp.leave rfl ?_
                refine OWp.leave rfl ?_
                refine OWp.leave rfl ?_
                refine OWp.leave rfl ?_
                refine OWp.pickF rfl rfl rfl ?_
                refine OWp.assign rfl rfl ?_
                refine OWp.nil ?_
                refine CWp.condF rfl ?_
                refine CWp.skip ?_
                exact ⟨b2, b7, _, _, ex_env rfl ⟨hh, by omega, ⟨by have := ext_le s 0 i; show (s.extract 0 i).size ≤ _; omega, by have := ext_le s i q; show (s.extract i q).size ≤ _; omega, by first | exact hz9 | exact Nat.zero_le _⟩, fun m' hr hl => by obtain ⟨f1, f2, f3⟩ := hft m' hr hl; rcases body_facts hr f3 with ⟨g1, g2, g3, g4, g5⟩ | ⟨g1, g2, g3, g4⟩ | ⟨g1, g2, g3, g4, g5, g6⟩; (first | (exfalso; omega) | (exfalso; exact absurd g3 (by assumption)) | (exfalso; exact absurd g4 (by assumption)) | (obtain ⟨e1, e2, e3⟩ := split_use hso g5 (by rw [g1]; rfl) hr; exact ⟨e3, mk_eq g1.symm f1 f2 e1 e2⟩)); (first | (exfalso; omega) | (exfalso; exact absurd (g3.symm.trans ‹tt.extract 0 2 = ⟨#[64, 91]⟩›) (by decide)) | (exfalso; exact absurd g3 (by assumption)) | (obtain ⟨e1, e2, e3⟩ := split_use hso g4 (by rw [g1]; rfl) hr; exact ⟨e3, mk_eq g1.symm f1 f2 e1 e2⟩)); (first | (exfalso; omega) | (exfalso; exact g3 (by assumption)) | (exfalso; exact g4 (by assumption)) | (exfalso; exact absurd g5 (by assumption)) | (obtain ⟨e1, e2, e3⟩ := split_use hso g6 (by rw [g1]; rfl) hr; exact ⟨e3, mk_eq g1.symm f1 f2 e1 e2⟩))⟩⟩
          · skip
            first | rw [decide_eq_true hg4] | rw [decide_eq_false hg4] | rw [hg4] | skip
            try simp only [Decidable.not_not] at hg4
            refine OWp.leave rfl ?_
            refine OWp.leave rfl ?_
            refine OWp.leave rfl ?_
            refine OWp.pickF rfl rfl rfl ?_
            refine OWp.assign rfl rfl ?_
            refine OWp.nil ?_
            refine CWp.condF rfl ?_
            refine CWp.seq ?_
            refine CWp.region ?_
            refine OWp.move rfl rfl ?_
            refine OWp.binI rfl rfl rfl rfl rfl ?_
            refine OWp.move rfl rfl ?_
            first | refine OWp.byT rfl (fun hg5 => ?_) (fun hg5 => ?_) | refine OWp.byBT rfl (fun hg5 => ?_) (fun hg5 => ?_)
            · skip
              first | rw [decide_eq_true hg5] | rw [decide_eq_false hg5] | rw [hg5] | skip
              try simp only [Decidable.not_not] at hg5
              refine OWp.move rfl rfl ?_
              refine OWp.move rfl rfl ?_
              refine OWp.subI rfl rfl rfl rfl (by omega) ?_
              refine OWp.sliceS rfl rfl Tryd.underlying9 rfl rfl rfl (by omega) (by omega) (by omega) ?_
              rw [show ((tt.size : Int) - 2).toNat = tt.size - 2 by omega, show (tt.size : Int).toNat = tt.size from rfl]
              refine OWp.binS rfl rfl rfl rfl rfl ?_
              refine OWp.pickT rfl rfl rfl ?_
              refine OWp.assign rfl rfl ?_
              refine OWp.nil ?_
              first | refine CWp.condP rfl (fun h6 => ?_) (fun h6 => ?_) | refine CWp.cond rfl (fun h6 => ?_) (fun h6 => ?_)
              · skip
                first | rw [decide_eq_true h6] | rw [decide_eq_false h6] | rw [h6] | skip
                refine CWp.seq ?_
                refine CWp.region ?_
                refine OWp.fieldN 0 (by decide) rfl rfl rfl ?_
                first | refine OWp.storeF0 (k := 0) hh rfl rfl rfl rfl rfl (fun H4 hh => ?_) | refine OWp.storeF0 (k := 1) hh rfl rfl rfl rfl rfl (fun H4 hh => ?_) | refine OWp.storeF0 (k := 2) hh rfl rfl rfl rfl rfl (fun H4 hh => ?_)
                simp only [List.set_cons_zero, List.set_cons_succ] at hh
                refine OWp.norm ?_
                refine OWp.nil ?_
                refine CWp.region ?_
                refine OWp.move rfl rfl ?_
                refine OWp.move rfl rfl ?_
                refine OWp.subI rfl rfl rfl rfl (by omega) ?_
                refine OWp.sliceS rfl rfl Tryd.underlying9 rfl rfl rfl (by omega) (by omega) (by omega) ?_
                rw [show (0 : Int).toNat = 0 by omega, show ((tt.size : Int) - 2).toNat = tt.size - 2 by omega]
                refine OWp.call rfl rfl rfl rfl ?_
                refine split_spec _ (by have := ext_le tt (0) (tt.size - 2); omega) 35 (by omega) (by omega) _ _ (fun nm u ok hz8 hn8 hso => ?_)
                have hz9 : nm.size ≤ 9000000 := by have := ext_le tt (0) (tt.size - 2); omega
                refine OWp.norm ?_
                refine OWp.move rfl rfl ?_
                refine OWp.extract rfl rfl rfl rfl ?_
                refine OWp.extract rfl rfl rfl rfl ?_
                refine OWp.extract rfl rfl rfl rfl ?_
                refine OWp.fieldN 3 (by decide) rfl rfl rfl ?_
                first | refine OWp.storeF3 (k := 0) hh rfl rfl rfl rfl rfl (fun H4 hh => ?_) | refine OWp.storeF3 (k := 1) hh rfl rfl rfl rfl rfl (fun H4 hh => ?_) | refine OWp.storeF3 (k := 2) hh rfl rfl rfl rfl rfl (fun H4 hh => ?_)
                simp only [List.set_cons_zero, List.set_cons_succ] at hh
                refine OWp.norm ?_
                refine OWp.fieldN 4 (by decide) rfl rfl rfl ?_
                first | refine OWp.storeF4 (k := 0) hh rfl rfl rfl rfl rfl (fun H4 hh => ?_) | refine OWp.storeF4 (k := 1) hh rfl rfl rfl rfl rfl (fun H4 hh => ?_) | refine OWp.storeF4 (k := 2) hh rfl rfl rfl rfl rfl (fun H4 hh => ?_)
                simp only [List.set_cons_zero, List.set_cons_succ] at hh
                refine OWp.norm ?_
                refine OWp.assign rfl rfl ?_
                refine OWp.nil ?_
                exact ⟨b2, b7, _, _, ex_env rfl ⟨hh, by omega, ⟨by have := ext_le s 0 i; show (s.extract 0 i).size ≤ _; omega, by have := ext_le s i q; show (s.extract i q).size ≤ _; omega, by first | exact hz9 | exact Nat.zero_le _⟩, fun m' hr hl => by obtain ⟨f1, f2, f3⟩ := hft m' hr hl; rcases body_facts hr f3 with ⟨g1, g2, g3, g4, g5⟩ | ⟨g1, g2, g3, g4⟩ | ⟨g1, g2, g3, g4, g5, g6⟩; (first | (exfalso; omega) | (exfalso; exact absurd g3 (by assumption)) | (exfalso; exact absurd g4 (by assumption)) | (obtain ⟨e1, e2, e3⟩ := split_use hso g5 (by rw [g1]; rfl) hr; exact ⟨e3, mk_eq g1.symm f1 f2 e1 e2⟩)); (first | (exfalso; omega) | (exfalso; exact absurd (g3.symm.trans ‹tt.extract 0 2 = ⟨#[64, 91]⟩›) (by decide)) | (exfalso; exact absurd g3 (by assumption)) | (obtain ⟨e1, e2, e3⟩ := split_use hso g4 (by rw [g1]; rfl) hr; exact ⟨e3, mk_eq g1.symm f1 f2 e1 e2⟩)); (first | (exfalso; omega) | (exfalso; exact g3 (by assumption)) | (exfalso; exact g4 (by assumption)) | (exfalso; exact absurd g5 (by assumption)) | (obtain ⟨e1, e2, e3⟩ := split_use hso g6 (by rw [g1]; rfl) hr; exact ⟨e3, mk_eq g1.symm f1 f2 e1 e2⟩))⟩⟩
              · skip
                first | rw [decide_eq_true h6] | rw [decide_eq_false h6] | rw [h6] | skip
                refine CWp.skip ?_
                exact ⟨b2, b7, _, _, ex_env rfl ⟨hh, by omega, ⟨by have := ext_le s 0 i; show (s.extract 0 i).size ≤ _; omega, by have := ext_le s i q; show (s.extract i q).size ≤ _; omega, by first | exact hz9 | exact Nat.zero_le _⟩, fun m' hr hl => by obtain ⟨f1, f2, f3⟩ := hft m' hr hl; rcases body_facts hr f3 with ⟨g1, g2, g3, g4, g5⟩ | ⟨g1, g2, g3, g4⟩ | ⟨g1, g2, g3, g4, g5, g6⟩; (first | (exfalso; omega) | (exfalso; exact absurd g3 (by assumption)) | (exfalso; exact absurd g4 (by assumption)) | (obtain ⟨e1, e2, e3⟩ := split_use hso g5 (by rw [g1]; rfl) hr; exact ⟨e3, mk_eq g1.symm f1 f2 e1 e2⟩)); (first | (exfalso; omega) | (exfalso; exact absurd (g3.symm.trans ‹tt.extract 0 2 = ⟨#[64, 91]⟩›) (by decide)) | (exfalso; exact absurd g3 (by assumption)) | (obtain ⟨e1, e2, e3⟩ := split_use hso g4 (by rw [g1]; rfl) hr; exact ⟨e3, mk_eq g1.symm f1 f2 e1 e2⟩)); (first | (exfalso; omega) | (exfalso; exact g3 (by assumption)) | (exfalso; exact g4 (by assumption)) | (exfalso; exact absurd g5 (by assumption)) | (obtain ⟨e1, e2, e3⟩ := split_use hso g6 (by rw [g1]; rfl) hr; exact ⟨e3, mk_eq g1.symm f1 f2 e1 e2⟩))⟩⟩
            · skip
              first | rw [decide_eq_true hg5] | rw [decide_eq_false hg5] | rw [hg5] | skip
              try simp only [Decidable.not_not] at hg5
              refine OWp.leave rfl ?_
              refine OWp.leave rfl ?_
              refine OWp.leave rfl ?_
              refine OWp.leave rfl ?_
              refine OWp.leave rfl ?_
              refine OWp.pickF rfl rfl rfl ?_
              refine OWp.assign rfl rfl ?_
              refine OWp.nil ?_
              refine CWp.condF rfl ?_
              refine CWp.skip ?_
              exact ⟨b2, b7, _, _, ex_env rfl ⟨hh, by omega, ⟨by have := ext_le s 0 i; show (s.extract 0 i).size ≤ _; omega, by have := ext_le s i q; show (s.extract i q).size ≤ _; omega, by first | exact hz9 | exact Nat.zero_le _⟩, fun m' hr hl => by obtain ⟨f1, f2, f3⟩ := hft m' hr hl; rcases body_facts hr f3 with ⟨g1, g2, g3, g4, g5⟩ | ⟨g1, g2, g3, g4⟩ | ⟨g1, g2, g3, g4, g5, g6⟩; (first | (exfalso; omega) | (exfalso; exact absurd g3 (by assumption)) | (exfalso; exact absurd g4 (by assumption)) | (obtain ⟨e1, e2, e3⟩ := split_use hso g5 (by rw [g1]; rfl) hr; exact ⟨e3, mk_eq g1.symm f1 f2 e1 e2⟩)); (first | (exfalso; omega) | (exfalso; exact absurd (g3.symm.trans ‹tt.extract 0 2 = ⟨#[64, 91]⟩›) (by decide)) | (exfalso; exact absurd g3 (by assumption)) | (obtain ⟨e1, e2, e3⟩ := split_use hso g4 (by rw [g1]; rfl) hr; exact ⟨e3, mk_eq g1.symm f1 f2 e1 e2⟩)); (first | (exfalso; omega) | (exfalso; exact g3 (by assumption)) | (exfalso; exact g4 (by assumption)) | (exfalso; exact absurd g5 (by assumption)) | (obtain ⟨e1, e2, e3⟩ := split_use hso g6 (by rw [g1]; rfl) hr; exact ⟨e3, mk_eq g1.symm f1 f2 e1 e2⟩))⟩⟩
      · rintro e H' ⟨b2, b7, mm, ok, g, rfl, hh, hs0, hmm, hfm⟩
        refine CWp.seq ?_
        refine CWp.seq ?_
        refine CWp.region ?_
        refine OWp.move rfl rfl ?_
        first | refine OWp.notD rfl rfl rfl ?_ | refine OWp.notB rfl rfl rfl ?_
        refine OWp.move rfl rfl ?_
        first | refine OWp.byF rfl (fun hg3 => ?_) (fun hg3 => ?_) | refine OWp.byBF rfl (fun hg3 => ?_) (fun hg3 => ?_)
        · skip
          first | rw [decide_eq_true hg3] | rw [decide_eq_false hg3] | rw [hg3] | skip
          try simp only [Decidable.not_not] at hg3
          first | refine OWp.loadM (k := 0) hh rfl rfl rfl rfl ?_ | refine OWp.loadM (k := 1) hh rfl rfl rfl rfl ?_ | refine OWp.loadM (k := 2) hh rfl rfl rfl rfl ?_
          refine OWp.call rfl rfl rfl rfl ?_
          refine textR_spec mm hmm _ _ ?_ hh.wf
          intro H7 t7 hk7 ht7
          replace hh := hh.after hk7
          refine OWp.norm ?_
          refine OWp.move rfl rfl ?_
          refine OWp.binS rfl rfl rfl rfl rfl ?_
          refine OWp.pickF rfl rfl rfl ?_
          refine OWp.nil ?_
          first | refine CWp.condP rfl (fun h4 => ?_) (fun h4 => ?_) | refine CWp.cond rfl (fun h4 => ?_) (fun h4 => ?_)
          · skip
            first | rw [decide_eq_true h4] | rw [decide_eq_false h4] | rw [h4] | skip
            refine CWp.seq ?_
            refine CWp.region ?_
            refine OWp.buildM (zeroM) rfl rfl rfl (by kernel_rfl) ?_
            first | refine OWp.storeM (k := 0) hh rfl rfl rfl rfl rfl (fun H4 hh => ?_) | refine OWp.storeM (k := 1) hh rfl rfl rfl rfl rfl (fun H4 hh => ?_) | refine OWp.storeM (k := 2) hh rfl rfl rfl rfl rfl (fun H4 hh => ?_)
            simp only [List.set_cons_zero, List.set_cons_succ] at hh
            refine OWp.norm ?_
            refine OWp.assign rfl rfl ?_
            refine OWp.nil ?_
            refine CWp.ret ?_
            first | refine RetQ.cellM (k := 0) (by first | exact .inl rfl | exact .inr rfl) rfl rfl hh rfl rfl rfl ?_ | refine RetQ.cellM (k := 1) (by first | exact .inl rfl | exact .inr rfl) rfl rfl hh rfl rfl rfl ?_ | refine RetQ.cellM (k := 2) (by first | exact .inl rfl | exact .inr rfl) rfl rfl hh rfl rfl rfl ?_
            exact h _ zeroM false hh.keep ⟨fun e => (by cases e), fun _ => ⟨rfl, fun m' hr hl => by have e9 := (hfm m' hr hl).2; subst e9; exact absurd ((ht7.1 hr).trans hl) (by assumption)⟩⟩
          · skip
            first | rw [decide_eq_true h4] | rw [decide_eq_false h4] | rw [h4] | skip
            refine CWp.skip ?_
            refine CWp.seq ?_
            refine CWp.region ?_
            first | refine OWp.loadM (k := 0) hh rfl rfl rfl rfl ?_ | refine OWp.loadM (k := 1) hh rfl rfl rfl rfl ?_ | refine OWp.loadM (k := 2) hh rfl rfl rfl rfl ?_
            first | refine OWp.storeM (k := 0) hh rfl rfl rfl rfl rfl (fun H4 hh => ?_) | refine OWp.storeM (k := 1) hh rfl rfl rfl rfl rfl (fun H4 hh => ?_) | refine OWp.storeM (k := 2) hh rfl rfl rfl rfl rfl (fun H4 hh => ?_)
            simp only [List.set_cons_zero, List.set_cons_succ] at hh
            refine OWp.norm ?_
            refine OWp.assign rfl rfl ?_
            refine OWp.nil ?_
            refine CWp.ret ?_
            have e7 : t7 = s := by simp_all
            have hrm : RightM mm := ht7.ne.1 (by rw [e7]; intro e; rw [e] at hs0; exact absurd hs0 (by decide))
            first | refine RetQ.cellM (k := 0) (by first | exact .inl rfl | exact .inr rfl) rfl rfl hh rfl rfl rfl ?_ | refine RetQ.cellM (k := 1) (by first | exact .inl rfl | exact .inr rfl) rfl rfl hh rfl rfl rfl ?_ | refine RetQ.cellM (k := 2) (by first | exact .inl rfl | exact .inr rfl) rfl rfl hh rfl rfl rfl ?_
            exact h _ mm true hh.keep ⟨fun _ => ⟨hrm, (ht7.1 hrm).symm.trans e7⟩, fun e => (by cases e)⟩
        · skip
          first | rw [decide_eq_true hg3] | rw [decide_eq_false hg3] | rw [hg3] | skip
          try simp only [Decidable.not_not] at hg3
          refine OWp.leave rfl ?_
          refine OWp.leave rfl ?_
          refine OWp.leave rfl ?_
          refine OWp.leave rfl ?_
          refine OWp.pickT rfl rfl rfl ?_
          refine OWp.nil ?_
          refine CWp.condT rfl ?_
          refine CWp.seq ?_
          refine CWp.region ?_
          refine OWp.buildM (zeroM) rfl rfl rfl (by kernel_rfl) ?_
          first | refine OWp.storeM (k := 0) hh rfl rfl rfl rfl rfl (fun H4 hh => ?_) | refine OWp.storeM (k := 1) hh rfl rfl rfl rfl rfl (fun H4 hh => ?_) | refine OWp.storeM (k := 2) hh rfl rfl rfl rfl rfl (fun H4 hh => ?_)
          simp only [List.set_cons_zero, List.set_cons_succ] at hh
          refine OWp.norm ?_
          refine OWp.assign rfl rfl ?_
          refine OWp.nil ?_
          refine CWp.ret ?_
          first | refine RetQ.cellM (k := 0) (by first | exact .inl rfl | exact .inr rfl) rfl rfl hh rfl rfl rfl ?_ | refine RetQ.cellM (k := 1) (by first | exact .inl rfl | exact .inr rfl) rfl rfl hh rfl rfl rfl ?_ | refine RetQ.cellM (k := 2) (by first | exact .inl rfl | exact .inr rfl) rfl rfl hh rfl rfl rfl ?_
          exact h _ zeroM false hh.keep ⟨fun e => (by cases e), fun _ => ⟨rfl, fun m' hr hl => by have := (hfm m' hr hl).1; simp_all⟩⟩

theorem isR_spec (s : ByteArray) (hs : s.size ≤ 9000000) (H : AH) (Q : Value → AH → Prop) (h : ∀ H' m b, Keeps H H' → ReadOk s m b → Q (.bool b) H') (hw : WfH H) : FWp Tryd.prog prims 15 [.string s] H Q := by
  have hh := Has.start hw
  refine FWp.enter (rfl) Tryd.func15 rfl (e := [.string s, undef, undef, undef, undef, undef, undef, undef, undef, undef, undef]) rfl ?_
  refine CWp.seq ?_
  refine CWp.region ?_
  refine OWp.assign rfl rfl ?_
  refine OWp.nil ?_
  refine CWp.seq ?_
  refine CWp.region ?_
  refine OWp.move rfl rfl ?_
  refine OWp.call rfl rfl rfl rfl ?_
  refine readR_spec s hs _ _ ?_ hh.wf
  intro H2 mm bb hk2 hro
  replace hh := hh.after hk2
  refine OWp.norm ?_
  refine OWp.move rfl rfl ?_
  refine OWp.extract rfl rfl rfl rfl ?_
  refine OWp.extract rfl rfl rfl rfl ?_
  refine OWp.allocM hh rfl rfl (fun H3 b3 hh => ?_)
  refine OWp.norm ?_
  first | refine OWp.storeM (k := 0) hh rfl rfl rfl rfl rfl (fun H4 hh => ?_) | refine OWp.storeM (k := 1) hh rfl rfl rfl rfl rfl (fun H4 hh => ?_) | refine OWp.storeM (k := 2) hh rfl rfl rfl rfl rfl (fun H4 hh => ?_)
  simp only [List.set_cons_zero, List.set_cons_succ] at hh
  refine OWp.norm ?_
  refine OWp.assign rfl rfl ?_
  refine OWp.nil ?_
  refine CWp.seq ?_
  refine CWp.region ?_
  refine OWp.move rfl rfl ?_
  refine OWp.assign rfl rfl ?_
  refine OWp.nil ?_
  refine CWp.ret ?_
  refine RetQ.one (by first | exact .inl rfl | exact .inr rfl) rfl rfl ?_
  exact h _ _ _ hh.keep hro

end Go.Proofs.YtllokljpacpafaaDoor.Ev
