import Derived.Test.YtllokljpacpafaaDoorEvM6
namespace Go.Proofs.YtllokljpacpafaaDoor.Ev
open Go
set_option linter.unusedVariables false
set_option linter.unusedSimpArgs false
set_option maxHeartbeats 4000000

theorem markBack_spec (u v : ByteArray) (hu : u.size ≤ 1048576) (hv : v.size ≤ 1048576) (kind n n2 : Int) (H : AH) (Q : Value → AH → Prop) (h : ∀ H', Q (.bool true) H') (hw : WfH H) : FWp Tryd.prog prims 5 [.string u, .string v, .int .i64 kind, .int .i64 n, .int .i64 n2] H Q := by
  have hh := Has.start hw
  refine FWp.enter (rfl) Tryd.func5 rfl (e := [.string u, .string v, .int .i64 kind, .int .i64 n, .int .i64 n2, undef, undef, undef, undef, undef, undef, undef, undef, undef, undef, undef, undef, undef, undef, undef, undef, undef, undef, undef, undef, undef, undef, undef, undef, undef, undef, undef, undef, undef, undef, undef, undef, undef, undef, undef, undef, undef, undef, undef, undef, undef, undef, undef, undef, undef, undef, undef, undef, undef, undef, undef, undef, undef, undef, undef, undef, undef, undef, undef, undef, undef, undef, undef, undef, undef, undef, undef, undef, undef, undef, undef, undef, undef]) rfl ?_
  refine CWp.seq ?_
  refine CWp.region ?_
  refine OWp.assign rfl rfl ?_
  refine OWp.nil ?_
  refine CWp.seq ?_
  refine CWp.region ?_
  refine OWp.move rfl rfl ?_
  refine OWp.remK rfl rfl rfl rfl (by decide) ?_
  obtain ⟨k3, hk3⟩ : ∃ k3, k3 = kind.tmod 3 := ⟨_, rfl⟩
  have hk4 := tmod3 kind
  rw [← hk3] at hk4 ⊢
  refine OWp.addI rfl rfl rfl rfl (by first | omega | (simp only [size_app, sz_0, sz_1, sz_2, sz_3, sz_4]; omega)) ?_
  refine OWp.remK rfl rfl rfl rfl (by decide) ?_
  obtain ⟨k5, hk5⟩ : ∃ k5, k5 = (k3 + 3).tmod 3 := ⟨_, rfl⟩
  have hk6 := tmod3 (k3 + 3)
  rw [← hk5] at hk6 ⊢
  refine OWp.addI rfl rfl rfl rfl (by first | omega | (simp only [size_app, sz_0, sz_1, sz_2, sz_3, sz_4]; omega)) ?_
  refine OWp.move rfl rfl ?_
  refine OWp.move rfl rfl ?_
  refine OWp.andM rfl rfl rfl rfl (by omega) (fun c hc => ?_)
  refine OWp.norm ?_
  refine OWp.buildM (⟨1 + k5, ⟨#[32]⟩, ⟨#[35]⟩, u, (c : Nat)⟩) rfl rfl rfl (by kernel_rfl) ?_
  refine OWp.allocM hh rfl rfl (fun H11 b11 hh => ?_)
  refine OWp.norm ?_
  first | refine OWp.storeM (k := 0) hh rfl rfl rfl rfl rfl (fun H4 hh => ?_) | refine OWp.storeM (k := 1) hh rfl rfl rfl rfl rfl (fun H4 hh => ?_) | refine OWp.storeM (k := 2) hh rfl rfl rfl rfl rfl (fun H4 hh => ?_) | refine OWp.storeM (k := 3) hh rfl rfl rfl rfl rfl (fun H4 hh => ?_)
  simp only [List.set_cons_zero, List.set_cons_succ] at hh
  refine OWp.norm ?_
  refine OWp.nil ?_
  refine CWp.seq ?_
  refine CWp.region ?_
  first | refine OWp.loadM (k := 0) hh rfl rfl rfl rfl ?_ | refine OWp.loadM (k := 1) hh rfl rfl rfl rfl ?_ | refine OWp.loadM (k := 2) hh rfl rfl rfl rfl ?_ | refine OWp.loadM (k := 3) hh rfl rfl rfl rfl ?_
  refine OWp.allocM hh rfl rfl (fun H12 b12 hh => ?_)
  refine OWp.norm ?_
  first | refine OWp.storeM (k := 0) hh rfl rfl rfl rfl rfl (fun H4 hh => ?_) | refine OWp.storeM (k := 1) hh rfl rfl rfl rfl rfl (fun H4 hh => ?_) | refine OWp.storeM (k := 2) hh rfl rfl rfl rfl rfl (fun H4 hh => ?_) | refine OWp.storeM (k := 3) hh rfl rfl rfl rfl rfl (fun H4 hh => ?_)
  simp only [List.set_cons_zero, List.set_cons_succ] at hh
  refine OWp.norm ?_
  refine OWp.nil ?_
  refine CWp.seq ?_
  refine CWp.region ?_
  refine OWp.move rfl rfl ?_
  refine OWp.move rfl rfl ?_
  refine OWp.andM rfl rfl rfl rfl (by omega) (fun d hd => ?_)
  refine OWp.norm ?_
  refine OWp.fieldN 3 (by decide) rfl rfl rfl ?_
  first | refine OWp.storeF3 (k := 0) hh rfl rfl rfl rfl rfl (fun H4 hh => ?_) | refine OWp.storeF3 (k := 1) hh rfl rfl rfl rfl rfl (fun H4 hh => ?_) | refine OWp.storeF3 (k := 2) hh rfl rfl rfl rfl rfl (fun H4 hh => ?_) | refine OWp.storeF3 (k := 3) hh rfl rfl rfl rfl rfl (fun H4 hh => ?_)
  simp only [List.set_cons_zero, List.set_cons_succ] at hh
  refine OWp.norm ?_
  refine OWp.fieldN 4 (by decide) rfl rfl rfl ?_
  first | refine OWp.storeF4 (k := 0) hh rfl rfl rfl rfl rfl (fun H4 hh => ?_) | refine OWp.storeF4 (k := 1) hh rfl rfl rfl rfl rfl (fun H4 hh => ?_) | refine OWp.storeF4 (k := 2) hh rfl rfl rfl rfl rfl (fun H4 hh => ?_) | refine OWp.storeF4 (k := 3) hh rfl rfl rfl rfl rfl (fun H4 hh => ?_)
  simp only [List.set_cons_zero, List.set_cons_succ] at hh
  refine OWp.norm ?_
  refine OWp.nil ?_
  refine CWp.seq ?_
  refine CWp.drawnN (by kernel_rfl) ?_
  have hhS := hh
  have hkS := Keeps.refl hh.wf
  first | refine OWp.loadM (k := 0) hh rfl rfl rfl rfl ?_ | refine OWp.loadM (k := 1) hh rfl rfl rfl rfl ?_ | refine OWp.loadM (k := 2) hh rfl rfl rfl rfl ?_ | refine OWp.loadM (k := 3) hh rfl rfl rfl rfl ?_
  refine OWp.call rfl rfl rfl rfl ?_
  refine text_spec _ (show SzM ⟨1 + k5, ⟨#[32]⟩, ⟨#[35]⟩, u, (c : Nat)⟩ from ⟨show (1 : Nat) ≤ 9000000 by omega, show (1 : Nat) ≤ 9000000 by omega, by show u.size ≤ _; omega⟩) _ _ ?_ hh.wf
  intro Ha ta hka hta
  have hza := hta.size
  replace hh := hh.after hka
  replace hkS := hkS.trans hka hhS.wf
  have hz8 : ta.size ≤ 101 := hza
  refine OWp.norm ?_
  first | refine OWp.loadM (k := 0) hh rfl rfl rfl rfl ?_ | refine OWp.loadM (k := 1) hh rfl rfl rfl rfl ?_ | refine OWp.loadM (k := 2) hh rfl rfl rfl rfl ?_ | refine OWp.loadM (k := 3) hh rfl rfl rfl rfl ?_
  refine OWp.call rfl rfl rfl rfl ?_
  refine text_spec _ (show SzM ⟨1 + k5, ⟨#[32]⟩, ⟨#[35]⟩, v, (d : Nat)⟩ from ⟨show (1 : Nat) ≤ 9000000 by omega, show (1 : Nat) ≤ 9000000 by omega, by show v.size ≤ _; omega⟩) _ _ ?_ hh.wf
  intro Hb tb hkb htb
  have hzb := htb.size
  replace hh := hh.after hkb
  replace hkS := hkS.trans hkb hhS.wf
  have hz9 : tb.size ≤ 101 := hzb
  refine OWp.norm ?_
  refine OWp.assign rfl rfl ?_
  refine OWp.assign rfl rfl ?_
  refine OWp.nil ?_
  refine ⟨still_all (L := [.pointer (some ⟨b11, 0, none⟩), .pointer (some ⟨b12, 0, none⟩)]) rfl (by simp only [List.all_cons, List.all_nil, Bool.and_true, Bool.and_eq_true]; first | rfl | (refine ⟨?_, ?_⟩ <;> first | rfl | exact still_has (k := 0) hhS rfl hkS | exact still_has (k := 1) hhS rfl hkS | exact still_has (k := 2) hhS rfl hkS | exact still_has (k := 3) hhS rfl hkS) | exact still_has (k := 0) hhS rfl hkS | exact still_has (k := 1) hhS rfl hkS | exact still_has (k := 2) hhS rfl hkS | exact still_has (k := 3) hhS rfl hkS), ?_⟩
  refine CWp.seq ?_
  refine CWp.seq ?_
  refine CWp.region ?_
  first | refine OWp.loadM (k := 0) hh rfl rfl rfl rfl ?_ | refine OWp.loadM (k := 1) hh rfl rfl rfl rfl ?_ | refine OWp.loadM (k := 2) hh rfl rfl rfl rfl ?_ | refine OWp.loadM (k := 3) hh rfl rfl rfl rfl ?_
  refine OWp.call rfl rfl rfl rfl ?_
  refine right_spec _ (show SzM ⟨1 + k5, ⟨#[32]⟩, ⟨#[35]⟩, u, (c : Nat)⟩ from ⟨show (1 : Nat) ≤ 9000000 by omega, show (1 : Nat) ≤ 9000000 by omega, by show u.size ≤ _; omega⟩) _ _ ?_ hh.wf
  intro Hc bc hkc hbc
  replace hh := hh.after hkc
  refine OWp.norm ?_
  refine OWp.move rfl rfl ?_
  refine OWp.binS rfl rfl rfl rfl rfl ?_
  refine OWp.neqB rfl rfl Tryd.underlying4 rfl rfl ?_
  refine OWp.move rfl rfl ?_
  first | refine OWp.byF rfl (fun hg0 => ?_) (fun hg0 => ?_) | refine OWp.byBF rfl (fun hg0 => ?_) (fun hg0 => ?_)
  · skip
    first | rw [decide_eq_true hg0] | rw [decide_eq_false hg0] | rw [hg0] | skip
    try simp only [Decidable.not_not] at hg0
    first | refine OWp.loadM (k := 0) hh rfl rfl rfl rfl ?_ | refine OWp.loadM (k := 1) hh rfl rfl rfl rfl ?_ | refine OWp.loadM (k := 2) hh rfl rfl rfl rfl ?_ | refine OWp.loadM (k := 3) hh rfl rfl rfl rfl ?_
    refine OWp.call rfl rfl rfl rfl ?_
    refine right_spec _ (show SzM ⟨1 + k5, ⟨#[32]⟩, ⟨#[35]⟩, v, (d : Nat)⟩ from ⟨show (1 : Nat) ≤ 9000000 by omega, show (1 : Nat) ≤ 9000000 by omega, by show v.size ≤ _; omega⟩) _ _ ?_ hh.wf
    intro Hd bd hkd hbd
    replace hh := hh.after hkd
    refine OWp.norm ?_
    refine OWp.move rfl rfl ?_
    refine OWp.binS rfl rfl rfl rfl rfl ?_
    refine OWp.neqB rfl rfl Tryd.underlying4 rfl rfl ?_
    refine OWp.pickF rfl rfl rfl ?_
    refine OWp.nil ?_
    first | refine CWp.condP rfl (fun h1 => ?_) (fun h1 => ?_) | refine CWp.cond rfl (fun h1 => ?_) (fun h1 => ?_)
    · skip
      exact (h1 (Bool.eq_iff_iff.2 (hbd.trans (htb.ne.symm.trans decide_eq_true_iff.symm)))).elim
    · skip
      first | rw [decide_eq_true h1] | rw [decide_eq_false h1] | rw [h1] | skip
      refine CWp.skip ?_
      refine CWp.seq ?_
      refine CWp.seq ?_
      refine CWp.region ?_
      refine OWp.move rfl rfl ?_
      refine OWp.binS rfl rfl rfl rfl rfl ?_
      refine OWp.nil ?_
      first | refine CWp.condP rfl (fun h2 => ?_) (fun h2 => ?_) | refine CWp.cond rfl (fun h2 => ?_) (fun h2 => ?_)
      · skip
        first | rw [decide_eq_true h2] | rw [decide_eq_false h2] | rw [h2] | skip
        refine CWp.seq ?_
        refine CWp.region ?_
        refine OWp.move rfl rfl ?_
        refine OWp.call rfl rfl rfl rfl ?_
        refine read_spec _ (by first | omega | (simp only [size_app, sz_0, sz_1, sz_2, sz_3, sz_4]; omega)) _ _ ?_ hh.wf
        intro He me be hke hre
        replace hh := hh.after hke
        have hra := hta.ne.1 (by assumption)
        obtain ⟨rfl, rfl⟩ := text_read hra hta hre
        refine OWp.norm ?_
        refine OWp.move rfl rfl ?_
        refine OWp.extract rfl rfl rfl rfl ?_
        refine OWp.extract rfl rfl rfl rfl ?_
        refine OWp.allocM hh rfl rfl (fun H15 b15 hh => ?_)
        refine OWp.norm ?_
        first | refine OWp.storeM (k := 0) hh rfl rfl rfl rfl rfl (fun H4 hh => ?_) | refine OWp.storeM (k := 1) hh rfl rfl rfl rfl rfl (fun H4 hh => ?_) | refine OWp.storeM (k := 2) hh rfl rfl rfl rfl rfl (fun H4 hh => ?_) | refine OWp.storeM (k := 3) hh rfl rfl rfl rfl rfl (fun H4 hh => ?_)
        simp only [List.set_cons_zero, List.set_cons_succ] at hh
        refine OWp.norm ?_
        refine OWp.assign rfl rfl ?_
        refine OWp.nil ?_
        refine CWp.seq ?_
        refine CWp.region ?_
        refine OWp.move rfl rfl ?_
        first | refine OWp.notD rfl rfl rfl ?_ | refine OWp.notB rfl rfl rfl ?_
        refine OWp.move rfl rfl ?_
        first | refine OWp.byF rfl (fun hg3 => ?_) (fun hg3 => ?_) | refine OWp.byBF rfl (fun hg3 => ?_) (fun hg3 => ?_)
        · skip
          first | rw [decide_eq_true hg3] | rw [decide_eq_false hg3] | rw [hg3] | skip
          try simp only [Decidable.not_not] at hg3
          first | refine OWp.loadM (k := 0) hh rfl rfl rfl rfl ?_ | refine OWp.loadM (k := 1) hh rfl rfl rfl rfl ?_ | refine OWp.loadM (k := 2) hh rfl rfl rfl rfl ?_ | refine OWp.loadM (k := 3) hh rfl rfl rfl rfl ?_
          first | refine OWp.loadM (k := 0) hh rfl rfl rfl rfl ?_ | refine OWp.loadM (k := 1) hh rfl rfl rfl rfl ?_ | refine OWp.loadM (k := 2) hh rfl rfl rfl rfl ?_ | refine OWp.loadM (k := 3) hh rfl rfl rfl rfl ?_
          refine OWp.neM _ _ rfl rfl rfl rfl ?_
          refine OWp.pickF rfl rfl rfl ?_
          refine OWp.move rfl rfl ?_
          first | refine OWp.byF rfl (fun hg4 => ?_) (fun hg4 => ?_) | refine OWp.byBF rfl (fun hg4 => ?_) (fun hg4 => ?_)
          · skip
            first | rw [decide_eq_true hg4] | rw [decide_eq_false hg4] | rw [hg4] | skip
            try simp only [Decidable.not_not] at hg4
            refine OWp.move rfl rfl ?_
            refine OWp.call rfl rfl rfl rfl ?_
            refine is_spec _ (by first | omega | (simp only [size_app, sz_0, sz_1, sz_2, sz_3, sz_4]; omega)) _ _ ?_ hh.wf
            intro Hf mf bf hkf hrf
            replace hh := hh.after hkf
            obtain ⟨_, rfl⟩ := text_read hra hta hrf
            refine OWp.norm ?_
            first | refine OWp.notD rfl rfl rfl ?_ | refine OWp.notB rfl rfl rfl ?_
            refine OWp.pickF rfl rfl rfl ?_
            refine OWp.move rfl rfl ?_
            first | refine OWp.byF rfl (fun hg5 => ?_) (fun hg5 => ?_) | refine OWp.byBF rfl (fun hg5 => ?_) (fun hg5 => ?_)
            · skip
              first | rw [decide_eq_true hg5] | rw [decide_eq_false hg5] | rw [hg5] | skip
              try simp only [Decidable.not_not] at hg5
              refine OWp.move rfl rfl ?_
              refine OWp.move rfl rfl ?_
              refine OWp.binS rfl rfl rfl rfl rfl ?_
              refine OWp.move rfl rfl ?_
              first | refine OWp.byT rfl (fun hg6 => ?_) (fun hg6 => ?_) | refine OWp.byBT rfl (fun hg6 => ?_) (fun hg6 => ?_)
              · skip
                first | rw [decide_eq_true hg6] | rw [decide_eq_false hg6] | rw [hg6] | skip
                try simp only [Decidable.not_not] at hg6
                first | refine OWp.loadM (k := 0) hh rfl rfl rfl rfl ?_ | refine OWp.loadM (k := 1) hh rfl rfl rfl rfl ?_ | refine OWp.loadM (k := 2) hh rfl rfl rfl rfl ?_ | refine OWp.loadM (k := 3) hh rfl rfl rfl rfl ?_
                first | refine OWp.loadM (k := 0) hh rfl rfl rfl rfl ?_ | refine OWp.loadM (k := 1) hh rfl rfl rfl rfl ?_ | refine OWp.loadM (k := 2) hh rfl rfl rfl rfl ?_ | refine OWp.loadM (k := 3) hh rfl rfl rfl rfl ?_
                refine OWp.neM _ _ rfl rfl rfl rfl ?_
                refine OWp.pickT rfl rfl rfl ?_
                refine OWp.pickF rfl rfl rfl ?_
                refine OWp.nil ?_
                first | refine CWp.condP rfl (fun h7 => ?_) (fun h7 => ?_) | refine CWp.cond rfl (fun h7 => ?_) (fun h7 => ?_)
                · skip
                  have hrb := htb.ne.1 (show tb ≠ ⟨#[]⟩ from fun e => hta.ne.2 hra (hg6.trans e))
                  exact (h7 (line_inj hra hrb ((hta.1 hra).symm.trans (hg6.trans (htb.1 hrb))))).elim
                · skip
                  first | rw [decide_eq_true h7] | rw [decide_eq_false h7] | rw [h7] | skip
                  refine CWp.skip ?_
                  refine CWp.seq ?_
                  refine CWp.region ?_
                  refine OWp.call rfl rfl rfl rfl ?_
                  refine known_spec _ _ ?_
                  refine OWp.norm ?_
                  refine OWp.assign rfl rfl ?_
                  refine OWp.nil ?_
                  refine CWp.ret ?_
                  refine RetQ.one (by first | exact .inl rfl | exact .inr rfl) rfl rfl ?_
                  exact h _
              · skip
                first | rw [decide_eq_true hg6] | rw [decide_eq_false hg6] | rw [hg6] | skip
                try simp only [Decidable.not_not] at hg6
                refine OWp.leave rfl ?_
                refine OWp.leave rfl ?_
                refine OWp.leave rfl ?_
                refine OWp.pickF rfl rfl rfl ?_
                refine OWp.pickF rfl rfl rfl ?_
                refine OWp.nil ?_
                refine CWp.condF rfl ?_
                refine CWp.skip ?_
                refine CWp.seq ?_
                refine CWp.region ?_
                refine OWp.call rfl rfl rfl rfl ?_
                refine known_spec _ _ ?_
                refine OWp.norm ?_
                refine OWp.assign rfl rfl ?_
                refine OWp.nil ?_
                refine CWp.ret ?_
                refine RetQ.one (by first | exact .inl rfl | exact .inr rfl) rfl rfl ?_
                exact h _
            · skip
              exfalso; revert hg5; simp
          · skip
            exfalso; revert hg4; simp
        · skip
          exfalso; revert hg3; simp
      · skip
        first | rw [decide_eq_true h2] | rw [decide_eq_false h2] | rw [h2] | skip
        refine CWp.skip ?_
        refine CWp.seq ?_
        refine CWp.region ?_
        refine OWp.call rfl rfl rfl rfl ?_
        refine known_spec _ _ ?_
        refine OWp.norm ?_
        refine OWp.assign rfl rfl ?_
        refine OWp.nil ?_
        refine CWp.ret ?_
        refine RetQ.one (by first | exact .inl rfl | exact .inr rfl) rfl rfl ?_
        exact h _
  · skip
    exact (hg0 (Bool.eq_iff_iff.2 (hbc.trans (hta.ne.symm.trans decide_eq_true_iff.symm)))).elim

end Go.Proofs.YtllokljpacpafaaDoor.Ev
