import Derived.Test.YtnlkgnoogcakjaaGreatDoorEvA5
namespace Go.Proofs.YtnlkgnoogcakjaaGreatDoor.Ev
open Go
set_option linter.unusedVariables false
set_option linter.unusedSimpArgs false
set_option maxHeartbeats 4000000
set_option maxRecDepth 20000
theorem sz_8 (a b c d e f g h : UInt8) : (⟨#[a, b, c, d, e, f, g, h]⟩ : ByteArray).size = 8 := rfl
theorem sz_5 (a b c d e : UInt8) : (⟨#[a, b, c, d, e]⟩ : ByteArray).size = 5 := rfl
theorem sz_6 (a b c d e f : UInt8) : (⟨#[a, b, c, d, e, f]⟩ : ByteArray).size = 6 := rfl

theorem numbers_spec  (H : AH) (Q : Value → AH → Prop) (h : ∀ H', Q (.bool true) H') (hw : WfH H) : FWp Tryz.prog prims 3 [] H Q := by
  have hh := Has.start hw
  have hE : elemT Tryz.prog 22 = some 5 := by kernel_rfl
  have hz0 : zeroT Tryz.prog 5 = some (.int .u8 0) := by kernel_rfl
  have hs1 : szT Tryz.prog 5 = 1 := by kernel_rfl
  have hb1 : bytesT Tryz.prog 5 = 1 := by kernel_rfl
  refine FWp.enter (rfl) Tryz.func3 rfl (e := [undef, undef, undef, undef, undef, undef, undef, undef, undef, undef, undef, undef, undef, undef, undef, undef, undef, undef, undef, undef, undef, undef, undef, undef, undef, undef, undef, undef, undef, undef, undef, undef, undef, undef, undef, undef, undef, undef, undef, undef, undef, undef, undef, undef, undef, undef, undef, undef, undef, undef, undef, undef, undef, undef, undef, undef, undef, undef]) rfl ?_
  refine CWp.seq ?_
  refine CWp.region ?_
  refine OWp.assign rfl rfl ?_
  refine OWp.nil ?_
  refine CWp.seq ?_
  refine CWp.seq ?_
  refine CWp.region ?_
  refine OWp.assign rfl rfl ?_
  refine OWp.nil ?_
  refine CWp.block ?_
  refine CWp.loop (fun k e H' => ∃ (n : Nat) (g : Nat → Value), e = [g 0, .int .i64 (n : Nat), g 2, g 3, g 4, g 5, g 6, g 7, g 8, g 9, g 10, g 11, g 12, g 13, g 14, g 15, g 16, g 17, g 18, g 19, g 20, g 21, g 22, g 23, g 24, g 25, g 26, g 27, g 28, g 29, g 30, g 31, g 32, g 33, g 34, g 35, g 36, g 37, g 38, g 39, g 40, g 41, g 42, g 43, g 44, g 45, g 46, g 47, g 48, g 49, g 50, g 51, g 52, g 53, g 54, g 55, g 56, g 57] ∧ k = 4369 - n ∧ Has H H' [] ∧ n ≤ 4369) ?_ ?_
  · exact ⟨_, 0, ex_env rfl ⟨rfl, hh, by omega⟩⟩
  · rintro k e H' ⟨n, g, rfl, rfl, hh, hn⟩
    refine CWp.seq ?_
    refine CWp.seq ?_
    refine CWp.region ?_
    refine OWp.move rfl rfl ?_
    refine OWp.binI rfl rfl rfl rfl rfl ?_
    refine OWp.nil ?_
    first | refine CWp.condP rfl (fun h1 => ?_) (fun h1 => ?_) | refine CWp.cond rfl (fun h1 => ?_) (fun h1 => ?_)
    · skip
      first | rw [decide_eq_true h1] | rw [decide_eq_false h1] | rw [h1] | skip
      refine CWp.skip ?_
      refine CWp.seq ?_
      refine CWp.block ?_
      refine CWp.seq ?_
      refine CWp.region ?_
      refine OWp.assign rfl rfl ?_
      refine OWp.nil ?_
      refine CWp.seq ?_
      refine CWp.seq ?_
      refine CWp.region ?_
      refine OWp.move rfl rfl ?_
      refine OWp.assign rfl rfl ?_
      refine OWp.nil ?_
      refine CWp.block ?_
      refine CWp.loop (fun k e H' => ∃ (v : Value) (m : Nat) (l : List Value) (g : Nat → Value), e = [g 0, .int .i64 (n : Nat), v, .int .i64 (m : Nat), g 4, g 5, g 6, g 7, g 8, g 9, g 10, g 11, g 12, g 13, g 14, g 15, g 16, g 17, g 18, g 19, g 20, g 21, g 22, g 23, g 24, g 25, g 26, g 27, g 28, g 29, g 30, g 31, g 32, g 33, g 34, g 35, g 36, g 37, g 38, g 39, g 40, g 41, g 42, g 43, g 44, g 45, g 46, g 47, g 48, g 49, g 50, g 51, g 52, g 53, g 54, g 55, g 56, g 57] ∧ k = 1 + m ∧ Has H H' [] ∧ Grow H.next H' v 5 l ∧ Bytes l ∧ l.length + m ≤ 4369) ?_ ?_
      · exact ⟨_, .slice none 0 0, n, [], ex_env rfl ⟨rfl, hh, .inl ⟨rfl, rfl⟩, bytes_nil, by simp only [List.length_nil]; omega⟩⟩
      · rintro k e H' ⟨v, m, l, g, rfl, rfl, hh, hgr, hb, hlm⟩
        refine CWp.seq ?_
        refine CWp.seq ?_
        refine CWp.region ?_
        refine OWp.move rfl rfl ?_
        refine OWp.binI rfl rfl rfl rfl rfl ?_
        refine OWp.nil ?_
        first | refine CWp.condP rfl (fun h3 => ?_) (fun h3 => ?_) | refine CWp.cond rfl (fun h3 => ?_) (fun h3 => ?_)
        · skip
          first | rw [decide_eq_true h3] | rw [decide_eq_false h3] | rw [h3] | skip
          refine CWp.skip ?_
          refine CWp.seq ?_
          refine CWp.block ?_
          refine CWp.region ?_
          refine OWp.move rfl rfl ?_
          refine OWp.move rfl rfl ?_
          refine OWp.subI rfl rfl rfl rfl (by first | omega | (simp only [size_app, sz_0, sz_1, sz_2, sz_3, sz_4, sz_5, sz_6, sz_8]; omega)) ?_
          refine OWp.remI rfl rfl rfl rfl (by first | omega | (simp only [size_app, sz_0, sz_1, sz_2, sz_3, sz_4, sz_5, sz_6, sz_8]; omega)) ?_
          refine OWp.convI rfl rfl Tryz.underlying3 Tryz.underlying5 rfl (wrap_u8 (by omega)) ?_
          refine OWp.buildSl hh.wf rfl rfl rfl (t' := 5) (cells := #[.int .u8 (((m : Int) - 1) % 16)]) (by kernel_rfl) (fun H2 c2 hw2 hk2 hc2 ho2 => ?_)
          refine OWp.norm ?_
          refine OWp.append (B := H.next) hw2 (by have := hh.keep.next; have := hk2.next; omega) (hgr.keep hh.wf hk2) ho2.row rfl (by simp) rfl rfl rfl rfl rfl hE Tryz.underlying22 hz0 rfl hs1 (by omega) rfl rfl (by simp [hb1]; omega) (fun H3 v3 hg3 hgr3 => ?_)
          refine OWp.norm ?_
          refine OWp.assign rfl rfl ?_
          refine OWp.nil ?_
          refine CWp.region ?_
          refine OWp.move rfl rfl ?_
          refine OWp.subI rfl rfl rfl rfl (by first | omega | (simp only [size_app, sz_0, sz_1, sz_2, sz_3, sz_4, sz_5, sz_6, sz_8]; omega)) ?_
          have e16 : ((m : Int) - 1) / 16 = (((m - 1) / 16 : Nat) : Int) := by omega
          refine OWp.quoI rfl rfl rfl rfl (by omega) ?_
          rw [e16]
          refine OWp.assign rfl rfl ?_
          refine OWp.nil ?_
          exact ⟨_, by omega, v3, (m - 1) / 16, l ++ [.int .u8 (((m : Int) - 1) % 16)], ex_env rfl ⟨rfl, ⟨hw, hg3.keeps H hw (hh.keep.trans hk2 hw) (Nat.le_refl _), fun x hx => (by simp at hx), by simp⟩, hgr3, bytes_snoc hb _, by rw [List.length_append]; simp only [List.length_cons, List.length_nil]; omega⟩⟩
        · skip
          have hvw := hgr.view
          first | rw [decide_eq_true h3] | rw [decide_eq_false h3] | rw [h3] | skip
          refine CWp.exit ?_
          refine CWp.seq ?_
          refine CWp.region ?_
          refine OWp.move rfl rfl ?_
          refine OWp.call rfl rfl rfl rfl ?_
          refine madeV_spec l hb _ _ _ ?_ hvw (by omega) hh.wf
          intro Ha ua hka hza
          replace hvw := hvw.sees (hka.sees hh.wf)
          replace hh := hh.after hka
          refine OWp.norm ?_
          refine OWp.call rfl rfl rfl rfl ?_
          refine same_spec _ (by first | omega | (simp only [size_app, sz_0, sz_1, sz_2, sz_3, sz_4, sz_5, sz_6, sz_8]; omega)) _ _ ?_ hh.wf
          intro Hb hkb
          replace hvw := hvw.sees (hkb.sees hh.wf)
          replace hh := hh.after hkb
          refine OWp.norm ?_
          first | refine OWp.notD rfl rfl rfl ?_ | refine OWp.notB rfl rfl rfl ?_
          refine OWp.move rfl rfl ?_
          refine OWp.move rfl rfl ?_
          refine OWp.call rfl rfl rfl rfl ?_
          refine madeV_spec l hb _ _ _ ?_ hvw (by omega) hh.wf
          intro Hc uc hkc hzc
          replace hvw := hvw.sees (hkc.sees hh.wf)
          replace hh := hh.after hkc
          refine OWp.norm ?_
          refine OWp.catS rfl rfl rfl rfl (by first | omega | (simp only [size_app, sz_0, sz_1, sz_2, sz_3, sz_4, sz_5, sz_6, sz_8]; omega)) ?_
          refine OWp.call rfl rfl rfl rfl ?_
          refine same_spec _ (by first | omega | (simp only [size_app, sz_0, sz_1, sz_2, sz_3, sz_4, sz_5, sz_6, sz_8]; omega)) _ _ ?_ hh.wf
          intro Hd hkd
          replace hvw := hvw.sees (hkd.sees hh.wf)
          replace hh := hh.after hkd
          refine OWp.norm ?_
          first | refine OWp.notD rfl rfl rfl ?_ | refine OWp.notB rfl rfl rfl ?_
          refine OWp.pickF rfl rfl rfl ?_
          refine OWp.move rfl rfl ?_
          refine OWp.move rfl rfl ?_
          refine OWp.call rfl rfl rfl rfl ?_
          refine madeV_spec l hb _ _ _ ?_ hvw (by omega) hh.wf
          intro He ue hke hze
          replace hvw := hvw.sees (hke.sees hh.wf)
          replace hh := hh.after hke
          refine OWp.norm ?_
          refine OWp.catS rfl rfl rfl rfl (by first | omega | (simp only [size_app, sz_0, sz_1, sz_2, sz_3, sz_4, sz_5, sz_6, sz_8]; omega)) ?_
          refine OWp.catS rfl rfl rfl rfl (by first | omega | (simp only [size_app, sz_0, sz_1, sz_2, sz_3, sz_4, sz_5, sz_6, sz_8]; omega)) ?_
          refine OWp.call rfl rfl rfl rfl ?_
          refine same_spec _ (by first | omega | (simp only [size_app, sz_0, sz_1, sz_2, sz_3, sz_4, sz_5, sz_6, sz_8]; omega)) _ _ ?_ hh.wf
          intro Hf hkf
          replace hvw := hvw.sees (hkf.sees hh.wf)
          replace hh := hh.after hkf
          refine OWp.norm ?_
          first | refine OWp.notD rfl rfl rfl ?_ | refine OWp.notB rfl rfl rfl ?_
          refine OWp.pickF rfl rfl rfl ?_
          refine OWp.nil ?_
          refine CWp.condF rfl ?_
          refine CWp.skip ?_
          refine CWp.region ?_
          refine OWp.move rfl rfl ?_
          refine OWp.addI rfl rfl rfl rfl (by first | omega | (simp only [size_app, sz_0, sz_1, sz_2, sz_3, sz_4, sz_5, sz_6, sz_8]; omega)) ?_
          refine OWp.assign rfl rfl ?_
          refine OWp.nil ?_
          exact ⟨_, by omega, n + 1, ex_env rfl ⟨rfl, hh, by omega⟩⟩
    · skip
      first | rw [decide_eq_true h1] | rw [decide_eq_false h1] | rw [h1] | skip
      refine CWp.exit ?_
      refine CWp.seq ?_
      refine CWp.region ?_
      refine OWp.assign rfl rfl ?_
      refine OWp.nil ?_
      refine CWp.seq ?_
      refine CWp.seq ?_
      refine CWp.region ?_
      refine OWp.assign rfl rfl ?_
      refine OWp.nil ?_
      refine CWp.block ?_
      refine CWp.loop (fun k e H' => ∃ (u : ByteArray) (i : Nat) (g : Nat → Value), e = [g 0, g 1, g 2, g 3, .string u, .int .i64 (i : Nat), g 6, g 7, g 8, g 9, g 10, g 11, g 12, g 13, g 14, g 15, g 16, g 17, g 18, g 19, g 20, g 21, g 22, g 23, g 24, g 25, g 26, g 27, g 28, g 29, g 30, g 31, g 32, g 33, g 34, g 35, g 36, g 37, g 38, g 39, g 40, g 41, g 42, g 43, g 44, g 45, g 46, g 47, g 48, g 49, g 50, g 51, g 52, g 53, g 54, g 55, g 56, g 57] ∧ k = 63 - i ∧ Has H H' [] ∧ u.size ≤ i ∧ i ≤ 63) ?_ ?_
      · exact ⟨_, ⟨#[]⟩, 0, ex_env rfl ⟨rfl, hh, Nat.zero_le _, by omega⟩⟩
      · rintro k e H' ⟨u, i, g, rfl, rfl, hh, hu, hi⟩
        refine CWp.seq ?_
        refine CWp.seq ?_
        refine CWp.region ?_
        refine OWp.move rfl rfl ?_
        refine OWp.binI rfl rfl rfl rfl rfl ?_
        refine OWp.nil ?_
        first | refine CWp.condP rfl (fun h3 => ?_) (fun h3 => ?_) | refine CWp.cond rfl (fun h3 => ?_) (fun h3 => ?_)
        · skip
          first | rw [decide_eq_true h3] | rw [decide_eq_false h3] | rw [h3] | skip
          refine CWp.skip ?_
          refine CWp.seq ?_
          refine CWp.block ?_
          refine CWp.seq ?_
          refine CWp.seq ?_
          refine CWp.region ?_
          refine OWp.move rfl rfl ?_
          refine OWp.catS rfl rfl rfl rfl (by first | omega | (simp only [size_app, sz_0, sz_1, sz_2, sz_3, sz_4, sz_5, sz_6, sz_8]; omega)) ?_
          refine OWp.call rfl rfl rfl rfl ?_
          refine same_spec _ (by first | omega | (simp only [size_app, sz_0, sz_1, sz_2, sz_3, sz_4, sz_5, sz_6, sz_8]; omega)) _ _ ?_ hh.wf
          intro Hg hkg
          replace hh := hh.after hkg
          refine OWp.norm ?_
          first | refine OWp.notD rfl rfl rfl ?_ | refine OWp.notB rfl rfl rfl ?_
          refine OWp.move rfl rfl ?_
          refine OWp.move rfl rfl ?_
          refine OWp.call rfl rfl rfl rfl ?_
          refine same_spec _ (by first | omega | (simp only [size_app, sz_0, sz_1, sz_2, sz_3, sz_4, sz_5, sz_6, sz_8]; omega)) _ _ ?_ hh.wf
          intro Hi hki
          replace hh := hh.after hki
          refine OWp.norm ?_
          first | refine OWp.notD rfl rfl rfl ?_ | refine OWp.notB rfl rfl rfl ?_
          refine OWp.pickF rfl rfl rfl ?_
          refine OWp.nil ?_
          refine CWp.condF rfl ?_
          refine CWp.skip ?_
          refine CWp.region ?_
          refine OWp.move rfl rfl ?_
          refine OWp.catS rfl rfl rfl rfl (by first | omega | (simp only [size_app, sz_0, sz_1, sz_2, sz_3, sz_4, sz_5, sz_6, sz_8]; omega)) ?_
          refine OWp.assign rfl rfl ?_
          refine OWp.nil ?_
          refine CWp.region ?_
          refine OWp.move rfl rfl ?_
          refine OWp.addI rfl rfl rfl rfl (by first | omega | (simp only [size_app, sz_0, sz_1, sz_2, sz_3, sz_4, sz_5, sz_6, sz_8]; omega)) ?_
          refine OWp.assign rfl rfl ?_
          refine OWp.nil ?_
          exact ⟨_, by omega, u ++ ⟨#[110]⟩, i + 1, ex_env rfl ⟨rfl, hh, (by rw [size_app, sz_1]; omega), by omega⟩⟩
        · skip
          first | rw [decide_eq_true h3] | rw [decide_eq_false h3] | rw [h3] | skip
          refine CWp.exit ?_
          refine CWp.seq ?_
          refine CWp.region ?_
          refine OWp.call rfl rfl rfl rfl ?_
          refine known_spec _ _ ?_
          refine OWp.norm ?_
          refine OWp.assign rfl rfl ?_
          refine OWp.nil ?_
          refine CWp.ret ?_
          refine RetQ.one (by first | exact .inl rfl | exact .inr rfl) rfl rfl ?_
          exact h _

end Go.Proofs.YtnlkgnoogcakjaaGreatDoor.Ev
