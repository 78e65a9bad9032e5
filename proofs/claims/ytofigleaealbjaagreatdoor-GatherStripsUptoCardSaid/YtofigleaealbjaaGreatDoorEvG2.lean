import Derived.Test.YtofigleaealbjaaGreatDoorEvG1
import Derived.Test.YtofigleaealbjaaGreatDoorEvBox
namespace Go.Proofs.YtofigleaealbjaaGreatDoor.Ev
open Go
set_option linter.unusedVariables false
set_option linter.unusedSimpArgs false
set_option maxHeartbeats 2000000
theorem known_spec (H : AH) (Q : Value → AH → Prop) (h : Q (.bool true) H) : FWp Tryz.prog prims 7 [] H Q := FWp.prim rfl rfl h
theorem ext_left' (a b : ByteArray) : (a ++ b).extract 0 a.size = a := ext_left a b
theorem app_pref (a b : ByteArray) : PrefB (a ++ b) a := ⟨by rw [size_app]; omega, ext_left a b⟩
theorem size_zero {y : ByteArray} (h : y.size = 0) : y = ⟨#[]⟩ := ByteArray.ext (Array.eq_empty_of_size_eq_zero h)
theorem app_nil {x y : ByteArray} (h : x ++ y = ⟨#[]⟩) : y = ⟨#[]⟩ := size_zero (by have := congrArg ByteArray.size h; rw [size_app, show (⟨#[]⟩ : ByteArray).size = 0 from rfl] at this; omega)
def strs5 (a b : ByteArray) : Array Value := #[.string a, .string b, .string ⟨#[60, 60, 97, 62, 62]⟩, .string ⟨#[92, 60, 60, 97, 62, 62]⟩, .string ⟨#[32, 120]⟩]
theorem strs5_get (u1 u2 : ByteArray) (h1 : u1.size ≤ 1048576) (h2 : u2.size ≤ 1048576) (i : Nat) (hi : i < 5) : ∃ t : ByteArray, (strs5 u1 u2).toList[i]? = some (.string t) ∧ t.size ≤ 1048576 := by
  match i, hi with
  | 0, _ => exact ⟨u1, rfl, h1⟩
  | 1, _ => exact ⟨u2, rfl, h2⟩
  | 2, _ => exact ⟨_, rfl, by show (5 : Nat) ≤ _; omega⟩
  | 3, _ => exact ⟨_, rfl, by show (6 : Nat) ≤ _; omega⟩
  | 4, _ => exact ⟨_, rfl, by show (2 : Nat) ≤ _; omega⟩

theorem strip_spec (t y : ByteArray) (ht : t.size ≤ 100) (hy : y.size ≤ 8000000) (hne : y ≠ ⟨#[]⟩) (H : AH) (Q : Value → AH → Prop) (h : ∀ H' x, Keeps H H' → (RefA (trimC (trimL y) ⟨#[92]⟩) → x = headA y ++ ⟨#[92]⟩ ++ trimL y) → (¬ RefA (trimC (trimL y) ⟨#[92]⟩) → x = y) → Q (.tuple #[.string x, .bool true]) H') (hw : WfH H) : FWp Tryz.prog prims 6 [.string (t ++ y), .string t] H Q := by
  refine FWp.enter (rfl) Tryz.func6 rfl (e := [.string (t ++ y), .string t, undef, undef, undef, undef, undef, undef, undef, undef, undef, undef, undef, undef, undef, undef, undef, undef, undef, undef, undef, undef, undef, undef]) rfl ?_
  refine CWp.seq ?_
  refine CWp.region ?_
  refine OWp.assign rfl rfl ?_
  refine OWp.assign rfl rfl ?_
  refine OWp.nil ?_
  refine CWp.seq ?_
  refine CWp.seq ?_
  refine CWp.region ?_
  refine OWp.move rfl rfl ?_
  refine OWp.binS rfl rfl rfl rfl rfl ?_
  refine OWp.nil ?_
  first | refine CWp.condP rfl (fun h0 => ?_) (fun h0 => ?_) | refine CWp.cond rfl (fun h0 => ?_) (fun h0 => ?_)
  · skip
    exact absurd (app_nil h0) hne
  · skip
    first | rw [decide_eq_true h0] | rw [decide_eq_false h0] | rw [h0] | skip
    refine CWp.skip ?_
    refine CWp.seq ?_
    refine CWp.region ?_
    refine OWp.move rfl rfl ?_
    refine OWp.move rfl rfl ?_
    refine OWp.call rfl rfl rfl rfl ?_
    refine cutPrefixV_spec (t ++ y) t (by rw [size_app]; omega) (by omega) _ _ (fun x1 b1 k1 _ => ?_)
    obtain ⟨k1, k2⟩ := k1 (app_pref t y)
    have k3 : x1 = y := k1.trans (ext_right t y)
    clear k1
    subst k3
    refine OWp.norm ?_
    refine OWp.move rfl rfl ?_
    refine OWp.extract rfl rfl rfl rfl ?_
    refine OWp.extract rfl rfl rfl rfl ?_
    refine OWp.assign rfl rfl ?_
    refine OWp.assign rfl rfl ?_
    refine OWp.nil ?_
    refine CWp.seq ?_
    refine CWp.seq ?_
    refine CWp.region ?_
    refine OWp.move rfl rfl ?_
    first | refine OWp.notD rfl rfl rfl ?_ | refine OWp.notB rfl rfl rfl ?_
    refine OWp.move rfl rfl ?_
    first | refine OWp.byF rfl (fun hg1 => ?_) (fun hg1 => ?_) | refine OWp.byBF rfl (fun hg1 => ?_) (fun hg1 => ?_)
    · skip
      first | rw [decide_eq_true hg1] | rw [decide_eq_false hg1] | rw [hg1] | skip
      try simp only [Decidable.not_not] at hg1
      refine OWp.move rfl rfl ?_
      refine OWp.binS rfl rfl rfl rfl rfl ?_
      refine OWp.pickF rfl rfl rfl ?_
      refine OWp.nil ?_
      first | refine CWp.condP rfl (fun h2 => ?_) (fun h2 => ?_) | refine CWp.cond rfl (fun h2 => ?_) (fun h2 => ?_)
      · skip
        exact absurd h2 hne
      · skip
        first | rw [decide_eq_true h2] | rw [decide_eq_false h2] | rw [h2] | skip
        refine CWp.skip ?_
        refine CWp.seq ?_
        refine CWp.region ?_
        refine OWp.move rfl rfl ?_
        refine OWp.call rfl rfl rfl rfl ?_
        refine inn_spec _ (by omega) _ _ ?_ hw
        intro Hn z hkn z1 z2
        refine OWp.norm ?_
        refine OWp.assign rfl rfl ?_
        refine OWp.assign rfl rfl ?_
        refine OWp.nil ?_
        refine CWp.ret ?_
        refine RetQ.two (by first | exact .inl rfl | exact .inr rfl) rfl rfl rfl rfl rfl ?_
        exact h _ _ hkn z1 z2
    · skip
      rw [k2] at hg1; cases hg1

theorem law_spec (x0 x1 : ByteArray) (hx0 : x0.size ≤ 1048576) (hx1 : x1.size ≤ 1048576) (n : Int) (H : AH) (Q : Value → AH → Prop) (h : ∀ H', Q (.bool true) H') (hw : WfH H) : FWp Tryz.prog prims 3 [.string x0, .string x1, .int .i64 n] H Q := by
  have hs9 : szT Tryz.prog 9 = 1 := by kernel_rfl
  refine FWp.enter (rfl) Tryz.func3 rfl (e := [.string x0, .string x1, .int .i64 n, undef, undef, undef, undef, undef, undef, undef, undef, undef, undef, undef, undef, undef, undef, undef, undef, undef, undef, undef, undef, undef, undef, undef, undef, undef, undef, undef, undef, undef, undef, undef, undef, undef, undef, undef, undef, undef, undef, undef, undef, undef, undef, undef, undef, undef, undef, undef, undef, undef, undef, undef, undef, undef, undef]) rfl ?_
  refine CWp.seq ?_
  refine CWp.region ?_
  refine OWp.assign rfl rfl ?_
  refine OWp.nil ?_
  refine CWp.seq ?_
  refine CWp.region ?_
  refine OWp.move rfl rfl ?_
  refine OWp.andM rfl rfl rfl rfl (by omega) (fun c hc => ?_)
  refine OWp.norm ?_
  refine OWp.sliceS rfl rfl Tryz.underlying9 rfl rfl rfl (by omega) (by omega) (by show (c : Int) ≤ (6 : Nat); omega) ?_
  have hq := ext_le ⟨#[32, 32, 9, 32, 32, 32]⟩ (0 : Int).toNat (c : Int).toNat
  generalize hqq : (⟨#[32, 32, 9, 32, 32, 32]⟩ : ByteArray).extract (0 : Int).toNat (c : Int).toNat = q at hq
  have hq1 : q.size ≤ 6 := hq
  refine OWp.assign rfl rfl ?_
  refine OWp.nil ?_
  refine CWp.seq ?_
  refine CWp.seq ?_
  refine CWp.region ?_
  refine OWp.move rfl rfl ?_
  refine OWp.move rfl rfl ?_
  refine OWp.buildSl hw rfl rfl rfl (t' := 9) (cells := strs5 x0 x1) (by kernel_rfl) (fun H2 c2 hw2 hk2 hc2 ho2 => ?_)
  refine OWp.norm ?_
  refine OWp.lenSl rfl rfl rfl rfl rfl Tryz.underlying22 rfl ?_
  refine OWp.move rfl rfl ?_
  refine OWp.nil ?_
  refine CWp.block ?_
  refine CWp.loop (fun k e H' => ∃ (cc i : Nat) (g : Nat → Value), e = [.string x0, .string x1, .int .i64 n, g 3, g 4, g 5, g 6, .string q, g 8, g 9, g 10, g 11, g 12, g 13, g 14, g 15, g 16, g 17, g 18, g 19, g 20, .slice (some ⟨cc, 0, none⟩) 5 5, .int .i64 (5 : Nat), .int .i64 (i : Nat), g 24, g 25, g 26, g 27, g 28, g 29, g 30, g 31, g 32, g 33, g 34, g 35, g 36, g 37, g 38, g 39, g 40, g 41, g 42, g 43, g 44, g 45, g 46, g 47, g 48, g 49, g 50, g 51, g 52, g 53, g 54, g 55, g 56] ∧ k = 5 - i ∧ WfH H' ∧ Keeps H H' ∧ Own H' cc (.cells (strs5 x0 x1) 9 (0, 0)) true ∧ i ≤ 5) ?_ ?_
  · exact ⟨_, c2, 0, ex_env rfl ⟨rfl, hw2, hk2, ho2, Nat.zero_le _⟩⟩
  · rintro k e H' ⟨cc, i, g, rfl, rfl, hw', hk', hot, hi⟩
    refine CWp.seq ?_
    refine CWp.region ?_
    refine OWp.binI rfl rfl rfl rfl rfl ?_
    refine OWp.nil ?_
    refine CWp.seq ?_
    first | refine CWp.condP rfl (fun h1 => ?_) (fun h1 => ?_) | refine CWp.cond rfl (fun h1 => ?_) (fun h1 => ?_)
    · skip
      obtain ⟨t, ht, htz⟩ := strs5_get x0 x1 hx0 hx1 i (by omega)
      first | rw [decide_eq_true h1] | rw [decide_eq_false h1] | rw [h1] | skip
      refine CWp.skip ?_
      refine CWp.seq ?_
      refine CWp.block ?_
      refine CWp.seq ?_
      refine CWp.region ?_
      refine OWp.indexAddrSl1 rfl rfl Tryz.underlying22 hs9 rfl rfl (by omega) (by omega) ?_
      refine OWp.loadRow rfl rfl Tryz.underlying9 rfl rfl hot.row (v := .string t) ht ?_
      refine OWp.assign rfl rfl ?_
      refine OWp.nil ?_
      refine CWp.seq ?_
      refine CWp.region ?_
      refine OWp.move rfl rfl ?_
      refine OWp.call rfl rfl rfl rfl ?_
      refine out14_spec t (by omega) _ _ ?_ hw'
      intro Ho a m y hko ha hm o1 o2
      have hwo := hko.wf
      have hoo := hot.keep hw' hko
      have hyz : y.size ≤ t.size + t.size := by
          by_cases hh : (RefR (t.extract (a + m) t.size) ∧ GapEnd (t.extract (a + m) t.size) 0) ∧ 0 < m
          · rw [o1 hh, size_app]; have := ext_le t 0 a; have := ext_le t (a + 1) t.size; omega
          · rw [o2 hh]; omega
      refine OWp.norm ?_
      refine OWp.assign rfl rfl ?_
      refine OWp.nil ?_
      refine CWp.seq ?_
      refine CWp.region ?_
      refine OWp.move rfl rfl ?_
      refine OWp.call rfl rfl rfl rfl ?_
      refine ref14_spec t (by omega) _ _ ?_ hwo
      intro Hr a2 x2 y2 b2 hkr ha2 hb2 _ _
      obtain rfl := gap_unique t a2 a ha2 ha
      have hwr := hkr.wf
      have hor := hoo.keep hwo hkr
      refine OWp.norm ?_
      refine OWp.move rfl rfl ?_
      refine OWp.extract rfl rfl rfl rfl ?_
      refine OWp.extract rfl rfl rfl rfl ?_
      refine OWp.extract rfl rfl rfl rfl ?_
      refine OWp.assign rfl rfl ?_
      refine OWp.assign rfl rfl ?_
      refine OWp.assign rfl rfl ?_
      refine OWp.nil ?_
      refine CWp.seq ?_
      refine CWp.seq ?_
      refine CWp.region ?_
      refine OWp.move rfl rfl ?_
      refine OWp.binS rfl rfl rfl rfl rfl ?_
      refine OWp.move rfl rfl ?_
      first | refine OWp.byF rfl (fun hg2 => ?_) (fun hg2 => ?_) | refine OWp.byBF rfl (fun hg2 => ?_) (fun hg2 => ?_)
      · skip
        first | rw [decide_eq_true hg2] | rw [decide_eq_false hg2] | rw [hg2] | skip
        try simp only [Decidable.not_not] at hg2
        refine OWp.move rfl rfl ?_
        refine OWp.pickF rfl rfl rfl ?_
        refine OWp.nil ?_
        first | refine CWp.condP rfl (fun h3 => ?_) (fun h3 => ?_) | refine CWp.cond rfl (fun h3 => ?_) (fun h3 => ?_)
        · skip
          first | rw [decide_eq_true h3] | rw [decide_eq_false h3] | rw [h3] | skip
          refine CWp.exit ?_
          refine CWp.region ?_
          refine OWp.addI rfl rfl rfl rfl (by first | omega | (simp only [size_app]; omega)) ?_
          refine OWp.move rfl rfl ?_
          refine OWp.nil ?_
          exact ⟨_, by omega, cc, i + 1, ex_env rfl ⟨rfl, hwr, (hk'.trans hko hw).trans hkr hw, hor, by omega⟩⟩
        · skip
          first | rw [decide_eq_true h3] | rw [decide_eq_false h3] | rw [h3] | skip
          refine CWp.skip ?_
          refine CWp.seq ?_
          refine CWp.region ?_
          refine OWp.move rfl rfl ?_
          refine OWp.move rfl rfl ?_
          refine OWp.catS rfl rfl rfl rfl (by first | omega | (simp only [size_app]; omega)) ?_
          refine OWp.move rfl rfl ?_
          refine OWp.call rfl rfl rfl rfl ?_
          refine strip_spec q y (by omega) (by omega) (by assumption) _ _ ?_ hwr
          intro Hs z hks z1 z2
          have hnr : ¬ RefR (t.extract a2 t.size) := fun k => by rw [hb2.2 k] at h3; cases h3
          have hws := hks.wf
          have hos := hor.keep hwr hks
          have hzt : z = t := in_out ha hm o1 o2 hnr z1 z2
          refine OWp.norm ?_
          refine OWp.move rfl rfl ?_
          refine OWp.extract rfl rfl rfl rfl ?_
          refine OWp.extract rfl rfl rfl rfl ?_
          refine OWp.assign rfl rfl ?_
          refine OWp.assign rfl rfl ?_
          refine OWp.nil ?_
          refine CWp.seq ?_
          refine CWp.region ?_
          refine OWp.move rfl rfl ?_
          first | refine OWp.notD rfl rfl rfl ?_ | refine OWp.notB rfl rfl rfl ?_
          refine OWp.move rfl rfl ?_
          first | refine OWp.byF rfl (fun hg4 => ?_) (fun hg4 => ?_) | refine OWp.byBF rfl (fun hg4 => ?_) (fun hg4 => ?_)
          · skip
            first | rw [decide_eq_true hg4] | rw [decide_eq_false hg4] | rw [hg4] | skip
            try simp only [Decidable.not_not] at hg4
            refine OWp.move rfl rfl ?_
            refine OWp.move rfl rfl ?_
            refine OWp.binS rfl rfl rfl rfl rfl ?_
            refine OWp.pickF rfl rfl rfl ?_
            refine OWp.nil ?_
            first | refine CWp.condP rfl (fun h5 => ?_) (fun h5 => ?_) | refine CWp.cond rfl (fun h5 => ?_) (fun h5 => ?_)
            · skip
              exact absurd hzt h5
            · skip
              first | rw [decide_eq_true h5] | rw [decide_eq_false h5] | rw [h5] | skip
              refine CWp.skip ?_
              refine CWp.region ?_
              refine OWp.addI rfl rfl rfl rfl (by first | omega | (simp only [size_app]; omega)) ?_
              refine OWp.move rfl rfl ?_
              refine OWp.nil ?_
              exact ⟨_, by omega, cc, i + 1, ex_env rfl ⟨rfl, hws, ((hk'.trans hko hw).trans hkr hw).trans hks hw, hos, by omega⟩⟩
          · skip
            first | cases hg4 | (simp at hg4)
      · skip
        first | rw [decide_eq_true hg2] | rw [decide_eq_false hg2] | rw [hg2] | skip
        try simp only [Decidable.not_not] at hg2
        refine OWp.leave rfl ?_
        refine OWp.pickT rfl rfl rfl ?_
        refine OWp.nil ?_
        refine CWp.condT rfl ?_
        refine CWp.exit ?_
        refine CWp.region ?_
        refine OWp.addI rfl rfl rfl rfl (by first | omega | (simp only [size_app]; omega)) ?_
        refine OWp.move rfl rfl ?_
        refine OWp.nil ?_
        exact ⟨_, by omega, cc, i + 1, ex_env rfl ⟨rfl, hwr, (hk'.trans hko hw).trans hkr hw, hor, by omega⟩⟩
    · skip
      first | rw [decide_eq_true h1] | rw [decide_eq_false h1] | rw [h1] | skip
      refine CWp.exit ?_
      refine CWp.seq ?_
      refine CWp.region ?_
      refine OWp.call rfl rfl rfl rfl ?_
      refine known_spec _ _ ?_
      refine OWp.norm ?_
      refine OWp.assign rfl rfl ?_
      refine OWp.nil ?_
      refine CWp.ret ?_
      refine RetQ.one (by first | exact .inl rfl | exact .inr rfl) rfl rfl ?_
      exact h _

end Go.Proofs.YtofigleaealbjaaGreatDoor.Ev
