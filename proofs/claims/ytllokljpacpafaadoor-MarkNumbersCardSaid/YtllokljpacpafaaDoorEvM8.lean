import Derived.Test.YtllokljpacpafaaDoorEvM7
namespace Go.Proofs.YtllokljpacpafaaDoor.Ev
open Go
set_option linter.unusedVariables false
set_option linter.unusedSimpArgs false
set_option maxHeartbeats 4000000
def strs4 (u1 u2 u3 u4 : ByteArray) : Array Value := #[.string u1, .string (⟨#[35, 32, 91, 91]⟩ ++ u2), .string (⟨#[47, 47, 32]⟩ ++ u3 ++ ⟨#[93, 93]⟩), .string (⟨#[59, 32, 64, 91]⟩ ++ u4 ++ ⟨#[93]⟩)]
theorem strs4_get (u1 u2 u3 u4 : ByteArray) (h1 : u1.size ≤ 72) (h2 : u2.size ≤ 72) (h3 : u3.size ≤ 72) (h4 : u4.size ≤ 72) (i : Nat) (hi : i < 4) : ∃ t : ByteArray, (strs4 u1 u2 u3 u4).toList[i]? = some (.string t) ∧ t.size ≤ 100 := by
  match i, hi with
  | 0, _ => exact ⟨_, rfl, by omega⟩
  | 1, _ => exact ⟨_, rfl, by simp only [size_app, sz_4]; omega⟩
  | 2, _ => exact ⟨_, rfl, by simp only [size_app, sz_3, sz_2]; omega⟩
  | 3, _ => exact ⟨_, rfl, by simp only [size_app, sz_4, sz_1]; omega⟩
theorem Has.push {H0 H H1 : AH} {l : List (Nat × Obj)} {i : Nat} {ob : Obj} (h : Has H0 H l) (k : Keeps H H1) (hi : H.next ≤ i) (ho : Own H1 i ob true) : Has H0 H1 ((i, ob) :: l) := by
  refine ⟨h.wf0, h.keep.trans k h.wf0, fun x hx => ?_, ?_⟩
  · rcases List.mem_cons.1 hx with rfl | hx
    · exact ⟨Nat.le_trans h.keep.next hi, ho⟩
    · exact ⟨(h.own x hx).1, (h.own x hx).2.keep h.wf k⟩
  · simp only [List.map_cons, List.nodup_cons]
    refine ⟨fun hm => ?_, h.nod⟩
    obtain ⟨x, hx, e⟩ := List.mem_map.1 hm
    have := (h.own x hx).2.lt h.wf
    omega
def ints8 : Array Value := #[.int .i64 (-1), .int .i64 0, .int .i64 1, .int .i64 999999, .int .i64 1000000, .int .i64 1000001, .int .i64 4611686018427387904, .int .i64 (-9223372036854775808)]
theorem ints8_get (i : Nat) (hi : i < 8) : ∃ z : Int, ints8.toList[i]? = some (.int .i64 z) := by
  match i, hi with
  | 0, _ => exact ⟨_, rfl⟩
  | 1, _ => exact ⟨_, rfl⟩
  | 2, _ => exact ⟨_, rfl⟩
  | 3, _ => exact ⟨_, rfl⟩
  | 4, _ => exact ⟨_, rfl⟩
  | 5, _ => exact ⟨_, rfl⟩
  | 6, _ => exact ⟨_, rfl⟩
  | 7, _ => exact ⟨_, rfl⟩

theorem numbers_spec  (H : AH) (Q : Value → AH → Prop) (h : ∀ H', Q (.bool true) H') (hw : WfH H) : FWp Tryd.prog prims 3 [] H Q := by
  have hh := Has.start hw
  have hE : elemT Tryd.prog 22 = some 5 := by kernel_rfl
  have hz0 : zeroT Tryd.prog 5 = some (.int .u8 0) := by kernel_rfl
  have hs1 : szT Tryd.prog 5 = 1 := by kernel_rfl
  have hb1 : bytesT Tryd.prog 5 = 1 := by kernel_rfl
  refine FWp.enter (rfl) Tryd.func3 rfl (e := [undef, undef, undef, undef, undef, undef, undef, undef, undef, undef, undef, undef, undef, undef, undef, undef, undef, undef, undef, undef, undef, undef, undef, undef, undef, undef, undef, undef, undef, undef, undef, undef, undef, undef, undef, undef, undef, undef, undef, undef, undef, undef, undef, undef, undef, undef, undef, undef, undef, undef, undef, undef, undef, undef, undef, undef, undef, undef, undef, undef, undef, undef, undef, undef, undef, undef, undef, undef, undef, undef, undef, undef, undef, undef, undef, undef]) rfl ?_
  refine CWp.seq ?_
  refine CWp.region ?_
  refine OWp.assign rfl rfl ?_
  refine OWp.nil ?_
  refine CWp.seq ?_
  refine CWp.seq ?_
  refine CWp.region ?_
  refine OWp.assign rfl rfl ?_
  refine OWp.nil ?_
  refine CWp.block ?_
  refine CWp.loop (fun k e H' => ∃ (n : Nat) (g : Nat → Value), e = [g 0, .int .i64 (n : Nat), g 2, g 3, g 4, g 5, g 6, g 7, g 8, g 9, g 10, g 11, g 12, g 13, g 14, g 15, g 16, g 17, g 18, g 19, g 20, g 21, g 22, g 23, g 24, g 25, g 26, g 27, g 28, g 29, g 30, g 31, g 32, g 33, g 34, g 35, g 36, g 37, g 38, g 39, g 40, g 41, g 42, g 43, g 44, g 45, g 46, g 47, g 48, g 49, g 50, g 51, g 52, g 53, g 54, g 55, g 56, g 57, g 58, g 59, g 60, g 61, g 62, g 63, g 64, g 65, g 66, g 67, g 68, g 69, g 70, g 71, g 72, g 73, g 74, g 75] ∧ k = 4369 - n ∧ Has H H' [] ∧ n ≤ 4369) ?_ ?_
  · exact ⟨_, 0, ex_env rfl ⟨rfl, hh, by omega⟩⟩
  · rintro k e H' ⟨n, g, rfl, rfl, hh, hn⟩
    refine CWp.seq ?_
    refine CWp.seq ?_
    refine CWp.region ?_
    refine OWp.move rfl rfl ?_
    refine OWp.binI rfl rfl rfl rfl rfl ?_
    refine OWp.nil ?_
    first | refine CWp.condP rfl (fun h1 => ?_) (fun h1 => ?_) | refine CWp.cond rfl (fun h1 => ?_) (fun h1 => ?_)
    · skip
      first | rw [decide_eq_true h1] | rw [decide_eq_false h1] | rw [h1] | skip
      refine CWp.skip ?_
      refine CWp.seq ?_
      refine CWp.block ?_
      refine CWp.seq ?_
      refine CWp.region ?_
      refine OWp.assign rfl rfl ?_
      refine OWp.nil ?_
      refine CWp.seq ?_
      refine CWp.seq ?_
      refine CWp.region ?_
      refine OWp.move rfl rfl ?_
      refine OWp.assign rfl rfl ?_
      refine OWp.nil ?_
      refine CWp.block ?_
      refine CWp.loop (fun k e H' => ∃ (v : Value) (m : Nat) (l : List Value) (g : Nat → Value), e = [g 0, .int .i64 (n : Nat), v, .int .i64 (m : Nat), g 4, g 5, g 6, g 7, g 8, g 9, g 10, g 11, g 12, g 13, g 14, g 15, g 16, g 17, g 18, g 19, g 20, g 21, g 22, g 23, g 24, g 25, g 26, g 27, g 28, g 29, g 30, g 31, g 32, g 33, g 34, g 35, g 36, g 37, g 38, g 39, g 40, g 41, g 42, g 43, g 44, g 45, g 46, g 47, g 48, g 49, g 50, g 51, g 52, g 53, g 54, g 55, g 56, g 57, g 58, g 59, g 60, g 61, g 62, g 63, g 64, g 65, g 66, g 67, g 68, g 69, g 70, g 71, g 72, g 73, g 74, g 75] ∧ k = 1 + m ∧ Has H H' [] ∧ Grow H.next H' v 5 l ∧ Bytes l ∧ l.length + m ≤ 4369) ?_ ?_
      · exact ⟨_, .slice none 0 0, n, [], ex_env rfl ⟨rfl, hh, .inl ⟨rfl, rfl⟩, bytes_nil, by simp only [List.length_nil]; omega⟩⟩
      · rintro k e H' ⟨v, m, l, g, rfl, rfl, hh, hgr, hb, hlm⟩
        refine CWp.seq ?_
        refine CWp.seq ?_
        refine CWp.region ?_
        refine OWp.move rfl rfl ?_
        refine OWp.binI rfl rfl rfl rfl rfl ?_
        refine OWp.nil ?_
        first | refine CWp.condP rfl (fun h3 => ?_) (fun h3 => ?_) | refine CWp.cond rfl (fun h3 => ?_) (fun h3 => ?_)
        · skip
          first | rw [decide_eq_true h3] | rw [decide_eq_false h3] | rw [h3] | skip
          refine CWp.skip ?_
          refine CWp.seq ?_
          refine CWp.block ?_
          refine CWp.region ?_
          refine OWp.move rfl rfl ?_
          refine OWp.move rfl rfl ?_
          refine OWp.subI rfl rfl rfl rfl (by first | omega | (simp only [size_app, sz_0, sz_1, sz_2, sz_3, sz_4]; omega)) ?_
          refine OWp.remI rfl rfl rfl rfl (by first | omega | (simp only [size_app, sz_0, sz_1, sz_2, sz_3, sz_4]; omega)) ?_
          refine OWp.convI rfl rfl Tryd.underlying3 Tryd.underlying5 rfl (wrap_u8 (by omega)) ?_
          refine OWp.buildSl hh.wf rfl rfl rfl (t' := 5) (cells := #[.int .u8 (((m : Int) - 1) % 16)]) (by kernel_rfl) (fun H2 c2 hw2 hk2 hc2 ho2 => ?_)
          refine OWp.norm ?_
          refine OWp.append (B := H.next) hw2 (by have := hh.keep.next; have := hk2.next; omega) (hgr.keep hh.wf hk2) ho2.row rfl (by simp) rfl rfl rfl rfl rfl hE Tryd.underlying22 hz0 rfl hs1 (by omega) rfl rfl (by simp [hb1]; omega) (fun H3 v3 hg3 hgr3 => ?_)
          refine OWp.norm ?_
          refine OWp.assign rfl rfl ?_
          refine OWp.nil ?_
          refine CWp.region ?_
          refine OWp.move rfl rfl ?_
          refine OWp.subI rfl rfl rfl rfl (by first | omega | (simp only [size_app, sz_0, sz_1, sz_2, sz_3, sz_4]; omega)) ?_
          have e16 : ((m : Int) - 1) / 16 = (((m - 1) / 16 : Nat) : Int) := by omega
          refine OWp.quoI rfl rfl rfl rfl (by omega) ?_
          rw [e16]
          refine OWp.assign rfl rfl ?_
          refine OWp.nil ?_
          exact ⟨_, by omega, v3, (m - 1) / 16, l ++ [.int .u8 (((m : Int) - 1) % 16)], ex_env rfl ⟨rfl, ⟨hw, hg3.keeps H hw (hh.keep.trans hk2 hw) (Nat.le_refl _), fun x hx => (by simp at hx), by simp⟩, hgr3, bytes_snoc hb _, by rw [List.length_append]; simp only [List.length_cons, List.length_nil]; omega⟩⟩
        · skip
          have hvw := hgr.view
          first | rw [decide_eq_true h3] | rw [decide_eq_false h3] | rw [h3] | skip
          refine CWp.exit ?_
          refine CWp.seq ?_
          refine CWp.region ?_
          refine OWp.move rfl rfl ?_
          refine OWp.call rfl rfl rfl rfl ?_
          refine madeV_spec l hb _ _ _ ?_ hvw (by omega) hh.wf
          intro Ha ua hka hza
          replace hvw := hvw.sees (hka.sees hh.wf)
          replace hh := hh.after hka
          refine OWp.norm ?_
          refine OWp.move rfl rfl ?_
          refine OWp.call rfl rfl rfl rfl ?_
          refine madeV_spec l hb _ _ _ ?_ hvw (by omega) hh.wf
          intro Hb ub hkb hzb
          replace hvw := hvw.sees (hkb.sees hh.wf)
          replace hh := hh.after hkb
          refine OWp.norm ?_
          refine OWp.catS rfl rfl rfl rfl (by first | omega | (simp only [size_app, sz_0, sz_1, sz_2, sz_3, sz_4]; omega)) ?_
          refine OWp.move rfl rfl ?_
          refine OWp.call rfl rfl rfl rfl ?_
          refine madeV_spec l hb _ _ _ ?_ hvw (by omega) hh.wf
          intro Hc uc hkc hzc
          replace hvw := hvw.sees (hkc.sees hh.wf)
          replace hh := hh.after hkc
          refine OWp.norm ?_
          refine OWp.catS rfl rfl rfl rfl (by first | omega | (simp only [size_app, sz_0, sz_1, sz_2, sz_3, sz_4]; omega)) ?_
          refine OWp.catS rfl rfl rfl rfl (by first | omega | (simp only [size_app, sz_0, sz_1, sz_2, sz_3, sz_4]; omega)) ?_
          refine OWp.move rfl rfl ?_
          refine OWp.call rfl rfl rfl rfl ?_
          refine madeV_spec l hb _ _ _ ?_ hvw (by omega) hh.wf
          intro Hd ud hkd hzd
          replace hvw := hvw.sees (hkd.sees hh.wf)
          replace hh := hh.after hkd
          refine OWp.norm ?_
          refine OWp.catS rfl rfl rfl rfl (by first | omega | (simp only [size_app, sz_0, sz_1, sz_2, sz_3, sz_4]; omega)) ?_
          refine OWp.catS rfl rfl rfl rfl (by first | omega | (simp only [size_app, sz_0, sz_1, sz_2, sz_3, sz_4]; omega)) ?_
          refine OWp.buildSl hh.wf rfl rfl rfl (t' := 9) (cells := strs4 ua ub uc ud) (by kernel_rfl) (fun H2 c2 hw2 hk2 hc2 ho2 => ?_)
          refine OWp.norm ?_
          replace hvw := hvw.sees (hk2.sees hh.wf)
          replace hh := hh.after hk2
          refine OWp.lenSl rfl rfl rfl rfl rfl Tryd.underlying24 rfl ?_
          refine OWp.move rfl rfl ?_
          refine OWp.nil ?_
          refine CWp.block ?_
          refine CWp.loop (fun k e H' => ∃ (cc i : Nat) (g : Nat → Value), e = [g 0, .int .i64 (n : Nat), v, g 3, g 4, g 5, g 6, g 7, g 8, g 9, g 10, g 11, g 12, g 13, g 14, g 15, g 16, g 17, g 18, g 19, g 20, g 21, g 22, g 23, g 24, g 25, g 26, g 27, g 28, g 29, g 30, g 31, g 32, g 33, g 34, g 35, g 36, g 37, g 38, g 39, .slice (some ⟨cc, 0, none⟩) 4 4, .int .i64 (4 : Nat), .int .i64 (i : Nat), g 43, g 44, g 45, g 46, g 47, g 48, g 49, g 50, g 51, g 52, g 53, g 54, g 55, g 56, g 57, g 58, g 59, g 60, g 61, g 62, g 63, g 64, g 65, g 66, g 67, g 68, g 69, g 70, g 71, g 72, g 73, g 74, g 75] ∧ k = 4 - i ∧ Has H H' [] ∧ View H' v l ∧ Own H' cc (.cells (strs4 ua ub uc ud) 9 (0, 0)) true ∧ i ≤ 4) ?_ ?_
          · exact ⟨_, c2, 0, ex_env rfl ⟨rfl, hh, hvw, ho2, by omega⟩⟩
          · rintro k e H' ⟨cc, i, g, rfl, rfl, hh, hvw, hot, hi⟩
            have hot0 := hot
            refine CWp.seq ?_
            refine CWp.region ?_
            refine OWp.binI rfl rfl rfl rfl rfl ?_
            refine OWp.nil ?_
            refine CWp.seq ?_
            first | refine CWp.condP rfl (fun h5 => ?_) (fun h5 => ?_) | refine CWp.cond rfl (fun h5 => ?_) (fun h5 => ?_)
            · skip
              obtain ⟨t, ht, htz⟩ := strs4_get ua ub uc ud hza hzb hzc hzd i (by omega)
              first | rw [decide_eq_true h5] | rw [decide_eq_false h5] | rw [h5] | skip
              refine CWp.skip ?_
              refine CWp.seq ?_
              refine CWp.block ?_
              refine CWp.seq ?_
              refine CWp.region ?_
              refine OWp.indexAddrSl1 rfl rfl Tryd.underlying24 sz9 rfl rfl (by omega) (by omega) ?_
              refine OWp.loadRow rfl rfl Tryd.underlying9 rfl rfl hot.row (v := .string t) ht ?_
              refine OWp.assign rfl rfl ?_
              refine OWp.nil ?_
              refine CWp.seq ?_
              refine CWp.region ?_
              refine OWp.move rfl rfl ?_
              refine OWp.move rfl rfl ?_
              refine OWp.remI rfl rfl rfl rfl (by first | omega | (simp only [size_app, sz_0, sz_1, sz_2, sz_3, sz_4]; omega)) ?_
              refine OWp.move rfl rfl ?_
              refine OWp.call rfl rfl rfl rfl ?_
              refine madeV_spec l hb _ _ _ ?_ hvw (by omega) hh.wf
              intro Hx ux hkx hzx
              replace hvw := hvw.sees (hkx.sees hh.wf)
              replace hot := hot.keep hh.wf hkx
              replace hh := hh.after hkx
              refine OWp.norm ?_
              refine OWp.move rfl rfl ?_
              refine OWp.buildM (⟨((n : Int) % 5), ⟨#[]⟩, ⟨#[35]⟩, ux, (n : Nat)⟩) rfl rfl rfl (by kernel_rfl) ?_
              refine OWp.call rfl rfl rfl rfl ?_
              refine same_spec t (by omega) _ (show SzM ⟨((n : Int) % 5), ⟨#[]⟩, ⟨#[35]⟩, ux, (n : Nat)⟩ from ⟨show (0 : Nat) ≤ 9000000 by omega, show (1 : Nat) ≤ 9000000 by omega, by show ux.size ≤ _; omega⟩) _ _ ?_ hh.wf
              intro Hs hks
              replace hot := hot.keep hh.wf hks
              replace hvw := hvw.sees (hks.sees hh.wf)
              replace hh := hh.after hks
              refine OWp.norm ?_
              first | refine OWp.notD rfl rfl rfl ?_ | refine OWp.notB rfl rfl rfl ?_
              refine OWp.nil ?_
              refine CWp.condF rfl ?_
              refine CWp.skip ?_
              refine CWp.region ?_
              refine OWp.addI rfl rfl rfl rfl (by first | omega | (simp only [size_app, sz_0, sz_1, sz_2, sz_3, sz_4]; omega)) ?_
              refine OWp.move rfl rfl ?_
              refine OWp.nil ?_
              exact ⟨_, by omega, cc, i + 1, ex_env rfl ⟨rfl, hh, hvw, hot, by omega⟩⟩
            · skip
              first | rw [decide_eq_true h5] | rw [decide_eq_false h5] | rw [h5] | skip
              refine CWp.exit ?_
              refine CWp.region ?_
              refine OWp.move rfl rfl ?_
              refine OWp.addI rfl rfl rfl rfl (by first | omega | (simp only [size_app, sz_0, sz_1, sz_2, sz_3, sz_4]; omega)) ?_
              refine OWp.assign rfl rfl ?_
              refine OWp.nil ?_
              exact ⟨_, by omega, n + 1, ex_env rfl ⟨rfl, hh, by omega⟩⟩
    · skip
      first | rw [decide_eq_true h1] | rw [decide_eq_false h1] | rw [h1] | skip
      refine CWp.exit ?_
      refine CWp.seq ?_
      refine CWp.seq ?_
      refine CWp.region ?_
      refine OWp.buildSl hh.wf rfl rfl rfl (t' := 3) (cells := ints8) (by kernel_rfl) (fun H2 c2 hw2 hk2 hc2 ho2 => ?_)
      refine OWp.norm ?_
      replace hh := hh.push hk2 hc2 ho2
      refine OWp.lenSl rfl rfl rfl rfl rfl Tryd.underlying28 rfl ?_
      refine OWp.move rfl rfl ?_
      refine OWp.nil ?_
      refine CWp.block ?_
      refine CWp.loop (fun k e H' => ∃ (cc i : Nat) (g : Nat → Value), e = [g 0, g 1, g 2, g 3, g 4, g 5, g 6, g 7, g 8, g 9, g 10, g 11, g 12, g 13, g 14, g 15, g 16, g 17, g 18, g 19, g 20, g 21, g 22, g 23, g 24, g 25, g 26, g 27, g 28, g 29, g 30, g 31, g 32, g 33, g 34, g 35, g 36, g 37, g 38, g 39, g 40, g 41, g 42, g 43, g 44, g 45, g 46, g 47, g 48, g 49, g 50, g 51, g 52, g 53, g 54, g 55, .slice (some ⟨cc, 0, none⟩) 8 8, .int .i64 (8 : Nat), .int .i64 (i : Nat), g 59, g 60, g 61, g 62, g 63, g 64, g 65, g 66, g 67, g 68, g 69, g 70, g 71, g 72, g 73, g 74, g 75] ∧ k = 8 - i ∧ Has H H' [(cc, .cells ints8 3 (0, 0))] ∧ i ≤ 8) ?_ ?_
      · exact ⟨_, c2, 0, ex_env rfl ⟨rfl, hh, by omega⟩⟩
      · rintro k e H' ⟨cc, i, g, rfl, rfl, hh, hi⟩
        refine CWp.seq ?_
        refine CWp.region ?_
        refine OWp.binI rfl rfl rfl rfl rfl ?_
        refine OWp.nil ?_
        refine CWp.seq ?_
        first | refine CWp.condP rfl (fun h3 => ?_) (fun h3 => ?_) | refine CWp.cond rfl (fun h3 => ?_) (fun h3 => ?_)
        · skip
          obtain ⟨z, hzz⟩ := ints8_get i (by omega)
          first | rw [decide_eq_true h3] | rw [decide_eq_false h3] | rw [h3] | skip
          refine CWp.skip ?_
          refine CWp.seq ?_
          refine CWp.block ?_
          refine CWp.seq ?_
          refine CWp.region ?_
          refine OWp.indexAddrSl1 rfl rfl Tryd.underlying28 sz3 rfl rfl (by omega) (by omega) ?_
          refine OWp.loadRow rfl rfl Tryd.underlying3 rfl rfl (hh.get (k := 0) rfl).2.row (v := .int .i64 z) hzz ?_
          refine OWp.assign rfl rfl ?_
          refine OWp.nil ?_
          refine CWp.seq ?_
          refine CWp.region ?_
          refine OWp.assign rfl rfl ?_
          refine OWp.nil ?_
          refine CWp.block ?_
          refine CWp.loop (fun k e H' => ∃ (kk : Int) (g : Nat → Value), e = [g 0, g 1, g 2, g 3, g 4, g 5, g 6, .int .i64 z, .int .i64 kk, g 9, g 10, g 11, g 12, g 13, g 14, g 15, g 16, g 17, g 18, g 19, g 20, g 21, g 22, g 23, g 24, g 25, g 26, g 27, g 28, g 29, g 30, g 31, g 32, g 33, g 34, g 35, g 36, g 37, g 38, g 39, g 40, g 41, g 42, g 43, g 44, g 45, g 46, g 47, g 48, g 49, g 50, g 51, g 52, g 53, g 54, g 55, .slice (some ⟨cc, 0, none⟩) 8 8, .int .i64 (8 : Nat), .int .i64 (i : Nat), g 59, g 60, g 61, g 62, g 63, g 64, g 65, g 66, g 67, g 68, g 69, g 70, g 71, g 72, g 73, g 74, g 75] ∧ k = (5 - kk).toNat ∧ Has H H' [(cc, .cells ints8 3 (0, 0))] ∧ -1 ≤ kk ∧ kk ≤ 5) ?_ ?_
          · exact ⟨_, -1, ex_env rfl ⟨rfl, hh, by omega, by omega⟩⟩
          · rintro k e H' ⟨kk, g, rfl, rfl, hh, hq1, hq2⟩
            refine CWp.seq ?_
            refine CWp.seq ?_
            refine CWp.region ?_
            refine OWp.move rfl rfl ?_
            refine OWp.binI rfl rfl rfl rfl rfl ?_
            refine OWp.nil ?_
            first | refine CWp.condP rfl (fun h5 => ?_) (fun h5 => ?_) | refine CWp.cond rfl (fun h5 => ?_) (fun h5 => ?_)
            · skip
              first | rw [decide_eq_true h5] | rw [decide_eq_false h5] | rw [h5] | skip
              refine CWp.skip ?_
              refine CWp.seq ?_
              refine CWp.block ?_
              refine CWp.seq ?_
              refine CWp.region ?_
              refine OWp.move rfl rfl ?_
              refine OWp.move rfl rfl ?_
              refine OWp.buildM (⟨kk, ⟨#[9]⟩, ⟨#[45, 45]⟩, ⟨#[110]⟩, z⟩) rfl rfl rfl (by kernel_rfl) ?_
              refine OWp.allocM hh rfl rfl (fun H9 b9 hh => ?_)
              refine OWp.norm ?_
              first | refine OWp.storeM (k := 0) hh rfl rfl rfl rfl rfl (fun H4 hh => ?_) | refine OWp.storeM (k := 1) hh rfl rfl rfl rfl rfl (fun H4 hh => ?_) | refine OWp.storeM (k := 2) hh rfl rfl rfl rfl rfl (fun H4 hh => ?_)
              simp only [List.set_cons_zero, List.set_cons_succ] at hh
              refine OWp.norm ?_
              refine OWp.nil ?_
              refine CWp.seq ?_
              refine CWp.drawnN (by kernel_rfl) ?_
              have hhS := hh
              have hkS := Keeps.refl hh.wf
              first | refine OWp.loadM (k := 0) hh rfl rfl rfl rfl ?_ | refine OWp.loadM (k := 1) hh rfl rfl rfl rfl ?_ | refine OWp.loadM (k := 2) hh rfl rfl rfl rfl ?_
              refine OWp.call rfl rfl rfl rfl ?_
              refine textR_spec _ (show SzM ⟨kk, ⟨#[9]⟩, ⟨#[45, 45]⟩, ⟨#[110]⟩, z⟩ from ⟨show (1 : Nat) ≤ 9000000 by omega, show (2 : Nat) ≤ 9000000 by omega, show (1 : Nat) ≤ 9000000 by omega⟩) _ _ ?_ hh.wf
              intro Hd td hkd htd
              have hzd := htd.size
              have hz9 : td.size ≤ 101 := hzd
              replace hh := hh.after hkd
              replace hkS := hkS.trans hkd hhS.wf
              refine OWp.norm ?_
              first | refine OWp.loadM (k := 0) hh rfl rfl rfl rfl ?_ | refine OWp.loadM (k := 1) hh rfl rfl rfl rfl ?_ | refine OWp.loadM (k := 2) hh rfl rfl rfl rfl ?_
              refine OWp.call rfl rfl rfl rfl ?_
              refine same_spec td (by omega) _ (show SzM ⟨kk, ⟨#[9]⟩, ⟨#[45, 45]⟩, ⟨#[110]⟩, z⟩ from ⟨show (1 : Nat) ≤ 9000000 by omega, show (2 : Nat) ≤ 9000000 by omega, show (1 : Nat) ≤ 9000000 by omega⟩) _ _ ?_ hh.wf
              intro Hs hks
              replace hh := hh.after hks
              replace hkS := hkS.trans hks hhS.wf
              refine OWp.norm ?_
              first | refine OWp.notD rfl rfl rfl ?_ | refine OWp.notB rfl rfl rfl ?_
              refine OWp.nil ?_
              refine ⟨still_all (L := [.pointer (some ⟨b9, 0, none⟩), .pointer (some ⟨b9, 0, none⟩)]) rfl (by simp only [List.all_cons, List.all_nil, Bool.and_true, Bool.and_eq_true]; first | rfl | (refine ⟨?_, ?_⟩ <;> first | rfl | exact still_has (k := 0) hhS rfl hkS | exact still_has (k := 1) hhS rfl hkS | exact still_has (k := 2) hhS rfl hkS) | exact still_has (k := 0) hhS rfl hkS | exact still_has (k := 1) hhS rfl hkS | exact still_has (k := 2) hhS rfl hkS), ?_⟩
              refine CWp.condF rfl ?_
              refine CWp.skip ?_
              refine CWp.region ?_
              refine OWp.move rfl rfl ?_
              refine OWp.addI rfl rfl rfl rfl (by first | omega | (simp only [size_app, sz_0, sz_1, sz_2, sz_3, sz_4]; omega)) ?_
              refine OWp.assign rfl rfl ?_
              refine OWp.nil ?_
              exact ⟨_, by omega, kk + 1, ex_env rfl ⟨rfl, hh.drop, by omega, by omega⟩⟩
            · skip
              first | rw [decide_eq_true h5] | rw [decide_eq_false h5] | rw [h5] | skip
              refine CWp.exit ?_
              refine CWp.region ?_
              refine OWp.addI rfl rfl rfl rfl (by first | omega | (simp only [size_app, sz_0, sz_1, sz_2, sz_3, sz_4]; omega)) ?_
              refine OWp.move rfl rfl ?_
              refine OWp.nil ?_
              exact ⟨_, by omega, cc, i + 1, ex_env rfl ⟨rfl, hh, by omega⟩⟩
        · skip
          first | rw [decide_eq_true h3] | rw [decide_eq_false h3] | rw [h3] | skip
          refine CWp.exit ?_
          refine CWp.seq ?_
          refine CWp.region ?_
          refine OWp.call rfl rfl rfl rfl ?_
          refine known_spec _ _ ?_
          refine OWp.norm ?_
          refine OWp.assign rfl rfl ?_
          refine OWp.nil ?_
          refine CWp.ret ?_
          refine RetQ.one (by first | exact .inl rfl | exact .inr rfl) rfl rfl ?_
          exact h _

end Go.Proofs.YtllokljpacpafaaDoor.Ev
