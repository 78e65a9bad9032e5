import Derived.Test.YtnlkgnoogcakjaaGreatDoorEvA5
import Derived.Test.YtnlkgnoogcakjaaGreatDoorEvAttrT
namespace Go.Proofs.YtnlkgnoogcakjaaGreatDoor.Ev
open Go
set_option linter.unusedVariables false
set_option linter.unusedSimpArgs false
set_option maxHeartbeats 8000000
set_option maxRecDepth 20000
theorem OWp.eqAtT {prims : Prims} {ops : Array Oper} {o : Oper} {r : List Oper} {e e' : List Value} {H : AH} {Q : List Value → AH → Prop} {t' : TypeId} {x y : Operand} (a : At) (hg : guardA ops o e = some true) (ho : o.op = .binOp .eql 27 x y t') (hx : rho e x = a.v) (hy : rho e y = a.v)
    (hk : OWp Tryz.prog prims ops r e' H Q) (he : putE e o.dst (.bool true) = e' := by simp only [putE, rho, List.set_cons_zero, List.set_cons_succ, List.getD_cons_zero, List.getD_cons_succ]; exact rfl) : OWp Tryz.prog prims ops (o :: r) e H Q :=
  OWp.eqAt a a hg ho hx hy hk (by rw [decide_eq_true rfl]; exact he)
theorem sz_8 (a b c d e f g h : UInt8) : (⟨#[a, b, c, d, e, f, g, h]⟩ : ByteArray).size = 8 := rfl
theorem sz_5 (a b c d e : UInt8) : (⟨#[a, b, c, d, e]⟩ : ByteArray).size = 5 := rfl
theorem sz_6 (a b c d e f : UInt8) : (⟨#[a, b, c, d, e, f]⟩ : ByteArray).size = 6 := rfl
theorem sz_12 (a b c d e f g h i j k l : UInt8) : (⟨#[a, b, c, d, e, f, g, h, i, j, k, l]⟩ : ByteArray).size = 12 := rfl
theorem sz_15 (a b c d e f g h i j k l m n o : UInt8) : (⟨#[a, b, c, d, e, f, g, h, i, j, k, l, m, n, o]⟩ : ByteArray).size = 15 := rfl

theorem order_spec (u v : ByteArray) (hu : u.size ≤ 1048576) (hv : v.size ≤ 1048576) (l : List Value) (hl : Bytes l) (ks : Value) (H : AH) (Q : Value → AH → Prop) (h : ∀ H', Q (.bool true) H') (hvw : View H ks l) (hlen : l.length ≤ 9223372036854775807) (hw : WfH H) : FWp Tryz.prog prims 6 [.string u, .string v, ks] H Q := by
  have hs9 : szT Tryz.prog 9 = 1 := by kernel_rfl
  have hvw0 := hvw
  refine FWp.enter (rfl) Tryz.func6 rfl (e := [.string u, .string v, ks, undef, undef, undef, undef, undef, undef, undef, undef, undef, undef, undef, undef, undef, undef, undef, undef, undef, undef, undef, undef, undef, undef, undef, undef, undef, undef, undef, undef, undef, undef, undef, undef, undef, undef, undef, undef, undef, undef, undef, undef, undef, undef, undef, undef, undef, undef, undef, undef, undef, undef, undef, undef, undef, undef, undef, undef, undef, undef, undef, undef, undef, undef, undef, undef, undef, undef, undef, undef, undef, undef, undef, undef, undef, undef, undef, undef, undef, undef, undef, undef, undef, undef, undef, undef, undef, undef, undef, undef, undef, undef, undef, undef, undef, undef, undef, undef, undef, undef, undef, undef, undef, undef, undef, undef, undef, undef, undef, undef, undef, undef, undef, undef, undef, undef, undef, undef, undef, undef, undef, undef, undef, undef, undef, undef, undef, undef, undef, undef, undef, undef, undef, undef, undef, undef, undef, undef, undef, undef, undef, undef, undef, undef, undef, undef, undef, undef, undef, undef, undef, undef, undef, undef, undef, undef, undef, undef, undef, undef, undef, undef, undef, undef, undef, undef, undef, undef, undef, undef, undef, undef, undef, undef, undef, undef, undef, undef]) rfl ?_
  refine CWp.seq ?_
  refine CWp.region ?_
  refine OWp.assign rfl rfl ?_
  refine OWp.nil ?_
  refine CWp.seq ?_
  refine CWp.region ?_
  refine OWp.assign rfl rfl ?_
  refine OWp.assign rfl rfl ?_
  refine OWp.nil ?_
  refine CWp.seq ?_
  refine CWp.seq ?_
  refine CWp.region ?_
  refine OWp.move rfl rfl ?_
  refine OWp.rangeS hw rfl rfl Tryz.underlying9 rfl (fun H1 i hw1 hk1 hi1 ho1 => ?_)
  refine OWp.norm ?_
  refine OWp.nil ?_
  refine CWp.block ?_
  refine CWp.loop (fun k e H' => ∃ (i pos : Nat) (nl : List UInt8) (g : Nat → Value), e = [.string u, .string v, ks, g 3, g 4, g 5, g 6, .string (bl nl), .string ⟨#[35]⟩, g 9, g 10, g 11, g 12, g 13, g 14, g 15, g 16, g 17, g 18, g 19, g 20, g 21, g 22, .pointer (some ⟨i, 0, none⟩), g 24, g 25, g 26, g 27, g 28, g 29, g 30, g 31, g 32, g 33, g 34, g 35, g 36, g 37, g 38, g 39, g 40, g 41, g 42, g 43, g 44, g 45, g 46, g 47, g 48, g 49, g 50, g 51, g 52, g 53, g 54, g 55, g 56, g 57, g 58, g 59, g 60, g 61, g 62, g 63, g 64, g 65, g 66, g 67, g 68, g 69, g 70, g 71, g 72, g 73, g 74, g 75, g 76, g 77, g 78, g 79, g 80, g 81, g 82, g 83, g 84, g 85, g 86, g 87, g 88, g 89, g 90, g 91, g 92, g 93, g 94, g 95, g 96, g 97, g 98, g 99, g 100, g 101, g 102, g 103, g 104, g 105, g 106, g 107, g 108, g 109, g 110, g 111, g 112, g 113, g 114, g 115, g 116, g 117, g 118, g 119, g 120, g 121, g 122, g 123, g 124, g 125, g 126, g 127, g 128, g 129, g 130, g 131, g 132, g 133, g 134, g 135, g 136, g 137, g 138, g 139, g 140, g 141, g 142, g 143, g 144, g 145, g 146, g 147, g 148, g 149, g 150, g 151, g 152, g 153, g 154, g 155, g 156, g 157, g 158, g 159, g 160, g 161, g 162, g 163, g 164, g 165, g 166, g 167, g 168, g 169, g 170, g 171, g 172, g 173, g 174, g 175, g 176, g 177, g 178] ∧ k = u.size - pos ∧ WfH H' ∧ Keeps H H' ∧ H.next ≤ i ∧ Own H' i (.stringIter u pos) true ∧ LetN nl) ?_ ?_
  · exact ⟨_, i, 0, [110], ex_env rfl ⟨rfl, hw1, hk1, hi1, ho1, let_one⟩⟩
  · rintro k e H' ⟨i, pos, nl, g, rfl, rfl, hw', hk', hi', hit, hn⟩
    refine CWp.seq ?_
    refine CWp.region ?_
    refine OWp.nextS hw' hit rfl rfl rfl (fun hlt H1 hw1 hk1 hot hit1 hse1 hnx => ?_) (fun hge => ?_)
    · refine OWp.norm ?_
      have hwid := Lib.decode_width_pos u pos hlt
      have hnz := let_size hn
      refine OWp.extract rfl rfl rfl rfl ?_
      refine OWp.nil ?_
      refine CWp.seq ?_
      refine CWp.condT rfl ?_
      refine CWp.skip ?_
      refine CWp.block ?_
      refine CWp.seq ?_
      refine CWp.region ?_
      refine OWp.extract rfl rfl rfl rfl ?_
      refine OWp.assign rfl rfl ?_
      refine OWp.nil ?_
      refine CWp.seq ?_
      refine CWp.region ?_
      refine OWp.move rfl rfl ?_
      refine OWp.binI rfl rfl rfl rfl rfl ?_
      refine OWp.move rfl rfl ?_
      first | refine OWp.byT rfl (fun hg2 => ?_) (fun hg2 => ?_) | refine OWp.byBT rfl (fun hg2 => ?_) (fun hg2 => ?_)
      · skip
        first | rw [decide_eq_true hg2] | rw [decide_eq_false hg2] | rw [hg2] | skip
        try simp only [Decidable.not_not] at hg2
        refine OWp.move rfl rfl ?_
        refine OWp.binI rfl rfl rfl rfl rfl ?_
        refine OWp.pickT rfl rfl rfl ?_
        refine OWp.move rfl rfl ?_
        first | refine OWp.byT rfl (fun hg3 => ?_) (fun hg3 => ?_) | refine OWp.byBT rfl (fun hg3 => ?_) (fun hg3 => ?_)
        · skip
          first | rw [decide_eq_true hg3] | rw [decide_eq_false hg3] | rw [hg3] | skip
          try simp only [Decidable.not_not] at hg3
          refine OWp.move rfl rfl ?_
          refine OWp.lenS rfl rfl rfl rfl rfl Tryz.underlying9 rfl ?_
          refine OWp.binI rfl rfl rfl rfl rfl ?_
          refine OWp.pickT rfl rfl rfl ?_
          refine OWp.nil ?_
          first | refine CWp.condP rfl (fun h4 => ?_) (fun h4 => ?_) | refine CWp.cond rfl (fun h4 => ?_) (fun h4 => ?_)
          · skip
            first | rw [decide_eq_true h4] | rw [decide_eq_false h4] | rw [h4] | skip
            refine CWp.region ?_
            refine OWp.move rfl rfl ?_
            refine OWp.move rfl rfl ?_
            refine OWp.convStr rfl rfl Tryz.underlying21 Tryz.underlying9 rfl ?_
            rw [enc_let _ (by omega)]
            refine OWp.catS rfl rfl rfl rfl (by rw [bl_size, bl_size] at *; simp only [List.length_cons, List.length_nil]; omega) ?_
            rw [bl_app]
            refine OWp.assign rfl rfl ?_
            refine OWp.nil ?_
            exact ⟨_, by omega, i, pos + (Utf8.decode u pos).2, nl ++ [(Utf8.decode u pos).1.toUInt8], ex_env rfl ⟨rfl, hw1, hk1 H hw hk' hi', hi', hit1, let_snoc hn (by rw [bl_size] at h4; omega) (by omega) (by omega)⟩⟩
          · skip
            first | rw [decide_eq_true h4] | rw [decide_eq_false h4] | rw [h4] | skip
            refine CWp.skip ?_
            exact ⟨_, by omega, i, pos + (Utf8.decode u pos).2, nl, ex_env rfl ⟨rfl, hw1, hk1 H hw hk' hi', hi', hit1, hn⟩⟩
        · skip
          first | rw [decide_eq_true hg3] | rw [decide_eq_false hg3] | rw [hg3] | skip
          try simp only [Decidable.not_not] at hg3
          refine OWp.leave rfl ?_
          refine OWp.leave rfl ?_
          refine OWp.leave rfl ?_
          refine OWp.pickF rfl rfl rfl ?_
          refine OWp.nil ?_
          refine CWp.condF rfl ?_
          refine CWp.skip ?_
          exact ⟨_, by omega, i, pos + (Utf8.decode u pos).2, nl, ex_env rfl ⟨rfl, hw1, hk1 H hw hk' hi', hi', hit1, hn⟩⟩
      · skip
        first | rw [decide_eq_true hg2] | rw [decide_eq_false hg2] | rw [hg2] | skip
        try simp only [Decidable.not_not] at hg2
        refine OWp.leave rfl ?_
        refine OWp.leave rfl ?_
        refine OWp.pickF rfl rfl rfl ?_
        refine OWp.move rfl rfl ?_
        refine OWp.leave rfl ?_
        refine OWp.leave rfl ?_
        refine OWp.leave rfl ?_
        refine OWp.pickF rfl rfl rfl ?_
        refine OWp.nil ?_
        refine CWp.condF rfl ?_
        refine CWp.skip ?_
        exact ⟨_, by omega, i, pos + (Utf8.decode u pos).2, nl, ex_env rfl ⟨rfl, hw1, hk1 H hw hk' hi', hi', hit1, hn⟩⟩
    · refine OWp.norm ?_
      refine OWp.extract rfl rfl rfl rfl ?_
      refine OWp.nil ?_
      refine CWp.seq ?_
      refine CWp.condF rfl ?_
      refine CWp.exit ?_
      refine CWp.cut (fun e H' => ∃ (sl : List UInt8) (g : Nat → Value), e = [.string u, .string v, ks, g 3, g 4, g 5, g 6, .string (bl nl), .string (bl sl), g 9, g 10, g 11, g 12, g 13, g 14, g 15, g 16, g 17, g 18, g 19, g 20, g 21, g 22, g 23, g 24, g 25, g 26, g 27, g 28, g 29, g 30, g 31, g 32, g 33, g 34, g 35, g 36, g 37, g 38, g 39, g 40, g 41, g 42, g 43, g 44, g 45, g 46, g 47, g 48, g 49, g 50, g 51, g 52, g 53, g 54, g 55, g 56, g 57, g 58, g 59, g 60, g 61, g 62, g 63, g 64, g 65, g 66, g 67, g 68, g 69, g 70, g 71, g 72, g 73, g 74, g 75, g 76, g 77, g 78, g 79, g 80, g 81, g 82, g 83, g 84, g 85, g 86, g 87, g 88, g 89, g 90, g 91, g 92, g 93, g 94, g 95, g 96, g 97, g 98, g 99, g 100, g 101, g 102, g 103, g 104, g 105, g 106, g 107, g 108, g 109, g 110, g 111, g 112, g 113, g 114, g 115, g 116, g 117, g 118, g 119, g 120, g 121, g 122, g 123, g 124, g 125, g 126, g 127, g 128, g 129, g 130, g 131, g 132, g 133, g 134, g 135, g 136, g 137, g 138, g 139, g 140, g 141, g 142, g 143, g 144, g 145, g 146, g 147, g 148, g 149, g 150, g 151, g 152, g 153, g 154, g 155, g 156, g 157, g 158, g 159, g 160, g 161, g 162, g 163, g 164, g 165, g 166, g 167, g 168, g 169, g 170, g 171, g 172, g 173, g 174, g 175, g 176, g 177, g 178] ∧ WfH H' ∧ Keeps H H' ∧ StyN sl) ?_ ?_
      · skip
        refine CWp.seq ?_
        refine CWp.region ?_
        refine OWp.move rfl rfl ?_
        refine OWp.lenS rfl rfl rfl rfl rfl Tryz.underlying9 rfl ?_
        refine OWp.binI rfl rfl rfl rfl rfl ?_
        refine OWp.nil ?_
        first | refine CWp.condP rfl (fun h2 => ?_) (fun h2 => ?_) | refine CWp.cond rfl (fun h2 => ?_) (fun h2 => ?_)
        · skip
          first | rw [decide_eq_true h2] | rw [decide_eq_false h2] | rw [h2] | skip
          refine CWp.region ?_
          refine OWp.buildSl hw' rfl rfl rfl (t' := 9) (cells := styS) (by kernel_rfl) (fun H2 c9 hw2 hk2 hc2 ho2 => ?_)
          refine OWp.norm ?_
          refine OWp.move rfl rfl ?_
          refine OWp.indexS rfl rfl Tryz.underlying9 rfl rfl (by first | omega | (simp only [size_app, sz_0, sz_1, sz_2, sz_3, sz_4, sz_5, sz_6, sz_8, sz_12, sz_15]; omega)) (by first | omega | (simp only [size_app, sz_0, sz_1, sz_2, sz_3, sz_4, sz_5, sz_6, sz_8, sz_12, sz_15]; omega)) ?_
          refine OWp.andR rfl rfl rfl rfl (.inl rfl) (by omega) (fun c3 hc3 => ?_)
          refine OWp.norm ?_
          obtain ⟨sq, hsq, hst⟩ := sty_get c3 hc3
          refine OWp.indexAddrSl1 rfl rfl Tryz.underlying33 hs9 rfl rfl (by omega) (by omega) ?_
          refine OWp.loadRow rfl rfl Tryz.underlying9 rfl rfl ho2.row (v := .string (bl sq)) hsq ?_
          refine OWp.assign rfl rfl ?_
          refine OWp.nil ?_
          exact ⟨sq, ex_env rfl ⟨hw2, hk'.trans hk2 hw, hst⟩⟩
        · skip
          first | rw [decide_eq_true h2] | rw [decide_eq_false h2] | rw [h2] | skip
          refine CWp.skip ?_
          exact ⟨[35], ex_env rfl ⟨hw', hk', .inl rfl⟩⟩
      · rintro e H' ⟨sl, g, rfl, hw', hk', hsl⟩
        have hnz := let_size hn
        have hsz := sty_size hsl
        refine CWp.seq ?_
        refine CWp.region ?_
        refine OWp.move rfl rfl ?_
        refine OWp.catS rfl rfl rfl rfl (by first | omega | (simp only [size_app, sz_0, sz_1, sz_2, sz_3, sz_4, sz_5, sz_6, sz_8, sz_12, sz_15]; omega)) ?_
        refine OWp.move rfl rfl ?_
        refine OWp.catS rfl rfl rfl rfl (by first | omega | (simp only [size_app, sz_0, sz_1, sz_2, sz_3, sz_4, sz_5, sz_6, sz_8, sz_12, sz_15]; omega)) ?_
        refine OWp.buildSl hw' rfl rfl rfl (t' := 9) (cells := ordS nl sl) (by kernel_rfl) (fun H2 c2 hw2 hk2 hc2 ho2 => ?_)
        refine OWp.norm ?_
        have hrow := ho2.row
        replace hvw := hvw.sees ((hk'.trans hk2 hw).sees hw)
        have hh := Has.start hw2
        refine OWp.assign rfl rfl ?_
        refine OWp.nil ?_
        refine CWp.seq ?_
        refine CWp.drawnM (by kernel_rfl) ?_
        have hhA := hh
        have hwS := hh.wf
        replace hh := Has.start hwS
        refine OWp.move rfl rfl ?_
        refine OWp.indexAddrSl1 rfl rfl Tryz.underlying33 hs9 rfl rfl (by omega) (by omega) ?_
        refine OWp.loadRow rfl rfl Tryz.underlying9 rfl rfl hrow (v := .string (⟨#[110, 97, 109, 101, 61]⟩ ++ bl nl)) rfl ?_
        refine OWp.catS rfl rfl rfl rfl (by first | omega | (simp only [size_app, sz_0, sz_1, sz_2, sz_3, sz_4, sz_5, sz_6, sz_8, sz_12, sz_15]; omega)) ?_
        refine OWp.catS rfl rfl rfl rfl (by first | omega | (simp only [size_app, sz_0, sz_1, sz_2, sz_3, sz_4, sz_5, sz_6, sz_8, sz_12, sz_15]; omega)) ?_
        refine OWp.move rfl rfl ?_
        refine OWp.indexAddrSl1 rfl rfl Tryz.underlying33 hs9 rfl rfl (by omega) (by omega) ?_
        refine OWp.loadRow rfl rfl Tryz.underlying9 rfl rfl hrow (v := .string (⟨#[99, 111, 109, 109, 101, 110, 116, 61]⟩ ++ bl sl)) rfl ?_
        refine OWp.catS rfl rfl rfl rfl (by first | omega | (simp only [size_app, sz_0, sz_1, sz_2, sz_3, sz_4, sz_5, sz_6, sz_8, sz_12, sz_15]; omega)) ?_
        refine OWp.catS rfl rfl rfl rfl (by first | omega | (simp only [size_app, sz_0, sz_1, sz_2, sz_3, sz_4, sz_5, sz_6, sz_8, sz_12, sz_15]; omega)) ?_
        refine OWp.move rfl rfl ?_
        refine OWp.indexAddrSl1 rfl rfl Tryz.underlying33 hs9 rfl rfl (by omega) (by omega) ?_
        refine OWp.loadRow rfl rfl Tryz.underlying9 rfl rfl hrow (v := .string KAPP) rfl ?_
        refine OWp.catS rfl rfl rfl rfl (by first | omega | (simp only [size_app, sz_0, sz_1, sz_2, sz_3, sz_4, sz_5, sz_6, sz_8, sz_12, sz_15]; omega)) ?_
        refine OWp.catS rfl rfl rfl rfl (by first | omega | (simp only [size_app, sz_0, sz_1, sz_2, sz_3, sz_4, sz_5, sz_6, sz_8, sz_12, sz_15]; omega)) ?_
        refine OWp.move rfl rfl ?_
        refine OWp.indexAddrSl1 rfl rfl Tryz.underlying33 hs9 rfl rfl (by omega) (by omega) ?_
        refine OWp.loadRow rfl rfl Tryz.underlying9 rfl rfl hrow (v := .string KNOL) rfl ?_
        refine OWp.catS rfl rfl rfl rfl (by first | omega | (simp only [size_app, sz_0, sz_1, sz_2, sz_3, sz_4, sz_5, sz_6, sz_8, sz_12, sz_15]; omega)) ?_
        refine OWp.call rfl rfl rfl rfl ?_
        refine read_spec _ (by first | omega | (simp only [size_app, sz_0, sz_1, sz_2, sz_3, sz_4, sz_5, sz_6, sz_8, sz_12, sz_15]; omega)) _ _ ?_ hh.wf
        intro H3 aa oka hk3 hr1 hr2
        replace hh := hh.after hk3
        obtain ⟨rfl, rfl⟩ := hr1 _ ((congrArg readS (strA nl sl)).trans (order_a hn hsl))
        refine OWp.norm ?_
        refine OWp.move rfl rfl ?_
        refine OWp.extract rfl rfl rfl rfl ?_
        refine OWp.extract rfl rfl rfl rfl ?_
        refine OWp.allocAt hh rfl rfl (fun H12 b12 hh => ?_)
        refine OWp.norm ?_
        first | refine OWp.storeAt (k := 0) hh rfl rfl rfl rfl rfl (fun H4 hh => ?_) | refine OWp.storeAt (k := 1) hh rfl rfl rfl rfl rfl (fun H4 hh => ?_) | refine OWp.storeAt (k := 2) hh rfl rfl rfl rfl rfl (fun H4 hh => ?_) | refine OWp.storeAt (k := 3) hh rfl rfl rfl rfl rfl (fun H4 hh => ?_) | refine OWp.storeAt (k := 4) hh rfl rfl rfl rfl rfl (fun H4 hh => ?_)
        simp only [List.set_cons_zero, List.set_cons_succ] at hh
        refine OWp.norm ?_
        refine OWp.assign rfl rfl ?_
        refine OWp.nil ?_
        refine ⟨still_all (L := [.pointer (some ((⟨c2, 0, none⟩ : Addr).add 0)), .pointer (some ((⟨c2, 0, none⟩ : Addr).add 1)), .pointer (some ((⟨c2, 0, none⟩ : Addr).add 2)), .pointer (some ((⟨c2, 0, none⟩ : Addr).add 3))]) rfl (by simp only [List.all_cons, List.all_nil, Bool.and_true, Bool.and_eq_true]; first | exact still_rowK hwS hh.keep hrow | exact ⟨still_rowK hwS hh.keep hrow, still_rowK hwS hh.keep hrow, still_rowK hwS hh.keep hrow, still_rowK hwS hh.keep hrow⟩), ?_⟩
        replace hrow := hrow.sees (hh.keep.sees hwS)
        replace hvw := hvw.sees (hh.keep.sees hwS)
        replace hh := hhA.join hh
        simp only [List.cons_append, List.nil_append] at hh
        refine CWp.seq ?_
        refine CWp.drawnM (by kernel_rfl) ?_
        have hhA := hh
        have hwS := hh.wf
        replace hh := Has.start hwS
        refine OWp.move rfl rfl ?_
        refine OWp.indexAddrSl1 rfl rfl Tryz.underlying33 hs9 rfl rfl (by omega) (by omega) ?_
        refine OWp.loadRow rfl rfl Tryz.underlying9 rfl rfl hrow (v := .string KNOL) rfl ?_
        refine OWp.catS rfl rfl rfl rfl (by first | omega | (simp only [size_app, sz_0, sz_1, sz_2, sz_3, sz_4, sz_5, sz_6, sz_8, sz_12, sz_15]; omega)) ?_
        refine OWp.catS rfl rfl rfl rfl (by first | omega | (simp only [size_app, sz_0, sz_1, sz_2, sz_3, sz_4, sz_5, sz_6, sz_8, sz_12, sz_15]; omega)) ?_
        refine OWp.move rfl rfl ?_
        refine OWp.indexAddrSl1 rfl rfl Tryz.underlying33 hs9 rfl rfl (by omega) (by omega) ?_
        refine OWp.loadRow rfl rfl Tryz.underlying9 rfl rfl hrow (v := .string (⟨#[99, 111, 109, 109, 101, 110, 116, 61]⟩ ++ bl sl)) rfl ?_
        refine OWp.catS rfl rfl rfl rfl (by first | omega | (simp only [size_app, sz_0, sz_1, sz_2, sz_3, sz_4, sz_5, sz_6, sz_8, sz_12, sz_15]; omega)) ?_
        refine OWp.catS rfl rfl rfl rfl (by first | omega | (simp only [size_app, sz_0, sz_1, sz_2, sz_3, sz_4, sz_5, sz_6, sz_8, sz_12, sz_15]; omega)) ?_
        refine OWp.move rfl rfl ?_
        refine OWp.indexAddrSl1 rfl rfl Tryz.underlying33 hs9 rfl rfl (by omega) (by omega) ?_
        refine OWp.loadRow rfl rfl Tryz.underlying9 rfl rfl hrow (v := .string KAPP) rfl ?_
        refine OWp.catS rfl rfl rfl rfl (by first | omega | (simp only [size_app, sz_0, sz_1, sz_2, sz_3, sz_4, sz_5, sz_6, sz_8, sz_12, sz_15]; omega)) ?_
        refine OWp.catS rfl rfl rfl rfl (by first | omega | (simp only [size_app, sz_0, sz_1, sz_2, sz_3, sz_4, sz_5, sz_6, sz_8, sz_12, sz_15]; omega)) ?_
        refine OWp.move rfl rfl ?_
        refine OWp.indexAddrSl1 rfl rfl Tryz.underlying33 hs9 rfl rfl (by omega) (by omega) ?_
        refine OWp.loadRow rfl rfl Tryz.underlying9 rfl rfl hrow (v := .string (⟨#[110, 97, 109, 101, 61]⟩ ++ bl nl)) rfl ?_
        refine OWp.catS rfl rfl rfl rfl (by first | omega | (simp only [size_app, sz_0, sz_1, sz_2, sz_3, sz_4, sz_5, sz_6, sz_8, sz_12, sz_15]; omega)) ?_
        refine OWp.catS rfl rfl rfl rfl (by first | omega | (simp only [size_app, sz_0, sz_1, sz_2, sz_3, sz_4, sz_5, sz_6, sz_8, sz_12, sz_15]; omega)) ?_
        refine OWp.call rfl rfl rfl rfl ?_
        refine read_spec _ (by first | omega | (simp only [size_app, sz_0, sz_1, sz_2, sz_3, sz_4, sz_5, sz_6, sz_8, sz_12, sz_15]; omega)) _ _ ?_ hh.wf
        intro H3 ab okb hk3 hr1 hr2
        replace hh := hh.after hk3
        obtain ⟨rfl, rfl⟩ := hr1 _ ((congrArg readS (strB nl sl)).trans (order_b hn hsl))
        refine OWp.norm ?_
        refine OWp.move rfl rfl ?_
        refine OWp.extract rfl rfl rfl rfl ?_
        refine OWp.extract rfl rfl rfl rfl ?_
        refine OWp.allocAt hh rfl rfl (fun H14 b14 hh => ?_)
        refine OWp.norm ?_
        first | refine OWp.storeAt (k := 0) hh rfl rfl rfl rfl rfl (fun H4 hh => ?_) | refine OWp.storeAt (k := 1) hh rfl rfl rfl rfl rfl (fun H4 hh => ?_) | refine OWp.storeAt (k := 2) hh rfl rfl rfl rfl rfl (fun H4 hh => ?_) | refine OWp.storeAt (k := 3) hh rfl rfl rfl rfl rfl (fun H4 hh => ?_) | refine OWp.storeAt (k := 4) hh rfl rfl rfl rfl rfl (fun H4 hh => ?_)
        simp only [List.set_cons_zero, List.set_cons_succ] at hh
        refine OWp.norm ?_
        refine OWp.assign rfl rfl ?_
        refine OWp.nil ?_
        refine ⟨still_all (L := [.pointer (some ((⟨c2, 0, none⟩ : Addr).add 3)), .pointer (some ((⟨c2, 0, none⟩ : Addr).add 1)), .pointer (some ((⟨c2, 0, none⟩ : Addr).add 2)), .pointer (some ((⟨c2, 0, none⟩ : Addr).add 0))]) rfl (by simp only [List.all_cons, List.all_nil, Bool.and_true, Bool.and_eq_true]; first | exact still_rowK hwS hh.keep hrow | exact ⟨still_rowK hwS hh.keep hrow, still_rowK hwS hh.keep hrow, still_rowK hwS hh.keep hrow, still_rowK hwS hh.keep hrow⟩), ?_⟩
        replace hrow := hrow.sees (hh.keep.sees hwS)
        replace hvw := hvw.sees (hh.keep.sees hwS)
        replace hh := hhA.join hh
        simp only [List.cons_append, List.nil_append] at hh
        refine CWp.seq ?_
        refine CWp.drawnM (by kernel_rfl) ?_
        have hhA := hh
        have hwS := hh.wf
        replace hh := Has.start hwS
        refine OWp.move rfl rfl ?_
        refine OWp.indexAddrSl1 rfl rfl Tryz.underlying33 hs9 rfl rfl (by omega) (by omega) ?_
        refine OWp.loadRow rfl rfl Tryz.underlying9 rfl rfl hrow (v := .string (⟨#[110, 97, 109, 101, 61]⟩ ++ bl nl)) rfl ?_
        refine OWp.catS rfl rfl rfl rfl (by first | omega | (simp only [size_app, sz_0, sz_1, sz_2, sz_3, sz_4, sz_5, sz_6, sz_8, sz_12, sz_15]; omega)) ?_
        refine OWp.catS rfl rfl rfl rfl (by first | omega | (simp only [size_app, sz_0, sz_1, sz_2, sz_3, sz_4, sz_5, sz_6, sz_8, sz_12, sz_15]; omega)) ?_
        refine OWp.move rfl rfl ?_
        refine OWp.indexAddrSl1 rfl rfl Tryz.underlying33 hs9 rfl rfl (by omega) (by omega) ?_
        refine OWp.loadRow rfl rfl Tryz.underlying9 rfl rfl hrow (v := .string KAPP) rfl ?_
        refine OWp.catS rfl rfl rfl rfl (by first | omega | (simp only [size_app, sz_0, sz_1, sz_2, sz_3, sz_4, sz_5, sz_6, sz_8, sz_12, sz_15]; omega)) ?_
        refine OWp.catS rfl rfl rfl rfl (by first | omega | (simp only [size_app, sz_0, sz_1, sz_2, sz_3, sz_4, sz_5, sz_6, sz_8, sz_12, sz_15]; omega)) ?_
        refine OWp.move rfl rfl ?_
        refine OWp.indexAddrSl1 rfl rfl Tryz.underlying33 hs9 rfl rfl (by omega) (by omega) ?_
        refine OWp.loadRow rfl rfl Tryz.underlying9 rfl rfl hrow (v := .string KAPP) rfl ?_
        refine OWp.catS rfl rfl rfl rfl (by first | omega | (simp only [size_app, sz_0, sz_1, sz_2, sz_3, sz_4, sz_5, sz_6, sz_8, sz_12, sz_15]; omega)) ?_
        refine OWp.call rfl rfl rfl rfl ?_
        refine read_spec _ (by first | omega | (simp only [size_app, sz_0, sz_1, sz_2, sz_3, sz_4, sz_5, sz_6, sz_8, sz_12, sz_15]; omega)) _ _ ?_ hh.wf
        intro H3 ac okc hk3 hr1 hr2
        replace hh := hh.after hk3
        obtain ⟨rfl, rfl⟩ := hr2 ((congrArg readS (strD nl)).trans (order_d hn))
        refine OWp.norm ?_
        refine OWp.move rfl rfl ?_
        refine OWp.extract rfl rfl rfl rfl ?_
        refine OWp.extract rfl rfl rfl rfl ?_
        refine OWp.allocAt hh rfl rfl (fun H16 b16 hh => ?_)
        refine OWp.norm ?_
        first | refine OWp.storeAt (k := 0) hh rfl rfl rfl rfl rfl (fun H4 hh => ?_) | refine OWp.storeAt (k := 1) hh rfl rfl rfl rfl rfl (fun H4 hh => ?_) | refine OWp.storeAt (k := 2) hh rfl rfl rfl rfl rfl (fun H4 hh => ?_) | refine OWp.storeAt (k := 3) hh rfl rfl rfl rfl rfl (fun H4 hh => ?_) | refine OWp.storeAt (k := 4) hh rfl rfl rfl rfl rfl (fun H4 hh => ?_)
        simp only [List.set_cons_zero, List.set_cons_succ] at hh
        refine OWp.norm ?_
        refine OWp.assign rfl rfl ?_
        refine OWp.nil ?_
        refine ⟨still_all (L := [.pointer (some ((⟨c2, 0, none⟩ : Addr).add 0)), .pointer (some ((⟨c2, 0, none⟩ : Addr).add 2)), .pointer (some ((⟨c2, 0, none⟩ : Addr).add 2))]) rfl (by simp only [List.all_cons, List.all_nil, Bool.and_true, Bool.and_eq_true]; first | exact still_rowK hwS hh.keep hrow | exact ⟨still_rowK hwS hh.keep hrow, still_rowK hwS hh.keep hrow, still_rowK hwS hh.keep hrow⟩), ?_⟩
        replace hrow := hrow.sees (hh.keep.sees hwS)
        replace hvw := hvw.sees (hh.keep.sees hwS)
        replace hh := hhA.join hh
        simp only [List.cons_append, List.nil_append] at hh
        refine CWp.seq ?_
        refine CWp.region ?_
        have hhA := hh
        have hwS := hh.wf
        replace hh := Has.start hwS
        refine OWp.move rfl rfl ?_
        refine OWp.catS rfl rfl rfl rfl (by first | omega | (simp only [size_app, sz_0, sz_1, sz_2, sz_3, sz_4, sz_5, sz_6, sz_8, sz_12, sz_15]; omega)) ?_
        refine OWp.catS rfl rfl rfl rfl (by first | omega | (simp only [size_app, sz_0, sz_1, sz_2, sz_3, sz_4, sz_5, sz_6, sz_8, sz_12, sz_15]; omega)) ?_
        refine OWp.move rfl rfl ?_
        refine OWp.catS rfl rfl rfl rfl (by first | omega | (simp only [size_app, sz_0, sz_1, sz_2, sz_3, sz_4, sz_5, sz_6, sz_8, sz_12, sz_15]; omega)) ?_
        refine OWp.catS rfl rfl rfl rfl (by first | omega | (simp only [size_app, sz_0, sz_1, sz_2, sz_3, sz_4, sz_5, sz_6, sz_8, sz_12, sz_15]; omega)) ?_
        refine OWp.call rfl rfl rfl rfl ?_
        refine read_spec _ (by first | omega | (simp only [size_app, sz_0, sz_1, sz_2, sz_3, sz_4, sz_5, sz_6, sz_8, sz_12, sz_15]; omega)) _ _ ?_ hh.wf
        intro H3 ad okd hk3 hr1 hr2
        replace hh := hh.after hk3
        obtain ⟨rfl, rfl⟩ := hr1 _ ((congrArg readS (strC hn hsl)).trans (order_c hn hsl))
        refine OWp.norm ?_
        refine OWp.move rfl rfl ?_
        refine OWp.extract rfl rfl rfl rfl ?_
        refine OWp.extract rfl rfl rfl rfl ?_
        refine OWp.allocAt hh rfl rfl (fun H18 b18 hh => ?_)
        refine OWp.norm ?_
        first | refine OWp.storeAt (k := 0) hh rfl rfl rfl rfl rfl (fun H4 hh => ?_) | refine OWp.storeAt (k := 1) hh rfl rfl rfl rfl rfl (fun H4 hh => ?_) | refine OWp.storeAt (k := 2) hh rfl rfl rfl rfl rfl (fun H4 hh => ?_) | refine OWp.storeAt (k := 3) hh rfl rfl rfl rfl rfl (fun H4 hh => ?_) | refine OWp.storeAt (k := 4) hh rfl rfl rfl rfl rfl (fun H4 hh => ?_)
        simp only [List.set_cons_zero, List.set_cons_succ] at hh
        refine OWp.norm ?_
        refine OWp.assign rfl rfl ?_
        replace hrow := hrow.sees (hh.keep.sees hwS)
        replace hvw := hvw.sees (hh.keep.sees hwS)
        replace hh := hhA.join hh
        simp only [List.cons_append, List.nil_append] at hh
        refine OWp.nil ?_
        refine CWp.seq ?_
        refine CWp.drawnM (by kernel_rfl) ?_
        have hhA := hh
        have hwS := hh.wf
        replace hh := Has.start hwS
        refine OWp.move rfl rfl ?_
        refine OWp.indexAddrSl1 rfl rfl Tryz.underlying33 hs9 rfl rfl (by omega) (by omega) ?_
        refine OWp.loadRow rfl rfl Tryz.underlying9 rfl rfl hrow (v := .string (⟨#[110, 97, 109, 101, 61]⟩ ++ bl nl)) rfl ?_
        refine OWp.catS rfl rfl rfl rfl (by first | omega | (simp only [size_app, sz_0, sz_1, sz_2, sz_3, sz_4, sz_5, sz_6, sz_8, sz_12, sz_15]; omega)) ?_
        refine OWp.catS rfl rfl rfl rfl (by first | omega | (simp only [size_app, sz_0, sz_1, sz_2, sz_3, sz_4, sz_5, sz_6, sz_8, sz_12, sz_15]; omega)) ?_
        refine OWp.move rfl rfl ?_
        refine OWp.call rfl rfl rfl rfl ?_
        refine madeV_spec l hl _ _ _ ?_ hvw hlen hh.wf
        intro Hm mm hkm hzm
        replace hh := hh.after hkm
        refine OWp.norm ?_
        refine OWp.catS rfl rfl rfl rfl (by first | omega | (simp only [size_app, sz_0, sz_1, sz_2, sz_3, sz_4, sz_5, sz_6, sz_8, sz_12, sz_15]; omega)) ?_
        refine OWp.catS rfl rfl rfl rfl (by first | omega | (simp only [size_app, sz_0, sz_1, sz_2, sz_3, sz_4, sz_5, sz_6, sz_8, sz_12, sz_15]; omega)) ?_
        refine OWp.call rfl rfl rfl rfl ?_
        refine read_spec _ (by first | omega | (simp only [size_app, sz_0, sz_1, sz_2, sz_3, sz_4, sz_5, sz_6, sz_8, sz_12, sz_15]; omega)) _ _ ?_ hh.wf
        intro H3 ae oke hk3 hr1 hr2
        replace hh := hh.after hk3
        obtain ⟨rfl, rfl⟩ := hr2 ((congrArg readS (strE nl mm)).trans order_e)
        refine OWp.norm ?_
        refine OWp.move rfl rfl ?_
        refine OWp.extract rfl rfl rfl rfl ?_
        refine OWp.extract rfl rfl rfl rfl ?_
        refine OWp.allocAt hh rfl rfl (fun H20 b20 hh => ?_)
        refine OWp.norm ?_
        first | refine OWp.storeAt (k := 0) hh rfl rfl rfl rfl rfl (fun H4 hh => ?_) | refine OWp.storeAt (k := 1) hh rfl rfl rfl rfl rfl (fun H4 hh => ?_) | refine OWp.storeAt (k := 2) hh rfl rfl rfl rfl rfl (fun H4 hh => ?_) | refine OWp.storeAt (k := 3) hh rfl rfl rfl rfl rfl (fun H4 hh => ?_) | refine OWp.storeAt (k := 4) hh rfl rfl rfl rfl rfl (fun H4 hh => ?_)
        simp only [List.set_cons_zero, List.set_cons_succ] at hh
        refine OWp.norm ?_
        refine OWp.assign rfl rfl ?_
        refine OWp.nil ?_
        refine ⟨still_all (L := [.pointer (some ((⟨c2, 0, none⟩ : Addr).add 0))]) rfl (by simp only [List.all_cons, List.all_nil, Bool.and_true, Bool.and_eq_true]; first | exact still_rowK hwS hh.keep hrow | exact ⟨still_rowK hwS hh.keep hrow⟩), ?_⟩
        replace hrow := hrow.sees (hh.keep.sees hwS)
        replace hvw := hvw.sees (hh.keep.sees hwS)
        replace hh := hhA.join hh
        simp only [List.cons_append, List.nil_append] at hh
        refine CWp.seq ?_
        refine CWp.region ?_
        refine OWp.move rfl rfl ?_
        refine OWp.move rfl rfl ?_
        refine OWp.move rfl rfl ?_
        refine OWp.pickT rfl rfl rfl ?_
        refine OWp.move rfl rfl ?_
        refine OWp.move rfl rfl ?_
        refine OWp.pickT rfl rfl rfl ?_
        refine OWp.move rfl rfl ?_
        refine OWp.move rfl rfl ?_
        first | refine OWp.notD rfl rfl rfl ?_ | refine OWp.notB rfl rfl rfl ?_
        refine OWp.pickT rfl rfl rfl ?_
        refine OWp.move rfl rfl ?_
        refine OWp.move rfl rfl ?_
        first | refine OWp.notD rfl rfl rfl ?_ | refine OWp.notB rfl rfl rfl ?_
        refine OWp.pickT rfl rfl rfl ?_
        refine OWp.move rfl rfl ?_
        first | refine OWp.loadAt (k := 0) hh rfl rfl rfl rfl ?_ | refine OWp.loadAt (k := 1) hh rfl rfl rfl rfl ?_ | refine OWp.loadAt (k := 2) hh rfl rfl rfl rfl ?_ | refine OWp.loadAt (k := 3) hh rfl rfl rfl rfl ?_ | refine OWp.loadAt (k := 4) hh rfl rfl rfl rfl ?_
        first | refine OWp.loadAt (k := 0) hh rfl rfl rfl rfl ?_ | refine OWp.loadAt (k := 1) hh rfl rfl rfl rfl ?_ | refine OWp.loadAt (k := 2) hh rfl rfl rfl rfl ?_ | refine OWp.loadAt (k := 3) hh rfl rfl rfl rfl ?_ | refine OWp.loadAt (k := 4) hh rfl rfl rfl rfl ?_
        refine OWp.eqAtT _ rfl rfl rfl rfl ?_
        refine OWp.pickT rfl rfl rfl ?_
        refine OWp.move rfl rfl ?_
        first | refine OWp.loadAt (k := 0) hh rfl rfl rfl rfl ?_ | refine OWp.loadAt (k := 1) hh rfl rfl rfl rfl ?_ | refine OWp.loadAt (k := 2) hh rfl rfl rfl rfl ?_ | refine OWp.loadAt (k := 3) hh rfl rfl rfl rfl ?_ | refine OWp.loadAt (k := 4) hh rfl rfl rfl rfl ?_
        first | refine OWp.loadAt (k := 0) hh rfl rfl rfl rfl ?_ | refine OWp.loadAt (k := 1) hh rfl rfl rfl rfl ?_ | refine OWp.loadAt (k := 2) hh rfl rfl rfl rfl ?_ | refine OWp.loadAt (k := 3) hh rfl rfl rfl rfl ?_ | refine OWp.loadAt (k := 4) hh rfl rfl rfl rfl ?_
        refine OWp.eqAtT _ rfl rfl rfl rfl ?_
        refine OWp.pickT rfl rfl rfl ?_
        refine OWp.move rfl rfl ?_
        first | refine OWp.loadAt (k := 0) hh rfl rfl rfl rfl ?_ | refine OWp.loadAt (k := 1) hh rfl rfl rfl rfl ?_ | refine OWp.loadAt (k := 2) hh rfl rfl rfl rfl ?_ | refine OWp.loadAt (k := 3) hh rfl rfl rfl rfl ?_ | refine OWp.loadAt (k := 4) hh rfl rfl rfl rfl ?_
        refine OWp.move rfl rfl ?_
        refine OWp.move rfl rfl ?_
        refine OWp.buildAt (ordA nl sl) rfl rfl rfl (by kernel_rfl) ?_
        refine OWp.eqAtT _ rfl rfl rfl rfl ?_
        refine OWp.pickT rfl rfl rfl ?_
        refine OWp.move rfl rfl ?_
        refine OWp.call rfl rfl rfl rfl ?_
        refine known_spec _ _ ?_
        refine OWp.norm ?_
        refine OWp.pickT rfl rfl rfl ?_
        refine OWp.assign rfl rfl ?_
        refine OWp.nil ?_
        refine CWp.ret ?_
        refine RetQ.one (by first | exact .inl rfl | exact .inr rfl) rfl rfl ?_
        exact h _

end Go.Proofs.YtnlkgnoogcakjaaGreatDoor.Ev
