import Derived.Test.YtnlkgnoogcakjaaGreatDoorEvRepl
namespace Go.Proofs.YtnlkgnoogcakjaaGreatDoor.Ev
open Go
set_option linter.unusedVariables false
set_option linter.unusedSimpArgs false
set_option maxHeartbeats 4000000
set_option maxRecDepth 20000
theorem count0_spec (s : ByteArray) (x : UInt8) (H : AH) (Q : Value → AH → Prop) (h : Q (.int .i64 (s.data.toList.count x : Nat)) H) : FWp Tryz.prog prims0 139 [.string s, .string ⟨#[x]⟩] H Q :=
  FWp.prim (g := primCount) rfl (by simp only [primCount]; rw [if_pos (show (⟨#[x]⟩ : ByteArray).size = 1 from rfl)]; rfl) h
theorem tr_get (j : Nat) (h : j < 2) : ∃ x : UInt8, ([.string ⟨#[34]⟩, .string ⟨#[92]⟩] : List Value)[j]? = some (.string ⟨#[x]⟩) ∧ ((j = 0 ∧ x = 34) ∨ (j = 1 ∧ x = 92)) := by
  match j, h with
  | 0, _ => exact ⟨34, rfl, .inl ⟨rfl, rfl⟩⟩
  | 1, _ => exact ⟨92, rfl, .inr ⟨rfl, rfl⟩⟩
theorem nn_step {z a b nn j c : Nat} (hnn : nn = z + (if 0 < j then a else 0) + (if 1 < j then b else 0)) (h : (j = 0 ∧ c = a) ∨ (j = 1 ∧ c = b)) : nn + c = z + (if 0 < j + 1 then a else 0) + (if 1 < j + 1 then b else 0) := by
  rcases h with ⟨rfl, rfl⟩ | ⟨rfl, rfl⟩ <;> simp at hnn ⊢ <;> omega
theorem nn_le {z a b nn j : Nat} (hnn : nn = z + (if 0 < j then a else 0) + (if 1 < j then b else 0)) : nn ≤ z + a + b ∧ z ≤ nn := by
  split at hnn <;> split at hnn <;> omega
theorem nn_two {z a b nn : Nat} (hnn : nn = z + (if 0 < 2 then a else 0) + (if 1 < 2 then b else 0)) : nn = z + (a + b) := by
  simp at hnn; omega
theorem take_snoc {l : List UInt8} {i : Nat} {b : UInt8} (h : l[i]? = some b) : l.take (i + 1) = l.take i ++ [b] := by
  have hlt := (List.getElem?_eq_some_iff.1 h).1
  rw [List.take_succ_eq_append_getElem hlt, (List.getElem?_eq_some_iff.1 h).2]
theorem esc_step {l : List UInt8} {i : Nat} {b : UInt8} (h : l[i]? = some b) : escL (l.take (i + 1)) = escL (l.take i) ++ (if b = 34 ∨ b = 92 then [92, b] else [b]) ∧ (escL (l.take (i + 1))).length ≤ (escL l).length := by
  refine ⟨?_, ?_⟩
  · rw [take_snoc h, escL_app]
    simp only [escL]
  · have : escL l = escL (l.take (i + 1)) ++ escL (l.drop (i + 1)) := by rw [← escL_app, List.take_append_drop]
    rw [this, List.length_append]
    omega
theorem cnt_step {l : List UInt8} {i : Nat} {b : UInt8} (h : l[i]? = some b) : cntE (l.take (i + 1)) = cntE (l.take i) + (if b = 34 ∨ b = 92 then 1 else 0) := by
  rw [take_snoc h, cntE_app]
  simp only [cntE]
theorem write_at {D : Array Value} {j : Nat} {A vs : List Value} (h : D.toList.take j = A) (hA : A.length = j) (hle : j + vs.length ≤ D.size) : (writeCells D j vs).toList.take (j + vs.length) = A ++ vs ∧ (writeCells D j vs).size = D.size := by
  refine ⟨?_, writeCells_size vs D j⟩
  apply List.ext_getElem?
  intro x
  rw [List.getElem?_take]
  by_cases hx : x < j + vs.length
  · rw [if_pos hx, Array.getElem?_toList, writeCells_get vs D j x hle]
    by_cases h1 : j ≤ x
    · rw [if_pos ⟨h1, hx⟩, List.getElem?_append_right (by omega), hA]
    · rw [if_neg (by omega), List.getElem?_append_left (by omega), ← h, List.getElem?_take, if_pos (by omega), Array.getElem?_toList]
  · rw [if_neg hx, List.getElem?_eq_none (by rw [List.length_append]; omega)]
theorem still_old {H Hs H1 : AH} {qb x off : Nat} {C : Array Value} {e : TypeId} {f : Nat × Nat} (hw : WfH H) (hcs : H.cells qb = some (C, e, f)) (k : Keeps H Hs) (hx : H.next ≤ x) (hK : KX x Hs H1) : stillB Hs H1 (.pointer (some ⟨qb, off, none⟩)) = true := by
  unfold AH.cells at hcs
  split at hcs
  case h_2 => cases hcs
  rename_i b hb
  have hlt := hw.lt _ _ hb
  have h1 := (k.blk qb hlt.1).trans hb
  have h2 := hK.1 qb b (by omega) h1
  have h3 := hK.2 qb b (by omega) h1 (by omega)
  have h4 := k.grp qb b hb
  simp only [stillB, h1, h2]
  split at hcs
  · rename_i hl _
    rw [Bool.and_eq_true]
    refine ⟨by simp, ?_⟩
    unfold AH.live at hl ⊢
    rw [h3, h4]
    exact hl
  · cases hcs

theorem repl_spec (s : ByteArray) (hs : s.size ≤ 9000000) (qb : Nat) (H : AH) (Q : Value → AH → Prop) (h : ∀ H', Q (.string (bl (escL s.data.toList))) H') (hr : RepOk H qb) : FWp Tryz.prog prims0 137 [.pointer (some ⟨qb, 0, none⟩), .string s] H Q := by
  obtain ⟨hw, C, e0, f0, hcs, ⟨ar, cr, htr, hrw⟩, htab⟩ := hr
  have hh := Has.start hw
  have hs22 : szT Tryz.prog 22 = 1 := by kernel_rfl
  have hs33 : szT Tryz.prog 33 = 1 := by kernel_rfl
  have hs9 : szT Tryz.prog 9 = 1 := by kernel_rfl
  have hs5 : szT Tryz.prog 5 = 1 := by kernel_rfl
  have hsA : szT Tryz.prog 127 = 256 := by kernel_rfl
  have hE : elemT Tryz.prog 22 = some 5 := by kernel_rfl
  have hz5 : zeroT Tryz.prog 5 = some (.int .u8 0) := by kernel_rfl
  have hb5 : bytesT Tryz.prog 5 = 1 := by kernel_rfl
  have hcl := cntE_le s.data.toList
  rw [len_size] at hcl
  have hel := escL_length s.data.toList
  rw [len_size] at hel
  have hc2 : s.data.toList.count 34 + s.data.toList.count 92 ≤ s.size := by rw [← cntE_count]; exact hcl
  refine FWp.enter (rfl) Tryz.func137 rfl (e := [.pointer (some ⟨qb, 0, none⟩), .string s, undef, undef, undef, undef, undef, undef, undef, undef, undef, undef, undef, undef, undef, undef, undef, undef, undef, undef, undef, undef, undef, undef, undef, undef, undef, undef, undef, undef, undef, undef, undef, undef, undef, undef, undef, undef, undef, undef, undef, undef, undef, undef, undef, undef, undef, undef, undef, undef, undef, undef, undef, undef, undef, undef, undef, undef, undef, undef, undef, undef, undef, undef, undef, undef, undef, undef, undef, undef, undef, undef, undef, undef, undef, undef, undef, undef, undef, undef, undef, undef, undef, undef, undef, undef, undef, undef, undef, undef, undef, undef, undef, undef, undef, undef, undef, undef, undef, undef, undef, undef, undef, undef, undef, undef, undef, undef, undef, undef, undef, undef, undef, undef, undef, undef, undef, undef, undef, undef, undef, undef]) rfl ?_
  refine CWp.seq ?_
  refine CWp.region ?_
  refine OWp.assign rfl rfl ?_
  refine OWp.nil ?_
  refine CWp.seq ?_
  refine CWp.region ?_
  refine OWp.move rfl rfl ?_
  refine OWp.lenS rfl rfl rfl rfl rfl Tryz.underlying9 rfl ?_
  refine OWp.assign rfl rfl ?_
  refine OWp.nil ?_
  refine CWp.seq ?_
  refine CWp.region ?_
  refine OWp.assign rfl rfl ?_
  refine OWp.nil ?_
  refine CWp.cut (fun e H' => ∃ (any : Bool) (g : Nat → Value), e = [.pointer (some ⟨qb, 0, none⟩), .string s, g 2, g 3, g 4, .int .i64 (s.size + cntE s.data.toList : Nat), .bool any, g 7, g 8, g 9, g 10, g 11, g 12, g 13, g 14, g 15, g 16, g 17, g 18, g 19, g 20, g 21, g 22, g 23, g 24, g 25, g 26, g 27, g 28, g 29, g 30, g 31, g 32, g 33, g 34, g 35, g 36, g 37, g 38, g 39, g 40, g 41, g 42, g 43, g 44, g 45, g 46, g 47, g 48, g 49, g 50, g 51, g 52, g 53, g 54, g 55, g 56, g 57, g 58, g 59, g 60, g 61, g 62, g 63, g 64, g 65, g 66, g 67, g 68, g 69, g 70, g 71, g 72, g 73, g 74, g 75, g 76, g 77, g 78, g 79, g 80, g 81, g 82, g 83, g 84, g 85, g 86, g 87, g 88, g 89, g 90, g 91, g 92, g 93, g 94, g 95, g 96, g 97, g 98, g 99, g 100, g 101, g 102, g 103, g 104, g 105, g 106, g 107, g 108, g 109, g 110, g 111, g 112, g 113, g 114, g 115, g 116, g 117, g 118, g 119, g 120, g 121] ∧ Has H H' [] ∧ (any = true ↔ ¬ cntE s.data.toList = 0)) ?_ ?_
  · skip
    refine CWp.seq ?_
    refine CWp.region ?_
    refine OWp.move rfl rfl ?_
    refine OWp.nilCheck rfl rfl rfl ?_
    refine OWp.fieldC (m := 256) rfl rfl Tryz.underlying129 rfl (by show szT Tryz.prog 33 ≠ 0; rw [hs33]; decide) rfl rfl ?_
    refine OWp.loadCell (hh.keep.sees hw _ _ hcs) rfl rfl rfl Tryz.underlying33 rfl htr ?_
    refine OWp.lenSl rfl rfl rfl rfl rfl Tryz.underlying33 rfl ?_
    refine OWp.mulI rfl rfl rfl rfl (by omega) ?_
    refine OWp.move rfl rfl ?_
    refine OWp.lenS rfl rfl rfl rfl rfl Tryz.underlying9 rfl ?_
    refine OWp.binI rfl rfl rfl rfl rfl ?_
    refine OWp.nil ?_
    first | refine CWp.condP rfl (fun h0 => ?_) (fun h0 => ?_) | refine CWp.cond rfl (fun h0 => ?_) (fun h0 => ?_)
    · skip
      first | rw [decide_eq_true h0] | rw [decide_eq_false h0] | rw [h0] | skip
      refine CWp.seq ?_
      refine CWp.region ?_
      refine OWp.move rfl rfl ?_
      refine OWp.nilCheck rfl rfl rfl ?_
      refine OWp.fieldC (m := 256) rfl rfl Tryz.underlying129 rfl (by show szT Tryz.prog 33 ≠ 0; rw [hs33]; decide) rfl rfl ?_
      refine OWp.loadCell (hh.keep.sees hw _ _ hcs) rfl rfl rfl Tryz.underlying33 rfl htr ?_
      refine OWp.lenSl rfl rfl rfl rfl rfl Tryz.underlying33 rfl ?_
      refine OWp.move rfl rfl ?_
      refine OWp.nil ?_
      refine CWp.block ?_
      refine CWp.loop (fun k e H' => ∃ (nn j : Nat) (any : Bool) (g : Nat → Value), e = [.pointer (some ⟨qb, 0, none⟩), .string s, g 2, g 3, g 4, .int .i64 (nn : Nat), .bool any, g 7, g 8, g 9, g 10, g 11, g 12, g 13, g 14, g 15, g 16, g 17, g 18, g 19, g 20, g 21, g 22, g 23, g 24, g 25, g 26, g 27, g 28, g 29, .slice (some ar) 2 cr, .int .i64 (2 : Nat), .int .i64 (j : Nat), g 33, g 34, g 35, g 36, g 37, g 38, g 39, g 40, g 41, g 42, g 43, g 44, g 45, g 46, g 47, g 48, g 49, g 50, g 51, g 52, g 53, g 54, g 55, g 56, g 57, g 58, g 59, g 60, g 61, g 62, g 63, g 64, g 65, g 66, g 67, g 68, g 69, g 70, g 71, g 72, g 73, g 74, g 75, g 76, g 77, g 78, g 79, g 80, g 81, g 82, g 83, g 84, g 85, g 86, g 87, g 88, g 89, g 90, g 91, g 92, g 93, g 94, g 95, g 96, g 97, g 98, g 99, g 100, g 101, g 102, g 103, g 104, g 105, g 106, g 107, g 108, g 109, g 110, g 111, g 112, g 113, g 114, g 115, g 116, g 117, g 118, g 119, g 120, g 121] ∧ k = 2 - j ∧ Has H H' [] ∧ j ≤ 2 ∧ nn = s.size + (if 0 < j then s.data.toList.count 34 else 0) + (if 1 < j then s.data.toList.count 92 else 0) ∧ (any = true ↔ ¬ nn = s.size)) ?_ ?_
      · exact ⟨_, s.size, 0, false, ex_env rfl ⟨rfl, hh, by omega, by simp, by simp⟩⟩
      · rintro k e H' ⟨nn, j, any, g, rfl, rfl, hh, hj, hnn, hany⟩
        have hnl := nn_le hnn
        refine CWp.seq ?_
        refine CWp.region ?_
        refine OWp.binI rfl rfl rfl rfl rfl ?_
        refine OWp.nil ?_
        refine CWp.seq ?_
        first | refine CWp.condP rfl (fun h2 => ?_) (fun h2 => ?_) | refine CWp.cond rfl (fun h2 => ?_) (fun h2 => ?_)
        · skip
          obtain ⟨x, hx, hxc⟩ := tr_get j (by omega)
          have hxd : (j = 0 ∧ s.data.toList.count x = s.data.toList.count 34) ∨ (j = 1 ∧ s.data.toList.count x = s.data.toList.count 92) := by rcases hxc with ⟨e1, rfl⟩ | ⟨e1, rfl⟩; exact .inl ⟨e1, rfl⟩; exact .inr ⟨e1, rfl⟩
          first | rw [decide_eq_true h2] | rw [decide_eq_false h2] | rw [h2] | skip
          refine CWp.skip ?_
          refine CWp.seq ?_
          refine CWp.block ?_
          refine CWp.seq ?_
          refine CWp.region ?_
          refine OWp.indexAddrSl1 rfl rfl Tryz.underlying33 hs9 rfl rfl (by omega) (by omega) ?_
          refine OWp.loadRow rfl rfl Tryz.underlying9 rfl rfl (hrw.sees (hh.keep.sees hw)) hx ?_
          refine OWp.assign rfl rfl ?_
          refine OWp.nil ?_
          refine CWp.seq ?_
          refine CWp.region ?_
          refine OWp.move rfl rfl ?_
          refine OWp.move rfl rfl ?_
          refine OWp.call rfl rfl rfl rfl ?_
          refine count0_spec s x _ _ ?_
          refine OWp.norm ?_
          refine OWp.assign rfl rfl ?_
          refine OWp.nil ?_
          refine CWp.seq ?_
          refine CWp.region ?_
          refine OWp.move rfl rfl ?_
          refine OWp.binI rfl rfl rfl rfl rfl ?_
          refine OWp.nil ?_
          first | refine CWp.condP rfl (fun h3 => ?_) (fun h3 => ?_) | refine CWp.cond rfl (fun h3 => ?_) (fun h3 => ?_)
          · skip
            have hsz1 : (⟨#[x]⟩ : ByteArray).size = 1 := rfl
            have hbx : byteAt ⟨#[x]⟩ 0 = ((x.toNat : Nat) : Int) := rfl
            obtain ⟨ax, hax, hrx⟩ : ∃ a, C[x.toNat]? = some (.slice (some a) 2 2) ∧ Row H (some a) [.int .u8 (92 : Nat), .int .u8 (x.toNat : Nat)] := by
              rcases htab x.toNat x.toNat_lt with ⟨_, h9⟩ | ⟨h9, _⟩
              · exact h9
              · exact absurd (by rcases hxc with ⟨_, rfl⟩ | ⟨_, rfl⟩; exact .inl rfl; exact .inr rfl) h9
            have hcx : s.data.toList.count x ≤ s.size := by rw [← len_size]; exact List.count_le_length
            first | rw [decide_eq_true h3] | rw [decide_eq_false h3] | rw [h3] | skip
            refine CWp.seq ?_
            refine CWp.drawn (by kernel_rfl) ?_
            refine OWp.move rfl rfl ?_
            refine OWp.move rfl rfl ?_
            refine OWp.move rfl rfl ?_
            refine OWp.move rfl rfl ?_
            refine OWp.indexS rfl rfl Tryz.underlying9 rfl rfl (by omega) (by omega) ?_
            refine OWp.nilCheck rfl rfl rfl ?_
            refine OWp.fieldC (m := 0) rfl rfl Tryz.underlying129 rfl (by show szT Tryz.prog 127 ≠ 0; rw [hsA]; decide) rfl rfl ?_
            refine OWp.indexAddrArr (m := x.toNat) rfl rfl Tryz.underlying127 hs22 rfl rfl (by rw [hbx]; omega) (by rw [hbx]; have := x.toNat_lt; omega) (by rw [hbx]; omega) ?_
            refine OWp.loadCell (hh.keep.sees hw _ _ hcs) rfl rfl rfl Tryz.underlying22 rfl hax ?_
            refine OWp.lenSl rfl rfl rfl rfl rfl Tryz.underlying22 rfl ?_
            refine OWp.subI rfl rfl rfl rfl (by omega) ?_
            refine OWp.mulI rfl rfl rfl rfl (by omega) ?_
            refine OWp.addI rfl rfl rfl rfl (by omega) ?_
            rw [show ((nn : Nat) : Int) + (s.data.toList.count x : Nat) * (((2 : Nat) : Int) - 1) = ((nn + s.data.toList.count x : Nat) : Int) by omega]
            refine OWp.assign rfl rfl ?_
            refine OWp.nil ?_
            refine CWp.region ?_
            refine OWp.assign rfl rfl ?_
            refine OWp.nil ?_
            refine CWp.region ?_
            refine OWp.addI rfl rfl rfl rfl (by omega) ?_
            refine OWp.move rfl rfl ?_
            refine OWp.nil ?_
            exact ⟨_, by omega, nn + s.data.toList.count x, j + 1, true, ex_env rfl ⟨rfl, hh, by omega, nn_step hnn hxd, ⟨fun _ => (by omega), fun _ => rfl⟩⟩⟩
          · skip
            first | rw [decide_eq_true h3] | rw [decide_eq_false h3] | rw [h3] | skip
            refine CWp.skip ?_
            refine CWp.region ?_
            refine OWp.addI rfl rfl rfl rfl (by omega) ?_
            refine OWp.move rfl rfl ?_
            refine OWp.nil ?_
            exact ⟨_, by omega, nn, j + 1, any, ex_env rfl ⟨rfl, hh, by omega, (by have := nn_step hnn hxd; omega), hany⟩⟩
        · skip
          first | rw [decide_eq_true h2] | rw [decide_eq_false h2] | rw [h2] | skip
          refine CWp.exit ?_
          obtain rfl : nn = s.size + cntE s.data.toList := by
            have e2 : j = 2 := by omega
            subst e2
            rw [nn_two hnn, cntE_count]
          exact ⟨any, ex_env rfl ⟨hh, hany.trans (by omega)⟩⟩
    · skip
      first | rw [decide_eq_true h0] | rw [decide_eq_false h0] | rw [h0] | skip
      refine CWp.seq ?_
      refine CWp.region ?_
      refine OWp.assign rfl rfl ?_
      refine OWp.nil ?_
      refine CWp.block ?_
      refine CWp.loop (fun k e H' => ∃ (nn i : Nat) (any : Bool) (g : Nat → Value), e = [.pointer (some ⟨qb, 0, none⟩), .string s, g 2, g 3, g 4, .int .i64 (nn : Nat), .bool any, g 7, g 8, g 9, .int .i64 (i : Nat), g 11, g 12, g 13, g 14, g 15, g 16, g 17, g 18, g 19, g 20, g 21, g 22, g 23, g 24, g 25, g 26, g 27, g 28, g 29, g 30, g 31, g 32, g 33, g 34, g 35, g 36, g 37, g 38, g 39, g 40, g 41, g 42, g 43, g 44, g 45, g 46, g 47, g 48, g 49, g 50, g 51, g 52, g 53, g 54, g 55, g 56, g 57, g 58, g 59, g 60, g 61, g 62, g 63, g 64, g 65, g 66, g 67, g 68, g 69, g 70, g 71, g 72, g 73, g 74, g 75, g 76, g 77, g 78, g 79, g 80, g 81, g 82, g 83, g 84, g 85, g 86, g 87, g 88, g 89, g 90, g 91, g 92, g 93, g 94, g 95, g 96, g 97, g 98, g 99, g 100, g 101, g 102, g 103, g 104, g 105, g 106, g 107, g 108, g 109, g 110, g 111, g 112, g 113, g 114, g 115, g 116, g 117, g 118, g 119, g 120, g 121] ∧ k = s.size - i ∧ Has H H' [] ∧ i ≤ s.size ∧ nn = s.size + cntE (s.data.toList.take i) ∧ (any = true ↔ ¬ nn = s.size)) ?_ ?_
      · exact ⟨_, s.size, 0, false, ex_env rfl ⟨rfl, hh, by omega, by simp [cntE], by simp⟩⟩
      · rintro k e H' ⟨nn, i, any, g, rfl, rfl, hh, hi, hnn, hany⟩
        have hct := cntE_le (s.data.toList.take i)
        rw [List.length_take] at hct
        refine CWp.seq ?_
        refine CWp.seq ?_
        refine CWp.region ?_
        refine OWp.move rfl rfl ?_
        refine OWp.move rfl rfl ?_
        refine OWp.lenS rfl rfl rfl rfl rfl Tryz.underlying9 rfl ?_
        refine OWp.binI rfl rfl rfl rfl rfl ?_
        refine OWp.nil ?_
        first | refine CWp.condP rfl (fun h2 => ?_) (fun h2 => ?_) | refine CWp.cond rfl (fun h2 => ?_) (fun h2 => ?_)
        · skip
          obtain ⟨bb, hb1, hbb⟩ := byteAt_some s i (by omega)
          have hb1x := hb1
          obtain ⟨vv, sp, hvv, hcase, hsp⟩ : ∃ vv sp, C[bb.toNat]? = some vv ∧ ((vv = .slice none 0 0 ∧ sp = false) ∨ ∃ a n c, vv = .slice (some a) n c ∧ sp = true) ∧ (sp = true → ∃ a, vv = .slice (some a) 2 2 ∧ Row H (some a) [.int .u8 (92 : Nat), .int .u8 (bb.toNat : Nat)] ∧ (bb = 34 ∨ bb = 92)) ∧ (sp = false → ¬ (bb = 34 ∨ bb = 92)) := by
            rcases htab bb.toNat bb.toNat_lt with ⟨h9, a, h10, h11⟩ | ⟨h9, h10⟩
            · exact ⟨_, true, h10, .inr ⟨a, 2, 2, rfl, rfl⟩, fun _ => ⟨a, rfl, h11, by rcases h9 with h9 | h9; exact .inl (UInt8.toNat.inj h9); exact .inr (UInt8.toNat.inj h9)⟩, fun e => (by cases e)⟩
            · exact ⟨_, false, h10, .inl ⟨rfl, rfl⟩, fun e => (by cases e), fun _ hc => h9 (by rcases hc with rfl | rfl; exact .inl rfl; exact .inr rfl)⟩
          first | rw [decide_eq_true h2] | rw [decide_eq_false h2] | rw [h2] | skip
          refine CWp.skip ?_
          refine CWp.seq ?_
          refine CWp.block ?_
          refine CWp.seq ?_
          refine CWp.region ?_
          refine OWp.move rfl rfl ?_
          refine OWp.move rfl rfl ?_
          refine OWp.indexS rfl rfl Tryz.underlying9 rfl rfl (by omega) (by omega) ?_
          refine OWp.assign rfl rfl ?_
          refine OWp.nil ?_
          refine CWp.seq ?_
          refine CWp.region ?_
          refine OWp.move rfl rfl ?_
          refine OWp.move rfl rfl ?_
          refine OWp.nilCheck rfl rfl rfl ?_
          refine OWp.fieldC (m := 0) rfl rfl Tryz.underlying129 rfl (by show szT Tryz.prog 127 ≠ 0; rw [hsA]; decide) rfl rfl ?_
          refine OWp.indexAddrArr (m := bb.toNat) rfl rfl Tryz.underlying127 hs22 rfl rfl (by rw [hbb]; omega) (by rw [hbb]; have := bb.toNat_lt; omega) (by rw [hbb]; omega) ?_
          refine OWp.loadCell (hh.keep.sees hw _ _ hcs) rfl rfl rfl Tryz.underlying22 rfl hvv ?_
          refine OWp.neNil (b := sp) rfl rfl rfl hcase ?_
          refine OWp.nil ?_
          first | refine CWp.condP rfl (fun h3 => ?_) (fun h3 => ?_) | refine CWp.cond rfl (fun h3 => ?_) (fun h3 => ?_)
          · skip
            obtain ⟨ax, rfl, hrx, hs34⟩ := hsp.1 h3
            first | rw [decide_eq_true h3] | rw [decide_eq_false h3] | rw [h3] | skip
            refine CWp.seq ?_
            refine CWp.region ?_
            refine OWp.move rfl rfl ?_
            refine OWp.move rfl rfl ?_
            refine OWp.move rfl rfl ?_
            refine OWp.nilCheck rfl rfl rfl ?_
            refine OWp.fieldC (m := 0) rfl rfl Tryz.underlying129 rfl (by show szT Tryz.prog 127 ≠ 0; rw [hsA]; decide) rfl rfl ?_
            refine OWp.indexAddrArr (m := bb.toNat) rfl rfl Tryz.underlying127 hs22 rfl rfl (by rw [hbb]; omega) (by rw [hbb]; have := bb.toNat_lt; omega) (by rw [hbb]; omega) ?_
            refine OWp.loadCell (hh.keep.sees hw _ _ hcs) rfl rfl rfl Tryz.underlying22 rfl hvv ?_
            refine OWp.lenSl rfl rfl rfl rfl rfl Tryz.underlying22 rfl ?_
            refine OWp.subI rfl rfl rfl rfl (by omega) ?_
            refine OWp.addI rfl rfl rfl rfl (by omega) ?_
            rw [show ((nn : Nat) : Int) + (((2 : Nat) : Int) - 1) = ((nn + 1 : Nat) : Int) by omega]
            refine OWp.assign rfl rfl ?_
            refine OWp.nil ?_
            refine CWp.region ?_
            refine OWp.assign rfl rfl ?_
            refine OWp.nil ?_
            refine CWp.region ?_
            refine OWp.move rfl rfl ?_
            refine OWp.addI rfl rfl rfl rfl (by omega) ?_
            refine OWp.assign rfl rfl ?_
            refine OWp.nil ?_
            exact ⟨_, by omega, nn + 1, i + 1, true, ex_env rfl ⟨rfl, hh, by omega, (by rw [cnt_step hb1, if_pos hs34]; omega), ⟨fun _ => (by omega), fun _ => rfl⟩⟩⟩
          · skip
            first | rw [decide_eq_true h3] | rw [decide_eq_false h3] | rw [h3] | skip
            refine CWp.skip ?_
            refine CWp.region ?_
            refine OWp.move rfl rfl ?_
            refine OWp.addI rfl rfl rfl rfl (by omega) ?_
            refine OWp.assign rfl rfl ?_
            refine OWp.nil ?_
            exact ⟨_, by omega, nn, i + 1, any, ex_env rfl ⟨rfl, hh, by omega, (by rw [cnt_step hb1, if_neg (hsp.2 h3)]; omega), hany⟩⟩
        · skip
          first | rw [decide_eq_true h2] | rw [decide_eq_false h2] | rw [h2] | skip
          refine CWp.exit ?_
          obtain rfl : nn = s.size + cntE s.data.toList := by
            rw [hnn, List.take_of_length_le (by rw [len_size]; omega)]
          exact ⟨any, ex_env rfl ⟨hh, hany.trans (by omega)⟩⟩
  · rintro e H' ⟨any, g, rfl, hh, hany⟩
    refine CWp.seq ?_
    refine CWp.seq ?_
    refine CWp.region ?_
    refine OWp.move rfl rfl ?_
    first | refine OWp.notD rfl rfl rfl ?_ | refine OWp.notB rfl rfl rfl ?_
    refine OWp.nil ?_
    first | refine CWp.condP rfl (fun h3 => ?_) (fun h3 => ?_) | refine CWp.cond rfl (fun h3 => ?_) (fun h3 => ?_)
    · skip
      first | rw [decide_eq_true h3] | rw [decide_eq_false h3] | rw [h3] | skip
      refine CWp.seq ?_
      refine CWp.region ?_
      refine OWp.move rfl rfl ?_
      refine OWp.assign rfl rfl ?_
      refine OWp.nil ?_
      refine CWp.ret ?_
      refine RetQ.one (by first | exact .inl rfl | exact .inr rfl) rfl rfl ?_
      have h9 := h H'
      rw [escL_none _ (by simp_all), ← bl_of (t := s) rfl] at h9
      exact h9
    · skip
      first | rw [decide_eq_true h3] | rw [decide_eq_false h3] | rw [h3] | skip
      refine CWp.skip ?_
      refine CWp.seq ?_
      refine CWp.region ?_
      refine OWp.move rfl rfl ?_
      refine OWp.makeSl hh rfl rfl rfl rfl hE hz5 hs5 rfl hb5 (Nat.le_refl _) (by omega) (fun H2 cb D hD hh => ?_)
      refine OWp.norm ?_
      refine OWp.assign rfl rfl ?_
      refine OWp.nil ?_
      refine CWp.seq ?_
      refine CWp.region ?_
      refine OWp.assign rfl rfl ?_
      refine OWp.nil ?_
      refine CWp.seq ?_
      refine CWp.seq ?_
      refine CWp.region ?_
      refine OWp.assign rfl rfl ?_
      refine OWp.nil ?_
      refine CWp.block ?_
      refine CWp.loop (fun k e H' => ∃ (D : Array Value) (i : Nat) (g : Nat → Value), e = [.pointer (some ⟨qb, 0, none⟩), .string s, g 2, g 3, g 4, g 5, g 6, g 7, g 8, g 9, g 10, g 11, .slice (some ⟨cb, 0, none⟩) (s.size + cntE s.data.toList) (s.size + cntE s.data.toList), .int .i64 ((escL (s.data.toList.take i)).length : Nat), .int .i64 (i : Nat), g 15, g 16, g 17, g 18, g 19, g 20, g 21, g 22, g 23, g 24, g 25, g 26, g 27, g 28, g 29, g 30, g 31, g 32, g 33, g 34, g 35, g 36, g 37, g 38, g 39, g 40, g 41, g 42, g 43, g 44, g 45, g 46, g 47, g 48, g 49, g 50, g 51, g 52, g 53, g 54, g 55, g 56, g 57, g 58, g 59, g 60, g 61, g 62, g 63, g 64, g 65, g 66, g 67, g 68, g 69, g 70, g 71, g 72, g 73, g 74, g 75, g 76, g 77, g 78, g 79, g 80, g 81, g 82, g 83, g 84, g 85, g 86, g 87, g 88, g 89, g 90, g 91, g 92, g 93, g 94, g 95, g 96, g 97, g 98, g 99, g 100, g 101, g 102, g 103, g 104, g 105, g 106, g 107, g 108, g 109, g 110, g 111, g 112, g 113, g 114, g 115, g 116, g 117, g 118, g 119, g 120, g 121] ∧ k = s.size - i ∧ Has H H' [(cb, .cells D 5 (0, 0))] ∧ i ≤ s.size ∧ D.size = s.size + cntE s.data.toList ∧ D.toList.take (escL (s.data.toList.take i)).length = bytesV (escL (s.data.toList.take i))) ?_ ?_
      · exact ⟨_, D, 0, ex_env rfl ⟨rfl, hh, by omega, hD, rfl⟩⟩
      · rintro k e H' ⟨D, i, g, rfl, rfl, hh, hi, hD, hDt⟩
        have hcb := (hh.get (k := 0) rfl).1
        refine CWp.seq ?_
        refine CWp.seq ?_
        refine CWp.region ?_
        refine OWp.move rfl rfl ?_
        refine OWp.move rfl rfl ?_
        refine OWp.lenS rfl rfl rfl rfl rfl Tryz.underlying9 rfl ?_
        refine OWp.binI rfl rfl rfl rfl rfl ?_
        refine OWp.nil ?_
        first | refine CWp.condP rfl (fun h5 => ?_) (fun h5 => ?_) | refine CWp.cond rfl (fun h5 => ?_) (fun h5 => ?_)
        · skip
          obtain ⟨bb, hb1, hbb⟩ := byteAt_some s i (by omega)
          have hb1x := hb1
          obtain ⟨vv, sp, hvv, hcase, hsp⟩ : ∃ vv sp, C[bb.toNat]? = some vv ∧ ((vv = .slice none 0 0 ∧ sp = false) ∨ ∃ a n c, vv = .slice (some a) n c ∧ sp = true) ∧ (sp = true → ∃ a, vv = .slice (some a) 2 2 ∧ Row H (some a) [.int .u8 (92 : Nat), .int .u8 (bb.toNat : Nat)] ∧ (bb = 34 ∨ bb = 92)) ∧ (sp = false → ¬ (bb = 34 ∨ bb = 92)) := by
            rcases htab bb.toNat bb.toNat_lt with ⟨h9, a, h10, h11⟩ | ⟨h9, h10⟩
            · exact ⟨_, true, h10, .inr ⟨a, 2, 2, rfl, rfl⟩, fun _ => ⟨a, rfl, h11, by rcases h9 with h9 | h9; exact .inl (UInt8.toNat.inj h9); exact .inr (UInt8.toNat.inj h9)⟩, fun e => (by cases e)⟩
            · exact ⟨_, false, h10, .inl ⟨rfl, rfl⟩, fun e => (by cases e), fun _ hc => h9 (by rcases hc with rfl | rfl; exact .inl rfl; exact .inr rfl)⟩
          first | rw [decide_eq_true h5] | rw [decide_eq_false h5] | rw [h5] | skip
          refine CWp.skip ?_
          refine CWp.seq ?_
          refine CWp.block ?_
          refine CWp.seq ?_
          refine CWp.region ?_
          refine OWp.move rfl rfl ?_
          refine OWp.move rfl rfl ?_
          refine OWp.indexS rfl rfl Tryz.underlying9 rfl rfl (by omega) (by omega) ?_
          refine OWp.assign rfl rfl ?_
          refine OWp.nil ?_
          refine CWp.seq ?_
          refine CWp.region ?_
          refine OWp.move rfl rfl ?_
          refine OWp.move rfl rfl ?_
          refine OWp.nilCheck rfl rfl rfl ?_
          refine OWp.fieldC (m := 0) rfl rfl Tryz.underlying129 rfl (by show szT Tryz.prog 127 ≠ 0; rw [hsA]; decide) rfl rfl ?_
          refine OWp.indexAddrArr (m := bb.toNat) rfl rfl Tryz.underlying127 hs22 rfl rfl (by rw [hbb]; omega) (by rw [hbb]; have := bb.toNat_lt; omega) (by rw [hbb]; omega) ?_
          refine OWp.loadCell (hh.keep.sees hw _ _ hcs) rfl rfl rfl Tryz.underlying22 rfl hvv ?_
          refine OWp.neNil (b := sp) rfl rfl rfl hcase ?_
          refine OWp.nil ?_
          first | refine CWp.condP rfl (fun h6 => ?_) (fun h6 => ?_) | refine CWp.cond rfl (fun h6 => ?_) (fun h6 => ?_)
          · skip
            obtain ⟨ax, rfl, hrx, hs34⟩ := hsp.1 h6
            have hes := esc_step hb1
            have hes2 := hes.2
            rw [hes.1, if_pos hs34, List.length_append] at hes2
            have hes3 : (escL (s.data.toList.take i)).length + 2 ≤ (escL s.data.toList).length := hes2
            have hwa := write_at (vs := [.int .u8 (92 : Nat), .int .u8 (bb.toNat : Nat)]) hDt (by simp [bytesV]) (by show _ + 2 ≤ _; omega)
            first | rw [decide_eq_true h6] | rw [decide_eq_false h6] | rw [h6] | skip
            refine CWp.drawnN (by kernel_rfl) ?_
            have hhS := hh
            have hkS := Keeps.refl hh.wf
            refine OWp.move rfl rfl ?_
            refine OWp.move rfl rfl ?_
            refine OWp.move rfl rfl ?_
            refine OWp.sliceFrom (m := (escL (s.data.toList.take i)).length) rfl rfl Tryz.underlying22 hs5 rfl rfl (by omega) (Nat.le_refl _) (hh.cells (k := 0) rfl) (by omega) ?_
            refine OWp.move rfl rfl ?_
            refine OWp.move rfl rfl ?_
            refine OWp.nilCheck rfl rfl rfl ?_
            refine OWp.fieldC (m := 0) rfl rfl Tryz.underlying129 rfl (by show szT Tryz.prog 127 ≠ 0; rw [hsA]; decide) rfl rfl ?_
            refine OWp.indexAddrArr (m := bb.toNat) rfl rfl Tryz.underlying127 hs22 rfl rfl (by rw [hbb]; omega) (by rw [hbb]; have := bb.toNat_lt; omega) (by rw [hbb]; omega) ?_
            refine OWp.loadCell (hh.keep.sees hw _ _ hcs) rfl rfl rfl Tryz.underlying22 rfl hvv ?_
            refine OWp.copyR (k := 0) hh rfl rfl rfl rfl rfl rfl hE hz5 hs5 rfl rfl (hrx.sees (hh.keep.sees hw)) rfl (by decide) (by omega) (by omega) rfl (fun H4 hh hx4 => ?_)
            simp only [List.set_cons_zero] at hh
            have hkS := hx4 _ (KX.refl cb _)
            refine OWp.norm ?_
            refine OWp.addI rfl rfl rfl rfl (by omega) ?_
            rw [show (((escL (s.data.toList.take i)).length : Nat) : Int) + (2 : Nat) = ((escL (s.data.toList.take (i + 1))).length : Nat) by rw [hes.1, if_pos hs34, List.length_append]; rfl]
            refine OWp.assign rfl rfl ?_
            refine OWp.nil ?_
            refine ⟨still_all (L := [.pointer (some ⟨qb, bb.toNat, none⟩)]) rfl (by simp only [List.all_cons, List.all_nil, Bool.and_true]; exact still_old hw hcs hhS.keep hcb hkS), ?_⟩
            refine CWp.region ?_
            refine OWp.move rfl rfl ?_
            refine OWp.addI rfl rfl rfl rfl (by omega) ?_
            refine OWp.assign rfl rfl ?_
            refine OWp.nil ?_
            exact ⟨_, by omega, writeCells D (escL (s.data.toList.take i)).length [.int .u8 (92 : Nat), .int .u8 (bb.toNat : Nat)], i + 1, ex_env rfl ⟨rfl, hh, by omega, (hwa.2.trans hD), (by rw [hes.1, if_pos hs34, List.length_append]; exact hwa.1.trans (by simp [bytesV]))⟩⟩
          · skip
            have hs34 := hsp.2 h6
            have hes := esc_step hb1
            have hes2 := hes.2
            rw [hes.1, if_neg hs34, List.length_append] at hes2
            have hes3 : (escL (s.data.toList.take i)).length + 1 ≤ (escL s.data.toList).length := hes2
            have hwa := write_at (vs := [.int .u8 (bb.toNat : Nat)]) hDt (by simp [bytesV]) (by show _ + 1 ≤ _; omega)
            first | rw [decide_eq_true h6] | rw [decide_eq_false h6] | rw [h6] | skip
            refine CWp.seq ?_
            refine CWp.region ?_
            refine OWp.move rfl rfl ?_
            refine OWp.move rfl rfl ?_
            refine OWp.move rfl rfl ?_
            refine OWp.indexAddrSl1 rfl rfl Tryz.underlying22 hs5 rfl rfl (by omega) (by omega) ?_
            refine OWp.storeB (k := 0) (off := (escL (s.data.toList.take i)).length) (v := .int .u8 (bb.toNat : Nat)) hh rfl rfl rfl (by rw [show ((⟨cb, 0, none⟩ : Addr).add ((((escL (s.data.toList.take i)).length : Nat) : Int)).toNat) = ⟨cb, (escL (s.data.toList.take i)).length, none⟩ by rw [add_none rfl, Int.toNat_natCast, Nat.zero_add]]; rfl) (by rw [← hbb]; rfl) hs5 (by decide) rfl (by omega) rfl rfl (fun H4 hh => ?_)
            simp only [List.set_cons_zero] at hh
            refine OWp.norm ?_
            refine OWp.nil ?_
            refine CWp.region ?_
            refine OWp.move rfl rfl ?_
            refine OWp.addI rfl rfl rfl rfl (by omega) ?_
            rw [show (((escL (s.data.toList.take i)).length : Nat) : Int) + 1 = ((escL (s.data.toList.take (i + 1))).length : Nat) by rw [hes.1, if_neg hs34, List.length_append]; rfl]
            refine OWp.assign rfl rfl ?_
            refine OWp.nil ?_
            refine CWp.region ?_
            refine OWp.move rfl rfl ?_
            refine OWp.addI rfl rfl rfl rfl (by omega) ?_
            refine OWp.assign rfl rfl ?_
            refine OWp.nil ?_
            exact ⟨_, by omega, writeCells D (escL (s.data.toList.take i)).length [.int .u8 (bb.toNat : Nat)], i + 1, ex_env rfl ⟨rfl, hh, by omega, (hwa.2.trans hD), (by rw [hes.1, if_neg hs34, List.length_append]; exact hwa.1.trans (by simp [bytesV]))⟩⟩
        · skip
          have hrowD : Row H' (some ⟨cb, 0, none⟩) (bytesV (escL s.data.toList)) := by
            have e1 : s.data.toList.take i = s.data.toList := List.take_of_length_le (by rw [len_size]; omega)
            rw [e1] at hDt
            rw [← hDt, List.take_of_length_le (by rw [hel, Array.length_toList]; omega)]
            exact (hh.get (k := 0) rfl).2.row
          first | rw [decide_eq_true h5] | rw [decide_eq_false h5] | rw [h5] | skip
          refine CWp.exit ?_
          refine CWp.seq ?_
          refine CWp.region ?_
          refine OWp.move rfl rfl ?_
          refine OWp.convBS (l := escL s.data.toList) rfl rfl Tryz.underlying22 Tryz.underlying5 Tryz.underlying9 rfl hrowD (by rw [bytesV_length, hel]) ?_
          refine OWp.assign rfl rfl ?_
          refine OWp.nil ?_
          refine CWp.ret ?_
          refine RetQ.one (by first | exact .inl rfl | exact .inr rfl) rfl rfl ?_
          exact h _

theorem text0_spec (kk s : ByteArray) (hk : kk.size ≤ 9000000) (hs : s.size ≤ 9000000) (Q : Value → AH → Prop) (h : ∀ H', Q (.string (textS kk s)) H') : FWp Tryz.prog prims0 20 [.string kk, .string s] AH.empty Q := by
  have hze : (bl (escL s.data.toList)).size ≤ 18000000 := by
    have h1 := len_size (bl (escL s.data.toList))
    rw [bl_list, escL_length, len_size] at h1
    have h2 := cntE_le s.data.toList
    rw [len_size] at h2
    omega
  have z1 : ∀ a : UInt8, (⟨#[a]⟩ : ByteArray).size = 1 := fun _ => rfl
  refine FWp.enter (rfl) Tryz.func20 rfl (e := [.string kk, .string s, undef, undef, undef, undef, undef, undef, undef, undef, undef, undef, undef, undef, undef, undef, undef, undef, undef, undef, undef, undef, undef, undef]) rfl ?_
  refine CWp.seq ?_
  refine CWp.region ?_
  refine OWp.assign rfl rfl ?_
  refine OWp.nil ?_
  refine CWp.seq ?_
  refine CWp.seq ?_
  refine CWp.region ?_
  refine OWp.move rfl rfl ?_
  refine OWp.binS rfl rfl rfl rfl rfl ?_
  refine OWp.nil ?_
  first | refine CWp.condP rfl (fun h0 => ?_) (fun h0 => ?_) | refine CWp.cond rfl (fun h0 => ?_) (fun h0 => ?_)
  · skip
    first | rw [decide_eq_true h0] | rw [decide_eq_false h0] | rw [h0] | skip
    refine CWp.seq ?_
    refine CWp.region ?_
    refine OWp.assign rfl rfl ?_
    refine OWp.nil ?_
    refine CWp.ret ?_
    refine RetQ.one (by first | exact .inl rfl | exact .inr rfl) rfl rfl ?_
    unfold textS at h
    rw [if_pos (show s.size = 0 by rw [h0]; rfl)] at h
    exact h _
  · skip
    first | rw [decide_eq_true h0] | rw [decide_eq_false h0] | rw [h0] | skip
    refine CWp.skip ?_
    refine CWp.seq ?_
    refine CWp.seq ?_
    refine CWp.region ?_
    refine OWp.move rfl rfl ?_
    refine OWp.call rfl rfl rfl rfl ?_
    refine FWp.prim (g := primBare) rfl (show primBare [.string s] _ = some (.bool (bareB s), _) by simp only [primBare]; rw [if_pos hs]) ?_
    refine OWp.norm ?_
    refine OWp.nil ?_
    first | refine CWp.condP rfl (fun h1 => ?_) (fun h1 => ?_) | refine CWp.cond rfl (fun h1 => ?_) (fun h1 => ?_)
    · skip
      first | rw [decide_eq_true h1] | rw [decide_eq_false h1] | rw [h1] | skip
      refine CWp.seq ?_
      refine CWp.region ?_
      refine OWp.move rfl rfl ?_
      refine OWp.catS rfl rfl rfl rfl (by first | omega | (simp only [size_app, z1]; omega)) ?_
      refine OWp.catS rfl rfl rfl rfl (by first | omega | (simp only [size_app, z1]; omega)) ?_
      refine OWp.move rfl rfl ?_
      refine OWp.catS rfl rfl rfl rfl (by first | omega | (simp only [size_app, z1]; omega)) ?_
      refine OWp.assign rfl rfl ?_
      refine OWp.nil ?_
      refine CWp.ret ?_
      refine RetQ.one (by first | exact .inl rfl | exact .inr rfl) rfl rfl ?_
      unfold textS at h
      rw [if_neg (show ¬ s.size = 0 from fun e => h0 (ByteArray.ext (Array.eq_empty_of_size_eq_zero e))), if_pos (by assumption)] at h
      exact h _
    · skip
      first | rw [decide_eq_true h1] | rw [decide_eq_false h1] | rw [h1] | skip
      refine CWp.skip ?_
      refine CWp.seq ?_
      refine CWp.region ?_
      refine OWp.move rfl rfl ?_
      refine OWp.catS rfl rfl rfl rfl (by first | omega | (simp only [size_app, z1]; omega)) ?_
      refine OWp.catS rfl rfl rfl rfl (by first | omega | (simp only [size_app, z1]; omega)) ?_
      refine OWp.catS rfl rfl rfl rfl (by first | omega | (simp only [size_app, z1]; omega)) ?_
      refine OWp.step (v := .slice (some ⟨0, 0, none⟩) 4 4) (H1 := hp1) rfl (fun call => by unfold evOp; kernel_rfl) rfl ?_
      refine OWp.norm ?_
      refine OWp.call rfl rfl rfl rfl ?_
      obtain ⟨pR, HR2, qb, HR4, hn1, hn2, hn3⟩ := rep_ex
      refine FWp.run prims0_up hn1 ?_
      refine OWp.norm ?_
      refine OWp.move rfl rfl ?_
      refine OWp.call rfl rfl rfl rfl ?_
      refine FWp.primC (g := primReplace) rfl ?_
      obtain ⟨nR, vR, HR5, hR1, hR2⟩ := repl_spec s hs qb HR4 (fun v _ => v = .string (bl (escL s.data.toList))) (fun _ => rfl) hn3
      subst hR2
      refine ⟨max 30 nR, _, HR5, fun m hm => prepR_ok (prepR_up (evFn_up prims0_up 30 m (by omega)) hn2) (hR1 m (by omega)), ?_⟩
      refine OWp.norm ?_
      refine OWp.catS rfl rfl rfl rfl (by first | omega | (simp only [size_app, z1]; omega)) ?_
      refine OWp.catS rfl rfl rfl rfl (by first | omega | (simp only [size_app, z1]; omega)) ?_
      refine OWp.assign rfl rfl ?_
      refine OWp.nil ?_
      refine CWp.ret ?_
      refine RetQ.one (by first | exact .inl rfl | exact .inr rfl) rfl rfl ?_
      unfold textS at h
      rw [if_neg (show ¬ s.size = 0 from fun e => h0 (ByteArray.ext (Array.eq_empty_of_size_eq_zero e))), if_neg (by simp_all)] at h
      exact h _

end Go.Proofs.YtnlkgnoogcakjaaGreatDoor.Ev
