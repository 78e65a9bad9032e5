import Derived.Test.YtllokljpacpafaaDoorEvM7
namespace Go.Proofs.YtllokljpacpafaaDoor.Ev
open Go
set_option linter.unusedVariables false
set_option linter.unusedSimpArgs false
set_option maxHeartbeats 4000000
def sty4 : Array Value := #[.string ⟨#[35]⟩, .string ⟨#[47, 47]⟩, .string ⟨#[45, 45]⟩, .string ⟨#[59, 59, 59, 59]⟩]
theorem sty_one (b : UInt8) (h : 33 ≤ b.toNat ∧ b.toNat ≤ 126) : StyleM ⟨#[b]⟩ := ⟨Nat.le_refl 1, show (1 : Nat) ≤ 4 by omega, fun j hj => by
  have h1 : (⟨#[b]⟩ : ByteArray).size = 1 := rfl
  obtain rfl : j = 0 := by omega
  show 33 ≤ (b.toNat : Int) ∧ (b.toNat : Int) ≤ 126; omega⟩
theorem sty_two (b c : UInt8) (h : 33 ≤ b.toNat ∧ b.toNat ≤ 126) (k : 33 ≤ c.toNat ∧ c.toNat ≤ 126) : StyleM ⟨#[b, c]⟩ := ⟨show (1 : Nat) ≤ 2 by omega, show (2 : Nat) ≤ 4 by omega, fun j hj => by
  have h1 : (⟨#[b, c]⟩ : ByteArray).size = 2 := rfl
  have : j = 0 ∨ j = 1 := by omega
  rcases this with rfl | rfl
  · show 33 ≤ (b.toNat : Int) ∧ (b.toNat : Int) ≤ 126; omega
  · show 33 ≤ (c.toNat : Int) ∧ (c.toNat : Int) ≤ 126; omega⟩
theorem sty_four (b c d e : UInt8) (h : 33 ≤ b.toNat ∧ b.toNat ≤ 126) (k : 33 ≤ c.toNat ∧ c.toNat ≤ 126) (l : 33 ≤ d.toNat ∧ d.toNat ≤ 126) (m : 33 ≤ e.toNat ∧ e.toNat ≤ 126) : StyleM ⟨#[b, c, d, e]⟩ := ⟨show (1 : Nat) ≤ 4 by omega, show (4 : Nat) ≤ 4 by omega, fun j hj => by
  have h1 : (⟨#[b, c, d, e]⟩ : ByteArray).size = 4 := rfl
  have : j = 0 ∨ j = 1 ∨ j = 2 ∨ j = 3 := by omega
  rcases this with rfl | rfl | rfl | rfl
  · show 33 ≤ (b.toNat : Int) ∧ (b.toNat : Int) ≤ 126; omega
  · show 33 ≤ (c.toNat : Int) ∧ (c.toNat : Int) ≤ 126; omega
  · show 33 ≤ (d.toNat : Int) ∧ (d.toNat : Int) ≤ 126; omega
  · show 33 ≤ (e.toNat : Int) ∧ (e.toNat : Int) ≤ 126; omega⟩
theorem sty4_get (c : Nat) (h : (c : Int) ≤ 3) : ∃ q : ByteArray, sty4.toList[((c : Int)).toNat]? = some (.string q) ∧ StyleM q := by
  have hc : c ≤ 3 := by omega
  rw [Int.toNat_natCast]
  match c, hc with
  | 0, _ => exact ⟨_, rfl, sty_one 35 (by decide)⟩
  | 1, _ => exact ⟨_, rfl, sty_two 47 47 (by decide) (by decide)⟩
  | 2, _ => exact ⟨_, rfl, sty_two 45 45 (by decide) (by decide)⟩
  | 3, _ => exact ⟨_, rfl, sty_four 59 59 59 59 (by decide) (by decide) (by decide) (by decide)⟩
abbrev INDS : ByteArray := ⟨#[9, 32, 32, 32, 9, 32]⟩
theorem ind_gaps (c : Nat) (h : (c : Int) ≤ 3) : ∀ j : Nat, j < (INDS.extract 0 c).size → gapB (byteAt (INDS.extract 0 c) (j : Nat)) := by
  intro j hj
  have hc : c ≤ 3 := by omega
  rw [ByteArray.size_extract] at hj
  have h6 : INDS.size = 6 := rfl
  rw [byteAt_ext0 _ _ _ (by omega) (by rw [h6]; omega)]
  have : j = 0 ∨ j = 1 ∨ j = 2 := by omega
  rcases this with rfl | rfl | rfl
  · exact .inr rfl
  · exact .inl rfl
  · exact .inl rfl
set_option maxRecDepth 20000 in
theorem nameX : NameA ⟨#[120]⟩ where
  lo := by decide
  hi := by decide
  valid := by decide +kernel
  all := by
    have e : runes ⟨#[120]⟩ = [120] := by decide +kernel
    rw [e]
    intro r hr
    simp only [List.mem_cons, List.not_mem_nil, or_false] at hr
    subst hr
    exact (good_iff 120).2 ⟨by decide, by unfold badB; decide⟩
  first := by decide +kernel
  last := by decide +kernel
theorem right_one {k : Int} (hk : k = 1 ∨ k = 2) {ind sty : ByteArray} {n : Nat} (hi : ∀ j : Nat, j < ind.size → gapB (byteAt ind (j : Nat))) (hs : StyleM sty) (hn : n ≤ 1023) : RightM ⟨k, ind, sty, ⟨#[120]⟩, n⟩ :=
  ⟨by show 1 ≤ k; omega, by show k ≤ 3; omega, hi, hs, nameX, fun h => by have h : k = 3 := h; omega, by show leastM k ≤ (n : Int); unfold leastM; rw [if_neg (by omega)]; omega, by show (n : Int) ≤ 1000000; omega⟩
theorem blank_end {m : Mk} (h : RightM m) {t : ByteArray} (e : lineM m = t ++ ⟨#[32]⟩) : False := by
  have e1 : (lineM m).data.toList.reverse = 32 :: t.data.toList.reverse := by rw [e, app_list, List.reverse_append]; rfl
  rw [line_list] at e1
  unfold bodyL at e1
  simp only [List.reverse_append, List.reverse_cons, List.append_assoc] at e1
  obtain ⟨d, r, h1, h2⟩ := num_end m h
  rw [h1] at e1
  rcases kind_cases h with hk | hk | hk <;> rw [hk] at e1
  · have e1 : d :: _ = (32 : UInt8) :: _ := e1
    have := (List.cons.inj e1).1
    subst this
    unfold digU at h2
    exact absurd h2.1 (by decide)
  · have e1 : (93 : UInt8) :: _ = 32 :: _ := e1
    exact absurd (List.cons.inj e1).1 (by decide)
  · have e1 : (93 : UInt8) :: _ = 32 :: _ := e1
    exact absurd (List.cons.inj e1).1 (by decide)
theorem no_blank {t : ByteArray} {m : Mk} {b : Bool} (h : ReadOk (t ++ ⟨#[32]⟩) m b) : b = false := by
  cases b with
  | false => rfl
  | true => exact (blank_end (h.1 rfl).1 (h.1 rfl).2).elim
theorem read_right {y m : Mk} {t : ByteArray} {b : Bool} (ht : TextOf y t) (h : ReadOk t m b) : b = true ↔ RightM y := by
  constructor
  · intro hb
    obtain ⟨h1, h2⟩ := h.1 hb
    exact ht.ne.1 fun e => line_ne m (h2.trans e)
  · intro hr
    exact (text_read hr ht h).2.symm

theorem styles_spec (n deep : Int) (u : ByteArray) (hu : u.size ≤ 1048576) (H : AH) (Q : Value → AH → Prop) (h : ∀ H', Q (.bool true) H') (hw : WfH H) : FWp Tryd.prog prims 6 [.int .i64 n, .int .i64 deep, .string u] H Q := by
  have hh := Has.start hw
  refine FWp.enter (rfl) Tryd.func6 rfl (e := [.int .i64 n, .int .i64 deep, .string u, undef, undef, undef, undef, undef, undef, undef, undef, undef, undef, undef, undef, undef, undef, undef, undef, undef, undef, undef, undef, undef, undef, undef, undef, undef, undef, undef, undef, undef, undef, undef, undef, undef, undef, undef, undef, undef, undef, undef, undef, undef, undef, undef, undef, undef, undef, undef, undef, undef, undef, undef, undef, undef, undef, undef, undef, undef, undef, undef, undef, undef, undef, undef, undef, undef, undef, undef, undef, undef, undef, undef, undef, undef, undef, undef, undef, undef, undef, undef, undef, undef, undef, undef, undef, undef, undef, undef]) rfl ?_
  refine CWp.seq ?_
  refine CWp.region ?_
  refine OWp.assign rfl rfl ?_
  refine OWp.nil ?_
  refine CWp.seq ?_
  refine CWp.drawnL (by kernel_rfl) ?_
  refine OWp.move rfl rfl ?_
  refine OWp.andM rfl rfl rfl rfl (by omega) (fun c1 hc1 => ?_)
  refine OWp.norm ?_
  have hi6 := ext_le INDS 0 c1
  have h6 : INDS.size = 6 := rfl
  refine OWp.sliceS rfl rfl Tryd.underlying9 rfl rfl rfl (by omega) (by omega) (by show (c1 : Int) ≤ (6 : Nat); omega) ?_
  refine OWp.buildSl hh.wf rfl rfl rfl (t' := 9) (cells := sty4) (by kernel_rfl) (fun H2 cc hw2 hk2 hc2 ho2 => ?_)
  refine OWp.norm ?_
  replace hh := hh.after hk2
  refine OWp.move rfl rfl ?_
  refine OWp.andM rfl rfl rfl rfl (by omega) (fun c2 hc2 => ?_)
  refine OWp.norm ?_
  obtain ⟨q, hq, hqs⟩ := sty4_get c2 hc2
  refine OWp.indexAddrSl1 rfl rfl Tryd.underlying24 sz9 rfl rfl (by omega) (by omega) ?_
  refine OWp.loadRow rfl rfl Tryd.underlying9 rfl rfl ho2.row (v := .string q) hq ?_
  refine OWp.move rfl rfl ?_
  refine OWp.andM rfl rfl rfl rfl (by omega) (fun c3 hc3 => ?_)
  refine OWp.norm ?_
  have hqz := hqs.2.1
  have hra : RightM ⟨1, INDS.extract 0 c1, q, ⟨#[120]⟩, (c3 : Nat)⟩ := right_one (.inl rfl) (ind_gaps c1 hc1) hqs (by omega)
  have hre : RightM ⟨2, INDS.extract 0 c1, q, ⟨#[120]⟩, (c3 : Nat)⟩ := right_one (.inr rfl) (ind_gaps c1 hc1) hqs (by omega)
  refine OWp.buildM (⟨1, INDS.extract 0 c1, q, ⟨#[120]⟩, (c3 : Nat)⟩) rfl rfl rfl (by kernel_rfl) ?_
  refine OWp.allocM hh rfl rfl (fun H7 b7 hh => ?_)
  refine OWp.norm ?_
  first | refine OWp.storeM (k := 0) hh rfl rfl rfl rfl rfl (fun H4 hh => ?_) | refine OWp.storeM (k := 1) hh rfl rfl rfl rfl rfl (fun H4 hh => ?_) | refine OWp.storeM (k := 2) hh rfl rfl rfl rfl rfl (fun H4 hh => ?_) | refine OWp.storeM (k := 3) hh rfl rfl rfl rfl rfl (fun H4 hh => ?_) | refine OWp.storeM (k := 4) hh rfl rfl rfl rfl rfl (fun H4 hh => ?_) | refine OWp.storeM (k := 5) hh rfl rfl rfl rfl rfl (fun H4 hh => ?_) | refine OWp.storeM (k := 6) hh rfl rfl rfl rfl rfl (fun H4 hh => ?_)
  simp only [List.set_cons_zero, List.set_cons_succ] at hh
  refine OWp.norm ?_
  refine OWp.nil ?_
  refine CWp.seq ?_
  refine CWp.region ?_
  first | refine OWp.loadM (k := 0) hh rfl rfl rfl rfl ?_ | refine OWp.loadM (k := 1) hh rfl rfl rfl rfl ?_ | refine OWp.loadM (k := 2) hh rfl rfl rfl rfl ?_ | refine OWp.loadM (k := 3) hh rfl rfl rfl rfl ?_ | refine OWp.loadM (k := 4) hh rfl rfl rfl rfl ?_ | refine OWp.loadM (k := 5) hh rfl rfl rfl rfl ?_ | refine OWp.loadM (k := 6) hh rfl rfl rfl rfl ?_
  refine OWp.call rfl rfl rfl rfl ?_
  refine text_spec _ (show SzM ⟨1, INDS.extract 0 c1, q, ⟨#[120]⟩, (c3 : Nat)⟩ from ⟨by show (INDS.extract 0 c1).size ≤ _; omega, by show q.size ≤ _; omega, show (1 : Nat) ≤ 9000000 by omega⟩) _ _ ?_ hh.wf
  intro Ha ta hka hta
  have hza := hta.size
  replace hh := hh.after hka
  have hza2 : ta.size ≤ 106 := by have : ta.size ≤ (INDS.extract 0 c1).size + 100 := hza; omega
  refine OWp.norm ?_
  refine OWp.assign rfl rfl ?_
  refine OWp.nil ?_
  refine CWp.seq ?_
  refine CWp.region ?_
  refine OWp.move rfl rfl ?_
  refine OWp.call rfl rfl rfl rfl ?_
  refine read_spec _ (by first | omega | (simp only [size_app, sz_0, sz_1, sz_2, sz_3, sz_4]; omega)) _ _ ?_ hh.wf
  intro Hb mb bb hkb hrb
  replace hh := hh.after hkb
  obtain ⟨rfl, rfl⟩ := text_read hra hta hrb
  refine OWp.norm ?_
  refine OWp.move rfl rfl ?_
  refine OWp.extract rfl rfl rfl rfl ?_
  refine OWp.extract rfl rfl rfl rfl ?_
  refine OWp.allocM hh rfl rfl (fun H9 b9 hh => ?_)
  refine OWp.norm ?_
  first | refine OWp.storeM (k := 0) hh rfl rfl rfl rfl rfl (fun H4 hh => ?_) | refine OWp.storeM (k := 1) hh rfl rfl rfl rfl rfl (fun H4 hh => ?_) | refine OWp.storeM (k := 2) hh rfl rfl rfl rfl rfl (fun H4 hh => ?_) | refine OWp.storeM (k := 3) hh rfl rfl rfl rfl rfl (fun H4 hh => ?_) | refine OWp.storeM (k := 4) hh rfl rfl rfl rfl rfl (fun H4 hh => ?_) | refine OWp.storeM (k := 5) hh rfl rfl rfl rfl rfl (fun H4 hh => ?_) | refine OWp.storeM (k := 6) hh rfl rfl rfl rfl rfl (fun H4 hh => ?_)
  simp only [List.set_cons_zero, List.set_cons_succ] at hh
  refine OWp.norm ?_
  refine OWp.assign rfl rfl ?_
  refine OWp.nil ?_
  refine CWp.seq ?_
  refine CWp.region ?_
  first | refine OWp.loadM (k := 0) hh rfl rfl rfl rfl ?_ | refine OWp.loadM (k := 1) hh rfl rfl rfl rfl ?_ | refine OWp.loadM (k := 2) hh rfl rfl rfl rfl ?_ | refine OWp.loadM (k := 3) hh rfl rfl rfl rfl ?_ | refine OWp.loadM (k := 4) hh rfl rfl rfl rfl ?_ | refine OWp.loadM (k := 5) hh rfl rfl rfl rfl ?_ | refine OWp.loadM (k := 6) hh rfl rfl rfl rfl ?_
  refine OWp.allocM hh rfl rfl (fun H11 b11 hh => ?_)
  refine OWp.norm ?_
  first | refine OWp.storeM (k := 0) hh rfl rfl rfl rfl rfl (fun H4 hh => ?_) | refine OWp.storeM (k := 1) hh rfl rfl rfl rfl rfl (fun H4 hh => ?_) | refine OWp.storeM (k := 2) hh rfl rfl rfl rfl rfl (fun H4 hh => ?_) | refine OWp.storeM (k := 3) hh rfl rfl rfl rfl rfl (fun H4 hh => ?_) | refine OWp.storeM (k := 4) hh rfl rfl rfl rfl rfl (fun H4 hh => ?_) | refine OWp.storeM (k := 5) hh rfl rfl rfl rfl rfl (fun H4 hh => ?_) | refine OWp.storeM (k := 6) hh rfl rfl rfl rfl rfl (fun H4 hh => ?_)
  simp only [List.set_cons_zero, List.set_cons_succ] at hh
  refine OWp.norm ?_
  refine OWp.nil ?_
  refine CWp.seq ?_
  refine CWp.region ?_
  refine OWp.fieldN 0 (by decide) rfl rfl rfl ?_
  first | refine OWp.storeF0 (k := 0) hh rfl rfl rfl rfl rfl (fun H4 hh => ?_) | refine OWp.storeF0 (k := 1) hh rfl rfl rfl rfl rfl (fun H4 hh => ?_) | refine OWp.storeF0 (k := 2) hh rfl rfl rfl rfl rfl (fun H4 hh => ?_) | refine OWp.storeF0 (k := 3) hh rfl rfl rfl rfl rfl (fun H4 hh => ?_) | refine OWp.storeF0 (k := 4) hh rfl rfl rfl rfl rfl (fun H4 hh => ?_) | refine OWp.storeF0 (k := 5) hh rfl rfl rfl rfl rfl (fun H4 hh => ?_) | refine OWp.storeF0 (k := 6) hh rfl rfl rfl rfl rfl (fun H4 hh => ?_)
  simp only [List.set_cons_zero, List.set_cons_succ] at hh
  refine OWp.norm ?_
  refine OWp.nil ?_
  refine CWp.seq ?_
  refine CWp.region ?_
  first | refine OWp.loadM (k := 0) hh rfl rfl rfl rfl ?_ | refine OWp.loadM (k := 1) hh rfl rfl rfl rfl ?_ | refine OWp.loadM (k := 2) hh rfl rfl rfl rfl ?_ | refine OWp.loadM (k := 3) hh rfl rfl rfl rfl ?_ | refine OWp.loadM (k := 4) hh rfl rfl rfl rfl ?_ | refine OWp.loadM (k := 5) hh rfl rfl rfl rfl ?_ | refine OWp.loadM (k := 6) hh rfl rfl rfl rfl ?_
  refine OWp.call rfl rfl rfl rfl ?_
  refine text_spec _ (show SzM ⟨2, INDS.extract 0 c1, q, ⟨#[120]⟩, (c3 : Nat)⟩ from ⟨by show (INDS.extract 0 c1).size ≤ _; omega, by show q.size ≤ _; omega, show (1 : Nat) ≤ 9000000 by omega⟩) _ _ ?_ hh.wf
  intro Hd td hkd htd
  have hzd := htd.size
  replace hh := hh.after hkd
  have hzd2 : td.size ≤ 106 := by have : td.size ≤ (INDS.extract 0 c1).size + 100 := hzd; omega
  refine OWp.norm ?_
  refine OWp.call rfl rfl rfl rfl ?_
  refine read_spec _ (by first | omega | (simp only [size_app, sz_0, sz_1, sz_2, sz_3, sz_4]; omega)) _ _ ?_ hh.wf
  intro He me be hke hrz
  replace hh := hh.after hke
  obtain ⟨rfl, rfl⟩ := text_read hre htd hrz
  refine OWp.norm ?_
  refine OWp.move rfl rfl ?_
  refine OWp.extract rfl rfl rfl rfl ?_
  refine OWp.extract rfl rfl rfl rfl ?_
  refine OWp.allocM hh rfl rfl (fun H12 b12 hh => ?_)
  refine OWp.norm ?_
  first | refine OWp.storeM (k := 0) hh rfl rfl rfl rfl rfl (fun H4 hh => ?_) | refine OWp.storeM (k := 1) hh rfl rfl rfl rfl rfl (fun H4 hh => ?_) | refine OWp.storeM (k := 2) hh rfl rfl rfl rfl rfl (fun H4 hh => ?_) | refine OWp.storeM (k := 3) hh rfl rfl rfl rfl rfl (fun H4 hh => ?_) | refine OWp.storeM (k := 4) hh rfl rfl rfl rfl rfl (fun H4 hh => ?_) | refine OWp.storeM (k := 5) hh rfl rfl rfl rfl rfl (fun H4 hh => ?_) | refine OWp.storeM (k := 6) hh rfl rfl rfl rfl rfl (fun H4 hh => ?_)
  simp only [List.set_cons_zero, List.set_cons_succ] at hh
  refine OWp.norm ?_
  refine OWp.assign rfl rfl ?_
  refine OWp.nil ?_
  refine CWp.seq ?_
  refine CWp.region ?_
  first | refine OWp.loadM (k := 0) hh rfl rfl rfl rfl ?_ | refine OWp.loadM (k := 1) hh rfl rfl rfl rfl ?_ | refine OWp.loadM (k := 2) hh rfl rfl rfl rfl ?_ | refine OWp.loadM (k := 3) hh rfl rfl rfl rfl ?_ | refine OWp.loadM (k := 4) hh rfl rfl rfl rfl ?_ | refine OWp.loadM (k := 5) hh rfl rfl rfl rfl ?_ | refine OWp.loadM (k := 6) hh rfl rfl rfl rfl ?_
  refine OWp.allocM hh rfl rfl (fun H14 b14 hh => ?_)
  refine OWp.norm ?_
  first | refine OWp.storeM (k := 0) hh rfl rfl rfl rfl rfl (fun H4 hh => ?_) | refine OWp.storeM (k := 1) hh rfl rfl rfl rfl rfl (fun H4 hh => ?_) | refine OWp.storeM (k := 2) hh rfl rfl rfl rfl rfl (fun H4 hh => ?_) | refine OWp.storeM (k := 3) hh rfl rfl rfl rfl rfl (fun H4 hh => ?_) | refine OWp.storeM (k := 4) hh rfl rfl rfl rfl rfl (fun H4 hh => ?_) | refine OWp.storeM (k := 5) hh rfl rfl rfl rfl rfl (fun H4 hh => ?_) | refine OWp.storeM (k := 6) hh rfl rfl rfl rfl rfl (fun H4 hh => ?_)
  simp only [List.set_cons_zero, List.set_cons_succ] at hh
  refine OWp.norm ?_
  refine OWp.nil ?_
  refine CWp.seq ?_
  refine CWp.region ?_
  refine OWp.move rfl rfl ?_
  refine OWp.fieldN 2 (by decide) rfl rfl rfl ?_
  first | refine OWp.storeF2 (k := 0) hh rfl rfl rfl rfl rfl (fun H4 hh => ?_) | refine OWp.storeF2 (k := 1) hh rfl rfl rfl rfl rfl (fun H4 hh => ?_) | refine OWp.storeF2 (k := 2) hh rfl rfl rfl rfl rfl (fun H4 hh => ?_) | refine OWp.storeF2 (k := 3) hh rfl rfl rfl rfl rfl (fun H4 hh => ?_) | refine OWp.storeF2 (k := 4) hh rfl rfl rfl rfl rfl (fun H4 hh => ?_) | refine OWp.storeF2 (k := 5) hh rfl rfl rfl rfl rfl (fun H4 hh => ?_) | refine OWp.storeF2 (k := 6) hh rfl rfl rfl rfl rfl (fun H4 hh => ?_)
  simp only [List.set_cons_zero, List.set_cons_succ] at hh
  refine OWp.norm ?_
  refine OWp.nil ?_
  refine CWp.seq ?_
  refine CWp.region ?_
  first | refine OWp.loadM (k := 0) hh rfl rfl rfl rfl ?_ | refine OWp.loadM (k := 1) hh rfl rfl rfl rfl ?_ | refine OWp.loadM (k := 2) hh rfl rfl rfl rfl ?_ | refine OWp.loadM (k := 3) hh rfl rfl rfl rfl ?_ | refine OWp.loadM (k := 4) hh rfl rfl rfl rfl ?_ | refine OWp.loadM (k := 5) hh rfl rfl rfl rfl ?_ | refine OWp.loadM (k := 6) hh rfl rfl rfl rfl ?_
  refine OWp.call rfl rfl rfl rfl ?_
  refine text_spec _ (show SzM ⟨1, INDS.extract 0 c1, u, ⟨#[120]⟩, (c3 : Nat)⟩ from ⟨by show (INDS.extract 0 c1).size ≤ _; omega, by show u.size ≤ _; omega, show (1 : Nat) ≤ 9000000 by omega⟩) _ _ ?_ hh.wf
  intro Hf tf hkf htf
  have hzf := htf.size
  replace hh := hh.after hkf
  have hzf2 : tf.size ≤ 106 := by have : tf.size ≤ (INDS.extract 0 c1).size + 100 := hzf; omega
  refine OWp.norm ?_
  refine OWp.call rfl rfl rfl rfl ?_
  refine read_spec _ (by first | omega | (simp only [size_app, sz_0, sz_1, sz_2, sz_3, sz_4]; omega)) _ _ ?_ hh.wf
  intro Hg mg bg hkg hrg
  replace hh := hh.after hkg
  refine OWp.norm ?_
  refine OWp.move rfl rfl ?_
  refine OWp.extract rfl rfl rfl rfl ?_
  refine OWp.extract rfl rfl rfl rfl ?_
  refine OWp.allocM hh rfl rfl (fun H15 b15 hh => ?_)
  refine OWp.norm ?_
  first | refine OWp.storeM (k := 0) hh rfl rfl rfl rfl rfl (fun H4 hh => ?_) | refine OWp.storeM (k := 1) hh rfl rfl rfl rfl rfl (fun H4 hh => ?_) | refine OWp.storeM (k := 2) hh rfl rfl rfl rfl rfl (fun H4 hh => ?_) | refine OWp.storeM (k := 3) hh rfl rfl rfl rfl rfl (fun H4 hh => ?_) | refine OWp.storeM (k := 4) hh rfl rfl rfl rfl rfl (fun H4 hh => ?_) | refine OWp.storeM (k := 5) hh rfl rfl rfl rfl rfl (fun H4 hh => ?_) | refine OWp.storeM (k := 6) hh rfl rfl rfl rfl rfl (fun H4 hh => ?_)
  simp only [List.set_cons_zero, List.set_cons_succ] at hh
  refine OWp.norm ?_
  refine OWp.assign rfl rfl ?_
  refine OWp.nil ?_
  refine CWp.seq ?_
  refine CWp.region ?_
  refine OWp.move rfl rfl ?_
  refine OWp.move rfl rfl ?_
  first | refine OWp.byT rfl (fun hg0 => ?_) (fun hg0 => ?_) | refine OWp.byBT rfl (fun hg0 => ?_) (fun hg0 => ?_)
  · skip
    first | rw [decide_eq_true hg0] | rw [decide_eq_false hg0] | rw [hg0] | skip
    try simp only [Decidable.not_not] at hg0
    first | refine OWp.loadM (k := 0) hh rfl rfl rfl rfl ?_ | refine OWp.loadM (k := 1) hh rfl rfl rfl rfl ?_ | refine OWp.loadM (k := 2) hh rfl rfl rfl rfl ?_ | refine OWp.loadM (k := 3) hh rfl rfl rfl rfl ?_ | refine OWp.loadM (k := 4) hh rfl rfl rfl rfl ?_ | refine OWp.loadM (k := 5) hh rfl rfl rfl rfl ?_ | refine OWp.loadM (k := 6) hh rfl rfl rfl rfl ?_
    first | refine OWp.loadM (k := 0) hh rfl rfl rfl rfl ?_ | refine OWp.loadM (k := 1) hh rfl rfl rfl rfl ?_ | refine OWp.loadM (k := 2) hh rfl rfl rfl rfl ?_ | refine OWp.loadM (k := 3) hh rfl rfl rfl rfl ?_ | refine OWp.loadM (k := 4) hh rfl rfl rfl rfl ?_ | refine OWp.loadM (k := 5) hh rfl rfl rfl rfl ?_ | refine OWp.loadM (k := 6) hh rfl rfl rfl rfl ?_
    refine OWp.eqM _ _ rfl rfl rfl rfl ?_
    refine OWp.pickT rfl rfl rfl ?_
    refine OWp.move rfl rfl ?_
    first | refine OWp.byT rfl (fun hg1 => ?_) (fun hg1 => ?_) | refine OWp.byBT rfl (fun hg1 => ?_) (fun hg1 => ?_)
    · skip
      first | rw [decide_eq_true hg1] | rw [decide_eq_false hg1] | rw [hg1] | skip
      try simp only [Decidable.not_not] at hg1
      refine OWp.move rfl rfl ?_
      refine OWp.pickT rfl rfl rfl ?_
      refine OWp.move rfl rfl ?_
      first | refine OWp.byT rfl (fun hg2 => ?_) (fun hg2 => ?_) | refine OWp.byBT rfl (fun hg2 => ?_) (fun hg2 => ?_)
      · skip
        first | rw [decide_eq_true hg2] | rw [decide_eq_false hg2] | rw [hg2] | skip
        try simp only [Decidable.not_not] at hg2
        first | refine OWp.loadM (k := 0) hh rfl rfl rfl rfl ?_ | refine OWp.loadM (k := 1) hh rfl rfl rfl rfl ?_ | refine OWp.loadM (k := 2) hh rfl rfl rfl rfl ?_ | refine OWp.loadM (k := 3) hh rfl rfl rfl rfl ?_ | refine OWp.loadM (k := 4) hh rfl rfl rfl rfl ?_ | refine OWp.loadM (k := 5) hh rfl rfl rfl rfl ?_ | refine OWp.loadM (k := 6) hh rfl rfl rfl rfl ?_
        first | refine OWp.loadM (k := 0) hh rfl rfl rfl rfl ?_ | refine OWp.loadM (k := 1) hh rfl rfl rfl rfl ?_ | refine OWp.loadM (k := 2) hh rfl rfl rfl rfl ?_ | refine OWp.loadM (k := 3) hh rfl rfl rfl rfl ?_ | refine OWp.loadM (k := 4) hh rfl rfl rfl rfl ?_ | refine OWp.loadM (k := 5) hh rfl rfl rfl rfl ?_ | refine OWp.loadM (k := 6) hh rfl rfl rfl rfl ?_
        refine OWp.eqM _ _ rfl rfl rfl rfl ?_
        refine OWp.pickT rfl rfl rfl ?_
        refine OWp.move rfl rfl ?_
        first | refine OWp.byT rfl (fun hg3 => ?_) (fun hg3 => ?_) | refine OWp.byBT rfl (fun hg3 => ?_) (fun hg3 => ?_)
        · skip
          first | rw [decide_eq_true hg3] | rw [decide_eq_false hg3] | rw [hg3] | skip
          try simp only [Decidable.not_not] at hg3
          refine OWp.move rfl rfl ?_
          first | refine OWp.loadM (k := 0) hh rfl rfl rfl rfl ?_ | refine OWp.loadM (k := 1) hh rfl rfl rfl rfl ?_ | refine OWp.loadM (k := 2) hh rfl rfl rfl rfl ?_ | refine OWp.loadM (k := 3) hh rfl rfl rfl rfl ?_ | refine OWp.loadM (k := 4) hh rfl rfl rfl rfl ?_ | refine OWp.loadM (k := 5) hh rfl rfl rfl rfl ?_ | refine OWp.loadM (k := 6) hh rfl rfl rfl rfl ?_
          refine OWp.call rfl rfl rfl rfl ?_
          refine right_spec _ (show SzM ⟨1, INDS.extract 0 c1, u, ⟨#[120]⟩, (c3 : Nat)⟩ from ⟨by show (INDS.extract 0 c1).size ≤ _; omega, by show u.size ≤ _; omega, show (1 : Nat) ≤ 9000000 by omega⟩) _ _ ?_ hh.wf
          intro Hh bh hkh hbh
          replace hh := hh.after hkh
          obtain rfl : bg = bh := Bool.eq_iff_iff.2 ((read_right htf hrg).trans hbh.symm)
          refine OWp.norm ?_
          refine OWp.eqlB rfl rfl Tryd.underlying4 rfl rfl ?_
          refine OWp.pickT rfl rfl rfl ?_
          refine OWp.move rfl rfl ?_
          first | refine OWp.byT rfl (fun hg4 => ?_) (fun hg4 => ?_) | refine OWp.byBT rfl (fun hg4 => ?_) (fun hg4 => ?_)
          · skip
            first | rw [decide_eq_true hg4] | rw [decide_eq_false hg4] | rw [hg4] | skip
            try simp only [Decidable.not_not] at hg4
            refine OWp.move rfl rfl ?_
            refine OWp.catS rfl rfl rfl rfl (by first | omega | (simp only [size_app, sz_0, sz_1, sz_2, sz_3, sz_4]; omega)) ?_
            refine OWp.call rfl rfl rfl rfl ?_
            refine is_spec _ (by first | omega | (simp only [size_app, sz_0, sz_1, sz_2, sz_3, sz_4]; omega)) _ _ ?_ hh.wf
            intro Hi mi bi hki hri
            replace hh := hh.after hki
            obtain rfl := no_blank hri
            refine OWp.norm ?_
            first | refine OWp.notD rfl rfl rfl ?_ | refine OWp.notB rfl rfl rfl ?_
            refine OWp.pickT rfl rfl rfl ?_
            refine OWp.move rfl rfl ?_
            first | refine OWp.byT rfl (fun hg5 => ?_) (fun hg5 => ?_) | refine OWp.byBT rfl (fun hg5 => ?_) (fun hg5 => ?_)
            · skip
              first | rw [decide_eq_true hg5] | rw [decide_eq_false hg5] | rw [hg5] | skip
              try simp only [Decidable.not_not] at hg5
              refine OWp.move rfl rfl ?_
              refine OWp.catS rfl rfl rfl rfl (by first | omega | (simp only [size_app, sz_0, sz_1, sz_2, sz_3, sz_4]; omega)) ?_
              refine OWp.call rfl rfl rfl rfl ?_
              refine is_spec _ (by first | omega | (simp only [size_app, sz_0, sz_1, sz_2, sz_3, sz_4]; omega)) _ _ ?_ hh.wf
              intro Hj mj bj hkj hrj
              replace hh := hh.after hkj
              refine OWp.norm ?_
              refine OWp.move rfl rfl ?_
              refine OWp.catS rfl rfl rfl rfl (by first | omega | (simp only [size_app, sz_0, sz_1, sz_2, sz_3, sz_4]; omega)) ?_
              refine OWp.call rfl rfl rfl rfl ?_
              refine isR_spec _ (by first | omega | (simp only [size_app, sz_0, sz_1, sz_2, sz_3, sz_4]; omega)) _ _ ?_ hh.wf
              intro Hk mk bk hkk hrk
              replace hh := hh.after hkk
              obtain ⟨_, rfl⟩ := hrj.unique hrk
              refine OWp.norm ?_
              refine OWp.eqlB rfl rfl Tryd.underlying4 rfl rfl ?_
              refine OWp.pickT rfl rfl rfl ?_
              refine OWp.move rfl rfl ?_
              first | refine OWp.byT rfl (fun hg6 => ?_) (fun hg6 => ?_) | refine OWp.byBT rfl (fun hg6 => ?_) (fun hg6 => ?_)
              · skip
                first | rw [decide_eq_true hg6] | rw [decide_eq_false hg6] | rw [hg6] | skip
                try simp only [Decidable.not_not] at hg6
                refine OWp.call rfl rfl rfl rfl ?_
                refine known_spec _ _ ?_
                refine OWp.norm ?_
                refine OWp.pickT rfl rfl rfl ?_
                refine OWp.assign rfl rfl ?_
                refine OWp.nil ?_
                refine CWp.ret ?_
                refine RetQ.one (by first | exact .inl rfl | exact .inr rfl) rfl rfl ?_
                exact h _
              · skip
                exfalso; revert hg6; simp
            · skip
              exfalso; revert hg5; simp
          · skip
            exfalso; revert hg4; simp
        · skip
          exfalso; revert hg3; simp
      · skip
        exfalso; revert hg2; simp
    · skip
      exfalso; revert hg1; simp
  · skip
    exfalso; revert hg0; simp

end Go.Proofs.YtllokljpacpafaaDoor.Ev
