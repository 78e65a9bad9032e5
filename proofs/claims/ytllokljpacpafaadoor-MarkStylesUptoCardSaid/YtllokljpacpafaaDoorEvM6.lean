import Derived.Test.YtllokljpacpafaaDoorEvM5
namespace Go.Proofs.YtllokljpacpafaaDoor.Ev
open Go
set_option linter.unusedVariables false
set_option linter.unusedSimpArgs false
set_option maxHeartbeats 4000000
theorem known_spec (H : AH) (Q : Value → AH → Prop) (h : Q (.bool true) H) : FWp Tryd.prog prims 10 [] H Q := FWp.prim rfl rfl h
def Bytes (l : List Value) : Prop := ∀ u, u ∈ l → ∃ n : Int, u = .int .u8 n
theorem bytes_nil : Bytes [] := fun u h => by simp at h
theorem bytes_snoc {l : List Value} (h : Bytes l) (n : Int) : Bytes (l ++ [.int .u8 n]) := fun u hu => by
  rcases List.mem_append.1 hu with k | k
  · exact h u k
  · simp at k; exact ⟨n, k⟩
theorem row_some {H : AH} {p : Option Addr} {l : List Value} (h : l = [] ∨ Row H p l) (h0 : 0 < l.length) : ∃ a, p = some a ∧ Row H (some a) l := by
  rcases h with rfl | h
  · simp at h0
  · cases p with
    | none => have : l = [] := h; subst this; simp at h0
    | some a => exact ⟨a, rfl, h⟩
def pieces : Array Value := #[.string ⟨#[32]⟩, .string ⟨#[35]⟩, .string ⟨#[47, 47]⟩, .string ⟨#[91, 91]⟩, .string ⟨#[93, 93]⟩, .string ⟨#[64, 91]⟩, .string ⟨#[93]⟩, .string ⟨#[58]⟩, .string ⟨#[97]⟩, .string ⟨#[48]⟩, .string ⟨#[49]⟩, .string ⟨#[9]⟩, .string ⟨#[35, 48]⟩, .string ⟨#[98, 32, 99]⟩, .string ⟨#[49, 50]⟩, .string ⟨#[59, 32]⟩]
theorem piece_get (c : Nat) (h : (c : Int) ≤ 15) : ∃ q : ByteArray, pieces.toList[((c : Int)).toNat]? = some (.string q) ∧ q.size ≤ 3 := by
  have hc : c ≤ 15 := by omega
  rw [Int.toNat_natCast]
  match c, hc with
  | 0, _ => exact ⟨_, rfl, by decide⟩
  | 1, _ => exact ⟨_, rfl, by decide⟩
  | 2, _ => exact ⟨_, rfl, by decide⟩
  | 3, _ => exact ⟨_, rfl, by decide⟩
  | 4, _ => exact ⟨_, rfl, by decide⟩
  | 5, _ => exact ⟨_, rfl, by decide⟩
  | 6, _ => exact ⟨_, rfl, by decide⟩
  | 7, _ => exact ⟨_, rfl, by decide⟩
  | 8, _ => exact ⟨_, rfl, by decide⟩
  | 9, _ => exact ⟨_, rfl, by decide⟩
  | 10, _ => exact ⟨_, rfl, by decide⟩
  | 11, _ => exact ⟨_, rfl, by decide⟩
  | 12, _ => exact ⟨_, rfl, by decide⟩
  | 13, _ => exact ⟨_, rfl, by decide⟩
  | 14, _ => exact ⟨_, rfl, by decide⟩
  | 15, _ => exact ⟨_, rfl, by decide⟩
theorem sz_0 : (⟨#[]⟩ : ByteArray).size = 0 := rfl
theorem sz_4 (a b c d : UInt8) : (⟨#[a, b, c, d]⟩ : ByteArray).size = 4 := rfl
theorem sz_3 (a b c : UInt8) : (⟨#[a, b, c]⟩ : ByteArray).size = 3 := rfl
theorem tmod3 (k : Int) : -2 ≤ k.tmod 3 ∧ k.tmod 3 ≤ 2 := by
  rcases Int.le_total 0 k with h | h
  · rw [Int.tmod_eq_emod_of_nonneg h]; omega
  · have e : k.tmod 3 = -((-k).tmod 3) := by rw [Int.neg_tmod, Int.neg_neg]
    rw [e, Int.tmod_eq_emod_of_nonneg (by omega)]; omega
theorem text_read {a x : Mk} {t : ByteArray} {ok : Bool} (hr : RightM a) (ht : TextOf a t) (h : ReadOk t x ok) : a = x ∧ true = ok :=
  ReadOk.unique ⟨fun _ => ⟨hr, (ht.1 hr).symm⟩, fun e => by cases e⟩ h

theorem same_spec (s : ByteArray) (hs : s.size ≤ 9000000) (m : Mk) (hm : SzM m) (H : AH) (Q : Value → AH → Prop) (h : ∀ H', Keeps H H' → Q (.bool true) H') (hw : WfH H) : FWp Tryd.prog prims 8 [.string s, m.v] H Q := by
  have hh := Has.start hw
  refine FWp.enter (rfl) Tryd.func8 rfl (e := [.string s, m.v, undef, undef, undef, undef, undef, undef, undef, undef, undef, undef, undef, undef, undef, undef, undef, undef, undef, undef, undef, undef, undef, undef, undef, undef, undef, undef, undef, undef, undef, undef, undef, undef, undef, undef, undef, undef, undef, undef, undef, undef, undef, undef, undef, undef, undef]) rfl ?_
  refine CWp.seq ?_
  refine CWp.region ?_
  refine OWp.boxM _ hh rfl rfl rfl (fun H3 b3 hh => ?_)
  refine OWp.norm ?_
  refine OWp.assign rfl rfl ?_
  refine OWp.nil ?_
  refine CWp.seq ?_
  refine CWp.region ?_
  refine OWp.move rfl rfl ?_
  refine OWp.call rfl rfl rfl rfl ?_
  refine read_spec _ (by first | omega | (simp only [size_app, sz_0, sz_1, sz_2, sz_3, sz_4]; omega)) _ _ ?_ hh.wf
  intro Ha ma ba hka hra
  replace hh := hh.after hka
  refine OWp.norm ?_
  refine OWp.move rfl rfl ?_
  refine OWp.extract rfl rfl rfl rfl ?_
  refine OWp.extract rfl rfl rfl rfl ?_
  refine OWp.allocM hh rfl rfl (fun H5 b5 hh => ?_)
  refine OWp.norm ?_
  first | refine OWp.storeM (k := 0) hh rfl rfl rfl rfl rfl (fun H4 hh => ?_) | refine OWp.storeM (k := 1) hh rfl rfl rfl rfl rfl (fun H4 hh => ?_) | refine OWp.storeM (k := 2) hh rfl rfl rfl rfl rfl (fun H4 hh => ?_)
  simp only [List.set_cons_zero, List.set_cons_succ] at hh
  refine OWp.norm ?_
  refine OWp.assign rfl rfl ?_
  refine OWp.nil ?_
  refine CWp.seq ?_
  refine CWp.region ?_
  refine OWp.move rfl rfl ?_
  refine OWp.call rfl rfl rfl rfl ?_
  refine readR_spec _ (by first | omega | (simp only [size_app, sz_0, sz_1, sz_2, sz_3, sz_4]; omega)) _ _ ?_ hh.wf
  intro Hb mb bb hkb hrb
  replace hh := hh.after hkb
  obtain ⟨rfl, rfl⟩ := hra.unique hrb
  refine OWp.norm ?_
  refine OWp.move rfl rfl ?_
  refine OWp.extract rfl rfl rfl rfl ?_
  refine OWp.extract rfl rfl rfl rfl ?_
  refine OWp.allocM hh rfl rfl (fun H7 b7 hh => ?_)
  refine OWp.norm ?_
  first | refine OWp.storeM (k := 0) hh rfl rfl rfl rfl rfl (fun H4 hh => ?_) | refine OWp.storeM (k := 1) hh rfl rfl rfl rfl rfl (fun H4 hh => ?_) | refine OWp.storeM (k := 2) hh rfl rfl rfl rfl rfl (fun H4 hh => ?_)
  simp only [List.set_cons_zero, List.set_cons_succ] at hh
  refine OWp.norm ?_
  refine OWp.assign rfl rfl ?_
  refine OWp.nil ?_
  refine CWp.seq ?_
  refine CWp.drawnN (by kernel_rfl) ?_
  have hhS := hh
  have hkS := Keeps.refl hh.wf
  first | refine OWp.loadM (k := 0) hh rfl rfl rfl rfl ?_ | refine OWp.loadM (k := 1) hh rfl rfl rfl rfl ?_ | refine OWp.loadM (k := 2) hh rfl rfl rfl rfl ?_
  first | refine OWp.loadM (k := 0) hh rfl rfl rfl rfl ?_ | refine OWp.loadM (k := 1) hh rfl rfl rfl rfl ?_ | refine OWp.loadM (k := 2) hh rfl rfl rfl rfl ?_
  refine OWp.eqM _ _ rfl rfl rfl rfl ?_
  refine OWp.move rfl rfl ?_
  first | refine OWp.byT rfl (fun hg0 => ?_) (fun hg0 => ?_) | refine OWp.byBT rfl (fun hg0 => ?_) (fun hg0 => ?_)
  · skip
    first | rw [decide_eq_true hg0] | rw [decide_eq_false hg0] | rw [hg0] | skip
    try simp only [Decidable.not_not] at hg0
    refine OWp.move rfl rfl ?_
    refine OWp.move rfl rfl ?_
    refine OWp.eqlB rfl rfl Tryd.underlying4 rfl rfl ?_
    refine OWp.pickT rfl rfl rfl ?_
    refine OWp.move rfl rfl ?_
    first | refine OWp.byT rfl (fun hg1 => ?_) (fun hg1 => ?_) | refine OWp.byBT rfl (fun hg1 => ?_) (fun hg1 => ?_)
    · skip
      first | rw [decide_eq_true hg1] | rw [decide_eq_false hg1] | rw [hg1] | skip
      try simp only [Decidable.not_not] at hg1
      refine OWp.move rfl rfl ?_
      refine OWp.call rfl rfl rfl rfl ?_
      refine is_spec _ (by first | omega | (simp only [size_app, sz_0, sz_1, sz_2, sz_3, sz_4]; omega)) _ _ ?_ hh.wf
      intro Hc mc bc hkc hrc
      replace hh := hh.after hkc
      replace hkS := hkS.trans hkc hhS.wf
      obtain ⟨_, rfl⟩ := hra.unique hrc
      refine OWp.norm ?_
      refine OWp.move rfl rfl ?_
      refine OWp.eqlB rfl rfl Tryd.underlying4 rfl rfl ?_
      refine OWp.pickT rfl rfl rfl ?_
      refine OWp.move rfl rfl ?_
      first | refine OWp.byT rfl (fun hg2 => ?_) (fun hg2 => ?_) | refine OWp.byBT rfl (fun hg2 => ?_) (fun hg2 => ?_)
      · skip
        first | rw [decide_eq_true hg2] | rw [decide_eq_false hg2] | rw [hg2] | skip
        try simp only [Decidable.not_not] at hg2
        first | refine OWp.loadM (k := 0) hh rfl rfl rfl rfl ?_ | refine OWp.loadM (k := 1) hh rfl rfl rfl rfl ?_ | refine OWp.loadM (k := 2) hh rfl rfl rfl rfl ?_
        refine OWp.call rfl rfl rfl rfl ?_
        refine right_spec _ hm _ _ ?_ hh.wf
        intro Hd bd hkd hbd
        replace hh := hh.after hkd
        replace hkS := hkS.trans hkd hhS.wf
        refine OWp.norm ?_
        first | refine OWp.loadM (k := 0) hh rfl rfl rfl rfl ?_ | refine OWp.loadM (k := 1) hh rfl rfl rfl rfl ?_ | refine OWp.loadM (k := 2) hh rfl rfl rfl rfl ?_
        refine OWp.call rfl rfl rfl rfl ?_
        refine rightR_spec _ hm _ _ ?_ hh.wf
        intro He be hke hbe
        replace hh := hh.after hke
        replace hkS := hkS.trans hke hhS.wf
        obtain rfl : bd = be := Bool.eq_iff_iff.2 (hbd.trans hbe.symm)
        refine OWp.norm ?_
        refine OWp.eqlB rfl rfl Tryd.underlying4 rfl rfl ?_
        refine OWp.pickT rfl rfl rfl ?_
        refine OWp.move rfl rfl ?_
        first | refine OWp.byT rfl (fun hg3 => ?_) (fun hg3 => ?_) | refine OWp.byBT rfl (fun hg3 => ?_) (fun hg3 => ?_)
        · skip
          first | rw [decide_eq_true hg3] | rw [decide_eq_false hg3] | rw [hg3] | skip
          try simp only [Decidable.not_not] at hg3
          first | refine OWp.loadM (k := 0) hh rfl rfl rfl rfl ?_ | refine OWp.loadM (k := 1) hh rfl rfl rfl rfl ?_ | refine OWp.loadM (k := 2) hh rfl rfl rfl rfl ?_
          refine OWp.call rfl rfl rfl rfl ?_
          refine text_spec _ hm _ _ ?_ hh.wf
          intro Hf tf hkf htf
          have hzf := htf.size
          replace hh := hh.after hkf
          replace hkS := hkS.trans hkf hhS.wf
          refine OWp.norm ?_
          first | refine OWp.loadM (k := 0) hh rfl rfl rfl rfl ?_ | refine OWp.loadM (k := 1) hh rfl rfl rfl rfl ?_ | refine OWp.loadM (k := 2) hh rfl rfl rfl rfl ?_
          refine OWp.call rfl rfl rfl rfl ?_
          refine textR_spec _ hm _ _ ?_ hh.wf
          intro Hg tg hkg htg
          have hzg := htg.size
          replace hh := hh.after hkg
          replace hkS := hkS.trans hkg hhS.wf
          obtain rfl := htf.unique htg
          refine OWp.norm ?_
          refine OWp.binS rfl rfl rfl rfl rfl ?_
          refine OWp.pickT rfl rfl rfl ?_
          refine OWp.assign rfl rfl ?_
          refine OWp.nil ?_
          refine ⟨still_all (L := [.pointer (some ⟨b5, 0, none⟩), .pointer (some ⟨b7, 0, none⟩), .pointer (some ⟨b3, 0, none⟩), .pointer (some ⟨b3, 0, none⟩), .pointer (some ⟨b3, 0, none⟩), .pointer (some ⟨b3, 0, none⟩)]) rfl (by simp only [List.all_cons, List.all_nil, Bool.and_true, Bool.and_eq_true]; first | rfl | (refine ⟨?_, ?_, ?_, ?_, ?_, ?_⟩ <;> first | rfl | exact still_has (k := 0) hhS rfl hkS | exact still_has (k := 1) hhS rfl hkS | exact still_has (k := 2) hhS rfl hkS) | exact still_has (k := 0) hhS rfl hkS | exact still_has (k := 1) hhS rfl hkS | exact still_has (k := 2) hhS rfl hkS), ?_⟩
          refine CWp.ret ?_
          refine RetQ.one (by first | exact .inl rfl | exact .inr rfl) rfl rfl ?_
          exact Q_bool (h _ hh.keep) (by simp)
        · skip
          first | exact absurd rfl hg3 | exact absurd trivial hg3
      · skip
        first | exact absurd rfl hg2 | exact absurd trivial hg2
    · skip
      first | exact absurd rfl hg1 | exact absurd trivial hg1
  · skip
    first | exact absurd rfl hg0 | exact absurd trivial hg0

theorem made_spec (l : List Value) (hl : Bytes l) (p : Option Addr) (c : Nat) (H : AH) (Q : Value → AH → Prop) (h : ∀ H' (t : ByteArray), Keeps H H' → t.size ≤ 72 → Q (.string t) H') (hv : l = [] ∨ Row H p l) (hlen : l.length ≤ 9223372036854775807) (hw : WfH H) : FWp Tryd.prog prims 7 [.slice p l.length c] H Q := by
  have hs5 : szT Tryd.prog 5 = 1 := by kernel_rfl
  have hs9 : szT Tryd.prog 9 = 1 := by kernel_rfl
  refine FWp.enter (rfl) Tryd.func7 rfl (e := [.slice p l.length c, undef, undef, undef, undef, undef, undef, undef, undef, undef, undef, undef, undef, undef, undef, undef, undef, undef, undef, undef, undef, undef, undef, undef, undef, undef]) rfl ?_
  refine CWp.seq ?_
  refine CWp.region ?_
  refine OWp.assign rfl rfl ?_
  refine OWp.nil ?_
  refine CWp.seq ?_
  refine CWp.region ?_
  refine OWp.assign rfl rfl ?_
  refine OWp.nil ?_
  refine CWp.seq ?_
  refine CWp.seq ?_
  refine CWp.region ?_
  refine OWp.assign rfl rfl ?_
  refine OWp.nil ?_
  refine CWp.block ?_
  refine CWp.loop (fun k e H' => ∃ (x : ByteArray) (i : Nat) (g : Nat → Value), e = [.slice p l.length c, g 1, g 2, .string x, .int .i64 (i : Nat), g 5, g 6, g 7, g 8, g 9, g 10, g 11, g 12, g 13, g 14, g 15, g 16, g 17, g 18, g 19, g 20, g 21, g 22, g 23, g 24, g 25] ∧ k = 24 - i ∧ WfH H' ∧ Keeps H H' ∧ x.size ≤ 3 * i ∧ i ≤ 24) ?_ ?_
  · exact ⟨_, ⟨#[]⟩, 0, ex_env rfl ⟨rfl, hw, Keeps.refl hw, by decide, by decide⟩⟩
  · rintro k e H' ⟨x, i, g, rfl, rfl, hw', hk', hx, hi⟩
    refine CWp.seq ?_
    refine CWp.seq ?_
    refine CWp.region ?_
    refine OWp.move rfl rfl ?_
    refine OWp.move rfl rfl ?_
    refine OWp.lenSl rfl rfl rfl rfl rfl Tryd.underlying22 rfl ?_
    refine OWp.binI rfl rfl rfl rfl rfl ?_
    refine OWp.move rfl rfl ?_
    first | refine OWp.byT rfl (fun hg1 => ?_) (fun hg1 => ?_) | refine OWp.byBT rfl (fun hg1 => ?_) (fun hg1 => ?_)
    · skip
      first | rw [decide_eq_true hg1] | rw [decide_eq_false hg1] | rw [hg1] | skip
      try simp only [Decidable.not_not] at hg1
      refine OWp.move rfl rfl ?_
      refine OWp.binI rfl rfl rfl rfl rfl ?_
      refine OWp.pickT rfl rfl rfl ?_
      refine OWp.nil ?_
      first | refine CWp.condP rfl (fun h2 => ?_) (fun h2 => ?_) | refine CWp.cond rfl (fun h2 => ?_) (fun h2 => ?_)
      · skip
        have hlt : i < l.length := by omega
        obtain ⟨a, rfl, hrow⟩ := row_some hv (by omega)
        obtain ⟨n, hn⟩ := hl _ (List.getElem_mem hlt)
        have hget : l[i]? = some (.int .u8 n) := by rw [List.getElem?_eq_getElem hlt, hn]
        first | rw [decide_eq_true h2] | rw [decide_eq_false h2] | rw [h2] | skip
        refine CWp.skip ?_
        refine CWp.seq ?_
        refine CWp.block ?_
        refine CWp.region ?_
        refine OWp.move rfl rfl ?_
        refine OWp.buildSl hw' rfl rfl rfl (t' := 9) (cells := pieces) (by kernel_rfl) (fun H2 c2 hw2 hk2 hc2 ho2 => ?_)
        refine OWp.norm ?_
        have hrow2 := hrow.sees ((hk'.trans hk2 hw).sees hw)
        refine OWp.move rfl rfl ?_
        refine OWp.move rfl rfl ?_
        refine OWp.indexAddrSl1 rfl rfl Tryd.underlying22 hs5 rfl rfl (by omega) (by omega) ?_
        refine OWp.loadRow rfl rfl Tryd.underlying5 rfl rfl hrow2 hget ?_
        refine OWp.andR rfl rfl rfl rfl (.inl rfl) (by omega) (fun c3 hc3 => ?_)
        refine OWp.norm ?_
        obtain ⟨q, hq, hq6⟩ := piece_get c3 hc3
        refine OWp.indexAddrSl1 rfl rfl Tryd.underlying24 hs9 rfl rfl (by omega) (by omega) ?_
        refine OWp.loadRow rfl rfl Tryd.underlying9 rfl rfl ho2.row (v := .string q) hq ?_
        refine OWp.catS rfl rfl rfl rfl (by first | omega | (simp only [size_app, sz_0, sz_1, sz_2, sz_3, sz_4]; omega)) ?_
        refine OWp.assign rfl rfl ?_
        refine OWp.nil ?_
        refine CWp.region ?_
        refine OWp.move rfl rfl ?_
        refine OWp.addI rfl rfl rfl rfl (by first | omega | (simp only [size_app, sz_0, sz_1, sz_2, sz_3, sz_4]; omega)) ?_
        refine OWp.assign rfl rfl ?_
        refine OWp.nil ?_
        exact ⟨_, by omega, x ++ q, i + 1, ex_env rfl ⟨rfl, hw2, hk'.trans hk2 hw, by rw [ByteArray.size_append]; omega, by omega⟩⟩
      · skip
        first | rw [decide_eq_true h2] | rw [decide_eq_false h2] | rw [h2] | skip
        refine CWp.exit ?_
        refine CWp.seq ?_
        refine CWp.region ?_
        refine OWp.move rfl rfl ?_
        refine OWp.assign rfl rfl ?_
        refine OWp.nil ?_
        refine CWp.ret ?_
        refine RetQ.one (by first | exact .inl rfl | exact .inr rfl) rfl rfl ?_
        exact h _ _ hk' (by omega)
    · skip
      first | rw [decide_eq_true hg1] | rw [decide_eq_false hg1] | rw [hg1] | skip
      try simp only [Decidable.not_not] at hg1
      refine OWp.leave rfl ?_
      refine OWp.leave rfl ?_
      refine OWp.pickF rfl rfl rfl ?_
      refine OWp.nil ?_
      refine CWp.condF rfl ?_
      refine CWp.exit ?_
      refine CWp.seq ?_
      refine CWp.region ?_
      refine OWp.move rfl rfl ?_
      refine OWp.assign rfl rfl ?_
      refine OWp.nil ?_
      refine CWp.ret ?_
      refine RetQ.one (by first | exact .inl rfl | exact .inr rfl) rfl rfl ?_
      exact h _ _ hk' (by omega)

theorem madeV_spec (l : List Value) (hl : Bytes l) (ks : Value) (H : AH) (Q : Value → AH → Prop) (h : ∀ H' (t : ByteArray), Keeps H H' → t.size ≤ 72 → Q (.string t) H') (hv : View H ks l) (hlen : l.length ≤ 9223372036854775807) (hw : WfH H) : FWp Tryd.prog prims 7 [ks] H Q := by
  obtain ⟨p, c, rfl, h1⟩ := hv
  exact made_spec l hl p c H Q h h1 hlen hw

theorem tells_spec (s : ByteArray) (hs : s.size ≤ 1048576) (l : List Value) (hl : Bytes l) (ks : Value) (m : Mk) (hm : SzM m) (kind n : Int) (H : AH) (Q : Value → AH → Prop) (h : ∀ H', Q (.bool true) H') (hv : View H ks l) (hlen : l.length ≤ 9223372036854775807) (hw : WfH H) : FWp Tryd.prog prims 4 [.string s, ks, m.v, .int .i64 kind, .int .i64 n] H Q := by
  have hh := Has.start hw
  refine FWp.enter (rfl) Tryd.func4 rfl (e := [.string s, ks, m.v, .int .i64 kind, .int .i64 n, undef, undef, undef, undef, undef, undef, undef, undef, undef, undef, undef, undef, undef, undef, undef, undef, undef, undef, undef, undef, undef, undef, undef, undef, undef, undef, undef, undef, undef, undef, undef, undef, undef, undef, undef, undef, undef, undef, undef, undef, undef, undef, undef, undef, undef, undef, undef, undef, undef, undef, undef, undef, undef]) rfl ?_
  refine CWp.seq ?_
  refine CWp.region ?_
  refine OWp.boxM _ hh rfl rfl rfl (fun H7 b7 hh => ?_)
  refine OWp.norm ?_
  refine OWp.assign rfl rfl ?_
  refine OWp.nil ?_
  refine CWp.seq ?_
  refine CWp.region ?_
  first | refine OWp.loadM (k := 0) hh rfl rfl rfl rfl ?_ | refine OWp.loadM (k := 1) hh rfl rfl rfl rfl ?_ | refine OWp.loadM (k := 2) hh rfl rfl rfl rfl ?_
  refine OWp.allocM hh rfl rfl (fun H11 b11 hh => ?_)
  refine OWp.norm ?_
  first | refine OWp.storeM (k := 0) hh rfl rfl rfl rfl rfl (fun H4 hh => ?_) | refine OWp.storeM (k := 1) hh rfl rfl rfl rfl rfl (fun H4 hh => ?_) | refine OWp.storeM (k := 2) hh rfl rfl rfl rfl rfl (fun H4 hh => ?_)
  simp only [List.set_cons_zero, List.set_cons_succ] at hh
  refine OWp.norm ?_
  refine OWp.nil ?_
  refine CWp.seq ?_
  refine CWp.region ?_
  refine OWp.move rfl rfl ?_
  refine OWp.remK rfl rfl rfl rfl (by decide) ?_
  obtain ⟨k3, hk3⟩ : ∃ k3, k3 = kind.tmod 3 := ⟨_, rfl⟩
  have hk4 := tmod3 kind
  rw [← hk3] at hk4 ⊢
  refine OWp.addI rfl rfl rfl rfl (by first | omega | (simp only [size_app, sz_0, sz_1, sz_2, sz_3, sz_4]; omega)) ?_
  refine OWp.remK rfl rfl rfl rfl (by decide) ?_
  obtain ⟨k5, hk5⟩ : ∃ k5, k5 = (k3 + 3).tmod 3 := ⟨_, rfl⟩
  have hk6 := tmod3 (k3 + 3)
  rw [← hk5] at hk6 ⊢
  refine OWp.addI rfl rfl rfl rfl (by first | omega | (simp only [size_app, sz_0, sz_1, sz_2, sz_3, sz_4]; omega)) ?_
  refine OWp.move rfl rfl ?_
  refine OWp.andM rfl rfl rfl rfl (by omega) (fun c hc => ?_)
  refine OWp.norm ?_
  refine OWp.fieldN 0 (by decide) rfl rfl rfl ?_
  first | refine OWp.storeF0 (k := 0) hh rfl rfl rfl rfl rfl (fun H4 hh => ?_) | refine OWp.storeF0 (k := 1) hh rfl rfl rfl rfl rfl (fun H4 hh => ?_) | refine OWp.storeF0 (k := 2) hh rfl rfl rfl rfl rfl (fun H4 hh => ?_)
  simp only [List.set_cons_zero, List.set_cons_succ] at hh
  refine OWp.norm ?_
  refine OWp.fieldN 4 (by decide) rfl rfl rfl ?_
  first | refine OWp.storeF4 (k := 0) hh rfl rfl rfl rfl rfl (fun H4 hh => ?_) | refine OWp.storeF4 (k := 1) hh rfl rfl rfl rfl rfl (fun H4 hh => ?_) | refine OWp.storeF4 (k := 2) hh rfl rfl rfl rfl rfl (fun H4 hh => ?_)
  simp only [List.set_cons_zero, List.set_cons_succ] at hh
  refine OWp.norm ?_
  refine OWp.nil ?_
  refine CWp.seq ?_
  refine CWp.region ?_
  first | refine OWp.loadM (k := 0) hh rfl rfl rfl rfl ?_ | refine OWp.loadM (k := 1) hh rfl rfl rfl rfl ?_ | refine OWp.loadM (k := 2) hh rfl rfl rfl rfl ?_
  refine OWp.allocM hh rfl rfl (fun H12 b12 hh => ?_)
  refine OWp.norm ?_
  first | refine OWp.storeM (k := 0) hh rfl rfl rfl rfl rfl (fun H4 hh => ?_) | refine OWp.storeM (k := 1) hh rfl rfl rfl rfl rfl (fun H4 hh => ?_) | refine OWp.storeM (k := 2) hh rfl rfl rfl rfl rfl (fun H4 hh => ?_)
  simp only [List.set_cons_zero, List.set_cons_succ] at hh
  refine OWp.norm ?_
  refine OWp.nil ?_
  refine CWp.seq ?_
  refine CWp.region ?_
  refine OWp.fieldN 1 (by decide) rfl rfl rfl ?_
  first | refine OWp.storeF1 (k := 0) hh rfl rfl rfl rfl rfl (fun H4 hh => ?_) | refine OWp.storeF1 (k := 1) hh rfl rfl rfl rfl rfl (fun H4 hh => ?_) | refine OWp.storeF1 (k := 2) hh rfl rfl rfl rfl rfl (fun H4 hh => ?_)
  simp only [List.set_cons_zero, List.set_cons_succ] at hh
  refine OWp.norm ?_
  refine OWp.fieldN 2 (by decide) rfl rfl rfl ?_
  first | refine OWp.storeF2 (k := 0) hh rfl rfl rfl rfl rfl (fun H4 hh => ?_) | refine OWp.storeF2 (k := 1) hh rfl rfl rfl rfl rfl (fun H4 hh => ?_) | refine OWp.storeF2 (k := 2) hh rfl rfl rfl rfl rfl (fun H4 hh => ?_)
  simp only [List.set_cons_zero, List.set_cons_succ] at hh
  refine OWp.norm ?_
  refine OWp.nil ?_
  refine CWp.seq ?_
  refine CWp.drawnN (by kernel_rfl) ?_
  have hhS := hh
  have hkS := Keeps.refl hh.wf
  refine OWp.move rfl rfl ?_
  first | refine OWp.loadM (k := 0) hh rfl rfl rfl rfl ?_ | refine OWp.loadM (k := 1) hh rfl rfl rfl rfl ?_ | refine OWp.loadM (k := 2) hh rfl rfl rfl rfl ?_
  refine OWp.call rfl rfl rfl rfl ?_
  refine same_spec _ (by first | omega | (simp only [size_app, sz_0, sz_1, sz_2, sz_3, sz_4]; omega)) _ hm _ _ ?_ hh.wf
  intro Ha hka
  replace hh := hh.after hka
  replace hkS := hkS.trans hka hhS.wf
  refine OWp.norm ?_
  refine OWp.move rfl rfl ?_
  refine OWp.move rfl rfl ?_
  refine OWp.call rfl rfl rfl rfl ?_
  refine madeV_spec l hl _ _ _ ?_ (hv.sees (hh.keep.sees hw)) hlen hh.wf
  intro Hb tb hkb hzb
  replace hh := hh.after hkb
  replace hkS := hkS.trans hkb hhS.wf
  refine OWp.norm ?_
  first | refine OWp.loadM (k := 0) hh rfl rfl rfl rfl ?_ | refine OWp.loadM (k := 1) hh rfl rfl rfl rfl ?_ | refine OWp.loadM (k := 2) hh rfl rfl rfl rfl ?_
  refine OWp.call rfl rfl rfl rfl ?_
  refine same_spec _ (by first | omega | (simp only [size_app, sz_0, sz_1, sz_2, sz_3, sz_4]; omega)) _ (show SzM ⟨1 + k5, m.ind, m.sty, m.nam, (c : Nat)⟩ from hm) _ _ ?_ hh.wf
  intro Hc hkc
  replace hh := hh.after hkc
  replace hkS := hkS.trans hkc hhS.wf
  refine OWp.norm ?_
  refine OWp.pickT rfl rfl rfl ?_
  refine OWp.move rfl rfl ?_
  first | refine OWp.loadM (k := 0) hh rfl rfl rfl rfl ?_ | refine OWp.loadM (k := 1) hh rfl rfl rfl rfl ?_ | refine OWp.loadM (k := 2) hh rfl rfl rfl rfl ?_
  refine OWp.call rfl rfl rfl rfl ?_
  refine textR_spec _ (show SzM ⟨1 + k5, ⟨#[32, 32]⟩, ⟨#[47, 47]⟩, m.nam, (c : Nat)⟩ from ⟨show (2 : Nat) ≤ 9000000 by omega, show (2 : Nat) ≤ 9000000 by omega, hm.2.2⟩) _ _ ?_ hh.wf
  intro Hd td hkd htd
  have hzd := htd.size
  replace hh := hh.after hkd
  replace hkS := hkS.trans hkd hhS.wf
  have hz9 : td.size ≤ 102 := hzd
  refine OWp.norm ?_
  first | refine OWp.loadM (k := 0) hh rfl rfl rfl rfl ?_ | refine OWp.loadM (k := 1) hh rfl rfl rfl rfl ?_ | refine OWp.loadM (k := 2) hh rfl rfl rfl rfl ?_
  refine OWp.call rfl rfl rfl rfl ?_
  refine same_spec _ (by first | omega | (simp only [size_app, sz_0, sz_1, sz_2, sz_3, sz_4]; omega)) _ (show SzM ⟨1 + k5, ⟨#[32, 32]⟩, ⟨#[47, 47]⟩, m.nam, (c : Nat)⟩ from ⟨show (2 : Nat) ≤ 9000000 by omega, show (2 : Nat) ≤ 9000000 by omega, hm.2.2⟩) _ _ ?_ hh.wf
  intro He hke
  replace hh := hh.after hke
  replace hkS := hkS.trans hke hhS.wf
  refine OWp.norm ?_
  refine OWp.pickT rfl rfl rfl ?_
  refine OWp.move rfl rfl ?_
  refine OWp.move rfl rfl ?_
  refine OWp.catS rfl rfl rfl rfl (by first | omega | (simp only [size_app, sz_0, sz_1, sz_2, sz_3, sz_4]; omega)) ?_
  first | refine OWp.loadM (k := 0) hh rfl rfl rfl rfl ?_ | refine OWp.loadM (k := 1) hh rfl rfl rfl rfl ?_ | refine OWp.loadM (k := 2) hh rfl rfl rfl rfl ?_
  refine OWp.call rfl rfl rfl rfl ?_
  refine same_spec _ (by first | omega | (simp only [size_app, sz_0, sz_1, sz_2, sz_3, sz_4]; omega)) _ (show SzM ⟨1 + k5, ⟨#[32, 32]⟩, ⟨#[47, 47]⟩, m.nam, (c : Nat)⟩ from ⟨show (2 : Nat) ≤ 9000000 by omega, show (2 : Nat) ≤ 9000000 by omega, hm.2.2⟩) _ _ ?_ hh.wf
  intro Hf hkf
  replace hh := hh.after hkf
  replace hkS := hkS.trans hkf hhS.wf
  refine OWp.norm ?_
  refine OWp.pickT rfl rfl rfl ?_
  refine OWp.move rfl rfl ?_
  first | refine OWp.loadM (k := 0) hh rfl rfl rfl rfl ?_ | refine OWp.loadM (k := 1) hh rfl rfl rfl rfl ?_ | refine OWp.loadM (k := 2) hh rfl rfl rfl rfl ?_
  refine OWp.call rfl rfl rfl rfl ?_
  refine textR_spec _ (show SzM ⟨1 + k5, ⟨#[32, 32]⟩, ⟨#[47, 47]⟩, m.nam, (c : Nat)⟩ from ⟨show (2 : Nat) ≤ 9000000 by omega, show (2 : Nat) ≤ 9000000 by omega, hm.2.2⟩) _ _ ?_ hh.wf
  intro Hg tg hkg htg
  have hzg := htg.size
  replace hh := hh.after hkg
  replace hkS := hkS.trans hkg hhS.wf
  have hz8 : tg.size ≤ 102 := hzg
  refine OWp.norm ?_
  refine OWp.move rfl rfl ?_
  refine OWp.catS rfl rfl rfl rfl (by first | omega | (simp only [size_app, sz_0, sz_1, sz_2, sz_3, sz_4]; omega)) ?_
  first | refine OWp.loadM (k := 0) hh rfl rfl rfl rfl ?_ | refine OWp.loadM (k := 1) hh rfl rfl rfl rfl ?_ | refine OWp.loadM (k := 2) hh rfl rfl rfl rfl ?_
  refine OWp.call rfl rfl rfl rfl ?_
  refine same_spec _ (by first | omega | (simp only [size_app, sz_0, sz_1, sz_2, sz_3, sz_4]; omega)) _ (show SzM ⟨1 + k5, ⟨#[32, 32]⟩, ⟨#[47, 47]⟩, m.nam, (c : Nat)⟩ from ⟨show (2 : Nat) ≤ 9000000 by omega, show (2 : Nat) ≤ 9000000 by omega, hm.2.2⟩) _ _ ?_ hh.wf
  intro Hi hki
  replace hh := hh.after hki
  replace hkS := hkS.trans hki hhS.wf
  refine OWp.norm ?_
  refine OWp.pickT rfl rfl rfl ?_
  refine OWp.move rfl rfl ?_
  refine OWp.call rfl rfl rfl rfl ?_
  refine known_spec _ _ ?_
  refine OWp.norm ?_
  refine OWp.pickT rfl rfl rfl ?_
  refine OWp.assign rfl rfl ?_
  refine OWp.nil ?_
  refine ⟨still_all (L := [.pointer (some ⟨b7, 0, none⟩), .pointer (some ⟨b11, 0, none⟩), .pointer (some ⟨b12, 0, none⟩), .pointer (some ⟨b12, 0, none⟩), .pointer (some ⟨b12, 0, none⟩), .pointer (some ⟨b12, 0, none⟩), .pointer (some ⟨b12, 0, none⟩)]) rfl (by simp only [List.all_cons, List.all_nil, Bool.and_true, Bool.and_eq_true]; first | rfl | (refine ⟨?_, ?_, ?_, ?_, ?_, ?_, ?_⟩ <;> first | rfl | exact still_has (k := 0) hhS rfl hkS | exact still_has (k := 1) hhS rfl hkS | exact still_has (k := 2) hhS rfl hkS) | exact still_has (k := 0) hhS rfl hkS | exact still_has (k := 1) hhS rfl hkS | exact still_has (k := 2) hhS rfl hkS), ?_⟩
  refine CWp.ret ?_
  refine RetQ.one (by first | exact .inl rfl | exact .inr rfl) rfl rfl ?_
  exact h _

end Go.Proofs.YtllokljpacpafaaDoor.Ev
