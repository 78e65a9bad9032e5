import Derived.Test.YtaelmnkddedddaaDoorEvR1p
import Derived.Test.YtaelmnkddedddaaDoorEvSymX
namespace Go.Proofs.YtaelmnkddedddaaDoor.Ev
open Go
set_option linter.unusedVariables false
set_option linter.unusedSimpArgs false
theorem known_spec (H : AH) (Q : Value → AH → Prop) (h : Q (.bool true) H) : FWp Tryd.prog prims 9 [] H Q := FWp.prim rfl rfl h
def pieces : Array Value := #[.string ⟨#[32]⟩, .string ⟨#[9]⟩, .string ⟨#[60, 60]⟩, .string ⟨#[62, 62]⟩, .string ⟨#[97]⟩, .string ⟨#[92]⟩, .string ⟨#[60]⟩, .string ⟨#[62]⟩, .string ⟨#[60, 60, 97, 62, 62]⟩, .string ⟨#[98, 32, 99]⟩, .string ⟨#[92, 92]⟩, .string ⟨#[195, 169]⟩, .string ⟨#[35]⟩, .string ⟨#[60, 60, 110, 48, 62, 62]⟩, .string ⟨#[32]⟩, .string ⟨#[255]⟩]
def pieceB : Value → Bool
  | .string q => decide (q.size ≤ 6)
  | _ => false
theorem piece_get (c : Nat) (hc : (c : Int) ≤ 15) : ∃ q : ByteArray, pieces.toList[c]? = some (.string q) ∧ q.size ≤ 6 := by
  have hall : pieces.toList.all pieceB = true := by kernel_rfl
  have hlt : c < pieces.toList.length := by show c < 16; omega
  have h1 : pieces.toList[c]? = some (pieces.toList[c]'hlt) := List.getElem?_eq_getElem hlt
  have h2 := List.all_eq_true.1 hall _ (List.getElem_mem hlt)
  rw [h1]
  generalize pieces.toList[c]'hlt = x at h2
  cases x <;> simp [pieceB] at h2
  exact ⟨_, rfl, h2⟩
theorem hid_size (t x : ByteArray) (d1 : RefA (trimC (trimL t) BS) → x = headA t ++ BS ++ trimL t) (d2 : ¬ RefA (trimC (trimL t) BS) → x = t) : x.size ≤ t.size + 1 := by
  by_cases h : RefA (trimC (trimL t) BS)
  · rw [d1 h, size_app, size_app]
    unfold headA
    have h1 := trimL_size t
    rw [ByteArray.size_extract]
    show min _ _ - 0 + 1 + _ ≤ _
    omega
  · rw [d2 h]; omega
def strs4 (s t1 t2 : ByteArray) : Array Value := #[.string s, .string t1, .string (t2 ++ s), .string (⟨#[32, 60, 60]⟩ ++ s ++ ⟨#[62, 62]⟩)]
theorem strs4_get (s t1 t2 : ByteArray) (hs : s.size ≤ 1048576) (h1 : t1.size ≤ 144) (h2 : t2.size ≤ 144) (i : Nat) (hi : i < 4) : ∃ t : ByteArray, (strs4 s t1 t2).toList[i]? = some (.string t) ∧ t.size ≤ 1048900 := by
  match i, hi with
  | 0, _ => exact ⟨_, rfl, by omega⟩
  | 1, _ => exact ⟨_, rfl, by omega⟩
  | 2, _ => exact ⟨_, rfl, by rw [size_app]; omega⟩
  | 3, _ => exact ⟨_, rfl, by rw [size_app, size_app]; show 3 + _ + 2 ≤ _; omega⟩
theorem head_le (t : ByteArray) : (headA t).size ≤ t.size := ext_le t _ _
theorem mid_le (t : ByteArray) : (midA (trimL t)).size ≤ t.size := by
  unfold midA
  have h1 := ext_le ((trimL t).extract 2 (trimL t).size) 0 (((trimL t).extract 2 (trimL t).size).size - 2)
  have h2 := ext_le (trimL t) 2 (trimL t).size
  have h3 := trimL_size t
  omega
def Bytes (l : List Value) : Prop := ∀ v, v ∈ l → ∃ n : Int, v = .int .u8 n
theorem row_some {H : AH} {p : Option Addr} {l : List Value} (h : l = [] ∨ Row H p l) (h0 : 0 < l.length) : ∃ a, p = some a ∧ Row H (some a) l := by
  rcases h with rfl | h
  · exact absurd h0 (Nat.lt_irrefl 0)
  · cases p with
    | none => have : l = [] := h; subst this; exact absurd h0 (Nat.lt_irrefl 0)
    | some a => exact ⟨a, rfl, h⟩
theorem ind_gap (c : Nat) (hc : (c : Int) ≤ 5) (ind : ByteArray) (h : (⟨#[9, 32, 32, 9, 32]⟩ : ByteArray).extract 0 c = ind) : ∀ j : Nat, j < ind.size → gapB (byteAt ind (j : Nat)) := by
  subst h
  intro j hj
  rw [ByteArray.size_extract] at hj
  have h5 : (⟨#[9, 32, 32, 9, 32]⟩ : ByteArray).size = 5 := rfl
  rw [byteAt_ext0 _ _ _ (by omega) (by omega)]
  have hj5 : j < 5 := by omega
  match j, hj5 with
  | 0, _ => exact .inr rfl
  | 1, _ => exact .inl rfl
  | 2, _ => exact .inl rfl
  | 3, _ => exact .inr rfl
  | 4, _ => exact .inl rfl
theorem zB : (⟨#[92]⟩ : ByteArray).size = 1 := rfl
theorem zSL : (⟨#[32, 60, 60]⟩ : ByteArray).size = 3 := rfl
theorem zSBL : (⟨#[32, 92, 60, 60]⟩ : ByteArray).size = 4 := rfl

theorem made_spec (l : List Value) (hl : Bytes l) (p : Option Addr) (c : Nat) (H : AH) (Q : Value → AH → Prop) (h : ∀ H' (t : ByteArray), Keeps H H' → t.size ≤ 144 → Q (.string t) H') (hv : l = [] ∨ Row H p l) (hlen : l.length ≤ 9223372036854775807) (hw : WfH H) : FWp Tryd.prog prims 8 [.slice p l.length c] H Q := by
  have hs5 : szT Tryd.prog 5 = 1 := by kernel_rfl
  have hs9 : szT Tryd.prog 9 = 1 := by kernel_rfl
  refine FWp.enter (rfl) Tryd.func8 rfl (e := [.slice p l.length c, undef, undef, undef, undef, undef, undef, undef, undef, undef, undef, undef, undef, undef, undef, undef, undef, undef, undef, undef, undef, undef, undef, undef, undef, undef]) rfl ?_
  refine CWp.seq ?_
  refine CWp.region ?_
  refine OWp.assign rfl rfl ?_
  refine OWp.nil ?_
  refine CWp.seq ?_
  refine CWp.region ?_
  refine OWp.assign rfl rfl ?_
  refine OWp.nil ?_
  refine CWp.seq ?_
  refine CWp.seq ?_
  refine CWp.region ?_
  refine OWp.assign rfl rfl ?_
  refine OWp.nil ?_
  refine CWp.block ?_
  refine CWp.loop (fun k e H' => ∃ (x : ByteArray) (i : Nat) (t1 t2 t5 t6 t7 t8 t9 t10 t11 t12 t13 t14 t15 t16 t17 t18 t19 t20 t21 t22 t23 t24 t25 : Value), e = [.slice p l.length c, t1, t2, .string x, .int .i64 (i : Nat), t5, t6, t7, t8, t9, t10, t11, t12, t13, t14, t15, t16, t17, t18, t19, t20, t21, t22, t23, t24, t25] ∧ k = 24 - i ∧ WfH H' ∧ Keeps H H' ∧ x.size ≤ 6 * i ∧ i ≤ 24) ?_ ?_
  · exact ⟨_, ⟨#[]⟩, 0, _, _, _, _, _, _, _, _, _, _, _, _, _, _, _, _, _, _, _, _, _, _, _, rfl, rfl, hw, Keeps.refl hw, by decide, by decide⟩
  · rintro k e H' ⟨x, i, t1, t2, t5, t6, t7, t8, t9, t10, t11, t12, t13, t14, t15, t16, t17, t18, t19, t20, t21, t22, t23, t24, t25, rfl, rfl, hw', hk', hx, hi⟩
    refine CWp.seq ?_
    refine CWp.seq ?_
    refine CWp.region ?_
    refine OWp.move rfl rfl ?_
    refine OWp.move rfl rfl ?_
    refine OWp.lenSl rfl rfl rfl rfl rfl Tryd.underlying22 rfl ?_
    refine OWp.binI rfl rfl rfl rfl rfl ?_
    refine OWp.move rfl rfl ?_
    first | refine OWp.byT rfl (fun hg1 => ?_) (fun hg1 => ?_) | refine OWp.byBT rfl (fun hg1 => ?_) (fun hg1 => ?_)
    · skip
      try simp only [Decidable.not_not] at hg1
      try simp only [hg1, eq_self, decide_true, decide_false, not_true_eq_false, not_false_eq_true, Bool.not_true, Bool.not_false]
      refine OWp.move rfl rfl ?_
      refine OWp.binI rfl rfl rfl rfl rfl ?_
      refine OWp.pickT rfl rfl rfl ?_
      refine OWp.nil ?_
      first | refine CWp.condP rfl (fun h2 => ?_) (fun h2 => ?_) | refine CWp.cond rfl (fun h2 => ?_) (fun h2 => ?_)
      · skip
        have hlt : i < l.length := by omega
        obtain ⟨a, rfl, hrow⟩ := row_some hv (by omega)
        obtain ⟨n, hn⟩ := hl _ (List.getElem_mem hlt)
        have hget : l[i]? = some (.int .u8 n) := by rw [List.getElem?_eq_getElem hlt, hn]
        try simp only [h2, eq_self, decide_true, decide_false, not_true_eq_false, not_false_eq_true, Bool.not_true, Bool.not_false]
        refine CWp.skip ?_
        refine CWp.seq ?_
        refine CWp.block ?_
        refine CWp.region ?_
        refine OWp.move rfl rfl ?_
        refine OWp.buildSl hw' rfl rfl rfl (t' := 9) (cells := pieces) (by kernel_rfl) (fun H2 c2 hw2 hk2 hc2 ho2 => ?_)
        refine OWp.norm ?_
        have hrow2 := hrow.sees ((hk'.trans hk2 hw).sees hw)
        refine OWp.move rfl rfl ?_
        refine OWp.move rfl rfl ?_
        refine OWp.indexAddrSl1 rfl rfl Tryd.underlying22 hs5 rfl rfl (by omega) (by omega) ?_
        refine OWp.loadRow rfl rfl Tryd.underlying5 rfl rfl hrow2 hget ?_
        refine OWp.andR rfl rfl rfl rfl (.inl rfl) (by omega) (fun c3 hc3 => ?_)
        refine OWp.norm ?_
        obtain ⟨q, hq, hq6⟩ := piece_get c3 hc3
        refine OWp.indexAddrSl1 rfl rfl Tryd.underlying28 hs9 rfl rfl (by omega) (by omega) ?_
        refine OWp.loadRow rfl rfl Tryd.underlying9 rfl rfl ho2.row (v := .string q) hq ?_
        refine OWp.catS rfl rfl rfl rfl (by first | omega | (simp only [ByteArray.size_append, sz2, sz2', zB, zSL, zSBL]; omega)) ?_
        refine OWp.assign rfl rfl ?_
        refine OWp.nil ?_
        refine CWp.region ?_
        refine OWp.move rfl rfl ?_
        refine OWp.addI rfl rfl rfl rfl (by first | omega | (simp only [ByteArray.size_append, sz2, sz2', zB, zSL, zSBL]; omega)) ?_
        refine OWp.assign rfl rfl ?_
        refine OWp.nil ?_
        exact ⟨_, by omega, x ++ q, i + 1, _, _, _, _, _, _, _, _, _, _, _, _, _, _, _, _, _, _, _, _, _, _, _, rfl, rfl, hw2, hk'.trans hk2 hw, by rw [ByteArray.size_append]; omega, by omega⟩
      · skip
        try simp only [h2, eq_self, decide_true, decide_false, not_true_eq_false, not_false_eq_true, Bool.not_true, Bool.not_false]
        refine CWp.exit ?_
        refine CWp.seq ?_
        refine CWp.region ?_
        refine OWp.move rfl rfl ?_
        refine OWp.assign rfl rfl ?_
        refine OWp.nil ?_
        refine CWp.ret ?_
        refine RetQ.one (by first | exact .inl rfl | exact .inr rfl) rfl rfl ?_
        exact h _ _ hk' (by omega)
    · skip
      try simp only [Decidable.not_not] at hg1
      try simp only [hg1, eq_self, decide_true, decide_false, not_true_eq_false, not_false_eq_true, Bool.not_true, Bool.not_false]
      refine OWp.leave rfl ?_
      refine OWp.leave rfl ?_
      refine OWp.pickF rfl rfl rfl ?_
      refine OWp.nil ?_
      refine CWp.condF rfl ?_
      refine CWp.exit ?_
      refine CWp.seq ?_
      refine CWp.region ?_
      refine OWp.move rfl rfl ?_
      refine OWp.assign rfl rfl ?_
      refine OWp.nil ?_
      refine CWp.ret ?_
      refine RetQ.one (by first | exact .inl rfl | exact .inr rfl) rfl rfl ?_
      exact h _ _ hk' (by omega)

theorem madeV_spec (l : List Value) (hl : Bytes l) (ks : Value) (H : AH) (Q : Value → AH → Prop) (h : ∀ H' (t : ByteArray), Keeps H H' → t.size ≤ 144 → Q (.string t) H') (hv : View H ks l) (hlen : l.length ≤ 9223372036854775807) (hw : WfH H) : FWp Tryd.prog prims 8 [ks] H Q := by
  obtain ⟨p, c, rfl, h1⟩ := hv
  exact made_spec l hl p c H Q h h1 hlen hw

theorem tells_spec (s a b : ByteArray) (hs : s.size ≤ 1048576) (ha : a.size ≤ 1048576) (hb : b.size ≤ 1048576) (l : List Value) (hl : Bytes l) (ks : Value) (H : AH) (Q : Value → AH → Prop) (h : ∀ H', Q (.bool true) H') (hv : View H ks l) (hlen : l.length ≤ 9223372036854775807) (hw : WfH H) : FWp Tryd.prog prims 4 [.string s, ks, .string a, .string b] H Q := by
  refine FWp.enter (rfl) Tryd.func4 rfl (e := [.string s, ks, .string a, .string b, undef, undef, undef, undef, undef, undef, undef, undef, undef, undef, undef, undef, undef, undef, undef, undef, undef, undef, undef, undef, undef, undef, undef, undef, undef, undef, undef, undef, undef, undef, undef, undef]) rfl ?_
  refine CWp.seq ?_
  refine CWp.region ?_
  refine OWp.assign rfl rfl ?_
  refine OWp.nil ?_
  refine CWp.seq ?_
  refine CWp.region ?_
  refine OWp.move rfl rfl ?_
  refine OWp.call rfl rfl rfl rfl ?_
  refine same_spec s (by omega) name_same _ _ ?_ hw
  intro Ha hka
  have hwa := hka.wf
  refine OWp.norm ?_
  refine OWp.move rfl rfl ?_
  refine OWp.move rfl rfl ?_
  refine OWp.call rfl rfl rfl rfl ?_
  refine madeV_spec l hl _ _ _ ?_ (hv.sees (hka.sees hw)) hlen hwa
  intro Hb t hkb ht
  have hwb := hkb.wf
  refine OWp.norm ?_
  refine OWp.call rfl rfl rfl rfl ?_
  refine same_spec t (by omega) name_same _ _ ?_ hwb
  intro Hc hkc
  have hwc := hkc.wf
  refine OWp.norm ?_
  refine OWp.pickT rfl rfl rfl ?_
  refine OWp.move rfl rfl ?_
  refine OWp.move rfl rfl ?_
  refine OWp.catS rfl rfl rfl rfl (by first | omega | (simp only [ByteArray.size_append, sz2, sz2', zB, zSL, zSBL]; omega)) ?_
  refine OWp.catS rfl rfl rfl rfl (by first | omega | (simp only [ByteArray.size_append, sz2, sz2', zB, zSL, zSBL]; omega)) ?_
  refine OWp.call rfl rfl rfl rfl ?_
  refine same_spec _ (by first | omega | (simp only [ByteArray.size_append, sz2, sz2', zB, zSL, zSBL]; omega)) name_same _ _ ?_ hwc
  intro Hd hkd
  have hwd := hkd.wf
  refine OWp.norm ?_
  refine OWp.pickT rfl rfl rfl ?_
  refine OWp.move rfl rfl ?_
  refine OWp.move rfl rfl ?_
  refine OWp.move rfl rfl ?_
  refine OWp.call rfl rfl rfl rfl ?_
  refine make_spec _ _ (by omega) (by omega) _ _ ?_
  refine OWp.norm ?_
  refine OWp.move rfl rfl ?_
  refine OWp.catS rfl rfl rfl rfl (by first | omega | (simp only [ByteArray.size_append, sz2, sz2', zB, zSL, zSBL]; omega)) ?_
  refine OWp.move rfl rfl ?_
  refine OWp.catS rfl rfl rfl rfl (by first | omega | (simp only [ByteArray.size_append, sz2, sz2', zB, zSL, zSBL]; omega)) ?_
  refine OWp.catS rfl rfl rfl rfl (by first | omega | (simp only [ByteArray.size_append, sz2, sz2', zB, zSL, zSBL]; omega)) ?_
  refine OWp.binS rfl rfl rfl rfl rfl ?_
  refine OWp.pickT rfl rfl rfl ?_
  refine OWp.move rfl rfl ?_
  first | refine OWp.byT rfl (fun hg0 => ?_) (fun hg0 => ?_) | refine OWp.byBT rfl (fun hg0 => ?_) (fun hg0 => ?_)
  · skip
    try simp only [Decidable.not_not] at hg0
    try simp only [hg0, eq_self, decide_true, decide_false, not_true_eq_false, not_false_eq_true, Bool.not_true, Bool.not_false]
    refine OWp.call rfl rfl rfl rfl ?_
    refine known_spec _ _ ?_
    refine OWp.norm ?_
    refine OWp.pickT rfl rfl rfl ?_
    refine OWp.assign rfl rfl ?_
    refine OWp.nil ?_
    refine CWp.ret ?_
    refine RetQ.one (by first | exact .inl rfl | exact .inr rfl) rfl rfl ?_
    exact h _
  · skip
    exact absurd trivial hg0

theorem names_spec (n : Int) (b : ByteArray) (hb : b.size ≤ 1048576) (H : AH) (Q : Value → AH → Prop) (h : ∀ H', Q (.bool true) H') (hw : WfH H) : FWp Tryd.prog prims 6 [.int .i64 n, .string b] H Q := by
  refine FWp.enter (rfl) Tryd.func6 rfl (e := [.int .i64 n, .string b, undef, undef, undef, undef, undef, undef, undef, undef, undef, undef, undef, undef, undef, undef, undef, undef, undef, undef, undef, undef, undef, undef, undef, undef, undef, undef, undef, undef, undef, undef, undef, undef, undef, undef]) rfl ?_
  refine CWp.seq ?_
  refine CWp.region ?_
  refine OWp.assign rfl rfl ?_
  refine OWp.nil ?_
  refine CWp.seq ?_
  refine CWp.region ?_
  refine OWp.move rfl rfl ?_
  refine OWp.andR rfl rfl rfl rfl (.inr rfl) (by omega) (fun c hc => ?_)
  refine OWp.norm ?_
  refine OWp.sliceS rfl rfl Tryd.underlying9 rfl rfl rfl (by omega) (by omega) hc ?_
  generalize hind : (⟨#[9, 32, 32, 9, 32]⟩ : ByteArray).extract (0 : Int).toNat (c : Int).toNat = ind
  have hz : ind.size ≤ 5 := by rw [← hind, ByteArray.size_extract]; show min _ 5 - _ ≤ 5; omega
  have hgap := ind_gap c hc ind hind
  refine OWp.assign rfl rfl ?_
  refine OWp.nil ?_
  refine CWp.seq ?_
  refine CWp.region ?_
  refine OWp.move rfl rfl ?_
  refine OWp.move rfl rfl ?_
  refine OWp.call rfl rfl rfl rfl ?_
  refine make_spec _ _ (by omega) (by omega) _ _ ?_
  refine OWp.norm ?_
  refine OWp.call rfl rfl rfl rfl ?_
  refine line_spec _ (by first | omega | (simp only [ByteArray.size_append, sz2, sz2', zB, zSL, zSBL]; omega)) _ _ ?_ hw
  intro Ha x y o hka e1 e2 e3
  have hwa := hka.wf
  obtain ⟨m1, m2, m3⟩ := line_made ind b hgap
  refine OWp.norm ?_
  refine OWp.move rfl rfl ?_
  refine OWp.extract rfl rfl rfl rfl ?_
  refine OWp.extract rfl rfl rfl rfl ?_
  refine OWp.extract rfl rfl rfl rfl ?_
  refine OWp.assign rfl rfl ?_
  refine OWp.assign rfl rfl ?_
  refine OWp.assign rfl rfl ?_
  refine OWp.nil ?_
  refine CWp.seq ?_
  refine CWp.region ?_
  refine OWp.move rfl rfl ?_
  refine OWp.move rfl rfl ?_
  refine OWp.call rfl rfl rfl rfl ?_
  refine nameR_spec b (by omega) _ _ ?_ hwa
  intro Hb o2 hkb f1
  have hoo : o = o2 := by rw [Bool.eq_iff_iff, e1, m2, f1]
  refine OWp.norm ?_
  refine OWp.eqlB rfl rfl Tryd.underlying4 rfl rfl ?_
  refine OWp.move rfl rfl ?_
  first | refine OWp.byT rfl (fun hg0 => ?_) (fun hg0 => ?_) | refine OWp.byBT rfl (fun hg0 => ?_) (fun hg0 => ?_)
  · skip
    try simp only [Decidable.not_not] at hg0
    try simp only [hg0, eq_self, decide_true, decide_false, not_true_eq_false, not_false_eq_true, Bool.not_true, Bool.not_false]
    refine OWp.move rfl rfl ?_
    first | refine OWp.notD rfl rfl rfl ?_ | refine OWp.notB rfl rfl rfl ?_
    refine OWp.move rfl rfl ?_
    first | refine OWp.byF rfl (fun hg1 => ?_) (fun hg1 => ?_) | refine OWp.byBF rfl (fun hg1 => ?_) (fun hg1 => ?_)
    · skip
      try simp only [Decidable.not_not] at hg1
      try simp only [hg1, eq_self, decide_true, decide_false, not_true_eq_false, not_false_eq_true, Bool.not_true, Bool.not_false]
      refine OWp.move rfl rfl ?_
      refine OWp.move rfl rfl ?_
      refine OWp.binS rfl rfl rfl rfl rfl ?_
      refine OWp.pickF rfl rfl rfl ?_
      refine OWp.pickT rfl rfl rfl ?_
      refine OWp.move rfl rfl ?_
      first | refine OWp.byT rfl (fun hg2 => ?_) (fun hg2 => ?_) | refine OWp.byBT rfl (fun hg2 => ?_) (fun hg2 => ?_)
      · skip
        try simp only [Decidable.not_not] at hg2
        try simp only [hg2, eq_self, decide_true, decide_false, not_true_eq_false, not_false_eq_true, Bool.not_true, Bool.not_false]
        refine OWp.call rfl rfl rfl rfl ?_
        refine known_spec _ _ ?_
        refine OWp.norm ?_
        refine OWp.pickT rfl rfl rfl ?_
        refine OWp.assign rfl rfl ?_
        refine OWp.nil ?_
        refine CWp.ret ?_
        refine RetQ.one (by first | exact .inl rfl | exact .inr rfl) rfl rfl ?_
        exact h _
      · skip
        exact absurd ((e2 (by rw [hoo]; simpa using hg1)).2.trans (by rw [m1, m3])) hg2
    · skip
      try simp only [Decidable.not_not] at hg1
      try simp only [hg1, eq_self, decide_true, decide_false, not_true_eq_false, not_false_eq_true, Bool.not_true, Bool.not_false]
      refine OWp.leave rfl ?_
      refine OWp.leave rfl ?_
      refine OWp.leave rfl ?_
      refine OWp.pickT rfl rfl rfl ?_
      refine OWp.pickT rfl rfl rfl ?_
      refine OWp.move rfl rfl ?_
      refine OWp.call rfl rfl rfl rfl ?_
      refine known_spec _ _ ?_
      refine OWp.norm ?_
      refine OWp.pickT rfl rfl rfl ?_
      refine OWp.assign rfl rfl ?_
      refine OWp.nil ?_
      refine CWp.ret ?_
      refine RetQ.one (by first | exact .inl rfl | exact .inr rfl) rfl rfl ?_
      exact h _
  · skip
    exact absurd hoo hg0

theorem backs_spec (s : ByteArray) (hs : s.size ≤ 1048576) (l : List Value) (hl : Bytes l) (ks : Value) (H : AH) (Q : Value → AH → Prop) (h : ∀ H', Q (.bool true) H') (hv : View H ks l) (hlen : l.length ≤ 9223372036854775807) (hw : WfH H) : FWp Tryd.prog prims 5 [.string s, ks] H Q := by
  have hs9 : szT Tryd.prog 9 = 1 := by kernel_rfl
  refine FWp.enter (rfl) Tryd.func5 rfl (e := [.string s, ks, undef, undef, undef, undef, undef, undef, undef, undef, undef, undef, undef, undef, undef, undef, undef, undef, undef, undef, undef, undef, undef, undef, undef, undef, undef, undef, undef, undef, undef, undef, undef, undef, undef, undef, undef, undef, undef, undef, undef, undef, undef, undef, undef, undef, undef, undef, undef, undef, undef, undef, undef, undef, undef, undef, undef, undef, undef, undef, undef, undef, undef, undef, undef, undef]) rfl ?_
  refine CWp.seq ?_
  refine CWp.region ?_
  refine OWp.assign rfl rfl ?_
  refine OWp.nil ?_
  refine CWp.seq ?_
  refine CWp.seq ?_
  refine CWp.region ?_
  refine OWp.move rfl rfl ?_
  refine OWp.move rfl rfl ?_
  refine OWp.call rfl rfl rfl rfl ?_
  refine madeV_spec l hl _ _ _ ?_ hv hlen hw
  intro Ha u1 hka ht1
  have hwa := hka.wf
  refine OWp.norm ?_
  refine OWp.move rfl rfl ?_
  refine OWp.call rfl rfl rfl rfl ?_
  refine madeV_spec l hl _ _ _ ?_ (hv.sees (hka.sees hw)) hlen hwa
  intro Hb u2 hkb ht2
  have hwb := hkb.wf
  refine OWp.norm ?_
  refine OWp.move rfl rfl ?_
  refine OWp.catS rfl rfl rfl rfl (by first | omega | (simp only [ByteArray.size_append, sz2, sz2', zB, zSL, zSBL]; omega)) ?_
  refine OWp.move rfl rfl ?_
  refine OWp.catS rfl rfl rfl rfl (by first | omega | (simp only [ByteArray.size_append, sz2, sz2', zB, zSL, zSBL]; omega)) ?_
  refine OWp.catS rfl rfl rfl rfl (by first | omega | (simp only [ByteArray.size_append, sz2, sz2', zB, zSL, zSBL]; omega)) ?_
  refine OWp.buildSl hwb rfl rfl rfl (t' := 9) (cells := strs4 s u1 u2) (by kernel_rfl) (fun H2 c2 hw2 hk2 hc2 ho2 => ?_)
  refine OWp.norm ?_
  refine OWp.lenSl rfl rfl rfl rfl rfl Tryd.underlying28 rfl ?_
  refine OWp.move rfl rfl ?_
  refine OWp.nil ?_
  refine CWp.block ?_
  refine CWp.loop (fun k e H' => ∃ (cc i : Nat) (t2 t3 t4 t5 t6 t7 t8 t9 t10 t11 t12 t13 t14 t15 t16 t17 t18 t19 t20 t21 t22 t23 t27 t28 t29 t30 t31 t32 t33 t34 t35 t36 t37 t38 t39 t40 t41 t42 t43 t44 t45 t46 t47 t48 t49 t50 t51 t52 t53 t54 t55 t56 t57 t58 t59 t60 t61 t62 t63 t64 t65 : Value), e = [.string s, ks, t2, t3, t4, t5, t6, t7, t8, t9, t10, t11, t12, t13, t14, t15, t16, t17, t18, t19, t20, t21, t22, t23, .slice (some ⟨cc, 0, none⟩) 4 4, .int .i64 (4 : Nat), .int .i64 (i : Nat), t27, t28, t29, t30, t31, t32, t33, t34, t35, t36, t37, t38, t39, t40, t41, t42, t43, t44, t45, t46, t47, t48, t49, t50, t51, t52, t53, t54, t55, t56, t57, t58, t59, t60, t61, t62, t63, t64, t65] ∧ k = 4 - i ∧ WfH H' ∧ Keeps H H' ∧ Own H' cc (.cells (strs4 s u1 u2) 9 (0, 0)) true ∧ i ≤ 4) ?_ ?_
  · exact ⟨_, c2, 0, _, _, _, _, _, _, _, _, _, _, _, _, _, _, _, _, _, _, _, _, _, _, _, _, _, _, _, _, _, _, _, _, _, _, _, _, _, _, _, _, _, _, _, _, _, _, _, _, _, _, _, _, _, _, _, _, _, _, _, _, _, rfl, rfl, hw2, (hka.trans hkb hw).trans hk2 hw, ho2, Nat.zero_le _⟩
  · rintro k e H' ⟨cc, i, t2, t3, t4, t5, t6, t7, t8, t9, t10, t11, t12, t13, t14, t15, t16, t17, t18, t19, t20, t21, t22, t23, t27, t28, t29, t30, t31, t32, t33, t34, t35, t36, t37, t38, t39, t40, t41, t42, t43, t44, t45, t46, t47, t48, t49, t50, t51, t52, t53, t54, t55, t56, t57, t58, t59, t60, t61, t62, t63, t64, t65, rfl, rfl, hw', hk', hot, hi⟩
    refine CWp.seq ?_
    refine CWp.region ?_
    refine OWp.binI rfl rfl rfl rfl rfl ?_
    refine OWp.nil ?_
    refine CWp.seq ?_
    first | refine CWp.condP rfl (fun h1 => ?_) (fun h1 => ?_) | refine CWp.cond rfl (fun h1 => ?_) (fun h1 => ?_)
    · skip
      obtain ⟨t, ht, htz⟩ := strs4_get s u1 u2 hs ht1 ht2 i (by omega)
      try simp only [h1, eq_self, decide_true, decide_false, not_true_eq_false, not_false_eq_true, Bool.not_true, Bool.not_false]
      refine CWp.skip ?_
      refine CWp.seq ?_
      refine CWp.block ?_
      refine CWp.seq ?_
      refine CWp.region ?_
      refine OWp.indexAddrSl1 rfl rfl Tryd.underlying28 hs9 rfl rfl (by omega) (by omega) ?_
      refine OWp.loadRow rfl rfl Tryd.underlying9 rfl rfl hot.row (v := .string t) ht ?_
      refine OWp.assign rfl rfl ?_
      refine OWp.nil ?_
      refine CWp.seq ?_
      refine CWp.region ?_
      refine OWp.move rfl rfl ?_
      refine OWp.call rfl rfl rfl rfl ?_
      refine inn_spec t (by omega) _ _ ?_ hw'
      intro Hc x hkc d1 d2
      have hwc := hkc.wf
      obtain ⟨i0, hi0⟩ := gap_ex t
      obtain ⟨n0, hn0⟩ := run_ex t i0 92 hi0.1
      obtain ⟨g1, g2, g3⟩ := hidden t x i0 n0 hi0 hn0 d1 d2
      have hxz : x.size ≤ t.size + 1 := hid_size t x d1 d2
      refine OWp.norm ?_
      refine OWp.assign rfl rfl ?_
      refine OWp.nil ?_
      refine CWp.seq ?_
      refine CWp.seq ?_
      refine CWp.region ?_
      refine OWp.move rfl rfl ?_
      refine OWp.call rfl rfl rfl rfl ?_
      refine line_spec x (by omega) _ _ ?_ hwc
      intro Hd x1 y1 o1 hkd a1 a2 a3
      have hwd := hkd.wf
      have ho1 : o1 = false := by cases o1 with
        | false => rfl
        | true => exact absurd (a1.1 rfl) g1
      subst ho1
      refine OWp.norm ?_
      refine OWp.move rfl rfl ?_
      refine OWp.extract rfl rfl rfl rfl ?_
      refine OWp.extract rfl rfl rfl rfl ?_
      refine OWp.extract rfl rfl rfl rfl ?_
      refine OWp.assign rfl rfl ?_
      refine OWp.assign rfl rfl ?_
      refine OWp.assign rfl rfl ?_
      refine OWp.nil ?_
      refine CWp.seq ?_
      refine CWp.region ?_
      refine OWp.move rfl rfl ?_
      refine OWp.move rfl rfl ?_
      refine OWp.move rfl rfl ?_
      refine OWp.call rfl rfl rfl rfl ?_
      refine out_spec x (by omega) _ _ ?_ hwd
      intro He x2 hke b1 b2
      have hwe := hke.wf
      have hx2 : x2 = t := g2 x2 b1 b2
      refine OWp.norm ?_
      refine OWp.move rfl rfl ?_
      refine OWp.binS rfl rfl rfl rfl rfl ?_
      refine OWp.pickF rfl rfl rfl ?_
      refine OWp.nil ?_
      first | refine CWp.condP rfl (fun h2 => ?_) (fun h2 => ?_) | refine CWp.cond rfl (fun h2 => ?_) (fun h2 => ?_)
      · skip
        exact absurd hx2 h2
      · skip
        try simp only [h2, eq_self, decide_true, decide_false, not_true_eq_false, not_false_eq_true, Bool.not_true, Bool.not_false]
        refine CWp.skip ?_
        refine CWp.seq ?_
        refine CWp.region ?_
        refine OWp.move rfl rfl ?_
        refine OWp.call rfl rfl rfl rfl ?_
        refine line_spec t (by omega) _ _ ?_ hwe
        intro Hf x3 y3 o3 hkf c1 c2 c3
        have hwf := hkf.wf
        refine OWp.norm ?_
        refine OWp.move rfl rfl ?_
        refine OWp.extract rfl rfl rfl rfl ?_
        refine OWp.extract rfl rfl rfl rfl ?_
        refine OWp.extract rfl rfl rfl rfl ?_
        refine OWp.assign rfl rfl ?_
        refine OWp.assign rfl rfl ?_
        refine OWp.assign rfl rfl ?_
        refine OWp.nil ?_
        refine CWp.seq ?_
        refine CWp.region ?_
        refine OWp.move rfl rfl ?_
        refine OWp.move rfl rfl ?_
        first | refine OWp.byT rfl (fun hg3 => ?_) (fun hg3 => ?_) | refine OWp.byBT rfl (fun hg3 => ?_) (fun hg3 => ?_)
        · skip
          obtain ⟨hx3, hy3⟩ := c2 hg3
          have hz3 : x3.size ≤ t.size := by rw [hx3]; exact head_le t
          have hz4 : y3.size ≤ t.size := by rw [hy3]; exact mid_le t
          simp only [hg3]
          refine OWp.move rfl rfl ?_
          refine OWp.move rfl rfl ?_
          refine OWp.call rfl rfl rfl rfl ?_
          refine make_spec _ _ (by omega) (by omega) _ _ ?_
          refine OWp.norm ?_
          refine OWp.move rfl rfl ?_
          refine OWp.binS rfl rfl rfl rfl rfl ?_
          refine OWp.move rfl rfl ?_
          first | refine OWp.byF rfl (fun hg4 => ?_) (fun hg4 => ?_) | refine OWp.byBF rfl (fun hg4 => ?_) (fun hg4 => ?_)
          · skip
            try simp only [Decidable.not_not] at hg4
            try simp only [hg4, eq_self, decide_true, decide_false, not_true_eq_false, not_false_eq_true, Bool.not_true, Bool.not_false]
            refine OWp.move rfl rfl ?_
            refine OWp.move rfl rfl ?_
            refine OWp.binS rfl rfl rfl rfl rfl ?_
            refine OWp.pickF rfl rfl rfl ?_
            refine OWp.pickT rfl rfl rfl ?_
            refine OWp.nil ?_
            first | refine CWp.condP rfl (fun h5 => ?_) (fun h5 => ?_) | refine CWp.cond rfl (fun h5 => ?_) (fun h5 => ?_)
            · skip
              exact absurd h5 (g3 (c1.1 hg3)).1
            · skip
              try simp only [h5, eq_self, decide_true, decide_false, not_true_eq_false, not_false_eq_true, Bool.not_true, Bool.not_false]
              refine CWp.skip ?_
              refine CWp.region ?_
              refine OWp.addI rfl rfl rfl rfl (by first | omega | (simp only [ByteArray.size_append, sz2, sz2', zB, zSL, zSBL]; omega)) ?_
              refine OWp.move rfl rfl ?_
              refine OWp.nil ?_
              exact ⟨_, by omega, cc, i + 1, _, _, _, _, _, _, _, _, _, _, _, _, _, _, _, _, _, _, _, _, _, _, _, _, _, _, _, _, _, _, _, _, _, _, _, _, _, _, _, _, _, _, _, _, _, _, _, _, _, _, _, _, _, _, _, _, _, _, _, _, _, rfl, rfl, hwf, hk'.trans (hkc.trans (hkd.trans (hke.trans hkf hwd) hwc) hw') hw, hot.keep hw' (hkc.trans (hkd.trans (hke.trans hkf hwd) hwc) hw'), by omega⟩
          · skip
            exact absurd (by rw [hx3, hy3]; exact (g3 (c1.1 hg3)).2) hg4
        · skip
          try simp only [Decidable.not_not] at hg3
          try simp only [hg3, eq_self, decide_true, decide_false, not_true_eq_false, not_false_eq_true, Bool.not_true, Bool.not_false]
          refine OWp.leave rfl ?_
          refine OWp.leave rfl ?_
          refine OWp.leave rfl ?_
          refine OWp.leave rfl ?_
          refine OWp.leave rfl ?_
          refine OWp.leave rfl ?_
          refine OWp.leave rfl ?_
          refine OWp.leave rfl ?_
          refine OWp.leave rfl ?_
          refine OWp.leave rfl ?_
          refine OWp.pickF rfl rfl rfl ?_
          refine OWp.nil ?_
          refine CWp.condF rfl ?_
          refine CWp.skip ?_
          refine CWp.region ?_
          refine OWp.addI rfl rfl rfl rfl (by first | omega | (simp only [ByteArray.size_append, sz2, sz2', zB, zSL, zSBL]; omega)) ?_
          refine OWp.move rfl rfl ?_
          refine OWp.nil ?_
          exact ⟨_, by omega, cc, i + 1, _, _, _, _, _, _, _, _, _, _, _, _, _, _, _, _, _, _, _, _, _, _, _, _, _, _, _, _, _, _, _, _, _, _, _, _, _, _, _, _, _, _, _, _, _, _, _, _, _, _, _, _, _, _, _, _, _, _, _, _, _, rfl, rfl, hwf, hk'.trans (hkc.trans (hkd.trans (hke.trans hkf hwd) hwc) hw') hw, hot.keep hw' (hkc.trans (hkd.trans (hke.trans hkf hwd) hwc) hw'), by omega⟩
    · skip
      try simp only [h1, eq_self, decide_true, decide_false, not_true_eq_false, not_false_eq_true, Bool.not_true, Bool.not_false]
      refine CWp.exit ?_
      refine CWp.seq ?_
      refine CWp.region ?_
      refine OWp.call rfl rfl rfl rfl ?_
      refine known_spec _ _ ?_
      refine OWp.norm ?_
      refine OWp.assign rfl rfl ?_
      refine OWp.nil ?_
      refine CWp.ret ?_
      refine RetQ.one (by first | exact .inl rfl | exact .inr rfl) rfl rfl ?_
      exact h _

end Go.Proofs.YtaelmnkddedddaaDoor.Ev
