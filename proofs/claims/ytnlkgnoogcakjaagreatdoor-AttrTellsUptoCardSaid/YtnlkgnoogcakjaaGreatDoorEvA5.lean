import Derived.Test.YtnlkgnoogcakjaaGreatDoorEvA4
namespace Go.Proofs.YtnlkgnoogcakjaaGreatDoor.Ev
open Go
set_option linter.unusedVariables false
set_option linter.unusedSimpArgs false
set_option maxHeartbeats 4000000
set_option maxRecDepth 20000
theorem known_spec (H : AH) (Q : Value → AH → Prop) (h : Q (.bool true) H) : FWp Tryz.prog prims 9 [] H Q := FWp.prim rfl rfl h
def Bytes (l : List Value) : Prop := ∀ u, u ∈ l → ∃ n : Int, u = .int .u8 n
theorem bytes_nil : Bytes [] := fun u h => by simp at h
theorem bytes_snoc {l : List Value} (h : Bytes l) (n : Int) : Bytes (l ++ [.int .u8 n]) := fun u hu => by
  rcases List.mem_append.1 hu with k | k
  · exact h u k
  · simp at k; exact ⟨n, k⟩
theorem row_someB {H : AH} {p : Option Addr} {l : List Value} (h : l = [] ∨ Row H p l) (h0 : 0 < l.length) : ∃ a, p = some a ∧ Row H (some a) l := by
  rcases h with rfl | h
  · simp at h0
  · cases p with
    | none => have : l = [] := h; subst this; simp at h0
    | some a => exact ⟨a, rfl, h⟩
def pieces : Array Value := #[.string ⟨#[32]⟩, .string ⟨#[9]⟩, .string ⟨#[103, 111]⟩, .string ⟨#[110, 97, 109, 101, 61]⟩, .string ⟨#[102, 105, 108, 101, 61]⟩, .string ⟨#[99, 111, 109, 109, 101, 110, 116, 61]⟩, .string ⟨#[97, 112, 112, 101, 110, 100]⟩, .string ⟨#[110, 111, 108, 105, 110, 101]⟩, .string ⟨#[34]⟩, .string ⟨#[92]⟩, .string ⟨#[97]⟩, .string ⟨#[98, 46, 99]⟩, .string ⟨#[47, 47]⟩, .string ⟨#[61]⟩, .string ⟨#[227, 128, 128]⟩, .string ⟨#[120, 49]⟩]
theorem piece_get (c : Nat) (h : (c : Int) ≤ 15) : ∃ q : ByteArray, pieces.toList[((c : Int)).toNat]? = some (.string q) ∧ q.size ≤ 8 := by
  have hc : c ≤ 15 := by omega
  rw [Int.toNat_natCast]
  match c, hc with
  | 0, _ => exact ⟨_, rfl, by decide⟩
  | 1, _ => exact ⟨_, rfl, by decide⟩
  | 2, _ => exact ⟨_, rfl, by decide⟩
  | 3, _ => exact ⟨_, rfl, by decide⟩
  | 4, _ => exact ⟨_, rfl, by decide⟩
  | 5, _ => exact ⟨_, rfl, by decide⟩
  | 6, _ => exact ⟨_, rfl, by decide⟩
  | 7, _ => exact ⟨_, rfl, by decide⟩
  | 8, _ => exact ⟨_, rfl, by decide⟩
  | 9, _ => exact ⟨_, rfl, by decide⟩
  | 10, _ => exact ⟨_, rfl, by decide⟩
  | 11, _ => exact ⟨_, rfl, by decide⟩
  | 12, _ => exact ⟨_, rfl, by decide⟩
  | 13, _ => exact ⟨_, rfl, by decide⟩
  | 14, _ => exact ⟨_, rfl, by decide⟩
  | 15, _ => exact ⟨_, rfl, by decide⟩
theorem sz_0 : (⟨#[]⟩ : ByteArray).size = 0 := rfl
theorem sz_4 (a b c d : UInt8) : (⟨#[a, b, c, d]⟩ : ByteArray).size = 4 := rfl
theorem sz_3 (a b c : UInt8) : (⟨#[a, b, c]⟩ : ByteArray).size = 3 := rfl
theorem sz_1 (a : UInt8) : (⟨#[a]⟩ : ByteArray).size = 1 := rfl
theorem sz_2 (a b : UInt8) : (⟨#[a, b]⟩ : ByteArray).size = 2 := rfl

theorem made_spec (l : List Value) (hl : Bytes l) (p : Option Addr) (c : Nat) (H : AH) (Q : Value → AH → Prop) (h : ∀ H' (t : ByteArray), Keeps H H' → t.size ≤ 192 → Q (.string t) H') (hv : l = [] ∨ Row H p l) (hlen : l.length ≤ 9223372036854775807) (hw : WfH H) : FWp Tryz.prog prims 8 [.slice p l.length c] H Q := by
  have hs5 : szT Tryz.prog 5 = 1 := by kernel_rfl
  have hs9 : szT Tryz.prog 9 = 1 := by kernel_rfl
  refine FWp.enter (rfl) Tryz.func8 rfl (e := [.slice p l.length c, undef, undef, undef, undef, undef, undef, undef, undef, undef, undef, undef, undef, undef, undef, undef, undef, undef, undef, undef, undef, undef, undef, undef, undef, undef]) rfl ?_
  refine CWp.seq ?_
  refine CWp.region ?_
  refine OWp.assign rfl rfl ?_
  refine OWp.nil ?_
  refine CWp.seq ?_
  refine CWp.region ?_
  refine OWp.assign rfl rfl ?_
  refine OWp.nil ?_
  refine CWp.seq ?_
  refine CWp.seq ?_
  refine CWp.region ?_
  refine OWp.assign rfl rfl ?_
  refine OWp.nil ?_
  refine CWp.block ?_
  refine CWp.loop (fun k e H' => ∃ (x : ByteArray) (i : Nat) (g : Nat → Value), e = [.slice p l.length c, g 1, g 2, .string x, .int .i64 (i : Nat), g 5, g 6, g 7, g 8, g 9, g 10, g 11, g 12, g 13, g 14, g 15, g 16, g 17, g 18, g 19, g 20, g 21, g 22, g 23, g 24, g 25] ∧ k = 24 - i ∧ WfH H' ∧ Keeps H H' ∧ x.size ≤ 8 * i ∧ i ≤ 24) ?_ ?_
  · exact ⟨_, ⟨#[]⟩, 0, ex_env rfl ⟨rfl, hw, Keeps.refl hw, by decide, by decide⟩⟩
  · rintro k e H' ⟨x, i, g, rfl, rfl, hw', hk', hx, hi⟩
    refine CWp.seq ?_
    refine CWp.seq ?_
    refine CWp.region ?_
    refine OWp.move rfl rfl ?_
    refine OWp.move rfl rfl ?_
    refine OWp.lenSl rfl rfl rfl rfl rfl Tryz.underlying22 rfl ?_
    refine OWp.binI rfl rfl rfl rfl rfl ?_
    refine OWp.move rfl rfl ?_
    first | refine OWp.byT rfl (fun hg1 => ?_) (fun hg1 => ?_) | refine OWp.byBT rfl (fun hg1 => ?_) (fun hg1 => ?_)
    · skip
      first | rw [decide_eq_true hg1] | rw [decide_eq_false hg1] | rw [hg1] | skip
      try simp only [Decidable.not_not] at hg1
      refine OWp.move rfl rfl ?_
      refine OWp.binI rfl rfl rfl rfl rfl ?_
      refine OWp.pickT rfl rfl rfl ?_
      refine OWp.nil ?_
      first | refine CWp.condP rfl (fun h2 => ?_) (fun h2 => ?_) | refine CWp.cond rfl (fun h2 => ?_) (fun h2 => ?_)
      · skip
        have hlt : i < l.length := by omega
        obtain ⟨a, rfl, hrow⟩ := row_someB hv (by omega)
        obtain ⟨n, hn⟩ := hl _ (List.getElem_mem hlt)
        have hget : l[i]? = some (.int .u8 n) := by rw [List.getElem?_eq_getElem hlt, hn]
        first | rw [decide_eq_true h2] | rw [decide_eq_false h2] | rw [h2] | skip
        refine CWp.skip ?_
        refine CWp.seq ?_
        refine CWp.block ?_
        refine CWp.region ?_
        refine OWp.move rfl rfl ?_
        refine OWp.buildSl hw' rfl rfl rfl (t' := 9) (cells := pieces) (by kernel_rfl) (fun H2 c2 hw2 hk2 hc2 ho2 => ?_)
        refine OWp.norm ?_
        have hrow2 := hrow.sees ((hk'.trans hk2 hw).sees hw)
        refine OWp.move rfl rfl ?_
        refine OWp.move rfl rfl ?_
        refine OWp.indexAddrSl1 rfl rfl Tryz.underlying22 hs5 rfl rfl (by omega) (by omega) ?_
        refine OWp.loadRow rfl rfl Tryz.underlying5 rfl rfl hrow2 hget ?_
        refine OWp.andR rfl rfl rfl rfl (.inl rfl) (by omega) (fun c3 hc3 => ?_)
        refine OWp.norm ?_
        obtain ⟨q, hq, hq6⟩ := piece_get c3 hc3
        refine OWp.indexAddrSl1 rfl rfl Tryz.underlying33 hs9 rfl rfl (by omega) (by omega) ?_
        refine OWp.loadRow rfl rfl Tryz.underlying9 rfl rfl ho2.row (v := .string q) hq ?_
        refine OWp.catS rfl rfl rfl rfl (by first | omega | (simp only [size_app, sz_0, sz_1, sz_2, sz_3, sz_4]; omega)) ?_
        refine OWp.assign rfl rfl ?_
        refine OWp.nil ?_
        refine CWp.region ?_
        refine OWp.move rfl rfl ?_
        refine OWp.addI rfl rfl rfl rfl (by first | omega | (simp only [size_app, sz_0, sz_1, sz_2, sz_3, sz_4]; omega)) ?_
        refine OWp.assign rfl rfl ?_
        refine OWp.nil ?_
        exact ⟨_, by omega, x ++ q, i + 1, ex_env rfl ⟨rfl, hw2, hk'.trans hk2 hw, by rw [ByteArray.size_append]; omega, by omega⟩⟩
      · skip
        first | rw [decide_eq_true h2] | rw [decide_eq_false h2] | rw [h2] | skip
        refine CWp.exit ?_
        refine CWp.seq ?_
        refine CWp.region ?_
        refine OWp.move rfl rfl ?_
        refine OWp.assign rfl rfl ?_
        refine OWp.nil ?_
        refine CWp.ret ?_
        refine RetQ.one (by first | exact .inl rfl | exact .inr rfl) rfl rfl ?_
        exact h _ _ hk' (by omega)
    · skip
      first | rw [decide_eq_true hg1] | rw [decide_eq_false hg1] | rw [hg1] | skip
      try simp only [Decidable.not_not] at hg1
      refine OWp.leave rfl ?_
      refine OWp.leave rfl ?_
      refine OWp.pickF rfl rfl rfl ?_
      refine OWp.nil ?_
      refine CWp.condF rfl ?_
      refine CWp.exit ?_
      refine CWp.seq ?_
      refine CWp.region ?_
      refine OWp.move rfl rfl ?_
      refine OWp.assign rfl rfl ?_
      refine OWp.nil ?_
      refine CWp.ret ?_
      refine RetQ.one (by first | exact .inl rfl | exact .inr rfl) rfl rfl ?_
      exact h _ _ hk' (by omega)

theorem madeV_spec (l : List Value) (hl : Bytes l) (ks : Value) (H : AH) (Q : Value → AH → Prop) (h : ∀ H' (t : ByteArray), Keeps H H' → t.size ≤ 192 → Q (.string t) H') (hv : View H ks l) (hlen : l.length ≤ 9223372036854775807) (hw : WfH H) : FWp Tryz.prog prims 8 [ks] H Q := by
  obtain ⟨p, c, rfl, h1⟩ := hv
  exact made_spec l hl p c H Q h h1 hlen hw

theorem same_spec (s : ByteArray) (hs : s.size ≤ 9000000) (H : AH) (Q : Value → AH → Prop) (h : ∀ H', Keeps H H' → Q (.bool true) H') (hw : WfH H) : FWp Tryz.prog prims 7 [.string s] H Q := by
  have hh := Has.start hw
  refine FWp.enter (rfl) Tryz.func7 rfl (e := [.string s, undef, undef, undef, undef, undef, undef, undef, undef, undef, undef, undef, undef, undef, undef, undef, undef, undef, undef, undef, undef, undef, undef, undef, undef, undef, undef, undef, undef, undef, undef, undef, undef, undef, undef, undef, undef, undef, undef, undef, undef, undef, undef, undef, undef, undef, undef, undef, undef, undef, undef, undef, undef, undef, undef, undef, undef, undef, undef, undef, undef, undef, undef, undef, undef, undef, undef, undef, undef, undef, undef, undef, undef, undef, undef, undef, undef, undef, undef, undef, undef, undef, undef, undef, undef, undef, undef, undef, undef, undef, undef, undef, undef, undef, undef, undef, undef, undef, undef, undef, undef, undef, undef, undef, undef, undef, undef, undef, undef, undef, undef, undef, undef, undef, undef, undef, undef, undef, undef, undef, undef, undef, undef, undef, undef, undef, undef]) rfl ?_
  refine CWp.seq ?_
  refine CWp.region ?_
  refine OWp.assign rfl rfl ?_
  refine OWp.nil ?_
  refine CWp.seq ?_
  refine CWp.region ?_
  refine OWp.move rfl rfl ?_
  refine OWp.call rfl rfl rfl rfl ?_
  refine read_spec s hs _ _ ?_ hh.wf
  intro H1 a1 ok1 hk1 hr1 hr2
  replace hh := hh.after hk1
  refine OWp.norm ?_
  refine OWp.move rfl rfl ?_
  refine OWp.extract rfl rfl rfl rfl ?_
  refine OWp.extract rfl rfl rfl rfl ?_
  refine OWp.allocAt hh rfl rfl (fun H3 b3 hh => ?_)
  refine OWp.norm ?_
  first | refine OWp.storeAt (k := 0) hh rfl rfl rfl rfl rfl (fun H4 hh => ?_) | refine OWp.storeAt (k := 1) hh rfl rfl rfl rfl rfl (fun H4 hh => ?_)
  simp only [List.set_cons_zero, List.set_cons_succ] at hh
  refine OWp.norm ?_
  refine OWp.assign rfl rfl ?_
  refine OWp.nil ?_
  refine CWp.seq ?_
  refine CWp.region ?_
  refine OWp.move rfl rfl ?_
  refine OWp.call rfl rfl rfl rfl ?_
  refine readR_spec s hs _ _ ?_ hh.wf
  intro H2 a2 ok2 hk2 hq1 hq2
  replace hh := hh.after hk2
  obtain ⟨rfl, rfl⟩ : a1 = a2 ∧ ok1 = ok2 := by
    cases hS : readS s with
    | none => obtain ⟨e1, e2⟩ := hr2 hS; obtain ⟨e3, e4⟩ := hq2 hS; exact ⟨e2.trans e4.symm, e1.trans e3.symm⟩
    | some a => obtain ⟨e1, e2⟩ := hr1 _ hS; obtain ⟨e3, e4⟩ := hq1 _ hS; exact ⟨e2.trans e4.symm, e1.trans e3.symm⟩
  refine OWp.norm ?_
  refine OWp.move rfl rfl ?_
  refine OWp.extract rfl rfl rfl rfl ?_
  refine OWp.extract rfl rfl rfl rfl ?_
  refine OWp.allocAt hh rfl rfl (fun H5 b5 hh => ?_)
  refine OWp.norm ?_
  first | refine OWp.storeAt (k := 0) hh rfl rfl rfl rfl rfl (fun H4 hh => ?_) | refine OWp.storeAt (k := 1) hh rfl rfl rfl rfl rfl (fun H4 hh => ?_)
  simp only [List.set_cons_zero, List.set_cons_succ] at hh
  refine OWp.norm ?_
  refine OWp.assign rfl rfl ?_
  refine OWp.nil ?_
  refine CWp.seq ?_
  refine CWp.seq ?_
  refine CWp.region ?_
  first | refine OWp.loadAt (k := 0) hh rfl rfl rfl rfl ?_ | refine OWp.loadAt (k := 1) hh rfl rfl rfl rfl ?_
  first | refine OWp.loadAt (k := 0) hh rfl rfl rfl rfl ?_ | refine OWp.loadAt (k := 1) hh rfl rfl rfl rfl ?_
  refine OWp.neAt _ _ rfl rfl rfl rfl ?_
  refine OWp.move rfl rfl ?_
  first | refine OWp.byF rfl (fun hg0 => ?_) (fun hg0 => ?_) | refine OWp.byBF rfl (fun hg0 => ?_) (fun hg0 => ?_)
  · skip
    first | rw [decide_eq_true hg0] | rw [decide_eq_false hg0] | rw [hg0] | skip
    try simp only [Decidable.not_not] at hg0
    refine OWp.move rfl rfl ?_
    refine OWp.move rfl rfl ?_
    refine OWp.neqB rfl rfl Tryz.underlying4 rfl rfl ?_
    refine OWp.pickF rfl rfl rfl ?_
    refine OWp.move rfl rfl ?_
    first | refine OWp.byF rfl (fun hg1 => ?_) (fun hg1 => ?_) | refine OWp.byBF rfl (fun hg1 => ?_) (fun hg1 => ?_)
    · skip
      first | rw [decide_eq_true hg1] | rw [decide_eq_false hg1] | rw [hg1] | skip
      try simp only [Decidable.not_not] at hg1
      refine OWp.move rfl rfl ?_
      refine OWp.call rfl rfl rfl rfl ?_
      refine nameA_spec s hs _ _ ?_ hh.wf
      intro H3 bn hk3 hbn
      replace hh := hh.after hk3
      refine OWp.norm ?_
      refine OWp.move rfl rfl ?_
      refine OWp.call rfl rfl rfl rfl ?_
      refine nameR_spec s hs _ _ ?_ hh.wf
      intro H4 bm hk4 hbm
      replace hh := hh.after hk4
      refine OWp.norm ?_
      refine OWp.neqB rfl rfl Tryz.underlying4 rfl rfl ?_
      refine OWp.pickF rfl rfl rfl ?_
      refine OWp.nil ?_
      first | refine CWp.condP rfl (fun h2 => ?_) (fun h2 => ?_) | refine CWp.cond rfl (fun h2 => ?_) (fun h2 => ?_)
      · skip
        exact absurd (Bool.eq_iff_iff.2 (hbn.trans ((name_same s).trans hbm.symm))) h2
      · skip
        first | rw [decide_eq_true h2] | rw [decide_eq_false h2] | rw [h2] | skip
        refine CWp.skip ?_
        refine CWp.seq ?_
        refine CWp.region ?_
        refine OWp.move rfl rfl ?_
        refine OWp.call rfl rfl rfl rfl ?_
        refine pairs_spec s hs _ _ ?_ hh.wf
        intro H5 lang w ms okp hk5 hp1 hp2 hsl
        replace hh := hh.after hk5
        refine OWp.norm ?_
        refine OWp.move rfl rfl ?_
        refine OWp.extract rfl rfl rfl rfl ?_
        refine OWp.extract rfl rfl rfl rfl ?_
        refine OWp.extract rfl rfl rfl rfl ?_
        refine OWp.assign rfl rfl ?_
        refine OWp.assign rfl rfl ?_
        refine OWp.assign rfl rfl ?_
        refine OWp.nil ?_
        refine CWp.seq ?_
        refine CWp.region ?_
        refine OWp.move rfl rfl ?_
        refine OWp.call rfl rfl rfl rfl ?_
        refine pairsR_spec s hs _ _ ?_ hh.wf
        intro H6 lang2 w2 l okq hk6 hq3 hq4 hsr
        obtain ⟨rfl, rfl, hms, hbd, hll⟩ : lang = lang2 ∧ okp = okq ∧ ms = l.map paOf ∧ (∀ p, p ∈ l → okP2 s.size p) ∧ l.length ≤ s.size := by
          cases hS : pairsS s with
          | none => obtain ⟨e1, e2, e3⟩ := hp2 hS; obtain ⟨e4, e5, e6⟩ := hq4 hS; subst e2; subst e5; exact ⟨e3.trans e6.symm, e1.trans e4.symm, rfl, fun p hp => (by cases hp), Nat.zero_le _⟩
          | some x => obtain ⟨L, l9⟩ := x; obtain ⟨e1, e2, e3⟩ := hp1 _ _ hS; obtain ⟨e4, e5, rfl⟩ := hq3 _ _ hS; have hall := pairsS_all hS; exact ⟨e2.trans e5.symm, e1.trans e4.symm, e3, hall.1, hall.2.1⟩
        obtain ⟨p, rfl, hrow⟩ := hsl
        obtain ⟨q, rfl, hrowq⟩ := hsr
        replace hrow := hrow.sees (hk6.sees hh.wf)
        replace hh := hh.after hk6
        have hlen : ms.length = l.length := by rw [hms]; simp
        refine OWp.norm ?_
        refine OWp.move rfl rfl ?_
        refine OWp.extract rfl rfl rfl rfl ?_
        refine OWp.extract rfl rfl rfl rfl ?_
        refine OWp.extract rfl rfl rfl rfl ?_
        refine OWp.assign rfl rfl ?_
        refine OWp.assign rfl rfl ?_
        refine OWp.assign rfl rfl ?_
        refine OWp.nil ?_
        refine CWp.seq ?_
        refine CWp.seq ?_
        refine CWp.region ?_
        refine OWp.move rfl rfl ?_
        refine OWp.move rfl rfl ?_
        refine OWp.binS rfl rfl rfl rfl rfl ?_
        refine OWp.move rfl rfl ?_
        first | refine OWp.byF rfl (fun hg3 => ?_) (fun hg3 => ?_) | refine OWp.byBF rfl (fun hg3 => ?_) (fun hg3 => ?_)
        · skip
          first | rw [decide_eq_true hg3] | rw [decide_eq_false hg3] | rw [hg3] | skip
          try simp only [Decidable.not_not] at hg3
          refine OWp.move rfl rfl ?_
          refine OWp.move rfl rfl ?_
          refine OWp.neqB rfl rfl Tryz.underlying4 rfl rfl ?_
          refine OWp.pickF rfl rfl rfl ?_
          refine OWp.move rfl rfl ?_
          first | refine OWp.byF rfl (fun hg4 => ?_) (fun hg4 => ?_) | refine OWp.byBF rfl (fun hg4 => ?_) (fun hg4 => ?_)
          · skip
            first | rw [decide_eq_true hg4] | rw [decide_eq_false hg4] | rw [hg4] | skip
            try simp only [Decidable.not_not] at hg4
            refine OWp.move rfl rfl ?_
            refine OWp.lenSl rfl rfl rfl rfl rfl Tryz.underlying35 rfl ?_
            refine OWp.move rfl rfl ?_
            refine OWp.lenSl rfl rfl rfl rfl rfl Tryz.underlying38 rfl ?_
            refine OWp.binI rfl rfl rfl rfl rfl ?_
            refine OWp.pickF rfl rfl rfl ?_
            refine OWp.nil ?_
            first | refine CWp.condP rfl (fun h5 => ?_) (fun h5 => ?_) | refine CWp.cond rfl (fun h5 => ?_) (fun h5 => ?_)
            · skip
              exact absurd (congrArg (fun n : Nat => (n : Int)) hlen) h5
            · skip
              first | rw [decide_eq_true h5] | rw [decide_eq_false h5] | rw [h5] | skip
              refine CWp.skip ?_
              refine CWp.seq ?_
              refine CWp.seq ?_
              refine CWp.region ?_
              refine OWp.move rfl rfl ?_
              refine OWp.lenSl rfl rfl rfl rfl rfl Tryz.underlying35 rfl ?_
              refine OWp.move rfl rfl ?_
              refine OWp.nil ?_
              refine CWp.block ?_
              refine CWp.loop (fun k e H' => ∃ (j : Nat) (g : Nat → Value), e = [.string s, g 1, g 2, g 3, g 4, g 5, g 6, g 7, .slice p ms.length ms.length, g 9, g 10, .slice q l.length l.length, g 12, g 13, g 14, g 15, g 16, g 17, g 18, g 19, g 20, g 21, g 22, g 23, g 24, g 25, g 26, g 27, g 28, g 29, g 30, g 31, g 32, g 33, g 34, g 35, g 36, g 37, g 38, g 39, g 40, g 41, g 42, g 43, g 44, g 45, g 46, g 47, g 48, g 49, g 50, g 51, g 52, g 53, g 54, g 55, g 56, g 57, g 58, g 59, g 60, g 61, g 62, g 63, g 64, g 65, g 66, g 67, g 68, .int .i64 (ms.length : Nat), .int .i64 (j : Nat), g 71, g 72, g 73, g 74, g 75, g 76, g 77, g 78, g 79, g 80, g 81, g 82, g 83, g 84, g 85, g 86, g 87, g 88, g 89, g 90, g 91, g 92, g 93, g 94, g 95, g 96, g 97, g 98, g 99, g 100, g 101, g 102, g 103, g 104, g 105, g 106, g 107, g 108, g 109, g 110, g 111, g 112, g 113, g 114, g 115, g 116, g 117, g 118, g 119, g 120, g 121, g 122, g 123, g 124, g 125, g 126] ∧ k = ms.length - j ∧ Keeps H H' ∧ Row H' p (rowPA ms) ∧ Row H' q (rowPR l) ∧ j ≤ ms.length) ?_ ?_
              · exact ⟨_, 0, ex_env rfl ⟨rfl, hh.keep, hrow, hrowq, by omega⟩⟩
              · rintro k e H' ⟨j, g, rfl, rfl, hk', hrow', hrowq', hj⟩
                refine CWp.seq ?_
                refine CWp.region ?_
                refine OWp.binI rfl rfl rfl rfl rfl ?_
                refine OWp.nil ?_
                refine CWp.seq ?_
                first | refine CWp.condP rfl (fun h7 => ?_) (fun h7 => ?_) | refine CWp.cond rfl (fun h7 => ?_) (fun h7 => ?_)
                · skip
                  obtain ⟨p0, hp0⟩ : ∃ p0, l[j]? = some p0 := ⟨_, List.getElem?_eq_getElem (show j < l.length by omega)⟩
                  have hqm : ms[j]? = some (paOf p0) := by rw [hms, List.getElem?_map, hp0]; rfl
                  obtain ⟨pa, rfl⟩ := row_some hrow (by omega)
                  obtain ⟨pb, rfl⟩ := row_someR hrowq (by omega)
                  have htx := (hbd p0 (List.mem_of_getElem? hp0)).2.2
                  first | rw [decide_eq_true h7] | rw [decide_eq_false h7] | rw [h7] | skip
                  refine CWp.skip ?_
                  refine CWp.seq ?_
                  refine CWp.block ?_
                  refine CWp.seq ?_
                  refine CWp.region ?_
                  refine OWp.move rfl rfl ?_
                  refine OWp.assign rfl rfl ?_
                  refine OWp.nil ?_
                  refine CWp.seq ?_
                  refine CWp.region ?_
                  refine OWp.move rfl rfl ?_
                  refine OWp.move rfl rfl ?_
                  refine OWp.indexAddrK rfl rfl Tryz.underlying35 szPA (by decide) rfl rfl (by omega) (by omega) ?_
                  refine OWp.fieldRow (m := j * 2 + 1) hrow'.1 rfl rfl Tryz.underlying44 rfl (by first | (rw [szK_s]; decide) | (rw [szK_a]; decide) | (rw [szK_b]; decide) | (show szT Tryz.prog 9 ≠ 0; rw [szK_s]; decide) | (show szT Tryz.prog 20 ≠ 0; rw [szK_a]; decide) | (show szT Tryz.prog 4 ≠ 0; rw [szK_b]; decide)) rfl rfl ?_
                  refine OWp.loadRow (v := (paOf p0).val.v) rfl rfl Tryz.underlying20 rfl rfl hrow' (flat_get (fun m : PA => m.cells.toList) 2 (fun _ => rfl) ms j (paOf p0) 1 hqm (by decide)) ?_
                  refine OWp.call rfl rfl rfl rfl ?_
                  refine textV_spec _ _ _ ?_
                  rw [paOf_isS, paOf_text2 htx]
                  refine OWp.norm ?_
                  refine OWp.move rfl rfl ?_
                  refine OWp.extract rfl rfl rfl rfl ?_
                  refine OWp.extract rfl rfl rfl rfl ?_
                  refine OWp.assign rfl rfl ?_
                  refine OWp.assign rfl rfl ?_
                  refine OWp.nil ?_
                  refine CWp.seq ?_
                  refine CWp.seq ?_
                  refine CWp.drawnN (by kernel_rfl) ?_
                  have hhS := hh
                  have hkS := Keeps.refl hh.wf
                  refine OWp.move rfl rfl ?_
                  refine OWp.move rfl rfl ?_
                  refine OWp.indexAddrK rfl rfl Tryz.underlying35 szPA (by decide) rfl rfl (by omega) (by omega) ?_
                  refine OWp.fieldRow (m := j * 2 + 0) hrow'.1 rfl rfl Tryz.underlying44 rfl (by first | (rw [szK_s]; decide) | (rw [szK_a]; decide) | (rw [szK_b]; decide) | (show szT Tryz.prog 9 ≠ 0; rw [szK_s]; decide) | (show szT Tryz.prog 20 ≠ 0; rw [szK_a]; decide) | (show szT Tryz.prog 4 ≠ 0; rw [szK_b]; decide)) rfl rfl ?_
                  refine OWp.loadRow (v := .string p0.key) rfl rfl Tryz.underlying9 rfl rfl hrow' (flat_get (fun m : PA => m.cells.toList) 2 (fun _ => rfl) ms j (paOf p0) 0 hqm (by decide)) ?_
                  refine OWp.move rfl rfl ?_
                  refine OWp.move rfl rfl ?_
                  refine OWp.indexAddrK rfl rfl Tryz.underlying38 szPR (by decide) rfl rfl (by omega) (by omega) ?_
                  refine OWp.fieldRow (m := j * 3 + 0) hrowq'.1 rfl rfl Tryz.underlying46 rfl (by first | (rw [szK_s]; decide) | (rw [szK_a]; decide) | (rw [szK_b]; decide) | (show szT Tryz.prog 9 ≠ 0; rw [szK_s]; decide) | (show szT Tryz.prog 20 ≠ 0; rw [szK_a]; decide) | (show szT Tryz.prog 4 ≠ 0; rw [szK_b]; decide)) rfl rfl ?_
                  refine OWp.loadRow (v := .string p0.key) rfl rfl Tryz.underlying9 rfl rfl hrowq' (flat_get (fun m : PR => m.cells.toList) 3 (fun _ => rfl) l j p0 0 hp0 (by decide)) ?_
                  refine OWp.binS rfl rfl rfl rfl rfl ?_
                  refine OWp.move rfl rfl ?_
                  first | refine OWp.byF rfl (fun hg8 => ?_) (fun hg8 => ?_) | refine OWp.byBF rfl (fun hg8 => ?_) (fun hg8 => ?_)
                  · skip
                    first | rw [decide_eq_true hg8] | rw [decide_eq_false hg8] | rw [hg8] | skip
                    try simp only [Decidable.not_not] at hg8
                    refine OWp.move rfl rfl ?_
                    refine OWp.move rfl rfl ?_
                    refine OWp.move rfl rfl ?_
                    refine OWp.indexAddrK rfl rfl Tryz.underlying38 szPR (by decide) rfl rfl (by omega) (by omega) ?_
                    refine OWp.fieldRow (m := j * 3 + 2) hrowq'.1 rfl rfl Tryz.underlying46 rfl (by first | (rw [szK_s]; decide) | (rw [szK_a]; decide) | (rw [szK_b]; decide) | (show szT Tryz.prog 9 ≠ 0; rw [szK_s]; decide) | (show szT Tryz.prog 20 ≠ 0; rw [szK_a]; decide) | (show szT Tryz.prog 4 ≠ 0; rw [szK_b]; decide)) rfl rfl ?_
                    refine OWp.loadRow (v := .bool p0.alone) rfl rfl Tryz.underlying4 rfl rfl hrowq' (flat_get (fun m : PR => m.cells.toList) 3 (fun _ => rfl) l j p0 2 hp0 (by decide)) ?_
                    refine OWp.eqlB rfl rfl Tryz.underlying4 rfl rfl ?_
                    refine OWp.pickF rfl rfl rfl ?_
                    refine OWp.move rfl rfl ?_
                    first | refine OWp.byF rfl (fun hg9 => ?_) (fun hg9 => ?_) | refine OWp.byBF rfl (fun hg9 => ?_) (fun hg9 => ?_)
                    · skip
                      first | rw [decide_eq_true hg9] | rw [decide_eq_false hg9] | rw [hg9] | skip
                      try simp only [Decidable.not_not] at hg9
                      refine OWp.move rfl rfl ?_
                      refine OWp.move rfl rfl ?_
                      refine OWp.move rfl rfl ?_
                      refine OWp.indexAddrK rfl rfl Tryz.underlying38 szPR (by decide) rfl rfl (by omega) (by omega) ?_
                      refine OWp.fieldRow (m := j * 3 + 1) hrowq'.1 rfl rfl Tryz.underlying46 rfl (by first | (rw [szK_s]; decide) | (rw [szK_a]; decide) | (rw [szK_b]; decide) | (show szT Tryz.prog 9 ≠ 0; rw [szK_s]; decide) | (show szT Tryz.prog 20 ≠ 0; rw [szK_a]; decide) | (show szT Tryz.prog 4 ≠ 0; rw [szK_b]; decide)) rfl rfl ?_
                      refine OWp.loadRow (v := .string p0.text) rfl rfl Tryz.underlying9 rfl rfl hrowq' (flat_get (fun m : PR => m.cells.toList) 3 (fun _ => rfl) l j p0 1 hp0 (by decide)) ?_
                      refine OWp.binS rfl rfl rfl rfl rfl ?_
                      refine OWp.pickF rfl rfl rfl ?_
                      refine OWp.nil ?_
                      refine ⟨still_all (L := [.pointer (some (pa.add (j * 2 + 0))), .pointer (some (pb.add (j * 3 + 0))), .pointer (some (pb.add (j * 3 + 2))), .pointer (some (pb.add (j * 3 + 1)))]) rfl (by simp only [List.all_cons, List.all_nil, Bool.and_true, Bool.and_eq_true]; exact ⟨still_row hrow', still_row hrowq', still_row hrowq', still_row hrowq'⟩), ?_⟩
                      first | refine CWp.condP rfl (fun h10 => ?_) (fun h10 => ?_) | refine CWp.cond rfl (fun h10 => ?_) (fun h10 => ?_)
                      · skip
                        simp at h10
                      · skip
                        first | rw [decide_eq_true h10] | rw [decide_eq_false h10] | rw [h10] | skip
                        refine CWp.skip ?_
                        refine CWp.seq ?_
                        refine CWp.drawnN (by kernel_rfl) ?_
                        have hhS := hh
                        have hkS := Keeps.refl hh.wf
                        refine OWp.move rfl rfl ?_
                        refine OWp.move rfl rfl ?_
                        first | refine OWp.byT rfl (fun hg11 => ?_) (fun hg11 => ?_) | refine OWp.byBT rfl (fun hg11 => ?_) (fun hg11 => ?_)
                        · skip
                          first | rw [decide_eq_true hg11] | rw [decide_eq_false hg11] | rw [hg11] | skip
                          try simp only [Decidable.not_not] at hg11
                          refine OWp.move rfl rfl ?_
                          refine OWp.move rfl rfl ?_
                          refine OWp.indexAddrK rfl rfl Tryz.underlying35 szPA (by decide) rfl rfl (by omega) (by omega) ?_
                          refine OWp.fieldRow (m := j * 2 + 1) hrow'.1 rfl rfl Tryz.underlying44 rfl (by first | (rw [szK_s]; decide) | (rw [szK_a]; decide) | (rw [szK_b]; decide) | (show szT Tryz.prog 9 ≠ 0; rw [szK_s]; decide) | (show szT Tryz.prog 20 ≠ 0; rw [szK_a]; decide) | (show szT Tryz.prog 4 ≠ 0; rw [szK_b]; decide)) rfl rfl ?_
                          refine OWp.loadRow (v := (paOf p0).val.v) rfl rfl Tryz.underlying20 rfl rfl hrow' (flat_get (fun m : PA => m.cells.toList) 2 (fun _ => rfl) ms j (paOf p0) 1 hqm (by decide)) ?_
                          refine OWp.call rfl rfl rfl rfl ?_
                          refine must_spec _ (by rw [paOf_isS]; simp_all) _ _ ?_
                          rw [paOf_text2 htx]
                          refine OWp.norm ?_
                          refine OWp.move rfl rfl ?_
                          refine OWp.move rfl rfl ?_
                          refine OWp.indexAddrK rfl rfl Tryz.underlying38 szPR (by decide) rfl rfl (by omega) (by omega) ?_
                          refine OWp.fieldRow (m := j * 3 + 1) hrowq'.1 rfl rfl Tryz.underlying46 rfl (by first | (rw [szK_s]; decide) | (rw [szK_a]; decide) | (rw [szK_b]; decide) | (show szT Tryz.prog 9 ≠ 0; rw [szK_s]; decide) | (show szT Tryz.prog 20 ≠ 0; rw [szK_a]; decide) | (show szT Tryz.prog 4 ≠ 0; rw [szK_b]; decide)) rfl rfl ?_
                          refine OWp.loadRow (v := .string p0.text) rfl rfl Tryz.underlying9 rfl rfl hrowq' (flat_get (fun m : PR => m.cells.toList) 3 (fun _ => rfl) l j p0 1 hp0 (by decide)) ?_
                          refine OWp.binS rfl rfl rfl rfl rfl ?_
                          refine OWp.pickT rfl rfl rfl ?_
                          refine OWp.nil ?_
                          refine ⟨still_all (L := [.pointer (some (pa.add (j * 2 + 1))), .pointer (some (pb.add (j * 3 + 1)))]) rfl (by simp only [List.all_cons, List.all_nil, Bool.and_true, Bool.and_eq_true]; exact ⟨still_row hrow', still_row hrowq'⟩), ?_⟩
                          first | refine CWp.condP rfl (fun h12 => ?_) (fun h12 => ?_) | refine CWp.cond rfl (fun h12 => ?_) (fun h12 => ?_)
                          · skip
                            simp at h12
                          · skip
                            first | rw [decide_eq_true h12] | rw [decide_eq_false h12] | rw [h12] | skip
                            refine CWp.skip ?_
                            refine CWp.region ?_
                            refine OWp.addI rfl rfl rfl rfl (by omega) ?_
                            refine OWp.move rfl rfl ?_
                            refine OWp.nil ?_
                            exact ⟨_, by omega, j + 1, ex_env rfl ⟨rfl, hk', hrow', hrowq', by omega⟩⟩
                        · skip
                          first | rw [decide_eq_true hg11] | rw [decide_eq_false hg11] | rw [hg11] | skip
                          try simp only [Decidable.not_not] at hg11
                          refine OWp.leave rfl ?_
                          refine OWp.leave rfl ?_
                          refine OWp.leave rfl ?_
                          refine OWp.leave rfl ?_
                          refine OWp.leave rfl ?_
                          refine OWp.leave rfl ?_
                          refine OWp.leave rfl ?_
                          refine OWp.leave rfl ?_
                          refine OWp.leave rfl ?_
                          refine OWp.leave rfl ?_
                          refine OWp.leave rfl ?_
                          refine OWp.leave rfl ?_
                          refine OWp.pickF rfl rfl rfl ?_
                          refine OWp.nil ?_
                          refine ⟨still_all (L := [undef, undef]) rfl (by simp only [List.all_cons, List.all_nil, Bool.and_true, Bool.and_eq_true]; exact ⟨rfl, rfl⟩), ?_⟩
                          refine CWp.condF rfl ?_
                          refine CWp.skip ?_
                          refine CWp.region ?_
                          refine OWp.addI rfl rfl rfl rfl (by omega) ?_
                          refine OWp.move rfl rfl ?_
                          refine OWp.nil ?_
                          exact ⟨_, by omega, j + 1, ex_env rfl ⟨rfl, hk', hrow', hrowq', by omega⟩⟩
                    · skip
                      cases hal : p0.alone <;> simp [hal] at hg9
                  · skip
                    simp at hg8
                · skip
                  first | rw [decide_eq_true h7] | rw [decide_eq_false h7] | rw [h7] | skip
                  refine CWp.exit ?_
                  refine CWp.seq ?_
                  refine CWp.region ?_
                  refine OWp.assign rfl rfl ?_
                  refine OWp.nil ?_
                  refine CWp.ret ?_
                  refine RetQ.one (by first | exact .inl rfl | exact .inr rfl) rfl rfl ?_
                  exact h _ hk'
          · skip
            simp at hg4
        · skip
          simp at hg3
    · skip
      simp at hg1
  · skip
    simp at hg0

end Go.Proofs.YtnlkgnoogcakjaaGreatDoor.Ev
