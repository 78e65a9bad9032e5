/-
  append: what the evaluator says is what the model does, whether the row has room or not.
-/
import Derived.Test.YtofigleaealbjaaGreatDoorEvOpW
import Derived.Laws.Append
namespace Go.Proofs.YtofigleaealbjaaGreatDoor.Ev
set_option linter.unusedVariables false
set_option linter.unusedSimpArgs false
open Go
section
variable {P : Program} {φ : Phi} {H H' : AH} {w w' : World} {o : Oper} {ρ ρ' : Operand → Value} {v : Value}

/-- What append lays behind, in the world: its cells, whatever the count of draws. -/
theorem tail_rel (hs : Sim P φ H w) {e : TypeId} {i : TypeInfo} (hi : P.info? e = some i) {x y : Value} (hx : ValR P φ H w x y) {m : Nat} {l : List Value} (h : tailA P H e x = some (m, l)) :
    ∃ D, (∀ w1 : World, (Builtin.lenOf y).run P w1 = .ok m w1) ∧ (∀ w1 : World, w1.heap = w.heap → (Builtin.firstCells (szT P e) m y).run P w1 = .ok D w1) ∧ ArrR (CellR P φ H w) l.toArray D ∧ l.length = m * szT P e := by
  unfold tailA at h
  split at h
  · rename_i p m' c
    split at h
    · rename_i l' hrow
      cases h
      rcases row_load hs hx (fun h0 => by rw [h0]; simp) hrow with ⟨rfl, rfl, rfl, h0⟩ | ⟨q, c', D, _, rfl, hD, hrel, hlen⟩
      · exact ⟨#[], fun w1 => by simp [Builtin.lenOf], fun w1 _ => by simp [Builtin.firstCells], ⟨rfl, fun i a b ha _ => by simp at ha⟩, by simp [h0]⟩
      · exact ⟨D, fun w1 => by simp [Builtin.lenOf], fun w1 hw1 => by simpa [Builtin.firstCells] using hD w1 hw1, hrel, hlen⟩
    · cases h
  · rename_i s
    split at h
    case isFalse => cases h
    rename_i hone
    cases h
    obtain rfl := val_string hx
    refine ⟨s.data.map fun b => Value.int .u8 b.toNat, fun w1 => by simp [Builtin.lenOf], fun w1 _ => ?_, ?_, ?_⟩
    · have : s.extract 0 s.size = s := by simp
      simp [Builtin.firstCells, this]
    · refine ⟨by simp, fun i a b ha hb => ?_⟩
      simp only [List.getElem?_toArray, List.getElem?_map, Array.getElem?_toList] at ha
      rw [Array.getElem?_map, ] at hb
      rw [ha] at hb; cases hb
      obtain ⟨k, _, rfl⟩ := Option.map_eq_some_iff.1 ha
      exact cell_refl rfl
    · rw [hone]; simp
  · cases h

/-- The whole of append, run: in place. -/
theorem run_append_in {ats : Array TypeId} {ty sT xT e : TypeId} {xd : TypeDesc} {i : TypeInfo} (h0 : ats[0]? = some sT) (h1 : ats[1]? = some xT) (hu : P.underlying sT = some (.slice e)) (hx : P.underlying xT = some xd) (hxd : ∀ k, xd ≠ .int k) (hi : P.info? e = some i)
    {base : Option Addr} {n c m : Nat} {y : Value} {D : Array Value} (hlen : (Builtin.lenOf y).run P w = .ok m w) (hD : (Builtin.firstCells (szT P e) m y).run P w = .ok D w) (hle : n + m ≤ c) :
    (Builtin.append_ ats ty #[.slice base n c, y]).run P w = (match base with
      | some a => ((storeCells (a.add (n * szT P e)) D.toList).run P w).andThen fun _ w' => .ok (.slice base (n + m) c) w'
      | none => .ok (.slice base (n + m) c) w) := by
  have hz : (xd matches .int _) = false := by cases xd <;> first | rfl | (rename_i k; exact absurd rfl (hxd k))
  unfold Builtin.append_
  simp only [h0, h1]
  simp only [List.getElem?_toArray, List.getElem?_cons_zero, List.getElem?_cons_succ, Sem.run_bind, run_underlying hu, Result.andThen_ok, run_size hi, run_underlying hx, Sem.run_pure, hz, Bool.false_eq_true, if_false, hlen, hle, if_true, hD, Bool.not_false]
  cases base <;> simp

/-- The whole of append, run: a new row. -/
theorem run_append_new {ats : Array TypeId} {ty sT xT e : TypeId} {xd : TypeDesc} {i : TypeInfo} {z : Value} (h0 : ats[0]? = some sT) (h1 : ats[1]? = some xT) (hu : P.underlying sT = some (.slice e)) (hx : P.underlying xT = some xd) (hxd : ∀ k, xd ≠ .int k) (hi : P.info? e = some i) (hz : i.zero = some z)
    {base : Option Addr} {n c m : Nat} {y : Value} {D O : Array Value} (hlen : (Builtin.lenOf y).run P w = .ok m w) (hD : (Builtin.firstCells (szT P e) m y).run P w.drew = .ok D w.drew) (hO : (Builtin.firstCells (szT P e) n (.slice base n c)).run P w.drew = .ok O w.drew) (hg : ¬ n + m ≤ c)
    (hb : 0 < bytesT P e) (hfit : (n + m) * bytesT P e ≤ 140737488355328) (hfit2 : n + m ≤ 140737488355328) :
    (Builtin.append_ ats ty #[.slice base n c, y]).run P w =
      .ok (.slice (some ⟨w.heap.size, 0, none⟩) (n + m) (grownCap w (n + m) c e)) (w.drew.alloc (.cells (O ++ D ++ Builtin.zeroCells z.cells (grownCap w (n + m) c e - (n + m))) e)) := by
  have hzx : (xd matches .int _) = false := by cases xd <;> first | rfl | (rename_i k; exact absurd rfl (hxd k))
  have hbi : bytesT P e = i.bytes := by simp [bytesT, hi]
  rw [hbi] at hb hfit
  have h48 : ¬ (Builtin.nextslicecap (n + m) c * i.bytes > 2 ^ 48) := by
    have := growslice_fits (need := n + m) (old := c) (bytes := i.bytes) (by omega) hfit
    omega
  have hmax : IntKind.i64.max = 9223372036854775807 := by decide
  have h63 : ¬ (((n + m : Nat) : Int) > IntKind.i64.max ∧ (False ∨ i.bytes = 0)) := by rw [hmax]; omega
  unfold Builtin.append_
  simp only [h0, h1]
  simp only [List.getElem?_toArray, List.getElem?_cons_zero, List.getElem?_cons_succ, Sem.run_bind, run_underlying hu, Result.andThen_ok, run_size hi, run_underlying hx, Sem.run_pure, hzx, Bool.false_eq_true, if_false, hlen, hg, typeInfo, run_program, hi]
  rw [if_neg (by simpa using h63)]
  simp only [Sem.run_bind, Sem.run_pure, Result.andThen_ok, run_program, hi, h48, if_false, run_choose, Question.forced, Bool.false_eq_true, run_askRoom]
  have hdr : ({ w with drawn := w.drawn + 1 } : World) = w.drew := rfl
  simp only [hdr, hO, Result.andThen_ok, hD, Bool.not_false, if_true, run_zero hi hz, newRow, Sem.run_bind, run_newObj, Sem.run_pure]
  rfl

theorem append_get (A B C : Array Value) (i : Nat) : (A ++ B ++ C)[i]? = if i < A.size then A[i]? else if i - A.size < B.size then B[i - A.size]? else C[i - A.size - B.size]? := by
  rw [Array.getElem?_append, Array.getElem?_append]
  simp only [Array.size_append]
  by_cases h : i < A.size
  · rw [if_pos (by omega), if_pos h, if_pos h]
  · by_cases h2 : i - A.size < B.size
    · rw [if_pos (by omega), if_neg h, if_neg h, if_pos h2]
    · rw [if_neg (by omega), if_neg h, if_neg h2]; congr 1; omega

theorem zeroCells_size (z : Array Value) (n : Nat) : (Builtin.zeroCells z n).size = n * z.size := by simp [Builtin.zeroCells]

/-- A new row, grown, in both: the parts alike, then room. -/
theorem grown_row (hs : Sim P φ H w) {e : TypeId} {old l : List Value} {O D Z : Array Value} {need cap : Nat} (ho : ArrR (CellR P φ H w) old.toArray O) (hl : ArrR (CellR P φ H w) l.toArray D)
    (hn : old.length + l.length = need * szT P e) (hcap : need ≤ cap) (hZ : Z.size = (cap - need) * szT P e) :
    Good P φ H w (H.alloc (.cells (old ++ l).toArray e) false) (.slice (some ⟨H.next, 0, none⟩) need need) (.slice (some ⟨w.heap.size, 0, none⟩) need cap) (w.drew.alloc (.cells (O ++ D ++ Z) e)) := by
  have h1 := ho.1
  have h2 := hl.1
  simp only [List.size_toArray] at h1 h2
  obtain ⟨g1, g2⟩ := new_row (w' := w.drew.alloc (.cells (O ++ D ++ Z) e)) (C := (old ++ l).toArray) (C' := O ++ D ++ Z) (e := e) (fr := (0, 0)) (fr' := (0, 0)) (ex := false) hs rfl ⟨rfl, rfl, rfl⟩
    (by simp; omega) (fun i x y hx hy => by
      simp only [List.getElem?_toArray, List.getElem?_append] at hx
      rw [append_get, ← h1] at hy
      split at hx
      · rename_i hi; rw [if_pos hi] at hy; exact ho.2 i x y (by simpa using hx) hy
      · rename_i hi
        rw [if_neg hi] at hy
        have hlt : i - old.length < l.length := (List.getElem?_eq_some_iff.1 hx).1
        rw [if_pos (by omega)] at hy
        exact hl.2 _ x y (by simpa using hx) hy)
    (fun i _ => frz_none i) (fun h => by cases h)
  refine ⟨_, g1, g2, new_slice (C' := O ++ D ++ Z) (fr' := (0, 0)) rfl (Nat.le_refl _) (by simp; omega) (.inr ⟨rfl, by simp; omega, hcap, ?_⟩)⟩
  simp only [Array.size_append]
  have : cap * szT P e = need * szT P e + (cap - need) * szT P e := by rw [← Nat.add_mul]; congr 1; omega
  omega

theorem cap_ge (w : World) (need old : Nat) (e : TypeId) : need ≤ grownCap w need old e := by simp [grownCap, Question.cut]

theorem SliceR.longer {p q : Addr} {n n' c c' : Nat} (h : SliceR P φ H w p q n c c') (hnn : n ≤ n') (hn : n' ≤ c) : SliceR P φ H w p q n' c c' := by
  rcases h with h | ⟨h1, h2, h3, h4⟩ | ⟨h1, h2, δ, C, e, fr, b, h3, h4, h5, h6, h7, h8, h9⟩ | ⟨_, _, h3, h4, _⟩
  · exact .inl h
  · exact .inr (.inl ⟨by omega, h2, h3, h4⟩)
  · exact .inr (.inr (.inl ⟨h1, h2, δ, C, e, fr, b, h3, h4, h5, h6, hn, h8, h9⟩))
  · omega

theorem SliceR.cap {p q : Addr} {n c c' : Nat} (h : SliceR P φ H w p q n c c') {b : Blk} (hb : H.blk p.block = some b) (hl : H.live p.block b = true) : c ≤ c' := by
  rcases h with h | ⟨_, rfl, rfl, _⟩ | ⟨_, _, _, _, _, _, _, _, _, _, _, _, _, h⟩ | ⟨_, _, rfl, _⟩
  · exact absurd h (not_dead hb hl)
  · exact Nat.le_refl _
  · rcases h with rfl | ⟨_, _, h, _⟩
    · exact Nat.le_refl _
    · exact h
  · exact Nat.zero_le _

theorem add_block (a : Addr) (n : Nat) : (a.add n).block = a.block := by unfold Addr.add; split <;> rfl

theorem append_sound (hs : Sim P φ H w) {ats : Array TypeId} {ty sT : TypeId} {s x s' x' : Value} (h0 : ats[0]? = some sT)
    (hs1 : ValR P φ H w s s') (hx1 : ValR P φ H w x x') (h : appendA P H sT ats[1]? s x = some (v, H')) : ∃ v' w', (Builtin.append_ ats ty #[s', x']).run P w = .ok v' w' ∧ Good P φ H w H' v v' w' := by
  unfold appendA at h
  split at h
  case h_2 => cases h
  rename_i e xd base n c he hxd
  have hu := elem_some he
  obtain ⟨xT, h1, hx⟩ := Option.bind_eq_some_iff.1 hxd
  split at h
  case h_2 => cases h
  rename_i m l z hni htail hz
  have hnint : ∀ k, xd ≠ .int k := fun k e => by subst e; simp [notInt] at hni
  obtain ⟨i, hi, hiz, hzf⟩ := zero_info hz
  obtain ⟨D, hlen, hD, hrel, hll⟩ := tail_rel hs hi hx1 htail
  have hDl : D.size = l.length := by have := hrel.1; simpa using this.symm
  have hD' : ∀ (k : Nat) (a b : Value), l[k]? = some a → D.toList[k]? = some b → CellR P φ H w a b := fun k a b ha hb => hrel.2 k a b (by simpa using ha) (by simpa using hb)
  split at h
  · rename_i hle
    split at h
    · -- nil, nothing behind
      cases h
      obtain rfl := val_nilslice hs1
      have := run_append_in (P := P) (w := w) (ty := ty) (base := none) h0 h1 hu hx hnint hi (hlen w) (hD w rfl) hle
      exact ⟨_, _, this, φ, Step.refl hs, hs, val_refl rfl⟩
    · rename_i p
      split at h
      case h_2 => cases h
      rename_i C0 hc
      cases h
      obtain ⟨q, c', rfl, hsl⟩ := val_slice hs1
      obtain ⟨b, hb, hlv, _⟩ := cells_some (C := C0.1) (e := C0.2.1) (fr := C0.2.2) (by rw [hc])
      have hcc := hsl.cap hb hlv
      have := run_append_in (P := P) (w := w) (ty := ty) (base := some q) h0 h1 hu hx hnint hi (hlen w) (hD w rfl) (Nat.le_trans hle hcc)
      have hD0 : D.toList = [] := by have : D.size = 0 := by rw [hDl]; rfl
                                     simpa using this
      simp only [hD0, storeCells, Sem.run_pure, Result.andThen_ok] at this
      exact ⟨_, _, this, φ, Step.refl hs, hs, .part (.cell (.atom (.slice (hsl.longer (by omega) hle))))⟩
    · rename_i _ _ p hnil
      split at h
      case h_2 => cases h
      rename_i H1 hst
      cases h
      obtain ⟨q, c', rfl, hsl⟩ := val_slice hs1
      unfold storeCellsA at hst
      split at hst
      case h_2 => cases hst
      rename_i b hsp hb
      split at hst
      case h_2 => cases hst
      rename_i C e1 lo hi1 hobj
      split at hst
      case isFalse => cases hst
      rename_i hc
      cases hst
      simp only [Bool.and_eq_true, Bool.or_eq_true, decide_eq_true_eq, beq_iff_eq] at hc
      obtain ⟨⟨⟨⟨c1, c2⟩, c3⟩, c4⟩, c5⟩ := hc
      rw [add_block] at hb c1 c2
      have hcc := hsl.cap hb c1
      have hp : AddrR φ H p q := by
        rcases hsl with h | ⟨_, rfl, _⟩ | ⟨g1, g2, δ, _, _, _, _, g3, g4, _⟩ | ⟨g1, g2, _, _, δ, g3, g4⟩
        · exact .inl h
        · exfalso
          have : l = [] := by
            apply List.eq_nil_of_length_eq_zero
            rw [hll, show m = 0 by omega]; simp
          exact hnil this
        · exact .inr ⟨g1, g2, δ, g3, g4⟩
        · exact .inr ⟨g1, g2, δ, g3, g4⟩
      have hcs : H.cells (p.add (n * szT P e)).block = some (C, e1, (lo, hi1)) := by rw [add_block]; simp [AH.cells, hb, c1, hobj]
      obtain ⟨b2, δ, C', fr', lz⟩ := lies hs (hp.add (n * szT P e)) hcs
      have hb2 := lz.blk
      rw [add_block, hb] at hb2; obtain rfl := Option.some.inj hb2
      obtain ⟨w', g1, g2, g3⟩ := lz.store hs (by rw [add_block]; exact c2) (vs := l) (vs' := D.toList) (by simpa using hDl.symm) hD' c3 (by simpa [or_assoc] using c5)
      have hrun := run_append_in (P := P) (w := w) (ty := ty) (base := some q) h0 h1 hu hx hnint hi (hlen w) (hD w rfl) (Nat.le_trans hle hcc)
      simp only [g1, Result.andThen_ok] at hrun
      exact ⟨_, _, hrun, φ, g2, g3, .part (.cell (.atom (.slice ((hsl.longer (by omega) hle).mono g2))))⟩
    · cases h
  · rename_i hgt
    split at h
    case isFalse => cases h
    rename_i hfit
    obtain ⟨f1, f2, f3, f4, f5⟩ := hfit
    have hZ : ∀ cap need, (Builtin.zeroCells z.cells (cap - need)).size = (cap - need) * szT P e := fun cap need => by rw [zeroCells_size, f5]
    split at h
    · split at h
      case isFalse => cases h
      rename_i hn0
      subst hn0
      cases h
      obtain rfl := val_nilslice hs1
      have hrun := run_append_new (P := P) (w := w) (ty := ty) (base := none) (O := #[]) h0 h1 hu hx hnint hi hiz (hlen w) (hD w.drew rfl) (by simp [Builtin.firstCells]) hgt f3 f1 f2
      have hg := grown_row hs (e := e) (old := []) (l := l) (O := #[]) (D := D) (Z := Builtin.zeroCells z.cells (grownCap w (0 + m) c e - (0 + m))) (need := 0 + m) (cap := grownCap w (0 + m) c e) ⟨rfl, fun i a b ha _ => by simp at ha⟩ hrel (by simp [hll]) (cap_ge _ _ _ _) (hZ _ _)
      exact ⟨_, _, hrun, by simpa using hg⟩
    · rename_i p
      split at h
      case h_2 => cases h
      rename_i b old hsp hb hrow
      split at h
      case h_2 => cases h
      rename_i C e' lo hi1 hobj
      split at h
      case isTrue => cases h
      rename_i hee
      have hnc : n ≤ c := Nat.le_of_not_lt fun h => hee (.inr h)
      have hee : e' = e := Classical.not_not.1 fun h => hee (.inl h)
      subst hee
      obtain ⟨q, c', rfl, hsl⟩ := val_slice hs1
      rcases row_load hs hs1 (fun h0 => by rw [h0]; simp) hrow with ⟨hpn, _⟩ | ⟨q2, c2, O, _, hq2, hO, hOrel, hOlen⟩
      · cases hpn
      cases hq2
      have hlive : H.live p.block b = true := by
        unfold rowA at hrow
        simp only [AH.cells, hb, hobj] at hrow
        cases hl : H.live p.block b with
        | true => rfl
        | false => rw [hl] at hrow; simp at hrow
      have hcc := hsl.cap hb hlive
      -- the world grows too
      have grows : c' < n + m → ∀ (H2 : AH), (∀ g : Good P φ H w (H.alloc (.cells (old ++ l).toArray e') false) (.slice (some ⟨H.next, 0, none⟩) (n + m) (n + m)) (.slice (some ⟨w.heap.size, 0, none⟩) (n + m) (grownCap w (n + m) c' e')) (w.drew.alloc (.cells (O ++ D ++ Builtin.zeroCells z.cells (grownCap w (n + m) c' e' - (n + m))) e')), True) →
          (Builtin.append_ ats ty #[.slice (some q) n c', x']).run P w = .ok (.slice (some ⟨w.heap.size, 0, none⟩) (n + m) (grownCap w (n + m) c' e')) (w.drew.alloc (.cells (O ++ D ++ Builtin.zeroCells z.cells (grownCap w (n + m) c' e' - (n + m))) e')) := fun hlt _ _ =>
        run_append_new (P := P) (w := w) (ty := ty) (base := some q) (O := O) h0 h1 hu hx hnint hi hiz (hlen w) (hD w.drew rfl) (by simpa [Builtin.firstCells] using hO w.drew rfl) (by omega) f3 f1 f2
      split at h
      · rename_i hex
        cases h
        have hc' : c' = c := by
          rcases hsl with h | ⟨_, rfl, rfl, _⟩ | ⟨_, _, δ, C2, e2, fr2, b2, _, _, k1, k2, _, _, k3⟩ | ⟨_, _, k3, k4, _⟩
          · exact absurd h (not_dead hb hlive)
          · rfl
          · rw [hb] at k1; obtain rfl := Option.some.inj k1
            rw [hobj] at k2; cases k2
            rcases k3 with k3 | ⟨k3, k4, _⟩
            · exact k3
            · rcases hex with hex | hex
              · rw [hex] at k3; cases k3
              · omega
          · omega
        subst hc'
        have hrun := grows (by omega) H (fun _ => trivial)
        have hg := grown_row hs (e := e') (old := old) (l := l) (O := O) (D := D) (Z := Builtin.zeroCells z.cells (grownCap w (n + m) c' e' - (n + m))) (need := n + m) (cap := grownCap w (n + m) c' e') hOrel hrel (by rw [hOlen, hll, ← Nat.add_mul]) (cap_ge _ _ _ _) (hZ _ _)
        exact ⟨_, _, hrun, hg⟩
      · rename_i hex
        split at h
        case isFalse => cases h
        rename_i hend
        obtain ⟨d1, d2, d3⟩ := hend
        cases h
        subst d2
        have hexf : b.exact = false := by
          cases hb0 : b.exact with
          | false => rfl
          | true => exact absurd (.inl hb0) hex
        by_cases hroom : n + m ≤ c'
        · -- the world has room
          have hpos : c' ≠ n := by omega
          rcases hsl with hd | ⟨e1, e2, e3, _⟩ | ⟨t1, t2, δ, C2, e2, fr2, b2, t3, t4, t5, t6, t7, t8, t9⟩ | ⟨_, _, k3, k4, _⟩
          rotate_left 3
          · exfalso; omega
          · exact absurd hd (not_dead hb hlive)
          · exfalso; omega
          · rw [hb] at t5; obtain rfl := Option.some.inj t5
            rw [hobj] at t6; cases t6
            rcases t9 with t9 | ⟨_, _, _, C', fr', u1, u2⟩
            · exact absurd t9 hpos
            obtain ⟨b3, δ2, C3, fr3, lz⟩ := lies hs (p := p) (q := q) (.inr ⟨t1, t2, δ, t3, t4⟩) (C := C) (e := e') (fr := (lo, hi1)) (by simp [AH.cells, hb, hlive, hobj])
            have hb3 := lz.blk
            rw [hb] at hb3; obtain rfl := Option.some.inj hb3
            have := lz.phi
            rw [t3] at this
            obtain rfl : δ = δ2 := by simpa using this
            have := lz.real
            rw [u1] at this
            obtain ⟨rfl, rfl⟩ : C' = C3 ∧ fr' = fr3 := by simpa using this
            have hsz := lz.size
            have hmul : (n + m) * szT P e' ≤ c' * szT P e' := Nat.mul_le_mul_right _ hroom
            rw [Nat.add_mul] at hmul
            have hq0 : q.off + n * szT P e' = δ + C.size := by omega
            have hrun := run_append_in (P := P) (w := w) (ty := ty) (base := some q) h0 h1 hu hx hnint hi (hlen w) (hD w rfl) hroom
            have htl := lz.tip d3
            have hstore := run_storeCells_cells (P := P) q.block (q.off + n * szT P e') D.toList 0 w (fun j hj => by
                have hj : j < l.length := by simpa [hDl] using hj
                simp only [World.cell?, u1]
                simp
                omega)
              (fun j hj => by
                have hj : j < l.length := by simpa [hDl] using hj
                cases hfz : w.frozen? ⟨q.block, q.off + n * szT P e' + 0 + j, none⟩ with
                | false => rfl
                | true =>
                  exfalso
                  obtain ⟨f1, f2⟩ := fr'
                  simp only [World.frozen?, u1, Bool.and_eq_true, decide_eq_true_eq] at hfz
                  exact htl (q.off + n * szT P e' + 0 + j) (by omega) (by omega) (by unfold Ev.frz; exact hfz))
              (fun v hv => by
                obtain ⟨k, hk⟩ := List.getElem?_of_mem hv
                have hlt : k < l.length := by have := (List.getElem?_eq_some_iff.1 hk).1; simpa [hDl] using this
                exact cell_one (hD' k _ v (List.getElem?_eq_getElem hlt) hk))
            rw [Nat.add_zero, ← add_none t2] at hstore
            simp only [hstore, Result.andThen_ok] at hrun
            obtain ⟨g1, g2, g3⟩ := setCells_heap e' fr' q.block D.toList (q.off + n * szT P e') w C' u1
            have hin : q.off + n * szT P e' + D.toList.length ≤ C'.size := by simp [hDl]; omega
            have hkeep : ∀ k, k < δ + C.size → (writeCells C' (q.off + n * szT P e') D.toList)[k]? = C'[k]? := fun k hk => by
              rw [writeCells_get _ _ _ _ hin, if_neg (by omega)]
            have hst := step_copyI (off := p.off) (o := .cells (old ++ l).toArray e' (lo - p.off, hi1 - p.off)) hs t3 hb d3 hexf u1 (writeCells_size _ _ _) g2 g1 g3
            have hsim := sim_copyI (off := p.off) (D := (old ++ l).toArray) (fD := (lo - p.off, hi1 - p.off)) hs t3 hb d3 hexf hobj u1 (writeCells_size _ _ _) g2 g1 g3 hkeep (by simp [hOlen]; omega) ?_
            · refine ⟨_, _, hrun, _, hst, hsim, .part (.cell (.atom (.slice (.inr (.inr (.inl ⟨rfl, t2, δ + p.off, (old ++ l).toArray, e', _, _, upd_same, by rw [t4]; simp, blk_copyOf_new, rfl, Nat.le_refl _, by simp [hOlen, hll, Nat.add_mul], ?_⟩))))))⟩
              refine .inr ⟨rfl, by simp [hOlen, hll, Nat.add_mul], hroom, _, fr', by rw [g1, if_pos rfl], ?_⟩
              rw [writeCells_size]; exact u2
            · have hOsz : O.size = n * szT P e' := by have := hOrel.1; simp only [List.size_toArray] at this; omega
              -- the old cells are those of the row
              have hold : ∀ (k : Nat) (x : Value), old[k]? = some x → C[p.off + k]? = some x := fun k x hk => by
                have hrow2 : (if p.off + n * szT P e' ≤ C.size then some (C.extract p.off (p.off + n * szT P e')).toList else none) = some old := by
                  rw [← hrow]; unfold rowA; simp only [AH.cells, hb, hlive, hobj, t1]
                rw [if_pos (by omega)] at hrow2
                obtain rfl := Option.some.inj hrow2
                rw [Array.getElem?_toList, Array.getElem?_extract] at hk
                split at hk
                · exact hk
                · cases hk
              unfold ObjR
              refine ⟨_, fr', by rw [g1, if_pos rfl], by rw [writeCells_size]; simp [hOlen]; omega, fun k x y hx hy => ?_, fun k hk hfz => ?_, fun _ k hk1 hk2 => ?_, fun hx => by cases hx⟩
              · simp only [List.getElem?_toArray, List.getElem?_append] at hx
                split at hx
                · rename_i hk
                  rw [hkeep _ (by omega)] at hy
                  have h2 := hold k x hx
                  rw [show δ + p.off + k = δ + (p.off + k) by omega] at hy
                  exact (lz.cell _ x y h2 hy).mono hst
                · rename_i hk
                  have hlt : k - old.length < l.length := (List.getElem?_eq_some_iff.1 hx).1
                  rw [writeCells_get _ _ _ _ hin, if_pos (by simp [hDl]; omega), show δ + p.off + k - (q.off + n * szT P e') = k - old.length by omega] at hy
                  exact (hD' _ x y hx hy).mono hst
              · simp only [List.size_toArray, List.length_append] at hk
                by_cases hk2 : k < old.length
                · have := lz.cold (p.off + k) (by omega) (by rw [← Nat.add_assoc]; exact hfz)
                  unfold Ev.frz at this ⊢; simp only at this ⊢; omega
                · exact absurd hfz (htl _ (by omega) (by omega))
              · rw [writeCells_size] at hk2
                simp only [List.size_toArray, List.length_append] at hk1
                exact htl k (by omega) hk2
        · -- the world makes a new row
          have hrun := grows (by omega) H (fun _ => trivial)
          have h1' := hOrel.1
          have h2' := hrel.1
          simp only [List.size_toArray] at h1' h2'
          obtain ⟨x0, t3⟩ : ∃ x, φ p.block = some x := by
            rcases hsl with hd | ⟨_, _, _, k⟩ | ⟨_, _, _, _, _, _, _, k, _⟩ | ⟨_, _, _, _, _, k, _⟩
            · exact absurd hd (not_dead hb hlive)
            · exact k
            · exact ⟨_, k⟩
            · exact ⟨_, k⟩
          have hst := step_copyG (w' := w.drew.alloc (.cells (O ++ D ++ Builtin.zeroCells z.cells (grownCap w (n + m) c' e' - (n + m))) e')) (o := .cells (old ++ l).toArray e' (lo - p.off, hi1 - p.off)) (root := b.root) hs t3 d3 rfl rfl ⟨rfl, rfl, rfl⟩
          have hzs := hZ (grownCap w (n + m) c' e') (n + m)
          have hge := cap_ge w (n + m) c' e'
          have hmul2 : grownCap w (n + m) c' e' * szT P e' = (n + m) * szT P e' + (grownCap w (n + m) c' e' - (n + m)) * szT P e' := by rw [← Nat.add_mul]; congr 1; omega
          have hsim := sim_copyG (w' := w.drew.alloc (.cells (O ++ D ++ Builtin.zeroCells z.cells (grownCap w (n + m) c' e' - (n + m))) e')) (o := .cells (old ++ l).toArray e' (lo - p.off, hi1 - p.off)) hs t3 d3 hb hexf ⟨rfl, rfl⟩ rfl ⟨rfl, rfl, rfl⟩ ?_
          · refine ⟨_, _, hrun, _, hst, hsim, .part (.cell (.atom (.slice (.inr (.inr (.inl ⟨rfl, rfl, 0, (old ++ l).toArray, e', _, _, upd_same, rfl, blk_copyOf_new, rfl, Nat.le_refl _, by simp [hOlen, hll, Nat.add_mul], ?_⟩))))))⟩
            refine .inr ⟨rfl, by simp [hOlen, hll, Nat.add_mul], hge, O ++ D ++ Builtin.zeroCells z.cells (grownCap w (n + m) c' e' - (n + m)), (0, 0), by show (w.heap.push _)[w.heap.size]? = _; simp, ?_⟩
            simp only [Array.size_append, Nat.zero_add]
            rw [Nat.add_mul] at hmul2
            omega
          · unfold ObjR
            refine ⟨O ++ D ++ Builtin.zeroCells z.cells (grownCap w (n + m) c' e' - (n + m)), (0, 0), by show (w.heap.push _)[w.heap.size]? = _; simp, by simp only [List.size_toArray, List.length_append, Array.size_append]; omega, fun k x y hx hy => ?_, fun k hk hfz => absurd hfz (frz_none _), fun _ k _ _ => frz_none k, fun hx => by cases hx⟩
            simp only [List.getElem?_toArray, List.getElem?_append] at hx
            rw [Nat.zero_add, append_get, ← h1'] at hy
            split at hx
            · rename_i hk; rw [if_pos hk] at hy; exact (hOrel.2 k x y (by simpa using hx) hy).mono hst
            · rename_i hk
              rw [if_neg hk] at hy
              have hlt : k - old.length < l.length := (List.getElem?_eq_some_iff.1 hx).1
              rw [if_pos (by omega)] at hy
              exact (hrel.2 _ x y (by simpa using hx) hy).mono hst
end
end Go.Proofs.YtofigleaealbjaaGreatDoor.Ev
