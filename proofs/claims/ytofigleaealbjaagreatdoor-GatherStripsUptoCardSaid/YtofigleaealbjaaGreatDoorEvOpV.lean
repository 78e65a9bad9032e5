/-
  Conversions between texts and rows, comparisons of addresses: what the evaluator says is what the model does.
-/
import Derived.Test.YtofigleaealbjaaGreatDoorEvOpU
import Derived.Laws.BytesString
import Derived.Laws.Cover4
import Derived.Lib.ConvBytes
namespace Go.Proofs.YtofigleaealbjaaGreatDoor.Ev
set_option linter.unusedVariables false
set_option linter.unusedSimpArgs false
open Go
section
variable {P : Program} {φ : Phi} {H H' : AH} {w w' : World} {o : Oper} {ρ ρ' : Operand → Value} {v : Value}

/-- The cells of a row that the evaluator reads, in the world. -/
theorem row_load (hs : Sim P φ H w) {p : Option Addr} {n c k : Nat} {x : Value} {l : List Value} (hx : ValR P φ H w (.slice p n c) x) (hk : n = 0 → k = 0) (h : rowA H p k = some l) :
    (p = none ∧ x = .slice none n c ∧ l = [] ∧ k = 0) ∨
    ∃ q c' D, p.isSome = true ∧ x = .slice (some q) n c' ∧ (∀ w1 : World, w1.heap = w.heap → (loadCells q k).run P w1 = .ok D w1) ∧ ArrR (CellR P φ H w) l.toArray D ∧ l.length = k := by
  cases p with
  | none =>
    left
    unfold rowA at h
    simp only at h
    split at h
    · rename_i h0; cases h; exact ⟨rfl, val_nilslice hx, rfl, h0⟩
    · cases h
  | some p =>
    right
    obtain ⟨q, c', h1, h2⟩ := val_slice hx
    unfold rowA at h
    simp only at h
    split at h
    · rename_i C e fr hsp hc
      split at h
      · rename_i hle
        cases h
        have hlen : (C.extract p.off (p.off + k)).toList.length = k := by simp; omega
        by_cases h0 : k = 0
        · subst h0
          refine ⟨q, c', #[], rfl, h1, fun w1 _ => by simpa using run_loadCells_list (P := P) w1 q [] (by simp), ?_, hlen⟩
          rw [List.eq_nil_of_length_eq_zero hlen]; exact ⟨rfl, fun i x y hx _ => by simp at hx⟩
        · have hp : AddrR φ H p q := by
            rcases h2 with h2 | ⟨g1, _⟩ | ⟨g1, g2, δ, _, _, _, _, g3, g4, _⟩ | ⟨g1, g2, _, _, δ, g3, g4⟩
            · exact .inl h2
            · exact absurd (hk g1) h0
            · exact .inr ⟨g1, g2, δ, g3, g4⟩
            · exact .inr ⟨g1, g2, δ, g3, g4⟩
          obtain ⟨b, δ, C', fr', lz⟩ := lies hs hp hc
          obtain ⟨D, hD, hr⟩ := lz.load k hle
          refine ⟨q, c', D, rfl, h1, fun w1 hw1 => ?_, by rw [Array.toArray_toList]; exact hr, hlen⟩
          -- the same in a world with the same heap
          have hl : (loadCells q k).run P w = .ok D w := hD
          have hcells : ∀ j v, D.toList[j]? = some v → w.cell? (q.add j) = some v := fun j v hj => by
            rw [add_none lz.qspot, lz.cell? j]
            have hj' : j < D.size := by have := (List.getElem?_eq_some_iff.1 hj).1; simpa using this
            have hjk : j < k := by have := hr.1; simp at this; omega
            have hsz := lz.size
            have e := run_loadCells_list (P := P) w q (C'.extract (δ + p.off) (δ + p.off + k)).toList (fun j v hj => by
              rw [add_none lz.qspot, lz.cell? j]
              simp only [Array.getElem?_toList, Array.getElem?_extract] at hj
              split at hj
              · rw [← hj]; congr 1; omega
              · cases hj)
            rw [show (C'.extract (δ + p.off) (δ + p.off + k)).toList.length = k by simp; omega, hl] at e
            obtain ⟨e, _⟩ := Result.ok.inj e
            rw [e] at hj
            simp only [Array.toArray_toList, Array.getElem?_toList, Array.getElem?_extract] at hj
            split at hj
            · rw [← hj]; congr 1; omega
            · cases hj
          have := run_loadCells_list (P := P) w1 q D.toList (fun j v hj => by
            have := hcells j v hj
            simpa [World.cell?, hw1] using this)
          rw [show D.toList.length = k by have := hr.1; simp at this; simp; omega] at this
          simpa using this
      · cases h
    · cases h

theorem bytes_ints : ∀ (l : List Value) (bs : List UInt8), bytesOfCells l = some bs → ∃ ns : List Int, l = ns.map (Value.int .u8) ∧ bs = ns.map fun n => UInt8.ofNat n.toNat
  | [], bs, h => by simp [bytesOfCells] at h; exact ⟨[], rfl, by simp [h]⟩
  | x :: l, bs, h => by
    obtain ⟨n, bs', rfl, hb, rfl⟩ := bytes_cons h
    obtain ⟨ns, rfl, rfl⟩ := bytes_ints l bs' hb
    exact ⟨n :: ns, rfl, rfl⟩

theorem push_fold : ∀ (ns : List Int) (s : ByteArray), ns.foldl (fun r n => r.push (UInt8.ofNat n.toNat)) s = ⟨s.data ++ (ns.map fun n => UInt8.ofNat n.toNat).toArray⟩
  | [], s => by simp
  | n :: ns, s => by
    rw [List.foldl_cons, push_fold ns]
    simp [ByteArray.push]

theorem runes_ints : ∀ (l : List Value) (acc bs : ByteArray), runesOfCells l acc = some bs → ∃ ns : List Int, l = ns.map (Value.int .i32) ∧ bs = ns.foldl (fun r n => r ++ Utf8.encode n) acc
  | [], acc, bs, h => by simp [runesOfCells] at h; exact ⟨[], rfl, by simp [h]⟩
  | x :: l, acc, bs, h => by
    obtain ⟨n, rfl, hb⟩ := runes_cons h
    obtain ⟨ns, rfl, rfl⟩ := runes_ints l _ bs hb
    exact ⟨n :: ns, rfl, rfl⟩

theorem freeze_heap {w : World} {r : Nat} {C : Array Value} {e : TypeId} {n : Nat} (h : w.heap[r]? = some (.cells C e (0, 0))) :
    (w.freeze ⟨r, n, none⟩ 1).heap.size = w.heap.size ∧ (∀ k, (w.freeze ⟨r, n, none⟩ 1).heap[k]? = if k = r then some (.cells C e (n, n + 1)) else w.heap[k]?) ∧ SameOut w (w.freeze ⟨r, n, none⟩ 1) := by
  unfold World.freeze
  rw [if_neg (by decide)]
  refine ⟨by simp, fun k => ?_, rfl, rfl, rfl⟩
  simp only [Array.getElem?_modify]
  by_cases hk : k = r
  · subst hk
    rw [if_pos rfl, if_pos rfl, h]
    rfl
  · rw [if_neg (fun e => hk e.symm), if_neg hk]

theorem s_marked (hs : Sim P φ H w) (hρ : ∀ x, ValR P φ H w (ρ x) (ρ' x)) {t e0 : TypeId} {x : Operand} (ho : o.op = .convert t t x) (ht : P.underlying t = some (.slice e0)) (he : P.underlying e0 = some (.int .u8))
    {p : Addr} {n c : Nat} (hx : ρ x = .slice (some p) n c) (h : markedA H p n c = some (v, H')) : OpRun P o ρ' φ H w H' v := by
  have hr := hρ x
  rw [hx] at hr
  obtain ⟨q, c', hq, hsl⟩ := val_slice hr
  unfold markedA at h
  split at h
  case h_2 => cases h
  rename_i b hb
  split at h
  case h_2 => cases h
  rename_i C e fr hobj
  split at h
  case isFalse => cases h
  rename_i hc
  obtain ⟨h1, h2, h3, h4, h5, h6, h7⟩ := hc
  cases h
  have hcs : H.cells p.block = some (C, e, fr) := by simp [AH.cells, hb, h1, hobj]
  have hp : AddrR φ H p q := by
    rcases hsl with h2 | ⟨g1, _⟩ | ⟨g1, g2, δ, _, _, _, _, g3, g4, _⟩ | ⟨g1, g2, _, _, δ, g3, g4⟩
    · exact .inl h2
    · omega
    · exact .inr ⟨g1, g2, δ, g3, g4⟩
    · exact .inr ⟨g1, g2, δ, g3, g4⟩
  obtain ⟨b2, δ, C', fr', l⟩ := lies hs hp hcs
  have hb2 := l.blk
  rw [hb] at hb2; obtain rfl := Option.some.inj hb2
  obtain ⟨hδ, hsz, hfr⟩ := l.exact h3
  have hfr0 : fr = (0, 0) := Prod.ext h5 h6
  subst hfr0
  subst hfr
  have hre := l.real
  obtain ⟨f1, f2, f3⟩ := freeze_heap (n := C'.size) hre
  have hshp : shapeSame b.obj (.cells C e (C.size, C.size + 1)) := by rw [l.obj]; exact ⟨rfl, rfl⟩
  have hreal : ∀ C1 e1 f1, w.heap[q.block]? = some (.cells C1 e1 f1) → ∃ C2 f2, Obj.cells C' e (C'.size, C'.size + 1) = .cells C2 e1 f2 ∧ C2.size = C1.size := fun C1 e1 f1 h => by
    rw [l.real] at h; cases h; exact ⟨_, _, rfl, rfl⟩
  have hst := step_put (o := .cells C e (C.size, C.size + 1)) hs l.phi l.blk l.live h2 hshp f1 f2 f3 hreal
  have hsim := sim_put (o := .cells C e (C.size, C.size + 1)) hs l.phi l.blk l.live h2 hshp ⟨rfl, rfl⟩ f1 f2 f3 hreal (by
    unfold ObjR
    refine ⟨C', (C'.size, C'.size + 1), by rw [f2, if_pos rfl], l.size, fun i x y hx hy => (l.cell i x y hx hy).mono hst, fun i hi hf => ?_, fun _ i hi1 hi2 hf => ?_, fun _ => ⟨hδ, hsz, by rw [hsz]⟩⟩
    · unfold frz at hf; simp only at hf; omega
    · unfold frz at hf; simp only at hf; omega)
  have hshq : w.shape? q.block = some (e, C'.size) := by unfold World.shape?; rw [hre]
  refine ⟨.value (.slice (some q) n c'), w.freeze ⟨q.block, C'.size, none⟩ 1, ?_, .inl ⟨_, rfl, φ, hst, hsim, hr.mono hst |> fun z => by rw [hq] at z; exact z⟩⟩
  simp only [execOp, ho, hq]
  simp [convert, run_underlying ht, run_underlying he, markStringish, hshq]

theorem s_convert (hs : Sim P φ H w) (hρ : ∀ x, ValR P φ H w (ρ x) (ρ' x)) {src dst : TypeId} {x : Operand} (ho : o.op = .convert src dst x) (h : convertA P H src dst (ρ x) = some (v, H')) : OpRun P o ρ' φ H w H' v := by
  have hr := hρ x
  unfold convertA at h
  split at h
  · rename_i e s hsrc hdst hx
    have h1 := val_string (hx ▸ hr)
    split at h
    · rename_i he hsz
      cases h
      have hrun := Lib.run_convert_string_bytes (P := P) w src dst e s hsrc hdst he
      have hcap : s.size ≤ grownCap w s.size 0 e := by simp [grownCap, Question.cut]
      have hcs : (Lib.bytesCells w e s).size = grownCap w s.size 0 e := by
        have : s.data.size = s.size := rfl
        simp [Lib.bytesCells, this]; omega
      have hheap : (Lib.bytesWorld w e s).heap = w.heap.push (.cells (Lib.bytesCells w e s) e ((Lib.bytesCells w e s).size, (Lib.bytesCells w e s).size + 1)) := by
        apply Array.ext
        · rw [Lib.bytesWorld_size]; simp
        · intro i h1 h2
          have hh : (Lib.bytesWorld w e s).heap[i]? = (w.heap.push (.cells (Lib.bytesCells w e s) e ((Lib.bytesCells w e s).size, (Lib.bytesCells w e s).size + 1)))[i]? := by
            rw [Lib.bytesWorld_size] at h1
            by_cases hi : i < w.heap.size
            · rw [Lib.bytesWorld_at_old w e s i hi, Array.getElem?_push, if_neg (by omega)]
            · have : i = w.heap.size := by omega
              subst this
              rw [Lib.bytesWorld_at_new]; simp
          rw [Array.getElem?_eq_getElem h1, Array.getElem?_eq_getElem h2] at hh
          exact Option.some.inj hh
      have hout : SameOut w (Lib.bytesWorld w e s) := by
        unfold Lib.bytesWorld World.freeze; split <;> exact ⟨rfl, rfl, rfl⟩
      obtain ⟨g1, g2⟩ := new_row (w' := Lib.bytesWorld w e s) (C := s.data.map fun b => Value.int .u8 b.toNat) (C' := Lib.bytesCells w e s) (e := e) (fr := (s.size, s.size + 1)) (fr' := ((Lib.bytesCells w e s).size, (Lib.bytesCells w e s).size + 1)) (ex := false) hs hheap hout
        (by simp [Lib.bytesCells]) (fun i a b ha hb => by
          have hi : i < s.data.size := by have := (Array.getElem?_eq_some_iff.1 ha).1; simpa using this
          simp only [Lib.bytesCells, Array.getElem?_append, Array.size_map, if_pos hi] at hb
          rw [ha] at hb; cases hb
          rw [Array.getElem?_map, Array.getElem?_eq_getElem hi] at ha
          cases ha
          exact cell_refl rfl)
        (fun i hi => by unfold frz; simp only; omega) (fun h => by cases h)
      refine ⟨.value (.slice (some ⟨w.heap.size, 0, none⟩) s.size (grownCap w s.size 0 e)), Lib.bytesWorld w e s, ?_, .inl ⟨_, rfl, _, g1, g2, ?_⟩⟩
      · simp only [execOp, ho, h1, Sem.run_bind, hrun, Result.andThen_ok, Sem.run_pure]
      · refine new_slice hheap (Nat.le_refl _) (by rw [hsz]; simp) (.inr ⟨rfl, by rw [hsz]; simp, hcap, by rw [hsz, hcs]; simp⟩)
    · rename_i he hsz
      simp only at h
      cases hall : (Conv.runesFrom s s.size 0 #[]).toList.all flat1 with
      | false => rw [hall] at h; cases h
      | true =>
        rw [hall] at h
        cases h
        generalize hrf : Conv.runesFrom s s.size 0 #[] = l at *
        have hcap : l.size ≤ grownCap w l.size 0 e := by simp [grownCap, Question.cut]
        have hrun : (convert src dst (.string s)).run P w = .ok (.slice (some ⟨w.heap.size, 0, none⟩) l.size (grownCap w l.size 0 e)) (w.drew.alloc (.cells (l ++ Array.replicate (grownCap w l.size 0 e - l.size) (.int .i32 0)) e)) := by
          simp only [convert, Sem.run_bind, run_underlying hsrc, run_underlying hdst, run_underlying he, Result.andThen_ok, Conv.stringToRunes, hrf, run_choose, Question.forced, Bool.false_eq_true, if_false, newRow, run_newObj, Sem.run_pure]
          rfl
        obtain ⟨g1, g2⟩ := new_row (w' := w.drew.alloc (.cells (l ++ Array.replicate (grownCap w l.size 0 e - l.size) (.int .i32 0)) e)) (C := l) (C' := l ++ Array.replicate (grownCap w l.size 0 e - l.size) (.int .i32 0)) (e := e) (fr := (0, 0)) (fr' := (0, 0)) (ex := false) hs rfl ⟨rfl, rfl, rfl⟩
          (by simp) (fun i a b ha hb => by
            have hi : i < l.size := (Array.getElem?_eq_some_iff.1 ha).1
            rw [Array.getElem?_append, if_pos hi, ha] at hb
            cases hb
            exact cell_refl (List.all_eq_true.1 hall a (by simpa using Array.mem_of_getElem? ha)))
          (fun i _ => frz_none i) (fun h => by cases h)
        refine ⟨.value (.slice (some ⟨w.heap.size, 0, none⟩) l.size (grownCap w l.size 0 e)), _, ?_, .inl ⟨_, rfl, _, g1, g2, ?_⟩⟩
        · simp only [execOp, ho, h1, Sem.run_bind, hrun, Result.andThen_ok, Sem.run_pure]
        · exact new_slice (C' := l ++ Array.replicate (grownCap w l.size 0 e - l.size) (.int .i32 0)) (fr' := (0, 0)) rfl (Nat.le_refl _) (by rw [hsz]; simp) (.inr ⟨rfl, by rw [hsz]; simp, hcap, by rw [hsz]; simp; omega⟩)
    · cases h
  · rename_i e p n c hsrc hdst hx
    have hv := hx ▸ hr
    split at h
    · rename_i l he hrow
      split at h
      · rename_i bs hbs
        cases h
        refine OpRun.value hs (v' := .string ⟨bs.toArray⟩) ?_ (val_refl rfl)
        rcases row_load hs hv id hrow with ⟨rfl, hx', rfl, _⟩ | ⟨q, c', D, _, hx', hD, hrel, hlen⟩
        · simp only [bytesOfCells] at hbs; cases hbs
          simp only [execOp, ho, hx', Sem.run_bind, run_convert_bytes_string w src dst e _ _ _ hsrc he hdst, Conv.bytesToString, Sem.run_pure, Result.andThen_ok]
          rfl
        · have hb2 := bytes_cells l D.toList bs (by have := hrel.1; simpa using this) (fun i x y hx hy => hrel.2 i x y (by simpa using hx) (by simpa using hy)) hbs
          obtain ⟨ns, h3, h4⟩ := bytes_ints _ _ hb2
          have hl := hD w rfl
          rw [show D = (ns.map (Value.int .u8)).toArray by rw [← h3]] at hl
          simp only [execOp, ho, hx', Sem.run_bind, run_convert_bytes_string w src dst e _ _ _ hsrc he hdst, run_bytesToString w q n c' ns hl, Result.andThen_ok, Sem.run_pure, push_fold, h4]
          simp
      · cases h
    · rename_i l he hrow
      split at h
      · rename_i bs hbs
        cases h
        refine OpRun.value hs (v' := .string bs) ?_ (val_refl rfl)
        rcases row_load hs hv id hrow with ⟨rfl, hx', rfl, _⟩ | ⟨q, c', D, _, hx', hD, hrel, hlen⟩
        · simp only [runesOfCells] at hbs; cases hbs
          simp only [execOp, ho, hx', Sem.run_bind, run_convert_runes_string w src dst e _ _ _ hsrc he hdst, Conv.runesToString, Sem.run_pure, Result.andThen_ok]
        · have hb2 := runes_cells l D.toList _ bs (by have := hrel.1; simpa using this) (fun i x y hx hy => hrel.2 i x y (by simpa using hx) (by simpa using hy)) hbs
          obtain ⟨ns, h3, h4⟩ := runes_ints _ _ _ hb2
          have hl := hD w rfl
          rw [show D = (ns.map (Value.int .i32)).toArray by rw [← h3]] at hl
          simp only [execOp, ho, hx', Sem.run_bind, run_convert_runes_string w src dst e _ _ _ hsrc he hdst, run_runesToString w q n c' ns hl, Result.andThen_ok, Sem.run_pure, h4, runesBytes]
      · cases h
    · cases h
  · rename_i e0 e p n c hsrc hdst hx
    split at h
    · rename_i hbeq he
      have hsd := Nat.eq_of_beq_eq_true hbeq
      subst hsd
      exact s_marked hs hρ ho hdst he hx h
    · cases h
  · cases h
end
end Go.Proofs.YtofigleaealbjaaGreatDoor.Ev
