/-
  Each operation but calls: what the evaluator says is what the model does.
  Each operation but calls, further: what the evaluator says is what the model does.
  Slices of slices, conversions, comparisons of addresses: what the evaluator says is what the model does.
  Conversions between texts and rows, comparisons of addresses: what the evaluator says is what the model does.
  Comparisons of addresses: what the evaluator says is what the model does.
  append: what the evaluator says is what the model does, whether the row has room or not.
  All operations, calls among them; code; functions: what the evaluator says is what the model does.
  Regions in the text's order, code, functions: what the evaluator says is what the model does.
  Functions of the library by their contracts.
-/
import Derived.Test.YtenolmhnmcjndaaGreatDoorEvRel
import Derived.Laws.BytesString
import Derived.Laws.Cover4
import Derived.Lib.ConvBytes
import Derived.Laws.Append
import Derived.Tactics
import Derived.LoopN
import Derived.Scope
import Derived.Below
import Derived.OrdersIn
import Derived.TacticsIn
import Derived.RangeFuncLeaves
import Derived.RangeFuncSeq
namespace Go.Proofs.YtenolmhnmcjndaaGreatDoor.Ev
set_option linter.unusedVariables false
set_option linter.unusedSimpArgs false
open Go
section
variable {P : Program} {φ : Phi} {H H' : AH} {w w' : World} {o : Oper} {ρ ρ' : Operand → Value} {v : Value}

/-- What an operation leaves. -/
def Good (P : Program) (φ : Phi) (H : AH) (w : World) (H' : AH) (v : Value) (v' : Value) (w' : World) : Prop :=
  ∃ φ', Step P φ H w φ' H' w' ∧ Sim P φ' H' w' ∧ ValR P φ' H' w' v v'

def OpRun (P : Program) (o : Oper) (ρ' : Operand → Value) (φ : Phi) (H : AH) (w : World) (H' : AH) (v : Value) : Prop :=
  ∃ n w', (execOp ρ' o).run P w = .ok n w' ∧ ((∃ v', n = .value v' ∧ Good P φ H w H' v v' w') ∨ (n = .skip ∧ Good P φ H w H' v undef w'))

theorem OpRun.value (hs : Sim P φ H w) {v' : Value} (h : (execOp ρ' o).run P w = .ok (.value v') w) (hv : ValR P φ H w v v') : OpRun P o ρ' φ H w H v :=
  ⟨_, w, h, .inl ⟨v', rfl, φ, Step.refl hs, hs, hv⟩⟩

theorem s_flat (hs : Sim P φ H w) (hρ : ∀ x, ValR P φ H w (ρ x) (ρ' x)) (hsel : ∀ cs b, o.op ≠ .select cs b) (h : flatOp P o ρ = some v) : OpRun P o ρ' φ H w H v := by
  unfold flatOp at h
  split at h
  · rename_i hall
    have hcong : execOp ρ o = execOp ρ' o := execOp_congr o hsel fun x hx =>
      val_eq (List.all_eq_true.1 hall x (by simpa using hx)) (hρ x)
    split at h
    · rename_i v0 hp
      cases hv : flatB v0 with
      | false => rw [hv] at h; cases h
      | true =>
        rw [hv] at h; cases h
        exact OpRun.value hs (by rw [← hcong]; exact pureRun_run _ _ hp w) (val_refl hv)
    · rename_i hp
      cases h
      refine ⟨_, w, by rw [← hcong]; exact pureRun_run _ _ hp w, .inr ⟨rfl, φ, Step.refl hs, hs, val_undef⟩⟩
    · cases h
  · cases h

theorem info_of_underlying {t : TypeId} {d : TypeDesc} (h : P.underlying t = some d) : ∃ i, P.info? t = some i := by
  unfold Program.underlying at h
  split at h
  · rename_i hi; exact ⟨_, hi⟩
  · rename_i i _ hi; exact ⟨_, hi⟩
  · cases h

theorem run_size {t : TypeId} {i : TypeInfo} (h : P.info? t = some i) (w : World) : (sizeOf t).run P w = .ok (szT P t) w := by
  simp [sizeOf, typeInfo, h, szT]

theorem s_load (hs : Sim P φ H w) (hρ : ∀ x, ValR P φ H w (ρ x) (ρ' x)) {t : TypeId} {a : Operand} (ho : o.op = .load t a) {p : Addr} (ha : ρ a = .pointer (some p))
    (h : loadA P H t p = some v) : OpRun P o ρ' φ H w H v := by
  have hv := hρ a
  rw [ha] at hv
  obtain ⟨q, hq, hp⟩ := val_ptr hv
  unfold loadA at h
  split at h
  · rename_i C e fr d hsp hc hu
    obtain ⟨b, δ, C', fr', l⟩ := lies hs hp hc
    obtain ⟨i, hi⟩ := info_of_underlying hu
    have agg : (∀ D, (loadCells q (szT P t)).run P w = .ok D w → (isAgg t).run P w = .ok true w → (execOp ρ' o).run P w = .ok (.value (.agg D)) w) := fun D h1 h2 => by
      simp only [execOp, ho, hq, Instr.loadAt, Instr.sureAddr, loadVar, Sem.run_bind, Sem.run_pure, Result.andThen_ok, h2, if_true, run_size hi, h1]
    have one : (isAgg t).run P w = .ok false w → ∀ y, w.cell? q = some y → (execOp ρ' o).run P w = .ok (.value y) w := fun h2 y hy => by
      simp only [execOp, ho, hq, Instr.loadAt, Instr.sureAddr, loadVar, Sem.run_bind, Sem.run_pure, Result.andThen_ok, h2, Bool.false_eq_true, if_false, run_load, hy]
    have scalar : (isAgg t).run P w = .ok false w → C[p.off]? = some v → OpRun P o ρ' φ H w H v := fun h2 hx => by
      obtain ⟨y, h3, h4⟩ := l.get hx
      refine OpRun.value hs (one h2 y ?_) (part_of_cell h4)
      have := l.cell? 0
      rw [Nat.add_zero, ← addr_eta l.qspot] at this
      rw [this]; exact h3
    have aggregate : (isAgg t).run P w = .ok true w → (if p.off + szT P t ≤ C.size then some (Value.agg (C.extract p.off (p.off + szT P t))) else none) = some v → OpRun P o ρ' φ H w H v := fun h2 hx => by
      split at hx
      · rename_i hle
        cases hx
        obtain ⟨D, h3, h4⟩ := l.load _ hle
        exact OpRun.value hs (agg D h3 h2) (.part (.agg h4))
      · cases hx
    cases d <;> first | exact aggregate (by simp [isAgg, run_underlying hu]) h | exact scalar (by simp [isAgg, run_underlying hu]) h
  · cases h

theorem s_store (hs : Sim P φ H w) (hρ : ∀ x, ValR P φ H w (ρ x) (ρ' x)) {t : TypeId} {a x : Operand} (ho : o.op = .store t a x) {p : Addr} (ha : ρ a = .pointer (some p))
    (h : storeA P H t p (ρ x) = some H') : OpRun P o ρ' φ H w H' undef := by
  have hv := hρ a
  rw [ha] at hv
  obtain ⟨q, hq, hp⟩ := val_ptr hv
  unfold storeA at h
  split at h
  · rename_i b hsp hb
    split at h
    · rename_i C e lo hi hobj
      split at h
      · rename_i hc
        cases h
        simp only [Bool.and_eq_true, Bool.or_eq_true, decide_eq_true_eq, beq_iff_eq] at hc
        obtain ⟨⟨⟨⟨⟨h1, h2⟩, h3⟩, h4⟩, h5⟩, h6⟩ := hc
        have hcs : H.cells p.block = some (C, e, (lo, hi)) := by simp [AH.cells, hb, h1, hobj]
        obtain ⟨b2, δ, C', fr', l⟩ := lies hs hp hcs
        have hb2 := l.blk
        rw [hb] at hb2; obtain rfl := Option.some.inj hb2
        have hr := val_cells (hρ x) h5
        obtain ⟨w', g1, g2, g3⟩ := l.store hs h2 (vs := (ρ x).cells.toList) (vs' := (ρ' x).cells.toList) (by simpa using hr.1) (fun i u y hu hy => hr.2 i u y (by simpa using hu) (by simpa using hy))
          (by simpa using h4) (by simpa [or_assoc] using h6)
        obtain ⟨i, hi, hisz⟩ := Option.map_eq_some_iff.1 h3
        have h3' : szT P t = (ρ x).cells.size := by simp [szT, hi, hisz]
        refine ⟨_, w', ?_, .inr ⟨rfl, φ, g2, g3, val_undef⟩⟩
        simp only [execOp, ho, hq, Instr.storeAt, Instr.sureAddr, storeVar, Sem.run_bind, Sem.run_pure, Result.andThen_ok, run_size hi]
        rw [if_neg (by rw [← hr.1, h3']; simp)]
        simp only [Result.andThen_ok, g1]
      · cases h
    · cases h
  · cases h

/-! ### New blocks -/
theorem zero_info {t : TypeId} {z : Value} (h : zeroT P t = some z) : ∃ i, P.info? t = some i ∧ i.zero = some z ∧ flat2 z = true := by
  unfold zeroT at h
  split at h
  · rename_i z' hz
    cases hf : flat2 z' with
    | false => rw [hf] at h; cases h
    | true =>
      rw [hf] at h; cases h
      cases hi : P.info? t with
      | none => simp [hi] at hz
      | some i => exact ⟨i, rfl, by simpa [hi] using hz, hf⟩
  · cases h

theorem zero_cells {z : Value} (h : flat2 z = true) : ArrR (CellR P φ H w) z.cells z.cells := by
  unfold flat2 at h
  split at h
  · exact ArrR.refl h fun _ => cell_refl
  · rename_i hna
    have : z.cells = #[z] := by cases z <;> first | rfl | (rename_i cs; exact absurd rfl (hna cs))
    rw [this]
    exact ArrR.refl (f := flat1) (by simp [h]) fun _ => cell_refl

theorem run_zero {t : TypeId} {i : TypeInfo} {z : Value} (hi : P.info? t = some i) (hz : i.zero = some z) (w : World) : (zeroValue t).run P w = .ok z w := by
  simp [zeroValue, typeInfo, hi, hz]

/-- A new row of cells in both. -/
theorem new_row (hs : Sim P φ H w) {C C' : Array Value} {e : TypeId} {fr fr' : Nat × Nat} {ex : Bool} (hh : w'.heap = w.heap.push (.cells C' e fr')) (ho : SameOut w w')
    (hsz : C.size ≤ C'.size) (hr : ∀ (i : Nat) (x y : Value), C[i]? = some x → C'[i]? = some y → CellR P φ H w x y)
    (hf : ∀ i, i < C'.size → ¬ frz fr' i) (hex : ex = true → C'.size = C.size ∧ fr' = fr) :
    Step P φ H w (upd φ H.next (w.heap.size, 0)) (H.alloc (.cells C e fr) ex) w' ∧ Sim P (upd φ H.next (w.heap.size, 0)) (H.alloc (.cells C e fr) ex) w' := by
  have hst := step_alloc (o := .cells C e fr) (ex := ex) hs hh ho
  refine ⟨hst, sim_alloc hs hh ho ⟨rfl, rfl⟩ ?_⟩
  unfold ObjR
  refine ⟨C', fr', by rw [hh]; simp, by omega, fun i x y hx hy => ?_, fun i hi hfz => ?_, fun _ i _ hi => hf i hi, fun hx => ?_⟩
  · rw [Nat.zero_add] at hy; exact (hr i x y hx hy).mono hst
  · rw [Nat.zero_add] at hfz; exact absurd hfz (hf i (by omega))
  · exact ⟨rfl, hex hx⟩

/-- The address of a new block. -/
theorem new_addr {o : Obj} {ex : Bool} : AddrR (upd φ H.next (w.heap.size, 0)) (H.alloc o ex) ⟨H.next, 0, none⟩ ⟨w.heap.size, 0, none⟩ :=
  .inr ⟨rfl, rfl, 0, upd_same, rfl⟩

theorem new_slice {C C' : Array Value} {e : TypeId} {fr fr' : Nat × Nat} {ex : Bool} {n c c' : Nat} (hh : w'.heap = w.heap.push (.cells C' e fr')) (hn : n ≤ c) (hc : c * szT P e ≤ C.size)
    (hcc : c' = c ∨ (ex = false ∧ c * szT P e = C.size ∧ c ≤ c' ∧ c' * szT P e ≤ C'.size)) :
    ValR P (upd φ H.next (w.heap.size, 0)) (H.alloc (.cells C e fr) ex) w' (.slice (some ⟨H.next, 0, none⟩) n c) (.slice (some ⟨w.heap.size, 0, none⟩) n c') :=
  .part (.cell (.atom (.slice (.inr (.inr (.inl ⟨rfl, rfl, 0, C, e, fr, _, upd_same, rfl, blk_alloc_new, rfl, hn, by simpa using hc, by
    rcases hcc with h | ⟨h1, h2, h3, h4⟩
    · exact .inl h
    · exact .inr ⟨h1, by simpa using h2, h3, C', fr', by rw [hh]; simp, by simpa using h4⟩⟩))))))

theorem frz_none (i : Nat) : ¬ frz (0, 0) i := by unfold frz; simp

theorem s_alloc (hs : Sim P φ H w) {e : TypeId} (ho : o.op = .alloc e) {z : Value} (hz : zeroT P e = some z) :
    OpRun P o ρ' φ H w (H.alloc (.cells z.cells e) true) (.pointer (some ⟨H.next, 0, none⟩)) := by
  obtain ⟨i, hi, hiz, hf⟩ := zero_info hz
  obtain ⟨g1, g2⟩ := new_row (w' := { w with heap := w.heap.push (.cells z.cells e) }) (C := z.cells) (C' := z.cells) (e := e) (fr := (0, 0)) (ex := true) hs rfl ⟨rfl, rfl, rfl⟩ (Nat.le_refl _)
    (zero_cells hf).2 (fun i _ => frz_none i) (fun _ => ⟨rfl, rfl⟩)
  refine ⟨.value (.pointer (some ⟨w.heap.size, 0, none⟩)), { w with heap := w.heap.push (.cells z.cells e) }, ?_, .inl ⟨_, rfl, _, g1, g2, .part (.cell (.atom (.ptr new_addr)))⟩⟩
  simp [execOp, ho, Instr.alloc, zeroValue, typeInfo, hi, hiz, newVar, newRow]

theorem s_box (hs : Sim P φ H w) (hρ : ∀ x, ValR P φ H w (ρ x) (ρ' x)) {e : TypeId} {x : Operand} (ho : o.op = .box e x) (hc : (ρ x).cells.toList.all isCell = true) :
    OpRun P o ρ' φ H w (H.alloc (.cells (ρ x).cells e) true) (.pointer (some ⟨H.next, 0, none⟩)) := by
  have hr := val_cells (hρ x) hc
  obtain ⟨g1, g2⟩ := new_row (w' := { w with heap := w.heap.push (.cells (ρ' x).cells e) }) (C := (ρ x).cells) (C' := (ρ' x).cells) (e := e) (fr := (0, 0)) (ex := true) hs rfl ⟨rfl, rfl, rfl⟩ (by rw [hr.1]; exact Nat.le_refl _)
    hr.2 (fun i _ => frz_none i) (fun _ => ⟨hr.1.symm, rfl⟩)
  refine ⟨.value (.pointer (some ⟨w.heap.size, 0, none⟩)), { w with heap := w.heap.push (.cells (ρ' x).cells e) }, ?_, .inl ⟨_, rfl, _, g1, g2, .part (.cell (.atom (.ptr new_addr)))⟩⟩
  simp [execOp, ho, Instr.box, newVar, newRow]

theorem elem_some {t e : TypeId} (h : elemT P t = some e) : P.underlying t = some (.slice e) := by
  unfold elemT at h; split at h
  · rename_i h'; cases h; exact h'
  · cases h

theorem zeros_rel {z : Value} (hf : flat2 z = true) (n : Nat) (hz : z.cells.size ≠ 0) : ArrR (CellR P φ H w) ((Array.range n).map (z.cells[· % z.cells.size]!)) ((Array.range n).map (z.cells[· % z.cells.size]!)) :=
  ⟨rfl, fun i x y hx hy => by
    rw [hx] at hy; obtain rfl := Option.some.inj hy
    rw [Array.getElem?_map] at hx
    obtain ⟨k, _, rfl⟩ := Option.map_eq_some_iff.1 hx
    have hlt : k % z.cells.size < z.cells.size := Nat.mod_lt _ (by omega)
    show CellR P φ H w (z.cells[k % z.cells.size]!) (z.cells[k % z.cells.size]!)
    rw [getElem!_pos z.cells _ hlt]
    exact (zero_cells hf).2 _ _ _ (Array.getElem?_eq_getElem hlt) (Array.getElem?_eq_getElem hlt)⟩

theorem s_buildSlice (hs : Sim P φ H w) (hρ : ∀ x, ValR P φ H w (ρ x) (ρ' x)) {t : TypeId} {n : Nat} {parts : Array (Nat × Operand)} (ho : o.op = .buildSlice t n parts)
    (h : buildSliceA P H t n (parts.toList.map fun p => (p.1, ρ p.2)) = some (v, H')) : OpRun P o ρ' φ H w H' v := by
  unfold buildSliceA at h
  split at h
  · rename_i e he
    split at h
    · rename_i z hz
      obtain ⟨i, hi, hiz, hf⟩ := zero_info hz
      have hsz : szT P e = i.size := by simp [szT, hi]
      split at h
      · rename_i h0
        cases hp : (parts.toList.map fun p => (p.1, ρ p.2)).isEmpty with
        | false => rw [hp] at h; cases h
        | true =>
          rw [hp] at h; cases h
          have hpe : parts = #[] := by simpa using hp
          subst hpe
          have hrun : (execOp ρ' o).run P w = .ok (.value (.slice (some ⟨w.heap.size, 0, none⟩) n n)) { w with heap := w.heap.push (.cells #[] e) } := by
            simp only [execOp, ho, Instr.buildSlice, Sem.run_bind, run_underlying (elem_some he), Result.andThen_ok, run_size hi]
            rw [if_neg (by omega)]
            have hr0 : ∀ f : Nat → Value, (Array.range 0).map f = #[] := fun f => Array.eq_empty_of_size_eq_zero (by simp)
            simp only [h0, if_true, Sem.run_bind, Sem.run_pure, Result.andThen_ok, hr0, Array.map_empty, Instr.fill, newRow, run_newObj]
          obtain ⟨g1, g2⟩ := new_row (w' := { w with heap := w.heap.push (.cells #[] e) }) (C := #[]) (C' := #[]) (e := e) (fr := (0, 0)) (ex := true) hs rfl ⟨rfl, rfl, rfl⟩ (Nat.le_refl _)
            (fun i x y hx _ => by simp at hx) (fun i _ => frz_none i) (fun _ => ⟨rfl, rfl⟩)
          exact ⟨_, _, hrun, .inl ⟨_, rfl, _, g1, g2, new_slice (C' := #[]) (fr' := (0, 0)) rfl (Nat.le_refl _) (by rw [h0]; simp) (.inl rfl)⟩⟩
      · rename_i h0
        split at h
        · rename_i hc
          obtain ⟨hc1, hc2, hc3⟩ := hc
          split at h
          · rename_i cells hfill
            cases h
            obtain ⟨D', hD, hrel⟩ := fill_rel (R := CellR P φ H w) _ (fun p : Nat × Operand => (p.1, ρ p.2)) (fun p => (p.1, ρ' p.2)) (fun _ => rfl) parts.toList _ _ _ (fun p hp => val_cells (hρ p.2) (by
              have := List.all_eq_true.1 hc3 (p.1, ρ p.2) (List.mem_map.2 ⟨p, hp, rfl⟩); exact this)) (zeros_rel hf _ hc2) hfill
            have hsize := fill_size _ _ _ _ hfill
            have hpl : (parts.map fun x => (x.1, ρ' x.2)).toList = parts.toList.map (fun p => (p.1, ρ' p.2)) := by simp
            have hrun : (execOp ρ' o).run P w = .ok (.value (.slice (some ⟨w.heap.size, 0, none⟩) n n)) { w with heap := w.heap.push (.cells D' e) } := by
              simp only [execOp, ho, Instr.buildSlice, Sem.run_bind, run_underlying (elem_some he), Result.andThen_ok, run_size hi]
              rw [if_neg (by omega), if_neg h0]
              simp only [Sem.run_bind, Sem.run_pure, Result.andThen_ok, zeroValue, typeInfo, run_program, hi, hiz, hpl, hD, newRow, run_newObj]
            obtain ⟨g1, g2⟩ := new_row (w' := { w with heap := w.heap.push (.cells D' e) }) (C := cells) (C' := D') (e := e) (fr := (0, 0)) (ex := true) hs rfl ⟨rfl, rfl, rfl⟩ (by rw [hrel.1]; exact Nat.le_refl _)
              hrel.2 (fun i _ => frz_none i) (fun _ => ⟨hrel.1.symm, rfl⟩)
            refine ⟨_, _, hrun, .inl ⟨_, rfl, _, g1, g2, ?_⟩⟩
            exact new_slice (C' := D') (fr' := (0, 0)) rfl (Nat.le_refl _) (by rw [hsize]; simp) (.inl rfl)
          · cases h
        · cases h
    · cases h
  · cases h

theorem s_makeSlice (hs : Sim P φ H w) (hρ : ∀ x, ValR P φ H w (ρ x) (ρ' x)) {t : TypeId} {l c : Operand} (ho : o.op = .makeSlice t l c)
    (h : makeSliceA P H t (ρ l) (ρ c) = some (v, H')) : OpRun P o ρ' φ H w H' v := by
  unfold makeSliceA at h
  split at h
  · rename_i e k1 n1 k2 n2 he hl hcap
    split at h
    · rename_i z hz
      split at h
      · rename_i hc
        obtain ⟨c1, c2, c3, c4, c5, c6⟩ := hc
        cases h
        obtain ⟨i, hi, hiz, hf⟩ := zero_info hz
        have hl' : ρ' l = .int k1 n1 := val_int (hl ▸ hρ l)
        have hc' : ρ' c = .int k2 n2 := val_int (hcap ▸ hρ c)
        have hb : bytesT P e = i.bytes := by simp [bytesT, hi]
        rw [hb] at c4
        have w1 : IntKind.i64.wrap n1 = n1 := by simp [IntKind.wrap, IntKind.bits, IntKind.signed]; omega
        have w2 : IntKind.i64.wrap n2 = n2 := by simp [IntKind.wrap, IntKind.bits, IntKind.signed]; omega
        have hsz : szT P e = i.size := by simp [szT, hi]
        have hrun : (execOp ρ' o).run P w = .ok (.value (.slice (some ⟨w.heap.size, 0, none⟩) n1.toNat n2.toNat)) { w with heap := w.heap.push (.cells ((Array.range (n2.toNat * szT P e)).map (z.cells[· % z.cells.size]!)) e) } := by
          have t1 : ¬ ((i.bytes : Int) * n2 > 2 ^ 48) := by omega
          simp only [execOp, ho, Instr.makeSlice, hl', hc', asInt, asIntOf, Sem.run_bind, run_underlying (elem_some he), Result.andThen_ok, Sem.run_pure, typeInfo, run_program, hi, w1, w2]
          rw [if_neg (by simp; omega)]
          simp only [Sem.run_bind, Result.andThen_ok, run_askRoom, run_size hi]
          by_cases h0 : n2.toNat * szT P e = 0
          · have hr0 : ∀ f : Nat → Value, (Array.range 0).map f = #[] := fun f => Array.eq_empty_of_size_eq_zero (by simp)
            simp only [h0, if_true, Sem.run_bind, Sem.run_pure, Result.andThen_ok, hr0, newRow, run_newObj]
          · simp only [h0, if_false, Sem.run_bind, Sem.run_pure, Result.andThen_ok, run_zero hi hiz, newRow, run_newObj]
        obtain ⟨g1, g2⟩ := new_row (w' := { w with heap := w.heap.push (.cells ((Array.range (n2.toNat * szT P e)).map (z.cells[· % z.cells.size]!)) e) }) (C := (Array.range (n2.toNat * szT P e)).map (z.cells[· % z.cells.size]!)) (C' := (Array.range (n2.toNat * szT P e)).map (z.cells[· % z.cells.size]!)) (e := e) (fr := (0, 0)) (ex := true) hs rfl ⟨rfl, rfl, rfl⟩ (Nat.le_refl _)
          (zeros_rel hf _ c5).2 (fun i _ => frz_none i) (fun _ => ⟨rfl, rfl⟩)
        exact ⟨_, _, hrun, .inl ⟨_, rfl, _, g1, g2, new_slice (fr' := (0, 0)) rfl (by omega) (by simp) (.inl rfl)⟩⟩
      · cases h
    · cases h
  · cases h

end
end Go.Proofs.YtenolmhnmcjndaaGreatDoor.Ev
namespace Go.Proofs.YtenolmhnmcjndaaGreatDoor.Ev
set_option linter.unusedVariables false
set_option linter.unusedSimpArgs false
open Go
section
variable {P : Program} {φ : Phi} {H H' : AH} {w w' : World} {o : Oper} {ρ ρ' : Operand → Value} {v : Value}

theorem s_pick (hs : Sim P φ H w) (hρ : ∀ x, ValR P φ H w (ρ x) (ρ' x)) {c a b : Operand} (ho : o.op = .pick c a b) {t : Bool} (hc : ρ c = .bool t) :
    OpRun P o ρ' φ H w H (if t then ρ a else ρ b) := by
  have h := val_bool (hc ▸ hρ c)
  refine OpRun.value hs (v' := if t then ρ' a else ρ' b) (by simp [execOp, ho, h, asBool]) ?_
  cases t
  · exact hρ b
  · exact hρ a

theorem s_extract (hs : Sim P φ H w) (hρ : ∀ x, ValR P φ H w (ρ x) (ρ' x)) {t : Operand} {ix : Nat} (ho : o.op = .extract t ix) {vs : Array Value} (ht : ρ t = .tuple vs) (hv : vs[ix]? = some v) :
    OpRun P o ρ' φ H w H v := by
  obtain ⟨vs', h1, h2⟩ := val_tuple (ht ▸ hρ t)
  have hlt : ix < vs'.size := by rw [← h2.1]; exact (Array.getElem?_eq_some_iff.1 hv).1
  have hv' := Array.getElem?_eq_getElem hlt
  exact OpRun.value hs (v' := vs'[ix]) (by simp [execOp, ho, Instr.extract, h1, hv']) (.part (h2.2 ix v _ hv hv'))

theorem s_build (hs : Sim P φ H w) (hρ : ∀ x, ValR P φ H w (ρ x) (ρ' x)) {t : TypeId} {parts : Array (Nat × Operand)} (ho : o.op = .build t parts)
    (h : buildA P t (parts.toList.map fun p => (p.1, ρ p.2)) = some v) : OpRun P o ρ' φ H w H v := by
  unfold buildA at h
  split at h
  · rename_i z hz hp
    split at h
    · rename_i cells hb
      cases h
      obtain ⟨i, hi, hiz, hf⟩ := zero_info hz
      have hparts : ∀ p ∈ parts.toList, ArrR (CellR P φ H w) (ρ p.2).cells (ρ' p.2).cells := fun p hp' => val_cells (hρ p.2) (by
        have := List.all_eq_true.1 hp (p.1, ρ p.2) (List.mem_map.2 ⟨p, hp', rfl⟩); exact this)
      have key : ∃ D', P.built t (parts.toList.map fun p => (p.1, ρ' p.2)) = some D' ∧ ArrR (CellR P φ H w) cells D' := by
        unfold Program.built at hb ⊢
        simp only [hi] at hb ⊢
        cases hu : P.underlying t with
        | none => simp [hu] at hb
        | some d =>
          cases d <;> try (simp [hu] at hb; done)
          case array n e =>
            simp only [hu] at hb ⊢
            cases hie : P.info? e with
            | none => simp [hie] at hb
            | some ie =>
              simp only [hie, hiz] at hb ⊢
              exact fill_rel _ (fun p : Nat × Operand => (p.1, ρ p.2)) (fun p => (p.1, ρ' p.2)) (fun _ => rfl) _ _ _ _ hparts (zero_cells hf) hb
          case struct fields =>
            simp only [hu] at hb ⊢
            cases hpl : fields.toList.mapM (fun f => (P.info? f.type).map fun i => (f.offset, i.size)) with
            | none => simp [hpl] at hb
            | some places =>
              simp only [hpl, hiz] at hb ⊢
              exact fill_rel _ (fun p : Nat × Operand => (p.1, ρ p.2)) (fun p => (p.1, ρ' p.2)) (fun _ => rfl) _ _ _ _ hparts (zero_cells hf) hb
      obtain ⟨D', hD, hrel⟩ := key
      refine OpRun.value hs (v' := .agg D') ?_ (.part (.agg hrel))
      have := run_build w t (parts.map fun p => (p.1, ρ' p.2)) D' (by simpa using hD)
      simp only [execOp, ho, Sem.run_bind, this, Result.andThen_ok, Sem.run_pure]
    · cases h
  · cases h

theorem s_nilCheck_ptr (hs : Sim P φ H w) (hρ : ∀ x, ValR P φ H w (ρ x) (ρ' x)) {x : Operand} (ho : o.op = .nilCheck x) {p : Addr} (hx : ρ x = .pointer (some p)) : OpRun P o ρ' φ H w H (.pointer (some p)) := by
  obtain ⟨q, h1, h2⟩ := val_ptr (hx ▸ hρ x)
  exact OpRun.value hs (v' := .pointer (some q)) (by simp [execOp, ho, h1]) (.part (.cell (.atom (.ptr h2))))

theorem s_nilCheck_func (hs : Sim P φ H w) (hρ : ∀ x, ValR P φ H w (ρ x) (ρ' x)) {x : Operand} (ho : o.op = .nilCheck x) {f : FuncId} {a b : Array Value} (hx : ρ x = .func (.func f) a b) :
    OpRun P o ρ' φ H w H (.func (.func f) a b) := by
  obtain ⟨h0, y', h1, h2⟩ := val_func (hx ▸ hρ x)
  subst h0
  exact OpRun.value hs (v' := .func (.func f) #[] y') (by simp [execOp, ho, h1]) (.part (.cell (.func h2)))

theorem AddrR.add {p q : Addr} (h : AddrR φ H p q) (n : Nat) : AddrR φ H (p.add n) (q.add n) := by
  have hb : ∀ a : Addr, (a.add n).block = a.block := fun a => by unfold Addr.add; split <;> rfl
  rcases h with h | ⟨h1, h2, δ, h3, h4⟩
  · exact .inl (by rw [hb]; exact h)
  · rw [add_none h1, add_none h2]
    exact .inr ⟨rfl, rfl, δ, h3, by simp only; omega⟩

theorem s_fieldAddr (hs : Sim P φ H w) (hρ : ∀ x, ValR P φ H w (ρ x) (ρ' x)) {s : TypeId} {x : Operand} {f : Nat} (ho : o.op = .fieldAddr s x f) (h : fieldAddrA P s (ρ x) f = some v) : OpRun P o ρ' φ H w H v := by
  unfold fieldAddrA at h
  split at h
  · rename_i fields p hu hx
    split at h
    · rename_i fl hfl
      cases h0 : Nat.beq (szT P fl.type) 0 with
      | true => rw [h0] at h; cases h
      | false =>
        rw [h0] at h; cases h
        have hne : szT P fl.type ≠ 0 := fun e => by rw [e] at h0; cases h0
        obtain ⟨i, hi⟩ : ∃ i, P.info? fl.type = some i := by
          cases hi : P.info? fl.type with
          | none => exact absurd (by simp [szT, hi]) hne
          | some i => exact ⟨i, rfl⟩
        obtain ⟨q, h1, h2⟩ := val_ptr (hx ▸ hρ x)
        refine OpRun.value hs (v' := .pointer (some (q.add fl.offset))) ?_ (.part (.cell (.atom (.ptr (h2.add _)))))
        simp only [execOp, ho, Instr.fieldAt, Sem.run_bind, run_underlying hu, Result.andThen_ok, hfl, h1, Instr.sureAddr, Sem.run_pure, fieldPlace, run_size hi, if_neg hne]
    · cases h
  · cases h

theorem s_indexAddr (hs : Sim P φ H w) (hρ : ∀ x, ValR P φ H w (ρ x) (ρ' x)) {t : TypeId} {x y : Operand} (ho : o.op = .indexAddr t x y)
    (h : indexAddrA P t (ρ x) (ρ y) = some v) : OpRun P o ρ' φ H w H v := by
  unfold indexAddrA at h
  split at h
  · rename_i e p n c k i hu hx hy
    split at h
    · rename_i hc
      cases h
      obtain ⟨hc1, hc2, hc3⟩ := hc
      obtain ⟨ie, hie⟩ := sz_info hc3
      have hc : 0 ≤ i ∧ i < n := ⟨hc1, hc2⟩
      obtain ⟨q, c', h1, h2⟩ := val_slice (hx ▸ hρ x)
      have h3 := val_int (hy ▸ hρ y)
      have hp : AddrR φ H p q := by
        rcases h2 with h2 | ⟨rfl, _, _⟩ | ⟨g1, g2, δ, _, _, _, _, g3, g4, _⟩ | ⟨g1, g2, _, _, δ, g3, g4⟩
        · exact .inl h2
        · omega
        · exact .inr ⟨g1, g2, δ, g3, g4⟩
        · exact .inr ⟨g1, g2, δ, g3, g4⟩
      refine OpRun.value hs (v' := .pointer (some (q.add (i.toNat * szT P e)))) ?_ (.part (.cell (.atom (.ptr (hp.add _)))))
      simp only [execOp, ho, Instr.indexAt, h1, h3, asIntOf, Sem.run_bind, run_underlying hu, Result.andThen_ok, Sem.run_pure, Sem.run_ite, if_pos hc, run_size hie]
    · cases h
  · rename_i n e p k i hu hx hy
    split at h
    · rename_i hc
      cases h
      obtain ⟨hc1, hc2, hc3⟩ := hc
      obtain ⟨ie, hie⟩ := sz_info hc3
      have hc : 0 ≤ i ∧ i < n := ⟨hc1, hc2⟩
      obtain ⟨q, h1, hp⟩ := val_ptr (hx ▸ hρ x)
      have h3 := val_int (hy ▸ hρ y)
      refine OpRun.value hs (v' := .pointer (some (q.add (i.toNat * szT P e)))) ?_ (.part (.cell (.atom (.ptr (hp.add _)))))
      simp only [execOp, ho, Instr.indexAt, Instr.sureAddr, h1, h3, asIntOf, Sem.run_bind, run_underlying hu, Result.andThen_ok, Sem.run_pure, Sem.run_ite, if_pos hc, run_size hie]
    · cases h
  · cases h

theorem cap_atom {a b : Value} (h : capB a = true) (r : ValR P φ H w a b) : AtomR P φ H w a b := by
  cases r with
  | part r => cases r with
    | junk => simp [junk, capB, atomB] at h
    | cell r => cases r with
      | atom r => exact r
      | _ => simp [capB, atomB] at h
    | agg r => simp [capB, atomB] at h
  | tuple r => simp [capB, atomB] at h

theorem s_makeFunc (hs : Sim P φ H w) (hρ : ∀ x, ValR P φ H w (ρ x) (ρ' x)) {f : FuncId} {first cap : Array Operand} (ho : o.op = .makeFunc (.func f) first cap) (h0 : first.isEmpty = true) (hc : cap.toList.all (fun x => capB (ρ x)) = true) :
    OpRun P o ρ' φ H w H (.func (.func f) #[] (cap.map ρ)) := by
  have hf : first = #[] := by simpa using h0
  subst hf
  refine OpRun.value hs (v' := .func (.func f) #[] (cap.map ρ')) (by simp [execOp, ho, Instr.makeFunc]) (.part (.cell (.func ⟨by simp, fun i x y hx hy => ?_⟩)))
  rw [Array.getElem?_map] at hx hy
  obtain ⟨k, hk, rfl⟩ := Option.map_eq_some_iff.1 hx
  rw [hk] at hy; cases hy
  exact cap_atom (List.all_eq_true.1 hc k (by simpa using Array.mem_of_getElem? hk)) (hρ k)

theorem s_makeInterface (hs : Sim P φ H w) (hρ : ∀ x, ValR P φ H w (ρ x) (ρ' x)) {t : TypeId} {x : Operand} (ho : o.op = .makeInterface t x) {d : TypeDesc} (hu : P.underlying t = some d) (hd : ∀ m, d ≠ .interface m)
    (hx : heldB (ρ x) = true) : OpRun P o ρ' φ H w H (.iface t (ρ x)) := by
  have hr := hρ x
  refine OpRun.value hs (v' := .iface t (ρ' x)) ?_ ?_
  · simp only [execOp, ho, Instr.makeInterface, Sem.run_bind, run_underlying hu, Result.andThen_ok]
    cases d <;> first | rfl | (rename_i m; exact absurd rfl (hd m))
  · generalize ρ x = a at *
    generalize ρ' x = b at *
    cases hr with
    | part r => cases r with
      | junk => simp [junk, heldB, atomB] at hx
      | cell r => cases r with
        | atom r => exact .part (.cell (.iface r))
        | _ => simp [heldB, atomB] at hx
      | @agg cs cs' r =>
        have hx : cs.toList.all atomB = true := by simpa [heldB, atomB] using hx
        have := r.eq (f := atomB) hx (fun x y h r => by cases r with
          | atom r => exact atom_eq h r
          | _ => simp [atomB] at h)
        subst this
        exact .part (.cell (.ifaceAgg hx))
    | tuple r => simp [heldB, atomB] at hx

theorem s_range (hs : Sim P φ H w) (hρ : ∀ x, ValR P φ H w (ρ x) (ρ' x)) {t : TypeId} {x : Operand} (ho : o.op = .range t x) (hu : P.underlying t = some .string) {s : ByteArray} (hx : ρ x = .string s) :
    OpRun P o ρ' φ H w (H.alloc (.stringIter s 0) true) (.pointer (some ⟨H.next, 0, none⟩)) := by
  have h := val_string (hx ▸ hρ x)
  have hsh : shapeSame (.stringIter s 0) (.stringIter s 0) := trivial
  have hst := step_alloc (w' := { w with heap := w.heap.push (.stringIter s 0) }) (o := .stringIter s 0) (ex := true) hs rfl ⟨rfl, rfl, rfl⟩
  refine ⟨.value (.pointer (some ⟨w.heap.size, 0, none⟩)), { w with heap := w.heap.push (.stringIter s 0) }, ?_, .inl ⟨_, rfl, _, hst, sim_alloc hs rfl ⟨rfl, rfl, rfl⟩ hsh ?_, .part (.cell (.atom (.ptr new_addr)))⟩⟩
  · simp only [execOp, ho, Instr.range, Sem.run_bind, run_underlying hu, Result.andThen_ok, h, Sem.run_pure, run_newObj]
  · exact ⟨rfl, rfl, by simp⟩

theorem s_next (hs : Sim P φ H w) (hρ : ∀ x, ValR P φ H w (ρ x) (ρ' x)) {x : Operand} (ho : o.op = .next x true) (h : nextA H (ρ x) = some (v, H')) : OpRun P o ρ' φ H w H' v := by
  unfold nextA at h
  split at h
  · rename_i r hx
    split at h
    · rename_i b hb
      split at h
      · rename_i s pos hc hobj
        simp only [Bool.and_eq_true] at hc
        obtain ⟨hl, ht⟩ := hc
        obtain ⟨q, h1, h2⟩ := val_ptr (hx ▸ hρ x)
        rcases h2 with h2 | ⟨_, hqs, δ, hφ, hoff⟩
        · exact absurd h2 (not_dead hb hl)
        · have hobjR := hs.obj r _ δ b hφ hb hl
          unfold ObjR at hobjR
          simp only [hobj] at hobjR
          obtain ⟨rfl, hex, hheap⟩ := hobjR
          have hq : q = ⟨q.block, 0, none⟩ := by
            have h0 : q.off = 0 := by simpa using hoff
            rw [← h0]; exact addr_eta hqs
          have hget : (getObj q.block).run P w = .ok (.stringIter s pos) w := by simp [getObj, Sem.run, hheap]
          split at h
          · rename_i hpos
            cases h
            have hset : (setObj q.block (.stringIter s (pos + (Utf8.decode s pos).2))).run P w = .ok () { w with heap := w.heap.setIfInBounds q.block (.stringIter s (pos + (Utf8.decode s pos).2)) } := by
              simp [setObj, Sem.run, hheap]
            have hlt : q.block < w.heap.size := (Array.getElem?_eq_some_iff.1 hheap).1
            have hh : ∀ k, (w.heap.setIfInBounds q.block (.stringIter s (pos + (Utf8.decode s pos).2)))[k]? = if k = q.block then some (.stringIter s (pos + (Utf8.decode s pos).2)) else w.heap[k]? := fun k => by
              rw [Array.getElem?_setIfInBounds]
              by_cases e : q.block = k
              · subst e; simp [hlt]
              · rw [if_neg e, if_neg (fun e' => e e'.symm)]
            have hreal : ∀ C e fr, w.heap[q.block]? = some (.cells C e fr) → ∃ C' fr', Obj.stringIter s (pos + (Utf8.decode s pos).2) = .cells C' e fr' ∧ C'.size = C.size := fun C e fr h => by rw [hheap] at h; cases h
            have hsh : shapeSame b.obj (.stringIter s (pos + (Utf8.decode s pos).2)) := by rw [hobj]; trivial
            have hst := step_put (w' := { w with heap := w.heap.setIfInBounds q.block (.stringIter s (pos + (Utf8.decode s pos).2)) }) (o := .stringIter s (pos + (Utf8.decode s pos).2)) hs hφ hb hl ht hsh (by simp) hh ⟨rfl, rfl, rfl⟩ hreal
            refine ⟨.value (.tuple #[.bool true, goInt pos, .int .i32 (Utf8.decode s pos).1]), { w with heap := w.heap.setIfInBounds q.block (.stringIter s (pos + (Utf8.decode s pos).2)) }, ?_, .inl ⟨_, rfl, φ, hst, sim_put hs hφ hb hl ht hsh trivial (by simp) hh ⟨rfl, rfl, rfl⟩ hreal ?_, ?_⟩⟩
            · rw [hq] at h1
              simp only [execOp, ho, Instr.next, h1, Sem.run_bind, hget, Result.andThen_ok, if_pos hpos, hset, Sem.run_pure]
            · exact ⟨rfl, hex, by rw [hh, if_pos rfl]⟩
            · exact val_refl (by simp [flatB, flat2, flat1, atomB])
          · rename_i hpos
            cases h
            refine OpRun.value hs (v' := .tuple #[.bool false]) ?_ (val_refl (by simp [flatB, flat2, flat1, atomB]))
            rw [hq] at h1
            simp only [execOp, ho, Instr.next, h1, Sem.run_bind, hget, Result.andThen_ok, if_neg hpos, Sem.run_pure]
      · cases h
    · cases h
  · cases h
end
end Go.Proofs.YtenolmhnmcjndaaGreatDoor.Ev
namespace Go.Proofs.YtenolmhnmcjndaaGreatDoor.Ev
set_option linter.unusedVariables false
set_option linter.unusedSimpArgs false
open Go
section
variable {P : Program} {φ : Phi} {H H' : AH} {w w' : World} {o : Oper} {ρ ρ' : Operand → Value} {v : Value}

/-! ### Maps -/
theorem flatB_of_atom {a : Value} (h : atomB a = true) : flatB a = true := by
  cases a <;> first | (cases h; done) | (simp_all [flatB, flat2, flat1])
theorem val_atom {a b : Value} (h : atomB a = true) (r : ValR P φ H w a b) : b = a := (val_eq (flatB_of_atom h) r).symm
theorem flatB_of_flat2 {z : Value} (h : flat2 z = true) : flatB z = true := by
  cases z <;> first | exact h | (cases h; done)
theorem flatB_pair {z : Value} {b : Bool} (h : flat2 z = true) : flatB (.tuple #[z, .bool b]) = true := by
  have h2 : flat2 (.bool b) = true := rfl
  unfold flatB
  simp only [List.all_cons, List.all_nil, List.all_toArray, Array.all_toList, h, h2, Bool.and_true, Bool.true_and]
theorem EntR.mono {φ' : Phi} (s : Step P φ H w φ' H' w') {a b : Array MapEntry} (h : EntR P φ H w a b) : EntR P φ' H' w' a b :=
  ⟨h.1, fun i x y hx hy => by obtain ⟨k1, k2, k3⟩ := h.2 i x y hx hy; exact ⟨k1, k2, k3.mono s⟩⟩
theorem same_eq {kd : TypeDesc} {k q : Value} (h : Instr.sameNow kd k q = some true) : q = k ∧ Instr.sameBits 10000 k k = true := by
  unfold Instr.sameNow at h
  split at h
  · split at h
    · rename_i e; subst e
      simp only [Option.some.injEq, beq_iff_eq] at h
      subst h
      exact ⟨rfl, by simp [Instr.sameBits]⟩
    · cases h
  · simp only [Option.some.injEq] at h
    rename_i a b
    obtain rfl : a = b := by
      obtain ⟨x⟩ := a
      obtain ⟨y⟩ := b
      have e : x = y := by simpa using (show (x == y) = true from h)
      rw [e]
    refine ⟨rfl, ?_⟩
    unfold Instr.sameBits
    exact h
  · simp only [Option.some.injEq, beq_iff_eq] at h
    subst h
    exact ⟨rfl, by simp [Instr.sameBits]⟩
  · cases h
theorem find_at {kd : TypeDesc} {k : Value} : ∀ (es : List MapEntry) (n i : Nat) (x : Value), Instr.findNow kd k es n = some (some (i, x)) → n ≤ i ∧ ∃ e, es[i - n]? = some e ∧ Instr.sameNow kd k e.key = some true
  | [], n, i, x, h => by cases h
  | e :: es, n, i, x, h => by
    unfold Instr.findNow at h
    split at h
    · rename_i hs; cases h; exact ⟨Nat.le_refl _, e, by simp, hs⟩
    · obtain ⟨h1, e2, h2, h3⟩ := find_at es (n + 1) i x h
      exact ⟨by omega, e2, by rw [show i - n = (i - (n + 1)) + 1 by omega]; simpa using h2, h3⟩
    · cases h
theorem put_map (hs : Sim P φ H w) {r r' : Nat} {b : Blk} {es es' n n' : Array MapEntry} {ck ck' : Nat} (h2 : φ r = some (r', 0)) (hb : H.blk r = some b) (hl : H.live r b = true) (ht : H.tip r b = true) (hobj : b.obj = .map es ck) (hex : b.exact = true) (h3 : w.heap[r']? = some (.map es' ck)) (hE : EntR P φ H w n n') :
    Step P φ H w φ (H.put r b (.map n ck')) { w with heap := w.heap.setIfInBounds r' (.map n' ck') } ∧ Sim P φ (H.put r b (.map n ck')) { w with heap := w.heap.setIfInBounds r' (.map n' ck') } := by
  have hlt : r' < w.heap.size := (Array.getElem?_eq_some_iff.1 h3).1
  have hh : ∀ k, (w.heap.setIfInBounds r' (.map n' ck'))[k]? = if k = r' then some (.map n' ck') else w.heap[k]? := fun k => by
    rw [Array.getElem?_setIfInBounds]
    by_cases e : r' = k
    · subst e; simp [hlt]
    · rw [if_neg e, if_neg (fun e' => e e'.symm)]
  have hreal : ∀ C e fr, w.heap[r']? = some (.cells C e fr) → ∃ C' fr', Obj.map n' ck' = .cells C' e fr' ∧ C'.size = C.size := fun C e fr h => by rw [h3] at h; cases h
  have hsh : shapeSame b.obj (.map n ck') := by rw [hobj]; trivial
  have hst := step_put (w' := { w with heap := w.heap.setIfInBounds r' (.map n' ck') }) (o := .map n ck') hs h2 hb hl ht hsh (by simp) hh ⟨rfl, rfl, rfl⟩ hreal
  exact ⟨hst, sim_put hs h2 hb hl ht hsh trivial (by simp) hh ⟨rfl, rfl, rfl⟩ hreal ⟨rfl, hex, n', by rw [hh, if_pos rfl], hE.mono hst⟩⟩
theorem run_checkKey (b : Bool) {kt : TypeId} {kd : TypeDesc} (hk : P.underlying kt = some kd) (hd : keyKind kd = true) (k : Value) (w : World) : (Instr.checkKey b 10000 kt k).run P w = .ok () w := by
  unfold Instr.checkKey
  simp only [Sem.run_bind, run_underlying hk, Result.andThen_ok]
  cases kd <;> first | (cases hd; done) | (cases k <;> rfl)
theorem run_findKey {kt : TypeId} {kd : TypeDesc} (hk : P.underlying kt = some kd) {k : Value} {es : List MapEntry} {r : Option (Nat × Value)} (h : Instr.findNow kd k es 0 = some r) (w : World) : (Instr.findKey kt k es).run P w = .ok r w := by
  unfold Instr.findKey
  simp only [Sem.run_bind, run_underlying hk, Result.andThen_ok, h, Sem.run_pure]
/-- What is found among entries that are alike. -/
theorem find_rel {kd : TypeDesc} {k : Value} : ∀ (es es' : List MapEntry) (n : Nat), es.length = es'.length → (∀ (i : Nat) (x y : MapEntry), es[i]? = some x → es'[i]? = some y → y.key = x.key ∧ y.born = x.born ∧ PartR P φ H w x.val y.val) →
    (Instr.findNow kd k es n = some none → Instr.findNow kd k es' n = some none) ∧ (∀ i x, Instr.findNow kd k es n = some (some (i, x)) → ∃ y, Instr.findNow kd k es' n = some (some (i, y)) ∧ PartR P φ H w x y)
  | [], [], n, _, _ => ⟨fun _ => rfl, fun i x h => by cases h⟩
  | [], _ :: _, n, h, _ => by cases h
  | _ :: _, [], n, h, _ => by cases h
  | e :: es, e' :: es', n, hl, hr => by
    obtain ⟨h1, h2, h3⟩ := hr 0 e e' rfl rfl
    have ih := find_rel (kd := kd) (k := k) es es' (n + 1) (by simpa using hl) (fun i x y hx hy => hr (i + 1) x y (by simpa using hx) (by simpa using hy))
    unfold Instr.findNow
    rw [h1]
    cases hs : Instr.sameNow kd k e.key with
    | none => exact ⟨fun h => (by cases h), fun i x h => (by cases h)⟩
    | some b =>
      cases b with
      | true => exact ⟨fun h => (by cases h), fun i x h => (by cases h; exact ⟨_, rfl, h3⟩)⟩
      | false => exact ih
theorem mapRow_rel (hs : Sim P φ H w) {m m' : Value} {es : List MapEntry} (hm : ValR P φ H w m m') (h : mapRow H m = some es) :
    (m' = .map none ∧ es = []) ∨ ∃ r r' b ck es', ∃ ea : Array MapEntry, m = .map (some r) ∧ m' = .map (some r') ∧ H.blk r = some b ∧ H.live r b = true ∧ b.obj = .map ea ck ∧ ea.toList = es ∧ φ r = some (r', 0) ∧ b.exact = true ∧ w.heap[r']? = some (.map es' ck) ∧ EntR P φ H w ea es' := by
  unfold mapRow at h
  split at h
  · cases h; exact .inl ⟨val_nilmap hm, rfl⟩
  · rename_i r
    split at h
    case h_2 => cases h
    rename_i b hb
    split at h
    case h_2 => cases h
    rename_i ea ck hl ho
    cases h
    obtain ⟨r', h1, h2⟩ := val_map hm
    rcases h2 with h2 | h2
    · exact absurd h2 (not_dead hb hl)
    · have hob := hs.obj r _ 0 b h2 hb hl
      unfold ObjR at hob
      simp only [ho] at hob
      obtain ⟨_, hex, es', h3, h4⟩ := hob
      exact .inr ⟨r, r', b, ck, es', ea, rfl, h1, hb, hl, ho, rfl, h2, hex, h3, h4⟩
  · cases h
theorem s_makeMap (hs : Sim P φ H w) {t kt et : TypeId} (ho : o.op = .makeMap t none) (hu : P.underlying t = some (.map kt et)) :
    OpRun P o ρ' φ H w (H.alloc (.map #[] 0) true) (.map (some H.next)) := by
  have hsh : shapeSame (.map #[] 0) (.map #[] 0) := trivial
  have hst := step_alloc (w' := { w with heap := w.heap.push (.map #[] 0) }) (o := .map #[] 0) (ex := true) hs rfl ⟨rfl, rfl, rfl⟩
  refine ⟨.value (.map (some w.heap.size)), { w with heap := w.heap.push (.map #[] 0) }, ?_, .inl ⟨_, rfl, _, hst, sim_alloc hs rfl ⟨rfl, rfl, rfl⟩ hsh ?_, .part (.cell (.atom (.map (.inr ?_))))⟩⟩
  · simp only [execOp, ho, Instr.makeMap, Option.map_none, Sem.run_bind, Result.andThen_ok, Sem.run_pure, run_newObj]
  · exact ⟨rfl, rfl, #[], by simp, rfl, fun i x y hx hy => by simp at hx⟩
  · unfold upd; rw [if_pos rfl]
theorem s_lookup (hs : Sim P φ H w) (hρ : ∀ x, ValR P φ H w (ρ x) (ρ' x)) {t : TypeId} {m k : Operand} {ok : Bool} (ho : o.op = .lookup t m k ok) (h : lookupA P H t (ρ m) (ρ k) ok = some v) : OpRun P o ρ' φ H w H v := by
  unfold lookupA at h
  split at h
  case h_2 => cases h
  rename_i kt et hu
  split at h
  case h_2 => cases h
  rename_i kd z es hk hz hes
  cases hc : keyKind kd && atomB (ρ k) with
  | false => rw [hc] at h; cases h
  | true =>
    rw [hc] at h
    simp only [Bool.and_eq_true] at hc
    obtain ⟨hkd, hka⟩ := hc
    have hk' : ρ' k = ρ k := val_atom hka (hρ k)
    obtain ⟨i, hi, hiz, hzf⟩ := zero_info hz
    have hck := fun b => run_checkKey (P := P) b hk hkd (ρ k) w
    rcases mapRow_rel hs (hρ m) hes with ⟨h1, rfl⟩ | ⟨r, r', b, ck, es', ea, h1, h2, h3, h4, h5, h6, h7, h8, h9, h10⟩
    · have hf := run_findKey (P := P) hk (show Instr.findNow kd (ρ k) [] 0 = some none from rfl) w
      have hv : v = bif ok then .tuple #[z, .bool false] else z := by simp only [Instr.findNow, cond_true, Option.some.injEq] at h; exact h.symm
      refine OpRun.value hs (v' := v) ?_ ?_
      · subst hv
        simp only [execOp, ho, Instr.lookup, Sem.run_bind, run_underlying hu, Result.andThen_ok, h1, Sem.run_pure, hk', hck, hf, run_zero hi hiz]
        cases ok <;> rfl
      · subst hv
        cases ok
        · exact val_refl (flatB_of_flat2 hzf)
        · exact val_refl (flatB_pair hzf)
    · have hget : (getObj r').run P w = .ok (.map es' ck) w := by simp [getObj, Sem.run, h9]
      obtain ⟨f1, f2⟩ := find_rel (P := P) (φ := φ) (H := H) (w := w) (kd := kd) (k := ρ k) es es'.toList 0 (by rw [← h6]; simpa using h10.1) (fun i x y hx hy => h10.2 i x y (by rw [← h6] at hx; simpa using hx) (by simpa using hy))
      simp only [cond_true] at h
      split at h
      · rename_i ix x hfx
        obtain ⟨y, g1, g2⟩ := f2 _ _ hfx
        have hf := run_findKey (P := P) hk g1 w
        cases h
        refine OpRun.value hs (v' := bif ok then .tuple #[y, .bool true] else y) ?_ ?_
        · simp only [execOp, ho, Instr.lookup, Sem.run_bind, run_underlying hu, Result.andThen_ok, h2, hget, Sem.run_pure, hk', hck, hf]
          cases ok <;> rfl
        · cases ok
          · exact .part g2
          · refine .tuple ⟨rfl, fun i a b ha hb => ?_⟩
            match i, ha, hb with
            | 0, ha, hb => cases ha; cases hb; exact g2
            | 1, ha, hb => cases ha; cases hb; exact .cell (cell_refl rfl)
            | i + 2, ha, hb => simp at ha
      · rename_i hfx
        have hf := run_findKey (P := P) hk (f1 hfx) w
        cases h
        refine OpRun.value hs (v' := bif ok then .tuple #[z, .bool false] else z) ?_ ?_
        · simp only [execOp, ho, Instr.lookup, Sem.run_bind, run_underlying hu, Result.andThen_ok, h2, hget, Sem.run_pure, hk', hck, hf, run_zero hi hiz]
          cases ok <;> rfl
        · cases ok
          · exact val_refl (flatB_of_flat2 hzf)
          · exact val_refl (flatB_pair hzf)
      · cases h
theorem s_mapUpdate (hs : Sim P φ H w) (hρ : ∀ x, ValR P φ H w (ρ x) (ρ' x)) {t : TypeId} {m k x : Operand} (ho : o.op = .mapUpdate t m k x) (h : mapUpdateA P H t (ρ m) (ρ k) (ρ x) = some H') : OpRun P o ρ' φ H w H' undef := by
  unfold mapUpdateA at h
  split at h
  case h_2 => cases h
  rename_i kt et r hu hm
  split at h
  case h_2 => cases h
  rename_i kd b hk hb
  split at h
  case h_2 => cases h
  rename_i es ck hc hobj
  simp only [Bool.and_eq_true] at hc
  obtain ⟨⟨⟨⟨hl, ht⟩, hkd⟩, hka⟩, hnt⟩ := hc
  obtain ⟨r', h1, h2⟩ := val_map (hm ▸ hρ m)
  rcases h2 with h2 | h2
  · exact absurd h2 (not_dead hb hl)
  have hob := hs.obj r _ 0 b h2 hb hl
  unfold ObjR at hob
  simp only [hobj] at hob
  obtain ⟨_, hex, es', h3, h4⟩ := hob
  have hk' : ρ' k = ρ k := val_atom hka (hρ k)
  have hx' : PartR P φ H w (ρ x) (ρ' x) := by
    have hr := hρ x
    generalize ρ x = a at *
    generalize ρ' x = a' at *
    cases hr with
    | part h => exact h
    | tuple h => cases hnt
  have hget : (getObj r').run P w = .ok (.map es' ck) w := by simp [getObj, Sem.run, h3]
  have hck := fun b => run_checkKey (P := P) b hk hkd (ρ k) w
  have hset : ∀ ob, (setObj r' ob).run P w = .ok () { w with heap := w.heap.setIfInBounds r' ob } := fun ob => by simp [setObj, Sem.run, h3]
  obtain ⟨f1, f2⟩ := find_rel (P := P) (φ := φ) (H := H) (w := w) (kd := kd) (k := ρ k) es.toList es'.toList 0 (by simpa using h4.1) (fun i x y hx hy => h4.2 i x y (by simpa using hx) (by simpa using hy))
  split at h
  · rename_i ix x0 hfx
    cases h
    obtain ⟨y, g1, g2⟩ := f2 _ _ hfx
    have hf := run_findKey (P := P) hk g1 w
    obtain ⟨_, e0, g3, g4⟩ := find_at _ _ _ _ g1
    rw [Nat.sub_zero, Array.getElem?_toList] at g3
    obtain ⟨g5, g6⟩ := same_eq g4
    have hkey : (Instr.keyThatStays (((es'[ix]?).map (·.key)).getD (ρ k)) (ρ k)).run P w = .ok (ρ k) w := by
      rw [g3]
      simp only [Option.map_some, Option.getD_some, g5, Instr.keyThatStays]
      rw [if_pos g6]
      rfl
    have hE : EntR P φ H w (es.modify ix fun e => { e with key := ρ k, val := ρ x }) (es'.modify ix fun e => { e with key := ρ k, val := ρ' x }) := by
      refine ⟨by simpa using h4.1, fun i a b ha hb => ?_⟩
      rw [Array.getElem?_modify] at ha hb
      by_cases e : ix = i
      · rw [if_pos e] at ha hb
        cases hea : es[i]? with
        | none => rw [hea] at ha; cases ha
        | some a0 => cases heb : es'[i]? with
          | none => rw [heb] at hb; cases hb
          | some b0 =>
            rw [hea] at ha; rw [heb] at hb
            cases ha; cases hb
            exact ⟨rfl, (h4.2 i a0 b0 hea heb).2.1, hx'⟩
      · rw [if_neg e] at ha hb
        exact h4.2 i a b ha hb
    obtain ⟨q1, q2⟩ := put_map (ck' := ck) hs h2 hb hl ht hobj hex h3 hE
    refine ⟨_, _, ?_, .inr ⟨rfl, φ, q1, q2, val_undef⟩⟩
    simp only [execOp, ho, Instr.mapUpdate, Sem.run_bind, run_underlying hu, Result.andThen_ok, h1, hget, hk', hck, hf, hkey, hset, Sem.run_pure]
  · rename_i hfx
    cases h
    have hf := run_findKey (P := P) hk (f1 hfx) w
    have hE : EntR P φ H w (es.push { key := ρ k, val := ρ x, born := ck }) (es'.push { key := ρ k, val := ρ' x, born := ck }) := by
      refine ⟨by simpa using h4.1, fun i a b ha hb => ?_⟩
      rw [Array.getElem?_push] at ha hb
      by_cases e : i = es.size
      · rw [if_pos e] at ha
        rw [if_pos (e.trans h4.1)] at hb
        cases ha; cases hb
        exact ⟨rfl, rfl, hx'⟩
      · rw [if_neg e] at ha
        rw [if_neg (fun e2 => e (e2.trans h4.1.symm))] at hb
        exact h4.2 i a b ha hb
    obtain ⟨q1, q2⟩ := put_map (ck' := ck + 1) hs h2 hb hl ht hobj hex h3 hE
    refine ⟨_, _, ?_, .inr ⟨rfl, φ, q1, q2, val_undef⟩⟩
    simp only [execOp, ho, Instr.mapUpdate, Sem.run_bind, run_underlying hu, Result.andThen_ok, h1, hget, hk', hck, hf, hset, Sem.run_pure]
  · cases h
/-! ### A slice's literal of constants -/
theorem const_parts {ps : Array (Nat × Operand)} (h : constP ps = true) {ρ ρ' : Operand → Value} (h1 : ∀ v, atomB v = true → ρ (.const v) = v) (h2 : ∀ v, atomB v = true → ρ' (.const v) = v) : ∀ p, p ∈ ps.toList → ρ p.2 = ρ' p.2 ∧ atomB (ρ p.2) = true := fun p hp => by
  have := List.all_eq_true.1 h p hp
  split at this
  · rename_i v hv; rw [hv, h1 _ this, h2 _ this]; exact ⟨rfl, this⟩
  · cases this
theorem built_const {t : TypeId} {n : Nat} {ps : Array (Nat × Operand)} (ho : o.op = .buildSlice t n ps) (hc : constP ps = true) (hρ : ∀ v, atomB v = true → ρ (.const v) = v) (h : buildSliceA P H t n (ps.toList.map fun p => (p.1, ρ p.2)) = some (v, H')) :
    ∃ (e : TypeId) (C : Array Value), v = .slice (some ⟨H.next, 0, none⟩) n n ∧ H' = H.alloc (.cells C e) true ∧ (∀ ρ' : Operand → Value, (∀ v, atomB v = true → ρ' (.const v) = v) → ∀ w : World, (execOp ρ' o).run P w = .ok (.value (.slice (some ⟨w.heap.size, 0, none⟩) n n)) { w with heap := w.heap.push (.cells C e) }) ∧
      (∀ (φ : Phi) (H : AH) (w : World), ArrR (CellR P φ H w) C C) ∧ n * szT P e ≤ C.size := by
  unfold buildSliceA at h
  split at h
  case h_2 => cases h
  rename_i e he
  split at h
  case h_2 => cases h
  rename_i z hz
  obtain ⟨i, hi, hiz, hf⟩ := zero_info hz
  have hsz : szT P e = i.size := by simp [szT, hi]
  split at h
  · rename_i h0
    cases hp : (ps.toList.map fun p => (p.1, ρ p.2)).isEmpty with
    | false => rw [hp] at h; cases h
    | true =>
      rw [hp] at h; cases h
      have hpe : ps = #[] := by simpa using hp
      subst hpe
      refine ⟨e, #[], rfl, rfl, fun ρ' _ w => ?_, fun _ _ _ => ⟨rfl, fun i x y hx => by simp at hx⟩, by rw [h0]; exact Nat.zero_le _⟩
      simp only [execOp, ho, Instr.buildSlice, Sem.run_bind, run_underlying (elem_some he), Result.andThen_ok, run_size hi]
      rw [if_neg (by omega)]
      have hr0 : ∀ f : Nat → Value, (Array.range 0).map f = #[] := fun f => Array.eq_empty_of_size_eq_zero (by simp)
      simp only [h0, if_true, Sem.run_bind, Sem.run_pure, Result.andThen_ok, hr0, Array.map_empty, Instr.fill, newRow, run_newObj]
  · rename_i h0
    split at h
    case isFalse => cases h
    rename_i hcc
    obtain ⟨hc1, hc2, hc3⟩ := hcc
    split at h
    case h_2 => cases h
    rename_i cells hfill
    cases h
    have hsize := fill_size _ _ _ _ hfill
    refine ⟨e, cells, rfl, rfl, fun ρ' hρ' w => ?_, fun φ H w => ?_, by rw [hsize]; simp⟩
    · have hpm : ps.toList.map (fun p => (p.1, ρ' p.2)) = ps.toList.map (fun p => (p.1, ρ p.2)) := List.map_congr_left fun p hp => by rw [(const_parts hc hρ hρ' p hp).1]
      have hpl : (ps.map fun x => (x.1, ρ' x.2)).toList = ps.toList.map (fun p => (p.1, ρ p.2)) := by rw [← hpm]; simp
      simp only [execOp, ho, Instr.buildSlice, Sem.run_bind, run_underlying (elem_some he), Result.andThen_ok, run_size hi]
      rw [if_neg (by omega), if_neg h0]
      simp only [Sem.run_bind, Sem.run_pure, Result.andThen_ok, zeroValue, typeInfo, run_program, hi, hiz, hpl, hfill, newRow, run_newObj]
    · obtain ⟨D', hD, hrel⟩ := fill_rel (R := CellR P φ H w) _ (fun p : Nat × Operand => (p.1, ρ p.2)) (fun p => (p.1, ρ p.2)) (fun _ => rfl) ps.toList _ _ _ (fun p hp => val_cells (val_refl (flatB_of_atom (const_parts hc hρ hρ p hp).2)) (by
        have := List.all_eq_true.1 hc3 (p.1, ρ p.2) (List.mem_map.2 ⟨p, hp, rfl⟩); exact this)) (zeros_rel hf _ hc2) hfill
      rw [hfill] at hD
      cases hD
      exact hrel
theorem intOf?_some {x : Option Value} {m : Option Int} (h : intOf? x = some m) : (x = none ∧ m = none) ∨ ∃ k n, x = some (.int k n) ∧ m = some n := by
  unfold intOf? at h
  split at h
  · cases h; exact .inl ⟨rfl, rfl⟩
  · cases h; exact .inr ⟨_, _, rfl, rfl⟩
  · cases h

theorem opt_int (hρ : ∀ x, ValR P φ H w (ρ x) (ρ' x)) {x : Option Operand} {m : Option Int} (h : intOf? (x.map ρ) = some m) : (x.map ρ' = none ∧ m = none) ∨ ∃ k n, x.map ρ' = some (.int k n) ∧ m = some n := by
  rcases intOf?_some h with ⟨h1, h2⟩ | ⟨k, n, h1, h2⟩
  · cases x with
    | none => exact .inl ⟨rfl, h2⟩
    | some x => cases h1
  · cases x with
    | none => cases h1
    | some x =>
      have h1 : ρ x = .int k n := by simpa using h1
      exact .inr ⟨k, n, by simp [val_int (h1 ▸ hρ x)], h2⟩

theorem run_bound {k : IntKind} {n : Int} {y : Nat} {c : BoundsCode} (h0 : 0 ≤ n) (h1 : n ≤ y) : (Instr.sliceBound (.int k n) y c).run P w = .ok n.toNat w := by
  simp only [Instr.sliceBound, asIntOf, Sem.run_bind, Sem.run_pure, Result.andThen_ok, Sem.run_ite]
  rw [if_pos ⟨h0, h1⟩]

/-- The bounds of x[lo:hi:mx], run. -/
theorem run_bounds {n c : Nat} {lo hi mx : Option Value} {l h m : Option Int} (hl : (lo = none ∧ l = none) ∨ ∃ k i, lo = some (.int k i) ∧ l = some i) (hh : (hi = none ∧ h = none) ∨ ∃ k i, hi = some (.int k i) ∧ h = some i)
    (hm : (mx = none ∧ m = none) ∨ ∃ k i, mx = some (.int k i) ∧ m = some i) (h0 : 0 ≤ l.getD 0) (h1 : l.getD 0 ≤ h.getD n) (h2 : h.getD n ≤ m.getD c) (h3 : m.getD c ≤ c) (h4 : m.isSome → h.isSome) :
    (Instr.sliceBounds true n c lo hi mx).run P w = .ok ((l.getD 0).toNat, (h.getD n).toNat, (m.getD c).toNat) w := by
  have B : ∀ {k : IntKind} {i : Int} {y : Nat} {code : BoundsCode}, 0 ≤ i → i ≤ y → (Instr.sliceBound (.int k i) y code).run P w = .ok i.toNat w := run_bound
  rcases hl with ⟨rfl, rfl⟩ | ⟨k1, i1, rfl, rfl⟩ <;> rcases hh with ⟨rfl, rfl⟩ | ⟨k2, i2, rfl, rfl⟩ <;> rcases hm with ⟨rfl, rfl⟩ | ⟨k3, i3, rfl, rfl⟩ <;> simp only [Option.getD_some, Option.getD_none] at h0 h1 h2 h3 ⊢
  all_goals
    unfold Instr.sliceBounds
    simp only [if_true, Option.isSome_some, Option.isSome_none, Bool.false_eq_true, if_false]
  · simp
  · simp at h4
  · rw [Sem.run_bind, Sem.run_pure, Result.andThen_ok, Sem.run_bind, B (by omega) (by omega)]; simp
  · rw [Sem.run_bind, B (by omega) (by omega), Result.andThen_ok, Sem.run_bind, B (by omega) (by omega)]; simp
  · rw [Sem.run_bind, Sem.run_pure, Result.andThen_ok, Sem.run_bind, Sem.run_pure, Result.andThen_ok, Sem.run_bind, B (by omega) (by omega)]; simp
  · simp at h4
  · rw [Sem.run_bind, Sem.run_pure, Result.andThen_ok, Sem.run_bind, B (by omega) (by omega), Result.andThen_ok, Sem.run_bind, B (by omega) (by omega)]; simp
  · rw [Sem.run_bind, B (by omega) (by omega), Result.andThen_ok, Sem.run_bind, B (by omega) (by omega), Result.andThen_ok, Sem.run_bind, B (by omega) (by omega)]; simp

theorem s_slice (hs : Sim P φ H w) (hρ : ∀ x, ValR P φ H w (ρ x) (ρ' x)) {t : TypeId} {x : Operand} {lo hi mx : Option Operand} (ho : o.op = .slice t x lo hi mx)
    (h : sliceA P H t (ρ x) (lo.map ρ) (hi.map ρ) (mx.map ρ) = some v) : OpRun P o ρ' φ H w H v := by
  unfold sliceA at h
  split at h
  · rename_i e a n c l hh m he hx hl hhi hm
    have hu := elem_some he
    simp only at h
    split at h
    · rename_i hc
      obtain ⟨c1, c2, c3, c4, c5, c6, c7⟩ := hc
      obtain ⟨ie, hie⟩ := sz_info c7
      have ol := opt_int hρ hl
      have oh := opt_int hρ hhi
      have om := opt_int hρ hm
      have step : ∀ (a' : Option Addr) (c' : Nat), ρ' x = .slice a' n c' → hh.getD n ≤ m.getD c' → m.getD c' ≤ c' →
          (execOp ρ' o).run P w = .ok (.value (.slice (if (m.getD c').toNat = (l.getD 0).toNat then a' else a'.map (·.add ((l.getD 0).toNat * szT P e))) ((hh.getD n).toNat - (l.getD 0).toNat) ((m.getD c').toNat - (l.getD 0).toNat))) w := fun a' c' h1 h2 h3 => by
        simp only [execOp, ho, Instr.sliceAt, Sem.run_bind, run_underlying hu, Result.andThen_ok, Instr.slice, h1, run_bounds ol oh om c1 c2 h2 h3 c5, run_size hie, Sem.run_pure]
      cases a with
      | none =>
        simp only at h
        cases h
        have h1 := val_nilslice (hx ▸ hρ x)
        have hr := step none c h1 c3 c4
        refine OpRun.value hs (v' := .slice none ((hh.getD n).toNat - (l.getD 0).toNat) ((m.getD c).toNat - (l.getD 0).toNat)) (by simpa using hr) ?_
        rw [show (hh.getD n - l.getD 0).toNat = (hh.getD n).toNat - (l.getD 0).toNat by omega, show (m.getD c - l.getD 0).toNat = (m.getD c).toNat - (l.getD 0).toNat by omega]
        exact val_refl rfl
      | some p =>
        simp only at h
        split at h
        · rename_i C e' fr hcs
          cases hee : Nat.beq e' e with
          | false => rw [hee] at h; cases h
          | true =>
            rw [hee] at h
            have hee := Nat.eq_of_beq_eq_true hee
            subst hee
            cases h
            obtain ⟨b, hb, hlv, hobj⟩ := cells_some hcs
            obtain ⟨q, c', h1, h2⟩ := val_slice (hx ▸ hρ x)
            have hcc : c ≤ c' := by
              rcases h2 with h2 | ⟨_, rfl, rfl, _⟩ | ⟨_, _, _, _, _, _, _, _, _, _, _, _, _, h2⟩ | ⟨_, _, rfl, _⟩
              · exact absurd h2 (not_dead hb hlv)
              · exact Nat.le_refl _
              · rcases h2 with rfl | ⟨_, _, h2, _⟩
                · exact Nat.le_refl _
                · exact h2
              · exact Nat.zero_le _
            have hm2 : m.getD c ≤ m.getD c' := by cases m <;> simp <;> omega
            have hm3 : m.getD c' ≤ c' := by cases m <;> simp at * <;> omega
            have hr := step (some q) c' h1 (by omega) hm3
            refine OpRun.value hs hr ?_
            rw [show (hh.getD n - l.getD 0).toNat = (hh.getD n).toNat - (l.getD 0).toNat by omega, show (m.getD c - l.getD 0).toNat = (m.getD c).toNat - (l.getD 0).toNat by omega]
            have hb' : ∀ a : Addr, ∀ k, (a.add k).block = a.block := fun a k => by unfold Addr.add; split <;> rfl
            by_cases hz0 : (m.getD c').toNat = (l.getD 0).toNat
            · -- nothing is left of the room in the world: nor in the evaluator
              have hz1 : (m.getD c).toNat = (l.getD 0).toNat := by omega
              rw [if_pos hz0, hz0, hz1]
              refine .part (.cell (.atom ?_))
              rw [show (hh.getD ↑n).toNat - (l.getD 0).toNat = 0 by omega, Nat.sub_self]
              refine .slice ?_
              rcases h2 with h2 | ⟨_, _, _, k⟩ | ⟨_, _, _, _, _, _, _, g3, _⟩ | ⟨_, _, k3, k4, _⟩
              · exact absurd h2 (not_dead hb hlv)
              · exact .inr (.inl ⟨rfl, rfl, rfl, by rw [hb']; exact k⟩)
              · exact .inr (.inl ⟨rfl, rfl, rfl, by rw [hb']; exact ⟨_, g3⟩⟩)
              · omega
            · rw [if_neg hz0]
              refine .part (.cell (.atom (.slice ?_)))
              rcases h2 with h2 | ⟨e1, e2, e3, _⟩ | ⟨g1, g2, δ, C2, e2, fr2, b2, g3, g4, g5, g6, g7, g8, g9⟩ | ⟨_, _, k3, k4, _⟩
              · exact absurd h2 (not_dead hb hlv)
              · exfalso
                subst e1 e2 e3
                omega
              · rw [hb] at g5; obtain rfl := Option.some.inj g5
                rw [hobj] at g6; cases g6
                show SliceR P φ H w _ (q.add ((l.getD 0).toNat * szT P e')) _ _ _
                rw [add_none g1, add_none g2]
                have hmul : (l.getD 0).toNat * szT P e' + ((m.getD c).toNat - (l.getD 0).toNat) * szT P e' = (m.getD c).toNat * szT P e' := by
                  rw [← Nat.add_mul]; congr 1; omega
                have hmul' : (l.getD 0).toNat * szT P e' + ((m.getD c').toNat - (l.getD 0).toNat) * szT P e' = (m.getD c').toNat * szT P e' := by
                  rw [← Nat.add_mul]; congr 1; omega
                have hle : (m.getD c).toNat * szT P e' ≤ c * szT P e' := Nat.mul_le_mul_right _ (by omega)
                refine .inr (.inr (.inl ⟨rfl, rfl, δ, C, e', fr, b, g3, by simp only; omega, hb, hobj, by omega, by simp only; omega, ?_⟩))
                cases m with
                | some m => exact .inl rfl
                | none =>
                  simp only [Option.getD_none, Int.toNat_natCast] at *
                  rcases g9 with rfl | ⟨k1, k2, k3, C', fr', k4, k5⟩
                  · exact .inl rfl
                  · exact .inr ⟨k1, by omega, by omega, C', fr', k4, by omega⟩
              · omega
        · cases h
    · cases h
  · cases h

theorem bytes_cons {x : Value} {l : List Value} {bs : List UInt8} (h : bytesOfCells (x :: l) = some bs) : ∃ n bs', x = .int .u8 n ∧ bytesOfCells l = some bs' ∧ bs = UInt8.ofNat n.toNat :: bs' := by
  cases x <;> try (simp [bytesOfCells] at h; done)
  rename_i k n
  cases k <;> try (simp [bytesOfCells] at h; done)
  cases hb : bytesOfCells l with
  | none => simp [bytesOfCells, hb] at h
  | some bs' => simp [bytesOfCells, hb] at h; exact ⟨n, bs', rfl, rfl, h.symm⟩

theorem bytes_cells : ∀ (l l' : List Value) (bs : List UInt8), l.length = l'.length → (∀ (i : Nat) (x y : Value), l[i]? = some x → l'[i]? = some y → CellR P φ H w x y) → bytesOfCells l = some bs → bytesOfCells l' = some bs
  | [], [], _, _, _, h => h
  | x :: l, y :: l', bs, hl, hr, h => by
    obtain ⟨n, bs', rfl, hb, rfl⟩ := bytes_cons h
    have : y = .int .u8 n := (cell_eq rfl (hr 0 _ y rfl rfl)).symm
    subst this
    have ih := bytes_cells l l' bs' (by simpa using hl) (fun i u v hu hv => hr (i + 1) u v (by simpa using hu) (by simpa using hv)) hb
    simp [bytesOfCells, ih]

theorem runes_cons {x : Value} {l : List Value} {acc bs : ByteArray} (h : runesOfCells (x :: l) acc = some bs) : ∃ n, x = .int .i32 n ∧ runesOfCells l (acc ++ Utf8.encode n) = some bs := by
  cases x <;> try (simp [runesOfCells] at h; done)
  rename_i k n
  cases k <;> try (simp [runesOfCells] at h; done)
  exact ⟨n, rfl, h⟩

theorem runes_cells : ∀ (l l' : List Value) (acc bs : ByteArray), l.length = l'.length → (∀ (i : Nat) (x y : Value), l[i]? = some x → l'[i]? = some y → CellR P φ H w x y) → runesOfCells l acc = some bs → runesOfCells l' acc = some bs
  | [], [], _, _, _, _, h => h
  | x :: l, y :: l', acc, bs, hl, hr, h => by
    obtain ⟨n, rfl, hb⟩ := runes_cons h
    have : y = .int .i32 n := (cell_eq rfl (hr 0 _ y rfl rfl)).symm
    subst this
    exact runes_cells l l' _ bs (by simpa using hl) (fun i u v hu hv => hr (i + 1) u v (by simpa using hu) (by simpa using hv)) hb
end
end Go.Proofs.YtenolmhnmcjndaaGreatDoor.Ev
namespace Go.Proofs.YtenolmhnmcjndaaGreatDoor.Ev
set_option linter.unusedVariables false
set_option linter.unusedSimpArgs false
open Go
section
variable {P : Program} {φ : Phi} {H H' : AH} {w w' : World} {o : Oper} {ρ ρ' : Operand → Value} {v : Value}

/-- The cells of a row that the evaluator reads, in the world. -/
theorem row_load (hs : Sim P φ H w) {p : Option Addr} {n c k : Nat} {x : Value} {l : List Value} (hx : ValR P φ H w (.slice p n c) x) (hk : n = 0 → k = 0) (h : rowA H p k = some l) :
    (p = none ∧ x = .slice none n c ∧ l = [] ∧ k = 0) ∨
    ∃ q c' D, p.isSome = true ∧ x = .slice (some q) n c' ∧ (∀ w1 : World, w1.heap = w.heap → (loadCells q k).run P w1 = .ok D w1) ∧ ArrR (CellR P φ H w) l.toArray D ∧ l.length = k := by
  cases p with
  | none =>
    left
    unfold rowA at h
    simp only at h
    split at h
    · rename_i h0; cases h; exact ⟨rfl, val_nilslice hx, rfl, h0⟩
    · cases h
  | some p =>
    right
    obtain ⟨q, c', h1, h2⟩ := val_slice hx
    unfold rowA at h
    simp only at h
    split at h
    · rename_i C e fr hsp hc
      split at h
      · rename_i hle
        cases h
        have hlen : (C.extract p.off (p.off + k)).toList.length = k := by simp; omega
        by_cases h0 : k = 0
        · subst h0
          refine ⟨q, c', #[], rfl, h1, fun w1 _ => by simpa using run_loadCells_list (P := P) w1 q [] (by simp), ?_, hlen⟩
          rw [List.eq_nil_of_length_eq_zero hlen]; exact ⟨rfl, fun i x y hx _ => by simp at hx⟩
        · have hp : AddrR φ H p q := by
            rcases h2 with h2 | ⟨g1, _⟩ | ⟨g1, g2, δ, _, _, _, _, g3, g4, _⟩ | ⟨g1, g2, _, _, δ, g3, g4⟩
            · exact .inl h2
            · exact absurd (hk g1) h0
            · exact .inr ⟨g1, g2, δ, g3, g4⟩
            · exact .inr ⟨g1, g2, δ, g3, g4⟩
          obtain ⟨b, δ, C', fr', lz⟩ := lies hs hp hc
          obtain ⟨D, hD, hr⟩ := lz.load k hle
          refine ⟨q, c', D, rfl, h1, fun w1 hw1 => ?_, by rw [Array.toArray_toList]; exact hr, hlen⟩
          -- the same in a world with the same heap
          have hl : (loadCells q k).run P w = .ok D w := hD
          have hcells : ∀ j v, D.toList[j]? = some v → w.cell? (q.add j) = some v := fun j v hj => by
            rw [add_none lz.qspot, lz.cell? j]
            have hj' : j < D.size := by have := (List.getElem?_eq_some_iff.1 hj).1; simpa using this
            have hjk : j < k := by have := hr.1; simp at this; omega
            have hsz := lz.size
            have e := run_loadCells_list (P := P) w q (C'.extract (δ + p.off) (δ + p.off + k)).toList (fun j v hj => by
              rw [add_none lz.qspot, lz.cell? j]
              simp only [Array.getElem?_toList, Array.getElem?_extract] at hj
              split at hj
              · rw [← hj]; congr 1; omega
              · cases hj)
            rw [show (C'.extract (δ + p.off) (δ + p.off + k)).toList.length = k by simp; omega, hl] at e
            obtain ⟨e, _⟩ := Result.ok.inj e
            rw [e] at hj
            simp only [Array.toArray_toList, Array.getElem?_toList, Array.getElem?_extract] at hj
            split at hj
            · rw [← hj]; congr 1; omega
            · cases hj
          have := run_loadCells_list (P := P) w1 q D.toList (fun j v hj => by
            have := hcells j v hj
            simpa [World.cell?, hw1] using this)
          rw [show D.toList.length = k by have := hr.1; simp at this; simp; omega] at this
          simpa using this
      · cases h
    · cases h

theorem bytes_ints : ∀ (l : List Value) (bs : List UInt8), bytesOfCells l = some bs → ∃ ns : List Int, l = ns.map (Value.int .u8) ∧ bs = ns.map fun n => UInt8.ofNat n.toNat
  | [], bs, h => by simp [bytesOfCells] at h; exact ⟨[], rfl, by simp [h]⟩
  | x :: l, bs, h => by
    obtain ⟨n, bs', rfl, hb, rfl⟩ := bytes_cons h
    obtain ⟨ns, rfl, rfl⟩ := bytes_ints l bs' hb
    exact ⟨n :: ns, rfl, rfl⟩

theorem push_fold : ∀ (ns : List Int) (s : ByteArray), ns.foldl (fun r n => r.push (UInt8.ofNat n.toNat)) s = ⟨s.data ++ (ns.map fun n => UInt8.ofNat n.toNat).toArray⟩
  | [], s => by simp
  | n :: ns, s => by
    rw [List.foldl_cons, push_fold ns]
    simp [ByteArray.push]

theorem runes_ints : ∀ (l : List Value) (acc bs : ByteArray), runesOfCells l acc = some bs → ∃ ns : List Int, l = ns.map (Value.int .i32) ∧ bs = ns.foldl (fun r n => r ++ Utf8.encode n) acc
  | [], acc, bs, h => by simp [runesOfCells] at h; exact ⟨[], rfl, by simp [h]⟩
  | x :: l, acc, bs, h => by
    obtain ⟨n, rfl, hb⟩ := runes_cons h
    obtain ⟨ns, rfl, rfl⟩ := runes_ints l _ bs hb
    exact ⟨n :: ns, rfl, rfl⟩

theorem freeze_heap {w : World} {r : Nat} {C : Array Value} {e : TypeId} {n : Nat} (h : w.heap[r]? = some (.cells C e (0, 0))) :
    (w.freeze ⟨r, n, none⟩ 1).heap.size = w.heap.size ∧ (∀ k, (w.freeze ⟨r, n, none⟩ 1).heap[k]? = if k = r then some (.cells C e (n, n + 1)) else w.heap[k]?) ∧ SameOut w (w.freeze ⟨r, n, none⟩ 1) := by
  unfold World.freeze
  rw [if_neg (by decide)]
  refine ⟨by simp, fun k => ?_, rfl, rfl, rfl⟩
  simp only [Array.getElem?_modify]
  by_cases hk : k = r
  · subst hk
    rw [if_pos rfl, if_pos rfl, h]
    rfl
  · rw [if_neg (fun e => hk e.symm), if_neg hk]

theorem s_marked (hs : Sim P φ H w) (hρ : ∀ x, ValR P φ H w (ρ x) (ρ' x)) {t e0 : TypeId} {x : Operand} (ho : o.op = .convert t t x) (ht : P.underlying t = some (.slice e0)) (he : P.underlying e0 = some (.int .u8))
    {p : Addr} {n c : Nat} (hx : ρ x = .slice (some p) n c) (h : markedA H p n c = some (v, H')) : OpRun P o ρ' φ H w H' v := by
  have hr := hρ x
  rw [hx] at hr
  obtain ⟨q, c', hq, hsl⟩ := val_slice hr
  unfold markedA at h
  split at h
  case h_2 => cases h
  rename_i b hb
  split at h
  case h_2 => cases h
  rename_i C e fr hobj
  split at h
  case isFalse => cases h
  rename_i hc
  obtain ⟨h1, h2, h3, h4, h5, h6, h7⟩ := hc
  cases h
  have hcs : H.cells p.block = some (C, e, fr) := by simp [AH.cells, hb, h1, hobj]
  have hp : AddrR φ H p q := by
    rcases hsl with h2 | ⟨g1, _⟩ | ⟨g1, g2, δ, _, _, _, _, g3, g4, _⟩ | ⟨g1, g2, _, _, δ, g3, g4⟩
    · exact .inl h2
    · omega
    · exact .inr ⟨g1, g2, δ, g3, g4⟩
    · exact .inr ⟨g1, g2, δ, g3, g4⟩
  obtain ⟨b2, δ, C', fr', l⟩ := lies hs hp hcs
  have hb2 := l.blk
  rw [hb] at hb2; obtain rfl := Option.some.inj hb2
  obtain ⟨hδ, hsz, hfr⟩ := l.exact h3
  have hfr0 : fr = (0, 0) := Prod.ext h5 h6
  subst hfr0
  subst hfr
  have hre := l.real
  obtain ⟨f1, f2, f3⟩ := freeze_heap (n := C'.size) hre
  have hshp : shapeSame b.obj (.cells C e (C.size, C.size + 1)) := by rw [l.obj]; exact ⟨rfl, rfl⟩
  have hreal : ∀ C1 e1 f1, w.heap[q.block]? = some (.cells C1 e1 f1) → ∃ C2 f2, Obj.cells C' e (C'.size, C'.size + 1) = .cells C2 e1 f2 ∧ C2.size = C1.size := fun C1 e1 f1 h => by
    rw [l.real] at h; cases h; exact ⟨_, _, rfl, rfl⟩
  have hst := step_put (o := .cells C e (C.size, C.size + 1)) hs l.phi l.blk l.live h2 hshp f1 f2 f3 hreal
  have hsim := sim_put (o := .cells C e (C.size, C.size + 1)) hs l.phi l.blk l.live h2 hshp ⟨rfl, rfl⟩ f1 f2 f3 hreal (by
    unfold ObjR
    refine ⟨C', (C'.size, C'.size + 1), by rw [f2, if_pos rfl], l.size, fun i x y hx hy => (l.cell i x y hx hy).mono hst, fun i hi hf => ?_, fun _ i hi1 hi2 hf => ?_, fun _ => ⟨hδ, hsz, by rw [hsz]⟩⟩
    · unfold frz at hf; simp only at hf; omega
    · unfold frz at hf; simp only at hf; omega)
  have hshq : w.shape? q.block = some (e, C'.size) := by unfold World.shape?; rw [hre]
  refine ⟨.value (.slice (some q) n c'), w.freeze ⟨q.block, C'.size, none⟩ 1, ?_, .inl ⟨_, rfl, φ, hst, hsim, hr.mono hst |> fun z => by rw [hq] at z; exact z⟩⟩
  simp only [execOp, ho, hq]
  simp [convert, run_underlying ht, run_underlying he, markStringish, hshq]

theorem s_convert (hs : Sim P φ H w) (hρ : ∀ x, ValR P φ H w (ρ x) (ρ' x)) {src dst : TypeId} {x : Operand} (ho : o.op = .convert src dst x) (h : convertA P H src dst (ρ x) = some (v, H')) : OpRun P o ρ' φ H w H' v := by
  have hr := hρ x
  unfold convertA at h
  split at h
  · rename_i e s hsrc hdst hx
    have h1 := val_string (hx ▸ hr)
    split at h
    · rename_i he hsz
      cases h
      have hrun := Lib.run_convert_string_bytes (P := P) w src dst e s hsrc hdst he
      have hcap : s.size ≤ grownCap w s.size 0 e := by simp [grownCap, Question.cut]
      have hcs : (Lib.bytesCells w e s).size = grownCap w s.size 0 e := by
        have : s.data.size = s.size := rfl
        simp [Lib.bytesCells, this]; omega
      have hheap : (Lib.bytesWorld w e s).heap = w.heap.push (.cells (Lib.bytesCells w e s) e ((Lib.bytesCells w e s).size, (Lib.bytesCells w e s).size + 1)) := by
        apply Array.ext
        · rw [Lib.bytesWorld_size]; simp
        · intro i h1 h2
          have hh : (Lib.bytesWorld w e s).heap[i]? = (w.heap.push (.cells (Lib.bytesCells w e s) e ((Lib.bytesCells w e s).size, (Lib.bytesCells w e s).size + 1)))[i]? := by
            rw [Lib.bytesWorld_size] at h1
            by_cases hi : i < w.heap.size
            · rw [Lib.bytesWorld_at_old w e s i hi, Array.getElem?_push, if_neg (by omega)]
            · have : i = w.heap.size := by omega
              subst this
              rw [Lib.bytesWorld_at_new]; simp
          rw [Array.getElem?_eq_getElem h1, Array.getElem?_eq_getElem h2] at hh
          exact Option.some.inj hh
      have hout : SameOut w (Lib.bytesWorld w e s) := by
        unfold Lib.bytesWorld World.freeze; split <;> exact ⟨rfl, rfl, rfl⟩
      obtain ⟨g1, g2⟩ := new_row (w' := Lib.bytesWorld w e s) (C := s.data.map fun b => Value.int .u8 b.toNat) (C' := Lib.bytesCells w e s) (e := e) (fr := (s.size, s.size + 1)) (fr' := ((Lib.bytesCells w e s).size, (Lib.bytesCells w e s).size + 1)) (ex := false) hs hheap hout
        (by simp [Lib.bytesCells]) (fun i a b ha hb => by
          have hi : i < s.data.size := by have := (Array.getElem?_eq_some_iff.1 ha).1; simpa using this
          simp only [Lib.bytesCells, Array.getElem?_append, Array.size_map, if_pos hi] at hb
          rw [ha] at hb; cases hb
          rw [Array.getElem?_map, Array.getElem?_eq_getElem hi] at ha
          cases ha
          exact cell_refl rfl)
        (fun i hi => by unfold frz; simp only; omega) (fun h => by cases h)
      refine ⟨.value (.slice (some ⟨w.heap.size, 0, none⟩) s.size (grownCap w s.size 0 e)), Lib.bytesWorld w e s, ?_, .inl ⟨_, rfl, _, g1, g2, ?_⟩⟩
      · simp only [execOp, ho, h1, Sem.run_bind, hrun, Result.andThen_ok, Sem.run_pure]
      · refine new_slice hheap (Nat.le_refl _) (by rw [hsz]; simp) (.inr ⟨rfl, by rw [hsz]; simp, hcap, by rw [hsz, hcs]; simp⟩)
    · rename_i he hsz
      simp only at h
      cases hall : (Conv.runesFrom s s.size 0 #[]).toList.all flat1 with
      | false => rw [hall] at h; cases h
      | true =>
        rw [hall] at h
        cases h
        generalize hrf : Conv.runesFrom s s.size 0 #[] = l at *
        have hcap : l.size ≤ grownCap w l.size 0 e := by simp [grownCap, Question.cut]
        have hrun : (convert src dst (.string s)).run P w = .ok (.slice (some ⟨w.heap.size, 0, none⟩) l.size (grownCap w l.size 0 e)) (w.drew.alloc (.cells (l ++ Array.replicate (grownCap w l.size 0 e - l.size) (.int .i32 0)) e)) := by
          simp only [convert, Sem.run_bind, run_underlying hsrc, run_underlying hdst, run_underlying he, Result.andThen_ok, Conv.stringToRunes, hrf, run_choose, Question.forced, Bool.false_eq_true, if_false, newRow, run_newObj, Sem.run_pure]
          rfl
        obtain ⟨g1, g2⟩ := new_row (w' := w.drew.alloc (.cells (l ++ Array.replicate (grownCap w l.size 0 e - l.size) (.int .i32 0)) e)) (C := l) (C' := l ++ Array.replicate (grownCap w l.size 0 e - l.size) (.int .i32 0)) (e := e) (fr := (0, 0)) (fr' := (0, 0)) (ex := false) hs rfl ⟨rfl, rfl, rfl⟩
          (by simp) (fun i a b ha hb => by
            have hi : i < l.size := (Array.getElem?_eq_some_iff.1 ha).1
            rw [Array.getElem?_append, if_pos hi, ha] at hb
            cases hb
            exact cell_refl (List.all_eq_true.1 hall a (by simpa using Array.mem_of_getElem? ha)))
          (fun i _ => frz_none i) (fun h => by cases h)
        refine ⟨.value (.slice (some ⟨w.heap.size, 0, none⟩) l.size (grownCap w l.size 0 e)), _, ?_, .inl ⟨_, rfl, _, g1, g2, ?_⟩⟩
        · simp only [execOp, ho, h1, Sem.run_bind, hrun, Result.andThen_ok, Sem.run_pure]
        · exact new_slice (C' := l ++ Array.replicate (grownCap w l.size 0 e - l.size) (.int .i32 0)) (fr' := (0, 0)) rfl (Nat.le_refl _) (by rw [hsz]; simp) (.inr ⟨rfl, by rw [hsz]; simp, hcap, by rw [hsz]; simp; omega⟩)
    · cases h
  · rename_i e p n c hsrc hdst hx
    have hv := hx ▸ hr
    split at h
    · rename_i l he hrow
      split at h
      · rename_i bs hbs
        cases h
        refine OpRun.value hs (v' := .string ⟨bs.toArray⟩) ?_ (val_refl rfl)
        rcases row_load hs hv id hrow with ⟨rfl, hx', rfl, _⟩ | ⟨q, c', D, _, hx', hD, hrel, hlen⟩
        · simp only [bytesOfCells] at hbs; cases hbs
          simp only [execOp, ho, hx', Sem.run_bind, run_convert_bytes_string w src dst e _ _ _ hsrc he hdst, Conv.bytesToString, Sem.run_pure, Result.andThen_ok]
          rfl
        · have hb2 := bytes_cells l D.toList bs (by have := hrel.1; simpa using this) (fun i x y hx hy => hrel.2 i x y (by simpa using hx) (by simpa using hy)) hbs
          obtain ⟨ns, h3, h4⟩ := bytes_ints _ _ hb2
          have hl := hD w rfl
          rw [show D = (ns.map (Value.int .u8)).toArray by rw [← h3]] at hl
          simp only [execOp, ho, hx', Sem.run_bind, run_convert_bytes_string w src dst e _ _ _ hsrc he hdst, run_bytesToString w q n c' ns hl, Result.andThen_ok, Sem.run_pure, push_fold, h4]
          simp
      · cases h
    · rename_i l he hrow
      split at h
      · rename_i bs hbs
        cases h
        refine OpRun.value hs (v' := .string bs) ?_ (val_refl rfl)
        rcases row_load hs hv id hrow with ⟨rfl, hx', rfl, _⟩ | ⟨q, c', D, _, hx', hD, hrel, hlen⟩
        · simp only [runesOfCells] at hbs; cases hbs
          simp only [execOp, ho, hx', Sem.run_bind, run_convert_runes_string w src dst e _ _ _ hsrc he hdst, Conv.runesToString, Sem.run_pure, Result.andThen_ok]
        · have hb2 := runes_cells l D.toList _ bs (by have := hrel.1; simpa using this) (fun i x y hx hy => hrel.2 i x y (by simpa using hx) (by simpa using hy)) hbs
          obtain ⟨ns, h3, h4⟩ := runes_ints _ _ _ hb2
          have hl := hD w rfl
          rw [show D = (ns.map (Value.int .i32)).toArray by rw [← h3]] at hl
          simp only [execOp, ho, hx', Sem.run_bind, run_convert_runes_string w src dst e _ _ _ hsrc he hdst, run_runesToString w q n c' ns hl, Result.andThen_ok, Sem.run_pure, h4, runesBytes]
      · cases h
    · cases h
  · rename_i e0 e p n c hsrc hdst hx
    split at h
    · rename_i hbeq he
      have hsd := Nat.eq_of_beq_eq_true hbeq
      subst hsd
      exact s_marked hs hρ ho hdst he hx h
    · cases h
  · cases h
end
end Go.Proofs.YtenolmhnmcjndaaGreatDoor.Ev
namespace Go.Proofs.YtenolmhnmcjndaaGreatDoor.Ev
set_option linter.unusedVariables false
set_option linter.unusedSimpArgs false
open Go
section
variable {P : Program} {φ : Phi} {H H' : AH} {w w' : World} {o : Oper} {ρ ρ' : Operand → Value} {v : Value}

theorem plain_some {c : Nat} (h : H.plain c = true) : ∃ b C e, H.blk c = some b ∧ H.live c b = true ∧ b.exact = true ∧ b.obj = .cells C e (0, 0) := by
  unfold AH.plain at h
  split at h
  · rename_i b hb
    simp only [Bool.and_eq_true] at h
    obtain ⟨⟨h1, h2⟩, h3⟩ := h
    cases hobj : b.obj with
    | cells C e fr =>
      obtain ⟨lo, hi⟩ := fr
      rw [hobj] at h3
      simp at h3
      obtain ⟨rfl, rfl⟩ := h3
      exact ⟨b, C, e, hb, h1, h2, hobj⟩
    | _ => rw [hobj] at h3; cases h3
  · cases h

theorem plain_real (hs : Sim P φ H w) {p q : Addr} (hp : AddrR φ H p q) (h : H.plain p.block = true) : p.spot = none ∧ q.spot = none ∧ q.off = p.off ∧ φ p.block = some (q.block, 0) ∧ ∃ C' e, w.heap[q.block]? = some (.cells C' e (0, 0)) := by
  obtain ⟨b, C, e, hb, hl, hx, hobj⟩ := plain_some h
  have hc : H.cells p.block = some (C, e, (0, 0)) := by simp [AH.cells, hb, hl, hobj]
  obtain ⟨b2, δ, C', fr', lz⟩ := lies hs hp hc
  have hb2 := lz.blk
  rw [hb] at hb2; obtain rfl := Option.some.inj hb2
  obtain ⟨rfl, _, rfl⟩ := lz.exact hx
  exact ⟨lz.pspot, lz.qspot, by rw [lz.off]; omega, lz.phi, C', e, lz.real⟩

theorem run_sameAddr {a b : Addr} {C D : Array Value} {e f : TypeId} (ha : w.heap[a.block]? = some (.cells C e (0, 0))) (hb : w.heap[b.block]? = some (.cells D f (0, 0))) : (sameAddr a b).run P w = .ok (a == b) w := by
  unfold sameAddr
  by_cases h : a.block = b.block
  · have : (a.block == b.block) = true := by simpa using h
    simp only [this, if_true, Sem.run_pure]
  · have h1 : (a.block == b.block) = false := by simpa using h
    have h2 : (a == b) = false := by rw [beq_eq_false_iff_ne]; exact fun e => h (by rw [e])
    have fa : ∀ n, w.frozen? ⟨a.block, n, none⟩ = false := fun n => by simp [World.frozen?, ha]
    have fb : ∀ n, w.frozen? ⟨b.block, n, none⟩ = false := fun n => by simp [World.frozen?, hb]
    have fa' : w.frozen? a = false := by simp [World.frozen?, ha]
    have fb' : w.frozen? b = false := by simp [World.frozen?, hb]
    have sa : w.shape? a.block = some (e, C.size) := by simp [World.shape?, ha]
    have sb : w.shape? b.block = some (f, D.size) := by simp [World.shape?, hb]
    simp [h1, h2, fa', fb', noView, viewAt, sa, sb, mayBeOne, stringish, fa, fb]

theorem run_eq (op : BinOp) {t : TypeId} {x y : Operand} {yt : TypeId} {a b : Value} {r : Bool} (ho : o.op = .binOp op t x y yt) (ha : ρ' x = a) (hb : ρ' y = b) (hr : (Op.equal t a b).run P w = .ok r w)
    (hc : (∃ p, a = .pointer p) ∨ (∃ p n c, a = .slice p n c) ∨ (∃ m, a = .map m) ∨ (∃ d z, a = .iface d z) ∨ (a = .nilIface ∧ ∃ d z, b = .iface d z)) :
    (op = .eql → (execOp ρ' o).run P w = .ok (.value (.bool r)) w) ∧ (op = .neq → (execOp ρ' o).run P w = .ok (.value (.bool (!r))) w) := by
  have hg : ∀ op, (eqGuard op t x y a b).run P w = .ok () w := fun op => by
    unfold eqGuard
    rcases hc with ⟨p, rfl⟩ | ⟨p, n, c, rfl⟩ | ⟨m, rfl⟩ | ⟨d, z, rfl⟩ | ⟨rfl, d, z, rfl⟩ <;> cases op <;> simp
  have hb1 : (binOp .eql t a b).run P w = .ok (.bool r) w := by
    rcases hc with ⟨p, rfl⟩ | ⟨p, n, c, rfl⟩ | ⟨m, rfl⟩ | ⟨d, z, rfl⟩ | ⟨rfl, d, z, rfl⟩ <;> simp [binOp, hr]
  have hb2 : (binOp .neq t a b).run P w = .ok (.bool (!r)) w := by
    rcases hc with ⟨p, rfl⟩ | ⟨p, n, c, rfl⟩ | ⟨m, rfl⟩ | ⟨d, z, rfl⟩ | ⟨rfl, d, z, rfl⟩ <;> simp [binOp, hr]
  refine ⟨fun h => ?_, fun h => ?_⟩
  · subst h; simp only [execOp, ho, ha, hb, Sem.run_bind, hg, Result.andThen_ok, hb1, Sem.run_pure]
  · subst h; simp only [execOp, ho, ha, hb, Sem.run_bind, hg, Result.andThen_ok, hb2, Sem.run_pure]


theorem eq_sound (d : Nat) (hs : Sim P φ H w) {t : TypeId} {x y a b : Value} {r : Bool} (hx : ValR P φ H w x a) (hy : ValR P φ H w y b) (h : eqA P H t x y = some r) :
    (Op.equalIn (d + 1) t a b).run P w = .ok r w ∧ ((∃ p, a = .pointer p) ∨ (∃ p n c, a = .slice p n c) ∨ (∃ m, a = .map m) ∨ (∃ d z, a = .iface d z) ∨ (a = .nilIface ∧ ∃ d z, b = .iface d z)) := by
  unfold eqA at h
  split at h
  · rename_i e p hu
    cases h
    obtain ⟨q, rfl, _⟩ := val_ptr hx
    obtain rfl := val_nilptr hy
    exact ⟨by simp [Op.equalIn, run_underlying hu], .inl ⟨_, rfl⟩⟩
  · rename_i e p hu
    cases h
    obtain rfl := val_nilptr hx
    obtain ⟨q, rfl, _⟩ := val_ptr hy
    exact ⟨by simp [Op.equalIn, run_underlying hu], .inl ⟨_, rfl⟩⟩
  · rename_i e p1 p2 hu
    split at h
    · rename_i hc
      obtain ⟨h0, s1, s2, pl1, pl2⟩ := hc
      cases h
      obtain ⟨q1, rfl, r1⟩ := val_ptr hx
      obtain ⟨q2, rfl, r2⟩ := val_ptr hy
      obtain ⟨_, t1, o1, f1, C1, e1, w1⟩ := plain_real hs r1 pl1
      obtain ⟨_, t2, o2, f2, C2, e2, w2⟩ := plain_real hs r2 pl2
      obtain ⟨i, hi⟩ : ∃ i, P.info? e = some i := by
        cases hi : P.info? e with
        | none => exact absurd (by simp [szT, hi]) h0
        | some i => exact ⟨i, rfl⟩
      refine ⟨?_, .inl ⟨_, rfl⟩⟩
      have hsame := run_sameAddr (P := P) w1 w2
      have heq : (q1 == q2) = (Nat.beq p1.block p2.block && Nat.beq p1.off p2.off) := by
        rw [Bool.eq_iff_iff, beq_iff_eq, Bool.and_eq_true, Nat.beq_eq, Nat.beq_eq]
        constructor
        · intro e; subst e
          refine ⟨?_, by omega⟩
          obtain ⟨b1, _, _, hb1, _, hx1, _⟩ := plain_some pl1
          obtain ⟨b2, _, _, hb2, _, hx2, _⟩ := plain_some pl2
          have := hs.sep _ _ _ _ _ _ _ f1 f2 hb1 hb2
          rw [(hs.wf.exact _ _ hb1 hx1).1, (hs.wf.exact _ _ hb2 hx2).1] at this
          exact this
        · rintro ⟨e1, e2⟩
          rw [addr_eta t1, addr_eta t2]
          rw [e1, f2] at f1
          have : q2.block = q1.block := by simpa using f1
          rw [this, o1, o2, e2]
      rw [← heq]
      simp [Op.equalIn, run_underlying hu, run_size hi, h0, hsame]
    · cases h
  · rename_i e p n c n' c' hu
    cases h
    obtain ⟨q, c2, rfl, _⟩ := val_slice hx
    obtain rfl := val_nilslice hy
    exact ⟨by simp [Op.equalIn, run_underlying hu], .inr (.inl ⟨_, _, _, rfl⟩)⟩
  · rename_i e n c p n' c' hu
    cases h
    obtain rfl := val_nilslice hx
    obtain ⟨q, c2, rfl, _⟩ := val_slice hy
    exact ⟨by simp [Op.equalIn, run_underlying hu], .inr (.inl ⟨_, _, _, rfl⟩)⟩
  · rename_i k e m hu
    cases h
    obtain ⟨m', rfl, _⟩ := val_map hx
    obtain rfl := val_nilmap hy
    exact ⟨by simp [Op.equalIn, run_underlying hu], .inr (.inr (.inl ⟨_, rfl⟩))⟩
  · rename_i k e m hu
    cases h
    obtain rfl := val_nilmap hx
    obtain ⟨m', rfl, _⟩ := val_map hy
    exact ⟨by simp [Op.equalIn, run_underlying hu], .inr (.inr (.inl ⟨_, rfl⟩))⟩
  · rename_i m dd z hu
    cases h
    obtain ⟨z', rfl⟩ := val_iface hx
    obtain rfl := val_niliface hy
    exact ⟨by simp [Op.equalIn, run_underlying hu], .inr (.inr (.inr (.inl ⟨_, _, rfl⟩)))⟩
  · rename_i m dd z hu
    cases h
    obtain rfl := val_niliface hx
    obtain ⟨z', rfl⟩ := val_iface hy
    exact ⟨by simp [Op.equalIn, run_underlying hu], .inr (.inr (.inr (.inr ⟨rfl, _, _, rfl⟩)))⟩
  · cases h

theorem s_eql (hs : Sim P φ H w) (hρ : ∀ x, ValR P φ H w (ρ x) (ρ' x)) {t yt : TypeId} {x y : Operand} (ho : o.op = .binOp .eql t x y yt) {r : Bool} (h : eqA P H t (ρ x) (ρ y) = some r) : OpRun P o ρ' φ H w H (.bool r) := by
  obtain ⟨h1, h2⟩ := eq_sound 9999 hs (hρ x) (hρ y) h
  exact OpRun.value hs ((run_eq .eql ho rfl rfl h1 h2).1 rfl) (val_refl rfl)

theorem s_neq (hs : Sim P φ H w) (hρ : ∀ x, ValR P φ H w (ρ x) (ρ' x)) {t yt : TypeId} {x y : Operand} (ho : o.op = .binOp .neq t x y yt) {r : Bool} (h : eqA P H t (ρ x) (ρ y) = some r) : OpRun P o ρ' φ H w H (.bool (!r)) := by
  obtain ⟨h1, h2⟩ := eq_sound 9999 hs (hρ x) (hρ y) h
  exact OpRun.value hs ((run_eq .neq ho rfl rfl h1 h2).2 rfl) (val_refl rfl)
end
end Go.Proofs.YtenolmhnmcjndaaGreatDoor.Ev
namespace Go.Proofs.YtenolmhnmcjndaaGreatDoor.Ev
set_option linter.unusedVariables false
set_option linter.unusedSimpArgs false
open Go
section
variable {P : Program} {φ : Phi} {H H' : AH} {w w' : World} {o : Oper} {ρ ρ' : Operand → Value} {v : Value}

/-- What append lays behind, in the world: its cells, whatever the count of draws. -/
theorem tail_rel (hs : Sim P φ H w) {e : TypeId} {i : TypeInfo} (hi : P.info? e = some i) {x y : Value} (hx : ValR P φ H w x y) {m : Nat} {l : List Value} (h : tailA P H e x = some (m, l)) :
    ∃ D, (∀ w1 : World, (Builtin.lenOf y).run P w1 = .ok m w1) ∧ (∀ w1 : World, w1.heap = w.heap → (Builtin.firstCells (szT P e) m y).run P w1 = .ok D w1) ∧ ArrR (CellR P φ H w) l.toArray D ∧ l.length = m * szT P e := by
  unfold tailA at h
  split at h
  · rename_i p m' c
    split at h
    · rename_i l' hrow
      cases h
      rcases row_load hs hx (fun h0 => by rw [h0]; simp) hrow with ⟨rfl, rfl, rfl, h0⟩ | ⟨q, c', D, _, rfl, hD, hrel, hlen⟩
      · exact ⟨#[], fun w1 => by simp [Builtin.lenOf], fun w1 _ => by simp [Builtin.firstCells], ⟨rfl, fun i a b ha _ => by simp at ha⟩, by simp [h0]⟩
      · exact ⟨D, fun w1 => by simp [Builtin.lenOf], fun w1 hw1 => by simpa [Builtin.firstCells] using hD w1 hw1, hrel, hlen⟩
    · cases h
  · rename_i s
    split at h
    case isFalse => cases h
    rename_i hone
    cases h
    obtain rfl := val_string hx
    refine ⟨s.data.map fun b => Value.int .u8 b.toNat, fun w1 => by simp [Builtin.lenOf], fun w1 _ => ?_, ?_, ?_⟩
    · have : s.extract 0 s.size = s := by simp
      simp [Builtin.firstCells, this]
    · refine ⟨by simp, fun i a b ha hb => ?_⟩
      simp only [List.getElem?_toArray, List.getElem?_map, Array.getElem?_toList] at ha
      rw [Array.getElem?_map, ] at hb
      rw [ha] at hb; cases hb
      obtain ⟨k, _, rfl⟩ := Option.map_eq_some_iff.1 ha
      exact cell_refl rfl
    · rw [hone]; simp
  · cases h

/-- The whole of append, run: in place. -/
theorem run_append_in {ats : Array TypeId} {ty sT xT e : TypeId} {xd : TypeDesc} {i : TypeInfo} (h0 : ats[0]? = some sT) (h1 : ats[1]? = some xT) (hu : P.underlying sT = some (.slice e)) (hx : P.underlying xT = some xd) (hxd : ∀ k, xd ≠ .int k) (hi : P.info? e = some i)
    {base : Option Addr} {n c m : Nat} {y : Value} {D : Array Value} (hlen : (Builtin.lenOf y).run P w = .ok m w) (hD : (Builtin.firstCells (szT P e) m y).run P w = .ok D w) (hle : n + m ≤ c) :
    (Builtin.append_ ats ty #[.slice base n c, y]).run P w = (match base with
      | some a => ((storeCells (a.add (n * szT P e)) D.toList).run P w).andThen fun _ w' => .ok (.slice base (n + m) c) w'
      | none => .ok (.slice base (n + m) c) w) := by
  have hz : (xd matches .int _) = false := by cases xd <;> first | rfl | (rename_i k; exact absurd rfl (hxd k))
  unfold Builtin.append_
  simp only [h0, h1]
  simp only [List.getElem?_toArray, List.getElem?_cons_zero, List.getElem?_cons_succ, Sem.run_bind, run_underlying hu, Result.andThen_ok, run_size hi, run_underlying hx, Sem.run_pure, hz, Bool.false_eq_true, if_false, hlen, hle, if_true, hD, Bool.not_false]
  cases base <;> simp

/-- The whole of append, run: a new row. -/
theorem run_append_new {ats : Array TypeId} {ty sT xT e : TypeId} {xd : TypeDesc} {i : TypeInfo} {z : Value} (h0 : ats[0]? = some sT) (h1 : ats[1]? = some xT) (hu : P.underlying sT = some (.slice e)) (hx : P.underlying xT = some xd) (hxd : ∀ k, xd ≠ .int k) (hi : P.info? e = some i) (hz : i.zero = some z)
    {base : Option Addr} {n c m : Nat} {y : Value} {D O : Array Value} (hlen : (Builtin.lenOf y).run P w = .ok m w) (hD : (Builtin.firstCells (szT P e) m y).run P w.drew = .ok D w.drew) (hO : (Builtin.firstCells (szT P e) n (.slice base n c)).run P w.drew = .ok O w.drew) (hg : ¬ n + m ≤ c)
    (hb : 0 < bytesT P e) (hfit : (n + m) * bytesT P e ≤ 140737488355328) (hfit2 : n + m ≤ 140737488355328) :
    (Builtin.append_ ats ty #[.slice base n c, y]).run P w =
      .ok (.slice (some ⟨w.heap.size, 0, none⟩) (n + m) (grownCap w (n + m) c e)) (w.drew.alloc (.cells (O ++ D ++ Builtin.zeroCells z.cells (grownCap w (n + m) c e - (n + m))) e)) := by
  have hzx : (xd matches .int _) = false := by cases xd <;> first | rfl | (rename_i k; exact absurd rfl (hxd k))
  have hbi : bytesT P e = i.bytes := by simp [bytesT, hi]
  rw [hbi] at hb hfit
  have h48 : ¬ (Builtin.nextslicecap (n + m) c * i.bytes > 2 ^ 48) := by
    have := growslice_fits (need := n + m) (old := c) (bytes := i.bytes) (by omega) hfit
    omega
  have hmax : IntKind.i64.max = 9223372036854775807 := by decide
  have h63 : ¬ (((n + m : Nat) : Int) > IntKind.i64.max ∧ (False ∨ i.bytes = 0)) := by rw [hmax]; omega
  unfold Builtin.append_
  simp only [h0, h1]
  simp only [List.getElem?_toArray, List.getElem?_cons_zero, List.getElem?_cons_succ, Sem.run_bind, run_underlying hu, Result.andThen_ok, run_size hi, run_underlying hx, Sem.run_pure, hzx, Bool.false_eq_true, if_false, hlen, hg, typeInfo, run_program, hi]
  rw [if_neg (by simpa using h63)]
  simp only [Sem.run_bind, Sem.run_pure, Result.andThen_ok, run_program, hi, h48, if_false, run_choose, Question.forced, Bool.false_eq_true, run_askRoom]
  have hdr : ({ w with drawn := w.drawn + 1 } : World) = w.drew := rfl
  simp only [hdr, hO, Result.andThen_ok, hD, Bool.not_false, if_true, run_zero hi hz, newRow, Sem.run_bind, run_newObj, Sem.run_pure]
  rfl

theorem append_get (A B C : Array Value) (i : Nat) : (A ++ B ++ C)[i]? = if i < A.size then A[i]? else if i - A.size < B.size then B[i - A.size]? else C[i - A.size - B.size]? := by
  rw [Array.getElem?_append, Array.getElem?_append]
  simp only [Array.size_append]
  by_cases h : i < A.size
  · rw [if_pos (by omega), if_pos h, if_pos h]
  · by_cases h2 : i - A.size < B.size
    · rw [if_pos (by omega), if_neg h, if_neg h, if_pos h2]
    · rw [if_neg (by omega), if_neg h, if_neg h2]; congr 1; omega

theorem zeroCells_size (z : Array Value) (n : Nat) : (Builtin.zeroCells z n).size = n * z.size := by simp [Builtin.zeroCells]

/-- A new row, grown, in both: the parts alike, then room. -/
theorem grown_row (hs : Sim P φ H w) {e : TypeId} {old l : List Value} {O D Z : Array Value} {need cap : Nat} (ho : ArrR (CellR P φ H w) old.toArray O) (hl : ArrR (CellR P φ H w) l.toArray D)
    (hn : old.length + l.length = need * szT P e) (hcap : need ≤ cap) (hZ : Z.size = (cap - need) * szT P e) :
    Good P φ H w (H.alloc (.cells (old ++ l).toArray e) false) (.slice (some ⟨H.next, 0, none⟩) need need) (.slice (some ⟨w.heap.size, 0, none⟩) need cap) (w.drew.alloc (.cells (O ++ D ++ Z) e)) := by
  have h1 := ho.1
  have h2 := hl.1
  simp only [List.size_toArray] at h1 h2
  obtain ⟨g1, g2⟩ := new_row (w' := w.drew.alloc (.cells (O ++ D ++ Z) e)) (C := (old ++ l).toArray) (C' := O ++ D ++ Z) (e := e) (fr := (0, 0)) (fr' := (0, 0)) (ex := false) hs rfl ⟨rfl, rfl, rfl⟩
    (by simp; omega) (fun i x y hx hy => by
      simp only [List.getElem?_toArray, List.getElem?_append] at hx
      rw [append_get, ← h1] at hy
      split at hx
      · rename_i hi; rw [if_pos hi] at hy; exact ho.2 i x y (by simpa using hx) hy
      · rename_i hi
        rw [if_neg hi] at hy
        have hlt : i - old.length < l.length := (List.getElem?_eq_some_iff.1 hx).1
        rw [if_pos (by omega)] at hy
        exact hl.2 _ x y (by simpa using hx) hy)
    (fun i _ => frz_none i) (fun h => by cases h)
  refine ⟨_, g1, g2, new_slice (C' := O ++ D ++ Z) (fr' := (0, 0)) rfl (Nat.le_refl _) (by simp; omega) (.inr ⟨rfl, by simp; omega, hcap, ?_⟩)⟩
  simp only [Array.size_append]
  have : cap * szT P e = need * szT P e + (cap - need) * szT P e := by rw [← Nat.add_mul]; congr 1; omega
  omega

theorem cap_ge (w : World) (need old : Nat) (e : TypeId) : need ≤ grownCap w need old e := by simp [grownCap, Question.cut]

theorem SliceR.longer {p q : Addr} {n n' c c' : Nat} (h : SliceR P φ H w p q n c c') (hnn : n ≤ n') (hn : n' ≤ c) : SliceR P φ H w p q n' c c' := by
  rcases h with h | ⟨h1, h2, h3, h4⟩ | ⟨h1, h2, δ, C, e, fr, b, h3, h4, h5, h6, h7, h8, h9⟩ | ⟨_, _, h3, h4, _⟩
  · exact .inl h
  · exact .inr (.inl ⟨by omega, h2, h3, h4⟩)
  · exact .inr (.inr (.inl ⟨h1, h2, δ, C, e, fr, b, h3, h4, h5, h6, hn, h8, h9⟩))
  · omega

theorem SliceR.cap {p q : Addr} {n c c' : Nat} (h : SliceR P φ H w p q n c c') {b : Blk} (hb : H.blk p.block = some b) (hl : H.live p.block b = true) : c ≤ c' := by
  rcases h with h | ⟨_, rfl, rfl, _⟩ | ⟨_, _, _, _, _, _, _, _, _, _, _, _, _, h⟩ | ⟨_, _, rfl, _⟩
  · exact absurd h (not_dead hb hl)
  · exact Nat.le_refl _
  · rcases h with rfl | ⟨_, _, h, _⟩
    · exact Nat.le_refl _
    · exact h
  · exact Nat.zero_le _

theorem add_block (a : Addr) (n : Nat) : (a.add n).block = a.block := by unfold Addr.add; split <;> rfl

theorem copy_sound (hs : Sim P φ H w) {ats : Array TypeId} {ty dT : TypeId} {d x d' x' : Value} (h0 : ats[0]? = some dT)
    (hd1 : ValR P φ H w d d') (hx1 : ValR P φ H w x x') (h : copyA P H dT d x = some (v, H')) : ∃ v' w', (Builtin.copy_ ats ty #[d', x']).run P w = .ok v' w' ∧ Good P φ H w H' v v' w' := by
  unfold copyA at h
  split at h
  case h_2 => cases h
  rename_i e p n c he
  have hu := elem_some he
  split at h
  case h_2 => cases h
  rename_i m l z htail hz
  obtain ⟨i, hi, hiz, hzf⟩ := zero_info hz
  obtain ⟨D, hlen, hD, hrel, hll⟩ := tail_rel hs hi hx1 htail
  have hDl : D.size = l.length := by have := hrel.1; simpa using this.symm
  have hD' : ∀ (k : Nat) (a b : Value), l[k]? = some a → D.toList[k]? = some b → CellR P φ H w a b := fun k a b ha hb => hrel.2 k a b (by simpa using ha) (by simpa using hb)
  split at h
  case isFalse => cases h
  rename_i hc
  obtain ⟨hmn, hm0, hl0⟩ := hc
  split at h
  case h_2 => cases h
  rename_i H1 hst
  cases h
  obtain ⟨q, c', rfl, hsl⟩ := val_slice hd1
  unfold storeCellsA at hst
  split at hst
  case h_2 => cases hst
  rename_i b hsp hb
  split at hst
  case h_2 => cases hst
  rename_i C e1 lo hi1 hobj
  split at hst
  case isFalse => cases hst
  rename_i hc
  cases hst
  simp only [Bool.and_eq_true, Bool.or_eq_true, decide_eq_true_eq, beq_iff_eq] at hc
  obtain ⟨⟨⟨⟨c1, c2⟩, c3⟩, c4⟩, c5⟩ := hc
  have hp : AddrR φ H p q := by
    rcases hsl with h | ⟨h1, _⟩ | ⟨g1, g2, δ, _, _, _, _, g3, g4, _⟩ | ⟨g1, g2, _, _, δ, g3, g4⟩
    · exact .inl h
    · omega
    · exact .inr ⟨g1, g2, δ, g3, g4⟩
    · exact .inr ⟨g1, g2, δ, g3, g4⟩
  have hcs : H.cells p.block = some (C, e1, (lo, hi1)) := by simp [AH.cells, hb, c1, hobj]
  obtain ⟨b2, δ, C', fr', lz⟩ := lies hs hp hcs
  have hb2 := lz.blk
  rw [hb] at hb2; obtain rfl := Option.some.inj hb2
  obtain ⟨w', g1, g2, g3⟩ := lz.store hs c2 (vs := l) (vs' := D.toList) (by simpa using hDl.symm) hD' c3 (by simpa [or_assoc] using c5)
  have hmin : Nat.min m n = m := Nat.min_eq_left hmn
  refine ⟨.int .i64 m, w', ?_, φ, g2, g3, val_refl rfl⟩
  unfold Builtin.copy_
  simp only [h0, List.getElem?_toArray, List.getElem?_cons_zero, List.getElem?_cons_succ, Sem.run_bind, run_underlying hu, Result.andThen_ok, run_size hi, Sem.run_pure, hlen w, hmin, hD w rfl, g1]
  rfl

theorem append_sound (hs : Sim P φ H w) {ats : Array TypeId} {ty sT : TypeId} {s x s' x' : Value} (h0 : ats[0]? = some sT)
    (hs1 : ValR P φ H w s s') (hx1 : ValR P φ H w x x') (h : appendA P H sT ats[1]? s x = some (v, H')) : ∃ v' w', (Builtin.append_ ats ty #[s', x']).run P w = .ok v' w' ∧ Good P φ H w H' v v' w' := by
  unfold appendA at h
  split at h
  case h_2 => cases h
  rename_i e xd base n c he hxd
  have hu := elem_some he
  obtain ⟨xT, h1, hx⟩ := Option.bind_eq_some_iff.1 hxd
  split at h
  case h_2 => cases h
  rename_i m l z hni htail hz
  have hnint : ∀ k, xd ≠ .int k := fun k e => by subst e; simp [notInt] at hni
  obtain ⟨i, hi, hiz, hzf⟩ := zero_info hz
  obtain ⟨D, hlen, hD, hrel, hll⟩ := tail_rel hs hi hx1 htail
  have hDl : D.size = l.length := by have := hrel.1; simpa using this.symm
  have hD' : ∀ (k : Nat) (a b : Value), l[k]? = some a → D.toList[k]? = some b → CellR P φ H w a b := fun k a b ha hb => hrel.2 k a b (by simpa using ha) (by simpa using hb)
  split at h
  · rename_i hle
    split at h
    · -- nil, nothing behind
      cases h
      obtain rfl := val_nilslice hs1
      have := run_append_in (P := P) (w := w) (ty := ty) (base := none) h0 h1 hu hx hnint hi (hlen w) (hD w rfl) hle
      exact ⟨_, _, this, φ, Step.refl hs, hs, val_refl rfl⟩
    · rename_i p
      split at h
      case h_2 => cases h
      rename_i C0 hc
      cases h
      obtain ⟨q, c', rfl, hsl⟩ := val_slice hs1
      obtain ⟨b, hb, hlv, _⟩ := cells_some (C := C0.1) (e := C0.2.1) (fr := C0.2.2) (by rw [hc])
      have hcc := hsl.cap hb hlv
      have := run_append_in (P := P) (w := w) (ty := ty) (base := some q) h0 h1 hu hx hnint hi (hlen w) (hD w rfl) (Nat.le_trans hle hcc)
      have hD0 : D.toList = [] := by have : D.size = 0 := by rw [hDl]; rfl
                                     simpa using this
      simp only [hD0, storeCells, Sem.run_pure, Result.andThen_ok] at this
      exact ⟨_, _, this, φ, Step.refl hs, hs, .part (.cell (.atom (.slice (hsl.longer (by omega) hle))))⟩
    · rename_i _ _ p hnil
      split at h
      case h_2 => cases h
      rename_i H1 hst
      cases h
      obtain ⟨q, c', rfl, hsl⟩ := val_slice hs1
      unfold storeCellsA at hst
      split at hst
      case h_2 => cases hst
      rename_i b hsp hb
      split at hst
      case h_2 => cases hst
      rename_i C e1 lo hi1 hobj
      split at hst
      case isFalse => cases hst
      rename_i hc
      cases hst
      simp only [Bool.and_eq_true, Bool.or_eq_true, decide_eq_true_eq, beq_iff_eq] at hc
      obtain ⟨⟨⟨⟨c1, c2⟩, c3⟩, c4⟩, c5⟩ := hc
      rw [add_block] at hb c1 c2
      have hcc := hsl.cap hb c1
      have hp : AddrR φ H p q := by
        rcases hsl with h | ⟨_, rfl, _⟩ | ⟨g1, g2, δ, _, _, _, _, g3, g4, _⟩ | ⟨g1, g2, _, _, δ, g3, g4⟩
        · exact .inl h
        · exfalso
          have : l = [] := by
            apply List.eq_nil_of_length_eq_zero
            rw [hll, show m = 0 by omega]; simp
          exact hnil this
        · exact .inr ⟨g1, g2, δ, g3, g4⟩
        · exact .inr ⟨g1, g2, δ, g3, g4⟩
      have hcs : H.cells (p.add (n * szT P e)).block = some (C, e1, (lo, hi1)) := by rw [add_block]; simp [AH.cells, hb, c1, hobj]
      obtain ⟨b2, δ, C', fr', lz⟩ := lies hs (hp.add (n * szT P e)) hcs
      have hb2 := lz.blk
      rw [add_block, hb] at hb2; obtain rfl := Option.some.inj hb2
      obtain ⟨w', g1, g2, g3⟩ := lz.store hs (by rw [add_block]; exact c2) (vs := l) (vs' := D.toList) (by simpa using hDl.symm) hD' c3 (by simpa [or_assoc] using c5)
      have hrun := run_append_in (P := P) (w := w) (ty := ty) (base := some q) h0 h1 hu hx hnint hi (hlen w) (hD w rfl) (Nat.le_trans hle hcc)
      simp only [g1, Result.andThen_ok] at hrun
      exact ⟨_, _, hrun, φ, g2, g3, .part (.cell (.atom (.slice ((hsl.longer (by omega) hle).mono g2))))⟩
    · cases h
  · rename_i hgt
    split at h
    case isFalse => cases h
    rename_i hfit
    obtain ⟨f1, f2, f3, f4, f5⟩ := hfit
    have hZ : ∀ cap need, (Builtin.zeroCells z.cells (cap - need)).size = (cap - need) * szT P e := fun cap need => by rw [zeroCells_size, f5]
    split at h
    · split at h
      case isFalse => cases h
      rename_i hn0
      subst hn0
      cases h
      obtain rfl := val_nilslice hs1
      have hrun := run_append_new (P := P) (w := w) (ty := ty) (base := none) (O := #[]) h0 h1 hu hx hnint hi hiz (hlen w) (hD w.drew rfl) (by simp [Builtin.firstCells]) hgt f3 f1 f2
      have hg := grown_row hs (e := e) (old := []) (l := l) (O := #[]) (D := D) (Z := Builtin.zeroCells z.cells (grownCap w (0 + m) c e - (0 + m))) (need := 0 + m) (cap := grownCap w (0 + m) c e) ⟨rfl, fun i a b ha _ => by simp at ha⟩ hrel (by simp [hll]) (cap_ge _ _ _ _) (hZ _ _)
      exact ⟨_, _, hrun, by simpa using hg⟩
    · rename_i p
      split at h
      case h_2 => cases h
      rename_i b old hsp hb hrow
      split at h
      case h_2 => cases h
      rename_i C e' lo hi1 hobj
      split at h
      case isTrue => cases h
      rename_i hee
      have hnc : n ≤ c := Nat.le_of_not_lt fun h => hee (.inr h)
      have hee : e' = e := Classical.not_not.1 fun h => hee (.inl h)
      subst hee
      obtain ⟨q, c', rfl, hsl⟩ := val_slice hs1
      rcases row_load hs hs1 (fun h0 => by rw [h0]; simp) hrow with ⟨hpn, _⟩ | ⟨q2, c2, O, _, hq2, hO, hOrel, hOlen⟩
      · cases hpn
      cases hq2
      have hlive : H.live p.block b = true := by
        unfold rowA at hrow
        simp only [AH.cells, hb, hobj] at hrow
        cases hl : H.live p.block b with
        | true => rfl
        | false => rw [hl] at hrow; simp at hrow
      have hcc := hsl.cap hb hlive
      -- the world grows too
      have grows : c' < n + m → ∀ (H2 : AH), (∀ g : Good P φ H w (H.alloc (.cells (old ++ l).toArray e') false) (.slice (some ⟨H.next, 0, none⟩) (n + m) (n + m)) (.slice (some ⟨w.heap.size, 0, none⟩) (n + m) (grownCap w (n + m) c' e')) (w.drew.alloc (.cells (O ++ D ++ Builtin.zeroCells z.cells (grownCap w (n + m) c' e' - (n + m))) e')), True) →
          (Builtin.append_ ats ty #[.slice (some q) n c', x']).run P w = .ok (.slice (some ⟨w.heap.size, 0, none⟩) (n + m) (grownCap w (n + m) c' e')) (w.drew.alloc (.cells (O ++ D ++ Builtin.zeroCells z.cells (grownCap w (n + m) c' e' - (n + m))) e')) := fun hlt _ _ =>
        run_append_new (P := P) (w := w) (ty := ty) (base := some q) (O := O) h0 h1 hu hx hnint hi hiz (hlen w) (hD w.drew rfl) (by simpa [Builtin.firstCells] using hO w.drew rfl) (by omega) f3 f1 f2
      split at h
      · rename_i hex
        cases h
        have hc' : c' = c := by
          rcases hsl with h | ⟨_, rfl, rfl, _⟩ | ⟨_, _, δ, C2, e2, fr2, b2, _, _, k1, k2, _, _, k3⟩ | ⟨_, _, k3, k4, _⟩
          · exact absurd h (not_dead hb hlive)
          · rfl
          · rw [hb] at k1; obtain rfl := Option.some.inj k1
            rw [hobj] at k2; cases k2
            rcases k3 with k3 | ⟨k3, k4, _⟩
            · exact k3
            · rcases hex with hex | hex
              · rw [hex] at k3; cases k3
              · omega
          · omega
        subst hc'
        have hrun := grows (by omega) H (fun _ => trivial)
        have hg := grown_row hs (e := e') (old := old) (l := l) (O := O) (D := D) (Z := Builtin.zeroCells z.cells (grownCap w (n + m) c' e' - (n + m))) (need := n + m) (cap := grownCap w (n + m) c' e') hOrel hrel (by rw [hOlen, hll, ← Nat.add_mul]) (cap_ge _ _ _ _) (hZ _ _)
        exact ⟨_, _, hrun, hg⟩
      · rename_i hex
        split at h
        case isFalse => cases h
        rename_i hend
        obtain ⟨d1, d2, d3⟩ := hend
        cases h
        subst d2
        have hexf : b.exact = false := by
          cases hb0 : b.exact with
          | false => rfl
          | true => exact absurd (.inl hb0) hex
        by_cases hroom : n + m ≤ c'
        · -- the world has room
          have hpos : c' ≠ n := by omega
          rcases hsl with hd | ⟨e1, e2, e3, _⟩ | ⟨t1, t2, δ, C2, e2, fr2, b2, t3, t4, t5, t6, t7, t8, t9⟩ | ⟨_, _, k3, k4, _⟩
          rotate_left 3
          · exfalso; omega
          · exact absurd hd (not_dead hb hlive)
          · exfalso; omega
          · rw [hb] at t5; obtain rfl := Option.some.inj t5
            rw [hobj] at t6; cases t6
            rcases t9 with t9 | ⟨_, _, _, C', fr', u1, u2⟩
            · exact absurd t9 hpos
            obtain ⟨b3, δ2, C3, fr3, lz⟩ := lies hs (p := p) (q := q) (.inr ⟨t1, t2, δ, t3, t4⟩) (C := C) (e := e') (fr := (lo, hi1)) (by simp [AH.cells, hb, hlive, hobj])
            have hb3 := lz.blk
            rw [hb] at hb3; obtain rfl := Option.some.inj hb3
            have := lz.phi
            rw [t3] at this
            obtain rfl : δ = δ2 := by simpa using this
            have := lz.real
            rw [u1] at this
            obtain ⟨rfl, rfl⟩ : C' = C3 ∧ fr' = fr3 := by simpa using this
            have hsz := lz.size
            have hmul : (n + m) * szT P e' ≤ c' * szT P e' := Nat.mul_le_mul_right _ hroom
            rw [Nat.add_mul] at hmul
            have hq0 : q.off + n * szT P e' = δ + C.size := by omega
            have hrun := run_append_in (P := P) (w := w) (ty := ty) (base := some q) h0 h1 hu hx hnint hi (hlen w) (hD w rfl) hroom
            have htl := lz.tip d3
            have hstore := run_storeCells_cells (P := P) q.block (q.off + n * szT P e') D.toList 0 w (fun j hj => by
                have hj : j < l.length := by simpa [hDl] using hj
                simp only [World.cell?, u1]
                simp
                omega)
              (fun j hj => by
                have hj : j < l.length := by simpa [hDl] using hj
                cases hfz : w.frozen? ⟨q.block, q.off + n * szT P e' + 0 + j, none⟩ with
                | false => rfl
                | true =>
                  exfalso
                  obtain ⟨f1, f2⟩ := fr'
                  simp only [World.frozen?, u1, Bool.and_eq_true, decide_eq_true_eq] at hfz
                  exact htl (q.off + n * szT P e' + 0 + j) (by omega) (by omega) (by unfold Ev.frz; exact hfz))
              (fun v hv => by
                obtain ⟨k, hk⟩ := List.getElem?_of_mem hv
                have hlt : k < l.length := by have := (List.getElem?_eq_some_iff.1 hk).1; simpa [hDl] using this
                exact cell_one (hD' k _ v (List.getElem?_eq_getElem hlt) hk))
            rw [Nat.add_zero, ← add_none t2] at hstore
            simp only [hstore, Result.andThen_ok] at hrun
            obtain ⟨g1, g2, g3⟩ := setCells_heap e' fr' q.block D.toList (q.off + n * szT P e') w C' u1
            have hin : q.off + n * szT P e' + D.toList.length ≤ C'.size := by simp [hDl]; omega
            have hkeep : ∀ k, k < δ + C.size → (writeCells C' (q.off + n * szT P e') D.toList)[k]? = C'[k]? := fun k hk => by
              rw [writeCells_get _ _ _ _ hin, if_neg (by omega)]
            have hst := step_copyI (off := p.off) (o := .cells (old ++ l).toArray e' (lo - p.off, hi1 - p.off)) hs t3 hb d3 hexf u1 (writeCells_size _ _ _) g2 g1 g3
            have hsim := sim_copyI (off := p.off) (D := (old ++ l).toArray) (fD := (lo - p.off, hi1 - p.off)) hs t3 hb d3 hexf hobj u1 (writeCells_size _ _ _) g2 g1 g3 hkeep (by simp [hOlen]; omega) ?_
            · refine ⟨_, _, hrun, _, hst, hsim, .part (.cell (.atom (.slice (.inr (.inr (.inl ⟨rfl, t2, δ + p.off, (old ++ l).toArray, e', _, _, upd_same, by rw [t4]; simp, blk_copyOf_new, rfl, Nat.le_refl _, by simp [hOlen, hll, Nat.add_mul], ?_⟩))))))⟩
              refine .inr ⟨rfl, by simp [hOlen, hll, Nat.add_mul], hroom, _, fr', by rw [g1, if_pos rfl], ?_⟩
              rw [writeCells_size]; exact u2
            · have hOsz : O.size = n * szT P e' := by have := hOrel.1; simp only [List.size_toArray] at this; omega
              -- the old cells are those of the row
              have hold : ∀ (k : Nat) (x : Value), old[k]? = some x → C[p.off + k]? = some x := fun k x hk => by
                have hrow2 : (if p.off + n * szT P e' ≤ C.size then some (C.extract p.off (p.off + n * szT P e')).toList else none) = some old := by
                  rw [← hrow]; unfold rowA; simp only [AH.cells, hb, hlive, hobj, t1]
                rw [if_pos (by omega)] at hrow2
                obtain rfl := Option.some.inj hrow2
                rw [Array.getElem?_toList, Array.getElem?_extract] at hk
                split at hk
                · exact hk
                · cases hk
              unfold ObjR
              refine ⟨_, fr', by rw [g1, if_pos rfl], by rw [writeCells_size]; simp [hOlen]; omega, fun k x y hx hy => ?_, fun k hk hfz => ?_, fun _ k hk1 hk2 => ?_, fun hx => by cases hx⟩
              · simp only [List.getElem?_toArray, List.getElem?_append] at hx
                split at hx
                · rename_i hk
                  rw [hkeep _ (by omega)] at hy
                  have h2 := hold k x hx
                  rw [show δ + p.off + k = δ + (p.off + k) by omega] at hy
                  exact (lz.cell _ x y h2 hy).mono hst
                · rename_i hk
                  have hlt : k - old.length < l.length := (List.getElem?_eq_some_iff.1 hx).1
                  rw [writeCells_get _ _ _ _ hin, if_pos (by simp [hDl]; omega), show δ + p.off + k - (q.off + n * szT P e') = k - old.length by omega] at hy
                  exact (hD' _ x y hx hy).mono hst
              · simp only [List.size_toArray, List.length_append] at hk
                by_cases hk2 : k < old.length
                · have := lz.cold (p.off + k) (by omega) (by rw [← Nat.add_assoc]; exact hfz)
                  unfold Ev.frz at this ⊢; simp only at this ⊢; omega
                · exact absurd hfz (htl _ (by omega) (by omega))
              · rw [writeCells_size] at hk2
                simp only [List.size_toArray, List.length_append] at hk1
                exact htl k (by omega) hk2
        · -- the world makes a new row
          have hrun := grows (by omega) H (fun _ => trivial)
          have h1' := hOrel.1
          have h2' := hrel.1
          simp only [List.size_toArray] at h1' h2'
          obtain ⟨x0, t3⟩ : ∃ x, φ p.block = some x := by
            rcases hsl with hd | ⟨_, _, _, k⟩ | ⟨_, _, _, _, _, _, _, k, _⟩ | ⟨_, _, _, _, _, k, _⟩
            · exact absurd hd (not_dead hb hlive)
            · exact k
            · exact ⟨_, k⟩
            · exact ⟨_, k⟩
          have hst := step_copyG (w' := w.drew.alloc (.cells (O ++ D ++ Builtin.zeroCells z.cells (grownCap w (n + m) c' e' - (n + m))) e')) (o := .cells (old ++ l).toArray e' (lo - p.off, hi1 - p.off)) (root := b.root) hs t3 d3 rfl rfl ⟨rfl, rfl, rfl⟩
          have hzs := hZ (grownCap w (n + m) c' e') (n + m)
          have hge := cap_ge w (n + m) c' e'
          have hmul2 : grownCap w (n + m) c' e' * szT P e' = (n + m) * szT P e' + (grownCap w (n + m) c' e' - (n + m)) * szT P e' := by rw [← Nat.add_mul]; congr 1; omega
          have hsim := sim_copyG (w' := w.drew.alloc (.cells (O ++ D ++ Builtin.zeroCells z.cells (grownCap w (n + m) c' e' - (n + m))) e')) (o := .cells (old ++ l).toArray e' (lo - p.off, hi1 - p.off)) hs t3 d3 hb hexf ⟨rfl, rfl⟩ rfl ⟨rfl, rfl, rfl⟩ ?_
          · refine ⟨_, _, hrun, _, hst, hsim, .part (.cell (.atom (.slice (.inr (.inr (.inl ⟨rfl, rfl, 0, (old ++ l).toArray, e', _, _, upd_same, rfl, blk_copyOf_new, rfl, Nat.le_refl _, by simp [hOlen, hll, Nat.add_mul], ?_⟩))))))⟩
            refine .inr ⟨rfl, by simp [hOlen, hll, Nat.add_mul], hge, O ++ D ++ Builtin.zeroCells z.cells (grownCap w (n + m) c' e' - (n + m)), (0, 0), by show (w.heap.push _)[w.heap.size]? = _; simp, ?_⟩
            simp only [Array.size_append, Nat.zero_add]
            rw [Nat.add_mul] at hmul2
            omega
          · unfold ObjR
            refine ⟨O ++ D ++ Builtin.zeroCells z.cells (grownCap w (n + m) c' e' - (n + m)), (0, 0), by show (w.heap.push _)[w.heap.size]? = _; simp, by simp only [List.size_toArray, List.length_append, Array.size_append]; omega, fun k x y hx hy => ?_, fun k hk hfz => absurd hfz (frz_none _), fun _ k _ _ => frz_none k, fun hx => by cases hx⟩
            simp only [List.getElem?_toArray, List.getElem?_append] at hx
            rw [Nat.zero_add, append_get, ← h1'] at hy
            split at hx
            · rename_i hk; rw [if_pos hk] at hy; exact (hOrel.2 k x y (by simpa using hx) hy).mono hst
            · rename_i hk
              rw [if_neg hk] at hy
              have hlt : k - old.length < l.length := (List.getElem?_eq_some_iff.1 hx).1
              rw [if_pos (by omega)] at hy
              exact (hrel.2 _ x y (by simpa using hx) hy).mono hst
end
end Go.Proofs.YtenolmhnmcjndaaGreatDoor.Ev
namespace Go.Proofs.YtenolmhnmcjndaaGreatDoor.Ev
set_option linter.unusedVariables false
set_option linter.unusedSimpArgs false
open Go
section
variable {P : Program} {φ : Phi} {H H' : AH} {w w' : World} {o : Oper} {ρ ρ' : Operand → Value} {v : Value}

/-- slices.Backward's function, over numbers: what a seat shows of its own. -/
def BackOk (P : Program) : Prop := ∀ f, isBack P f = true → (∃ fn, P.funcs[f]? = some fn ∧ fn.body.isSome = true) ∧ ∀ (n l Bs o b off len : Nat) (x0 : Option Addr) (J : Nat → World → Prop) (W : World), 1 ≤ n → len ≤ 140737488355328 →
  (∃ cap, W.cell? ⟨Bs, o, none⟩ = some (.slice x0 len cap)) →
  (∀ k W, J k W → k < len → ∃ (cap : Nat) (x : Int), W.cell? ⟨Bs, o, none⟩ = some (.slice (some ⟨b, off, none⟩) len cap) ∧ W.cell? ⟨b, off + (len - 1 - k), none⟩ = some (.int .i64 x) ∧
    YieldAt Fence.wide (n - 1) P l #[.int .i64 ((len - 1 - k : Nat) : Int), .int .i64 x] W fun e W' => e = .returned (.bool true) ∧ J (k + 1) W') →
  J 0 W → CallsIn Fence.wide n P f #[.func (.yield l) #[] #[], .pointer (some ⟨Bs, o, none⟩)] W fun e W' => (∃ v, e = .returned v) ∧ J len W'

/-- Facts of the program's tables. -/
structure ProgOk (P : Program) : Prop where
  back : BackOk P
  name : ∀ (f : Nat) (fn : Func), P.funcs[f]? = some fn → fn.body.isSome = true → (fn.name == "runtime.NumGoroutine") = false

/-- What a call of the evaluator promises. -/
def CallOk (P : Program) (call : CallA) : Prop :=
  ∀ f args H v H', call f args H = some (v, H') → (∃ fn, P.funcs[f]? = some fn ∧ fn.body.isSome = true) ∧
    ∀ φ w args', Sim P φ H w → args'.size = args.length → (∀ (i : Nat) (x y : Value), args[i]? = some x → args'[i]? = some y → ValR P φ H w x y) →
      Calls P f args' w fun e w' => ∃ v', e = .returned v' ∧ Good P φ H w H' v v' w'

/-- An operation comes to what the evaluator says. -/
def OpWp (P : Program) (o : Oper) (a : Act) (φ : Phi) (H : AH) (w : World) (H' : AH) (v : Value) : Prop :=
  ∀ (next : Act → World → Prop) (Q : Exit → Act → World → Prop), (∀ v' w', Good P φ H w H' v v' w' → next (a.put o.dst v') w') → o.wp P a w next Q

theorem OpRun.wp {a : Act} (h : OpRun P o a.eval φ H w H' v) : OpWp P o a φ H w H' v := fun next Q hn => by
  obtain ⟨n, w', hr, hc⟩ := h
  unfold Oper.wp
  rw [hr]
  rcases hc with ⟨v', rfl, g⟩ | ⟨rfl, g⟩
  · exact hn v' w' g
  · exact hn undef w' g

theorem list_array {a : Array Value} {l : List Value} (h : a.toList = l) : a = l.toArray := by rw [← h]

theorem s_call (hp : ProgOk P) {call : CallA} (hcall : CallOk P call) {a : Act} (hs : Sim P φ H w) (hρ : ∀ x, ValR P φ H w (ρ x) (a.eval x)) {c : Call} (ho : o.op = .call c) (h : callA P call o c ρ H = some (v, H')) : OpWp P o a φ H w H' v := by
  have hsel : ∀ cs b, o.op ≠ .select cs b := fun cs b e => by rw [ho] at e; cases e
  have flat : (flatOp P o ρ).map (·, H) = some (v, H') → OpWp P o a φ H w H' v := fun hf => by
    cases hv : flatOp P o ρ with
    | none => rw [hv] at hf; cases hf
    | some v0 => rw [hv] at hf; cases hf; exact (s_flat hs hρ hsel hv).wp
  unfold callA at h
  split at h
  · rename_i x hcal
    split at h
    · rename_i f first cap hx
      cases hfe : first.isEmpty with
      | false => rw [hfe] at h; cases h
      | true =>
        rw [hfe] at h
        have hf0 : first = #[] := by simpa using hfe
        subst hf0
        simp only [cond_true] at h
        obtain ⟨_, cap', hx', hcap⟩ := val_func (hx ▸ hρ x)
        obtain ⟨⟨fn, hfn, hbody⟩, hc⟩ := hcall _ _ _ _ _ h
        intro next Q hn
        unfold Oper.wp
        have hrun : (execOp a.eval o).run P w = .ok (.enter f (c.args.map a.eval ++ cap')) w := by
          have hnm := hp.name f fn hfn hbody
          have hno : fn.body.isNone = false := by cases hb : fn.body <;> simp_all
          simp only [execOp, ho, resolve, hcal, hx', Deferred.ofValue, Sem.run_bind, Sem.run_pure, Result.andThen_ok, invoke, callFunc, run_program, hfn, hnm, hno, Bool.false_eq_true, if_false]
          simp
        rw [hrun]
        refine (hc φ w _ hs (by simp [hcap.1]) (fun i u y hu hy => ?_)).mono fun e w' ⟨v', he, g⟩ => ?_
        · rw [List.getElem?_append] at hu
          rw [Array.getElem?_append] at hy
          simp only [List.length_map, Array.length_toList, Array.size_map] at hu hy
          split at hu
          · rename_i hi
            rw [if_pos hi] at hy
            rw [List.getElem?_map, Array.getElem?_toList] at hu
            rw [Array.getElem?_map] at hy
            obtain ⟨k, hk, rfl⟩ := Option.map_eq_some_iff.1 hu
            rw [hk] at hy; cases hy
            exact hρ k
          · rename_i hi
            rw [if_neg hi] at hy
            exact .part (.cell (.atom (hcap.2 _ u y (by simpa using hu) hy)))
        · subst he; exact hn v' w' g
    · cases h
  · rename_i hcal
    split at h
    · rename_i p n cc e hargs hty
      cases h
      have hsz : c.args.size = 1 := by have := congrArg List.length hargs; simpa using this
      obtain ⟨x, hcx⟩ : ∃ x, c.args = #[x] := by
        match hcl : c.args, hsz with
        | ⟨[x]⟩, _ => exact ⟨x, rfl⟩
      rw [hcx] at hargs
      have hx : ρ x = .slice p n cc := by simpa using hargs
      obtain ⟨t, ht, hu⟩ := Option.bind_eq_some_iff.1 hty
      have hx' : ∃ p' c', a.eval x = .slice p' n c' := by
        have := hρ x
        rw [hx] at this
        cases p with
        | none => exact ⟨_, _, val_nilslice this⟩
        | some p => obtain ⟨q, c', h1, _⟩ := val_slice this; exact ⟨_, _, h1⟩
      obtain ⟨p', c', hx'⟩ := hx'
      refine OpRun.wp (OpRun.value hs (v' := .int .i64 n) ?_ (val_refl rfl))
      simp only [execOp, ho, resolve, hcal, hcx, Sem.run_bind, Sem.run_pure, Result.andThen_ok, invoke, builtin, Builtin.len_, ht, run_underlying hu, hx', List.map_toArray, List.map_cons, List.map_nil, List.getElem?_toArray, List.getElem?_cons_zero, goInt]
    · rename_i m kt et hargs hty
      cases hm : mapRow H m with
      | none => rw [hm] at h; cases h
      | some es =>
        rw [hm] at h; cases h
        have hsz : c.args.size = 1 := by have := congrArg List.length hargs; simpa using this
        obtain ⟨x, hcx⟩ : ∃ x, c.args = #[x] := by
          match hcl : c.args, hsz with
          | ⟨[x]⟩, _ => exact ⟨x, rfl⟩
        rw [hcx] at hargs
        have hx : ρ x = m := by simpa using hargs
        obtain ⟨t, ht, hu⟩ := Option.bind_eq_some_iff.1 hty
        refine OpRun.wp (OpRun.value hs (v' := .int .i64 es.length) ?_ (val_refl rfl))
        rcases mapRow_rel hs (hx ▸ hρ x) hm with ⟨h1, rfl⟩ | ⟨r, r', b, ck, es', ea, h1, h2, h3, h4, h5, h6, h7, h8, h9, h10⟩
        · simp only [execOp, ho, resolve, hcal, hcx, Sem.run_bind, Sem.run_pure, Result.andThen_ok, invoke, builtin, Builtin.len_, ht, run_underlying hu, h1, List.map_toArray, List.map_cons, List.map_nil, List.getElem?_toArray, List.getElem?_cons_zero, goInt]
          rfl
        · have hget : (getObj r').run P w = .ok (.map es' ck) w := by simp [getObj, Sem.run, h9]
          have hl : es.length = es'.size := by rw [← h6, ← h10.1]; simp
          simp only [execOp, ho, resolve, hcal, hcx, Sem.run_bind, Sem.run_pure, Result.andThen_ok, invoke, builtin, Builtin.len_, ht, run_underlying hu, h2, hget, List.map_toArray, List.map_cons, List.map_nil, List.getElem?_toArray, List.getElem?_cons_zero, goInt, hl]
    · exact flat h
  · rename_i hcal
    split at h
    · rename_i s x sT hargs hty
      have hsz : c.args.size = 2 := by have := congrArg List.length hargs; simpa using this
      obtain ⟨x0, x1, hcx⟩ : ∃ x0 x1, c.args = #[x0, x1] := by
        match hcl : c.args, hsz with
        | ⟨[x0, x1]⟩, _ => exact ⟨x0, x1, rfl⟩
      rw [hcx] at hargs
      have hx : ρ x0 = s ∧ ρ x1 = x := by simpa using hargs
      obtain ⟨hx0, hx1⟩ := hx
      obtain ⟨v', w', hr, g⟩ := append_sound (ty := o.type) hs hty (hx0 ▸ hρ x0) (hx1 ▸ hρ x1) h
      refine OpRun.wp ⟨.value v', w', ?_, .inl ⟨v', rfl, g⟩⟩
      simp only [execOp, ho, resolve, hcal, hcx, Sem.run_bind, Sem.run_pure, Result.andThen_ok, invoke, builtin, List.map_toArray, List.map_cons, List.map_nil, hr]
    · cases h
  · rename_i hcal
    split at h
    · rename_i s x sT hargs hty
      have hsz : c.args.size = 2 := by have := congrArg List.length hargs; simpa using this
      obtain ⟨x0, x1, hcx⟩ : ∃ x0 x1, c.args = #[x0, x1] := by
        match hcl : c.args, hsz with
        | ⟨[x0, x1]⟩, _ => exact ⟨x0, x1, rfl⟩
      rw [hcx] at hargs
      have hx : ρ x0 = s ∧ ρ x1 = x := by simpa using hargs
      obtain ⟨hx0, hx1⟩ := hx
      obtain ⟨v', w', hr, g⟩ := copy_sound (ty := o.type) hs hty (hx0 ▸ hρ x0) (hx1 ▸ hρ x1) h
      refine OpRun.wp ⟨.value v', w', ?_, .inl ⟨v', rfl, g⟩⟩
      simp only [execOp, ho, resolve, hcal, hcx, Sem.run_bind, Sem.run_pure, Result.andThen_ok, invoke, builtin, List.map_toArray, List.map_cons, List.map_nil, hr]
    · cases h
  · exact flat h

theorem evOp_sound (hp : ProgOk P) {call : CallA} (hcall : CallOk P call) {a : Act} (hs : Sim P φ H w) (hρ : ∀ x, ValR P φ H w (ρ x) (a.eval x)) (h : evOp P call o ρ H = some (v, H')) : OpWp P o a φ H w H' v := by
  have flat : (∀ cs b, o.op ≠ .select cs b) → (flatOp P o ρ).map (·, H) = some (v, H') → OpWp P o a φ H w H' v := fun hsel hf => by
    cases hv : flatOp P o ρ with
    | none => rw [hv] at hf; cases hf
    | some v0 => rw [hv] at hf; cases hf; exact (s_flat hs hρ hsel hv).wp
  have omap : ∀ {x : Option Value}, x.map (·, H) = some (v, H') → x = some v ∧ H = H' := fun {x} hx => by
    cases x with
    | none => cases hx
    | some x => cases hx; exact ⟨rfl, rfl⟩
  unfold evOp at h
  split at h
  · rename_i x ho; cases h; exact (OpRun.value hs (v' := a.eval x) (by simp [execOp, ho]) (hρ x)).wp
  · rename_i x ho; cases h; exact (OpRun.value hs (v' := a.eval x) (by simp [execOp, ho]) (hρ x)).wp
  · rename_i c x y ho
    split at h
    · rename_i hc; cases h; exact (s_pick hs hρ ho (t := true) hc).wp
    · rename_i hc; cases h; exact (s_pick hs hρ ho (t := false) hc).wp
    · cases h
  · rename_i t ix ho
    split at h
    · rename_i vs ht
      obtain ⟨h1, rfl⟩ := omap h
      exact (s_extract hs hρ ho ht h1).wp
    · cases h
  · rename_i t parts ho
    obtain ⟨h1, rfl⟩ := omap h
    exact (s_build hs hρ ho h1).wp
  · rename_i x ho
    split at h
    · rename_i p hx; cases h; exact (s_nilCheck_ptr hs hρ ho hx).wp
    · rename_i f x1 x2 hx; cases h; exact (s_nilCheck_func hs hρ ho hx).wp
    · cases h
  · rename_i s x f ho
    obtain ⟨h1, rfl⟩ := omap h
    exact (s_fieldAddr hs hρ ho h1).wp
  · rename_i t x i ho
    obtain ⟨h1, rfl⟩ := omap h
    exact (s_indexAddr hs hρ ho h1).wp
  · rename_i t x ho
    split at h
    · rename_i p hx
      obtain ⟨h1, rfl⟩ := omap h
      exact (s_load hs hρ ho hx h1).wp
    · cases h
  · rename_i t x y ho
    split at h
    · rename_i p hx
      cases hst : storeA P H t p (ρ y) with
      | none => rw [hst] at h; cases h
      | some H1 => rw [hst] at h; cases h; exact (s_store hs hρ ho hx hst).wp
    · cases h
  · rename_i e ho
    split at h
    · rename_i z hz; cases h; exact (s_alloc hs ho hz).wp
    · cases h
  · rename_i e x ho
    cases hc : (ρ x).cells.toList.all isCell with
    | false => rw [hc] at h; cases h
    | true => rw [hc] at h; cases h; exact (s_box hs hρ ho hc).wp
  · rename_i t n parts ho; exact (s_buildSlice hs hρ ho h).wp
  · rename_i t l c ho; exact (s_makeSlice hs hρ ho h).wp
  · rename_i fn first cap ho
    split at h
    · rename_i f
      cases hc : (first.isEmpty && cap.toList.all (fun x => capB (ρ x))) with
      | false => rw [hc] at h; cases h
      | true =>
        rw [hc] at h; cases h
        simp only [Bool.and_eq_true] at hc
        exact (s_makeFunc hs hρ ho hc.1 hc.2).wp
    · cases h
  · rename_i t x ho
    split at h
    · cases h
    · rename_i d hnd hu
      cases hc : heldB (ρ x) with
      | false => rw [hc] at h; cases h
      | true => rw [hc] at h; cases h; exact (s_makeInterface hs hρ ho hu (fun m e => hnd m e) hc).wp
    · cases h
  · rename_i t x lo hi mx ho
    split at h
    · obtain ⟨h1, rfl⟩ := omap h
      exact (s_slice hs hρ ho h1).wp
    · exact flat (fun cs b e => by rw [ho] at e; cases e) h
  · rename_i src dst x ho
    split at h
    · rename_i r hr; cases h; exact (s_convert hs hρ ho hr).wp
    · exact flat (fun cs b e => by rw [ho] at e; cases e) h
  · rename_i op t x y yt ho
    split at h
    · rename_i r hr; cases h; exact (s_eql hs hρ ho hr).wp
    · rename_i r hr; cases h; exact (s_neq hs hρ ho hr).wp
    · exact flat (fun cs b e => by rw [ho] at e; cases e) h
  · rename_i t x ho
    split at h
    · rename_i s hu hx; cases h; exact (s_range hs hρ ho hu hx).wp
    · cases h
  · rename_i it ho; exact (s_next hs hρ ho h).wp
  · rename_i c ho; exact s_call hp hcall hs hρ ho h
  · rename_i ho; exact flat (fun cs b e => by rw [ho] at e; cases e) h
  · rename_i ho; exact flat (fun cs b e => by rw [ho] at e; cases e) h
  · rename_i ho; exact flat (fun cs b e => by rw [ho] at e; cases e) h
  · rename_i ho; exact flat (fun cs b e => by rw [ho] at e; cases e) h
  · rename_i t ho
    split at h
    · rename_i kt et hu; cases h; exact (s_makeMap hs ho hu).wp
    · cases h
  · rename_i t m k ok ho
    obtain ⟨h1, rfl⟩ := omap h
    exact (s_lookup hs hρ ho h1).wp
  · rename_i t m k x ho
    cases hm : mapUpdateA P H t (ρ m) (ρ k) (ρ x) with
    | none => rw [hm] at h; cases h
    | some H2 => rw [hm] at h; cases h; exact (s_mapUpdate hs hρ ho hm).wp
  · cases h
end
end Go.Proofs.YtenolmhnmcjndaaGreatDoor.Ev
namespace Go.Proofs.YtenolmhnmcjndaaGreatDoor.Ev
set_option linter.unusedVariables false
set_option linter.unusedSimpArgs false
open Go
section
variable {P : Program} {φ : Phi} {H H' : AH} {w w' : World} {ops : Array Oper}

theorem guard_wanted {o : Oper} {e : List Value} {t : Array Value} {b : Bool} (he : EnvR P φ H w e t) (h : guardA ops o e = some b) : Region.wanted o (yielded ops t) = b := by
  unfold guardA at h
  unfold Region.wanted
  split at h
  · rename_i hg; cases h; rw [hg]
  · rename_i j want hg
    rw [hg]
    simp only
    unfold yielded
    cases hd : (ops[j]?).bind (·.dst) with
    | none => rw [hd] at h; simp at h
    | some d =>
      rw [hd] at h
      simp only [Option.bind_some] at h ⊢
      cases hed : e[d]? with
      | none => rw [hed] at h; simp at h
      | some x =>
        have hlt : d < t.size := by rw [he.1]; exact (List.getElem?_eq_some_iff.1 hed).1
        have hv := he.2 d x _ hed (Array.getElem?_eq_getElem hlt)
        rw [hed] at h
        rw [Array.getElem?_eq_getElem hlt]
        cases x <;> simp only at h <;> try (cases h; done)
        · rename_i b'
          cases h
          rw [val_bool hv]
          simp
        · rename_i vs
          cases hvs : vs.isEmpty with
          | false => rw [hvs] at h; cases h
          | true =>
            rw [hvs] at h
            cases h
            have : vs = #[] := by simpa using hvs
            subst this
            have : t[d] = .tuple #[] := (val_eq (by simp [flatB]) hv).symm
            rw [this]
            rfl

/-- The end of a piece of code. -/
def EndOk (P : Program) (φ : Phi) (H : AH) (w : World) (e' : List Value) (H' : AH) (df : List Deferred) (K : Act → World → Prop) : Prop :=
  ∀ φ' w' a', Step P φ H w φ' H' w' → Sim P φ' H' w' → EnvR P φ' H' w' e' a'.tmps → a'.defers = df → K a' w'

theorem put_defers' (a : Act) (d : Option Tmp) (v : Value) : (a.put d v).defers = a.defers := by cases d <;> rfl

theorem evOps_sound (hp : ProgOk P) {call : CallA} (hcall : CallOk P call) {Q : Exit → Act → World → Prop} : ∀ (l : List Oper) (e : List Value) (H : AH) (e' : List Value) (H' : AH) (φ : Phi) (w : World) (a : Act),
    evOps P call ops l e H = some (e', H') → Sim P φ H w → EnvR P φ H w e a.tmps → EndOk P φ H w e' H' a.defers (Q .normal) → wpList P ops Q l a w
  | [], e, H, e', H', φ, w, a, h, hs, he, hk => by
    simp only [evOps] at h; cases h
    exact hk φ w a (Step.refl hs) hs he rfl
  | o :: r, e, H, e', H', φ, w, a, h, hs, he, hk => by
    unfold evOps at h
    unfold wpList
    split at h
    · rename_i hg
      rw [guard_wanted he hg, if_pos rfl]
      split at h
      case h_2 => cases h
      rename_i v H1 hop
      refine .inl (evOp_sound hp hcall hs (fun x => he.rho x) hop _ Q fun v' w' ⟨φ', st, hs', hv⟩ => ?_)
      refine evOps_sound hp hcall r _ _ e' H' φ' w' _ h hs' ((he.mono st).put o.dst hv) fun φ2 w2 a2 st2 hs2 he2 hd2 => ?_
      exact hk φ2 w2 a2 (st.trans hs st2) hs2 he2 (by rw [hd2, put_defers'])
    · rename_i hg
      rw [guard_wanted he hg, if_neg (by simp)]
      refine evOps_sound hp hcall r _ _ e' H' φ w _ h hs (he.put o.dst val_undef) fun φ2 w2 a2 st2 hs2 he2 hd2 => ?_
      exact hk φ2 w2 a2 st2 hs2 he2 (by rw [hd2, put_defers'])
    · cases h


end
end Go.Proofs.YtenolmhnmcjndaaGreatDoor.Ev

namespace Go.Proofs.YtenolmhnmcjndaaGreatDoor.Ev
set_option linter.unusedVariables false
set_option linter.unusedSimpArgs false
open Go
section
variable {P : Program} {φ : Phi} {H H' : AH} {w w' : World} {ops : Array Oper}

/-- A region's walk: in the text's order, or in any. -/
def RegWp (P : Program) (ops : Array Oper) (d : Bool) (Q : Exit → Act → World → Prop) (a : Act) (w : World) : Prop :=
  (d = false ∧ wpList P ops Q ops.toList a w) ∨ (d = true ∧ P.follows .mixedOrders = true ∧ wpAny P .any ops Q ops.size (Array.replicate ops.size false) a { w with drawn := w.drawn + 1 })
theorem RegWp.wp {d : Bool} {id : Nat} {Q : Exit → Act → World → Prop} {a : Act} (h : RegWp P ops d Q a w) : (Code.region id ops d).wp P Q a w := by
  rcases h with ⟨rfl, h⟩ | ⟨rfl, hm, h⟩
  · exact wp_region_list h
  · exact wp_region_any hm h
theorem regWp_any {Q : Exit → Act → World → Prop} {a : Act} (hm : P.follows .mixedOrders = true) (h : wpAny P .any ops Q ops.size (Array.replicate ops.size false) a { w with drawn := w.drawn + 1 }) : RegWp P ops true Q a w := .inr ⟨rfl, hm, h⟩
theorem regWp_list {Q : Exit → Act → World → Prop} {a : Act} (h : wpList P ops Q ops.toList a w) : RegWp P ops false Q a w := .inl ⟨rfl, h⟩

/-! ### The same within a round of a range over a function -/
def noDefer (o : Oper) : Prop := ∀ c, o.op ≠ .defer c
theorem lift_op {o : Oper} {a : Act} {K : Act → World → Prop} {Q : Exit → Act → World → Prop} (l m : Nat) (hd : noDefer o) (h : o.wp P a w K Q) : o.wpIn (Fence.wide.inRound l) m P a w K Q := by
  refine ⟨fun _ _ => trivial, ?_⟩
  rw [show (Fence.wide.inRound l).round = some l from rfl, Oper.semAt_some l _ _ hd]
  unfold Oper.wp at h
  generalize (execOp a.eval o).run P w = r at h
  cases r with
  | ok n w1 =>
    cases n with
    | value v => exact h
    | skip => exact h
    | defer d => exact h
    | enter f args => exact ⟨(fun hh => by cases hh), (callsIn_wide (n := m - 1)).2 h⟩
    | row row args =>
      refine ⟨(fun hh => by cases hh), fun c cs _ => ?_⟩
      obtain ⟨v, w', h1, h2⟩ := h c cs
      exact ⟨v, w', h1, stepsIn_wide.2 h2⟩
    | _ => exact h.elim
  | halt hl w1 =>
    cases hl with
    | panic v => exact h
    | _ => exact h.elim
theorem lift_wpOp {Q : Exit → Act → World → Prop} {K K' : Act → World → Prop} {i : Nat} {a : Act} (l m : Nat) (hd : ∀ o, ops[i]? = some o → noDefer o) (hQ : ¬ LetsOut Q) (hK : ∀ a w, K a w → K' a w) (h : wpOp P ops Q i K a w) : wpOpIn (Fence.wide.inRound l) m P ops Q i K' a w := by
  unfold wpOp at h
  unfold wpOpIn
  cases ho : ops[i]? with
  | none => rw [ho] at h; exact hK _ _ h
  | some o =>
    rw [ho] at h
    simp only at h ⊢
    split
    · rename_i hw
      rw [if_pos hw] at h
      rcases h with h | ⟨_, h⟩
      · exact Oper.wpIn_mono hK (lift_op l m (hd o ho) h)
      · exact absurd h hQ
    · rename_i hw
      rw [if_neg hw] at h
      exact ⟨fun _ _ => trivial, hK _ _ h⟩
theorem lift_any {md : Region.Mode} {Q : Exit → Act → World → Prop} (l m : Nat) (hd : ∀ (i : Nat) (o : Oper), ops[i]? = some o → noDefer o) (hQ : ¬ LetsOut Q) : ∀ (fuel : Nat) (listed : Array Bool) (a : Act) (w : World), wpAny P md ops Q fuel listed a w → wpAnyIn (Fence.wide.inRound l) m P md ops Q fuel listed a w
  | 0, _, _, _, h => h
  | fuel + 1, listed, a, w, h => ⟨h.1, fun i hi => lift_wpOp l m (hd i) hQ (lift_any l m hd hQ fuel _) (h.2 i hi)⟩
theorem lift_list {Q : Exit → Act → World → Prop} (l m : Nat) (hQ : ¬ LetsOut Q) : ∀ (r : List Oper) (a : Act) (w : World), (∀ o, o ∈ r → noDefer o) → wpList P ops Q r a w → wpListIn (Fence.wide.inRound l) m P ops Q r a w
  | [], _, _, _, h => h
  | o :: r, a, w, hd, h => by
    unfold wpList at h
    unfold wpListIn
    split
    · rename_i hw
      rw [if_pos hw] at h
      rcases h with h | ⟨_, h⟩
      · exact Oper.wpIn_mono (fun a w hh => lift_list l m hQ r a w (fun o ho => hd o (by simp [ho])) hh) (lift_op l m (hd o (by simp)) h)
      · exact absurd h hQ
    · rename_i hw
      rw [if_neg hw] at h
      exact ⟨fun _ _ => trivial, lift_list l m hQ r _ _ (fun o ho => hd o (by simp [ho])) h⟩
theorem RegWp.wpIn {d : Bool} {id : Nat} {Q : Exit → Act → World → Prop} {a : Act} (l m : Nat) (hd : ∀ o, o ∈ ops.toList → noDefer o) (hQ : ¬ LetsOut Q) (h : RegWp P ops d Q a w) : (Code.region id ops d).wpIn (Fence.wide.inRound l) m P Q a w := by
  rcases h with ⟨rfl, h⟩ | ⟨rfl, hm, h⟩
  · exact wpIn_region_list (lift_list l m hQ _ _ _ hd h)
  · exact wpIn_region_any hm (lift_any l m (fun i o ho => hd o (by rw [Array.mem_toList_iff]; exact Array.mem_of_getElem? ho)) hQ _ _ _ _ h)

/-- What a region of the evaluator promises. -/
def RegOk (P : Program) (reg : Array Oper → Bool → List Value → AH → Option (List Value × AH)) : Prop :=
  ∀ ops d e H e' H', reg ops d e H = some (e', H') → ∀ φ w (a : Act) (Q : Exit → Act → World → Prop), Sim P φ H w → EnvR P φ H w e a.tmps → EndOk P φ H w e' H' a.defers (Q .normal) → RegWp P ops d Q a w

def St.exit : St → Exit
  | .nx => .normal
  | .ex id => .exit id
  | .rt => .ret

theorem plain_defer {ops : Array Oper} {id : Nat} {d : Bool} (h : plainC (.region id ops d) = true) : ∀ o, o ∈ ops.toList → noDefer o := fun o ho c hc => by
  simp only [plainC, List.all_eq_true] at h
  have := h o ho
  rw [hc] at this
  cases this

/-- Code of a round. -/
theorem evCode_round {reg : Array Oper → Bool → List Value → AH → Option (List Value × AH)} (hreg : RegOk P reg) (n l m : Nat) : ∀ (c : Code), plainC c = true → ∀ (e : List Value) (H : AH) (st : St) (e' : List Value) (H' : AH) (φ : Phi) (w : World) (a : Act) (Q : Exit → Act → World → Prop), ¬ LetsOut Q →
    evCode P reg n c e H = some (st, e', H') → Sim P φ H w → EnvR P φ H w e a.tmps → EndOk P φ H w e' H' a.defers (Q st.exit) → c.wpIn (Fence.wide.inRound l) m P Q a w := by
  intro c
  induction c with
  | skip =>
    intro _ e H st e' H' φ w a Q hQ h hs he hk
    simp only [evCode] at h; cases h
    exact wpIn_skip (hk φ w a (Step.refl hs) hs he rfl)
  | region id ops d =>
    intro hp e H st e' H' φ w a Q hQ h hs he hk
    simp only [evCode] at h
    split at h
    · rename_i e1 H1 hr; cases h; exact (hreg ops d e H _ _ hr φ w a Q hs he hk).wpIn l m (plain_defer hp) hQ
    · cases h
  | seq x y ihx ihy =>
    intro hp e H st e' H' φ w a Q hQ h hs he hk
    simp only [plainC, Bool.and_eq_true] at hp
    simp only [evCode] at h
    refine wpIn_seq ?_
    have hQ2 : ¬ LetsOut (Exit.then (y.wpIn (Fence.wide.inRound l) m P Q) Q) := fun ⟨a, w, hh⟩ => hQ ⟨a, w, hh⟩
    split at h
    · rename_i e1 H1 hx
      refine ihx hp.1 e H .nx e1 H1 φ w a _ hQ2 hx hs he fun φ1 w1 a1 st1 hs1 he1 hd1 => ?_
      exact ihy hp.2 e1 H1 st e' H' φ1 w1 a1 Q hQ h hs1 he1 fun φ2 w2 a2 st2 hs2 he2 hd2 => hk φ2 w2 a2 (st1.trans hs st2) hs2 he2 (hd2.trans hd1)
    · rename_i r hx
      refine ihx hp.1 e H st e' H' φ w a _ hQ2 h hs he fun φ1 w1 a1 st1 hs1 he1 hd1 => ?_
      have := hk φ1 w1 a1 st1 hs1 he1 hd1
      cases st with
      | nx => exact absurd h (hx e' H')
      | ex id => exact this
      | rt => exact this
  | cond c x y ihx ihy =>
    intro hp e H st e' H' φ w a Q hQ h hs he hk
    simp only [plainC, Bool.and_eq_true] at hp
    simp only [evCode] at h
    split at h
    · rename_i hc; exact wpIn_cond_true (val_bool (hc ▸ he.rho c)) (ihx hp.1 e H st e' H' φ w a Q hQ h hs he hk)
    · rename_i hc; exact wpIn_cond_false (val_bool (hc ▸ he.rho c)) (ihy hp.2 e H st e' H' φ w a Q hQ h hs he hk)
    · cases h
  | block id c ih =>
    intro hp e H st e' H' φ w a Q hQ h hs he hk
    simp only [plainC] at hp
    simp only [evCode] at h
    refine wpIn_block ?_
    have hQ2 : ¬ LetsOut (Exit.inBlock id Q) := fun ⟨a, w, hh⟩ => hQ ⟨a, w, hh⟩
    split at h
    · rename_i i e1 H1 hc
      refine ih hp e H (.ex i) e1 H1 φ w a _ hQ2 hc hs he fun φ1 w1 a1 st1 hs1 he1 hd1 => ?_
      show (if i = id then Q .normal a1 w1 else Q (.exit i) a1 w1)
      split at h
      · rename_i hi; cases h; rw [if_pos hi]; exact hk φ1 w1 a1 st1 hs1 he1 hd1
      · rename_i hi; cases h; rw [if_neg hi]; exact hk φ1 w1 a1 st1 hs1 he1 hd1
    · rename_i r hc
      refine ih hp e H st e' H' φ w a _ hQ2 h hs he fun φ1 w1 a1 st1 hs1 he1 hd1 => ?_
      have := hk φ1 w1 a1 st1 hs1 he1 hd1
      cases st with
      | nx => exact this
      | ex i => exact absurd h (hc i e' H')
      | rt => exact this
  | _ => intro hp; simp [plainC] at hp

end
end Go.Proofs.YtenolmhnmcjndaaGreatDoor.Ev

namespace Go.Proofs.YtenolmhnmcjndaaGreatDoor.Ev
set_option linter.unusedVariables false
set_option linter.unusedSimpArgs false
open Go
section
variable {P : Program} {φ φ' : Phi} {H H' : AH} {w w' : World} {ops : Array Oper}

/-- Nothing of the evaluator's lies there. -/
def NI (φ : Phi) (r : Nat) : Prop := ∀ c δ, φ c ≠ some (r, δ)
theorem NI.step (s : Step P φ H w φ' H' w') {r : Nat} (hr : r < w.heap.size) (h : NI φ r) : NI φ' r := fun c δ hc => by
  cases hp : φ c with
  | some x =>
    have := s.ext _ _ hp
    rw [hc] at this
    cases this
    exact h _ _ hp
  | none =>
    obtain ⟨d, ε, b, h1, _⟩ := s.new _ _ _ hp hc hr
    exact h _ _ h1
theorem NI.same (s : Step P φ H w φ' H' w') {r : Nat} (hr : r < w.heap.size) (h : NI φ r) : w'.heap[r]? = w.heap[r]? :=
  s.frame r hr fun c δ b hc _ => absurd hc (h c δ)

/-- What has no cells was turned, or laid behind. -/
def CellsSame (w w' : World) : Prop := ∀ (r : Nat) (C : Array Value) (e : TypeId) (fr : Nat × Nat), w.heap[r]? = some (Obj.cells C e fr) → w'.heap[r]? = some (Obj.cells C e fr)
theorem SliceR.wch (hc : CellsSame w w') {p q : Addr} {n c c' : Nat} (h : SliceR P φ H w p q n c c') : SliceR P φ H w' p q n c c' := by
  rcases h with h | h | ⟨h1, h2, δ, C, e, fr, b, h3, h4, h5, h6, h7, h8, h9⟩ | h
  · exact .inl h
  · exact .inr (.inl h)
  · refine .inr (.inr (.inl ⟨h1, h2, δ, C, e, fr, b, h3, h4, h5, h6, h7, h8, ?_⟩))
    rcases h9 with h9 | ⟨g1, g2, g3, C', fr', g4, g5⟩
    · exact .inl h9
    · exact .inr ⟨g1, g2, g3, C', fr', hc _ _ _ _ g4, g5⟩
  · exact .inr (.inr (.inr h))
theorem AtomR.wch (hc : CellsSame w w') {a b : Value} (h : AtomR P φ H w a b) : AtomR P φ H w' a b := by
  cases h with
  | flat h => exact .flat h
  | ptr h => exact .ptr h
  | slice h => exact .slice (h.wch hc)
  | map h => exact .map h
theorem CellR.wch (hc : CellsSame w w') {a b : Value} (h : CellR P φ H w a b) : CellR P φ H w' a b := by
  cases h with
  | atom h => exact .atom (h.wch hc)
  | iface h => exact .iface (h.wch hc)
  | ifaceAgg h => exact .ifaceAgg h
  | func h => exact .func (h.imp fun _ _ h => h.wch hc)
theorem PartR.wch (hc : CellsSame w w') {a b : Value} (h : PartR P φ H w a b) : PartR P φ H w' a b := by
  cases h with
  | junk => exact .junk
  | cell h => exact .cell (h.wch hc)
  | agg h => exact .agg (h.imp fun _ _ h => h.wch hc)
theorem ValR.wch (hc : CellsSame w w') {a b : Value} (h : ValR P φ H w a b) : ValR P φ H w' a b := by
  cases h with
  | part h => exact .part (h.wch hc)
  | tuple h => exact .tuple (h.imp fun _ _ h => h.wch hc)
theorem EnvR.wch (hc : CellsSame w w') {e : List Value} {t : Array Value} (h : EnvR P φ H w e t) : EnvR P φ H w' e t :=
  ⟨h.1, fun i x y hx hy => (h.2 i x y hx hy).wch hc⟩

/-- The evaluator's blocks, and the tables, lie as they lay. -/
structure Out (φ : Phi) (w w' : World) : Prop where
  size : w.heap.size ≤ w'.heap.size
  img : ∀ c r δ, φ c = some (r, δ) → w'.heap[r]? = w.heap[r]?
  tab : ∀ g, g ∈ fixedBlocks → w'.heap[g]? = w.heap[g]?
  cells : CellsSame w w'
theorem sim_out (hs : Sim P φ H w) (h : Out φ w w') : Sim P φ H w' where
  wf := hs.wf
  blk := hs.blk
  real c r δ hc := Nat.lt_of_lt_of_le (hs.real c r δ hc) h.size
  obj c r δ b hc hb hl := by
    have ho := hs.obj c r δ b hc hb hl
    have hr := h.img c r δ hc
    unfold ObjR at *
    split
    · rename_i C e fr hb2
      simp only [hb2] at ho
      obtain ⟨C', fr', h1, h2, h3, h4⟩ := ho
      exact ⟨C', fr', hr.trans h1, h2, fun i x y hx hy => (h3 i x y hx hy).wch h.cells, h4⟩
    · rename_i es ck hb2
      simp only [hb2] at ho
      obtain ⟨h1, h2, es', h3, h4, h5⟩ := ho
      exact ⟨h1, h2, es', hr.trans h3, h4, fun i x y hx hy => by obtain ⟨k1, k2, k3⟩ := h5 i x y hx hy; exact ⟨k1, k2, k3.wch h.cells⟩⟩
    · rename_i hno hno2
      split at ho
      · rename_i C e fr hb2; exact absurd hb2 (hno C e fr)
      · rename_i es ck hb2; exact absurd hb2 (hno2 es ck)
      · exact ⟨ho.1, ho.2.1, hr.trans ho.2.2⟩
  sep := hs.sep
  ends := hs.ends
  fix := ⟨Tabs_local h.tab hs.fix.1, fun g hg => ⟨Nat.lt_of_lt_of_le (hs.fix.2 g hg).1 h.size, (hs.fix.2 g hg).2⟩⟩

def noCells : Obj → Bool
  | .cells .. => false
  | _ => true
theorem heap_alloc {W : World} {o : Obj} {r : Nat} (h : r < W.heap.size) : (W.alloc o).heap[r]? = W.heap[r]? := by
  show (W.heap.push o)[r]? = _
  rw [Array.getElem?_push, if_neg (by omega)]
theorem putObj_heap {W : World} {r k : Nat} {o : Obj} : (W.putObj r o).heap[k]? = if k = r ∧ r < W.heap.size then some o else W.heap[k]? := by
  by_cases h : k = r
  · subst h
    by_cases hl : k < W.heap.size
    · rw [if_pos ⟨rfl, hl⟩]; exact World.putObj_heap_same hl
    · rw [if_neg (fun h => hl h.2)]
      rw [Array.getElem?_eq_none (by simp; omega), Array.getElem?_eq_none (by omega)]
  · rw [if_neg (fun hh => h hh.1)]; exact World.putObj_heap_other h
theorem noCells_same {W : World} {r : Nat} {o o' : Obj} (h : W.heap[r]? = some o) (hn : noCells o = true) : CellsSame W (W.putObj r o') := fun k C e fr hk => by
  rw [putObj_heap]
  split
  · rename_i hh
    obtain ⟨rfl, _⟩ := hh
    rw [h] at hk
    cases hk
    cases hn
  · exact hk
theorem out_put {W : World} {r : Nat} {o o' : Obj} (hs : Sim P φ H W) (h : W.heap[r]? = some o) (hn : noCells o = true) (hi : NI φ r) (hf : r ∉ fixedBlocks) : Out φ W (W.putObj r o') where
  size := by simp
  img c k δ hc := by rw [putObj_heap, if_neg (fun hh : k = r ∧ r < W.heap.size => hi c δ (hh.1 ▸ hc))]
  tab g hg := by rw [putObj_heap, if_neg (fun hh : g = r ∧ r < W.heap.size => hf (hh.1 ▸ hg))]
  cells := noCells_same h hn
theorem out_alloc {W : World} {o : Obj} (hs : Sim P φ H W) : Out φ W (W.alloc o) where
  size := by simp
  img c k δ hc := heap_alloc (hs.real c k δ hc)
  tab g hg := heap_alloc (hs.fix.2 g hg).1
  cells r C e fr hr := by rw [heap_alloc (Array.getElem?_eq_some_iff.1 hr).1]; exact hr

/-! ### What the statement keeps of its own: two blocks, D and L -/
def o1 : Obj := .deferred (some [])
def o2 : Obj := .deferred none
def nrm (D L : Nat) (W : World) : World := (W.putObj D o1).putObj L o2
theorem nrm_size {D L : Nat} {W : World} : (nrm D L W).heap.size = W.heap.size := by simp [nrm]
theorem nrm_get {D L : Nat} {W : World} {r : Nat} (h1 : r ≠ D) (h2 : r ≠ L) : (nrm D L W).heap[r]? = W.heap[r]? := by
  unfold nrm
  rw [putObj_heap, if_neg (fun h => h2 h.1), putObj_heap, if_neg (fun h => h1 h.1)]
theorem nrm_at {D L : Nat} {W W' : World} {r : Nat} (hD : D < W.heap.size) (hL : L < W.heap.size) (hD' : D < W'.heap.size) (hL' : L < W'.heap.size) (h : r = D ∨ r = L) : (nrm D L W).heap[r]? = (nrm D L W').heap[r]? := by
  have e : ∀ V : World, D < V.heap.size → L < V.heap.size → (nrm D L V).heap[r]? = if r = L then some o2 else some o1 := fun V k1 k2 => by
    unfold nrm
    rw [putObj_heap, putObj_heap]
    by_cases hr : r = L
    · rw [if_pos ⟨hr, by simp [k2]⟩, if_pos hr]
    · rcases h with h | h
      · rw [if_neg (fun hh => hr hh.1), if_neg hr, if_pos ⟨h, k1⟩]
      · exact absurd h hr
  rw [e W hD hL, e W' hD' hL']
theorem nrm_cells {D L : Nat} {W : World} {r : Nat} {C : Array Value} {e : TypeId} {fr : Nat × Nat} (h : (nrm D L W).heap[r]? = some (.cells C e fr)) : W.heap[r]? = some (.cells C e fr) ∧ (r < W.heap.size → r ≠ D ∧ r ≠ L) := by
  unfold nrm at h
  rw [putObj_heap] at h
  split at h
  · cases h
  · rename_i h1
    rw [putObj_heap] at h
    split at h
    · cases h
    · rename_i h2
      refine ⟨h, fun hr => ⟨fun hh => h2 ⟨hh, hh ▸ hr⟩, fun hh => h1 ⟨hh, ?_⟩⟩⟩
      rw [← hh]; simpa using hr
theorem step_nrm {D L : Nat} (hD : D < w.heap.size) (hL : L < w.heap.size) (s : Step P φ H w φ' H' w') : Step P φ H (nrm D L w) φ' H' (nrm D L w') where
  h := s.h
  ext := s.ext
  old := s.old
  os := s.os
  tape := s.tape
  output := s.output
  size := by rw [nrm_size, nrm_size]; exact s.size
  shape r C e fr hr := by
    obtain ⟨h1, h2⟩ := nrm_cells hr
    have hlt : r < w.heap.size := (Array.getElem?_eq_some_iff.1 h1).1
    obtain ⟨h3, h4⟩ := h2 hlt
    rw [nrm_get h3 h4]
    exact s.shape r C e fr h1
  frame r hr hi := by
    rw [nrm_size] at hr
    by_cases h : r = D ∨ r = L
    · exact (nrm_at hD hL (Nat.lt_of_lt_of_le hD s.size) (Nat.lt_of_lt_of_le hL s.size) h).symm
    · rw [nrm_get (fun e => h (.inl e)) (fun e => h (.inr e)), nrm_get (fun e => h (.inl e)) (fun e => h (.inr e))]
      exact s.frame r hr hi
  new c r δ h1 h2 h3 := s.new c r δ h1 h2 (by rw [nrm_size] at h3; exact h3)
  heads := s.heads
theorem nrm_put {D L : Nat} {W : World} {o : Obj} (hL : L < W.heap.size) : nrm D L (W.putObj L o) = nrm D L W := by
  have key : ∀ (A : Array Obj) (x y z : Obj), ((A.setIfInBounds L x).setIfInBounds D y).setIfInBounds L z = (A.setIfInBounds D y).setIfInBounds L z := fun A x y z => by
    apply Array.ext_getElem?
    intro i
    simp only [Array.getElem?_setIfInBounds, Array.size_setIfInBounds]
    by_cases h1 : L = i
    · simp [h1]
    · simp [h1]
  unfold nrm World.putObj
  simp [key]
/-- What lies behind the statement, seen from ahead of it. -/
theorem step_base {D L : Nat} {W0 : World} (hD : w.heap.size ≤ D) (hL : w.heap.size ≤ L) (hle : w.heap.size ≤ W0.heap.size) (h0 : ∀ r, r < w.heap.size → W0.heap[r]? = w.heap[r]?) (ho : SameOut w W0) (s : Step P φ H (nrm D L W0) φ' H' (nrm D L w')) : Step P φ H w φ' H' w' where
  h := s.h
  ext := s.ext
  old := s.old
  os := s.os.trans ho.1
  tape := s.tape.trans ho.2.1
  output := s.output.trans ho.2.2
  size := by have := s.size; rw [nrm_size, nrm_size] at this; omega
  shape r C e fr hr := by
    have hlt : r < w.heap.size := (Array.getElem?_eq_some_iff.1 hr).1
    obtain ⟨C', fr', h1, h2⟩ := s.shape r C e fr (by rw [nrm_get (by omega) (by omega), h0 r hlt]; exact hr)
    exact ⟨C', fr', (nrm_cells h1).1, h2⟩
  frame r hr hi := by
    have := s.frame r (by rw [nrm_size]; omega) hi
    rw [nrm_get (by omega) (by omega), nrm_get (by omega) (by omega), h0 r hr] at this
    exact this
  new c r δ h1 h2 h3 := s.new c r δ h1 h2 (by rw [nrm_size]; omega)
  heads := s.heads

/-- The marks that ranges over a function leave among an activation's deferred calls. -/
def mkD (r : Nat) : Deferred := { target := .collected r, args := #[] }
def MarkOk (φ : Phi) (B : Nat) (w : World) (df df' : List Deferred) : Prop :=
  ∃ ms : List Nat, df' = ms.map mkD ++ df ∧ ms.Nodup ∧ ∀ r, r ∈ ms → B ≤ r ∧ r < w.heap.size ∧ w.heap[r]? = some o1 ∧ NI φ r
theorem MarkOk.refl {B : Nat} {df : List Deferred} : MarkOk φ B w df df := ⟨[], rfl, List.nodup_nil, fun r hr => nomatch hr⟩
theorem MarkOk.trans {B : Nat} {df df1 df2 : List Deferred} (h : MarkOk φ B w df df1) (s : Step P φ H w φ' H' w') (k : MarkOk φ' w.heap.size w' df1 df2) (hB : B ≤ w.heap.size) : MarkOk φ' B w' df df2 := by
  obtain ⟨ms, rfl, h2, h3⟩ := h
  obtain ⟨ns, rfl, k2, k3⟩ := k
  refine ⟨ns ++ ms, by simp, List.nodup_append.2 ⟨k2, h2, fun a ha b hb hab => ?_⟩, fun r hr => ?_⟩
  · have := (k3 a ha).1
    have := (h3 b hb).2.1
    omega
  · rcases List.mem_append.1 hr with hr | hr
    · obtain ⟨a, b, c, d⟩ := k3 r hr
      exact ⟨by omega, b, c, d⟩
    · obtain ⟨a, b, c, d⟩ := h3 r hr
      exact ⟨a, Nat.lt_of_lt_of_le b s.size, (NI.same s b d).trans c, NI.step s b d⟩
/-- The end of a piece of code that may hold ranges over a function. -/
def EndM (P : Program) (φ : Phi) (H : AH) (w : World) (e' : List Value) (H' : AH) (df : List Deferred) (nr : Bool) (K : Act → World → Prop) : Prop :=
  ∀ φ' w' a', Step P φ H w φ' H' w' → Sim P φ' H' w' → EnvR P φ' H' w' e' a'.tmps → MarkOk φ' w.heap.size w' df a'.defers → (nr = true → a'.defers = df) → K a' w'
theorem EndM.endOk {e' : List Value} {df : List Deferred} {nr : Bool} {K : Act → World → Prop} (h : EndM P φ H w e' H' df nr K) : EndOk P φ H w e' H' df K :=
  fun φ' w' a' s hs he hd => h φ' w' a' s hs he (hd ▸ MarkOk.refl) fun _ => hd

end
end Go.Proofs.YtenolmhnmcjndaaGreatDoor.Ev

namespace Go.Proofs.YtenolmhnmcjndaaGreatDoor.Ev
set_option linter.unusedVariables false
set_option linter.unusedSimpArgs false
open Go
section
variable {P : Program} {φ φ' : Phi} {H H' : AH} {w w' : World} {ops : Array Oper}

theorem cellA_rel (hs : Sim P φ H w) {p q : Addr} {v : Value} (hp : AddrR φ H p q) (h : cellA H p = some v) : ∃ y, w.cell? q = some y ∧ CellR P φ H w v y ∧ q.spot = none := by
  unfold cellA at h
  split at h
  · rename_i C e fr hsp hc
    obtain ⟨b, δ, C', fr', l⟩ := lies hs hp hc
    obtain ⟨y, h3, h4⟩ := l.get h
    have h5 := l.cell? 0
    rw [Nat.add_zero, ← addr_eta l.qspot] at h5
    exact ⟨y, h5.trans h3, h4, l.qspot⟩
  · cases h

theorem env_fold {e : List Value} {t : Array Value} (he : EnvR P φ H w e t) {p0 p1 : Tmp} {v0 v1 : Value} {ps : Array Tmp} (hps : ps.toList = [p0, p1]) (h0 : ValR P φ H w v0 v0) (h1 : ValR P φ H w v1 v1) :
    EnvR P φ H w ((e.set p0 v0).set p1 v1) ((ps.zip #[v0, v1]).foldl (fun t (p, v) => t.setIfInBounds p v) t) := by
  obtain rfl : ps = #[p0, p1] := by rw [← Array.toList_inj]; simpa using hps
  have h2 := (he.put (a := { tmps := t, defers := [] }) (some p0) h0)
  have h3 := (EnvR.put (a := { tmps := t.setIfInBounds p0 v0, defers := [] }) h2 (some p1) h1)
  simpa [putE, Act.put] using h3

theorem range_sound (hp : ProgOk P) {reg : Array Oper → Bool → List Value → AH → Option (List Value × AH)} (hreg : RegOk P reg) {n : Nat} {g : Operand} {ps : Array Tmp} {asg body : Code} {p0 p1 : Tmp} {f : FuncId} {e : List Value} {pb : Addr} {a0 : Option Addr} {len cap : Nat} {a : Act} {Q : Exit → Act → World → Prop}
    (hg : rho e g = .func (.func f) #[] #[.pointer (some pb)]) (hps : ps.toList = [p0, p1]) (hf : isBack P f = true) (hpa : plainC asg = true) (hpb : plainC body = true) (hbox : cellA H pb = some (.slice a0 len cap)) (hlen : len ≤ 140737488355328)
    (hrun : backA (roundA P reg n asg body e p0 p1) pb a0 len len H = some H') (hs : Sim P φ H w) (he : EnvR P φ H w e a.tmps) (hk : EndM P φ H w e H' a.defers false (Q .normal)) : (Code.rangeFunc g ps asg body).wp P Q a w := by
  obtain ⟨hff, hbk⟩ := hp.back f hf
  -- the function's value
  obtain ⟨lb, hval, qb, hlb, hqb⟩ : ∃ lb, a.eval g = .func (.func f) #[] lb ∧ ∃ qb, lb = #[.pointer (some qb)] ∧ AddrR φ H pb qb := by
    have hr := he.rho g
    rw [hg] at hr
    obtain ⟨_, y', h1, h2⟩ := val_func hr
    refine ⟨y', h1, ?_⟩
    obtain ⟨hsz, hel⟩ := h2
    have hsz : y'.size = 1 := by simpa using hsz.symm
    obtain ⟨z, hz⟩ := Array.size_eq_one_iff.1 hsz
    subst hz
    have := hel 0 _ _ rfl rfl
    cases this with
    | flat h => cases h
    | ptr h => exact ⟨_, rfl, h⟩
  subst hlb
  obtain ⟨y, hy1, hy2, hqs⟩ := cellA_rel hs hqb hbox
  obtain ⟨Bs, o, sp⟩ := qb
  simp only at hqs
  subst hqs
  -- what the box holds
  obtain ⟨x0, cap', rfl⟩ : ∃ x0 cap', y = .slice x0 len cap' := by
    have := part_of_cell hy2
    cases a0 with
    | none => exact ⟨_, _, val_nilslice this⟩
    | some p => obtain ⟨q, c', h1, _⟩ := val_slice this; exact ⟨_, _, h1⟩
  -- where the row lies
  obtain ⟨b, off, hrow⟩ : ∃ b off, 0 < len → ∃ p, a0 = some p ∧ p.spot = none ∧ ∃ δ, φ p.block = some (b, δ) ∧ off = δ + p.off := by
    cases hl : len with
    | zero => exact ⟨0, 0, fun h => absurd h (by omega)⟩
    | succ j =>
      rw [hl] at hrun
      unfold backA at hrun
      split at hrun
      case h_2 => cases hrun
      rename_i p h1 
      have hcell : ∃ v, cellA H (p.add j) = some v := by
        split at hrun
        · rename_i x hx; exact ⟨_, hx⟩
        · cases hrun
      obtain ⟨v, hv⟩ := hcell
      have hps : p.spot = none := by
        rw [hbox] at h1
        unfold sameS at h1
        simp only [Bool.and_eq_true, Option.isNone_iff_eq_none] at h1
        exact h1.1.2
      have hlive : ∃ x, H.cells p.block = some x := by
        rw [add_none hps] at hv
        unfold cellA at hv
        split at hv
        · rename_i hh; exact ⟨_, hh⟩
        · cases hv
      obtain ⟨⟨C, t, fr⟩, hC⟩ := hlive
      obtain ⟨q, c', h3, h4⟩ := val_slice (part_of_cell hy2)
      obtain ⟨bb, hb1, hb2, hb3⟩ := cells_some hC
      rcases h4 with h4 | ⟨h4, _⟩ | ⟨_, _, δ, _, _, _, _, h5, h6, _⟩ | ⟨_, _, _, _, δ, h5, h6⟩
      · exact absurd h4 (not_dead hb1 hb2)
      · omega
      · exact ⟨q.block, q.off, fun _ => ⟨p, rfl, hps, δ, h5, h6⟩⟩
      · exact ⟨q.block, q.off, fun _ => ⟨p, rfl, hps, δ, h5, h6⟩⟩
  refine (wpIn_wide (n := 3)).1 (wpIn_rangeFunc fun fn _ => ?_)
  obtain ⟨rec, hrec⟩ : ∃ rec : LoopState → Loop, rec = fun st => { state := st, pending := none, fn, tmps := a.tmps, params := ps, assign := asg, body, defers := w.heap.size } := ⟨_, rfl⟩
  obtain ⟨W00, hW⟩ : ∃ W00, (w.alloc o1).alloc (.loop (rec .ready)) = W00 := ⟨_, rfl⟩
  have hsz : W00.heap.size = w.heap.size + 2 := by rw [← hW]; simp
  have hD0 : W00.heap[w.heap.size]? = some o1 := by
    rw [← hW, heap_alloc (by simp)]
    exact World.alloc_heap_new w _
  have hL0 : W00.heap[w.heap.size + 1]? = some (.loop (rec .ready)) := by
    rw [← hW]
    have := World.alloc_heap_new (w.alloc o1) (.loop (rec .ready)); rwa [World.size_alloc] at this
  have hold : ∀ r, r < w.heap.size → W00.heap[r]? = w.heap[r]? := fun r hr => by
    rw [← hW, heap_alloc (by simp; omega), heap_alloc hr]
  have hsame0 : SameOut w W00 := by rw [← hW]; exact ⟨rfl, rfl, rfl⟩
  have hs1 : Sim P φ H (w.alloc o1) := sim_out hs (out_alloc hs)
  have hs00 : Sim P φ H W00 := by rw [← hW]; exact sim_out hs1 (out_alloc hs1)
  have hcs : CellsSame w W00 := fun r C t fr hr => by rw [hold r (Array.getElem?_eq_some_iff.1 hr).1]; exact hr
  have hND : NI φ w.heap.size := fun c δ hc => by have := hs.real c _ δ hc; omega
  have hNL : NI φ (w.heap.size + 1) := fun c δ hc => by have := hs.real c _ δ hc; omega
  have hfD : w.heap.size ∉ fixedBlocks := fun hh => by have := (hs.fix.2 _ hh).1; omega
  have hfL : w.heap.size + 1 ∉ fixedBlocks := fun hh => by have := (hs.fix.2 _ hh).1; omega
  have hsD : Sim P φ H (W00.putObj w.heap.size o1) := sim_out hs00 (out_put hs00 hD0 rfl hND hfD)
  have hsN : Sim P φ H (nrm w.heap.size (w.heap.size + 1) W00) := by
    refine sim_out hsD (out_put hsD (o := .loop (rec .ready)) ?_ rfl hNL hfL)
    rw [putObj_heap, if_neg (by omega)]; exact hL0
  refine ⟨w.heap.size + 1, [mkD w.heap.size], W00, { target := .fn (.func f) #[.pointer (some ⟨Bs, o, none⟩)], args := #[.func (.yield (w.heap.size + 1)) #[] #[]] }, W00, f,
    #[.func (.yield (w.heap.size + 1)) #[] #[], .pointer (some ⟨Bs, o, none⟩)], W00, ?_, ?_, fun _ _ => trivial, ?_, fun hh => (by cases hh), ?_⟩
  · rw [← hW, hrec]; exact run_enterLoop_outer _ _ _ _ _
  · simp only [resolve, hval]
    simp [go_sem]
  · obtain ⟨gf, hgf, hgb⟩ := hff
    have hnm := hp.name f gf hgf hgb
    have hno : gf.body.isNone = false := by cases hb : gf.body <;> simp_all
    simp only [invoke, callFunc, Sem.run_bind, Sem.run_pure, Result.andThen_ok, run_program, hgf, hnm, hno, Bool.false_eq_true, if_false]
    simp
  -- the rounds
  obtain ⟨J, hJ⟩ : ∃ J : Nat → World → Prop, J = fun k W => ∃ φk Hk, Step P φ H (nrm w.heap.size (w.heap.size + 1) W00) φk Hk (nrm w.heap.size (w.heap.size + 1) W) ∧ Sim P φk Hk W ∧ EnvR P φk Hk W e a.tmps ∧
      backA (roundA P reg n asg body e p0 p1) pb a0 len (len - k) Hk = some H' ∧ W.heap[w.heap.size + 1]? = some (.loop (rec .ready)) ∧ W.heap[w.heap.size]? = some o1 ∧ NI φk w.heap.size ∧ NI φk (w.heap.size + 1) := ⟨_, rfl⟩
  have hJ0 : J 0 W00 := by rw [hJ]; exact ⟨φ, H, Step.refl hsN, hs00, he.wch hcs, by rw [Nat.sub_zero]; exact hrun, hL0, hD0, hND, hNL⟩
  refine (hbk 2 (w.heap.size + 1) Bs o b off len x0 J W00 (by omega) hlen ⟨cap', ?_⟩ ?_ hJ0).mono ?_
  · have : W00.heap[Bs]? = w.heap[Bs]? := by
      have : ∃ v, w.cell? ⟨Bs, o, none⟩ = some v := ⟨_, hy1⟩
      refine hold Bs ?_
      obtain ⟨v, hv⟩ := this
      unfold World.cell? at hv
      cases hh : w.heap[Bs]? with
      | none => simp [hh] at hv
      | some ob => exact (Array.getElem?_eq_some_iff.1 hh).1
    rw [World.cell?_of_block (a := ⟨Bs, o, none⟩) this]; exact hy1
  · intro k W hjk hk
    rw [hJ] at hjk
    obtain ⟨φk, Hk, hst, hsk, hek, hbk2, hLk, hDk, hnD, hnL⟩ := hjk
    obtain ⟨j, hj⟩ : ∃ j, len - k = j + 1 := ⟨len - k - 1, by omega⟩
    have hj2 : len - 1 - k = j := by omega
    have hj3 : len - (k + 1) = j := by omega
    rw [hj] at hbk2
    unfold backA at hbk2
    split at hbk2
    case h_2 => cases hbk2
    rename_i p hsame
    obtain ⟨p', hp', hps', δ, hφ, hoff⟩ := hrow (by omega)
    cases hp'
    split at hbk2
    case h_2 => cases hbk2
    rename_i x hcell
    split at hbk2
    case h_2 => cases hbk2
    rename_i H2 hround
    obtain ⟨e1, H1, e2, hasg, hbody⟩ := roundA_some hround
    have hextk : ∀ c x, φ c = some x → φk c = some x := hst.ext
    -- the box
    obtain ⟨vb, hvb, q1, cp, rfl, hq1⟩ : ∃ vb, cellA Hk pb = some vb ∧ ∃ q1 cp, vb = .slice (some q1) len cp ∧ q1 = p := by
      unfold sameS at hsame
      split at hsame
      · rename_i q1 n1 c1 hh
        simp only [Bool.and_eq_true, Option.isNone_iff_eq_none] at hsame
        obtain ⟨⟨⟨⟨h1, h2⟩, h3⟩, h4⟩, h5⟩ := hsame
        refine ⟨_, hh, q1, c1, by rw [Nat.eq_of_beq_eq_true h5], addr_same (Nat.eq_of_beq_eq_true h1) (Nat.eq_of_beq_eq_true h2) h3 h4⟩
      · cases hsame
    subst hq1
    have hqbk : AddrR φk Hk pb ⟨Bs, o, none⟩ := hqb.mono hst
    obtain ⟨yb, hyb1, hyb2, _⟩ := cellA_rel hsk hqbk hvb
    obtain ⟨qr, cr, rfl, hqr⟩ := val_slice (part_of_cell hyb2)
    have hlive : ∃ y, Hk.cells q1.block = some y := by
      rw [add_none hps'] at hcell
      unfold cellA at hcell
      split at hcell
      · rename_i hh; exact ⟨_, hh⟩
      · cases hcell
    obtain ⟨⟨C, t, fr⟩, hC⟩ := hlive
    obtain ⟨bb, hb1, hb2, hb3⟩ := cells_some hC
    have hqe : qr = ⟨b, off, none⟩ := by
      have hh := hextk _ _ hφ
      rcases hqr with h4 | ⟨h4, _⟩ | ⟨_, h8, δ2, _, _, _, _, h5, h6, _⟩ | ⟨_, h8, _, _, δ2, h5, h6⟩
      · exact absurd h4 (not_dead hb1 hb2)
      · omega
      · rw [hh] at h5; cases h5; rw [addr_eta h8, h6, hoff]
      · rw [hh] at h5; cases h5; rw [addr_eta h8, h6, hoff]
    subst hqe
    have hpk : AddrR φk Hk (q1.add j) ⟨b, off + j, none⟩ := by
      rw [add_none hps']
      exact .inr ⟨rfl, rfl, δ, hextk _ _ hφ, by rw [hoff]; exact Nat.add_assoc _ _ _⟩
    obtain ⟨yx, hyx1, hyx2, _⟩ := cellA_rel hsk hpk hcell
    obtain rfl := val_int (part_of_cell hyx2)
    refine ⟨cr, x, hyb1, by rw [hj2]; exact hyx1, (rec .ready).fn, _, (rec .ready).assign, (rec .ready).body, run_yield hLk ?_, roundIn_of_wpIn trivial ?_⟩
    · rw [hrec]
      show (2 : Nat) = ps.size
      rw [← Array.length_toList, hps]; rfl
    have hpar : (rec .ready).params = ps := by rw [hrec]
    have htm : (rec .ready).tmps = a.tmps := by rw [hrec]
    have hasg0 : (rec .ready).assign = asg := by rw [hrec]
    have hbod0 : (rec .ready).body = body := by rw [hrec]
    rw [hpar, htm, hj2, hasg0, hbod0]
    have henv := env_fold (ps := ps) (v0 := .int .i64 (j : Nat)) (v1 := .int .i64 x) hek hps (val_refl rfl) (val_refl rfl)
    refine evCode_round hreg n (w.heap.size + 1) _ asg hpa _ Hk .nx e1 H1 φk W _ _ (fun ⟨_, _, hh⟩ => hh) hasg hsk henv fun φ1 w1 a1 st1 hs1 he1 hd1 => ?_
    have hltL : w.heap.size + 1 < W.heap.size := (Array.getElem?_eq_some_iff.1 hLk).1
    have hltD : w.heap.size < W.heap.size := by omega
    have hL1 := (NI.same st1 hltL hnL).trans hLk
    have hD1 := (NI.same st1 hltD hnD).trans hDk
    have hnL1 := NI.step st1 hltL hnL
    have hnD1 := NI.step st1 hltD hnD
    have hltL1 : w.heap.size + 1 < w1.heap.size := (Array.getElem?_eq_some_iff.1 hL1).1
    have hrdy : (rec .ready).state = .ready := by rw [hrec]
    refine ⟨_, run_beginRound hL1 hrdy, ?_⟩
    obtain ⟨w2, hw2⟩ : ∃ w2, w1.putObj (w.heap.size + 1) (.loop { rec .ready with state := .busy }) = w2 := ⟨_, rfl⟩
    have ho2 : Out φ1 w1 w2 := by rw [← hw2]; exact out_put hs1 hL1 rfl hnL1 hfL
    have hs2 := sim_out hs1 ho2
    have he2 := he1.wch ho2.cells
    have hsz2 : w2.heap.size = w1.heap.size := by rw [← hw2]; simp
    have hL2 : w2.heap[w.heap.size + 1]? = some (.loop { rec .ready with state := .busy }) := by rw [← hw2, putObj_heap, if_pos ⟨rfl, hltL1⟩]
    have hD2 : w2.heap[w.heap.size]? = some o1 := by rw [← hw2, putObj_heap, if_neg (by omega)]; exact hD1
    have hn2 : nrm w.heap.size (w.heap.size + 1) w2 = nrm w.heap.size (w.heap.size + 1) w1 := by rw [← hw2]; exact nrm_put hltL1
    rw [hw2]
    refine evCode_round hreg n (w.heap.size + 1) _ body hpb _ H1 .nx e2 H2 φ1 w2 a1 _ (fun ⟨_, _, hh⟩ => hh) hbody hs2 he2 fun φ2 w3 a2 st2 hs3 he3 hd3 => ?_
    have hltL2 : w.heap.size + 1 < w2.heap.size := by omega
    have hL3 := (NI.same st2 hltL2 hnL1).trans hL2
    have hD3 := (NI.same st2 (by omega : w.heap.size < w2.heap.size) hnD1).trans hD2
    have hnL3 := NI.step st2 hltL2 hnL1
    have hnD3 := NI.step st2 (by omega : w.heap.size < w2.heap.size) hnD1
    have hltL3 : w.heap.size + 1 < w3.heap.size := (Array.getElem?_eq_some_iff.1 hL3).1
    refine ⟨_, _, run_endRound none hL3, rfl, ?_⟩
    obtain ⟨w4, hw4⟩ : ∃ w4, w3.putObj (w.heap.size + 1) (.loop { ({ rec .ready with state := .busy } : Loop) with state := if (none : Option Code).isNone then .ready else .done, pending := none }) = w4 := ⟨_, rfl⟩
    have ho4 : Out φ2 w3 w4 := by rw [← hw4]; exact out_put hs3 hL3 rfl hnL3 hfL
    have hn4 : nrm w.heap.size (w.heap.size + 1) w4 = nrm w.heap.size (w.heap.size + 1) w3 := by rw [← hw4]; exact nrm_put hltL3
    have hD4 : w4.heap[w.heap.size]? = some o1 := by rw [← hw4, putObj_heap, if_neg (by omega)]; exact hD3
    have hL4 : w4.heap[w.heap.size + 1]? = some (.loop (rec .ready)) := by rw [← hw4, putObj_heap, if_pos ⟨rfl, hltL3⟩, hrec]; rfl
    rw [hw4, hJ]
    refine ⟨φ2, H2, ?_, sim_out hs3 ho4, (((hek.mono st1).wch ho2.cells).mono st2).wch ho4.cells, by rw [hj3]; exact hbk2, hL4, hD4, hnD3, hnL3⟩
    rw [hn4]
    refine (hst.trans hsN (step_nrm (by omega) hltL st1)).trans hsN ?_
    rw [← hn2]
    exact step_nrm (by omega) hltL2 st2
  · rintro ev W ⟨⟨v, rfl⟩, hjl⟩
    rw [hJ] at hjl
    obtain ⟨φk, Hk, hst, hsk, hek, hbk2, hLk, hDk, hnD, hnL⟩ := hjl
    rw [Nat.sub_self] at hbk2
    simp only [backA] at hbk2
    cases hbk2
    have hltL : w.heap.size + 1 < W.heap.size := (Array.getElem?_eq_some_iff.1 hLk).1
    have hrdy : (rec .ready).state ≠ .busy := by rw [hrec]; exact fun hh => by cases hh
    have hpen : (rec .ready).pending = none := by rw [hrec]
    refine ⟨_, _, run_endLoop hLk hrdy, ?_⟩
    rw [hpen]
    obtain ⟨w4, hw4⟩ : ∃ w4, W.putObj (w.heap.size + 1) (.loop { rec .ready with state := .exhausted, pending := none }) = w4 := ⟨_, rfl⟩
    have ho4 : Out φk W w4 := by rw [← hw4]; exact out_put hsk hLk rfl hnL hfL
    have hn4 : nrm w.heap.size (w.heap.size + 1) w4 = nrm w.heap.size (w.heap.size + 1) W := by rw [← hw4]; exact nrm_put hltL
    have hD4 : w4.heap[w.heap.size]? = some o1 := by rw [← hw4, putObj_heap, if_neg (by omega)]; exact hDk
    rw [hw4]
    refine hk φk w4 { a with defers := [mkD w.heap.size] ++ a.defers } ?_ (sim_out hsk ho4) (hek.wch ho4.cells) ⟨[w.heap.size], rfl, by simp, fun r hr => ?_⟩ (fun hh => by cases hh)
    · refine step_base (D := w.heap.size) (L := w.heap.size + 1) (W0 := W00) (Nat.le_refl _) (Nat.le_succ _) (by omega) hold hsame0 ?_
      rw [hn4]; exact hst
    · obtain rfl := List.mem_singleton.1 hr
      exact ⟨Nat.le_refl _, (Array.getElem?_eq_some_iff.1 hD4).1, hD4, hnD⟩


theorem EndM.weaken {e' : List Value} {df : List Deferred} {nr nr' : Bool} {K : Act → World → Prop} (h : EndM P φ H w e' H' df nr K) (hh : nr = true → nr' = true) : EndM P φ H w e' H' df nr' K :=
  fun φ' w' a' s hs he hm hd => h φ' w' a' s hs he hm fun hn => hd (hh hn)

theorem evCodeM_sound (hp : ProgOk P) {reg : Array Oper → Bool → List Value → AH → Option (List Value × AH)} (hreg : RegOk P reg) (n : Nat) : ∀ (c : Code) (e : List Value) (H : AH) (st : St) (e' : List Value) (H' : AH) (φ : Phi) (w : World) (a : Act) (Q : Exit → Act → World → Prop),
    evCode P reg n c e H = some (st, e', H') → Sim P φ H w → EnvR P φ H w e a.tmps → EndM P φ H w e' H' a.defers (noRF c) (Q st.exit) → c.wp P Q a w := by
  intro c
  induction c with
  | skip =>
    intro e H st e' H' φ w a Q h hs he hk
    simp only [evCode] at h; cases h
    exact wp_skip (hk φ w a (Step.refl hs) hs he .refl fun _ => rfl)
  | region id ops d =>
    intro e H st e' H' φ w a Q h hs he hk
    simp only [evCode] at h
    split at h
    · rename_i e1 H1 hr; cases h; exact (hreg ops d e H _ _ hr φ w a Q hs he hk.endOk).wp
    · cases h
  | seq x y ihx ihy =>
    intro e H st e' H' φ w a Q h hs he hk
    simp only [evCode] at h
    refine wp_seq ?_
    split at h
    · rename_i e1 H1 hx
      refine ihx e H .nx e1 H1 φ w a _ hx hs he fun φ1 w1 a1 st1 hs1 he1 hm1 hd1 => ?_
      refine ihy e1 H1 st e' H' φ1 w1 a1 Q h hs1 he1 fun φ2 w2 a2 st2 hs2 he2 hm2 hd2 => hk φ2 w2 a2 (st1.trans hs st2) hs2 he2 (hm1.trans st2 hm2 st1.size) fun hn => ?_
      simp only [noRF, Bool.and_eq_true] at hn
      exact (hd2 hn.2).trans (hd1 hn.1)
    · rename_i r hx
      refine ihx e H st e' H' φ w a _ h hs he fun φ1 w1 a1 st1 hs1 he1 hm1 hd1 => ?_
      have := hk φ1 w1 a1 st1 hs1 he1 hm1 (fun hn => hd1 (by simp only [noRF, Bool.and_eq_true] at hn; exact hn.1))
      cases st with
      | nx => exact absurd h (hx e' H')
      | ex id => exact this
      | rt => exact this
  | cond c x y ihx ihy =>
    intro e H st e' H' φ w a Q h hs he hk
    simp only [evCode] at h
    split at h
    · rename_i hc; exact wp_cond_true (val_bool (hc ▸ he.rho c)) (ihx e H st e' H' φ w a Q h hs he (hk.weaken fun hn => by simp only [noRF, Bool.and_eq_true] at hn; exact hn.1))
    · rename_i hc; exact wp_cond_false (val_bool (hc ▸ he.rho c)) (ihy e H st e' H' φ w a Q h hs he (hk.weaken fun hn => by simp only [noRF, Bool.and_eq_true] at hn; exact hn.2))
    · cases h
  | block id c ih =>
    intro e H st e' H' φ w a Q h hs he hk
    simp only [evCode] at h
    refine wp_block ?_
    split at h
    · rename_i i e1 H1 hc
      refine ih e H (.ex i) e1 H1 φ w a _ hc hs he fun φ1 w1 a1 st1 hs1 he1 hm1 hd1 => ?_
      show (if i = id then Q .normal a1 w1 else Q (.exit i) a1 w1)
      split at h
      · rename_i hi; cases h; rw [if_pos hi]; exact hk φ1 w1 a1 st1 hs1 he1 hm1 hd1
      · rename_i hi; cases h; rw [if_neg hi]; exact hk φ1 w1 a1 st1 hs1 he1 hm1 hd1
    · rename_i r hc
      refine ih e H st e' H' φ w a _ h hs he fun φ1 w1 a1 st1 hs1 he1 hm1 hd1 => ?_
      have := hk φ1 w1 a1 st1 hs1 he1 hm1 hd1
      cases st with
      | nx => exact this
      | ex i => exact absurd h (hc i e' H')
      | rt => exact this
  | loop c ih =>
    intro e H st e' H' φ w a Q h hs he hk
    simp only [evCode] at h
    have key : ∀ (m : Nat) (e : List Value) (H : AH) (φ : Phi) (w : World) (a : Act), loopA (evCode P reg n c) m e H = some (st, e', H') → Sim P φ H w → EnvR P φ H w e a.tmps → EndM P φ H w e' H' a.defers (noRF c) (Q st.exit) → Code.rounds P c Q m a w := by
      intro m
      induction m with
      | zero => intro e H φ w a h; simp [loopA] at h
      | succ m ihm =>
        intro e H φ w a h hs he hk
        simp only [loopA] at h
        rw [rounds_succ]
        split at h
        · rename_i e1 H1 hc
          refine ih e H .nx e1 H1 φ w a _ hc hs he fun φ1 w1 a1 st1 hs1 he1 hm1 hd1 => ?_
          exact ihm e1 H1 φ1 w1 a1 h hs1 he1 fun φ2 w2 a2 st2 hs2 he2 hm2 hd2 => hk φ2 w2 a2 (st1.trans hs st2) hs2 he2 (hm1.trans st2 hm2 st1.size) fun hn => (hd2 hn).trans (hd1 hn)
        · rename_i r hc
          refine ih e H st e' H' φ w a _ h hs he fun φ1 w1 a1 st1 hs1 he1 hm1 hd1 => ?_
          have := hk φ1 w1 a1 st1 hs1 he1 hm1 hd1
          cases st with
          | nx => exact absurd h (hc e' H')
          | ex id => exact this
          | rt => exact this
    exact wp_loop_rounds n (key n e H φ w a h hs he hk)
  | scope c ih =>
    intro e H st e' H' φ w a Q h hs he hk
    simp only [evCode] at h
    refine wp_scope_straight (ih e H st e' H' φ w a _ h hs he fun φ1 w1 a1 st1 hs1 he1 hm1 hd1 => ?_)
    have := hk φ1 w1 a1 st1 hs1 he1 hm1 hd1
    cases st with
    | nx => exact this
    | ex i => exact this
    | rt => exact this
  | exit id =>
    intro e H st e' H' φ w a Q h hs he hk
    simp only [evCode] at h; cases h
    exact wp_exit (hk φ w a (Step.refl hs) hs he .refl fun _ => rfl)
  | ret =>
    intro e H st e' H' φ w a Q h hs he hk
    simp only [evCode] at h; cases h
    exact wp_ret (hk φ w a (Step.refl hs) hs he .refl fun _ => rfl)
  | rangeFunc g ps asg body iha ihb =>
    intro e H st e' H' φ w a Q h hs he hk
    rw [evCode_range] at h
    obtain ⟨h9, rfl, rfl⟩ := map_st h
    obtain ⟨f, p0, p1, pb, a0, len, c, hg, hps, h1, h3, hbox, hle, hr⟩ := rangeA_some h9
    rw [Bool.and_eq_true] at h3
    exact range_sound hp hreg hg hps h1 h3.1 h3.2 hbox hle hr hs he hk
  | _ => intro e H st e' H' φ w a Q h; simp [evCode] at h

/-- Code without a range over a function: no marks. -/
theorem evCode_sound (hp : ProgOk P) {reg : Array Oper → Bool → List Value → AH → Option (List Value × AH)} (hreg : RegOk P reg) (n : Nat) (c : Code) (e : List Value) (H : AH) (st : St) (e' : List Value) (H' : AH) (φ : Phi) (w : World) (a : Act) (Q : Exit → Act → World → Prop) (hc : noRF c = true)
    (h : evCode P reg n c e H = some (st, e', H')) (hs : Sim P φ H w) (he : EnvR P φ H w e a.tmps) (hk : EndOk P φ H w e' H' a.defers (Q st.exit)) : c.wp P Q a w :=
  evCodeM_sound hp hreg n c e H st e' H' φ w a Q h hs he fun φ' w' a' s hs' he' _ hd => hk φ' w' a' s hs' he' (hd hc)

/-! ### The marks are taken up -/
def takes : List Nat → World → World
  | [], w => w
  | r :: ms, w => takes ms (w.putObj r (.deferred none))
theorem takes_ok {H1 : AH} {B : Nat} (hB : ∀ g, g ∈ fixedBlocks → g < B) : ∀ (ms : List Nat) (w1 : World), ms.Nodup → Sim P φ H1 w1 → (∀ r, r ∈ ms → B ≤ r ∧ w1.heap[r]? = some o1 ∧ NI φ r) →
    Sim P φ H1 (takes ms w1) ∧ CellsSame w1 (takes ms w1) ∧ SameOut w1 (takes ms w1) ∧ (takes ms w1).heap.size = w1.heap.size ∧ ∀ r, r < B → (takes ms w1).heap[r]? = w1.heap[r]?
  | [], w1, _, hs, _ => ⟨hs, fun _ _ _ _ h => h, SameOut.refl _, rfl, fun _ _ => rfl⟩
  | r :: ms, w1, hn, hs, h => by
    obtain ⟨hn1, hn2⟩ := List.nodup_cons.1 hn
    obtain ⟨h1, h2, h3⟩ := h r (by simp)
    have hf : r ∉ fixedBlocks := fun hh => by have := hB r hh; omega
    have ho := out_put (o' := .deferred none) hs h2 rfl h3 hf
    obtain ⟨k1, k2, k3, k4, k5⟩ := takes_ok hB ms (w1.putObj r (.deferred none)) hn2 (sim_out hs ho) (fun r' hr' => by
      obtain ⟨g1, g2, g3⟩ := h r' (by simp [hr'])
      exact ⟨g1, by rw [putObj_heap, if_neg (fun hh : r' = r ∧ r < w1.heap.size => hn1 (hh.1 ▸ hr'))]; exact g2, g3⟩)
    refine ⟨k1, fun q C e fr hq => k2 _ _ _ _ (ho.cells _ _ _ _ hq), SameOut.trans ⟨rfl, rfl, rfl⟩ k3, by rw [show takes (r :: ms) w1 = takes ms (w1.putObj r (.deferred none)) from rfl, k4]; simp, fun q hq => ?_⟩
    rw [show takes (r :: ms) w1 = takes ms (w1.putObj r (.deferred none)) from rfl, k5 q hq, putObj_heap, if_neg (by omega)]
theorem leaves_marks {n : Nat} {fn : Func} {tmps : Array Value} {R : Ending → World → Prop} : ∀ (ms : List Nat) (w1 : World), ms.Nodup → (∀ r, r ∈ ms → w1.heap[r]? = some o1) → (∃ v, (results fn tmps).run P (takes ms w1) = .ok v (takes ms w1) ∧ R (.returned v) (takes ms w1)) →
    LeavesInM Fence.wide n P fn tmps R (ms.map mkD) .returning w1
  | [], w1, _, _, h => h
  | r :: ms, w1, hn, hr, h => by
    obtain ⟨hn1, hn2⟩ := List.nodup_cons.1 hn
    refine ⟨(fun hh => by cases hh), .inl ⟨r, _, rfl, run_takeDeferred (hr r (by simp)), ?_⟩⟩
    exact leaves_marks ms _ hn2 (fun r' hr' => by rw [putObj_heap, if_neg (fun hh : r' = r ∧ r < w1.heap.size => hn1 (hh.1 ▸ hr'))]; exact hr r' (by simp [hr'])) h
theorem step_behind {w1 w2 : World} (s : Step P φ H w φ' H' w1) (ho : SameOut w1 w2) (hsz : w1.heap.size ≤ w2.heap.size) (hold : ∀ r, r < w.heap.size → w2.heap[r]? = w1.heap[r]?) (hc : CellsSame w1 w2) : Step P φ H w φ' H' w2 where
  h := s.h
  ext := s.ext
  old := s.old
  os := ho.1.trans s.os
  tape := ho.2.1.trans s.tape
  output := ho.2.2.trans s.output
  size := Nat.le_trans s.size hsz
  shape r C e fr hr := by
    obtain ⟨C', fr', h1, h2⟩ := s.shape r C e fr hr
    exact ⟨C', fr', hc _ _ _ _ h1, h2⟩
  frame r hr hi := (hold r hr).trans (s.frame r hr hi)
  new := s.new
  heads := s.heads
theorem calls_of_wpM {f : FuncId} {fn : Func} {c : Code} {args : Array Value} {R : Ending → World → Prop} (hf : P.funcs[f]? = some fn) (hb : fn.body = some c)
    (h : c.wp P (bodyPostM Fence.wide 1 P fn R) { tmps := args ++ Array.replicate (fn.ntmps - args.size) undef, defers := [] } w) : Calls P f args w R :=
  (callsIn_wide (n := 1)).1 (callsIn_of_wp_marks hf hb trivial (wpIn_wide.2 h))

end
end Go.Proofs.YtenolmhnmcjndaaGreatDoor.Ev

namespace Go.Proofs.YtenolmhnmcjndaaGreatDoor.Ev
set_option linter.unusedVariables false
set_option linter.unusedSimpArgs false
open Go
section
variable {P : Program} {φ : Phi} {H H' : AH} {w w' : World} {ops : Array Oper}

/-! ### Results and functions -/
theorem load_rel (hs : Sim P φ H w) {t : TypeId} {p q : Addr} {v : Value} (hp : AddrR φ H p q) (h : loadA P H t p = some v) : ∃ v', (loadVar t q).run P w = .ok v' w ∧ ValR P φ H w v v' := by
  unfold loadA at h
  split at h
  · rename_i C e fr d hsp hc hu
    obtain ⟨b, δ, C', fr', l⟩ := lies hs hp hc
    obtain ⟨i, hi⟩ := info_of_underlying hu
    have scalar : (isAgg t).run P w = .ok false w → C[p.off]? = some v → ∃ v', (loadVar t q).run P w = .ok v' w ∧ ValR P φ H w v v' := fun h2 hx => by
      obtain ⟨y, h3, h4⟩ := l.get hx
      refine ⟨y, ?_, part_of_cell h4⟩
      have := l.cell? 0
      rw [Nat.add_zero, ← addr_eta l.qspot] at this
      have hy : w.cell? q = some y := by rw [this]; exact h3
      simp only [loadVar, Sem.run_bind, h2, Result.andThen_ok, Bool.false_eq_true, if_false, run_load, hy]
    have aggregate : (isAgg t).run P w = .ok true w → (if p.off + szT P t ≤ C.size then some (Value.agg (C.extract p.off (p.off + szT P t))) else none) = some v → ∃ v', (loadVar t q).run P w = .ok v' w ∧ ValR P φ H w v v' := fun h2 hx => by
      split at hx
      · rename_i hle
        cases hx
        obtain ⟨D, h3, h4⟩ := l.load _ hle
        refine ⟨.agg D, ?_, .part (.agg h4)⟩
        simp only [loadVar, Sem.run_bind, h2, Result.andThen_ok, if_true, run_size hi, h3, Sem.run_pure]
      · cases hx
    cases d <;> first | exact aggregate (by simp [isAgg, run_underlying hu]) h | exact scalar (by simp [isAgg, run_underlying hu]) h
  · cases h

theorem res_rel (hs : Sim P φ H w) {e : List Value} {t : Array Value} (he : EnvR P φ H w e t) : ∀ (l : List ResultVar) (vs : List Value), l.mapM (resA P e H) = some vs →
    ∃ vs' : List Value, (l.mapM (fun r => match r with | .tmp d => pure (t.getD d undef) | .cell d ty => do loadVar ty (← asAddr (t.getD d undef)) : ResultVar → Sem Value)).run P w = .ok vs' w ∧ vs'.length = vs.length ∧ ∀ (i : Nat) (x y : Value), vs[i]? = some x → vs'[i]? = some y → ValR P φ H w x y
  | [], vs, h => by simp at h; subst h; exact ⟨[], by simp, rfl, fun i x y hx _ => by simp at hx⟩
  | r :: l, vs, h => by
    simp only [List.mapM_cons, Option.bind_eq_bind, Option.bind_eq_some_iff] at h
    obtain ⟨v, hv, vs2, h2, h3⟩ := h
    simp at h3; subst h3
    obtain ⟨vs', h4, h5, h6⟩ := res_rel hs he l vs2 h2
    have key : ∃ v', ((match r with | .tmp d => pure (t.getD d undef) | .cell d ty => do loadVar ty (← asAddr (t.getD d undef)) : Sem Value)).run P w = .ok v' w ∧ ValR P φ H w v v' := by
      unfold resA at hv
      split at hv
      · rename_i d; cases hv; exact ⟨_, rfl, he.get d⟩
      · rename_i d ty
        split at hv
        · rename_i p hpd
          obtain ⟨q, h7, h8⟩ := val_ptr (hpd ▸ he.get d)
          obtain ⟨v', h9, h10⟩ := load_rel hs h8 hv
          exact ⟨v', by simp only [Sem.run_bind, h7, asAddr, Sem.run_pure, Result.andThen_ok, h9], h10⟩
        · cases hv
    obtain ⟨v', h7, h8⟩ := key
    refine ⟨v' :: vs', ?_, by simp [h5], fun i x y hx hy => ?_⟩
    · simp only [List.mapM_cons, Sem.run_bind, h7, Result.andThen_ok, h4, Sem.run_pure]
    · cases i with
      | zero => simp at hx hy; subst hx; subst hy; exact h8
      | succ i => exact h6 i x y (by simpa using hx) (by simpa using hy)

theorem results_rel (hs : Sim P φ H w) {e : List Value} {t : Array Value} (he : EnvR P φ H w e t) {fn : Func} {v : Value} (h : resultsA P e H fn.results.toList = some v) : ∃ v', (results fn t).run P w = .ok v' w ∧ ValR P φ H w v v' := by
  have hres : results fn t = (do
    let vs ← fn.results.mapM (fun r => match r with | .tmp d => pure (t.getD d undef) | .cell d ty => do loadVar ty (← asAddr (t.getD d undef)) : ResultVar → Sem Value)
    pure (if h : vs.size = 1 then vs[0] else .tuple vs)) := rfl
  have hrun : ∀ vs' : List Value, (fn.results.toList.mapM (fun r => match r with | .tmp d => pure (t.getD d undef) | .cell d ty => do loadVar ty (← asAddr (t.getD d undef)) : ResultVar → Sem Value)).run P w = .ok vs' w →
      (results fn t).run P w = .ok (if h : vs'.toArray.size = 1 then vs'.toArray[0] else .tuple vs'.toArray) w := fun vs' hv => by
    rw [hres, Array.mapM_eq_mapM_toList, Sem.run_bind, Sem.run_map, hv]
    rfl
  unfold resultsA at h
  split at h
  · rename_i x hx
    cases h
    obtain ⟨vs', h4, h5, h6⟩ := res_rel hs he _ _ hx
    refine ⟨_, hrun _ h4, ?_⟩
    match vs', h5 with
    | [y], _ => simpa using h6 0 v y rfl rfl
  · rename_i vs hn hx
    cases hall : vs.all noTuple with
    | false => rw [hall] at h; cases h
    | true =>
    rw [hall] at h
    cases h
    obtain ⟨vs', h4, h5, h6⟩ := res_rel hs he _ _ hx
    have h7 : ¬ vs'.toArray.size = 1 := fun hc => by
      have : vs.length = 1 := by rw [← h5]; simpa using hc
      match vs, this with
      | [y], _ => exact hn y rfl
    refine ⟨_, hrun _ h4, ?_⟩
    rw [dif_neg h7]
    refine .tuple ⟨by simp [h5], fun i x y hx hy => ?_⟩
    have hx' : vs[i]? = some x := by simpa using hx
    have := h6 i x y hx' (by simpa using hy)
    cases this with
    | part h => exact h
    | tuple h => have := List.all_eq_true.1 hall _ (List.mem_of_getElem? hx'); cases this
  · cases h

end
end Go.Proofs.YtenolmhnmcjndaaGreatDoor.Ev
namespace Go.Proofs.YtenolmhnmcjndaaGreatDoor.Ev
set_option linter.unusedVariables false
set_option linter.unusedSimpArgs false
open Go Go.RowKit
section
variable {P : Program} {φ : Phi} {H H' : AH} {w w' : World}

theorem step_below (hs : Sim P φ H w) (hB : Below w.heap.size w w') : Step P φ H w φ H w' where
  h := HStep.refl hs.wf.shp
  ext := fun _ _ h => h
  old := fun _ _ h => h
  os := hB.os
  tape := hB.tape
  output := hB.output
  size := hB.size
  shape := fun r C e fr h => ⟨C, fr, by rw [hB.block r (Array.getElem?_eq_some_iff.1 h).1]; exact h, rfl⟩
  frame := fun r hr _ => hB.block r hr
  new := fun c r δ h h' => by rw [h] at h'; cases h'
  heads := fun _ _ _ _ => rfl

theorem sim_below (hs : Sim P φ H w) (hB : Below w.heap.size w w') : Sim P φ H w' where
  wf := hs.wf
  blk := hs.blk
  real := fun c r δ h => Nat.lt_of_lt_of_le (hs.real c r δ h) hB.size
  obj := fun c r δ b h hb hl => ObjR.mono (step_below hs hB) (hB.block r (hs.real c r δ h)) id (hs.obj c r δ b h hb hl)
  sep := hs.sep
  ends := hs.ends
  fix := ⟨Tabs_local (fun g hg => hB.block g (hs.fix.2 g hg).1) hs.fix.1, fun g hg => ⟨Nat.lt_of_lt_of_le (hs.fix.2 g hg).1 hB.size, (hs.fix.2 g hg).2⟩⟩

theorem good_below (hs : Sim P φ H w) (hB : Below w.heap.size w w') {v : Value} (hv : flatB v = true) : Good P φ H w H v v w' :=
  ⟨φ, step_below hs hB, sim_below hs hB, val_refl hv⟩

/-- A contract over values alone. -/
theorem prim_ok {f : FuncId} {g : List Value → AH → Option (Value × AH)} (hf : ∃ fn, P.funcs[f]? = some fn ∧ fn.body.isSome = true)
    (h : ∀ args H v H', g args H = some (v, H') → H' = H ∧ args.all flatB = true ∧ flatB v = true ∧ ∀ w, Tabs w → Calls P f args.toArray w fun e w' => e = .returned v ∧ Below w.heap.size w w') :
    CallOk P (fun f' args H => if f' = f then g args H else none) := by
  intro f' args H v H' hg
  simp only at hg
  split at hg
  · rename_i e
    subst e
    obtain ⟨rfl, ha, hv, hc⟩ := h args H v H' hg
    refine ⟨hf, fun φ w args' hs hn hrel => ?_⟩
    have : args' = args.toArray := by
      apply Array.ext'
      refine List.ext_getElem? fun i => ?_
      by_cases hi : i < args.length
      · have h1 : args[i]? = some args[i] := List.getElem?_eq_getElem hi
        have h2 : args'[i]? = some args'[i] := Array.getElem?_eq_getElem (by omega)
        rw [Array.getElem?_toList, h1, h2]
        exact congrArg some (val_eq (List.all_eq_true.1 ha _ (List.getElem_mem hi)) (hrel i _ _ h1 h2)).symm
      · have h1 : args'.toList[i]? = none := by rw [Array.getElem?_toList]; exact Array.getElem?_eq_none (by omega)
        have h2 : args.toArray.toList[i]? = none := by simp; omega
        rw [h1, h2]
    subst this
    exact (hc w hs.fix.1).mono fun e w' ⟨he, hB⟩ => ⟨v, he, good_below hs hB hv⟩
  · cases hg
end
end Go.Proofs.YtenolmhnmcjndaaGreatDoor.Ev
