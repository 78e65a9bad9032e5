/-
  Each operation but calls: what the evaluator says is what the model does.
-/
import Derived.Test.YtofigleaealbjaaGreatDoorEvMem
namespace Go.Proofs.YtofigleaealbjaaGreatDoor.Ev
open Go
section
variable {P : Program} {φ : Phi} {H H' : AH} {w w' : World} {o : Oper} {ρ ρ' : Operand → Value} {v : Value}

/-- What an operation leaves. -/
def Good (P : Program) (φ : Phi) (H : AH) (w : World) (H' : AH) (v : Value) (v' : Value) (w' : World) : Prop :=
  ∃ φ', Step P φ H w φ' H' w' ∧ Sim P φ' H' w' ∧ ValR P φ' H' w' v v'

def OpRun (P : Program) (o : Oper) (ρ' : Operand → Value) (φ : Phi) (H : AH) (w : World) (H' : AH) (v : Value) : Prop :=
  ∃ n w', (execOp ρ' o).run P w = .ok n w' ∧ ((∃ v', n = .value v' ∧ Good P φ H w H' v v' w') ∨ (n = .skip ∧ Good P φ H w H' v undef w'))

theorem OpRun.value (hs : Sim P φ H w) {v' : Value} (h : (execOp ρ' o).run P w = .ok (.value v') w) (hv : ValR P φ H w v v') : OpRun P o ρ' φ H w H v :=
  ⟨_, w, h, .inl ⟨v', rfl, φ, Step.refl hs, hs, hv⟩⟩

theorem s_flat (hs : Sim P φ H w) (hρ : ∀ x, ValR P φ H w (ρ x) (ρ' x)) (hsel : ∀ cs b, o.op ≠ .select cs b) (h : flatOp P o ρ = some v) : OpRun P o ρ' φ H w H v := by
  unfold flatOp at h
  split at h
  · rename_i hall
    have hcong : execOp ρ o = execOp ρ' o := execOp_congr o hsel fun x hx =>
      val_eq (List.all_eq_true.1 hall x (by simpa using hx)) (hρ x)
    split at h
    · rename_i v0 hp
      cases hv : flatB v0 with
      | false => rw [hv] at h; cases h
      | true =>
        rw [hv] at h; cases h
        exact OpRun.value hs (by rw [← hcong]; exact pureRun_run _ _ hp w) (val_refl hv)
    · rename_i hp
      cases h
      refine ⟨_, w, by rw [← hcong]; exact pureRun_run _ _ hp w, .inr ⟨rfl, φ, Step.refl hs, hs, val_undef⟩⟩
    · cases h
  · cases h

theorem info_of_underlying {t : TypeId} {d : TypeDesc} (h : P.underlying t = some d) : ∃ i, P.info? t = some i := by
  unfold Program.underlying at h
  split at h
  · rename_i hi; exact ⟨_, hi⟩
  · rename_i i _ hi; exact ⟨_, hi⟩
  · cases h

theorem run_size {t : TypeId} {i : TypeInfo} (h : P.info? t = some i) (w : World) : (sizeOf t).run P w = .ok (szT P t) w := by
  simp [sizeOf, typeInfo, h, szT]

theorem s_load (hs : Sim P φ H w) (hρ : ∀ x, ValR P φ H w (ρ x) (ρ' x)) {t : TypeId} {a : Operand} (ho : o.op = .load t a) {p : Addr} (ha : ρ a = .pointer (some p))
    (h : loadA P H t p = some v) : OpRun P o ρ' φ H w H v := by
  have hv := hρ a
  rw [ha] at hv
  obtain ⟨q, hq, hp⟩ := val_ptr hv
  unfold loadA at h
  split at h
  · rename_i C e fr d hsp hc hu
    obtain ⟨b, δ, C', fr', l⟩ := lies hs hp hc
    obtain ⟨i, hi⟩ := info_of_underlying hu
    have agg : (∀ D, (loadCells q (szT P t)).run P w = .ok D w → (isAgg t).run P w = .ok true w → (execOp ρ' o).run P w = .ok (.value (.agg D)) w) := fun D h1 h2 => by
      simp only [execOp, ho, hq, Instr.loadAt, Instr.sureAddr, loadVar, Sem.run_bind, Sem.run_pure, Result.andThen_ok, h2, if_true, run_size hi, h1]
    have one : (isAgg t).run P w = .ok false w → ∀ y, w.cell? q = some y → (execOp ρ' o).run P w = .ok (.value y) w := fun h2 y hy => by
      simp only [execOp, ho, hq, Instr.loadAt, Instr.sureAddr, loadVar, Sem.run_bind, Sem.run_pure, Result.andThen_ok, h2, Bool.false_eq_true, if_false, run_load, hy]
    have scalar : (isAgg t).run P w = .ok false w → C[p.off]? = some v → OpRun P o ρ' φ H w H v := fun h2 hx => by
      obtain ⟨y, h3, h4⟩ := l.get hx
      refine OpRun.value hs (one h2 y ?_) (part_of_cell h4)
      have := l.cell? 0
      rw [Nat.add_zero, ← addr_eta l.qspot] at this
      rw [this]; exact h3
    have aggregate : (isAgg t).run P w = .ok true w → (if p.off + szT P t ≤ C.size then some (Value.agg (C.extract p.off (p.off + szT P t))) else none) = some v → OpRun P o ρ' φ H w H v := fun h2 hx => by
      split at hx
      · rename_i hle
        cases hx
        obtain ⟨D, h3, h4⟩ := l.load _ hle
        exact OpRun.value hs (agg D h3 h2) (.part (.agg h4))
      · cases hx
    cases d <;> first | exact aggregate (by simp [isAgg, run_underlying hu]) h | exact scalar (by simp [isAgg, run_underlying hu]) h
  · cases h

theorem s_store (hs : Sim P φ H w) (hρ : ∀ x, ValR P φ H w (ρ x) (ρ' x)) {t : TypeId} {a x : Operand} (ho : o.op = .store t a x) {p : Addr} (ha : ρ a = .pointer (some p))
    (h : storeA P H t p (ρ x) = some H') : OpRun P o ρ' φ H w H' undef := by
  have hv := hρ a
  rw [ha] at hv
  obtain ⟨q, hq, hp⟩ := val_ptr hv
  unfold storeA at h
  split at h
  · rename_i b hsp hb
    split at h
    · rename_i C e lo hi hobj
      split at h
      · rename_i hc
        cases h
        simp only [Bool.and_eq_true, Bool.or_eq_true, decide_eq_true_eq, beq_iff_eq] at hc
        obtain ⟨⟨⟨⟨⟨h1, h2⟩, h3⟩, h4⟩, h5⟩, h6⟩ := hc
        have hcs : H.cells p.block = some (C, e, (lo, hi)) := by simp [AH.cells, hb, h1, hobj]
        obtain ⟨b2, δ, C', fr', l⟩ := lies hs hp hcs
        have hb2 := l.blk
        rw [hb] at hb2; obtain rfl := Option.some.inj hb2
        have hr := val_cells (hρ x) h5
        obtain ⟨w', g1, g2, g3⟩ := l.store hs h2 (vs := (ρ x).cells.toList) (vs' := (ρ' x).cells.toList) (by simpa using hr.1) (fun i u y hu hy => hr.2 i u y (by simpa using hu) (by simpa using hy))
          (by simpa using h4) (by simpa [or_assoc] using h6)
        obtain ⟨i, hi, hisz⟩ := Option.map_eq_some_iff.1 h3
        have h3' : szT P t = (ρ x).cells.size := by simp [szT, hi, hisz]
        refine ⟨_, w', ?_, .inr ⟨rfl, φ, g2, g3, val_undef⟩⟩
        simp only [execOp, ho, hq, Instr.storeAt, Instr.sureAddr, storeVar, Sem.run_bind, Sem.run_pure, Result.andThen_ok, run_size hi]
        rw [if_neg (by rw [← hr.1, h3']; simp)]
        simp only [Result.andThen_ok, g1]
      · cases h
    · cases h
  · cases h

/-! ### New blocks -/
theorem zero_info {t : TypeId} {z : Value} (h : zeroT P t = some z) : ∃ i, P.info? t = some i ∧ i.zero = some z ∧ flat2 z = true := by
  unfold zeroT at h
  split at h
  · rename_i z' hz
    cases hf : flat2 z' with
    | false => rw [hf] at h; cases h
    | true =>
      rw [hf] at h; cases h
      cases hi : P.info? t with
      | none => simp [hi] at hz
      | some i => exact ⟨i, rfl, by simpa [hi] using hz, hf⟩
  · cases h

theorem zero_cells {z : Value} (h : flat2 z = true) : ArrR (CellR P φ H w) z.cells z.cells := by
  unfold flat2 at h
  split at h
  · exact ArrR.refl h fun _ => cell_refl
  · rename_i hna
    have : z.cells = #[z] := by cases z <;> first | rfl | (rename_i cs; exact absurd rfl (hna cs))
    rw [this]
    exact ArrR.refl (f := flat1) (by simp [h]) fun _ => cell_refl

theorem run_zero {t : TypeId} {i : TypeInfo} {z : Value} (hi : P.info? t = some i) (hz : i.zero = some z) (w : World) : (zeroValue t).run P w = .ok z w := by
  simp [zeroValue, typeInfo, hi, hz]

/-- A new row of cells in both. -/
theorem new_row (hs : Sim P φ H w) {C C' : Array Value} {e : TypeId} {fr fr' : Nat × Nat} {ex : Bool} (hh : w'.heap = w.heap.push (.cells C' e fr')) (ho : SameOut w w')
    (hsz : C.size ≤ C'.size) (hr : ∀ (i : Nat) (x y : Value), C[i]? = some x → C'[i]? = some y → CellR P φ H w x y)
    (hf : ∀ i, i < C'.size → ¬ frz fr' i) (hex : ex = true → C'.size = C.size ∧ fr' = fr) :
    Step P φ H w (upd φ H.next (w.heap.size, 0)) (H.alloc (.cells C e fr) ex) w' ∧ Sim P (upd φ H.next (w.heap.size, 0)) (H.alloc (.cells C e fr) ex) w' := by
  have hst := step_alloc (o := .cells C e fr) (ex := ex) hs hh ho
  refine ⟨hst, sim_alloc hs hh ho ⟨rfl, rfl⟩ ?_⟩
  unfold ObjR
  refine ⟨C', fr', by rw [hh]; simp, by omega, fun i x y hx hy => ?_, fun i hi hfz => ?_, fun _ i _ hi => hf i hi, fun hx => ?_⟩
  · rw [Nat.zero_add] at hy; exact (hr i x y hx hy).mono hst
  · rw [Nat.zero_add] at hfz; exact absurd hfz (hf i (by omega))
  · exact ⟨rfl, hex hx⟩

/-- The address of a new block. -/
theorem new_addr {o : Obj} {ex : Bool} : AddrR (upd φ H.next (w.heap.size, 0)) (H.alloc o ex) ⟨H.next, 0, none⟩ ⟨w.heap.size, 0, none⟩ :=
  .inr ⟨rfl, rfl, 0, upd_same, rfl⟩

theorem new_slice {C C' : Array Value} {e : TypeId} {fr fr' : Nat × Nat} {ex : Bool} {n c c' : Nat} (hh : w'.heap = w.heap.push (.cells C' e fr')) (hn : n ≤ c) (hc : c * szT P e ≤ C.size)
    (hcc : c' = c ∨ (ex = false ∧ c * szT P e = C.size ∧ c ≤ c' ∧ c' * szT P e ≤ C'.size)) :
    ValR P (upd φ H.next (w.heap.size, 0)) (H.alloc (.cells C e fr) ex) w' (.slice (some ⟨H.next, 0, none⟩) n c) (.slice (some ⟨w.heap.size, 0, none⟩) n c') :=
  .part (.cell (.atom (.slice (.inr (.inr (.inl ⟨rfl, rfl, 0, C, e, fr, _, upd_same, rfl, blk_alloc_new, rfl, hn, by simpa using hc, by
    rcases hcc with h | ⟨h1, h2, h3, h4⟩
    · exact .inl h
    · exact .inr ⟨h1, by simpa using h2, h3, C', fr', by rw [hh]; simp, by simpa using h4⟩⟩))))))

theorem frz_none (i : Nat) : ¬ frz (0, 0) i := by unfold frz; simp

theorem s_alloc (hs : Sim P φ H w) {e : TypeId} (ho : o.op = .alloc e) {z : Value} (hz : zeroT P e = some z) :
    OpRun P o ρ' φ H w (H.alloc (.cells z.cells e) true) (.pointer (some ⟨H.next, 0, none⟩)) := by
  obtain ⟨i, hi, hiz, hf⟩ := zero_info hz
  obtain ⟨g1, g2⟩ := new_row (w' := { w with heap := w.heap.push (.cells z.cells e) }) (C := z.cells) (C' := z.cells) (e := e) (fr := (0, 0)) (ex := true) hs rfl ⟨rfl, rfl, rfl⟩ (Nat.le_refl _)
    (zero_cells hf).2 (fun i _ => frz_none i) (fun _ => ⟨rfl, rfl⟩)
  refine ⟨.value (.pointer (some ⟨w.heap.size, 0, none⟩)), { w with heap := w.heap.push (.cells z.cells e) }, ?_, .inl ⟨_, rfl, _, g1, g2, .part (.cell (.atom (.ptr new_addr)))⟩⟩
  simp [execOp, ho, Instr.alloc, zeroValue, typeInfo, hi, hiz, newVar, newRow]

theorem s_box (hs : Sim P φ H w) (hρ : ∀ x, ValR P φ H w (ρ x) (ρ' x)) {e : TypeId} {x : Operand} (ho : o.op = .box e x) (hc : (ρ x).cells.toList.all isCell = true) :
    OpRun P o ρ' φ H w (H.alloc (.cells (ρ x).cells e) true) (.pointer (some ⟨H.next, 0, none⟩)) := by
  have hr := val_cells (hρ x) hc
  obtain ⟨g1, g2⟩ := new_row (w' := { w with heap := w.heap.push (.cells (ρ' x).cells e) }) (C := (ρ x).cells) (C' := (ρ' x).cells) (e := e) (fr := (0, 0)) (ex := true) hs rfl ⟨rfl, rfl, rfl⟩ (by rw [hr.1]; exact Nat.le_refl _)
    hr.2 (fun i _ => frz_none i) (fun _ => ⟨hr.1.symm, rfl⟩)
  refine ⟨.value (.pointer (some ⟨w.heap.size, 0, none⟩)), { w with heap := w.heap.push (.cells (ρ' x).cells e) }, ?_, .inl ⟨_, rfl, _, g1, g2, .part (.cell (.atom (.ptr new_addr)))⟩⟩
  simp [execOp, ho, Instr.box, newVar, newRow]

theorem elem_some {t e : TypeId} (h : elemT P t = some e) : P.underlying t = some (.slice e) := by
  unfold elemT at h; split at h
  · rename_i h'; cases h; exact h'
  · cases h

theorem zeros_rel {z : Value} (hf : flat2 z = true) (n : Nat) (hz : z.cells.size ≠ 0) : ArrR (CellR P φ H w) ((Array.range n).map (z.cells[· % z.cells.size]!)) ((Array.range n).map (z.cells[· % z.cells.size]!)) :=
  ⟨rfl, fun i x y hx hy => by
    rw [hx] at hy; obtain rfl := Option.some.inj hy
    rw [Array.getElem?_map] at hx
    obtain ⟨k, _, rfl⟩ := Option.map_eq_some_iff.1 hx
    have hlt : k % z.cells.size < z.cells.size := Nat.mod_lt _ (by omega)
    show CellR P φ H w (z.cells[k % z.cells.size]!) (z.cells[k % z.cells.size]!)
    rw [getElem!_pos z.cells _ hlt]
    exact (zero_cells hf).2 _ _ _ (Array.getElem?_eq_getElem hlt) (Array.getElem?_eq_getElem hlt)⟩

theorem s_buildSlice (hs : Sim P φ H w) (hρ : ∀ x, ValR P φ H w (ρ x) (ρ' x)) {t : TypeId} {n : Nat} {parts : Array (Nat × Operand)} (ho : o.op = .buildSlice t n parts)
    (h : buildSliceA P H t n (parts.toList.map fun p => (p.1, ρ p.2)) = some (v, H')) : OpRun P o ρ' φ H w H' v := by
  unfold buildSliceA at h
  split at h
  · rename_i e he
    split at h
    · rename_i z hz
      obtain ⟨i, hi, hiz, hf⟩ := zero_info hz
      have hsz : szT P e = i.size := by simp [szT, hi]
      split at h
      · rename_i h0
        cases hp : (parts.toList.map fun p => (p.1, ρ p.2)).isEmpty with
        | false => rw [hp] at h; cases h
        | true =>
          rw [hp] at h; cases h
          have hpe : parts = #[] := by simpa using hp
          subst hpe
          have hrun : (execOp ρ' o).run P w = .ok (.value (.slice (some ⟨w.heap.size, 0, none⟩) n n)) { w with heap := w.heap.push (.cells #[] e) } := by
            simp only [execOp, ho, Instr.buildSlice, Sem.run_bind, run_underlying (elem_some he), Result.andThen_ok, run_size hi]
            rw [if_neg (by omega)]
            have hr0 : ∀ f : Nat → Value, (Array.range 0).map f = #[] := fun f => Array.eq_empty_of_size_eq_zero (by simp)
            simp only [h0, if_true, Sem.run_bind, Sem.run_pure, Result.andThen_ok, hr0, Array.map_empty, Instr.fill, newRow, run_newObj]
          obtain ⟨g1, g2⟩ := new_row (w' := { w with heap := w.heap.push (.cells #[] e) }) (C := #[]) (C' := #[]) (e := e) (fr := (0, 0)) (ex := true) hs rfl ⟨rfl, rfl, rfl⟩ (Nat.le_refl _)
            (fun i x y hx _ => by simp at hx) (fun i _ => frz_none i) (fun _ => ⟨rfl, rfl⟩)
          exact ⟨_, _, hrun, .inl ⟨_, rfl, _, g1, g2, new_slice (C' := #[]) (fr' := (0, 0)) rfl (Nat.le_refl _) (by rw [h0]; simp) (.inl rfl)⟩⟩
      · rename_i h0
        split at h
        · rename_i hc
          obtain ⟨hc1, hc2, hc3⟩ := hc
          split at h
          · rename_i cells hfill
            cases h
            obtain ⟨D', hD, hrel⟩ := fill_rel (R := CellR P φ H w) _ (fun p : Nat × Operand => (p.1, ρ p.2)) (fun p => (p.1, ρ' p.2)) (fun _ => rfl) parts.toList _ _ _ (fun p hp => val_cells (hρ p.2) (by
              have := List.all_eq_true.1 hc3 (p.1, ρ p.2) (List.mem_map.2 ⟨p, hp, rfl⟩); exact this)) (zeros_rel hf _ hc2) hfill
            have hsize := fill_size _ _ _ _ hfill
            have hpl : (parts.map fun x => (x.1, ρ' x.2)).toList = parts.toList.map (fun p => (p.1, ρ' p.2)) := by simp
            have hrun : (execOp ρ' o).run P w = .ok (.value (.slice (some ⟨w.heap.size, 0, none⟩) n n)) { w with heap := w.heap.push (.cells D' e) } := by
              simp only [execOp, ho, Instr.buildSlice, Sem.run_bind, run_underlying (elem_some he), Result.andThen_ok, run_size hi]
              rw [if_neg (by omega), if_neg h0]
              simp only [Sem.run_bind, Sem.run_pure, Result.andThen_ok, zeroValue, typeInfo, run_program, hi, hiz, hpl, hD, newRow, run_newObj]
            obtain ⟨g1, g2⟩ := new_row (w' := { w with heap := w.heap.push (.cells D' e) }) (C := cells) (C' := D') (e := e) (fr := (0, 0)) (ex := true) hs rfl ⟨rfl, rfl, rfl⟩ (by rw [hrel.1]; exact Nat.le_refl _)
              hrel.2 (fun i _ => frz_none i) (fun _ => ⟨hrel.1.symm, rfl⟩)
            refine ⟨_, _, hrun, .inl ⟨_, rfl, _, g1, g2, ?_⟩⟩
            exact new_slice (C' := D') (fr' := (0, 0)) rfl (Nat.le_refl _) (by rw [hsize]; simp) (.inl rfl)
          · cases h
        · cases h
    · cases h
  · cases h

theorem s_makeSlice (hs : Sim P φ H w) (hρ : ∀ x, ValR P φ H w (ρ x) (ρ' x)) {t : TypeId} {l c : Operand} (ho : o.op = .makeSlice t l c)
    (h : makeSliceA P H t (ρ l) (ρ c) = some (v, H')) : OpRun P o ρ' φ H w H' v := by
  unfold makeSliceA at h
  split at h
  · rename_i e k1 n1 k2 n2 he hl hcap
    split at h
    · rename_i z hz
      split at h
      · rename_i hc
        obtain ⟨c1, c2, c3, c4, c5, c6⟩ := hc
        cases h
        obtain ⟨i, hi, hiz, hf⟩ := zero_info hz
        have hl' : ρ' l = .int k1 n1 := val_int (hl ▸ hρ l)
        have hc' : ρ' c = .int k2 n2 := val_int (hcap ▸ hρ c)
        have hb : bytesT P e = i.bytes := by simp [bytesT, hi]
        rw [hb] at c4
        have w1 : IntKind.i64.wrap n1 = n1 := by simp [IntKind.wrap, IntKind.bits, IntKind.signed]; omega
        have w2 : IntKind.i64.wrap n2 = n2 := by simp [IntKind.wrap, IntKind.bits, IntKind.signed]; omega
        have hsz : szT P e = i.size := by simp [szT, hi]
        have hrun : (execOp ρ' o).run P w = .ok (.value (.slice (some ⟨w.heap.size, 0, none⟩) n1.toNat n2.toNat)) { w with heap := w.heap.push (.cells ((Array.range (n2.toNat * szT P e)).map (z.cells[· % z.cells.size]!)) e) } := by
          have t1 : ¬ ((i.bytes : Int) * n2 > 2 ^ 48) := by omega
          simp only [execOp, ho, Instr.makeSlice, hl', hc', asInt, asIntOf, Sem.run_bind, run_underlying (elem_some he), Result.andThen_ok, Sem.run_pure, typeInfo, run_program, hi, w1, w2]
          rw [if_neg (by simp; omega)]
          simp only [Sem.run_bind, Result.andThen_ok, run_askRoom, run_size hi]
          by_cases h0 : n2.toNat * szT P e = 0
          · have hr0 : ∀ f : Nat → Value, (Array.range 0).map f = #[] := fun f => Array.eq_empty_of_size_eq_zero (by simp)
            simp only [h0, if_true, Sem.run_bind, Sem.run_pure, Result.andThen_ok, hr0, newRow, run_newObj]
          · simp only [h0, if_false, Sem.run_bind, Sem.run_pure, Result.andThen_ok, run_zero hi hiz, newRow, run_newObj]
        obtain ⟨g1, g2⟩ := new_row (w' := { w with heap := w.heap.push (.cells ((Array.range (n2.toNat * szT P e)).map (z.cells[· % z.cells.size]!)) e) }) (C := (Array.range (n2.toNat * szT P e)).map (z.cells[· % z.cells.size]!)) (C' := (Array.range (n2.toNat * szT P e)).map (z.cells[· % z.cells.size]!)) (e := e) (fr := (0, 0)) (ex := true) hs rfl ⟨rfl, rfl, rfl⟩ (Nat.le_refl _)
          (zeros_rel hf _ c5).2 (fun i _ => frz_none i) (fun _ => ⟨rfl, rfl⟩)
        exact ⟨_, _, hrun, .inl ⟨_, rfl, _, g1, g2, new_slice (fr' := (0, 0)) rfl (by omega) (by simp) (.inl rfl)⟩⟩
      · cases h
    · cases h
  · cases h

end
end Go.Proofs.YtofigleaealbjaaGreatDoor.Ev
