/-
  Regions that draw their order, in general: what minds the heap stands in a chain; all else is done as soon as it can be; new blocks that nobody looks at may come later than they do here, looks may stand wherever nothing is written.
-/
import Derived.Test.YtaadahhjdkkkaaaGreatDoorEvLate
namespace Go.Proofs.YtaadahhjdkkkaaaGreatDoor.Ev
set_option linter.unusedVariables false
set_option linter.unusedSimpArgs false
open Go

/-! ### Blocks of the evaluator's that nobody holds yet -/
section
variable {P : Program} {φ φ' : Phi} {H H' : AH} {w w' : World}

theorem wk_alloc0 (hs : Sim P φ H w) {o : Obj} {ex : Bool} : Wk φ H w φ (H.alloc o ex) w where
  h := HStep.alloc hs.wf
  ext := fun c x h => h
  shape := fun r C e fr h => ⟨C, fr, h, rfl⟩
theorem step_alloc0 (hs : Sim P φ H w) {o : Obj} {ex : Bool} : Step P φ H w φ (H.alloc o ex) w where
  h := HStep.alloc hs.wf
  ext := fun c x h => h
  old := fun c hc h => h
  os := rfl
  tape := rfl
  output := rfl
  size := Nat.le_refl _
  shape := fun r C e fr h => ⟨C, fr, h, rfl⟩
  frame := fun k hk hall => rfl
  new := fun c k δ h h' => by rw [h] at h'; cases h'
  heads := fun c b hb hn => rfl
theorem sim_alloc0 (hs : Sim P φ H w) {o : Obj} {ex : Bool} (ho : shapeSame o o) : Sim P φ (H.alloc o ex) w := by
  have hblk : ∀ c x, φ c = some x → (H.alloc o ex).blk c = H.blk c := fun c x h => by rw [blk_alloc, if_neg (by have := hs.lt h; omega)]
  constructor
  case wf => exact hs.wf.alloc ho
  case blk => intro c k δ h; rw [hblk c _ h]; exact hs.blk c k δ h
  case real => exact hs.real
  case obj =>
    intro c k δ b h hb hl
    rw [hblk c _ h] at hb
    exact ObjR.mono (step_alloc0 hs) rfl id (hs.obj c k δ b h hb hl)
  case sep =>
    intro c d k δ ε b b' h1 h2 hb hb'
    rw [hblk c _ h1] at hb; rw [hblk d _ h2] at hb'; exact hs.sep c d k δ ε b b' h1 h2 hb hb'
  case ends =>
    intro c d k δ ε b b' C1 C' e1 e' f f' h1 h2 hb hb' hcd hC1 hC'
    rw [hblk c _ h1] at hb; rw [hblk d _ h2] at hb'; exact hs.ends c d k δ ε b b' C1 C' e1 e' f f' h1 h2 hb hb' hcd hC1 hC'
  case fix =>
    refine ⟨hs.fix.1, fun g hg => ⟨(hs.fix.2 g hg).1, fun c δ b h hb => ?_⟩⟩
    rw [hblk c _ h] at hb
    exact (hs.fix.2 g hg).2 c δ b h hb

/-- A real block that nobody held becomes one of the evaluator's that had none. -/
theorem wk_bindAt (hs : Sim P φ H w) {c r : Nat} (hc : φ c = none) : Wk φ H w (upd φ c (r, 0)) H w where
  h := HStep.refl hs.wf.shp
  ext := fun d x h => by rw [upd_ne (fun e => by rw [e, hc] at h; cases h)]; exact h
  shape := fun r C e fr h => ⟨C, fr, h, rfl⟩
theorem step_bindAt {φ0 : Phi} {H0 : AH} {w0 : World} (hs0 : Sim P φ0 H0 w0) (s : Step P φ0 H0 w0 φ H w) {c r : Nat} (hc : H0.next ≤ c) (hr : w0.heap.size ≤ r) : Step P φ0 H0 w0 (upd φ c (r, 0)) H w where
  h := s.h
  ext := fun d x h => by
    have h1 := hs0.lt h
    rw [upd_ne (by omega)]; exact s.ext d x h
  old := fun d hd h => by rw [upd_ne (by omega)]; exact s.old d hd h
  os := s.os
  tape := s.tape
  output := s.output
  size := s.size
  shape := s.shape
  frame := s.frame
  new := fun d k δ h h' hk => by
    unfold upd at h'
    split at h'
    · obtain h' := Option.some.inj h'; simp only [Prod.mk.injEq] at h'; omega
    · exact s.new d k δ h h' hk
  heads := s.heads
theorem sim_bindAt (hs : Sim P φ H w) {C C' : Array Value} {te : TypeId} {c r ver : Nat} (hc : φ c = none) (hb0 : H.blk c = some ⟨.cells C te (0, 0), c, true, ver⟩) (hr : w.heap[r]? = some (.cells C' te (0, 0))) (hno : ∀ d δ, φ d ≠ some (r, δ)) (hfx : r ∉ fixedBlocks)
    (hC : ArrR (CellR P φ H w) C C') : Sim P (upd φ c (r, 0)) H w := by
  have hst := wk_bindAt hs hc (r := r)
  have hcase : ∀ d k δ, upd φ c (r, 0) d = some (k, δ) → (d = c ∧ k = r ∧ δ = 0) ∨ (d ≠ c ∧ φ d = some (k, δ) ∧ k ≠ r) := fun d k δ h => by
    unfold upd at h; split at h
    · rename_i e; obtain h := Option.some.inj h; simp only [Prod.mk.injEq] at h; exact .inl ⟨e, h.1.symm, h.2.symm⟩
    · rename_i e; exact .inr ⟨e, h, fun e2 => hno d δ (e2 ▸ h)⟩
  constructor
  case wf => exact hs.wf
  case blk =>
    intro d k δ h
    rcases hcase d k δ h with ⟨rfl, _, _⟩ | ⟨_, h, _⟩
    · exact ⟨_, hb0⟩
    · exact hs.blk d k δ h
  case real =>
    intro d k δ h
    rcases hcase d k δ h with ⟨_, rfl, _⟩ | ⟨_, h, _⟩
    · exact (Array.getElem?_eq_some_iff.1 hr).1
    · exact hs.real d k δ h
  case fix =>
    refine ⟨hs.fix.1, fun g hg => ⟨(hs.fix.2 g hg).1, fun d δ b h hb => ?_⟩⟩
    rcases hcase d g δ h with ⟨_, h2, _⟩ | ⟨hd, h2, _⟩
    · exact absurd (h2 ▸ hg) hfx
    · have hro := (hs.fix.2 g hg).2 d δ b h2 hb
      refine ⟨hro.1, ?_⟩
      rw [upd_ne]
      · exact hro.2
      · intro e
        -- the head of a group of copies is no block of its own
        obtain ⟨b', hb', hbr⟩ := hs.wf.headBlk d b hb
        rw [e, hb0] at hb'
        cases hb'
        have hex := hs.wf.exact c _ hb0 rfl
        exact hd (hex.2.2 d b hb hbr.symm)
  case obj =>
    intro d k δ b h hb hl
    rcases hcase d k δ h with ⟨rfl, rfl, rfl⟩ | ⟨hd, h, hk⟩
    · rw [hb0] at hb; obtain rfl := Option.some.inj hb
      unfold ObjR
      refine ⟨C', (0, 0), hr, by rw [hC.1]; omega, fun i x y hx hy => ?_, fun i hi hfz => absurd hfz (frz_none _), fun _ i _ hi => frz_none i, fun hx => ⟨rfl, hC.1.symm, rfl⟩⟩
      rw [Nat.zero_add] at hy; exact (hC.2 i x y hx hy).wk hst
    · have ho := hs.obj d k δ b h hb hl
      unfold ObjR at ho ⊢
      split
      · rename_i C1 e1 fr1 hob
        simp only [hob] at ho
        obtain ⟨C', fr', h1, h2, h3, h4, h5, h6⟩ := ho
        exact ⟨C', fr', h1, h2, fun i x y hx hy => (h3 i x y hx hy).wk hst, h4, h5, h6⟩
      · rename_i es1 ck1 hob
        simp only [hob] at ho
        obtain ⟨h1, h2, es', h3, h4, h5⟩ := ho
        exact ⟨h1, h2, es', h3, h4, fun i x y hx hy => by obtain ⟨k1, k2, k3⟩ := h5 i x y hx hy; exact ⟨k1, k2, k3.wk hst⟩⟩
      · rename_i hno2 hno3
        split at ho
        · rename_i C1 e1 fr1 hob; exact absurd hob (hno2 C1 e1 fr1)
        · rename_i es1 ck1 hob; exact absurd hob (hno3 es1 ck1)
        · exact ho
  case sep =>
    intro d d' k δ ε b b' h1 h2 hb hb'
    rcases hcase d k δ h1 with ⟨rfl, rfl, rfl⟩ | ⟨hd, h1, hk⟩ <;> rcases hcase d' _ ε h2 with ⟨rfl, h3, rfl⟩ | ⟨hd', h2, hk2⟩
    · rw [hb] at hb'; obtain rfl := Option.some.inj hb'; rfl
    · exact absurd rfl hk2
    · exact absurd h3 hk
    · exact hs.sep d d' k δ ε b b' h1 h2 hb hb'
  case ends =>
    intro d d' k δ ε b b' C1 C2 e1 e2 f f' h1 h2 hb hb' hcd hC1 hC2
    rcases hcase d k δ h1 with ⟨rfl, rfl, rfl⟩ | ⟨hd, h1, hk⟩ <;> rcases hcase d' _ ε h2 with ⟨rfl, h3, rfl⟩ | ⟨hd', h2, hk2⟩
    · rw [hb] at hb'; obtain rfl := Option.some.inj hb'; rw [hC1] at hC2; cases hC2; exact Nat.le_refl _
    · exact absurd rfl hk2
    · exact absurd h3 hk
    · exact hs.ends d d' k δ ε b b' C1 C2 e1 e2 f f' h1 h2 hb hb' hcd hC1 hC2

/-! ### What makes a block -/
/-- What is known of an operation that makes a new block, and looks at nothing. -/
structure Float (P : Program) (call : CallA) (o : Oper) (ρ : Operand → Value) (C : Array Value) (te : TypeId) (mk : Nat → Value) : Prop where
  ev : ∀ H : AH, evOp P call o ρ H = some (mk H.next, H.alloc (.cells C te) true)
  run : ∀ (φ : Phi) (H : AH) (w : World) (ρ' : Operand → Value), Sim P φ H w → (∀ x, ValR P φ H w (ρ x) (ρ' x)) → ∃ C', (execOp ρ' o).run P w = .ok (.value (mk w.heap.size)) { w with heap := w.heap.push (.cells C' te) } ∧ ArrR (CellR P φ H w) C C'
  val : ∀ (φ : Phi) (H : AH) (w : World) (c r ver : Nat), φ c = some (r, 0) → H.blk c = some ⟨.cells C te (0, 0), c, true, ver⟩ → ValR P φ H w (mk c) (mk r)
theorem float_facts {call : CallA} {o : Oper} {ρ : Operand → Value} {H : AH} {v : Value} {H' : AH} (hf : floatB o.op = true) (h : evOp P call o ρ H = some (v, H')) :
    ∃ C te mk, Float P call o ρ C te mk ∧ v = mk H.next ∧ H' = H.alloc (.cells C te) true := by
  unfold floatB at hf
  cases ho : o.op <;> rw [ho] at hf <;> try (cases hf; done)
  case alloc e =>
    unfold evOp at h
    simp only [ho] at h
    split at h
    case h_2 => cases h
    rename_i z hz
    cases h
    obtain ⟨i, hi, hiz, hfl⟩ := zero_info hz
    refine ⟨z.cells, e, fun c => .pointer (some ⟨c, 0, none⟩), ⟨fun H => by unfold evOp; simp only [ho, hz], fun φ H w ρ' hs hρ => ⟨z.cells, ?_, zero_cells hfl⟩, fun φ H w c r ver hc hb => .part (.cell (.atom (.ptr (.inr ⟨rfl, rfl, 0, hc, rfl⟩))))⟩, rfl, rfl⟩
    simp [execOp, ho, Instr.alloc, zeroValue, typeInfo, hi, hiz, newVar, newRow]
  case box e x =>
    unfold evOp at h
    simp only [ho] at h
    cases hc : (ρ x).cells.toList.all isCell with
    | false => rw [hc] at h; cases h
    | true =>
      rw [hc] at h
      cases h
      refine ⟨(ρ x).cells, e, fun c => .pointer (some ⟨c, 0, none⟩), ⟨fun H => by unfold evOp; simp only [ho, hc, cond_true], fun φ H w ρ' hs hρ => ⟨(ρ' x).cells, ?_, val_cells (hρ x) hc⟩, fun φ H w c r ver hc hb => .part (.cell (.atom (.ptr (.inr ⟨rfl, rfl, 0, hc, rfl⟩))))⟩, rfl, rfl⟩
      simp [execOp, ho, Instr.box, newVar, newRow]
  case buildSlice t n parts =>
    unfold evOp at h
    simp only [ho] at h
    have hev : ∀ H2 : AH, evOp P call o ρ H2 = buildSliceA P H2 t n (parts.toList.map fun p => (p.1, ρ p.2)) := fun H2 => by unfold evOp; simp only [ho]
    unfold buildSliceA at h hev
    split at h
    case h_2 => cases h
    rename_i e he
    simp only [he] at hev
    split at h
    case h_2 => cases h
    rename_i z hz
    simp only [hz] at hev
    obtain ⟨i, hi, hiz, hf2⟩ := zero_info hz
    have hsz : szT P e = i.size := by simp [szT, hi]
    have valS : ∀ (C : Array Value), n * szT P e ≤ C.size → ∀ (φ : Phi) (H : AH) (w : World) (c r ver : Nat), φ c = some (r, 0) → H.blk c = some ⟨.cells C e (0, 0), c, true, ver⟩ → ValR P φ H w (.slice (some ⟨c, 0, none⟩) n n) (.slice (some ⟨r, 0, none⟩) n n) := fun C hC φ H w c r ver hc hb =>
      .part (.cell (.atom (.slice (.inr (.inr (.inl ⟨rfl, rfl, 0, C, e, (0, 0), _, hc, rfl, hb, rfl, Nat.le_refl _, by simpa using hC, .inl rfl⟩))))))
    split at h
    · rename_i h0
      simp only [if_pos h0] at hev
      cases hp : (parts.toList.map fun p => (p.1, ρ p.2)).isEmpty with
      | false => rw [hp] at h; cases h
      | true =>
        rw [hp] at h; cases h
        simp only [hp, cond_true] at hev
        have hpe : parts = #[] := by simpa using hp
        subst hpe
        refine ⟨#[], e, fun c => .slice (some ⟨c, 0, none⟩) n n, ⟨hev, fun φ H w ρ' hs hρ => ⟨#[], ?_, rfl, fun i x y hx _ => by simp at hx⟩, valS _ (by rw [h0]; simp)⟩, rfl, rfl⟩
        simp only [execOp, ho, Instr.buildSlice, Sem.run_bind, run_underlying (elem_some he), Result.andThen_ok, run_size hi]
        rw [if_neg (by omega)]
        have hr0 : ∀ f : Nat → Value, (Array.range 0).map f = #[] := fun f => Array.eq_empty_of_size_eq_zero (by simp)
        simp only [h0, if_true, Sem.run_bind, Sem.run_pure, Result.andThen_ok, hr0, Array.map_empty, Instr.fill, newRow, run_newObj]
    · rename_i h0
      simp only [if_neg h0] at hev
      split at h
      case isFalse => cases h
      rename_i hc
      simp only [if_pos hc] at hev
      obtain ⟨hc1, hc2, hc3⟩ := hc
      split at h
      case h_2 => cases h
      rename_i cells hfill
      simp only [hfill] at hev
      cases h
      have hsize := fill_size _ _ _ _ hfill
      refine ⟨cells, e, fun c => .slice (some ⟨c, 0, none⟩) n n, ⟨hev, fun φ H w ρ' hs hρ => ?_, valS _ (by rw [hsize]; simp)⟩, rfl, rfl⟩
      obtain ⟨D', hD, hrel⟩ := fill_rel (R := CellR P φ H w) _ (fun p : Nat × Operand => (p.1, ρ p.2)) (fun p => (p.1, ρ' p.2)) (fun _ => rfl) parts.toList _ _ _ (fun p hp => val_cells (hρ p.2) (by
        have := List.all_eq_true.1 hc3 (p.1, ρ p.2) (List.mem_map.2 ⟨p, hp, rfl⟩); exact this)) (zeros_rel hf2 _ hc2) hfill
      have hpl : (parts.map fun x => (x.1, ρ' x.2)).toList = parts.toList.map (fun p => (p.1, ρ' p.2)) := by simp
      refine ⟨D', ?_, hrel⟩
      simp only [execOp, ho, Instr.buildSlice, Sem.run_bind, run_underlying (elem_some he), Result.andThen_ok, run_size hi]
      rw [if_neg (by omega), if_neg h0]
      simp only [Sem.run_bind, Sem.run_pure, Result.andThen_ok, zeroValue, typeInfo, run_program, hi, hiz, hpl, hD, newRow, run_newObj]
end
end Go.Proofs.YtaadahhjdkkkaaaGreatDoor.Ev
namespace Go.Proofs.YtaadahhjdkkkaaaGreatDoor.Ev
set_option linter.unusedVariables false
set_option linter.unusedSimpArgs false
open Go
section
variable {P : Program} {call : CallA} {ops : Array Oper} {W : Nat → Value} {e0 : List Value} {H : AH}

/-! ### Looks -/
theorem cells_still {H1 H2 : AH} {c : Nat} {b : Blk} (g1 : H1.blk c = some b) (g2 : H1.live c b = true) (g3 : H2.blk c = some b) (g4 : H2.live c b = true) : H2.cells c = H1.cells c := by
  unfold AH.cells; rw [g1, g3]; simp only [g2, g4]
def cvF (d : Option TypeDesc) (r : Option (List Value)) : Option Value := match d, r with
  | some (.int .u8), some l => (bytesOfCells l).map fun b => .string ⟨b.toArray⟩
  | some (.int .i32), some l => (runesOfCells l .empty).map .string
  | _, _ => none
theorem lookX_same {x : Operand} {o : Oper} {ρ : Operand → Value} {H1 H2 : AH} {v : Value} {H' : AH} (ho : lookX P o.op = some x) (h : evOp P call o ρ H1 = some (v, H'))
    (hs : ∀ c, (match ρ x with | .pointer (some a) => a.block = c | .slice (some a) _ _ => a.block = c | .map (some r) => r = c | _ => False) → ∃ b, H1.blk c = some b ∧ H1.live c b = true ∧ H2.blk c = some b ∧ H2.live c b = true) : evOp P call o ρ H2 = some (v, H2) ∧ H' = H1 := by
  cases hop : o.op <;> rw [hop] at ho <;> simp only [lookX] at ho <;> try (cases ho; done)
  case load t a =>
    cases ho
    exact load_same hop h fun a ha => hs a.block (by rw [ha])
  case lookup t m k ok =>
    cases ho
    exact look_same hop h fun a ha => hs a (by rw [ha])
  case slice t y lo hi mx =>
    split at ho
    case h_2 => cases ho
    rename_i e hu
    cases ho
    unfold evOp at h ⊢
    simp only [hop, hu] at h ⊢
    have hsl : sliceA P H2 t (ρ x) (lo.map ρ) (hi.map ρ) (mx.map ρ) = sliceA P H1 t (ρ x) (lo.map ρ) (hi.map ρ) (mx.map ρ) := by
      unfold sliceA
      split
      · rename_i _ _ _ _ _ a _ _ _ _ _ _ hx _ _ _
        cases a with
        | none => rfl
        | some a =>
          obtain ⟨b, g1, g2, g3, g4⟩ := hs a.block (by rw [hx])
          simp only [cells_still g1 g2 g3 g4]
      · rfl
    rw [hsl]
    cases hv : sliceA P H1 t (ρ x) (lo.map ρ) (hi.map ρ) (mx.map ρ) with
    | none => rw [hv] at h; cases h
    | some y =>
      rw [hv] at h
      simp only [Option.map_some, Option.some.injEq, Prod.mk.injEq] at h
      obtain ⟨rfl, rfl⟩ := h
      exact ⟨rfl, rfl⟩
  case convert src dst y =>
    split at ho
    case h_2 => cases ho
    rename_i e hsrc hdst
    cases ho
    unfold evOp at h ⊢
    simp only [hop] at h ⊢
    have hrow : ∀ p n, (∀ a, p = some a → ∃ b, H1.blk a.block = some b ∧ H1.live a.block b = true ∧ H2.blk a.block = some b ∧ H2.live a.block b = true) → rowA H2 p n = rowA H1 p n := fun p n hp => by
      unfold rowA
      cases p with
      | none => rfl
      | some a =>
        obtain ⟨b, g1, g2, g3, g4⟩ := hp a rfl
        simp only [cells_still g1 g2 g3 g4]
    have form : ∀ (H : AH) p n c, convertA P H src dst (.slice p n c) = (cvF (P.underlying e) (rowA H p n)).map (·, H) := fun H p n c => by
      unfold convertA cvF
      simp only [hsrc, hdst]
      cases P.underlying e with
      | none => rfl
      | some d =>
        cases rowA H p n with
        | none => cases d <;> first | rfl | (rename_i k; cases k <;> rfl)
        | some l =>
          cases d with
          | int k => cases k <;> simp only <;> first | rfl | (cases bytesOfCells l <;> rfl) | (cases runesOfCells l .empty <;> rfl)
          | _ => rfl
    have none2 : ∀ (H : AH) (y : Value), (∀ p n c, y ≠ .slice p n c) → convertA P H src dst y = none := fun H y hy => by
      unfold convertA
      simp only [hsrc, hdst]
      cases y with
      | slice p n c => exact absurd rfl (hy p n c)
      | _ => rfl
    have hcv : convertA P H2 src dst (ρ x) = (convertA P H1 src dst (ρ x)).map (fun r => (r.1, H2)) ∧ ∀ r, convertA P H1 src dst (ρ x) = some r → r.2 = H1 := by
      cases hx : ρ x with
      | slice p n c =>
        rw [form, form, hrow p n fun a ha => hs a.block (by rw [hx, ha])]
        cases cvF (P.underlying e) (rowA H1 p n) with
        | none => exact ⟨rfl, fun r hr => by cases hr⟩
        | some v => exact ⟨rfl, fun r hr => by cases hr; rfl⟩
      | _ =>
        rw [none2 _ _ (fun p n c h => by cases h), none2 _ _ (fun p n c h => by cases h)]
        exact ⟨rfl, fun r hr => by cases hr⟩
    obtain ⟨hcv, hcs⟩ := hcv
    rw [hcv]
    cases hv : convertA P H1 src dst (ρ x) with
    | none =>
      rw [hv] at h
      simp only [Option.map_none] at h ⊢
      cases hfl : flatOp P o ρ with
      | none => rw [hfl] at h; cases h
      | some y =>
        rw [hfl] at h
        simp only [Option.map_some, Option.some.injEq, Prod.mk.injEq] at h
        obtain ⟨rfl, rfl⟩ := h
        exact ⟨rfl, rfl⟩
    | some r =>
      rw [hv] at h
      have := hcs r hv
      cases h
      exact ⟨rfl, this⟩
theorem stillP_spec {H1 H2 : AH} {v : Value} {c : Nat} (hc : match v with | .pointer (some a) => a.block = c | .slice (some a) _ _ => a.block = c | .map (some r) => r = c | _ => False) (h : stillP H1 H2 v = true) : stillN H1 H2 c = true := by
  cases v with
  | pointer a =>
    cases a with
    | none => exact hc.elim
    | some a => have hc : a.block = c := hc; subst hc; exact h
  | slice a n k =>
    cases a with
    | none => exact hc.elim
    | some a => have hc : a.block = c := hc; subst hc; exact h
  | map r =>
    cases r with
    | none => exact hc.elim
    | some r => have hc : r = c := hc; subst hc; exact h
  | _ => exact hc.elim
theorem stillN_spec {H1 H2 : AH} {c : Nat} (h : stillN H1 H2 c = true) : ∃ b b', H1.blk c = some b ∧ H2.blk c = some b' ∧ b'.ver = b.ver ∧ H2.live c b' = true := by
  unfold stillN at h
  split at h
  · rename_i b b' h1 h2
    rw [Bool.and_eq_true] at h
    exact ⟨b, b', h1, h2, Nat.eq_of_beq_eq_true h.1, h.2⟩
  · cases h
theorem hiP_spec (ord : List Nat) (i : Nat) : hiP P ops ord i ≤ ops.size ∧ ∀ q, q ≤ ops.size → (∀ y, y < ops.size → mindP P ops y = true → befB ops y i = true → q ≤ posO ord y) → q ≤ hiP P ops ord i := by
  unfold hiP
  have go : ∀ (l : List Nat) (m0 : Nat) (p : Nat → Prop), p m0 → (∀ k m, k ∈ l → mindP P ops k = true → befB ops k i = true → p m → p (min (posO ord k) m)) → p (l.foldr (fun k m => bif mindP P ops k && befB ops k i then min (posO ord k) m else m) m0) := by
    intro l
    induction l with
    | nil => intro m0 p h _; exact h
    | cons k l ih =>
      intro m0 p h hl
      rw [List.foldr_cons]
      have h1 := ih m0 p h fun k' m hk => hl k' m (List.mem_cons_of_mem _ hk)
      cases hc : mindP P ops k && befB ops k i with
      | true => rw [Bool.and_eq_true] at hc; exact hl k _ List.mem_cons_self hc.1 hc.2 h1
      | false => exact h1
  refine ⟨go _ _ (fun m => m ≤ ops.size) (Nat.le_refl _) fun k m _ _ _ hm => Nat.le_trans (Nat.min_le_right _ _) hm, fun q hq hall => go _ _ (fun m => q ≤ m) hq fun k m hk h1 h2 hm => ?_⟩
  rw [List.mem_range] at hk
  have := hall k hk h1 h2
  omega
end
end Go.Proofs.YtaadahhjdkkkaaaGreatDoor.Ev
namespace Go.Proofs.YtaadahhjdkkkaaaGreatDoor.Ev
set_option linter.unusedVariables false
set_option linter.unusedSimpArgs false
open Go
/-! ### The region -/
section
variable {P : Program} {call : CallA} {ops : Array Oper} {W : Nat → Value} {e0 : List Value} {H : AH}

/-- What is known of an order. -/
structure OrdOk (P : Program) (ops : Array Oper) (ord : List Nat) : Prop where
  temps : tempsG ops = true
  back : backB ops = true
  sel : ∀ o, o ∈ ops → ∀ cs b, o.op ≠ .select cs b
  len : ord.length = ops.size
  at_ : ∀ i, i < ops.size → posO ord i < ops.size ∧ ord[posO ord i]? = some i
  of : ∀ p i, ord[p]? = some i → i < ops.size ∧ posO ord i = p
  lin : ∀ i k, i < ops.size → k < ops.size → befB ops i k = true → posO ord k < posO ord i
  chain : ∀ i j, i < j → j < ops.size → mindP P ops i = true → mindP P ops j = true → befB ops j i = true
  early : ∀ x j, x < ops.size → j < ops.size → mindP P ops x = true → posO ord x < posO ord j → befB ops j x = true
  dist : ∀ i k d, i < ops.size → k < ops.size → k ≠ i → dstOf ops i = some d → dstOf ops k ≠ some d
theorem permOk_spec {ord : List Nat} (h : permOk P ops ord = true) : OrdOk P ops ord := by
  unfold permOk at h
  simp only [Bool.and_eq_true] at h
  obtain ⟨⟨⟨⟨⟨⟨⟨⟨⟨h1, h2⟩, h3⟩, h4⟩, h5⟩, h6⟩, h7⟩, h8⟩, h9⟩, h10⟩ := h
  have rng : ∀ {p : Nat → Bool}, (List.range ops.size).all p = true → ∀ i, i < ops.size → p i = true := fun hp i hi => List.all_eq_true.1 hp i (List.mem_range.2 hi)
  refine ⟨h1, h2, fun o ho cs b e => ?_, Nat.eq_of_beq_eq_true h4, fun i hi => ?_, fun p i hp => ?_, fun i k hi hk hb => ?_, fun i j hij hj hmi hmj => ?_, fun x j hx hj hm hp => ?_, fun i k d hi hk hne hd hd2 => ?_⟩
  · have := List.all_eq_true.1 h3 o (by simpa using ho)
    rw [e] at this
    simp [selB] at this
  · have := rng h5 i hi
    rw [Bool.and_eq_true] at this
    refine ⟨by simpa using this.1, ?_⟩
    have h2 := this.2
    split at h2
    · rename_i k hk; rw [hk, Nat.eq_of_beq_eq_true h2]
    · cases h2
  · have hpl : p < ops.size := by
      have := (List.getElem?_eq_some_iff.1 hp).1
      rw [Nat.eq_of_beq_eq_true h4] at this; exact this
    have := rng h6 p hpl
    rw [hp] at this
    simp only [Bool.and_eq_true] at this
    exact ⟨by simpa using this.1, Nat.eq_of_beq_eq_true this.2⟩
  · have := rng (rng h7 i hi) k hk
    rw [hb] at this
    simpa using this
  · have h := rng h8 j hj
    rw [hmj] at h
    have h := List.all_eq_true.1 h i (List.mem_range.2 hij)
    rw [hmi] at h
    exact h
  · have h := rng h9 x hx
    rw [hm] at h
    have h := rng h j hj
    rw [show Nat.blt (posO ord x) (posO ord j) = true by simpa using hp] at h
    exact h
  · have h := rng h10 i hi
    rw [hd] at h
    have h := rng h k hk
    rw [hd2] at h
    have hb : Nat.beq k i = false := Bool.eq_false_iff.2 fun e => hne (Nat.eq_of_beq_eq_true e)
    rw [hb] at h
    simp at h

/-- What was put where, whatever the order. -/
theorem envOf_put (hdist : ∀ i k d, i < ops.size → k < ops.size → k ≠ i → dstOf ops i = some d → dstOf ops k ≠ some d) {S : Nat → Bool} {i : Nat} (hi : i < ops.size) (hS : S i = false) :
    envOf ops W (fun k => S k || Nat.beq k i) e0 ops.size = putE (envOf ops W S e0 ops.size) (dstOf ops i) (W i) :=
  envOf_add i hS ops.size hi fun k hik hkn _ => by
    cases hd : dstOf ops i with
    | none => exact .inl rfl
    | some d => exact .inr fun e => hdist i k d hi hkn (by omega) hd e.symm

theorem perm_any (hp : ProgOk P) (hcall : CallOk P call) {ord : List Nat} (ho : OrdOk P ops ord) {E : Nat → List Value} {K : Nat → AH}
    (hstep : ∀ i o, ops[i]? = some o → Stp P call ops o (E (posO ord i)) (K (posO ord i)) (W i) (K (posO ord i + 1)))
    (hE : ∀ p, p ≤ ops.size → E p = envOf ops W (fun k => Nat.blt (posO ord k) p) e0 ops.size)
    (hK : ∀ p q, p ≤ q → q ≤ ops.size → WfH (K p) ∧ HStep (K p) (K q))
    (hlook : ∀ i o, ops[i]? = some o → mindP P ops i = false → floatB o.op = false → K (posO ord i + 1) = K (posO ord i) ∧ (guardA ops o (E (posO ord i)) = some true → ∀ q, posO ord i ≤ q → q ≤ hiP P ops ord i → evOp P call o (rho (E (posO ord i))) (K q) = some (W i, K q)))
    (hflt : ∀ i o, ops[i]? = some o → floatB o.op = true → guardA ops o (E (posO ord i)) = some true → posO ord i + 1 ≤ hiP P ops ord i → ∀ b, (K (posO ord i + 1)).blk (K (posO ord i)).next = some b → ∀ q, posO ord i + 1 ≤ q → q ≤ hiP P ops ord i → (K q).blk (K (posO ord i)).next = some b)
    {φ0 : Phi} {H0 : AH} {w0 : World} {df : List Deferred} {Q : Exit → Act → World → Prop} (hs0 : Sim P φ0 H0 w0) (hH0 : H0.next ≤ (K 0).next)
    (hk : ∀ φ w a, Step P φ0 H0 w0 φ (K ops.size) w → Sim P φ (K ops.size) w → EnvR P φ (K ops.size) w (envOf ops W (fun _ => true) e0 ops.size) a.tmps → a.defers = df → Q .normal a w) :
    ∀ (fuel : Nat) (listed : Array Bool) (a : Act) (w : World) (φ : Phi) (q : Nat), listed.size = ops.size → ((List.range ops.size).filter fun k => !listed.getD k false).length ≤ fuel →
      (∀ j o, ops[j]? = some o → listed.getD j false = true → ∀ e, e ∈ o.after.toList → Region.binds .any e = true → listed.getD e.on false = true) →
      q ≤ ops.size → (∀ i, i < ops.size → mindP P ops i = true → (listed.getD i false = true ↔ posO ord i < q)) → (q = ops.size ∨ ∃ i, i < ops.size ∧ mindP P ops i = true ∧ posO ord i = q) →
      (∀ j o, ops[j]? = some o → floatB o.op = true → guardA ops o (E (posO ord j)) = some true → listed.getD j false = false → φ (K (posO ord j)).next = none) →
      Step P φ0 H0 w0 φ (K q) w → Sim P φ (K q) w → EnvR P φ (K q) w (envOf ops W (fun k => listed.getD k false) e0 ops.size) a.tmps → a.defers = df → wpAny P .any ops Q fuel listed a w := by
  -- the heaps only grow
  have hmono : ∀ p q, p ≤ q → q ≤ ops.size → (K p).next ≤ (K q).next := fun p q h1 h2 => (hK p q h1 h2).2.next
  -- between two of the chain nothing but new blocks comes to the heap
  have lift : ∀ (d p : Nat) (φ : Phi) (w : World), p + d ≤ ops.size → (∀ i, i < ops.size → mindP P ops i = true → ¬ (p ≤ posO ord i ∧ posO ord i < p + d)) → Sim P φ (K p) w → Sim P φ (K (p + d)) w ∧ Step P φ (K p) w φ (K (p + d)) w := by
    intro d
    induction d with
    | zero => intro p φ w _ _ hs; exact ⟨hs, Step.refl hs⟩
    | succ d ih =>
      intro p φ w hle hno hs
      obtain ⟨hs1, st1⟩ := ih p φ w (by omega) (fun i hi hm => fun h => hno i hi hm (by omega)) hs
      have hpl : p + d < ops.size := by omega
      obtain ⟨i, hi⟩ : ∃ i, ord[p + d]? = some i := ⟨_, List.getElem?_eq_getElem (by rw [ho.len]; exact hpl)⟩
      obtain ⟨hil, hpos⟩ := ho.of _ _ hi
      have hoi : ops[i]? = some ops[i] := Array.getElem?_eq_getElem hil
      have hnm : mindP P ops i = false := by
        cases hm : mindP P ops i with
        | false => rfl
        | true => exact absurd ⟨by omega, by omega⟩ (hno i hil hm)
      have hst := hstep i _ hoi
      rw [hpos] at hst
      rw [← Nat.add_assoc]
      by_cases hfl : floatB ops[i].op = true
      · rcases hst with ⟨_, hop⟩ | ⟨_, _, hks⟩
        · obtain ⟨C, te, mk, hf, hv, hH'⟩ := float_facts hfl hop
          rw [hH']
          exact ⟨sim_alloc0 hs1 ⟨rfl, rfl⟩, st1.trans hs (step_alloc0 hs1)⟩
        · rw [hks]; exact ⟨hs1, st1⟩
      · have := (hlook i _ hoi hnm (Bool.eq_false_iff.2 hfl)).1
        rw [hpos] at this
        rw [this]; exact ⟨hs1, st1⟩
  have fin : ∀ (listed : Array Bool) (a : Act) (w : World) (φ : Phi) (q : Nat), listed.size = ops.size → Region.ready .any ops listed = [] → q ≤ ops.size → (∀ i, i < ops.size → mindP P ops i = true → (listed.getD i false = true ↔ posO ord i < q)) → (q = ops.size ∨ ∃ i, i < ops.size ∧ mindP P ops i = true ∧ posO ord i = q) →
      Step P φ0 H0 w0 φ (K q) w → Sim P φ (K q) w → EnvR P φ (K q) w (envOf ops W (fun k => listed.getD k false) e0 ops.size) a.tmps → a.defers = df → Q .normal a w := by
    intro listed a w φ q hl hr hq hinv hqe st hs he hd
    have hall := ready_nil ho.back hl hr
    have hqs : q = ops.size := by
      rcases hqe with h | ⟨i, hi, hm, hpq⟩
      · exact h
      · have := (hinv i hi hm).1 (hall i hi); omega
    subst hqs
    refine hk φ w a st hs ?_ hd
    have : envOf ops W (fun k => listed.getD k false) e0 ops.size = envOf ops W (fun _ => true) e0 ops.size := by
      have go : ∀ n, n ≤ ops.size → envOf ops W (fun k => listed.getD k false) e0 n = envOf ops W (fun _ => true) e0 n := by
        intro n hn
        induction n with
        | zero => rfl
        | succ n ih => simp only [envOf, hall n (by omega), if_true]; rw [ih (by omega)]
      exact go _ (Nat.le_refl _)
    rwa [this] at he
  intro fuel
  induction fuel with
  | zero =>
    intro listed a w φ q hl hc hS hq hinv hqe hfn st hs he hd
    have hr : Region.ready .any ops listed = [] := by
      cases hr : Region.ready .any ops listed with
      | nil => rfl
      | cons i r =>
        have hm := ready_spec (show i ∈ Region.ready .any ops listed by rw [hr]; simp)
        have : i ∈ (List.range ops.size).filter fun k => !listed.getD k false := by
          rw [List.mem_filter, List.mem_range]
          refine ⟨hm.1, ?_⟩
          have h0 := hm.2.1
          rw [Array.getD_eq_getD_getElem?, Array.getElem?_eq_getElem (by omega)] at h0 ⊢
          simpa using h0
        have hnil := List.length_eq_zero_iff.1 (Nat.le_zero.1 hc)
        rw [hnil] at this
        cases this
    exact ⟨hr, fin listed a w φ q hl hr hq hinv hqe st hs he hd⟩
  | succ fuel ih =>
    intro listed a w φ q hl hc hS hq hinv hqe hfn st hs he hd
    refine ⟨fun hr => fin listed a w φ q hl hr hq hinv hqe st hs he hd, fun i hi => ?_⟩
    obtain ⟨hil, hno, o, hoi, hpre⟩ := ready_spec hi
    have hno' : listed.getD i false = false := by
      rw [Array.getD_eq_getD_getElem?, Array.getElem?_eq_getElem (by omega)] at hno ⊢
      exact hno
    have hmem : o ∈ ops := Array.mem_of_getElem? hoi
    have hcl := closed_set hl hil hS hoi hpre
    have hfun : (fun k => (listed.setIfInBounds i true).getD k false) = fun k => listed.getD k false || Nat.beq k i := by
      funext k
      rw [Array.getD_eq_getD_getElem?, Array.getElem?_setIfInBounds]
      by_cases hik : i = k
      · subst hik
        rw [if_pos rfl, if_pos (by omega), Nat.beq_refl]
        simp
      · have hb : Nat.beq k i = false := Bool.eq_false_iff.2 fun h => hik (Nat.eq_of_beq_eq_true h).symm
        rw [if_neg hik, hb, Bool.or_false, ← Array.getD_eq_getD_getElem?]
    have hat : ∀ k, (listed.setIfInBounds i true).getD k false = (listed.getD k false || Nat.beq k i) := fun k => congrFun hfun k
    have hii : (listed.setIfInBounds i true).getD i false = true := by rw [hat, Nat.beq_refl]; simp
    -- what stands ahead is done
    have hpre2 : ∀ k, befB ops i k = true → k < i → listed.getD k false = true := fun k hb hki => by
      have h2 := before_closed (fun k => (listed.setIfInBounds i true).getD k false) hcl i k hb hii
      have h4 := hat k
      rw [h4] at h2
      have hb2 : Nat.beq k i = false := Bool.eq_false_iff.2 fun h => by have := Nat.eq_of_beq_eq_true h; omega
      simpa [hb2] using h2
    have hpre3 : ∀ k, k < ops.size → befB ops i k = true → listed.getD k false = true := fun k hkl hb => by
      have h2 := before_closed (fun k => (listed.setIfInBounds i true).getD k false) hcl i k hb hii
      have h4 := hat k
      rw [h4] at h2
      have hne : k ≠ i := fun e => by have := ho.lin i k hil hkl hb; rw [e] at this; omega
      have hb2 : Nat.beq k i = false := Bool.eq_false_iff.2 fun h => hne (Nat.eq_of_beq_eq_true h)
      simpa [hb2] using h2
    -- the operation finds its operands
    have hag : ∀ t, t ∈ gnamesOf ops o → (envOf ops W (fun k => listed.getD k false) e0 ops.size)[t]? = (E (posO ord i))[t]? := fun t ht => by
      rw [hE _ (Nat.le_of_lt (ho.at_ i hil).1)]
      refine envOf_at t _ fun k hk2 hdk => ?_
      by_cases hki : k = i
      · subst hki
        rw [hno']
        exact (Bool.eq_false_iff.2 (by simp)).symm
      · have hb := tempsG_spec ho.temps hoi hdk ht hki
        by_cases hlt : k < i
        · rw [Nat.max_eq_right (by omega), Nat.min_eq_left (by omega)] at hb
          rw [hpre2 k hb hlt]
          have := ho.lin i k hil hk2 hb
          simp [this]
        · rw [Nat.max_eq_left (by omega), Nat.min_eq_right (by omega)] at hb
          have h1 : listed.getD k false = false := by
            cases hs2 : listed.getD k false with
            | false => rfl
            | true => have := before_closed (fun k => listed.getD k false) hS k i hb hs2; rw [hno'] at this; cases this
          have h2 := ho.lin k i hk2 hil hb
          rw [h1]
          exact (Bool.eq_false_iff.2 (by simp; omega)).symm
    have hgd : guardA ops o (envOf ops W (fun k => listed.getD k false) e0 ops.size) = guardA ops o (E (posO ord i)) := by
      unfold guardA
      cases hg : o.guard with
      | none => rfl
      | some p =>
        obtain ⟨j, want⟩ := p
        simp only
        cases hd2 : (ops[j]?).bind (·.dst) with
        | none => rfl
        | some t =>
          have := hag t (List.mem_append_right _ (by rw [hg]; show t ∈ (dstOf ops j).toList; unfold dstOf; rw [hd2]; simp))
          simp only [Option.bind_some, this]
    have hev : ∀ H2, evOp P call o (rho (envOf ops W (fun k => listed.getD k false) e0 ops.size)) H2 = evOp P call o (rho (E (posO ord i))) H2 := fun H2 =>
      evOp_names (ho.sel o hmem) fun t ht => hag t (List.mem_append_left _ ht)
    have hadd : envOf ops W (fun k => (listed.setIfInBounds i true).getD k false) e0 ops.size = putE (envOf ops W (fun k => listed.getD k false) e0 ops.size) o.dst (W i) := by
      have hd2 : dstOf ops i = o.dst := by unfold dstOf; rw [hoi]; rfl
      rw [hfun, ← hd2]
      exact envOf_put ho.dist hil hno'
    have hlt : ((List.range ops.size).filter fun k => !(listed.setIfInBounds i true).getD k false).length < ((List.range ops.size).filter fun k => !listed.getD k false).length := by
      refine filter_lt _ _ (fun x hx => ?_) _ i (List.mem_range.2 hil) (by simp [hno']) (by simp [hii])
      have h4 := hat x
      rw [h4] at hx
      simp at hx
      simp [hx.1]
    have fnm : ∀ j o', ops[j]? = some o' → floatB o'.op = true → mindP P ops j = false := fun j o' hj hf => by
      unfold mindP
      rw [hj]
      simp only [hf, Bool.not_true, Bool.and_false]
    -- floats not done have no image
    have hfn' : ∀ (φ' : Phi) (w' : World) (q1 : Nat), (q1 = q ∨ (q1 = q + 1 ∧ ∃ y, y < ops.size ∧ mindP P ops y = true ∧ posO ord y = q)) → q1 ≤ ops.size → (∀ c, c < (K q).next → φ c = none → (∀ j o', ops[j]? = some o' → floatB o'.op = true → guardA ops o' (E (posO ord j)) = some true → listed.getD j false = false → j ≠ i → c = (K (posO ord j)).next → φ' c = none)) → Sim P φ' (K q1) w' →
        ∀ j o', ops[j]? = some o' → floatB o'.op = true → guardA ops o' (E (posO ord j)) = some true → (listed.setIfInBounds i true).getD j false = false → φ' (K (posO ord j)).next = none := fun φ' w' q1 hq1 hq1s hold hs' j o' hj hf hgj hlj => by
      have h4 := hat j
      rw [hlj] at h4
      have hlj2 : listed.getD j false = false := by cases h5 : listed.getD j false with | false => rfl | true => rw [h5] at h4; cases h4
      have hjl : j < ops.size := (Array.getElem?_eq_some_iff.1 hj).1
      have hji : j ≠ i := fun e => by rw [e, Nat.beq_refl] at h4; simp at h4
      by_cases h7 : (K (posO ord j)).next < (K q).next
      · exact hold _ h7 (hfn j o' hj hf hgj hlj2) j o' hj hf hgj hlj2 hji rfl
      · cases hφ : φ' (K (posO ord j)).next with
        | none => rfl
        | some x =>
          exfalso
          have h8 := hs'.lt hφ
          have hpq : posO ord j < q1 := Nat.lt_of_not_le fun h9 => by
            have := hmono q1 (posO ord j) h9 (Nat.le_of_lt (ho.at_ j hjl).1)
            omega
          have hpq2 : posO ord j < q := by
            rcases hq1 with h | ⟨h, y, hy1, hy2, hy3⟩
            · omega
            · rcases Nat.lt_or_ge (posO ord j) q with h9 | h9
              · exact h9
              · exfalso
                have h10 : posO ord j = posO ord y := by omega
                have a1 := (ho.at_ j hjl).2
                have a2 := (ho.at_ y hy1).2
                rw [h10, a2] at a1
                obtain rfl := Option.some.inj a1
                rw [fnm _ o' hj hf] at hy2; cases hy2
          rcases (hstep j o' hj) with ⟨_, hop⟩ | ⟨hgf, _, _⟩
          · obtain ⟨C, te, mk, hf2, hv, hH'⟩ := float_facts hf hop
            have h6 := hmono (posO ord j + 1) q (by omega) hq
            rw [hH'] at h6
            have : ((K (posO ord j)).alloc (.cells C te) true).next = (K (posO ord j)).next + 1 := next_alloc
            omega
          · rw [hgj] at hgf; cases hgf
    have inj : ∀ x y, x < ops.size → y < ops.size → posO ord x = posO ord y → x = y := fun x y hx hy h => by
      have a1 := (ho.at_ x hx).2
      have a2 := (ho.at_ y hy).2
      rw [h, a2] at a1
      exact (Option.some.inj a1).symm
    have hil2 := (ho.at_ i hil).1
    -- no chain operation that waits is at a place ahead
    have hwait : ∀ y, y < ops.size → mindP P ops y = true → posO ord y = q → befB ops i y = true → False := fun y hy hm hpy hb => by
      have h1 := hpre3 y hy hb
      have := (hinv y hy hm).1 h1
      omega
    unfold wpOp
    rw [hoi]
    simp only
    by_cases hm : mindP P ops i = true
    · -- one of the chain
      have hpq : posO ord i = q := by
        have h1 : ¬ posO ord i < q := fun h => by have := (hinv i hil hm).2 h; rw [hno'] at this; cases this
        rcases hqe with h | ⟨y, hy, hmy, hpy⟩
        · omega
        · by_cases hyi : y = i
          · rw [← hyi]; exact hpy
          · exfalso
            rcases Nat.lt_or_ge i y with h2 | h2
            · have := ho.lin y i hy hil (ho.chain i y h2 hy hm hmy)
              omega
            · exact hwait y hy hmy hpy (ho.chain y i (by omega) hil hmy hm)
      -- the next of the chain
      have nxt : ∀ d p, p + d = ops.size → ∃ q', p ≤ q' ∧ q' ≤ ops.size ∧ (∀ y, y < ops.size → mindP P ops y = true → ¬ (p ≤ posO ord y ∧ posO ord y < q')) ∧ (q' = ops.size ∨ ∃ y, y < ops.size ∧ mindP P ops y = true ∧ posO ord y = q') := fun d => by
        induction d with
        | zero => intro p hp2; exact ⟨p, Nat.le_refl _, by omega, fun y _ _ h => by omega, .inl (by omega)⟩
        | succ d ihd =>
          intro p hp2
          by_cases hex : ∃ y, y < ops.size ∧ mindP P ops y = true ∧ posO ord y = p
          · exact ⟨p, Nat.le_refl _, by omega, fun y _ _ h => by omega, .inr hex⟩
          · obtain ⟨q', h1, h2, h3, h4⟩ := ihd (p + 1) (by omega)
            exact ⟨q', by omega, h2, fun y hy hmy h => by
              by_cases h5 : posO ord y = p
              · exact hex ⟨y, hy, hmy, h5⟩
              · exact h3 y hy hmy (by omega), h4⟩
      obtain ⟨q', hq1, hq2, hq3, hq4⟩ := nxt (ops.size - (q + 1)) (q + 1) (by omega)
      have hinv' : ∀ y, y < ops.size → mindP P ops y = true → ((listed.setIfInBounds i true).getD y false = true ↔ posO ord y < q') := fun y hy hmy => by
        rw [hat y]
        by_cases hyi : y = i
        · subst hyi
          rw [Nat.beq_refl]
          simp
          omega
        · have hb : Nat.beq y i = false := Bool.eq_false_iff.2 fun h => hyi (Nat.eq_of_beq_eq_true h)
          rw [hb, Bool.or_false, hinv y hy hmy]
          have hne : posO ord y ≠ q := fun h => hyi (inj y i hy hil (by omega))
          constructor
          · intro h; omega
          · intro h
            rcases Nat.lt_or_ge (posO ord y) q with h1 | h1
            · exact h1
            · exact absurd ⟨by omega, h⟩ (hq3 y hy hmy)
      have hst := hstep i o hoi
      rw [hpq] at hst
      rw [hpq] at hgd hev
      have cont : ∀ (φ' : Phi) (w' : World) (v' : Value), Step P φ (K q) w φ' (K (q + 1)) w' → Sim P φ' (K (q + 1)) w' → ValR P φ' (K (q + 1)) w' (W i) v' → wpAny P .any ops Q fuel (listed.setIfInBounds i true) (a.put o.dst v') w' := fun φ' w' v' st' hs' hv' => by
        obtain ⟨hs2, st2⟩ := lift (q' - (q + 1)) (q + 1) φ' w' (by omega) (fun y hy hmy h => hq3 y hy hmy (by omega)) hs'
        rw [show q + 1 + (q' - (q + 1)) = q' by omega] at hs2 st2
        refine ih _ _ _ φ' q' (by simpa using hl) (by omega) hcl hq2 hinv' hq4 ?_ ((st.trans hs0 st').trans hs0 st2) hs2 ?_ (by rw [put_defers', hd])
        · exact hfn' φ' w' (q + 1) (.inr ⟨rfl, i, hil, hm, hpq⟩) (by omega) (fun c hc2 hcn _ _ _ _ _ _ _ _ => st'.old c hc2 hcn) hs'
        · rw [hadd]
          exact (((he.mono st').put o.dst hv').mono st2)
      rcases hst with ⟨hgt, hop⟩ | ⟨hgf, hwu, hks⟩
      · have hw := guard_wanted he (hgd.trans hgt)
        rw [if_pos hw]
        refine .inl (evOp_sound hp hcall hs (fun x => he.rho x) ((hev _).trans hop) _ Q fun v' w' ⟨φ', st', hs', hv'⟩ => cont φ' w' v' st' hs' hv')
      · have hw := guard_wanted he (hgd.trans hgf)
        rw [if_neg (by rw [hw]; simp)]
        refine cont φ w undef (by rw [hks]; exact Step.refl hs) (by rw [hks]; exact hs) (by rw [hwu]; exact val_undef)
    · -- one that does not mind the heap
      have hm : mindP P ops i = false := Bool.eq_false_iff.2 hm
      have hpq : posO ord i < q := by
        refine Nat.lt_of_not_le fun hle => ?_
        rcases hqe with h | ⟨y, hy, hmy, hpy⟩
        · omega
        · have hne : posO ord y ≠ posO ord i := fun h => by rw [inj y i hy hil h, hm] at hmy; cases hmy
          exact hwait y hy hmy hpy (ho.early y i hy hil hmy (by omega))
      have hhi : q ≤ hiP P ops ord i := (hiP_spec ord i).2 q hq fun y hy hmy hb => by
        refine Nat.le_of_not_lt fun hlt2 => ?_
        have h1 := (hinv y hy hmy).2 hlt2
        have := before_closed (fun k => listed.getD k false) hS y i hb h1
        rw [hno'] at this; cases this
      have hinv' : ∀ y, y < ops.size → mindP P ops y = true → ((listed.setIfInBounds i true).getD y false = true ↔ posO ord y < q) := fun y hy hmy => by
        rw [hat y]
        have hyi : y ≠ i := fun e => by rw [e, hm] at hmy; cases hmy
        have hb : Nat.beq y i = false := Bool.eq_false_iff.2 fun h => hyi (Nat.eq_of_beq_eq_true h)
        rw [hb, Bool.or_false]
        exact hinv y hy hmy
      have hst := hstep i o hoi
      rcases hst with ⟨hgt, hop⟩ | ⟨hgf, hwu, hks⟩
      · have hw := guard_wanted he (hgd.trans hgt)
        rw [if_pos hw]
        by_cases hfl : floatB o.op = true
        · -- a new block
          obtain ⟨C, te, mk, hf, hv, hH'⟩ := float_facts hfl ((hev _).trans hop)
          obtain ⟨C', hrun, hCC⟩ := hf.run φ (K q) w a.eval hs (fun x => he.rho x)
          refine .inl ?_
          unfold Oper.wp
          rw [hrun]
          have hB : RowKit.Below w.heap.size w { w with heap := w.heap.push (.cells C' te) } := ⟨rfl, rfl, rfl, by simp, fun k hk => by
            show (w.heap.push _)[k]? = _
            rw [Array.getElem?_push, if_neg (by omega)]⟩
          have hs1 := sim_below hs hB
          have st1 := step_below hs hB
          have hblk : (K (posO ord i + 1)).blk (K (posO ord i)).next = some ⟨.cells C te (0, 0), (K (posO ord i)).next, true, (K (posO ord i)).clock⟩ := by rw [hH']; exact blk_alloc_new
          have hblq := hflt i o hoi hfl hgt (by omega) _ hblk q (by omega) hhi
          have hcn := hfn i o hoi hfl hgt hno'
          have hrn : ∀ d δ, φ d ≠ some (w.heap.size, δ) := fun d δ h => by have := hs.real d _ δ h; omega
          have hfx : w.heap.size ∉ fixedBlocks := fun h => by have := (hs.fix.2 _ h).1; omega
          have hs2 := sim_bindAt (r := w.heap.size) hs1 hcn hblq (by show (w.heap.push _)[w.heap.size]? = _; simp) hrn hfx ⟨hCC.1, fun k x y hx hy => (hCC.2 k x y hx hy).mono st1⟩
          have hc0 : H0.next ≤ (K (posO ord i)).next := Nat.le_trans hH0 (hmono 0 _ (Nat.zero_le _) (Nat.le_of_lt hil2))
          have st2 := step_bindAt hs0 (st.trans hs0 st1) hc0 (r := w.heap.size) st.size
          refine ih _ _ _ (upd φ (K (posO ord i)).next (w.heap.size, 0)) q (by simpa using hl) (by omega) hcl hq hinv' hqe ?_ st2 hs2 ?_ (by rw [put_defers', hd])
          · refine hfn' _ _ q (.inl rfl) hq (fun c hc2 hcn2 j o' hj hfj hgj hlj hji hcj => ?_) hs2
            rw [upd_ne]
            · exact hcn2
            · -- blocks of two floats are two
              intro e
              rw [hcj] at e
              have hjl : j < ops.size := (Array.getElem?_eq_some_iff.1 hj).1
              rcases Nat.lt_trichotomy (posO ord j) (posO ord i) with h1 | h1 | h1
              · have h2 := hmono (posO ord j + 1) (posO ord i) (by omega) (by omega)
                rcases hstep j o' hj with ⟨_, hop2⟩ | ⟨hgf2, _, _⟩
                · obtain ⟨C2, te2, mk2, _, _, hH2⟩ := float_facts hfj hop2
                  rw [hH2] at h2
                  have : ((K (posO ord j)).alloc (.cells C2 te2) true).next = (K (posO ord j)).next + 1 := next_alloc
                  omega
                · rw [hgj] at hgf2; cases hgf2
              · exact hji (inj j i hjl hil h1)
              · have h2 := hmono (posO ord i + 1) (posO ord j) (by omega) (Nat.le_of_lt (ho.at_ j hjl).1)
                rw [hH'] at h2
                have : ((K (posO ord i)).alloc (.cells C te) true).next = (K (posO ord i)).next + 1 := next_alloc
                omega
          · rw [hadd]
            refine EnvR.put ?_ o.dst ?_
            · have hwk := wk_bindAt hs1 hcn (r := w.heap.size)
              have hm1 := he.mono st1
              exact ⟨hm1.1, fun t x y hx hy => (hm1.2 t x y hx hy).wk hwk⟩
            · rw [hv]
              exact hf.val _ _ _ _ _ _ upd_same hblq
        · -- a look, or nothing of the heap
          have hfl : floatB o.op = false := Bool.eq_false_iff.2 hfl
          have hlk := (hlook i o hoi hm hfl).2 hgt q (Nat.le_of_lt hpq) hhi
          refine .inl (evOp_sound hp hcall hs (fun x => he.rho x) ((hev _).trans hlk) _ Q fun v' w' ⟨φ', st', hs', hv'⟩ => ?_)
          refine ih _ _ _ φ' q (by simpa using hl) (by omega) hcl hq hinv' hqe ?_ (st.trans hs0 st') hs' ?_ (by rw [put_defers', hd])
          · exact hfn' φ' w' q (.inl rfl) hq (fun c hc2 hcn _ _ _ _ _ _ _ _ => st'.old c hc2 hcn) hs'
          · rw [hadd]
            exact (he.mono st').put o.dst hv'
      · have hw := guard_wanted he (hgd.trans hgf)
        rw [if_neg (by rw [hw]; simp)]
        refine ih _ _ _ φ q (by simpa using hl) (by omega) hcl hq hinv' hqe ?_ st hs ?_ (by rw [put_defers', hd])
        · exact hfn' φ w q (.inl rfl) hq (fun c hc2 hcn _ _ _ _ _ _ _ _ => hcn) hs
        · rw [hadd, hwu]
          exact he.put o.dst val_undef
end
end Go.Proofs.YtaadahhjdkkkaaaGreatDoor.Ev
namespace Go.Proofs.YtaadahhjdkkkaaaGreatDoor.Ev
set_option linter.unusedVariables false
set_option linter.unusedSimpArgs false
open Go
section
variable {P : Program} {call : CallA} {ops : Array Oper} {H : AH}
theorem filterMap_ord {ord : List Nat} (h : ∀ (p i : Nat), ord[p]? = some i → i < ops.size) : ∀ p : Nat, (ord.filterMap (ops[·]?))[p]? = (ord[p]?).bind (ops[·]?) := by
  induction ord with
  | nil => intro p; simp
  | cons i r ih =>
    have hi := h 0 i rfl
    have ho : ops[i]? = some ops[i] := Array.getElem?_eq_getElem hi
    have ih := ih fun p k hk => h (p + 1) k (by simpa using hk)
    intro p
    rw [List.filterMap_cons, ho]
    cases p with
    | zero => simp [ho]
    | succ p => simpa using ih p
theorem perm_region (hm : P.follows .mixedOrders = true) (hp : ProgOk P) (hcall : CallOk P call) (hch : CallH call) (hok : permOk P ops (ordOf P ops) = true) {e e' : List Value} {H' : AH} (h : permA P call ops e H = some (e', H')) :
    ∀ id φ w (a : Act) (Q : Exit → Act → World → Prop), Sim P φ H w → EnvR P φ H w e a.tmps → EndOk P φ H w e' H' a.defers (Q .normal) → (Code.region id ops true).wp P Q a w := by
  intro id φ w a Q hs he hk
  have ho := permOk_spec hok
  obtain ⟨s, hs2, h, hchk⟩ := permA_some h
  generalize hord : ordOf P ops = ord at ho hs2 h hchk
  have hget := filterMap_ord (ops := ops) (ord := ord) fun p i hp => (ho.of p i hp).1
  have hlen : (ord.filterMap (ops[·]?)).length = ops.size := by
    have h1 : ∀ p, p < ops.size → p < (ord.filterMap (ops[·]?)).length := fun p hp => by
      have hp2 : p < ord.length := by rw [ho.len]; exact hp
      have h2 := hget p
      rw [List.getElem?_eq_getElem hp2] at h2
      have h3 := (ho.of p _ (List.getElem?_eq_getElem hp2)).1
      simp only [Option.bind_some, Array.getElem?_eq_getElem h3] at h2
      exact (List.getElem?_eq_some_iff.1 h2).1
    have h2 : (ord.filterMap (ops[·]?)).length ≤ ord.length := List.length_filterMap_le _ _
    rw [ho.len] at h2
    rcases Nat.lt_or_ge (ord.filterMap (ops[·]?)).length ops.size with h3 | h3
    · have := h1 _ h3; omega
    · omega
  obtain ⟨V, E, K, h1, h2, h3, h4, h5⟩ := trace _ _ _ _ _ h
  rw [hlen] at h3 h4
  have hat : ∀ i o, ops[i]? = some o → (ord.filterMap (ops[·]?))[posO ord i]? = some o := fun i o hi => by
    have hil := (Array.getElem?_eq_some_iff.1 hi).1
    rw [hget, (ho.at_ i hil).2]; exact hi
  -- what each operation came to, by its number
  have hW : ∀ i, (fun i => V (posO ord i)) i = V (posO ord i) := fun _ => rfl
  have step : ∀ i o, ops[i]? = some o → Stp P call ops o (E (posO ord i)) (K (posO ord i)) (V (posO ord i)) (K (posO ord i + 1)) ∧ E (posO ord i + 1) = putE (E (posO ord i)) o.dst (V (posO ord i)) := fun i o hi => h5 _ o (hat i o hi)
  have hE : ∀ p, p ≤ ops.size → E p = envOf ops (fun i => V (posO ord i)) (fun k => Nat.blt (posO ord k) p) e ops.size := by
    intro p
    induction p with
    | zero =>
      intro _
      have : ∀ n, envOf ops (fun i => V (posO ord i)) (fun k => Nat.blt (posO ord k) 0) e n = e := fun n => by
        induction n with
        | zero => rfl
        | succ n ih =>
          have hb : Nat.blt (posO ord n) 0 = false := Bool.eq_false_iff.2 (by simp)
          simp only [envOf, hb, Bool.false_eq_true, if_false]
          exact ih
      rw [this]; exact h1
    | succ p ih =>
      intro hp2
      have hp3 : p < ord.length := by rw [ho.len]; omega
      have hop := List.getElem?_eq_getElem hp3
      obtain ⟨hil, hpos⟩ := ho.of _ _ hop
      have hoi : ops[ord[p]]? = some ops[ord[p]] := Array.getElem?_eq_getElem hil
      have h6 := (step _ _ hoi).2
      rw [hpos] at h6
      rw [h6, ih (by omega)]
      have h7 := envOf_put (ops := ops) (W := fun i => V (posO ord i)) (e0 := e) ho.dist (S := fun k => Nat.blt (posO ord k) p) hil (Bool.eq_false_iff.2 (by simp [hpos]))
      have h8 : (fun k => Nat.blt (posO ord k) p || Nat.beq k ord[p]) = fun k => Nat.blt (posO ord k) p || Nat.beq k ord[p] := rfl
      have h9 : envOf ops (fun i => V (posO ord i)) (fun k => Nat.blt (posO ord k) p || Nat.beq k ord[p]) e ops.size = envOf ops (fun i => V (posO ord i)) (fun k => Nat.blt (posO ord k) (p + 1)) e ops.size := by
        have go : ∀ n, n ≤ ops.size → envOf ops (fun i => V (posO ord i)) (fun k => Nat.blt (posO ord k) p || Nat.beq k ord[p]) e n = envOf ops (fun i => V (posO ord i)) (fun k => Nat.blt (posO ord k) (p + 1)) e n := by
          intro n hn
          induction n with
          | zero => rfl
          | succ n ih =>
            have hb : (Nat.blt (posO ord n) p || Nat.beq n ord[p]) = Nat.blt (posO ord n) (p + 1) := by
              rw [Bool.eq_iff_iff]
              simp only [Bool.or_eq_true, Nat.blt_eq]
              constructor
              · rintro (h | h)
                · omega
                · have := Nat.eq_of_beq_eq_true h; rw [this, hpos]; omega
              · intro h
                by_cases hlt : posO ord n < p
                · exact .inl hlt
                · right
                  have hpn : posO ord n = p := by omega
                  have a1 := (ho.at_ n (by omega)).2
                  rw [hpn, hop] at a1
                  rw [Option.some.inj a1]; exact Nat.beq_refl _
            simp only [envOf, hb]
            rw [ih (by omega)]
        exact go _ (Nat.le_refl _)
      rw [← h9, h7]
      have hd2 : dstOf ops ord[p] = ops[ord[p]].dst := by unfold dstOf; rw [hoi]; rfl
      rw [hd2, hpos]
  -- the heaps on the way
  have hup : ∀ p d, p + d ≤ ops.size → StepH (K p) (K (p + d)) := fun p d => by
    induction d with
    | zero => intro _; exact .refl
    | succ d ih =>
      intro hd
      have hp3 : p + d < ord.length := by rw [ho.len]; omega
      obtain ⟨hil, hpos⟩ := ho.of _ _ (List.getElem?_eq_getElem hp3)
      have hoi : ops[ord[p + d]]? = some ops[ord[p + d]] := Array.getElem?_eq_getElem hil
      have hst := (step _ _ hoi).1
      rw [hpos] at hst
      refine (ih (by omega)).trans ?_
      rcases hst with ⟨_, hop⟩ | ⟨_, _, hks⟩
      · exact evOp_h hch hop
      · rw [← Nat.add_assoc, hks]; exact .refl
  have hfrom : ∀ p, p ≤ ops.size → WfH (K p) := fun p hp2 => by
    have := hup 0 p (by omega)
    rw [h2, Nat.zero_add] at this
    exact (this hs.wf).1
  have hK : ∀ p q, p ≤ q → q ≤ ops.size → WfH (K p) ∧ HStep (K p) (K q) := fun p q hpq hq => by
    have := hup p (q - p) (by omega)
    rw [show p + (q - p) = q by omega] at this
    exact ⟨hfrom p (by omega), (this (hfrom p (by omega))).2⟩
  -- what was looked at on the way
  have hsat : ∀ p, p ≤ ops.size → s[p]? = some (E p, K p) := fun p hp2 => by
    have := evTr_at (W := V) _ 0 e H s hs2 (fun i o ho2 => by rw [Nat.zero_add]; exact h5 i o ho2) h1 h2 p (by rw [hlen]; exact hp2)
    rwa [Nat.zero_add] at this
  have hchk2 : ∀ i o, ops[i]? = some o → (match lookX P o.op with | some x => stillP (K (posO ord i)) (K (hiP P ops ord i)) (rho (E (posO ord i)) x) | none => true) = true ∧ (!floatB o.op || Nat.beq (K (posO ord i + 1)).next (K (posO ord i)).next || stillN (K (posO ord i + 1)) (K (hiP P ops ord i)) (K (posO ord i)).next) = true := fun i o hoi => by
    have hil := (Array.getElem?_eq_some_iff.1 hoi).1
    obtain ⟨a1, a2⟩ := ho.at_ i hil
    have h6 := List.all_eq_true.1 hchk (posO ord i) (List.mem_range.2 a1)
    rw [a2, hsat _ (Nat.le_of_lt a1), hsat _ a1] at h6
    simp only [hoi, hsat _ (hiP_spec (P := P) (ops := ops) ord i).1] at h6
    rw [Bool.and_eq_true] at h6
    exact h6
  have hlook : ∀ i o, ops[i]? = some o → mindP P ops i = false → floatB o.op = false → K (posO ord i + 1) = K (posO ord i) ∧ (guardA ops o (E (posO ord i)) = some true → ∀ q, posO ord i ≤ q → q ≤ hiP P ops ord i → evOp P call o (rho (E (posO ord i))) (K q) = some (V (posO ord i), K q)) := fun i o hoi hmi hfl => by
    have hil := (Array.getElem?_eq_some_iff.1 hoi).1
    have a1 := (ho.at_ i hil).1
    unfold mindP at hmi
    rw [hoi] at hmi
    simp only [hfl, Bool.not_false, Bool.and_true] at hmi
    rcases (step i o hoi).1 with ⟨hg, hop⟩ | ⟨hg, _, hks⟩
    · cases hfr : freeB P o.op with
      | true =>
        obtain ⟨r, hr⟩ := evOp_free (call := call) (ρ := rho (E (posO ord i))) hfr
        rw [hr] at hop
        cases r with
        | none => cases hop
        | some y =>
          simp only [Option.map_some, Option.some.injEq, Prod.mk.injEq] at hop
          exact ⟨hop.2.symm, fun _ q _ _ => by rw [hr, ← hop.1]; rfl⟩
      | false =>
        rw [hfr] at hmi
        cases hx : lookX P o.op with
        | none => rw [hx] at hmi; cases hmi
        | some x =>
          have h6 := (hchk2 i o hoi).1
          rw [hx] at h6
          have hhs := (hiP_spec (P := P) (ops := ops) ord i).1
          have key : ∀ q, posO ord i ≤ q → q ≤ hiP P ops ord i → evOp P call o (rho (E (posO ord i))) (K q) = some (V (posO ord i), K q) ∧ K (posO ord i + 1) = K (posO ord i) := fun q hq1 hq2 =>
            lookX_same hx hop fun c hc => by
              obtain ⟨b, b', g1, g2, g3, g4⟩ := stillN_spec (stillP_spec hc h6)
              have m0 := still_mid (hfrom _ (Nat.le_of_lt a1)) (hK _ _ (Nat.le_refl _) (Nat.le_of_lt a1)).2 (hK _ _ (Nat.le_trans hq1 hq2) hhs).2 g1 g2 g3 g4
              have m1 := still_mid (hfrom _ (Nat.le_of_lt a1)) (hK _ _ hq1 (Nat.le_trans hq2 hhs)).2 (hK _ _ hq2 hhs).2 g1 g2 g3 g4
              exact ⟨b, m0.1, m0.2, m1.1, m1.2⟩
          have hself : posO ord i ≤ hiP P ops ord i := (hiP_spec (P := P) (ops := ops) ord i).2 _ (Nat.le_of_lt a1) fun y hy _ hb => Nat.le_of_lt (ho.lin y i hy hil hb)
          exact ⟨(key _ (Nat.le_refl _) hself).2, fun _ q hq1 hq2 => (key q hq1 hq2).1⟩
    · exact ⟨hks, fun hg2 => by rw [hg] at hg2; cases hg2⟩
  have hflt : ∀ i o, ops[i]? = some o → floatB o.op = true → guardA ops o (E (posO ord i)) = some true → posO ord i + 1 ≤ hiP P ops ord i → ∀ b, (K (posO ord i + 1)).blk (K (posO ord i)).next = some b → ∀ q, posO ord i + 1 ≤ q → q ≤ hiP P ops ord i → (K q).blk (K (posO ord i)).next = some b := fun i o hoi hfl hg hle b hb q hq1 hq2 => by
    have hil := (Array.getElem?_eq_some_iff.1 hoi).1
    have a1 := (ho.at_ i hil).1
    have hhs := (hiP_spec (P := P) (ops := ops) ord i).1
    have h6 := (hchk2 i o hoi).2
    rw [hfl] at h6
    rcases (step i o hoi).1 with ⟨_, hop⟩ | ⟨hg2, _, _⟩
    · obtain ⟨C, te, mk, _, _, hH'⟩ := float_facts hfl hop
      have hn : Nat.beq (K (posO ord i + 1)).next (K (posO ord i)).next = false := Bool.eq_false_iff.2 fun h => by
        have := Nat.eq_of_beq_eq_true h
        rw [hH', next_alloc] at this
        omega
      rw [hn] at h6
      obtain ⟨b1, b', g1, g2, g3, g4⟩ := stillN_spec (by simpa using h6)
      rw [hb] at g1; cases g1
      exact (still_mid (hfrom _ a1) (hK _ _ hq1 (Nat.le_trans hq2 hhs)).2 (hK _ _ hq2 hhs).2 hb g2 g3 g4).1
    · rw [hg] at hg2; cases hg2
  -- up to the first of the chain
  have hB : RowKit.Below w.heap.size w { w with drawn := w.drawn + 1 } := (RowKit.Below.refl _ w).drew
  have hs1 := sim_below hs hB
  have st1 := step_below hs hB
  have hf0 : ∀ k, (Array.replicate ops.size false).getD k false = false := fun k => by
    rw [Array.getD_eq_getD_getElem?, Array.getElem?_replicate]; split <;> rfl
  have nxt : ∀ d p, p + d = ops.size → ∃ q', p ≤ q' ∧ q' ≤ ops.size ∧ (∀ y, y < ops.size → mindP P ops y = true → ¬ (p ≤ posO ord y ∧ posO ord y < q')) ∧ (q' = ops.size ∨ ∃ y, y < ops.size ∧ mindP P ops y = true ∧ posO ord y = q') := fun d => by
    induction d with
    | zero => intro p hp2; exact ⟨p, Nat.le_refl _, by omega, fun y _ _ h => by omega, .inl (by omega)⟩
    | succ d ihd =>
      intro p hp2
      by_cases hex : ∃ y, y < ops.size ∧ mindP P ops y = true ∧ posO ord y = p
      · exact ⟨p, Nat.le_refl _, by omega, fun y _ _ h => by omega, .inr hex⟩
      · obtain ⟨q', h1, h2, h3, h4⟩ := ihd (p + 1) (by omega)
        exact ⟨q', by omega, h2, fun y hy hmy h => by
          by_cases h5 : posO ord y = p
          · exact hex ⟨y, hy, hmy, h5⟩
          · exact h3 y hy hmy (by omega), h4⟩
  obtain ⟨q0, _, hq2, hq3, hq4⟩ := nxt ops.size 0 (by omega)
  have lift : ∀ (d : Nat) (w : World), d ≤ q0 → Sim P φ H w → Sim P φ (K d) w ∧ Step P φ H w φ (K d) w := by
    intro d
    induction d with
    | zero => intro w _ hs; rw [h2]; exact ⟨hs, Step.refl hs⟩
    | succ d ih =>
      intro w hle hs
      obtain ⟨hs1, st1⟩ := ih w (by omega) hs
      have hp3 : d < ord.length := by rw [ho.len]; omega
      obtain ⟨hil, hpos⟩ := ho.of _ _ (List.getElem?_eq_getElem hp3)
      have hoi : ops[ord[d]]? = some ops[ord[d]] := Array.getElem?_eq_getElem hil
      have hnm : mindP P ops ord[d] = false := by
        cases hm : mindP P ops ord[d] with
        | false => rfl
        | true => exact absurd ⟨Nat.zero_le _, by omega⟩ (hq3 _ hil hm)
      have hst := (step _ _ hoi).1
      rw [hpos] at hst
      by_cases hfl : floatB ops[ord[d]].op = true
      · rcases hst with ⟨_, hop⟩ | ⟨_, _, hks⟩
        · obtain ⟨C, te, mk, hf, hv, hH'⟩ := float_facts hfl hop
          rw [hH']
          exact ⟨sim_alloc0 hs1 ⟨rfl, rfl⟩, st1.trans hs (step_alloc0 hs1)⟩
        · rw [hks]; exact ⟨hs1, st1⟩
      · have := (hlook _ _ hoi hnm (Bool.eq_false_iff.2 hfl)).1
        rw [hpos] at this
        rw [this]; exact ⟨hs1, st1⟩
  obtain ⟨hsq, stq⟩ := lift q0 _ (Nat.le_refl _) hs1
  refine wp_region_any hm (perm_any hp hcall ho (W := fun i => V (posO ord i)) (E := E) (K := K) (e0 := e) (φ0 := φ) (H0 := H) (w0 := w) (df := a.defers) (fun i o hoi => (step i o hoi).1) hE hK hlook hflt hs (by rw [h2]; exact Nat.le_refl _) (fun φ' w' a' st hs' he' hd => ?_) ops.size _ a _ φ q0 (by simp) ?_ ?_ hq2 (fun i hi hmi => ?_) hq4 (fun j o hj hf hg hlj => ?_) (st1.trans hs stq) hsq ?_ rfl)
  · rw [h4] at st hs' he'
    have hee : envOf ops (fun i => V (posO ord i)) (fun _ => true) e ops.size = e' := by
      rw [← h3, hE _ (Nat.le_refl _)]
      have go : ∀ n, n ≤ ops.size → envOf ops (fun i => V (posO ord i)) (fun _ => true) e n = envOf ops (fun i => V (posO ord i)) (fun k => Nat.blt (posO ord k) ops.size) e n := by
        intro n hn
        induction n with
        | zero => rfl
        | succ n ih =>
          have hb : Nat.blt (posO ord n) ops.size = true := by simpa using (ho.at_ n (by omega)).1
          simp only [envOf, hb]
          rw [ih (by omega)]
      exact go _ (Nat.le_refl _)
    rw [hee] at he'
    exact hk φ' w' a' st hs' he' hd
  · exact Nat.le_trans (List.length_filter_le _ _) (by simp)
  · intro j o _ hj
    rw [hf0] at hj; cases hj
  · rw [hf0]
    constructor
    · intro h; cases h
    · intro h; exact absurd ⟨Nat.zero_le _, h⟩ (hq3 i hi hmi)
  · cases hφ : φ (K (posO ord j)).next with
    | none => rfl
    | some x =>
      have h6 := hs.lt hφ
      have h7 := (hK 0 (posO ord j) (Nat.zero_le _) (Nat.le_of_lt (ho.at_ j (Array.getElem?_eq_some_iff.1 hj).1).1)).2.next
      rw [h2] at h7
      omega
  · have : ∀ n, envOf ops (fun i => V (posO ord i)) (fun k => (Array.replicate ops.size false).getD k false) e n = e := by
      intro n
      induction n with
      | zero => rfl
      | succ n ih =>
        have hf := hf0 n
        simp only [envOf, hf, Bool.false_eq_true, if_false]
        exact ih
    rw [this]
    exact (he.mono st1).mono stq
end
end Go.Proofs.YtaadahhjdkkkaaaGreatDoor.Ev
