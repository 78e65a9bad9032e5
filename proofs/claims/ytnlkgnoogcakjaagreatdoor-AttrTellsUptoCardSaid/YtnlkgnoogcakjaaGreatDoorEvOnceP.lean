/-
  strings' Replacer at its first use, for the evaluator: a function told of by hand that calls two others.
-/
import Derived.Test.YtnlkgnoogcakjaaGreatDoorEvOnceX
import Derived.Test.YtnlkgnoogcakjaaGreatDoorEvFast
import Derived.Test.YtnlkgnoogcakjaaGreatDoorEvProg
namespace Go.Proofs.YtnlkgnoogcakjaaGreatDoor.Ev
open Go
set_option linter.unusedVariables false

def isNum (x : Option Value) (k : IntKind) (n : Nat) : Bool :=
  match x with
  | some (.int k' (.ofNat m)) => decide (k = k') && Nat.beq m n
  | _ => false
theorem bif2 {α : Type} {b : Bool} {x : Option α} {y : α} (h : (bif b then x else none) = some y) : b = true ∧ x = some y := by
  cases b with
  | true => exact ⟨rfl, h⟩
  | false => cases h
theorem isNum_eq {x : Option Value} {k : IntKind} {n : Nat} (h : isNum x k n = true) : x = some (.int k (n : Int)) := by
  unfold isNum at h
  split at h
  · simp only [Bool.and_eq_true, decide_eq_true_eq] at h
    obtain ⟨rfl, h2⟩ := h
    rw [Nat.eq_of_beq_eq_true h2]
    rfl
  · cases h
/-- A number written into a row that may be written. -/
def spoil (H : AH) (p : Addr) (v : Value) : Option AH :=
  match H.blk p.block with
  | some b => match b.obj with
    | .cells C e fr => if p.spot = none ∧ H.live p.block b = true ∧ H.tip p.block b = true ∧ fr.1 = 0 ∧ fr.2 = 0 ∧ p.off < C.size then some (H.put p.block b (.cells (writeCells C p.off [v]) e fr)) else none
    | _ => none
  | none => none
def cellAt (H : AH) (p : Addr) : Option Value :=
  match H.blk p.block with
  | some b => match b.obj with
    | .cells C e fr => if p.spot = none ∧ H.live p.block b = true ∧ fr.1 = 0 ∧ fr.2 = 0 then C[p.off]? else none
    | _ => none
  | none => none

section
variable {P : Program} {φ φ' : Phi} {H H1 : AH} {w w' : World}

theorem Lies.free {p q : Addr} {C C' : Array Value} {e : TypeId} {fr' : Nat × Nat} {b : Blk} {δ : Nat} (l : Lies P φ H w p q C e (0, 0) b δ C' fr') (hi : p.off < C.size) : w.frozen? q = false := by
  rw [addr_eta l.qspot]
  cases hfz : w.frozen? ⟨q.block, q.off, none⟩ with
  | false => rfl
  | true =>
    exfalso
    obtain ⟨f1, f2⟩ := fr'
    simp only [World.frozen?, l.real, Bool.and_eq_true, decide_eq_true_eq, l.off] at hfz
    have := l.cold p.off hi (by unfold Ev.frz; simp only; omega)
    exact frz_none _ this

theorem cellAt_ok (hs : Sim P φ H w) {p q : Addr} (hp : AddrR φ H p q) {x : Value} (h : cellAt H p = some x) : q.spot = none ∧ w.frozen? q = false ∧ ∃ y, w.cell? q = some y ∧ CellR P φ H w x y := by
  unfold cellAt at h
  split at h
  case h_2 => cases h
  rename_i b hb
  split at h
  case h_2 => cases h
  rename_i C e fr ho
  split at h
  case isFalse => cases h
  rename_i hc
  obtain ⟨h1, h2, h3, h4⟩ := hc
  have hfr : fr = (0, 0) := Prod.ext h3 h4
  subst hfr
  have hcs : H.cells p.block = some (C, e, (0, 0)) := by simp [AH.cells, hb, h2, ho]
  obtain ⟨b2, δ, C', fr', l⟩ := lies hs hp hcs
  have hi : p.off < C.size := (Array.getElem?_eq_some_iff.1 h).1
  obtain ⟨y, h5, h6⟩ := l.get h
  have := l.cell? 0
  rw [Nat.add_zero, ← addr_eta l.qspot] at this
  exact ⟨l.qspot, l.free hi, y, by rw [this]; exact h5, h6⟩
theorem cellAt_num (hs : Sim P φ H w) {p q : Addr} (hp : AddrR φ H p q) {k : IntKind} {n : Nat} (h : isNum (cellAt H p) k n = true) : q.spot = none ∧ w.frozen? q = false ∧ w.cell? q = some (.int k (n : Int)) := by
  obtain ⟨h1, h2, y, h3, h4⟩ := cellAt_ok hs hp (isNum_eq h)
  have : y = .int k (n : Int) := by
    have := val_eq (P := P) (φ := φ) (H := H) (w := w) (a := .int k (n : Int)) rfl (part_of_cell h4)
    exact this.symm
  exact ⟨h1, h2, this ▸ h3⟩

theorem spoil_ok (hs : Sim P φ H w) {p q : Addr} (hp : AddrR φ H p q) {k : IntKind} {n : Int} (h : spoil H p (.int k n) = some H1) : Step P φ H w φ H1 (w.setCell q (.int k n)) ∧ Sim P φ H1 (w.setCell q (.int k n)) := by
  unfold spoil at h
  split at h
  case h_2 => cases h
  rename_i b hb
  split at h
  case h_2 => cases h
  rename_i C e fr ho
  split at h
  case isFalse => cases h
  rename_i hc
  obtain ⟨h1, h2, ht, h3, h4, hi⟩ := hc
  have hfr : fr = (0, 0) := Prod.ext h3 h4
  subst hfr
  cases h
  have hcs : H.cells p.block = some (C, e, (0, 0)) := by simp [AH.cells, hb, h2, ho]
  obtain ⟨b2, δ, C', fr', l⟩ := lies hs hp hcs
  have hb2 := l.blk
  rw [hb] at hb2; obtain rfl := Option.some.inj hb2
  have hfree := l.free hi
  have hrun := run_storeCells_cells (P := P) q.block q.off [.int k n] 0 w (fun j hj => by
      have hj0 : j = 0 := by simp at hj; exact hj
      subst hj0
      have := l.cell? 0
      rw [Nat.add_zero] at this
      show (w.cell? ⟨q.block, q.off, none⟩).isSome = true
      rw [this, Array.getElem?_eq_getElem (by have := l.size; omega)]; rfl)
    (fun j hj => by
      have hj0 : j = 0 := by simp at hj; exact hj
      subst hj0
      show w.frozen? ⟨q.block, q.off, none⟩ = false
      rw [← addr_eta l.qspot]; exact hfree)
    (fun v hv => by simp at hv; subst hv; rfl)
  rw [Nat.add_zero, ← addr_eta l.qspot] at hrun
  obtain ⟨w', g1, g2, g3⟩ := l.store hs ht (vs := [.int k n]) (vs' := [.int k n]) rfl (fun i x y hx hy => by
      rw [hx] at hy; cases hy
      have : x = .int k n := by
        have := List.mem_of_getElem? hx
        simpa using this
      subst this
      exact .atom (.flat rfl)) (by simp; omega) (.inr (.inr rfl))
  rw [hrun] at g1
  have hw : w' = w.setCell q (.int k n) := by
    have := (Result.ok.inj g1).2
    rw [← this]
    show w.setCell ⟨q.block, q.off, none⟩ (.int k n) = _
    rw [← addr_eta l.qspot]
  rw [← hw]
  exact ⟨g2, g3⟩

theorem spoil_h {p : Addr} {v : Value} (h : spoil H p v = some H1) : StepH H H1 := by
  unfold spoil at h
  split at h
  case h_2 => cases h
  rename_i b hb
  split at h
  case h_2 => cases h
  rename_i C e fr ho
  split at h
  case isFalse => cases h
  rename_i hc
  cases h
  exact fun hw => (chg_write hb ho hc.2.1 hc.2.2.1).step hw
end

/-- '(*strings.Replacer).Replace', its Once not yet done. -/
def primReplace : PrimF := fun call args H => match args with
  | [.pointer (some p), .string s] => bif isNum (cellAt H p) .u32 0 && isNum (cellAt H (p.add 1)) .i32 0 then
      match spoil H (p.add 1) (.int .i32 1) with
      | some H1 => match call 61 [.pointer (some p)] H1 with
        | some (.tuple vs, H2) => bif vs.isEmpty && isNum (cellAt H2 p) .u32 0 && isNum (cellAt H2 (p.add 1)) .i32 1 then
            match cellAt H2 (p.add 3) with
            | some (.iface t (.pointer (some q))) => bif Nat.beq t 130 then
                match spoil H2 p (.int .u32 1) with
                | some H3 => match spoil H3 (p.add 1) (.int .i32 0) with
                  | some H4 => match call 137 [.pointer (some q), .string s] H4 with
                    | some (.string t, H5) => some (.string t, H5)
                    | _ => none
                  | none => none
                | none => none
              else none
            | _ => none
          else none
        | _ => none
      | none => none
    else none
  | _ => none

theorem primReplace_up : ∀ c c' : CallA, (∀ f a H r, c f a H = some r → c' f a H = some r) → ∀ a H r, primReplace c a H = some r → primReplace c' a H = some r := by
  intro c c' hc a H r h
  unfold primReplace at h ⊢
  split at h
  case h_2 => cases h
  rename_i p s
  replace h := bif2 h
  obtain ⟨hb, h⟩ := h
  simp only [hb, cond_true]
  split at h
  case h_2 => cases h
  rename_i H1 hs1
  split at h
  case h_2 => cases h
  rename_i vs H2 hc1
  replace h := bif2 h
  obtain ⟨hb2, h⟩ := h
  simp only [hs1, hc _ _ _ _ hc1, hb2, cond_true]
  split at h
  case h_2 => cases h
  rename_i t q hq
  replace h := bif2 h
  obtain ⟨hb3, h⟩ := h
  split at h
  case h_2 => cases h
  rename_i H3 hs3
  split at h
  case h_2 => cases h
  rename_i H4 hs4
  split at h
  case h_2 => cases h
  rename_i t2 H5 hc5
  simp only [hq, hb3, hs3, hs4, hc _ _ _ _ hc5, cond_true]
  exact h
theorem primReplace_h : ∀ call, CallH call → ∀ args H v H', primReplace call args H = some (v, H') → StepH H H' := by
  intro call hcall args H v H' h
  unfold primReplace at h
  split at h
  case h_2 => cases h
  rename_i p s
  replace h := bif_some h
  split at h
  case h_2 => cases h
  rename_i H1 hs1
  split at h
  case h_2 => cases h
  rename_i vs H2 hc1
  replace h := bif_some h
  split at h
  case h_2 => cases h
  replace h := bif_some h
  split at h
  case h_2 => cases h
  rename_i H3 hs3
  split at h
  case h_2 => cases h
  rename_i H4 hs4
  split at h
  case h_2 => cases h
  rename_i t2 H5 hc5
  cases h
  exact (spoil_h hs1).trans (StepH.trans (fun hw => hcall _ _ _ _ _ hc1 hw) ((spoil_h hs3).trans ((spoil_h hs4).trans (fun hw => hcall _ _ _ _ _ hc5 hw))))

theorem replace_ok {call : CallA} (hcall : CallOk Tryz.prog call) : CallOk Tryz.prog (fun f' args H => if f' = 44 then primReplace call args H else none) := by
  intro f args H v H' h
  simp only at h
  split at h
  case isFalse => cases h
  rename_i hf
  subst hf
  refine ⟨⟨_, Tryz.func44, rfl⟩, fun φ w args' hs hn ha => ?_⟩
  unfold primReplace at h
  split at h
  case h_2 => cases h
  rename_i p s
  replace h := bif2 h
  obtain ⟨hb, h⟩ := h
  rw [Bool.and_eq_true] at hb
  split at h
  case h_2 => cases h
  rename_i H1 hs1
  split at h
  case h_2 => cases h
  rename_i vs H2 hc1
  replace h := bif2 h
  obtain ⟨hb2, h⟩ := h
  simp only [Bool.and_eq_true] at hb2
  obtain ⟨⟨hvs, hb3⟩, hb4⟩ := hb2
  have hvs : vs = #[] := by simpa using hvs
  subst hvs
  split at h
  case h_2 => cases h
  rename_i t q hq
  replace h := bif2 h
  obtain ⟨hbt, h⟩ := h
  obtain rfl := Nat.eq_of_beq_eq_true hbt
  split at h
  case h_2 => cases h
  rename_i H3 hs3
  split at h
  case h_2 => cases h
  rename_i H4 hs4
  split at h
  case h_2 => cases h
  rename_i t5 H5 hc5
  cases h
  -- the arguments
  obtain ⟨a0, a1, rfl⟩ : ∃ a0 a1, args' = #[a0, a1] := by
    obtain ⟨l⟩ := args'
    match l, hn with
    | [a0, a1], _ => exact ⟨a0, a1, rfl⟩
  obtain ⟨q0, rfl, hp⟩ := val_ptr (ha 0 _ _ rfl rfl)
  obtain rfl := val_string (ha 1 _ _ rfl rfl)
  obtain ⟨k1, k2, k3⟩ := cellAt_num hs hp hb.1
  have hp1 := hp.add 1
  obtain ⟨m1, m2, m3⟩ := cellAt_num hs hp1 hb.2
  obtain ⟨b, off, sp⟩ := q0
  obtain rfl : sp = none := k1
  have hadd : ∀ n, (⟨b, off, none⟩ : Addr).add n = ⟨b, off + n, none⟩ := fun n => add_none rfl n
  rw [hadd] at hp1 m2 m3
  obtain ⟨st1, sim1⟩ := spoil_ok hs hp1 hs1
  obtain ⟨_, hB⟩ := hcall _ _ _ _ _ hc1
  have hB1 := hB φ _ #[.pointer (some ⟨b, off, none⟩)] sim1 rfl (fun i x y hx hy => by
    cases i with
    | zero => simp at hx hy; subst hx; subst hy; exact .part (.cell (.atom (.ptr (hp.mono st1))))
    | succ i => simp at hx)
  refine (Once.replace b off s w (fun w2 => ∃ φ2, Step Tryz.prog φ H w φ2 H2 w2 ∧ Sim Tryz.prog φ2 H2 w2) (fun v' w' => Good Tryz.prog φ H w H' (.string t5) v' w') k3 m3 k2 m2 (hB1.mono ?_) ?_ ?_).mono ?_
  · rintro e w2 ⟨v', rfl, φ2, st2, sim2, hv⟩
    have hv' : v' = .tuple #[] := by
      cases hv with
      | part h => cases h with
        | cell h => cases h with
          | atom h => cases h with
            | flat h => cases h
      | tuple h =>
        have := h.1
        congr 1
        exact Array.eq_empty_of_size_eq_zero (by simpa using this.symm)
    exact ⟨by rw [hv'], φ2, st1.trans hs st2, sim2⟩
  · rintro w2 ⟨φ2, st2, sim2⟩
    have hp2 := hp.mono st2
    obtain ⟨_, z1, z2⟩ := cellAt_num sim2 hp2 hb3
    obtain ⟨_, y1, y2⟩ := cellAt_num sim2 (hp2.add 1) hb4
    rw [hadd] at y1 y2
    exact ⟨⟨_, z2⟩, y2, z1, y1⟩
  · rintro w2 ⟨φ2, st2, sim2⟩
    have hp2 := hp.mono st2
    obtain ⟨_, _, y, hy1, hy2⟩ := cellAt_ok sim2 (hp2.add 3) hq
    rw [hadd] at hy1
    obtain ⟨q', rfl, hqr⟩ : ∃ q', y = .iface 130 (.pointer (some q')) ∧ AddrR φ2 H2 q q' := by
      cases hy2 with
      | atom h => cases h with
        | flat h => cases h
      | iface h => cases h with
        | flat h => cases h
        | ptr h => exact ⟨_, rfl, h⟩
    refine ⟨q', hy1, ?_⟩
    have hBd : RowKit.Below w2.heap.size w2 w2.drew := (RowKit.Below.refl _ w2).drew
    have st3 := step_below sim2 hBd
    have sim3 := sim_below sim2 hBd
    obtain ⟨st4, sim4⟩ := spoil_ok sim3 (hp2.mono st3) hs3
    have hp4 := ((hp2.mono st3).mono st4).add 1
    rw [hadd] at hp4
    obtain ⟨st5, sim5⟩ := spoil_ok sim4 hp4 hs4
    obtain ⟨_, hD⟩ := hcall _ _ _ _ _ hc5
    have hD1 := hD φ2 _ #[.pointer (some q'), .string s] sim5 rfl (fun i x y hx hy => by
      match i with
      | 0 => simp at hx hy; subst hx; subst hy; exact .part (.cell (.atom (.ptr (((hqr.mono st3).mono st4).mono st5))))
      | 1 => simp at hx hy; subst hx; subst hy; exact val_refl rfl
      | i + 2 => simp at hx)
    refine hD1.mono ?_
    rintro e w6 ⟨v', rfl, φ6, st6, sim6, hv⟩
    obtain rfl := val_string hv
    exact ⟨t5, rfl, φ6, ((((st2.trans hs st3).trans hs st4).trans hs st5).trans hs st6), sim6, hv⟩
  · rintro e w' ⟨t6, rfl, hg⟩
    exact ⟨_, rfl, hg⟩
end Go.Proofs.YtnlkgnoogcakjaaGreatDoor.Ev
