/-
  From the evaluator to a call's contract: closed functions, flat arguments, one row of cells that is only looked at.
-/
import Derived.Test.YtenolmhnmcjndaaGreatDoorEvStep
import Derived.Test.YtenolmhnmcjndaaGreatDoorEvSymX
namespace Go.Proofs.YtenolmhnmcjndaaGreatDoor.Ev
set_option linter.unusedVariables false
set_option linter.unusedSimpArgs false
open Go Go.RowKit

section
variable {P : Program} {φ : Phi} {H H' : AH} {w w' : World}

theorem sim_empty (hT : Tabs w) : Sim P (fun _ => none) AH.empty w where
  wf := WfH.empty
  blk := fun c r δ h => by cases h
  real := fun c r δ h => by cases h
  obj := fun c r δ b h => by cases h
  sep := fun c d r δ ε b b' h => by cases h
  ends := fun c d r δ ε b b' C C' e e' f f' h => by cases h
  fix := ⟨hT, fun g hg => ⟨tabs_lt hT g hg, fun c δ b h => by cases h⟩⟩

theorem sim_none (hw : WfH H) (hT : Tabs w) : Sim P (fun _ => none) H w where
  wf := hw
  blk := fun c r δ h => by cases h
  real := fun c r δ h => by cases h
  obj := fun c r δ b h => by cases h
  sep := fun c d r δ ε b b' h => by cases h
  ends := fun c d r δ ε b b' C C' e e' f f' h => by cases h
  fix := ⟨hT, fun g hg => ⟨tabs_lt hT g hg, fun c δ b h => by cases h⟩⟩

/-- Where all that lies in the evaluator's heap is only looked at, the world below is as it was. -/
theorem step_ro {φ' : Phi} (hro : ∀ c r δ b, φ c = some (r, δ) → H.blk c = some b → RO φ H b) (s : Step P φ H w φ' H' w') : Below w.heap.size w w' where
  os := s.os
  tape := s.tape
  output := s.output
  size := s.size
  block := fun k hk => s.frame k hk fun c δ b h1 h2 => .inl (hro c k δ b h1 h2)

theorem law_calls (hp : ProgOk P) (hd : P.follows .mixedOrders = true) {prims : Prims} (hpr : PrimsOk P prims) {f : FuncId} {args : List Value} {args' : Array Value} {v : Value} (hv : flatB v = true)
    (hF : FWp P prims f args H fun u _ => u = v) (hs : Sim P φ H w) (hro : ∀ c r δ b, φ c = some (r, δ) → H.blk c = some b → RO φ H b) (hn : args'.size = args.length)
    (ha : ∀ (i : Nat) (x y : Value), args[i]? = some x → args'[i]? = some y → ValR P φ H w x y) : Calls P f args' w fun e w' => e = .returned v ∧ Below w.heap.size w w' := by
  obtain ⟨n, u, H', h1, rfl⟩ := hF
  refine ((evFn_sound hp hd hpr n f args H u H' (h1 n (Nat.le_refl _))).2 φ w args' hs hn ha).mono fun e w' ⟨v', he, φ', st, _, hr⟩ => ?_
  rw [he, ← val_eq hv hr]
  exact ⟨rfl, step_ro hro st⟩

/-- A function without arguments, reckoned once in an empty heap: so it is in every one. -/
def primClosed (v : Value) : List Value → AH → Option (Value × AH)
  | [], H => some (v, H)
  | _, _ => none

theorem closed_ok (hp : ProgOk P) (hd : P.follows .mixedOrders = true) {prims : Prims} (hpr : PrimsOk P prims) {f : FuncId} {n : Nat} {v : Value} (hf : ∃ fn, P.funcs[f]? = some fn ∧ fn.body.isSome = true) (hv : flatB v = true)
    (h : (evFn P prims n f [] AH.empty).map Prod.fst = some v) : CallOk P (fun f' args H => if f' = f then primClosed v args H else none) := by
  refine prim_ok hf fun args H u H' hu => ?_
  unfold primClosed at hu
  split at hu
  case h_2 => cases hu
  cases hu
  refine ⟨rfl, rfl, hv, fun w hT => ?_⟩
  obtain ⟨⟨u, H'⟩, h1, rfl⟩ := Option.map_eq_some_iff.1 h
  refine ((evFn_sound hp hd hpr n f [] AH.empty u H' h1).2 (fun _ => none) w #[] (sim_empty hT) rfl (fun i x y hx => by simp at hx)).mono fun e w' ⟨v', he, φ', st, _, hr⟩ => ?_
  rw [he, ← val_eq hv hr]
  exact ⟨rfl, step_ro (fun c r δ b h => by cases h) st⟩

/-! ### One row of cells -/
/-- Block 0 is no more to be looked at; block 1 is the row; block 2, its last copy, lies nowhere. -/
def AH.row1 (C : Array Value) (e : TypeId) (fr : Nat × Nat) : AH :=
  { tr := Tr.set 3 (Tr.set 2 (Tr.set 1 .nil 0 ⟨.cells #[] e (0, 0), 0, false, 0⟩) 1 ⟨.cells C e fr, 0, false, 0⟩) 2 ⟨.cells #[] e (0, 0), 0, false, 0⟩, gr := Tr.set 1 .nil 0 (2, 1), next := 3, clock := 1 }

section
variable {C : Array Value} {e : TypeId} {fr : Nat × Nat}
theorem row1_blk (c : Nat) : (AH.row1 C e fr).blk c = if c = 2 then some ⟨.cells #[] e (0, 0), 0, false, 0⟩ else if c = 1 then some ⟨.cells C e fr, 0, false, 0⟩ else if c = 0 then some ⟨.cells #[] e (0, 0), 0, false, 0⟩ else none := by
  simp only [AH.blk, AH.row1]
  rw [Tr.get_set _ _ _ _ _ (by omega), Tr.get_set _ _ _ _ _ (by omega), Tr.get_set _ _ _ _ _ (by omega), Tr.get_nil]
theorem row1_grp (r : Nat) : (AH.row1 C e fr).grp r = if r = 0 then (2, 1) else (r, r) := by
  simp only [AH.grp, AH.row1]
  rw [Tr.get_set _ _ _ _ _ (by omega), Tr.get_nil]
  split <;> rfl
theorem row1_all {Q : Nat → Blk → Prop} (h0 : Q 0 ⟨.cells #[] e (0, 0), 0, false, 0⟩) (h1 : Q 1 ⟨.cells C e fr, 0, false, 0⟩) (h2 : Q 2 ⟨.cells #[] e (0, 0), 0, false, 0⟩) : ∀ c b, (AH.row1 C e fr).blk c = some b → Q c b := by
  intro c b hb
  rw [row1_blk] at hb
  split at hb
  · rename_i e; subst e; cases hb; exact h2
  split at hb
  · rename_i e; subst e; cases hb; exact h1
  split at hb
  · rename_i e; subst e; cases hb; exact h0
  · cases hb
theorem row1_wf : WfH (AH.row1 C e fr) where
  lt := row1_all ⟨by show 0 < 3; decide, Nat.le_refl 0⟩ ⟨by show 1 < 3; decide, Nat.zero_le 1⟩ ⟨by show 2 < 3; decide, Nat.zero_le 2⟩
  head := by
    have : (AH.row1 C e fr).grp 0 = (2, 1) := by rw [row1_grp, if_pos rfl]
    refine row1_all ?_ ?_ ?_ <;> simp only [this] <;> exact ⟨by decide, by show 2 < 3; decide⟩
  exact := row1_all (fun h => by cases h) (fun h => by cases h) (fun h => by cases h)
  floor := by
    have : (AH.row1 C e fr).grp 0 = (2, 1) := by rw [row1_grp, if_pos rfl]
    refine row1_all ?_ ?_ ?_ <;> simp only [this] <;> decide
  headBlk := by
    have : (AH.row1 C e fr).grp 0 = (2, 1) := by rw [row1_grp, if_pos rfl]
    have h2 : (AH.row1 C e fr).blk 2 = some ⟨.cells #[] e (0, 0), 0, false, 0⟩ := by rw [row1_blk, if_pos rfl]
    refine row1_all ?_ ?_ ?_ <;> simp only [this] <;> exact ⟨_, h2, rfl⟩
  ver := row1_all (by show 0 < 1; decide) (by show 0 < 1; decide) (by show 0 < 1; decide)
  fresh := fun r hr => by
    have : 3 ≤ r := hr
    rw [row1_grp, if_neg (by omega)]
  shp := row1_all ⟨rfl, rfl⟩ ⟨rfl, rfl⟩ ⟨rfl, rfl⟩
end

def row1Phi (r off : Nat) : Phi := fun c => if c = 1 then some (r, off) else none
theorem row1Phi_some {r off c r' δ : Nat} (h : row1Phi r off c = some (r', δ)) : c = 1 ∧ r' = r ∧ δ = off := by
  unfold row1Phi at h
  split at h
  · rename_i e; cases h; exact ⟨e, rfl, rfl⟩
  · cases h

theorem row1_ro {C : Array Value} {e : TypeId} {fr : Nat × Nat} {r off : Nat} : ∀ c r' δ b, row1Phi r off c = some (r', δ) → (AH.row1 C e fr).blk c = some b → RO (row1Phi r off) (AH.row1 C e fr) b := by
  intro c r' δ b _
  have : (AH.row1 C e fr).grp 0 = (2, 1) := by rw [row1_grp, if_pos rfl]
  refine row1_all (Q := fun _ b => RO (row1Phi r off) (AH.row1 C e fr) b) ?_ ?_ ?_ c b <;> exact ⟨rfl, by simp only [this]; rfl⟩

theorem sim_row1 (hT : Tabs w) {C C' : Array Value} {e : TypeId} {fr' : Nat × Nat} {r off : Nat} (hr : w.heap[r]? = some (.cells C' e fr')) (hsz : off + C.size ≤ C'.size) (hC : ∀ i x y, C[i]? = some x → C'[off + i]? = some y → x = y) (hat : ∀ v ∈ C.toList, atomB v = true) :
    Sim P (row1Phi r off) (AH.row1 C e (fr'.1 - off, fr'.2 - off)) w where
  wf := row1_wf
  blk := fun c r' δ h => by
    obtain ⟨rfl, _, _⟩ := row1Phi_some h
    exact ⟨_, by rw [row1_blk, if_neg (by decide), if_pos rfl]⟩
  real := fun c r' δ h => by
    obtain ⟨rfl, rfl, _⟩ := row1Phi_some h
    exact (Array.getElem?_eq_some_iff.1 hr).1
  obj := fun c r' δ b h hb _ => by
    obtain ⟨rfl, rfl, rfl⟩ := row1Phi_some h
    rw [row1_blk, if_neg (by decide), if_pos rfl] at hb
    obtain rfl := Option.some.inj hb
    refine ⟨C', fr', hr, hsz, fun i x y hx hy => ?_, fun i _ hf => ?_, fun ht => ?_, fun hx => by cases hx⟩
    · obtain rfl := hC i x y hx hy
      exact .atom (.flat (hat x (by rw [Array.mem_toList_iff]; exact Array.mem_of_getElem? hx)))
    · unfold frz at hf ⊢
      simp only
      omega
    · rw [tip_iff] at ht
      have h0 : (AH.row1 C e (fr'.1 - δ, fr'.2 - δ)).grp 0 = (2, 1) := by rw [row1_grp, if_pos rfl]
      rw [h0] at ht
      exact absurd ht (by decide)
  sep := fun c d r' δ ε b b' h h' hb hb' => by
    obtain ⟨rfl, _, _⟩ := row1Phi_some h
    obtain ⟨rfl, _, _⟩ := row1Phi_some h'
    rw [hb] at hb'; obtain rfl := Option.some.inj hb'; rfl
  ends := fun c d r' δ ε b b' C1 C2 e1 e2 f1 f2 h h' hb hb' _ h1 h2 => by
    obtain ⟨rfl, rfl, rfl⟩ := row1Phi_some h
    obtain ⟨rfl, _, rfl⟩ := row1Phi_some h'
    rw [hb] at hb'; obtain rfl := Option.some.inj hb'
    rw [h1] at h2; cases h2; exact Nat.le_refl _
  fix := ⟨hT, fun g hg => ⟨tabs_lt hT g hg, fun c δ b h hb => row1_ro c g δ b h hb⟩⟩

theorem row1_dead {C : Array Value} {e : TypeId} {fr : Nat × Nat} : Dead (AH.row1 C e fr) 0 := by
  have hg : (AH.row1 C e fr).grp 0 = (2, 1) := by rw [row1_grp, if_pos rfl]
  refine ⟨_, by rw [row1_blk, if_neg (by decide), if_neg (by decide), if_pos rfl], ?_⟩
  cases hl : (AH.row1 C e fr).live 0 ⟨.cells #[] e (0, 0), 0, false, 0⟩ with
  | false => rfl
  | true => rw [live_iff, hg] at hl; exact absurd hl (by decide)

/-- A slice that came in, and the evaluator's of it. -/
theorem view_row1 {C : Array Value} {e : TypeId} {fr : Nat × Nat} {q : Addr} {cap : Nat} (hq : q.spot = none) :
    ∃ x, View (AH.row1 C e fr) x C.toList ∧ ValR P (row1Phi q.block q.off) (AH.row1 C e fr) w x (.slice (some q) C.size cap) := by
  have hg : (AH.row1 C e fr).grp 0 = (2, 1) := by rw [row1_grp, if_pos rfl]
  by_cases h0 : C.size = 0
  · refine ⟨.slice (some ⟨0, 0, none⟩) 0 0, ⟨_, _, by rw [show C.toList.length = 0 by simpa using h0], .inl (by apply List.eq_nil_of_length_eq_zero; simpa using h0)⟩, ?_⟩
    rw [h0]
    refine .part (.cell (.atom (.slice (.inl ⟨_, by rw [row1_blk, if_neg (by decide), if_neg (by decide), if_pos rfl], ?_⟩))))
    cases hl : (AH.row1 C e fr).live 0 ⟨.cells #[] e (0, 0), 0, false, 0⟩ with
    | false => rfl
    | true => rw [live_iff, hg] at hl; exact absurd hl (by decide)
  · have hl : (AH.row1 C e fr).live 1 ⟨.cells C e fr, 0, false, 0⟩ = true := by rw [live_iff, hg]; decide
    have hb : (AH.row1 C e fr).blk 1 = some ⟨.cells C e fr, 0, false, 0⟩ := by rw [row1_blk, if_neg (by decide), if_pos rfl]
    refine ⟨.slice (some ⟨1, 0, none⟩) C.size 0, ⟨some ⟨1, 0, none⟩, 0, by simp, .inr ⟨rfl, C, e, fr, by unfold AH.cells; simp only [hb, hl], by simp, by simp⟩⟩, ?_⟩
    exact .part (.cell (.atom (.slice (.inr (.inr (.inr ⟨rfl, hq, rfl, by omega, q.off, by simp [row1Phi], by simp⟩))))))

theorem view_nil : View AH.empty (.slice none 0 0) [] := ⟨none, 0, rfl, .inl rfl⟩
end
end Go.Proofs.YtenolmhnmcjndaaGreatDoor.Ev
