/-
  How the evaluator's heap stands to the model's world; that this stays as both grow.
-/
import Derived.Test.YtofigleaealbjaaGreatDoorEvOps
import Derived.Test.YtofigleaealbjaaGreatDoorEvFix
import Derived.Laws.IdiomCopy
namespace Go.Proofs.YtofigleaealbjaaGreatDoor.Ev
open Go

/-- Where a block of the evaluator's lies: the real block, and from which cell on. -/
abbrev Phi := Nat → Option (Nat × Nat)

def Dead (H : AH) (c : Nat) : Prop := ∃ b, H.blk c = some b ∧ H.live c b = false

def AddrR (φ : Phi) (H : AH) (p q : Addr) : Prop :=
  Dead H p.block ∨ (p.spot = none ∧ q.spot = none ∧ ∃ δ, φ p.block = some (q.block, δ) ∧ q.off = δ + p.off)

def SliceR (P : Program) (φ : Phi) (H : AH) (w : World) (p q : Addr) (n c c' : Nat) : Prop :=
  Dead H p.block ∨ (n = 0 ∧ c = 0 ∧ c' = 0 ∧ ∃ x, φ p.block = some x) ∨
  (p.spot = none ∧ q.spot = none ∧ ∃ δ C e fr b, φ p.block = some (q.block, δ) ∧ q.off = δ + p.off ∧ H.blk p.block = some b ∧ b.obj = .cells C e fr ∧
    n ≤ c ∧ p.off + c * szT P e ≤ C.size ∧
    (c' = c ∨ (b.exact = false ∧ p.off + c * szT P e = C.size ∧ c ≤ c' ∧ ∃ C' fr', w.heap[q.block]? = some (.cells C' e fr') ∧ q.off + c' * szT P e ≤ C'.size))) ∨
  -- a row that is only looked at: of its capacity nothing is said
  (p.spot = none ∧ q.spot = none ∧ c = 0 ∧ 0 < n ∧ ∃ δ, φ p.block = some (q.block, δ) ∧ q.off = δ + p.off)

def ArrR (R : Value → Value → Prop) (a b : Array Value) : Prop := a.size = b.size ∧ ∀ (i : Nat) (x y : Value), a[i]? = some x → b[i]? = some y → R x y

inductive AtomR (P : Program) (φ : Phi) (H : AH) (w : World) : Value → Value → Prop where
  | flat {a : Value} : atomB a = true → AtomR P φ H w a a
  | ptr {p q : Addr} : AddrR φ H p q → AtomR P φ H w (.pointer (some p)) (.pointer (some q))
  | slice {p q : Addr} {n c c' : Nat} : SliceR P φ H w p q n c c' → AtomR P φ H w (.slice (some p) n c) (.slice (some q) n c')
  | map {r r' : Nat} : (Dead H r ∨ φ r = some (r', 0)) → AtomR P φ H w (.map (some r)) (.map (some r'))

inductive CellR (P : Program) (φ : Phi) (H : AH) (w : World) : Value → Value → Prop where
  | atom {a b : Value} : AtomR P φ H w a b → CellR P φ H w a b
  | iface {t : TypeId} {a b : Value} : AtomR P φ H w a b → CellR P φ H w (.iface t a) (.iface t b)
  | ifaceAgg {t : TypeId} {cs : Array Value} : cs.toList.all atomB = true → CellR P φ H w (.iface t (.agg cs)) (.iface t (.agg cs))
  | func {f : Fn} {a b : Array Value} : ArrR (AtomR P φ H w) a b → CellR P φ H w (.func f #[] a) (.func f #[] b)

inductive PartR (P : Program) (φ : Phi) (H : AH) (w : World) : Value → Value → Prop where
  | junk {b : Value} : PartR P φ H w junk b
  | cell {a b : Value} : CellR P φ H w a b → PartR P φ H w a b
  | agg {a b : Array Value} : ArrR (CellR P φ H w) a b → PartR P φ H w (.agg a) (.agg b)

inductive ValR (P : Program) (φ : Phi) (H : AH) (w : World) : Value → Value → Prop where
  | part {a b : Value} : PartR P φ H w a b → ValR P φ H w a b
  | tuple {a b : Array Value} : ArrR (PartR P φ H w) a b → ValR P φ H w (.tuple a) (.tuple b)

def frz (fr : Nat × Nat) (i : Nat) : Prop := fr.1 ≤ i ∧ i < fr.2

/-- What a real block holds of one of the evaluator's. -/
def ObjR (P : Program) (φ : Phi) (H : AH) (w : World) (c : Nat) (b : Blk) (r δ : Nat) : Prop :=
  match b.obj with
  | .cells C e fr => ∃ C' fr', w.heap[r]? = some (.cells C' e fr') ∧ δ + C.size ≤ C'.size ∧ (∀ i x y, C[i]? = some x → C'[δ + i]? = some y → CellR P φ H w x y) ∧
      (∀ i, i < C.size → frz fr' (δ + i) → frz fr i) ∧ (H.tip c b = true → ∀ i, δ + C.size ≤ i → i < C'.size → ¬ frz fr' i) ∧
      (b.exact = true → δ = 0 ∧ C'.size = C.size ∧ fr' = fr)
  | o => δ = 0 ∧ b.exact = true ∧ w.heap[r]? = some o

def shapeSame : Obj → Obj → Prop
  | .cells C e _, .cells C' e' _ => C.size = C'.size ∧ e = e'
  | .stringIter _ _, .stringIter _ _ => True
  | .map _ _, .map _ _ => True
  | _, _ => False

structure WfH (H : AH) : Prop where
  lt : ∀ c b, H.blk c = some b → c < H.next ∧ b.root ≤ c
  head : ∀ c b, H.blk c = some b → c ≤ (H.grp b.root).1 ∧ (H.grp b.root).1 < H.next
  exact : ∀ c b, H.blk c = some b → b.exact = true → b.root = c ∧ (H.grp c).1 = c ∧ ∀ d b', H.blk d = some b' → b'.root = c → d = c
  floor : ∀ c b, H.blk c = some b → (H.grp b.root).2 ≤ (H.grp b.root).1
  headBlk : ∀ c b, H.blk c = some b → ∃ b', H.blk (H.grp b.root).1 = some b' ∧ b'.root = b.root
  ver : ∀ c b, H.blk c = some b → b.ver < H.clock
  fresh : ∀ r, H.next ≤ r → H.grp r = (r, r)
  shp : ∀ c b, H.blk c = some b → shapeSame b.obj b.obj

/-- A row that is only looked at: the last of its copies has no image, so none of them is written. -/
def RO (φ : Phi) (H : AH) (b : Blk) : Prop := b.exact = false ∧ φ (H.grp b.root).1 = none

structure Sim (P : Program) (φ : Phi) (H : AH) (w : World) : Prop where
  wf : WfH H
  blk : ∀ c r δ, φ c = some (r, δ) → ∃ b, H.blk c = some b
  real : ∀ c r δ, φ c = some (r, δ) → r < w.heap.size
  obj : ∀ c r δ b, φ c = some (r, δ) → H.blk c = some b → H.live c b = true → ObjR P φ H w c b r δ
  sep : ∀ c d r δ ε b b', φ c = some (r, δ) → φ d = some (r, ε) → H.blk c = some b → H.blk d = some b' → b.root = b'.root
  ends : ∀ c d r δ ε b b' C C' e e' f f', φ c = some (r, δ) → φ d = some (r, ε) → H.blk c = some b → H.blk d = some b' → c ≤ d →
    b.obj = .cells C e f → b'.obj = .cells C' e' f' → δ + C.size ≤ ε + C'.size
  fix : Tabs w ∧ ∀ g, g ∈ fixedBlocks → g < w.heap.size ∧ ∀ c δ b, φ c = some (g, δ) → H.blk c = some b → RO φ H b

/-- Only what the evaluator's heap says of an elder block. -/
structure HStep (H H' : AH) : Prop where
  next : H.next ≤ H'.next
  clock : H.clock ≤ H'.clock
  blk : ∀ c b, H.blk c = some b → ∃ b', H'.blk c = some b' ∧ b'.root = b.root ∧ b'.exact = b.exact ∧ shapeSame b.obj b'.obj ∧ (H'.live c b' = true → H.live c b = true) ∧
    (b'.ver = b.ver ∧ b' = b ∨ H.clock ≤ b'.ver)

structure Step (P : Program) (φ : Phi) (H : AH) (w : World) (φ' : Phi) (H' : AH) (w' : World) : Prop where
  h : HStep H H'
  ext : ∀ c x, φ c = some x → φ' c = some x
  old : ∀ c, c < H.next → φ c = none → φ' c = none
  os : w'.os = w.os
  tape : w'.tape = w.tape
  output : w'.output = w.output
  size : w.heap.size ≤ w'.heap.size
  shape : ∀ (r : Nat) (C : Array Value) (e : TypeId) (fr : Nat × Nat), w.heap[r]? = some (Obj.cells C e fr) → ∃ (C' : Array Value) (fr' : Nat × Nat), w'.heap[r]? = some (Obj.cells C' e fr') ∧ C'.size = C.size
  frame : ∀ r : Nat, r < w.heap.size → (∀ c δ b, φ c = some (r, δ) → H.blk c = some b → RO φ H b ∨ (b.exact = true ∧ ∃ b', H'.blk c = some b' ∧ b'.ver = b.ver)) → w'.heap[r]? = w.heap[r]?
  new : ∀ c r δ, φ c = none → φ' c = some (r, δ) → r < w.heap.size → ∃ d ε b, φ d = some (r, ε) ∧ H.blk d = some b ∧ b.exact = false ∧ φ (H.grp b.root).1 ≠ none
  heads : ∀ c b, H.blk c = some b → φ (H.grp b.root).1 = none → (H'.grp b.root).1 = (H.grp b.root).1

theorem shapeSame.refl' {o : Obj} (h : (∃ C e f, o = .cells C e f) ∨ (∃ s p, o = .stringIter s p) ∨ (∃ e c, o = .map e c)) : shapeSame o o := by
  rcases h with ⟨_, _, _, rfl⟩ | ⟨_, _, rfl⟩ | ⟨_, _, rfl⟩ <;> simp [shapeSame]

theorem shapeSame.trans {a b c : Obj} (h : shapeSame a b) (k : shapeSame b c) : shapeSame a c := by
  cases a <;> cases b <;> simp [shapeSame] at h <;> cases c <;> simp [shapeSame] at k <;> simp [shapeSame]
  exact ⟨h.1.trans k.1, h.2.trans k.2⟩

section mono
variable {P : Program} {φ φ' : Phi} {H H' : AH} {w w' : World}

theorem Dead.mono (s : HStep H H') {c : Nat} (h : Dead H c) : Dead H' c := by
  obtain ⟨b, hb, hl⟩ := h
  obtain ⟨b', hb', _, _, _, hl', _⟩ := s.blk c b hb
  refine ⟨b', hb', ?_⟩
  cases h : H'.live c b' with
  | false => rfl
  | true => rw [hl' h] at hl; cases hl

theorem AddrR.mono (s : Step P φ H w φ' H' w') {p q : Addr} (h : AddrR φ H p q) : AddrR φ' H' p q := by
  rcases h with h | ⟨h1, h2, δ, h3, h4⟩
  · exact .inl (h.mono s.h)
  · exact .inr ⟨h1, h2, δ, s.ext _ _ h3, h4⟩

theorem SliceR.mono (s : Step P φ H w φ' H' w') {p q : Addr} {n c c' : Nat} (h : SliceR P φ H w p q n c c') : SliceR P φ' H' w' p q n c c' := by
  rcases h with h | h | ⟨h1, h2, δ, C, e, fr, b, h3, h4, h5, h6, h7, h8, h9⟩ | ⟨h1, h2, h3, h4, δ, h5, h6⟩
  · exact .inl (h.mono s.h)
  · exact .inr (.inl ⟨h.1, h.2.1, h.2.2.1, h.2.2.2.imp fun _ h => s.ext _ _ h⟩)
  · obtain ⟨b', hb', _, hex, hsh, _, _⟩ := s.h.blk _ b h5
    rw [h6] at hsh
    cases ho : b'.obj with
    | cells C2 e2 fr2 =>
      rw [ho] at hsh
      obtain ⟨hs, rfl⟩ := hsh
      refine .inr (.inr (.inl ⟨h1, h2, δ, C2, e, fr2, b', s.ext _ _ h3, h4, hb', ho, h7, hs ▸ h8, ?_⟩))
      rcases h9 with h9 | ⟨g1, g2, g3, C', fr', g4, g5⟩
      · exact .inl h9
      · obtain ⟨C3, fr3, k1, k2⟩ := s.shape _ _ _ _ g4
        exact .inr ⟨hex ▸ g1, hs ▸ g2, g3, C3, fr3, k1, k2 ▸ g5⟩
    | _ => rw [ho] at hsh; simp [shapeSame] at hsh
  · exact .inr (.inr (.inr ⟨h1, h2, h3, h4, δ, s.ext _ _ h5, h6⟩))

theorem AtomR.mono (s : Step P φ H w φ' H' w') {a b : Value} (h : AtomR P φ H w a b) : AtomR P φ' H' w' a b := by
  cases h with
  | flat h => exact .flat h
  | ptr h => exact .ptr (h.mono s)
  | slice h => exact .slice (h.mono s)
  | map h => exact .map (h.imp (·.mono s.h) (s.ext _ _))

theorem ArrR.imp {R S : Value → Value → Prop} (hrs : ∀ x y, R x y → S x y) {a b : Array Value} (h : ArrR R a b) : ArrR S a b :=
  ⟨h.1, fun i x y hx hy => hrs _ _ (h.2 i x y hx hy)⟩

theorem CellR.mono (s : Step P φ H w φ' H' w') {a b : Value} (h : CellR P φ H w a b) : CellR P φ' H' w' a b := by
  cases h with
  | atom h => exact .atom (h.mono s)
  | iface h => exact .iface (h.mono s)
  | ifaceAgg h => exact .ifaceAgg h
  | func h => exact .func (h.imp fun _ _ h => h.mono s)

theorem PartR.mono (s : Step P φ H w φ' H' w') {a b : Value} (h : PartR P φ H w a b) : PartR P φ' H' w' a b := by
  cases h with
  | junk => exact .junk
  | cell h => exact .cell (h.mono s)
  | agg h => exact .agg (h.imp fun _ _ h => h.mono s)

theorem ValR.mono (s : Step P φ H w φ' H' w') {a b : Value} (h : ValR P φ H w a b) : ValR P φ' H' w' a b := by
  cases h with
  | part h => exact .part (h.mono s)
  | tuple h => exact .tuple (h.imp fun _ _ h => h.mono s)

theorem HStep.refl (hok : ∀ c b, H.blk c = some b → shapeSame b.obj b.obj) : HStep H H :=
  ⟨Nat.le_refl _, Nat.le_refl _, fun c b hb => ⟨b, hb, rfl, rfl, hok c b hb, id, .inl ⟨rfl, rfl⟩⟩⟩

theorem HStep.trans {H'' : AH} (s : HStep H H') (t : HStep H' H'') : HStep H H'' := by
  refine ⟨Nat.le_trans s.next t.next, Nat.le_trans s.clock t.clock, fun c b hb => ?_⟩
  obtain ⟨b1, h1, h2, h3, h4, h5, h6⟩ := s.blk c b hb
  obtain ⟨b2, k1, k2, k3, k4, k5, k6⟩ := t.blk c b1 h1
  refine ⟨b2, k1, k2.trans h2, k3.trans h3, h4.trans k4, fun h => h5 (k5 h), ?_⟩
  rcases k6 with ⟨e1, rfl⟩ | k6
  · exact h6
  · exact .inr (Nat.le_trans s.clock k6)

theorem HStep.ver (s : HStep H H') {c : Nat} {b b' : Blk} (hb : H.blk c = some b) (hb' : H'.blk c = some b') (hlt : b.ver < H.clock) (hv : b'.ver = b.ver) : b' = b := by
  obtain ⟨b2, h1, _, _, _, _, h6⟩ := s.blk c b hb
  rw [hb'] at h1
  obtain rfl := Option.some.inj h1
  rcases h6 with ⟨_, h6⟩ | h6
  · exact h6
  · omega

end mono
end Go.Proofs.YtofigleaealbjaaGreatDoor.Ev
