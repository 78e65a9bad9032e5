/-
  How the evaluator's heap stands to the model's world; that this stays as both grow.
  The evaluator's heap: what a new block, a copy, a write do to it.
  The evaluator's heap and the world, step by step: a new block, a write, a copy that may be a growth in place.
  The evaluator's heap and the world, step by step: a copy of a row.
  Values of the evaluator and of the world: what is alike, what follows.
  Loads, stores and new rows: the world does what the evaluator's heap says.
-/
import Derived.Test.YtenolmhnmcjndaaGreatDoorEvOps
import Derived.Test.YtenolmhnmcjndaaGreatDoorEvFix
import Derived.Laws.IdiomCopy
import Derived.ChangeKeysEq
namespace Go.Proofs.YtenolmhnmcjndaaGreatDoor.Ev
set_option linter.unusedVariables false
set_option linter.unusedSimpArgs false
open Go

/-- Where a block of the evaluator's lies: the real block, and from which cell on. -/
abbrev Phi := Nat → Option (Nat × Nat)

def Dead (H : AH) (c : Nat) : Prop := ∃ b, H.blk c = some b ∧ H.live c b = false

def AddrR (φ : Phi) (H : AH) (p q : Addr) : Prop :=
  Dead H p.block ∨ (p.spot = none ∧ q.spot = none ∧ ∃ δ, φ p.block = some (q.block, δ) ∧ q.off = δ + p.off)

def SliceR (P : Program) (φ : Phi) (H : AH) (w : World) (p q : Addr) (n c c' : Nat) : Prop :=
  Dead H p.block ∨ (n = 0 ∧ c = 0 ∧ c' = 0 ∧ ∃ x, φ p.block = some x) ∨
  (p.spot = none ∧ q.spot = none ∧ ∃ δ C e fr b, φ p.block = some (q.block, δ) ∧ q.off = δ + p.off ∧ H.blk p.block = some b ∧ b.obj = .cells C e fr ∧
    n ≤ c ∧ p.off + c * szT P e ≤ C.size ∧
    (c' = c ∨ (b.exact = false ∧ p.off + c * szT P e = C.size ∧ c ≤ c' ∧ ∃ C' fr', w.heap[q.block]? = some (.cells C' e fr') ∧ q.off + c' * szT P e ≤ C'.size))) ∨
  -- a row that is only looked at: of its capacity nothing is said
  (p.spot = none ∧ q.spot = none ∧ c = 0 ∧ 0 < n ∧ ∃ δ, φ p.block = some (q.block, δ) ∧ q.off = δ + p.off)

def ArrR (R : Value → Value → Prop) (a b : Array Value) : Prop := a.size = b.size ∧ ∀ (i : Nat) (x y : Value), a[i]? = some x → b[i]? = some y → R x y

inductive AtomR (P : Program) (φ : Phi) (H : AH) (w : World) : Value → Value → Prop where
  | flat {a : Value} : atomB a = true → AtomR P φ H w a a
  | ptr {p q : Addr} : AddrR φ H p q → AtomR P φ H w (.pointer (some p)) (.pointer (some q))
  | slice {p q : Addr} {n c c' : Nat} : SliceR P φ H w p q n c c' → AtomR P φ H w (.slice (some p) n c) (.slice (some q) n c')
  | map {r r' : Nat} : (Dead H r ∨ φ r = some (r', 0)) → AtomR P φ H w (.map (some r)) (.map (some r'))

inductive CellR (P : Program) (φ : Phi) (H : AH) (w : World) : Value → Value → Prop where
  | atom {a b : Value} : AtomR P φ H w a b → CellR P φ H w a b
  | iface {t : TypeId} {a b : Value} : AtomR P φ H w a b → CellR P φ H w (.iface t a) (.iface t b)
  | ifaceAgg {t : TypeId} {cs : Array Value} : cs.toList.all atomB = true → CellR P φ H w (.iface t (.agg cs)) (.iface t (.agg cs))
  | func {f : Fn} {a b : Array Value} : ArrR (AtomR P φ H w) a b → CellR P φ H w (.func f #[] a) (.func f #[] b)

inductive PartR (P : Program) (φ : Phi) (H : AH) (w : World) : Value → Value → Prop where
  | junk {b : Value} : PartR P φ H w junk b
  | cell {a b : Value} : CellR P φ H w a b → PartR P φ H w a b
  | agg {a b : Array Value} : ArrR (CellR P φ H w) a b → PartR P φ H w (.agg a) (.agg b)

inductive ValR (P : Program) (φ : Phi) (H : AH) (w : World) : Value → Value → Prop where
  | part {a b : Value} : PartR P φ H w a b → ValR P φ H w a b
  | tuple {a b : Array Value} : ArrR (PartR P φ H w) a b → ValR P φ H w (.tuple a) (.tuple b)

def frz (fr : Nat × Nat) (i : Nat) : Prop := fr.1 ≤ i ∧ i < fr.2

/-- Entries of a map: the same keys, of the same age. -/
def EntR (P : Program) (φ : Phi) (H : AH) (w : World) (a b : Array MapEntry) : Prop := a.size = b.size ∧ ∀ (i : Nat) (x y : MapEntry), a[i]? = some x → b[i]? = some y → y.key = x.key ∧ y.born = x.born ∧ PartR P φ H w x.val y.val
/-- What a real block holds of one of the evaluator's. -/
def ObjR (P : Program) (φ : Phi) (H : AH) (w : World) (c : Nat) (b : Blk) (r δ : Nat) : Prop :=
  match b.obj with
  | .cells C e fr => ∃ C' fr', w.heap[r]? = some (.cells C' e fr') ∧ δ + C.size ≤ C'.size ∧ (∀ i x y, C[i]? = some x → C'[δ + i]? = some y → CellR P φ H w x y) ∧
      (∀ i, i < C.size → frz fr' (δ + i) → frz fr i) ∧ (H.tip c b = true → ∀ i, δ + C.size ≤ i → i < C'.size → ¬ frz fr' i) ∧
      (b.exact = true → δ = 0 ∧ C'.size = C.size ∧ fr' = fr)
  | .map es ck => δ = 0 ∧ b.exact = true ∧ ∃ es', w.heap[r]? = some (.map es' ck) ∧ EntR P φ H w es es'
  | o => δ = 0 ∧ b.exact = true ∧ w.heap[r]? = some o

def shapeSame : Obj → Obj → Prop
  | .cells C e _, .cells C' e' _ => C.size = C'.size ∧ e = e'
  | .stringIter _ _, .stringIter _ _ => True
  | .map _ _, .map _ _ => True
  | _, _ => False

structure WfH (H : AH) : Prop where
  lt : ∀ c b, H.blk c = some b → c < H.next ∧ b.root ≤ c
  head : ∀ c b, H.blk c = some b → c ≤ (H.grp b.root).1 ∧ (H.grp b.root).1 < H.next
  exact : ∀ c b, H.blk c = some b → b.exact = true → b.root = c ∧ (H.grp c).1 = c ∧ ∀ d b', H.blk d = some b' → b'.root = c → d = c
  floor : ∀ c b, H.blk c = some b → (H.grp b.root).2 ≤ (H.grp b.root).1
  headBlk : ∀ c b, H.blk c = some b → ∃ b', H.blk (H.grp b.root).1 = some b' ∧ b'.root = b.root
  ver : ∀ c b, H.blk c = some b → b.ver < H.clock
  fresh : ∀ r, H.next ≤ r → H.grp r = (r, r)
  shp : ∀ c b, H.blk c = some b → shapeSame b.obj b.obj

/-- A row that is only looked at: the last of its copies has no image, so none of them is written. -/
def RO (φ : Phi) (H : AH) (b : Blk) : Prop := b.exact = false ∧ φ (H.grp b.root).1 = none

structure Sim (P : Program) (φ : Phi) (H : AH) (w : World) : Prop where
  wf : WfH H
  blk : ∀ c r δ, φ c = some (r, δ) → ∃ b, H.blk c = some b
  real : ∀ c r δ, φ c = some (r, δ) → r < w.heap.size
  obj : ∀ c r δ b, φ c = some (r, δ) → H.blk c = some b → H.live c b = true → ObjR P φ H w c b r δ
  sep : ∀ c d r δ ε b b', φ c = some (r, δ) → φ d = some (r, ε) → H.blk c = some b → H.blk d = some b' → b.root = b'.root
  ends : ∀ c d r δ ε b b' C C' e e' f f', φ c = some (r, δ) → φ d = some (r, ε) → H.blk c = some b → H.blk d = some b' → c ≤ d →
    b.obj = .cells C e f → b'.obj = .cells C' e' f' → δ + C.size ≤ ε + C'.size
  fix : Tabs w ∧ ∀ g, g ∈ fixedBlocks → g < w.heap.size ∧ ∀ c δ b, φ c = some (g, δ) → H.blk c = some b → RO φ H b

/-- Only what the evaluator's heap says of an elder block. -/
structure HStep (H H' : AH) : Prop where
  next : H.next ≤ H'.next
  clock : H.clock ≤ H'.clock
  blk : ∀ c b, H.blk c = some b → ∃ b', H'.blk c = some b' ∧ b'.root = b.root ∧ b'.exact = b.exact ∧ shapeSame b.obj b'.obj ∧ (H'.live c b' = true → H.live c b = true) ∧
    (b'.ver = b.ver ∧ b' = b ∨ H.clock ≤ b'.ver)

structure Step (P : Program) (φ : Phi) (H : AH) (w : World) (φ' : Phi) (H' : AH) (w' : World) : Prop where
  h : HStep H H'
  ext : ∀ c x, φ c = some x → φ' c = some x
  old : ∀ c, c < H.next → φ c = none → φ' c = none
  os : w'.os = w.os
  tape : w'.tape = w.tape
  output : w'.output = w.output
  size : w.heap.size ≤ w'.heap.size
  shape : ∀ (r : Nat) (C : Array Value) (e : TypeId) (fr : Nat × Nat), w.heap[r]? = some (Obj.cells C e fr) → ∃ (C' : Array Value) (fr' : Nat × Nat), w'.heap[r]? = some (Obj.cells C' e fr') ∧ C'.size = C.size
  frame : ∀ r : Nat, r < w.heap.size → (∀ c δ b, φ c = some (r, δ) → H.blk c = some b → RO φ H b ∨ (b.exact = true ∧ ∃ b', H'.blk c = some b' ∧ b'.ver = b.ver)) → w'.heap[r]? = w.heap[r]?
  new : ∀ c r δ, φ c = none → φ' c = some (r, δ) → r < w.heap.size → ∃ d ε b, φ d = some (r, ε) ∧ H.blk d = some b ∧ b.exact = false ∧ φ (H.grp b.root).1 ≠ none
  heads : ∀ c b, H.blk c = some b → φ (H.grp b.root).1 = none → (H'.grp b.root).1 = (H.grp b.root).1

theorem shapeSame.refl' {o : Obj} (h : (∃ C e f, o = .cells C e f) ∨ (∃ s p, o = .stringIter s p) ∨ (∃ e c, o = .map e c)) : shapeSame o o := by
  rcases h with ⟨_, _, _, rfl⟩ | ⟨_, _, rfl⟩ | ⟨_, _, rfl⟩ <;> simp [shapeSame]

theorem shapeSame.trans {a b c : Obj} (h : shapeSame a b) (k : shapeSame b c) : shapeSame a c := by
  cases a <;> cases b <;> simp [shapeSame] at h <;> cases c <;> simp [shapeSame] at k <;> simp [shapeSame]
  exact ⟨h.1.trans k.1, h.2.trans k.2⟩

section mono
variable {P : Program} {φ φ' : Phi} {H H' : AH} {w w' : World}

theorem Dead.mono (s : HStep H H') {c : Nat} (h : Dead H c) : Dead H' c := by
  obtain ⟨b, hb, hl⟩ := h
  obtain ⟨b', hb', _, _, _, hl', _⟩ := s.blk c b hb
  refine ⟨b', hb', ?_⟩
  cases h : H'.live c b' with
  | false => rfl
  | true => rw [hl' h] at hl; cases hl

theorem AddrR.mono (s : Step P φ H w φ' H' w') {p q : Addr} (h : AddrR φ H p q) : AddrR φ' H' p q := by
  rcases h with h | ⟨h1, h2, δ, h3, h4⟩
  · exact .inl (h.mono s.h)
  · exact .inr ⟨h1, h2, δ, s.ext _ _ h3, h4⟩

theorem SliceR.mono (s : Step P φ H w φ' H' w') {p q : Addr} {n c c' : Nat} (h : SliceR P φ H w p q n c c') : SliceR P φ' H' w' p q n c c' := by
  rcases h with h | h | ⟨h1, h2, δ, C, e, fr, b, h3, h4, h5, h6, h7, h8, h9⟩ | ⟨h1, h2, h3, h4, δ, h5, h6⟩
  · exact .inl (h.mono s.h)
  · exact .inr (.inl ⟨h.1, h.2.1, h.2.2.1, h.2.2.2.imp fun _ h => s.ext _ _ h⟩)
  · obtain ⟨b', hb', _, hex, hsh, _, _⟩ := s.h.blk _ b h5
    rw [h6] at hsh
    cases ho : b'.obj with
    | cells C2 e2 fr2 =>
      rw [ho] at hsh
      obtain ⟨hs, rfl⟩ := hsh
      refine .inr (.inr (.inl ⟨h1, h2, δ, C2, e, fr2, b', s.ext _ _ h3, h4, hb', ho, h7, hs ▸ h8, ?_⟩))
      rcases h9 with h9 | ⟨g1, g2, g3, C', fr', g4, g5⟩
      · exact .inl h9
      · obtain ⟨C3, fr3, k1, k2⟩ := s.shape _ _ _ _ g4
        exact .inr ⟨hex ▸ g1, hs ▸ g2, g3, C3, fr3, k1, k2 ▸ g5⟩
    | _ => rw [ho] at hsh; simp [shapeSame] at hsh
  · exact .inr (.inr (.inr ⟨h1, h2, h3, h4, δ, s.ext _ _ h5, h6⟩))

theorem AtomR.mono (s : Step P φ H w φ' H' w') {a b : Value} (h : AtomR P φ H w a b) : AtomR P φ' H' w' a b := by
  cases h with
  | flat h => exact .flat h
  | ptr h => exact .ptr (h.mono s)
  | slice h => exact .slice (h.mono s)
  | map h => exact .map (h.imp (·.mono s.h) (s.ext _ _))

theorem ArrR.imp {R S : Value → Value → Prop} (hrs : ∀ x y, R x y → S x y) {a b : Array Value} (h : ArrR R a b) : ArrR S a b :=
  ⟨h.1, fun i x y hx hy => hrs _ _ (h.2 i x y hx hy)⟩

theorem CellR.mono (s : Step P φ H w φ' H' w') {a b : Value} (h : CellR P φ H w a b) : CellR P φ' H' w' a b := by
  cases h with
  | atom h => exact .atom (h.mono s)
  | iface h => exact .iface (h.mono s)
  | ifaceAgg h => exact .ifaceAgg h
  | func h => exact .func (h.imp fun _ _ h => h.mono s)

theorem PartR.mono (s : Step P φ H w φ' H' w') {a b : Value} (h : PartR P φ H w a b) : PartR P φ' H' w' a b := by
  cases h with
  | junk => exact .junk
  | cell h => exact .cell (h.mono s)
  | agg h => exact .agg (h.imp fun _ _ h => h.mono s)

theorem ValR.mono (s : Step P φ H w φ' H' w') {a b : Value} (h : ValR P φ H w a b) : ValR P φ' H' w' a b := by
  cases h with
  | part h => exact .part (h.mono s)
  | tuple h => exact .tuple (h.imp fun _ _ h => h.mono s)

theorem HStep.refl (hok : ∀ c b, H.blk c = some b → shapeSame b.obj b.obj) : HStep H H :=
  ⟨Nat.le_refl _, Nat.le_refl _, fun c b hb => ⟨b, hb, rfl, rfl, hok c b hb, id, .inl ⟨rfl, rfl⟩⟩⟩

theorem HStep.trans {H'' : AH} (s : HStep H H') (t : HStep H' H'') : HStep H H'' := by
  refine ⟨Nat.le_trans s.next t.next, Nat.le_trans s.clock t.clock, fun c b hb => ?_⟩
  obtain ⟨b1, h1, h2, h3, h4, h5, h6⟩ := s.blk c b hb
  obtain ⟨b2, k1, k2, k3, k4, k5, k6⟩ := t.blk c b1 h1
  refine ⟨b2, k1, k2.trans h2, k3.trans h3, h4.trans k4, fun h => h5 (k5 h), ?_⟩
  rcases k6 with ⟨e1, rfl⟩ | k6
  · exact h6
  · exact .inr (Nat.le_trans s.clock k6)

theorem HStep.ver (s : HStep H H') {c : Nat} {b b' : Blk} (hb : H.blk c = some b) (hb' : H'.blk c = some b') (hlt : b.ver < H.clock) (hv : b'.ver = b.ver) : b' = b := by
  obtain ⟨b2, h1, _, _, _, _, h6⟩ := s.blk c b hb
  rw [hb'] at h1
  obtain rfl := Option.some.inj h1
  rcases h6 with ⟨_, h6⟩ | h6
  · exact h6
  · omega

end mono
end Go.Proofs.YtenolmhnmcjndaaGreatDoor.Ev
namespace Go.Proofs.YtenolmhnmcjndaaGreatDoor.Ev
set_option linter.unusedVariables false
set_option linter.unusedSimpArgs false
open Go

section
variable {H : AH} {o : Obj} {ex : Bool} {c d r root : Nat} {b : Blk}

theorem blk_alloc : (H.alloc o ex).blk d = if d = H.next then some ⟨o, H.next, ex, H.clock⟩ else H.blk d := by
  simp only [AH.blk, AH.alloc]; exact Tr.get_set _ _ _ _ _ (by omega)
theorem grp_alloc : (H.alloc o ex).grp r = H.grp r := rfl
theorem live_alloc : (H.alloc o ex).live d b = H.live d b := rfl
theorem tip_alloc : (H.alloc o ex).tip d b = H.tip d b := rfl
theorem next_alloc : (H.alloc o ex).next = H.next + 1 := rfl

theorem blk_copyOf : (H.copyOf o root).blk d = if d = H.next then some ⟨o, root, false, H.clock⟩ else H.blk d := by
  simp only [AH.blk, AH.copyOf]; exact Tr.get_set _ _ _ _ _ (by omega)
theorem grp_copyOf : (H.copyOf o root).grp r = if r = root then (H.next, (H.grp root).2) else H.grp r := by
  simp only [AH.grp, AH.copyOf, Tr.get_set _ _ root _ _ (Nat.lt_succ_self root)]
  split <;> simp_all
theorem next_copyOf : (H.copyOf o root).next = H.next + 1 := rfl

theorem blk_put : (H.put c b o).blk d = if d = c then some { b with obj := o, ver := H.clock } else H.blk d := by
  simp only [AH.blk, AH.put]; exact Tr.get_set _ _ _ _ _ (by omega)
theorem grp_put : (H.put c b o).grp r = if r = b.root then ((H.grp b.root).1, c) else H.grp r := by
  unfold AH.put AH.grp
  simp only
  split
  · rename_i h
    have h := Nat.eq_of_beq_eq_true h
    split
    · rename_i e; subst e; exact Prod.ext rfl h
    · rfl
  · rw [Tr.get_set _ _ b.root _ _ (Nat.lt_succ_self _)]
    split <;> simp_all
theorem next_put : (H.put c b o).next = H.next := rfl
theorem clock_put : (H.put c b o).clock = H.clock + 1 := rfl

theorem blk_alloc_new : (H.alloc o ex).blk H.next = some ⟨o, H.next, ex, H.clock⟩ := by rw [blk_alloc, if_pos rfl]
theorem blk_copyOf_new : (H.copyOf o root).blk H.next = some ⟨o, root, false, H.clock⟩ := by rw [blk_copyOf, if_pos rfl]
theorem blk_put_same : (H.put c b o).blk c = some ⟨o, b.root, b.exact, H.clock⟩ := by rw [blk_put, if_pos rfl]
theorem live_iff : H.live c b = true ↔ (H.grp b.root).2 ≤ c := by simp [AH.live]
theorem tip_iff : H.tip c b = true ↔ (H.grp b.root).1 = c := by simp [AH.tip]

theorem WfH.empty : WfH AH.empty := by
  constructor <;> intro c <;> (try intro b h) <;> first | (simp [AH.empty, AH.blk, Tr.get_nil] at h; done) | skip
  intro _; simp [AH.empty, AH.grp, Tr.get_nil]

theorem WfH.none (hw : WfH H) (h : H.next ≤ c) : H.blk c = none := by
  cases hb : H.blk c with
  | none => rfl
  | some b => have := (hw.lt c b hb).1; omega

theorem WfH.alloc (hw : WfH H) (ho : shapeSame o o) : WfH (H.alloc o ex) where
  lt := fun d b hb => by
    rw [blk_alloc] at hb; rw [next_alloc]
    split at hb
    · obtain rfl := Option.some.inj hb; simp; omega
    · have := hw.lt d b hb; omega
  head := fun d b hb => by
    rw [blk_alloc] at hb; rw [grp_alloc, next_alloc]
    split at hb
    · obtain rfl := Option.some.inj hb; rw [hw.fresh _ (Nat.le_refl _)]; simp; omega
    · have := hw.head d b hb; omega
  exact := fun d b hb he => by
    rw [blk_alloc] at hb; rw [grp_alloc]
    split at hb
    · rename_i e; subst e; obtain rfl := Option.some.inj hb
      refine ⟨rfl, by rw [hw.fresh _ (Nat.le_refl _)], fun k b' hk hr => ?_⟩
      rw [blk_alloc] at hk
      split at hk
      · assumption
      · have := hw.lt k b' hk; omega
    · have hx := hw.exact d b hb he
      refine ⟨hx.1, hx.2.1, fun k b' hk hr => ?_⟩
      rw [blk_alloc] at hk
      split at hk
      · obtain rfl := Option.some.inj hk
        have := hw.lt d b hb; simp at hr; omega
      · exact hx.2.2 k b' hk hr
  floor := fun d b hb => by
    rw [blk_alloc] at hb; rw [grp_alloc]
    split at hb
    · obtain rfl := Option.some.inj hb; rw [hw.fresh _ (Nat.le_refl _)]; simp
    · exact hw.floor d b hb
  headBlk := fun d b hb => by
    rw [blk_alloc] at hb; rw [grp_alloc]
    split at hb
    · obtain rfl := Option.some.inj hb
      rw [hw.fresh _ (Nat.le_refl _)]
      exact ⟨_, blk_alloc_new, rfl⟩
    · obtain ⟨b', h1, h2⟩ := hw.headBlk d b hb
      exact ⟨b', by rw [blk_alloc, if_neg (by have := (hw.lt _ _ h1).1; omega)]; exact h1, h2⟩
  ver := fun d b hb => by
    rw [blk_alloc] at hb
    show b.ver < H.clock + 1
    split at hb
    · obtain rfl := Option.some.inj hb; simp
    · have := hw.ver d b hb; omega
  fresh := fun r hr => by rw [grp_alloc]; exact hw.fresh r (by rw [next_alloc] at hr; omega)
  shp := fun d b hb => by
    rw [blk_alloc] at hb
    split at hb
    · obtain rfl := Option.some.inj hb; exact ho
    · exact hw.shp d b hb

theorem HStep.alloc (hw : WfH H) : HStep H (H.alloc o ex) where
  next := by rw [next_alloc]; omega
  clock := by show H.clock ≤ H.clock + 1; omega
  blk := fun d b hb => ⟨b, by rw [blk_alloc, if_neg (by have := (hw.lt _ _ hb).1; omega)]; exact hb, rfl, rfl, hw.shp d b hb, id, .inl ⟨rfl, rfl⟩⟩

/-- A copy of a row, whose tip it was. -/
theorem WfH.copyOf (hw : WfH H) (hb : H.blk c = some b) (he : b.exact = false) (ho : shapeSame o o) : WfH (H.copyOf o b.root) where
  lt := fun d b' hd => by
    have hr := hw.lt c b hb
    rw [blk_copyOf] at hd; rw [next_copyOf]
    split at hd
    · obtain rfl := Option.some.inj hd; simp; omega
    · have := hw.lt d b' hd; omega
  head := fun d b' hd => by
    rw [blk_copyOf] at hd; rw [grp_copyOf, next_copyOf]
    split at hd
    · obtain rfl := Option.some.inj hd; simp; omega
    · have := hw.head d b' hd
      have := hw.lt d b' hd
      split <;> omega
  exact := fun d b' hd hx => by
    have hr := hw.lt c b hb
    rw [blk_copyOf] at hd; rw [grp_copyOf]
    split at hd
    · obtain rfl := Option.some.inj hd; simp at hx
    · have h := hw.exact d b' hd hx
      have hne : ¬ (d = b.root) := fun e => by
        subst e
        have := h.2.2 c b hb rfl
        rw [← this, hb] at hd
        obtain rfl := Option.some.inj hd
        rw [he] at hx; cases hx
      refine ⟨h.1, by rw [if_neg hne]; exact h.2.1, fun k b2 hk hrt => ?_⟩
      rw [blk_copyOf] at hk
      split at hk
      · obtain rfl := Option.some.inj hk; exact absurd hrt.symm hne
      · exact h.2.2 k b2 hk hrt
  floor := fun d b' hd => by
    rw [blk_copyOf] at hd; rw [grp_copyOf]
    have hf := hw.floor c b hb
    have hh := hw.head c b hb
    split at hd
    · obtain rfl := Option.some.inj hd; simp only [if_true]; omega
    · split
      · simp only; omega
      · exact hw.floor d b' hd
  headBlk := fun d b' hd => by
    rw [blk_copyOf] at hd; rw [grp_copyOf]
    split at hd
    · obtain rfl := Option.some.inj hd
      simp only [if_true]
      exact ⟨_, blk_copyOf_new, rfl⟩
    · split
      · rename_i e
        exact ⟨_, blk_copyOf_new, e.symm⟩
      · obtain ⟨b2, h1, h2⟩ := hw.headBlk d b' hd
        exact ⟨b2, by rw [blk_copyOf, if_neg (by have := (hw.lt _ _ h1).1; omega)]; exact h1, h2⟩
  ver := fun d b' hd => by
    rw [blk_copyOf] at hd
    show b'.ver < H.clock + 1
    split at hd
    · obtain rfl := Option.some.inj hd; simp
    · have := hw.ver d b' hd; omega
  fresh := fun r hr => by
    have := hw.lt c b hb
    rw [next_copyOf] at hr
    rw [grp_copyOf, if_neg (by omega)]; exact hw.fresh r (by omega)
  shp := fun d b' hd => by
    rw [blk_copyOf] at hd
    split at hd
    · obtain rfl := Option.some.inj hd; exact ho
    · exact hw.shp d b' hd

theorem HStep.copyOf (hw : WfH H) : HStep H (H.copyOf o root) where
  next := by rw [next_copyOf]; omega
  clock := by show H.clock ≤ H.clock + 1; omega
  blk := fun d b hb => ⟨b, by rw [blk_copyOf, if_neg (by have := (hw.lt _ _ hb).1; omega)]; exact hb, rfl, rfl, hw.shp d b hb, fun h => by
    rw [live_iff] at *; rw [grp_copyOf] at h; split at h
    · rename_i e; subst e; exact h
    · exact h, .inl ⟨rfl, rfl⟩⟩

theorem WfH.put (hw : WfH H) (hb : H.blk c = some b) (hl : H.live c b = true) (ht : H.tip c b = true) (ho' : shapeSame o o) : WfH (H.put c b o) := by
  have get : ∀ d b', (H.put c b o).blk d = some b' → ∃ b0, H.blk d = some b0 ∧ b0.root = b'.root ∧ b0.exact = b'.exact ∧ b'.ver ≤ H.clock := fun d b' hd => by
    rw [blk_put] at hd
    split at hd
    · rename_i e; subst e; obtain rfl := Option.some.inj hd; exact ⟨b, hb, rfl, rfl, Nat.le_refl _⟩
    · exact ⟨b', hd, rfl, rfl, Nat.le_of_lt (hw.ver _ _ hd)⟩
  have back : ∀ d b0, H.blk d = some b0 → ∃ b', (H.put c b o).blk d = some b' ∧ b'.root = b0.root := fun d b0 hd => by
    rw [blk_put]
    split
    · rename_i e; subst e; rw [hb] at hd; obtain rfl := Option.some.inj hd; exact ⟨_, rfl, rfl⟩
    · exact ⟨b0, hd, rfl⟩
  rw [live_iff] at hl
  rw [tip_iff] at ht
  constructor
  case lt => intro d b' hd; obtain ⟨b0, h0, hr, _⟩ := get d b' hd; rw [← hr]; exact hw.lt d b0 h0
  case head =>
    intro d b' hd; obtain ⟨b0, h0, hr, _⟩ := get d b' hd
    rw [← hr, grp_put, next_put]
    have := hw.head d b0 h0
    split
    · rename_i e; rw [e] at this; exact this
    · exact this
  case exact =>
    intro d b' hd hx; obtain ⟨b0, h0, hr, he, _⟩ := get d b' hd
    have h := hw.exact d b0 h0 (he.trans hx)
    refine ⟨hr ▸ h.1, ?_, fun k b2 hk hrt => ?_⟩
    · rw [grp_put]; split
      · rename_i e; subst e; exact h.2.1
      · exact h.2.1
    · obtain ⟨b3, h3, hr3, _⟩ := get k b2 hk
      exact h.2.2 k b3 h3 (hr3.trans hrt)
  case floor =>
    intro d b' hd; obtain ⟨b0, h0, hr, _⟩ := get d b' hd
    rw [← hr, grp_put]
    split
    · simp; omega
    · exact hw.floor d b0 h0
  case headBlk =>
    intro d b' hd; obtain ⟨b0, h0, hr, _⟩ := get d b' hd
    obtain ⟨b1, h1, h2⟩ := hw.headBlk d b0 h0
    have he : ((H.put c b o).grp b'.root).1 = (H.grp b0.root).1 := by
      rw [← hr, grp_put]; split
      · rename_i e; rw [e]
      · rfl
    rw [he]
    obtain ⟨b2, h3, h4⟩ := back _ _ h1
    exact ⟨b2, h3, by rw [h4, h2, hr]⟩
  case ver => intro d b' hd; obtain ⟨b0, _, _, _, hv⟩ := get d b' hd; rw [clock_put]; omega
  case fresh =>
    intro r hr
    rw [next_put] at hr
    rw [grp_put, if_neg (by have := hw.lt c b hb; omega)]; exact hw.fresh r hr
  case shp =>
    intro d b' hd
    rw [blk_put] at hd
    split at hd
    · obtain rfl := Option.some.inj hd; exact ho'
    · exact hw.shp d b' hd

theorem HStep.put (hw : WfH H) (hb : H.blk c = some b) (hl : H.live c b = true) (ho : shapeSame b.obj o) : HStep H (H.put c b o) where
  next := Nat.le_refl _
  clock := by rw [clock_put]; omega
  blk := fun d b0 hd => by
    rw [live_iff] at hl
    have hlive : ∀ b' : Blk, b'.root = b0.root → (H.put c b o).live d b' = true → H.live d b0 = true := fun b' hr h => by
      rw [live_iff] at *; rw [grp_put, hr] at h
      split at h
      · rename_i e; rw [e]; simp at h; omega
      · exact h
    by_cases e : d = c
    · subst e
      rw [hb] at hd; obtain rfl := Option.some.inj hd
      exact ⟨_, blk_put_same, rfl, rfl, ho, hlive _ rfl, .inr (Nat.le_refl _)⟩
    · exact ⟨b0, by rw [blk_put, if_neg e]; exact hd, rfl, rfl, hw.shp d b0 hd, hlive _ rfl, .inl ⟨rfl, rfl⟩⟩
end
end Go.Proofs.YtenolmhnmcjndaaGreatDoor.Ev
namespace Go.Proofs.YtenolmhnmcjndaaGreatDoor.Ev
set_option linter.unusedVariables false
set_option linter.unusedSimpArgs false
open Go

def SameOut (w w' : World) : Prop := w'.os = w.os ∧ w'.tape = w.tape ∧ w'.output = w.output
theorem SameOut.refl (w : World) : SameOut w w := ⟨rfl, rfl, rfl⟩
theorem SameOut.trans {a b c : World} (h : SameOut a b) (k : SameOut b c) : SameOut a c := ⟨k.1.trans h.1, k.2.1.trans h.2.1, k.2.2.trans h.2.2⟩

def upd (φ : Phi) (c : Nat) (x : Nat × Nat) : Phi := fun d => if d = c then some x else φ d
theorem upd_same {φ : Phi} {c : Nat} {x : Nat × Nat} : upd φ c x c = some x := by simp [upd]
theorem upd_ne {φ : Phi} {c d : Nat} {x : Nat × Nat} (h : d ≠ c) : upd φ c x d = φ d := by simp [upd, h]

section
variable {P : Program} {φ φ' φ'' : Phi} {H H' H'' : AH} {w w' w'' : World}

theorem Sim.lt (hs : Sim P φ H w) {c : Nat} {x : Nat × Nat} (h : φ c = some x) : c < H.next := by
  obtain ⟨b, hb⟩ := hs.blk c x.1 x.2 h
  exact (hs.wf.lt c b hb).1

theorem Sim.fresh (hs : Sim P φ H w) : φ H.next = none := by
  cases h : φ H.next with
  | none => rfl
  | some x => exact absurd (hs.lt h) (by omega)

/-- The world's other parts may turn. -/
theorem Step.of_heap (hs : Sim P φ H w) (hh : w'.heap = w.heap) (ho : SameOut w w') : Step P φ H w φ H w' where
  h := HStep.refl hs.wf.shp
  ext := fun _ _ h => h
  old := fun _ _ h => h
  os := ho.1
  tape := ho.2.1
  output := ho.2.2
  size := by rw [hh]; exact Nat.le_refl _
  shape := fun r C e fr h => ⟨C, fr, by rw [hh]; exact h, rfl⟩
  frame := fun r _ _ => by rw [hh]
  new := fun c r δ h h' => by rw [h] at h'; cases h'
  heads := fun _ _ _ _ => rfl

theorem Step.refl (hs : Sim P φ H w) : Step P φ H w φ H w := Step.of_heap hs rfl (SameOut.refl w)

theorem Step.trans (hs : Sim P φ H w) (s : Step P φ H w φ' H' w') (t : Step P φ' H' w' φ'' H'' w'') : Step P φ H w φ'' H'' w'' where
  h := s.h.trans t.h
  ext := fun c x h => t.ext c x (s.ext c x h)
  old := fun c hc h => t.old c (Nat.lt_of_lt_of_le hc s.h.next) (s.old c hc h)
  os := t.os.trans s.os
  tape := t.tape.trans s.tape
  output := t.output.trans s.output
  size := Nat.le_trans s.size t.size
  shape := fun r C e fr h => by
    obtain ⟨C1, f1, h1, h2⟩ := s.shape r C e fr h
    obtain ⟨C2, f2, h3, h4⟩ := t.shape r C1 e f1 h1
    exact ⟨C2, f2, h3, h4.trans h2⟩
  frame := fun r hr hc => by
    have roT : ∀ c b, H.blk c = some b → RO φ H b → ∀ b1, H'.blk c = some b1 → RO φ' H' b1 := fun c b h2 hro b1 hb1 => by
      obtain ⟨b1', e1, er, ex, _⟩ := s.h.blk c b h2
      rw [hb1] at e1; obtain rfl := Option.some.inj e1
      refine ⟨ex.trans hro.1, ?_⟩
      rw [er, s.heads c b h2 hro.2]
      exact s.old _ (hs.wf.head c b h2).2 hro.2
    have key : ∀ c δ b, φ c = some (r, δ) → H.blk c = some b → RO φ H b ∨ (b.exact = true ∧ ∃ b1, H'.blk c = some b1 ∧ b1 = b) := fun c δ b h1 h2 => by
      rcases hc c δ b h1 h2 with h | ⟨he, b2, hb2, hv⟩
      · exact .inl h
      obtain ⟨b1, hb1, _, _, _, _, h6⟩ := s.h.blk c b h2
      refine .inr ⟨he, b1, hb1, ?_⟩
      rcases h6 with ⟨_, h6⟩ | h6
      · exact h6
      · exfalso
        obtain ⟨b3, hb3, _, _, _, _, k6⟩ := t.h.blk c b1 hb1
        rw [hb2] at hb3; obtain rfl := Option.some.inj hb3
        have hlt := hs.wf.ver c b h2
        have hclk := s.h.clock
        rcases k6 with ⟨k6, _⟩ | k6 <;> omega
    rw [t.frame r (Nat.lt_of_lt_of_le hr s.size), s.frame r hr]
    · intro c δ b h1 h2
      rcases key c δ b h1 h2 with h | ⟨he, b1, hb1, rfl⟩
      · exact .inl h
      · exact .inr ⟨he, b1, hb1, rfl⟩
    · intro c δ b1 h1 h2
      cases h0 : φ c with
      | none =>
        obtain ⟨d, ε, b, hd, hb, hx, hm⟩ := s.new c r δ h0 h1 hr
        rcases key d ε b hd hb with h | ⟨he, _⟩
        · exact absurd h.2 hm
        · rw [hx] at he; cases he
      | some x =>
        have := s.ext c x h0
        rw [h1] at this; obtain rfl := Option.some.inj this
        obtain ⟨b0, hb0⟩ := hs.blk c r δ h0
        rcases key c δ b0 h0 hb0 with h | ⟨he, b2, hb2, rfl⟩
        · exact .inl (roT c b0 hb0 h b1 h2)
        · rcases hc c δ b2 h0 hb0 with h | ⟨_, b3, hb3, hv⟩
          · exact .inl (roT c b2 hb0 h b1 h2)
          · rw [hb2] at h2; obtain rfl := Option.some.inj h2
            exact .inr ⟨he, b3, hb3, hv⟩
  new := fun c r δ h0 h2 hr => by
    cases h1 : φ' c with
    | some x =>
      have := t.ext c x h1
      rw [h2] at this; obtain rfl := Option.some.inj this
      exact s.new c r δ h0 h1 hr
    | none =>
      obtain ⟨d, ε, b1, hd, hb1, hx, hm⟩ := t.new c r δ h1 h2 (Nat.lt_of_lt_of_le hr s.size)
      cases hd0 : φ d with
      | none => exact s.new d r ε hd0 hd hr
      | some x =>
        have := s.ext d x hd0
        rw [hd] at this; obtain rfl := Option.some.inj this
        obtain ⟨b0, hb0⟩ := hs.blk d r ε hd0
        obtain ⟨b2, hb2, hrt, hex, _⟩ := s.h.blk d b0 hb0
        rw [hb1] at hb2; obtain rfl := Option.some.inj hb2
        refine ⟨d, ε, b0, hd0, hb0, hex ▸ hx, fun hn => hm ?_⟩
        rw [hrt, s.heads d b0 hb0 hn]
        exact s.old _ (hs.wf.head d b0 hb0).2 hn
  heads := fun c b hb hn => by
    obtain ⟨b1, hb1, er, _⟩ := s.h.blk c b hb
    have e1 := s.heads c b hb hn
    have e2 := t.heads c b1 hb1 (by rw [er, e1]; exact s.old _ (hs.wf.head c b hb).2 hn)
    rw [er] at e2
    exact e2.trans e1

theorem ObjR.mono (s : Step P φ H w φ' H' w') {c : Nat} {b : Blk} {r δ : Nat} (hr : w'.heap[r]? = w.heap[r]?) (ht : H'.tip c b = true → H.tip c b = true)
    (h : ObjR P φ H w c b r δ) : ObjR P φ' H' w' c b r δ := by
  unfold ObjR at *
  split
  · rename_i C e fr ho
    simp only [ho] at h
    obtain ⟨C', fr', h1, h2, h3, h4, h5, h6⟩ := h
    exact ⟨C', fr', hr.trans h1, h2, fun i x y hx hy => (h3 i x y hx hy).mono s, h4, fun hh => h5 (ht hh), h6⟩
  · rename_i es ck ho
    simp only [ho] at h
    obtain ⟨h1, h2, es', h3, h4, h5⟩ := h
    exact ⟨h1, h2, es', hr.trans h3, h4, fun i x y hx hy => by obtain ⟨k1, k2, k3⟩ := h5 i x y hx hy; exact ⟨k1, k2, k3.mono s⟩⟩
  · rename_i hno hno2
    split at h
    · rename_i C e fr ho; exact absurd ho (hno C e fr)
    · rename_i es ck ho; exact absurd ho (hno2 es ck)
    · exact ⟨h.1, h.2.1, hr.trans h.2.2⟩

/-! ### A new block -/
theorem step_alloc (hs : Sim P φ H w) {o o' : Obj} {ex : Bool} (hh : w'.heap = w.heap.push o') (ho : SameOut w w') :
    Step P φ H w (upd φ H.next (w.heap.size, 0)) (H.alloc o ex) w' where
  h := HStep.alloc hs.wf
  ext := fun c x h => by rw [upd_ne (by have := hs.lt h; omega)]; exact h
  old := fun c hc h => by rw [upd_ne (by omega)]; exact h
  os := ho.1
  tape := ho.2.1
  output := ho.2.2
  size := by rw [hh]; simp
  shape := fun r C e fr h => ⟨C, fr, by rw [hh, Array.getElem?_push, if_neg (by have := (Array.getElem?_eq_some_iff.1 h).1; omega)]; exact h, rfl⟩
  frame := fun r hr _ => by rw [hh, Array.getElem?_push, if_neg (by omega)]
  new := fun c r δ h h' hr => by
    unfold upd at h'; split at h'
    · obtain h' := Option.some.inj h'; simp only [Prod.mk.injEq] at h'; omega
    · rw [h] at h'; cases h'
  heads := fun _ _ _ _ => rfl

theorem sim_alloc (hs : Sim P φ H w) {o o' : Obj} {ex : Bool} (hh : w'.heap = w.heap.push o') (ho : SameOut w w') (hsh : shapeSame o o)
    (hobj : ObjR P (upd φ H.next (w.heap.size, 0)) (H.alloc o ex) w' H.next ⟨o, H.next, ex, H.clock⟩ w.heap.size 0) :
    Sim P (upd φ H.next (w.heap.size, 0)) (H.alloc o ex) w' := by
  have hst := step_alloc (ex := ex) (o := o) hs hh ho
  have hget : ∀ k, k < w.heap.size → w'.heap[k]? = w.heap[k]? := fun k hk => by rw [hh, Array.getElem?_push, if_neg (by omega)]
  have hcase : ∀ c r δ, upd φ H.next (w.heap.size, 0) c = some (r, δ) → (c = H.next ∧ r = w.heap.size ∧ δ = 0) ∨ (c ≠ H.next ∧ φ c = some (r, δ) ∧ r < w.heap.size) := fun c r δ h => by
    unfold upd at h; split at h
    · rename_i e; obtain h := Option.some.inj h; simp only [Prod.mk.injEq] at h; exact .inl ⟨e, h.1.symm, h.2.symm⟩
    · rename_i e; exact .inr ⟨e, h, hs.real c r δ h⟩
  have hblk : ∀ c, c ≠ H.next → (H.alloc o ex).blk c = H.blk c := fun c hc => by rw [blk_alloc, if_neg hc]
  constructor
  case wf => exact hs.wf.alloc hsh
  case blk =>
    intro c r δ h
    rcases hcase c r δ h with ⟨rfl, _, _⟩ | ⟨hc, h, _⟩
    · exact ⟨_, blk_alloc_new⟩
    · rw [hblk c hc]; exact hs.blk c r δ h
  case real =>
    intro c r δ h
    rw [hh]; simp
    rcases hcase c r δ h with ⟨_, rfl, _⟩ | ⟨_, _, h⟩ <;> omega
  case fix =>
    refine ⟨Tabs_local (fun g hg => hget g (hs.fix.2 g hg).1) hs.fix.1, fun g hg => ⟨?_, fun c δ b h hb => ?_⟩⟩
    · rw [hh]; simp; have := (hs.fix.2 g hg).1; omega
    · rcases hcase c g δ h with ⟨_, h2, _⟩ | ⟨hc', h2, _⟩
      · have := (hs.fix.2 g hg).1; omega
      · rw [hblk c hc'] at hb
        have hro := (hs.fix.2 g hg).2 c δ b h2 hb
        exact ⟨hro.1, by rw [grp_alloc, upd_ne (by have := (hs.wf.head c b hb).2; omega)]; exact hro.2⟩
  case obj =>
    intro c r δ b h hb hl
    rcases hcase c r δ h with ⟨rfl, rfl, rfl⟩ | ⟨hc, h, hr⟩
    · rw [blk_alloc_new] at hb; obtain rfl := Option.some.inj hb; exact hobj
    · rw [hblk c hc] at hb
      exact ObjR.mono hst (hget r hr) id (hs.obj c r δ b h hb hl)
  case sep =>
    intro c d r δ ε b b' h k hb hb'
    rcases hcase c r δ h with ⟨rfl, rfl, rfl⟩ | ⟨hc, h, hr⟩ <;> rcases hcase d _ ε k with ⟨rfl, h2, rfl⟩ | ⟨hd, k, hr'⟩
    · rw [hb] at hb'; obtain rfl := Option.some.inj hb'; rfl
    · omega
    · omega
    · rw [hblk c hc] at hb; rw [hblk d hd] at hb'; exact hs.sep c d r δ ε b b' h k hb hb'
  case ends =>
    intro c d r δ ε b b' C C' e e' f f' h k hb hb' hcd hC hC'
    rcases hcase c r δ h with ⟨rfl, rfl, rfl⟩ | ⟨hc, h, hr⟩ <;> rcases hcase d _ ε k with ⟨rfl, h2, rfl⟩ | ⟨hd, k, hr'⟩
    · rw [hb] at hb'; obtain rfl := Option.some.inj hb'; rw [hC] at hC'; cases hC'; exact Nat.le_refl _
    · omega
    · omega
    · rw [hblk c hc] at hb; rw [hblk d hd] at hb'; exact hs.ends c d r δ ε b b' C C' e e' f f' h k hb hb' hcd hC hC'

/-! ### A write -/
theorem step_put (hs : Sim P φ H w) {c r δ : Nat} {b : Blk} {o o' : Obj} (hφ : φ c = some (r, δ)) (hb : H.blk c = some b) (hl : H.live c b = true) (ht : H.tip c b = true)
    (hsh : shapeSame b.obj o) (hsz : w'.heap.size = w.heap.size) (hh : ∀ k, w'.heap[k]? = if k = r then some o' else w.heap[k]?) (ho : SameOut w w')
    (hreal : ∀ C e fr, w.heap[r]? = some (.cells C e fr) → ∃ C' fr', o' = .cells C' e fr' ∧ C'.size = C.size) :
    Step P φ H w φ (H.put c b o) w' where
  h := HStep.put hs.wf hb hl hsh
  ext := fun _ _ h => h
  old := fun _ _ h => h
  os := ho.1
  tape := ho.2.1
  output := ho.2.2
  size := by rw [hsz]; exact Nat.le_refl _
  shape := fun k C e fr h => by
    rw [hh]
    split
    · rename_i e1; subst e1; obtain ⟨C', fr', rfl, h2⟩ := hreal C e fr h; exact ⟨C', fr', rfl, h2⟩
    · exact ⟨C, fr, h, rfl⟩
  frame := fun k _ hc => by
    rw [hh]
    split
    · rename_i e1; subst e1
      rcases hc c δ b hφ hb with h | ⟨_, b', h1, h2⟩
      · have := h.2
        rw [tip_iff.1 ht, hφ] at this; cases this
      rw [blk_put_same] at h1; obtain rfl := Option.some.inj h1
      have := hs.wf.ver c b hb
      simp only at h2; omega
    · rfl
  new := fun d k ε h h' => by rw [h] at h'; cases h'
  heads := fun d b' _ _ => by rw [grp_put]; split
                              · rename_i e; rw [e]
                              · rfl

theorem sim_put (hs : Sim P φ H w) {c r δ : Nat} {b : Blk} {o o' : Obj} (hφ : φ c = some (r, δ)) (hb : H.blk c = some b) (hl : H.live c b = true) (ht : H.tip c b = true)
    (hsh : shapeSame b.obj o) (hsh' : shapeSame o o) (hsz : w'.heap.size = w.heap.size) (hh : ∀ k, w'.heap[k]? = if k = r then some o' else w.heap[k]?) (ho : SameOut w w')
    (hreal : ∀ C e fr, w.heap[r]? = some (.cells C e fr) → ∃ C' fr', o' = .cells C' e fr' ∧ C'.size = C.size)
    (hobj : ObjR P φ (H.put c b o) w' c ⟨o, b.root, b.exact, H.clock⟩ r δ) : Sim P φ (H.put c b o) w' := by
  have hst := step_put (o := o) hs hφ hb hl ht hsh hsz hh ho hreal
  have hcell : ∀ d C e f, (∃ b', (H.put c b o).blk d = some b' ∧ b'.obj = .cells C e f) → ∃ b0 C0 f0, H.blk d = some b0 ∧ b0.obj = .cells C0 e f0 ∧ C0.size = C.size := fun d C e f ⟨b', h1, h2⟩ => by
    rw [blk_put] at h1
    split at h1
    · rename_i e1; subst e1; obtain rfl := Option.some.inj h1
      refine ⟨b, ?_⟩
      simp only at h2; subst h2
      cases hbo : b.obj <;> rw [hbo] at hsh <;> simp [shapeSame] at hsh
      rename_i C0 e0 f0
      obtain ⟨h3, rfl⟩ := hsh
      exact ⟨C0, f0, hb, rfl, h3⟩
    · exact ⟨b', C, f, h1, h2, rfl⟩
  constructor
  case wf => exact hs.wf.put hb hl ht hsh'
  case blk =>
    intro d k ε h
    obtain ⟨b0, h0⟩ := hs.blk d k ε h
    rw [blk_put]; split
    · exact ⟨_, rfl⟩
    · exact ⟨b0, h0⟩
  case real => intro d k ε h; rw [hsz]; exact hs.real d k ε h
  case fix =>
    have hne : ∀ g, g ∈ fixedBlocks → g ≠ r := fun g hg e => by
      have := ((hs.fix.2 g hg).2 c δ b (e ▸ hφ) hb).2
      rw [tip_iff.1 ht, hφ] at this; cases this
    refine ⟨Tabs_local (fun g hg => by rw [hh, if_neg (hne g hg)]) hs.fix.1, fun g hg => ⟨by rw [hsz]; exact (hs.fix.2 g hg).1, fun d ε b' hd hb' => ?_⟩⟩
    have hdc : d ≠ c := fun e => hne g hg (by rw [e, hφ] at hd; exact ((Prod.mk.inj (Option.some.inj hd)).1).symm)
    rw [blk_put, if_neg hdc] at hb'
    have hro := (hs.fix.2 g hg).2 d ε b' hd hb'
    refine ⟨hro.1, ?_⟩
    rw [grp_put]
    split
    · rename_i e; rw [← e]; exact hro.2
    · exact hro.2
  case obj =>
    intro d k ε b' h hd hl'
    by_cases e : d = c
    · subst e
      rw [blk_put_same] at hd; obtain rfl := Option.some.inj hd
      rw [hφ] at h; obtain h := Option.some.inj h; simp only [Prod.mk.injEq] at h
      obtain ⟨rfl, rfl⟩ := h; exact hobj
    · rw [blk_put, if_neg e] at hd
      have hroot : b'.root ≠ b.root := fun er => by
        rw [live_iff, grp_put, if_pos er] at hl'
        rw [tip_iff] at ht
        have := (hs.wf.head d b' hd).1
        rw [er, ht] at this
        simp only at hl'; omega
      have hk : k ≠ r := fun ek => by subst ek; exact hroot (hs.sep d c k ε δ b' b h hφ hd hb)
      refine ObjR.mono hst (by rw [hh, if_neg hk]) ?_ (hs.obj d k ε b' h hd ?_)
      · rw [tip_iff, tip_iff, grp_put, if_neg hroot]; exact id
      · rw [live_iff] at *; rw [grp_put, if_neg hroot] at hl'; exact hl'
  case sep =>
    intro d1 d2 k ε1 ε2 b1 b2 h1 h2 hb1 hb2
    have back : ∀ d b', (H.put c b o).blk d = some b' → ∃ b0, H.blk d = some b0 ∧ b0.root = b'.root := fun d b' hd => by
      rw [blk_put] at hd; split at hd
      · rename_i e; subst e; obtain rfl := Option.some.inj hd; exact ⟨b, hb, rfl⟩
      · exact ⟨b', hd, rfl⟩
    obtain ⟨b3, h3, r3⟩ := back _ _ hb1
    obtain ⟨b4, h4, r4⟩ := back _ _ hb2
    rw [← r3, ← r4]; exact hs.sep _ _ _ _ _ _ _ h1 h2 h3 h4
  case ends =>
    intro c1 d1 k δ1 ε1 b1 b2 C C' e e' f f' h1 h2 hb1 hb2 hcd hC hC'
    obtain ⟨b3, C3, f3, h3, h4, h5⟩ := hcell c1 C e f ⟨b1, hb1, hC⟩
    obtain ⟨b4, C4, f4, h6, h7, h8⟩ := hcell d1 C' e' f' ⟨b2, hb2, hC'⟩
    rw [← h5, ← h8]
    exact hs.ends _ _ _ _ _ _ _ _ _ _ _ _ _ h1 h2 h3 h6 hcd h4 h7
end
end Go.Proofs.YtenolmhnmcjndaaGreatDoor.Ev
namespace Go.Proofs.YtenolmhnmcjndaaGreatDoor.Ev
set_option linter.unusedVariables false
set_option linter.unusedSimpArgs false
open Go
section
variable {P : Program} {φ φ' φ'' : Phi} {H H' H'' : AH} {w w' w'' : World}

/-- A copy, where the world makes a new block too. -/
theorem step_copyG (hs : Sim P φ H w) {o o' : Obj} {root c : Nat} {b : Blk} {x : Nat × Nat} (hφ : φ c = some x) (ht : H.tip c b = true) (hr : b.root = root) (hh : w'.heap = w.heap.push o') (ho : SameOut w w') :
    Step P φ H w (upd φ H.next (w.heap.size, 0)) (H.copyOf o root) w' where
  h := HStep.copyOf hs.wf
  ext := fun c x h => by rw [upd_ne (by have := hs.lt h; omega)]; exact h
  old := fun c hc h => by rw [upd_ne (by omega)]; exact h
  os := ho.1
  tape := ho.2.1
  output := ho.2.2
  size := by rw [hh]; simp
  shape := fun r C e fr h => ⟨C, fr, by rw [hh, Array.getElem?_push, if_neg (by have := (Array.getElem?_eq_some_iff.1 h).1; omega)]; exact h, rfl⟩
  frame := fun r hr _ => by rw [hh, Array.getElem?_push, if_neg (by omega)]
  new := fun c r δ h h' hr => by
    unfold upd at h'; split at h'
    · obtain h' := Option.some.inj h'; simp only [Prod.mk.injEq] at h'; omega
    · rw [h] at h'; cases h'
  heads := fun d b' _ hn => by
    rw [grp_copyOf]
    split
    · rename_i e; rw [e, ← hr, tip_iff.1 ht, hφ] at hn; cases hn
    · rfl

theorem live_copy {b : Blk} {o : Obj} {root d : Nat} : (H.copyOf o root).live d b = true ↔ H.live d b = true := by
  rw [live_iff, live_iff, grp_copyOf]
  split
  · rename_i e; rw [e]
  · rfl

theorem tip_copy {b : Blk} {o : Obj} {root d : Nat} (hd : d < H.next) (h : (H.copyOf o root).tip d b = true) : H.tip d b = true := by
  rw [tip_iff] at *
  rw [grp_copyOf] at h
  split at h
  · simp only at h; omega
  · exact h

theorem sim_copyG (hs : Sim P φ H w) {c : Nat} {b : Blk} {o o' : Obj} {x : Nat × Nat} (hφ : φ c = some x) (ht : H.tip c b = true) (hb : H.blk c = some b) (he : b.exact = false) (hsh : shapeSame o o)
    (hh : w'.heap = w.heap.push o') (ho : SameOut w w')
    (hobj : ObjR P (upd φ H.next (w.heap.size, 0)) (H.copyOf o b.root) w' H.next ⟨o, b.root, false, H.clock⟩ w.heap.size 0) :
    Sim P (upd φ H.next (w.heap.size, 0)) (H.copyOf o b.root) w' := by
  have hst := step_copyG (o := o) (root := b.root) hs hφ ht rfl hh ho
  have hget : ∀ k, k < w.heap.size → w'.heap[k]? = w.heap[k]? := fun k hk => by rw [hh, Array.getElem?_push, if_neg (by omega)]
  have hcase : ∀ c r δ, upd φ H.next (w.heap.size, 0) c = some (r, δ) → (c = H.next ∧ r = w.heap.size ∧ δ = 0) ∨ (c ≠ H.next ∧ φ c = some (r, δ) ∧ r < w.heap.size) := fun c r δ h => by
    unfold upd at h; split at h
    · rename_i e; obtain h := Option.some.inj h; simp only [Prod.mk.injEq] at h; exact .inl ⟨e, h.1.symm, h.2.symm⟩
    · rename_i e; exact .inr ⟨e, h, hs.real c r δ h⟩
  have hblk : ∀ c, c ≠ H.next → (H.copyOf o b.root).blk c = H.blk c := fun c hc => by rw [blk_copyOf, if_neg hc]
  constructor
  case wf => exact hs.wf.copyOf hb he hsh
  case blk =>
    intro c r δ h
    rcases hcase c r δ h with ⟨rfl, _, _⟩ | ⟨hc, h, _⟩
    · exact ⟨_, blk_copyOf_new⟩
    · rw [hblk c hc]; exact hs.blk c r δ h
  case real =>
    intro c r δ h
    rw [hh]; simp
    rcases hcase c r δ h with ⟨_, rfl, _⟩ | ⟨_, _, h⟩ <;> omega
  case fix =>
    refine ⟨Tabs_local (fun g hg => hget g (hs.fix.2 g hg).1) hs.fix.1, fun g hg => ⟨?_, fun d δ b' h hb' => ?_⟩⟩
    · rw [hh]; simp; have := (hs.fix.2 g hg).1; omega
    · rcases hcase d g δ h with ⟨_, h2, _⟩ | ⟨hc', h2, _⟩
      · have := (hs.fix.2 g hg).1; omega
      · rw [hblk d hc'] at hb'
        have hro := (hs.fix.2 g hg).2 d δ b' h2 hb'
        refine ⟨hro.1, ?_⟩
        have hne : b'.root ≠ b.root := fun e => by have := hro.2; rw [e, tip_iff.1 ht, hφ] at this; cases this
        rw [grp_copyOf, if_neg hne, upd_ne (by have := (hs.wf.head d b' hb').2; omega)]
        exact hro.2
  case obj =>
    intro c r δ b h hb hl
    rcases hcase c r δ h with ⟨rfl, rfl, rfl⟩ | ⟨hc, h, hr⟩
    · rw [blk_copyOf_new] at hb; obtain rfl := Option.some.inj hb; exact hobj
    · rw [hblk c hc] at hb
      exact ObjR.mono hst (hget r hr) (tip_copy (hs.lt h)) (hs.obj c r δ b h hb (live_copy.1 hl))
  case sep =>
    intro c d r δ ε b b' h k hb hb'
    rcases hcase c r δ h with ⟨rfl, rfl, rfl⟩ | ⟨hc, h, hr⟩ <;> rcases hcase d _ ε k with ⟨rfl, h2, rfl⟩ | ⟨hd, k, hr'⟩
    · rw [hb] at hb'; obtain rfl := Option.some.inj hb'; rfl
    · omega
    · omega
    · rw [hblk c hc] at hb; rw [hblk d hd] at hb'; exact hs.sep c d r δ ε b b' h k hb hb'
  case ends =>
    intro c d r δ ε b b' C C' e e' f f' h k hb hb' hcd hC hC'
    rcases hcase c r δ h with ⟨rfl, rfl, rfl⟩ | ⟨hc, h, hr⟩ <;> rcases hcase d _ ε k with ⟨rfl, h2, rfl⟩ | ⟨hd, k, hr'⟩
    · rw [hb] at hb'; obtain rfl := Option.some.inj hb'; rw [hC] at hC'; cases hC'; exact Nat.le_refl _
    · omega
    · omega
    · rw [hblk c hc] at hb; rw [hblk d hd] at hb'; exact hs.ends c d r δ ε b b' C C' e e' f f' h k hb hb' hcd hC hC'

/-- A copy, where the world grows the row in place. -/
theorem step_copyI (hs : Sim P φ H w) {c r δ off : Nat} {b : Blk} {o : Obj} {C' C2 : Array Value} {e : TypeId} {fr' : Nat × Nat} (hφ : φ c = some (r, δ)) (hb : H.blk c = some b) (ht : H.tip c b = true) (he : b.exact = false)
    (hC' : w.heap[r]? = some (.cells C' e fr')) (hC2 : C2.size = C'.size) (hsz : w'.heap.size = w.heap.size)
    (hh : ∀ k, w'.heap[k]? = if k = r then some (.cells C2 e fr') else w.heap[k]?) (ho : SameOut w w') :
    Step P φ H w (upd φ H.next (r, δ + off)) (H.copyOf o b.root) w' where
  h := HStep.copyOf hs.wf
  ext := fun c x h => by rw [upd_ne (by have := hs.lt h; omega)]; exact h
  old := fun c hc h => by rw [upd_ne (by omega)]; exact h
  os := ho.1
  tape := ho.2.1
  output := ho.2.2
  size := by rw [hsz]; exact Nat.le_refl _
  shape := fun k C1 e1 f1 h => by
    rw [hh]
    split
    · rename_i ek; subst ek; rw [hC'] at h; cases h; exact ⟨C2, fr', rfl, hC2⟩
    · exact ⟨C1, f1, h, rfl⟩
  frame := fun k _ hc => by
    rw [hh]
    split
    · rename_i ek; subst ek
      rcases hc c δ b hφ hb with h | ⟨h, _⟩
      · have := h.2
        rw [tip_iff.1 ht, hφ] at this; cases this
      · rw [he] at h; cases h
    · rfl
  new := fun d k ε h h' _ => by
    unfold upd at h'; split at h'
    · obtain h' := Option.some.inj h'; simp only [Prod.mk.injEq] at h'
      obtain ⟨rfl, _⟩ := h'
      exact ⟨c, δ, b, hφ, hb, he, by rw [tip_iff.1 ht, hφ]; exact fun h => nomatch h⟩
    · rw [h] at h'; cases h'
  heads := fun d b' _ hn => by
    rw [grp_copyOf]
    split
    · rename_i e; rw [e, tip_iff.1 ht, hφ] at hn; cases hn
    · rfl

theorem sim_copyI (hs : Sim P φ H w) {c r δ off : Nat} {b : Blk} {C C' C2 D : Array Value} {e : TypeId} {fr fr' fD : Nat × Nat} (hφ : φ c = some (r, δ)) (hb : H.blk c = some b) (ht : H.tip c b = true) (he : b.exact = false)
    (hC : b.obj = .cells C e fr) (hC' : w.heap[r]? = some (.cells C' e fr')) (hC2 : C2.size = C'.size) (hsz : w'.heap.size = w.heap.size)
    (hh : ∀ k, w'.heap[k]? = if k = r then some (.cells C2 e fr') else w.heap[k]?) (ho : SameOut w w')
    (hkeep : ∀ i, i < δ + C.size → C2[i]? = C'[i]?) (hend : δ + C.size ≤ (δ + off) + D.size)
    (hobj : ObjR P (upd φ H.next (r, δ + off)) (H.copyOf (.cells D e fD) b.root) w' H.next ⟨.cells D e fD, b.root, false, H.clock⟩ r (δ + off)) :
    Sim P (upd φ H.next (r, δ + off)) (H.copyOf (.cells D e fD) b.root) w' := by
  have hst := step_copyI (off := off) (o := .cells D e fD) hs hφ hb ht he hC' hC2 hsz hh ho
  have hcase : ∀ d k ε, upd φ H.next (r, δ + off) d = some (k, ε) → (d = H.next ∧ k = r ∧ ε = δ + off) ∨ (d ≠ H.next ∧ φ d = some (k, ε)) := fun d k ε h => by
    unfold upd at h; split at h
    · rename_i e; obtain h := Option.some.inj h; simp only [Prod.mk.injEq] at h; exact .inl ⟨e, h.1.symm, h.2.symm⟩
    · rename_i e; exact .inr ⟨e, h⟩
  have hblk : ∀ c, c ≠ H.next → (H.copyOf (.cells D e fD) b.root).blk c = H.blk c := fun c hc => by rw [blk_copyOf, if_neg hc]
  have htip := tip_iff.1 ht
  -- a row in the same real block ends no later than the tip
  have hends : ∀ d ε b' C1 e1 f1, φ d = some (r, ε) → H.blk d = some b' → b'.obj = .cells C1 e1 f1 → ε + C1.size ≤ δ + C.size := fun d ε b' C1 e1 f1 h hd h1 =>
    hs.ends d c r ε δ b' b C1 C e1 e f1 fr h hφ hd hb (by
      have h2 := (hs.wf.head d b' hd).1
      rw [hs.sep d c r ε δ b' b h hφ hd hb, htip] at h2; exact h2) h1 hC
  constructor
  case wf => exact hs.wf.copyOf hb he ⟨rfl, rfl⟩
  case blk =>
    intro d k ε h
    rcases hcase d k ε h with ⟨rfl, _, _⟩ | ⟨hd, h⟩
    · exact ⟨_, blk_copyOf_new⟩
    · rw [hblk d hd]; exact hs.blk d k ε h
  case real =>
    intro d k ε h
    rw [hsz]
    rcases hcase d k ε h with ⟨_, rfl, _⟩ | ⟨_, h⟩
    · exact hs.real c _ δ hφ
    · exact hs.real d k ε h
  case fix =>
    have hne : ∀ g, g ∈ fixedBlocks → g ≠ r := fun g hg e => by
      have := ((hs.fix.2 g hg).2 c δ b (e ▸ hφ) hb).2
      rw [htip, hφ] at this; cases this
    refine ⟨Tabs_local (fun g hg => by rw [hh, if_neg (hne g hg)]) hs.fix.1, fun g hg => ⟨by rw [hsz]; exact (hs.fix.2 g hg).1, fun d ε b' h hb' => ?_⟩⟩
    rcases hcase d g ε h with ⟨_, h2, _⟩ | ⟨hd, h2⟩
    · exact absurd h2 (hne g hg)
    · rw [hblk d hd] at hb'
      have hro := (hs.fix.2 g hg).2 d ε b' h2 hb'
      refine ⟨hro.1, ?_⟩
      have hne2 : b'.root ≠ b.root := fun e => by have := hro.2; rw [e, htip, hφ] at this; cases this
      rw [grp_copyOf, if_neg hne2, upd_ne (by have := (hs.wf.head d b' hb').2; omega)]
      exact hro.2
  case obj =>
    intro d k ε b' h hd hl
    rcases hcase d k ε h with ⟨rfl, rfl, rfl⟩ | ⟨hne, hq⟩
    · rw [blk_copyOf_new] at hd; obtain rfl := Option.some.inj hd; exact hobj
    · rw [hblk d hne] at hd
      have hold := hs.obj d k ε b' hq hd (live_copy.1 hl)
      by_cases ek : k = r
      · subst ek
        have hroot : b'.root = b.root := hs.sep d c k ε δ b' b hq hφ hd hb
        unfold ObjR at hold ⊢
        split
        · rename_i C1 e1 f1 h1
          simp only [h1] at hold
          obtain ⟨C3, f3, g1, g2, g3, g4, g5, g6⟩ := hold
          rw [hC'] at g1; cases g1
          have hle := hends d ε b' C1 e f1 hq hd h1
          refine ⟨C2, fr', by rw [hh, if_pos rfl], by omega, fun i x y hx hy => ?_, g4, fun htp => ?_, fun hx => ?_⟩
          · have hi : i < C1.size := (Array.getElem?_eq_some_iff.1 hx).1
            rw [hkeep _ (by omega)] at hy
            exact (g3 i x y hx hy).mono hst
          · exfalso
            rw [tip_iff, grp_copyOf, if_pos hroot] at htp
            simp only at htp
            exact hne htp.symm
          · obtain ⟨k1, k2, k3⟩ := g6 hx
            exact ⟨k1, by rw [hC2, k2], k3⟩
        · rename_i es1 ck1 hmap
          simp only [hmap] at hold
          obtain ⟨_, hx, _⟩ := hold
          have hx' := hs.wf.exact d b' hd hx
          have := hx'.2.2 c b hb (by rw [← hroot, hx'.1])
          subst this
          rw [hb] at hd; obtain rfl := Option.some.inj hd
          rw [he] at hx; cases hx
        · rename_i hno hno2
          split at hold
          · rename_i C1 e1 f1 h1; exact absurd h1 (hno C1 e1 f1)
          · rename_i es1 ck1 h1; exact absurd h1 (hno2 es1 ck1)
          · rename_i ob hob
            obtain ⟨_, hx, hr⟩ := hold
            have hx' := hs.wf.exact d b' hd hx
            have := hx'.2.2 c b hb (by rw [← hroot, hx'.1])
            subst this
            rw [hb] at hd; obtain rfl := Option.some.inj hd
            rw [he] at hx; cases hx
      · exact ObjR.mono hst (by rw [hh, if_neg ek]) (tip_copy (hs.lt hq)) hold
  case sep =>
    intro c1 d1 k ε1 ε2 b1 b2 h1 h2 hb1 hb2
    rcases hcase c1 k ε1 h1 with ⟨rfl, rfl, rfl⟩ | ⟨hc, q1⟩ <;> rcases hcase d1 _ ε2 h2 with ⟨rfl, e2, rfl⟩ | ⟨hd, h2⟩
    · rw [hb1] at hb2; obtain rfl := Option.some.inj hb2; rfl
    · rw [blk_copyOf_new] at hb1; obtain rfl := Option.some.inj hb1
      rw [hblk d1 hd] at hb2
      exact hs.sep c d1 _ δ ε2 b b2 hφ h2 hb hb2
    · subst e2
      rw [blk_copyOf_new] at hb2; obtain rfl := Option.some.inj hb2
      rw [hblk c1 hc] at hb1
      exact hs.sep c1 c _ ε1 δ b1 b q1 hφ hb1 hb
    · rw [hblk c1 hc] at hb1; rw [hblk d1 hd] at hb2; exact hs.sep _ _ _ _ _ _ _ q1 h2 hb1 hb2
  case ends =>
    intro c1 d1 k ε1 ε2 b1 b2 C1 C1' e1 e2 f1 f2 h1 h2 hb1 hb2 hcd hC1 hC1'
    rcases hcase c1 k ε1 h1 with ⟨rfl, rfl, rfl⟩ | ⟨hc, q1⟩ <;> rcases hcase d1 _ ε2 h2 with ⟨rfl, ek, rfl⟩ | ⟨hd, h2⟩
    · rw [hb1] at hb2; obtain rfl := Option.some.inj hb2; rw [hC1] at hC1'; cases hC1'; exact Nat.le_refl _
    · have := hs.lt h2; omega
    · subst ek
      rw [blk_copyOf_new] at hb2; obtain rfl := Option.some.inj hb2
      cases hC1'
      rw [hblk c1 hc] at hb1
      have := hends c1 ε1 b1 C1 e1 f1 q1 hb1 hC1
      omega
    · rw [hblk c1 hc] at hb1; rw [hblk d1 hd] at hb2; exact hs.ends _ _ _ _ _ _ _ _ _ _ _ _ _ q1 h2 hb1 hb2 hcd hC1 hC1'
end
end Go.Proofs.YtenolmhnmcjndaaGreatDoor.Ev
namespace Go.Proofs.YtenolmhnmcjndaaGreatDoor.Ev
set_option linter.unusedVariables false
set_option linter.unusedSimpArgs false
open Go
section
variable {P : Program} {φ : Phi} {H : AH} {w : World}

theorem ArrR.eq {R : Value → Value → Prop} {a b : Array Value} {f : Value → Bool} (h : ArrR R a b) (hf : a.toList.all f = true) (hr : ∀ x y, f x = true → R x y → x = y) : a = b := by
  apply Array.ext h.1
  intro i h1 h2
  exact hr _ _ (List.all_eq_true.1 hf _ (by simp)) (h.2 i _ _ (Array.getElem?_eq_getElem h1) (Array.getElem?_eq_getElem h2))

theorem ArrR.refl {R : Value → Value → Prop} {a : Array Value} {f : Value → Bool} (hf : a.toList.all f = true) (hr : ∀ x, f x = true → R x x) : ArrR R a a :=
  ⟨rfl, fun i x y hx hy => by
    rw [hx] at hy; obtain rfl := Option.some.inj hy
    obtain ⟨h1, rfl⟩ := Array.getElem?_eq_some_iff.1 hx
    exact hr _ (List.all_eq_true.1 hf _ (by simp))⟩

theorem atom_eq {a b : Value} (h : atomB a = true) (r : AtomR P φ H w a b) : a = b := by
  cases r <;> first | rfl | (simp [atomB] at h)

theorem cell_eq {a b : Value} (h : flat1 a = true) (r : CellR P φ H w a b) : a = b := by
  cases r with
  | atom r =>
    cases r with
    | flat _ => rfl
    | _ => simp [flat1, atomB] at h
  | iface r =>
    rename_i t a b
    by_cases ha : atomB a = true
    · rw [atom_eq ha r]
    · cases r with
      | flat h' => exact absurd h' ha
      | _ => simp [flat1, atomB] at h
  | ifaceAgg _ => rfl
  | func _ => simp [flat1, atomB] at h

theorem part_eq {a b : Value} (h : flat2 a = true) (r : PartR P φ H w a b) : a = b := by
  cases r with
  | junk => simp [flat2, flat1, atomB, junk] at h
  | cell r =>
    refine cell_eq ?_ r
    cases a <;> first | exact h | skip
    cases r with
    | atom r => cases r with | flat h' => simp [atomB] at h'
  | agg r => rw [r.eq h fun x y => cell_eq]

theorem val_eq {a b : Value} (h : flatB a = true) (r : ValR P φ H w a b) : a = b := by
  cases r with
  | part r =>
    refine part_eq ?_ r
    cases a <;> first | exact h | skip
    cases r with
    | cell r => cases r with
      | atom r => cases r with | flat h' => simp [atomB] at h'
  | tuple r => rw [r.eq h fun x y => part_eq]

theorem cell_refl {a : Value} (h : flat1 a = true) : CellR P φ H w a a := by
  unfold flat1 at h
  split at h
  · rename_i t v
    simp only [Bool.or_eq_true] at h
    rcases h with h | h
    · exact .iface (.flat h)
    · split at h
      · exact .ifaceAgg h
      · cases h
  · exact .atom (.flat h)

theorem part_refl {a : Value} (h : flat2 a = true) : PartR P φ H w a a := by
  unfold flat2 at h
  split at h
  · exact .agg (ArrR.refl h fun _ => cell_refl)
  · exact .cell (cell_refl h)

theorem val_refl {a : Value} (h : flatB a = true) : ValR P φ H w a a := by
  unfold flatB at h
  split at h
  · exact .tuple (ArrR.refl h fun _ => part_refl)
  · exact .part (part_refl h)

theorem val_junk {b : Value} : ValR P φ H w junk b := .part .junk
theorem val_undef : ValR P φ H w undef undef := val_refl (by simp [undef, flatB])

theorem val_bool {t : Bool} {b : Value} (r : ValR P φ H w (.bool t) b) : b = .bool t := (val_eq rfl r).symm
theorem val_int {k : IntKind} {n : Int} {b : Value} (r : ValR P φ H w (.int k n) b) : b = .int k n := (val_eq rfl r).symm
theorem val_string {s : ByteArray} {b : Value} (r : ValR P φ H w (.string s) b) : b = .string s := (val_eq rfl r).symm
theorem val_niliface {b : Value} (r : ValR P φ H w .nilIface b) : b = .nilIface := (val_eq rfl r).symm
theorem val_nilptr {b : Value} (r : ValR P φ H w (.pointer none) b) : b = .pointer none := (val_eq rfl r).symm
theorem val_nilmap {b : Value} (r : ValR P φ H w (.map none) b) : b = .map none := (val_eq rfl r).symm
theorem val_nilslice {n c : Nat} {b : Value} (r : ValR P φ H w (.slice none n c) b) : b = .slice none n c := (val_eq rfl r).symm

theorem val_ptr {p : Addr} {b : Value} (r : ValR P φ H w (.pointer (some p)) b) : ∃ q, b = .pointer (some q) ∧ AddrR φ H p q := by
  cases r with
  | part r => cases r with
    | cell r => cases r with
      | atom r => cases r with
        | flat h => simp [atomB] at h
        | ptr h => exact ⟨_, rfl, h⟩

theorem val_slice {p : Addr} {n c : Nat} {b : Value} (r : ValR P φ H w (.slice (some p) n c) b) : ∃ q c', b = .slice (some q) n c' ∧ SliceR P φ H w p q n c c' := by
  cases r with
  | part r => cases r with
    | cell r => cases r with
      | atom r => cases r with
        | flat h => simp [atomB] at h
        | slice h => exact ⟨_, _, rfl, h⟩

theorem val_map {m : Nat} {b : Value} (r : ValR P φ H w (.map (some m)) b) : ∃ k, b = .map (some k) ∧ (Dead H m ∨ φ m = some (k, 0)) := by
  cases r with
  | part r => cases r with
    | cell r => cases r with
      | atom r => cases r with
        | flat h => simp [atomB] at h
        | map h => exact ⟨_, rfl, h⟩

theorem val_func {f : Fn} {x y : Array Value} {b : Value} (r : ValR P φ H w (.func f x y) b) : x = #[] ∧ ∃ y', b = .func f #[] y' ∧ ArrR (AtomR P φ H w) y y' := by
  cases r with
  | part r => cases r with
    | cell r => cases r with
      | atom r => cases r with
        | flat h => simp [atomB] at h
      | func h => exact ⟨rfl, _, rfl, h⟩

theorem val_tuple {vs : Array Value} {b : Value} (r : ValR P φ H w (.tuple vs) b) : ∃ vs', b = .tuple vs' ∧ ArrR (PartR P φ H w) vs vs' := by
  cases r with
  | part r => cases r with
    | cell r => cases r with
      | atom r => cases r with
        | flat h => simp [atomB] at h
  | tuple h => exact ⟨_, rfl, h⟩

theorem val_iface {t : TypeId} {v : Value} {b : Value} (r : ValR P φ H w (.iface t v) b) : ∃ v', b = .iface t v' := by
  cases r with
  | part r => cases r with
    | cell r => cases r with
      | atom r => cases r with
        | flat h => simp [atomB] at h
      | iface h => exact ⟨_, rfl⟩
      | ifaceAgg h => exact ⟨_, rfl⟩

/-- Cells of a value. -/
theorem val_cells {a b : Value} (r : ValR P φ H w a b) (h : a.cells.toList.all isCell = true) : ArrR (CellR P φ H w) a.cells b.cells := by
  have one : ∀ x y : Value, CellR P φ H w x y → ArrR (CellR P φ H w) #[x] #[y] := fun x y h => ⟨rfl, fun i u v hu hv => by
    have hi : i = 0 := by have := (Array.getElem?_eq_some_iff.1 hu).1; simp at this; omega
    subst hi; simp at hu hv; subst hu; subst hv; exact h⟩
  have noagg : ∀ x y, CellR P φ H w x y → isCell x = true → x.cells = #[x] ∧ y.cells = #[y] := fun x y h hx => by
    cases h with
    | atom h => cases h with
      | flat h' => cases x <;> simp [atomB] at h' <;> exact ⟨rfl, rfl⟩
      | _ => exact ⟨rfl, rfl⟩
    | _ => exact ⟨rfl, rfl⟩
  cases r with
  | part r => cases r with
    | junk => simp [junk, Value.cells, isCell] at h
    | cell r =>
      have hx : isCell a = true := by
        cases a <;> first | rfl | (simp [Value.cells, isCell] at h; done) | skip
        cases r with
        | atom r => cases r with | flat h' => simp [atomB] at h'
      obtain ⟨e1, e2⟩ := noagg _ _ r hx
      rw [e1, e2]; exact one _ _ r
    | agg r => exact r
  | tuple r => simp [Value.cells, isCell] at h

theorem cell_one {a b : Value} (r : CellR P φ H w a b) : b.oneCell' = true := by
  cases r with
  | atom r => cases r with
    | flat h => cases a <;> simp [atomB] at h <;> rfl
    | _ => rfl
  | _ => rfl

theorem part_of_cell {a b : Value} (r : CellR P φ H w a b) : ValR P φ H w a b := .part (.cell r)

theorem ArrR.set {R : Value → Value → Prop} {a b : Array Value} {x y : Value} (i : Nat) (h : ArrR R a b) (hxy : R x y) : ArrR R (a.setIfInBounds i x) (b.setIfInBounds i y) := by
  refine ⟨by simp [h.1], fun j u v hu hv => ?_⟩
  rw [Array.getElem?_setIfInBounds] at hu hv
  split at hu
  · rename_i e; subst e
    rw [if_pos rfl] at hv
    split at hu
    · split at hv
      · cases hu; cases hv; exact hxy
      · cases hv
    · cases hu
  · rename_i e; rw [if_neg e] at hv; exact h.2 j u v hu hv

theorem fold_rel {R : Value → Value → Prop} (off : Nat) : ∀ (l l' : List Value) (k : Nat) (C C' : Array Value), l.length = l'.length → (∀ (i : Nat) (x y : Value), l[i]? = some x → l'[i]? = some y → R x y) → ArrR R C C' →
    ArrR R ((l.zipIdx k).foldl (fun cs p => cs.setIfInBounds (off + p.2) p.1) C) ((l'.zipIdx k).foldl (fun cs p => cs.setIfInBounds (off + p.2) p.1) C')
  | [], [], _, _, _, _, _, h => h
  | x :: l, y :: l', k, C, C', hl, hr, h => by
    simp only [List.zipIdx_cons, List.foldl_cons]
    exact fold_rel off l l' (k + 1) _ _ (by simpa using hl) (fun i u v hu hv => hr (i + 1) u v (by simpa using hu) (by simpa using hv)) (h.set _ (hr 0 x y rfl rfl))

theorem fill_rel {α : Type} {R : Value → Value → Prop} (place : Nat → Option (Nat × Nat)) (f g : α → Nat × Value) (hfg : ∀ a, (f a).1 = (g a).1) :
    ∀ (l : List α) (C C' D : Array Value), (∀ a ∈ l, ArrR R (f a).2.cells (g a).2.cells) → ArrR R C C' → Instr.fill place C (l.map f) = some D →
    ∃ D', Instr.fill place C' (l.map g) = some D' ∧ ArrR R D D'
  | [], C, C', D, _, h, hf => by simp only [List.map_nil, Instr.fill] at hf ⊢; cases hf; exact ⟨C', rfl, h⟩
  | a :: l, C, C', D, hp, h, hf => by
    have ha := hp a (List.mem_cons_self ..)
    simp only [List.map_cons] at hf ⊢
    unfold Instr.fill at hf ⊢
    simp only [← hfg a]
    cases hpl : place (f a).1 with
    | none => rw [hpl] at hf; cases hf
    | some os =>
      obtain ⟨off, size⟩ := os
      simp only [hpl] at hf ⊢
      rw [← ha.1, ← h.1]
      split at hf
      · cases hf
      · rename_i hc
        rw [if_neg hc]
        refine fill_rel place f g hfg l _ _ D (fun x hx => hp x (List.mem_cons_of_mem _ hx)) ?_ hf
        have e : ∀ (V C : Array Value), V.zipIdx.foldl (fun cs (p : Value × Nat) => match p with | (c, j) => cs.setIfInBounds (off + j) c) C = (V.toList.zipIdx 0).foldl (fun cs p => cs.setIfInBounds (off + p.2) p.1) C := fun V C => by
          rw [← Array.foldl_toList, Array.toList_zipIdx]
        rw [e, e]
        refine fold_rel off _ _ 0 _ _ (by simpa using ha.1) (fun i x y hx hy => ha.2 i x y (by simpa using hx) (by simpa using hy)) h

theorem fill_size (place : Nat → Option (Nat × Nat)) : ∀ (l : List (Nat × Value)) (C D : Array Value), Instr.fill place C l = some D → D.size = C.size
  | [], C, D, h => by simp only [Instr.fill] at h; cases h; rfl
  | (k, v) :: l, C, D, h => by
    unfold Instr.fill at h
    split at h
    · cases h
    · split at h
      · cases h
      · rw [fill_size place l _ D h]
        have : ∀ (l : List (Value × Nat)) (f : Nat → Nat) (C : Array Value), (l.foldl (fun cs p => cs.setIfInBounds (f p.2) p.1) C).size = C.size := fun l => by
          induction l with
          | nil => intros; rfl
          | cons a l ih => intro f C; rw [List.foldl_cons, ih]; simp
        rename_i off size _ _
        have e : v.cells.zipIdx.foldl (fun cs (p : Value × Nat) => match p with | (c, j) => cs.setIfInBounds (off + j) c) C = (v.cells.toList.zipIdx 0).foldl (fun cs p => cs.setIfInBounds (off + p.2) p.1) C := by
          rw [← Array.foldl_toList, Array.toList_zipIdx]
        exact e ▸ this _ (off + ·) C

/-! ### Operands -/
def EnvR (P : Program) (φ : Phi) (H : AH) (w : World) (e : List Value) (t : Array Value) : Prop :=
  t.size = e.length ∧ ∀ (i : Nat) (x y : Value), e[i]? = some x → t[i]? = some y → ValR P φ H w x y

theorem EnvR.mono {φ' : Phi} {H' : AH} {w' : World} (s : Step P φ H w φ' H' w') {e : List Value} {t : Array Value} (h : EnvR P φ H w e t) : EnvR P φ' H' w' e t :=
  ⟨h.1, fun i x y hx hy => (h.2 i x y hx hy).mono s⟩

theorem EnvR.get {e : List Value} {t : Array Value} (h : EnvR P φ H w e t) (i : Nat) : ValR P φ H w (e.getD i undef) (t.getD i undef) := by
  rw [List.getD_eq_getElem?_getD, Array.getD_eq_getD_getElem?]
  by_cases hi : i < e.length
  · have ht : i < t.size := by rw [h.1]; exact hi
    rw [List.getElem?_eq_getElem hi, Array.getElem?_eq_getElem ht]
    exact h.2 i _ _ (List.getElem?_eq_getElem hi) (Array.getElem?_eq_getElem ht)
  · rw [List.getElem?_eq_none (by omega), Array.getElem?_eq_none (by rw [h.1]; omega)]
    exact val_undef

theorem EnvR.rho {e : List Value} {a : Act} (h : EnvR P φ H w e a.tmps) (x : Operand) : ValR P φ H w (rho e x) (a.eval x) := by
  cases x with
  | tmp t => exact h.get t
  | const v =>
    show ValR P φ H w (bif flatB v then v else junk) v
    cases hv : flatB v with
    | true => exact val_refl hv
    | false => exact val_junk
  | global g => exact val_junk
  | func f => exact .part (.cell (.func ⟨rfl, fun i x y hx hy => by simp at hx⟩))

theorem EnvR.put {e : List Value} {a : Act} (h : EnvR P φ H w e a.tmps) (d : Option Tmp) {v v' : Value} (hv : ValR P φ H w v v') : EnvR P φ H w (putE e d v) (a.put d v').tmps := by
  cases d with
  | none => exact h
  | some d =>
    refine ⟨by simp [putE, Act.put, h.1], fun i x y hx hy => ?_⟩
    simp only [putE, List.getElem?_set] at hx
    simp only [Act.put, Array.getElem?_setIfInBounds] at hy
    split at hx
    · rename_i e; subst e
      rw [if_pos rfl] at hy
      split at hx
      · split at hy
        · cases hx; cases hy; exact hv
        · cases hy
      · cases hx
    · rename_i e; rw [if_neg e] at hy; exact h.2 i x y hx hy
end
end Go.Proofs.YtenolmhnmcjndaaGreatDoor.Ev
namespace Go.Proofs.YtenolmhnmcjndaaGreatDoor.Ev
set_option linter.unusedVariables false
set_option linter.unusedSimpArgs false
open Go
section
variable {P : Program} {φ : Phi} {H H' : AH} {w w' : World}

theorem cells_some {c : Nat} {C : Array Value} {e : TypeId} {fr : Nat × Nat} (h : H.cells c = some (C, e, fr)) : ∃ b, H.blk c = some b ∧ H.live c b = true ∧ b.obj = .cells C e fr := by
  unfold AH.cells at h
  split at h
  · rename_i b hb
    split at h
    · rename_i h1 h2; cases h; exact ⟨b, hb, h1, h2⟩
    · cases h
  · cases h

theorem not_dead {c : Nat} {b : Blk} (hb : H.blk c = some b) (hl : H.live c b = true) : ¬ Dead H c := fun ⟨b', h1, h2⟩ => by
  rw [hb] at h1; obtain rfl := Option.some.inj h1; rw [hl] at h2; cases h2

theorem add_none {a : Addr} (h : a.spot = none) (n : Nat) : a.add n = ⟨a.block, a.off + n, none⟩ := by
  obtain ⟨b, o, s⟩ := a
  simp only at h; subst h
  unfold Addr.add; split <;> simp_all

theorem addr_eta {a : Addr} (h : a.spot = none) : a = ⟨a.block, a.off, none⟩ := by
  obtain ⟨b, o, s⟩ := a; simp only at h; subst h; rfl

/-- A live block of cells, and the real one. -/
structure Lies (P : Program) (φ : Phi) (H : AH) (w : World) (p q : Addr) (C : Array Value) (e : TypeId) (fr : Nat × Nat) (b : Blk) (δ : Nat) (C' : Array Value) (fr' : Nat × Nat) : Prop where
  blk : H.blk p.block = some b
  live : H.live p.block b = true
  obj : b.obj = .cells C e fr
  phi : φ p.block = some (q.block, δ)
  off : q.off = δ + p.off
  pspot : p.spot = none
  qspot : q.spot = none
  real : w.heap[q.block]? = some (.cells C' e fr')
  size : δ + C.size ≤ C'.size
  cell : ∀ (i : Nat) (x y : Value), C[i]? = some x → C'[δ + i]? = some y → CellR P φ H w x y
  cold : ∀ i, i < C.size → frz fr' (δ + i) → frz fr i
  tip : H.tip p.block b = true → ∀ i, δ + C.size ≤ i → i < C'.size → ¬ frz fr' i
  exact : b.exact = true → δ = 0 ∧ C'.size = C.size ∧ fr' = fr

theorem lies (hs : Sim P φ H w) {p q : Addr} {C : Array Value} {e : TypeId} {fr : Nat × Nat} (hp : AddrR φ H p q) (hc : H.cells p.block = some (C, e, fr)) :
    ∃ b δ C' fr', Lies P φ H w p q C e fr b δ C' fr' := by
  obtain ⟨b, h1, h2, h3⟩ := cells_some hc
  rcases hp with hp | ⟨g1, g2, δ, g3, g4⟩
  · exact absurd hp (not_dead h1 h2)
  · have ho := hs.obj _ _ _ _ g3 h1 h2
    unfold ObjR at ho
    simp only [h3] at ho
    obtain ⟨C', fr', k1, k2, k3, k4, k5, k6⟩ := ho
    exact ⟨b, δ, C', fr', h1, h2, h3, g3, g4, g1, g2, k1, k2, k3, k4, k5, k6⟩

theorem Lies.cell? {p q : Addr} {C C' : Array Value} {e : TypeId} {fr fr' : Nat × Nat} {b : Blk} {δ : Nat} (l : Lies P φ H w p q C e fr b δ C' fr') (j : Nat) :
    w.cell? ⟨q.block, q.off + j, none⟩ = C'[δ + (p.off + j)]? := by
  simp only [World.cell?, l.real, l.off]
  simp [Nat.add_assoc]

/-- A cell within the row is there in the real one. -/
theorem Lies.get {p q : Addr} {C C' : Array Value} {e : TypeId} {fr fr' : Nat × Nat} {b : Blk} {δ : Nat} (l : Lies P φ H w p q C e fr b δ C' fr') {i : Nat} {x : Value} (h : C[i]? = some x) :
    ∃ y, C'[δ + i]? = some y ∧ CellR P φ H w x y := by
  have hi : i < C.size := (Array.getElem?_eq_some_iff.1 h).1
  have := l.size
  have hy : C'[δ + i]? = some C'[δ + i] := Array.getElem?_eq_getElem (by omega)
  exact ⟨_, hy, l.cell i x _ h hy⟩

/-- The cells of a row from a place on, read. -/
theorem Lies.load {p q : Addr} {C C' : Array Value} {e : TypeId} {fr fr' : Nat × Nat} {b : Blk} {δ : Nat} (l : Lies P φ H w p q C e fr b δ C' fr') (n : Nat) (hn : p.off + n ≤ C.size) :
    ∃ D, (loadCells q n).run P w = .ok D w ∧ ArrR (CellR P φ H w) (C.extract p.off (p.off + n)) D := by
  have hsz := l.size
  have h := run_loadCells_list (P := P) w q (C'.extract (δ + p.off) (δ + p.off + n)).toList (fun j v hj => by
    rw [add_none l.qspot, l.cell? j]
    simp only [Array.getElem?_toList, Array.getElem?_extract] at hj
    split at hj
    · rw [← hj]; congr 1; omega
    · cases hj)
  have hl : (C'.extract (δ + p.off) (δ + p.off + n)).toList.length = n := by simp; omega
  rw [hl] at h
  refine ⟨_, h, by simp; omega, fun i x y hx hy => ?_⟩
  simp only [Array.getElem?_extract] at hx
  simp only [Array.toArray_toList, Array.getElem?_extract] at hy
  split at hx
  · split at hy
    · obtain ⟨y', h1, h2⟩ := l.get hx
      rw [show δ + (p.off + i) = δ + p.off + i by omega] at h1
      rw [h1] at hy; cases hy; exact h2
    · cases hy
  · cases hx

/-! ### Writing cells -/
theorem writeCells_size : ∀ (l : List Value) (C : Array Value) (i : Nat), (writeCells C i l).size = C.size
  | [], _, _ => rfl
  | v :: r, C, i => by rw [writeCells, writeCells_size r]; simp

theorem writeCells_get : ∀ (l : List Value) (C : Array Value) (i j : Nat), i + l.length ≤ C.size → (writeCells C i l)[j]? = if i ≤ j ∧ j < i + l.length then l[j - i]? else C[j]?
  | [], C, i, j, _ => by rw [writeCells, if_neg (by simp only [List.length_nil]; omega)]
  | v :: r, C, i, j, h => by
    simp only [List.length_cons] at h
    rw [writeCells, writeCells_get r _ (i + 1) j (by simp; omega), Array.getElem?_setIfInBounds]
    by_cases h1 : i = j
    · subst h1
      rw [if_neg (by omega), if_pos rfl, if_pos (by omega), if_pos (by simp)]; simp
    · rw [if_neg h1]
      by_cases h2 : i + 1 ≤ j ∧ j < i + 1 + r.length
      · rw [if_pos h2, if_pos (by simp; omega)]
        rw [show j - i = (j - (i + 1)) + 1 by omega]; simp
      · rw [if_neg h2, if_neg (by simp; omega)]

theorem setCells_heap (e : TypeId) (fr : Nat × Nat) (b : Nat) : ∀ (l : List Value) (o : Nat) (w : World) (C : Array Value), w.heap[b]? = some (.cells C e fr) →
    (∀ k, (w.setCells b o l).heap[k]? = if k = b then some (.cells (writeCells C o l) e fr) else w.heap[k]?) ∧ (w.setCells b o l).heap.size = w.heap.size ∧ SameOut w (w.setCells b o l)
  | [], o, w, C, h => ⟨fun k => by split <;> first | (rename_i e; subst e; exact h) | rfl, rfl, SameOut.refl w⟩
  | v :: r, o, w, C, h => by
    have h1 : (w.setCell ⟨b, o, none⟩ v).heap[b]? = some (.cells (C.setIfInBounds o v) e fr) := by
      simp [World.setCell, Array.getElem?_modify, h]
    obtain ⟨g1, g2, g3⟩ := setCells_heap e fr b r (o + 1) _ _ h1
    refine ⟨fun k => ?_, ?_, ?_⟩
    · rw [World.setCells, g1, writeCells]
      split
      · rfl
      · rename_i hk; simp only [World.setCell, Array.getElem?_modify]; rw [if_neg (fun e => hk e.symm)]
    · rw [World.setCells, g2]; simp [World.setCell]
    · exact g3

/-- A store into a tip that may be written, in both. -/
theorem Lies.store (hs : Sim P φ H w) {p q : Addr} {C C' : Array Value} {e : TypeId} {lo hi : Nat} {fr' : Nat × Nat} {b : Blk} {δ : Nat} (l : Lies P φ H w p q C e (lo, hi) b δ C' fr')
    (ht : H.tip p.block b = true) {vs vs' : List Value} (hlen : vs.length = vs'.length) (hr : ∀ (i : Nat) (x y : Value), vs[i]? = some x → vs'[i]? = some y → CellR P φ H w x y)
    (hin : p.off + vs.length ≤ C.size) (hf : hi ≤ p.off ∨ p.off + vs.length ≤ lo ∨ lo = hi) :
    ∃ w', (storeCells q vs').run P w = .ok () w' ∧ Step P φ H w φ (H.put p.block b (.cells (writeCells C p.off vs) e (lo, hi))) w' ∧ Sim P φ (H.put p.block b (.cells (writeCells C p.off vs) e (lo, hi))) w' := by
  have hsz := l.size
  have hrun := run_storeCells_cells (P := P) q.block q.off vs' 0 w (fun j hj => by
      rw [Nat.add_zero, l.cell? j, Array.getElem?_eq_getElem (by omega)]; rfl)
    (fun j hj => by
      rw [Nat.add_zero]
      cases hfz : w.frozen? ⟨q.block, q.off + j, none⟩ with
      | false => rfl
      | true =>
        exfalso
        obtain ⟨f1, f2⟩ := fr'
        simp only [World.frozen?, l.real, Bool.and_eq_true, decide_eq_true_eq, l.off] at hfz
        have := l.cold (p.off + j) (by omega) (by unfold Ev.frz; simp only; omega)
        unfold Ev.frz at this; simp only at this; omega)
    (fun v hv => by
      obtain ⟨i, hi⟩ := List.getElem?_of_mem hv
      have hlt : i < vs.length := by have := (List.getElem?_eq_some_iff.1 hi).1; omega
      exact cell_one (hr i _ v (List.getElem?_eq_getElem hlt) hi))
  rw [Nat.add_zero, ← addr_eta l.qspot] at hrun
  obtain ⟨g1, g2, g3⟩ := setCells_heap e fr' q.block vs' q.off w C' l.real
  have hshp : shapeSame b.obj (.cells (writeCells C p.off vs) e (lo, hi)) := by rw [l.obj]; exact ⟨(writeCells_size _ _ _).symm, rfl⟩
  have hreal : ∀ C1 e1 f1, w.heap[q.block]? = some (.cells C1 e1 f1) → ∃ C2 f2, Obj.cells (writeCells C' q.off vs') e fr' = .cells C2 e1 f2 ∧ C2.size = C1.size := fun C1 e1 f1 h => by
    rw [l.real] at h; cases h; exact ⟨_, _, rfl, writeCells_size _ _ _⟩
  have hst := step_put (o := .cells (writeCells C p.off vs) e (lo, hi)) hs l.phi l.blk l.live ht hshp g2 g1 g3 hreal
  refine ⟨_, hrun, hst, sim_put hs l.phi l.blk l.live ht hshp ⟨rfl, rfl⟩ g2 g1 g3 hreal ?_⟩
  unfold ObjR
  refine ⟨_, fr', by rw [g1, if_pos rfl], by rw [writeCells_size, writeCells_size]; exact l.size, fun i x y hx hy => ?_, fun i hi => ?_, fun htp i hi => ?_, fun hx => ?_⟩
  · rw [writeCells_get _ _ _ _ hin] at hx
    rw [writeCells_get _ _ _ _ (by rw [l.off]; omega), l.off] at hy
    by_cases hc : p.off ≤ i ∧ i < p.off + vs.length
    · rw [if_pos hc] at hx
      rw [if_pos (by omega), show δ + i - (δ + p.off) = i - p.off by omega] at hy
      exact (hr _ x y hx hy).mono hst
    · rw [if_neg hc] at hx
      rw [if_neg (by omega)] at hy
      exact (l.cell i x y hx hy).mono hst
  · rw [writeCells_size] at hi; exact l.cold i hi
  · rw [writeCells_size] at *
    refine l.tip ?_ i hi
    exact ht
  · rw [writeCells_size, writeCells_size]; exact l.exact hx
end
end Go.Proofs.YtenolmhnmcjndaaGreatDoor.Ev
