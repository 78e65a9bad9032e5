/-
  A deterministic evaluator of the model's code over a heap of its own: the definitions.
-/
import Derived.Calls
import Derived.Orders
import GoSem.Core.Utf8
namespace Go.Proofs.YtenolmhnmcjndaaGreatDoor.Ev
set_option linter.unusedVariables false
set_option linter.unusedSimpArgs false
open Go

/-! ### A map from numbers, quick to reckon with -/
inductive Tr (α : Type) where
  | nil
  | node (l : Tr α) (v : Option α) (r : Tr α)

def Tr.get {α : Type} : Tr α → Nat → Option α
  | .nil, _ => none
  | .node l v r, n => match n with
    | 0 => v
    | m + 1 => match m % 2 with
      | 0 => l.get (m / 2)
      | _ => r.get (m / 2)

def Tr.parts {α : Type} : Tr α → Tr α × Option α × Tr α
  | .nil => (.nil, none, .nil)
  | .node l v r => (l, v, r)

def Tr.set {α : Type} : Nat → Tr α → Nat → α → Tr α
  | 0, t, _, _ => t
  | f + 1, t, n, a => match n with
    | 0 => .node t.parts.1 (some a) t.parts.2.2
    | m + 1 => match m % 2 with
      | 0 => .node (Tr.set f t.parts.1 (m / 2) a) t.parts.2.1 t.parts.2.2
      | _ => .node t.parts.1 t.parts.2.1 (Tr.set f t.parts.2.2 (m / 2) a)

theorem Tr.get_nil {α : Type} (m : Nat) : (Tr.nil : Tr α).get m = none := by cases m <;> rfl

theorem Tr.get_parts {α : Type} (t : Tr α) (m : Nat) : (Tr.node t.parts.1 t.parts.2.1 t.parts.2.2).get m = t.get m := by
  cases t with
  | nil =>
    rw [Tr.get_nil]
    cases m with
    | zero => rfl
    | succ m => simp only [Tr.parts, Tr.get, Tr.get_nil]; split <;> rfl
  | node l v r => rfl

theorem Tr.get_set {α : Type} : ∀ (f : Nat) (t : Tr α) (n : Nat) (a : α) (m : Nat), n < f → (Tr.set f t n a).get m = if m = n then some a else t.get m
  | 0, _, _, _, _, h => absurd h (by omega)
  | f + 1, t, n, a, m, h => by
    rw [← Tr.get_parts t m]
    cases n with
    | zero => cases m <;> simp [Tr.set, Tr.get]
    | succ n =>
      have hlt : n / 2 < f := by omega
      have ih := fun (t : Tr α) k => Tr.get_set f t (n / 2) a k hlt
      rcases Nat.mod_two_eq_zero_or_one n with hn | hn <;> cases m with
      | zero => simp [Tr.set, Tr.get, hn]
      | succ m =>
        rcases Nat.mod_two_eq_zero_or_one m with hm | hm
        all_goals
          simp only [Tr.set, Tr.get, hn, hm, ih]
          first
            | (have e : (m / 2 = n / 2) ↔ (m + 1 = n + 1) := by omega
               simp only [e]; done)
            | (have e : ¬ (m + 1 = n + 1) := by omega
               rw [if_neg e])

/-! ### The heap -/
/-- A block: what it holds; the first block of its row of copies; is the real block just as long; a stamp that each write turns. -/
structure Blk where
  obj : Obj
  root : Nat
  exact : Bool
  ver : Nat

structure AH where
  tr : Tr Blk
  /-- of a first block: the last of its copies, and from which on they live -/
  gr : Tr (Nat × Nat)
  next : Nat
  clock : Nat

def AH.empty : AH := ⟨.nil, .nil, 0, 0⟩
def AH.blk (H : AH) (c : Nat) : Option Blk := H.tr.get c
def AH.grp (H : AH) (r : Nat) : Nat × Nat := (H.gr.get r).getD (r, r)
/-- May the block be looked at? -/
def AH.live (H : AH) (c : Nat) (b : Blk) : Bool := Nat.ble (H.grp b.root).2 c
/-- May it be written? -/
def AH.tip (H : AH) (c : Nat) (b : Blk) : Bool := Nat.beq (H.grp b.root).1 c

def AH.alloc (H : AH) (o : Obj) (exact : Bool) : AH :=
  { H with tr := Tr.set (H.next + 1) H.tr H.next ⟨o, H.next, exact, H.clock⟩, next := H.next + 1, clock := H.clock + 1 }
/-- A copy of a row that may be the row itself, grown in place. -/
def AH.copyOf (H : AH) (o : Obj) (root : Nat) : AH :=
  { tr := Tr.set (H.next + 1) H.tr H.next ⟨o, root, false, H.clock⟩, gr := Tr.set (root + 1) H.gr root (H.next, (H.grp root).2), next := H.next + 1, clock := H.clock + 1 }
/-- A write into a tip: the rows that it came of are no more to be looked at. -/
def AH.put (H : AH) (c : Nat) (b : Blk) (o : Obj) : AH :=
  { H with tr := Tr.set (c + 1) H.tr c { b with obj := o, ver := H.clock }, clock := H.clock + 1,
           gr := if Nat.beq (H.grp b.root).2 c then H.gr else Tr.set (b.root + 1) H.gr b.root ((H.grp b.root).1, c) }

/-- A row of cells that may be looked at. -/
def AH.cells (H : AH) (c : Nat) : Option (Array Value × TypeId × (Nat × Nat)) :=
  match H.blk c with
  | some b => match H.live c b, b.obj with
    | true, .cells C e f => some (C, e, f)
    | _, _ => none
  | none => none

/-! ### Values without addresses -/
def atomB : Value → Bool
  | .bool _ | .int _ _ | .string _ | .float _ _ | .nilFunc | .nilIface | .pointer none | .slice none _ _ | .map none => true
  | _ => false
def flat1 : Value → Bool
  | .iface _ v => atomB v || (match v with | .agg cs => cs.toList.all atomB | _ => false)
  | v => atomB v
def flat2 : Value → Bool
  | .agg cs => cs.toList.all flat1
  | v => flat1 v
def flatB : Value → Bool
  | .tuple vs => vs.toList.all flat2
  | v => flat2 v
/-- May a value lie in a cell? -/
def isCell : Value → Bool
  | .agg _ | .tuple _ | .chan _ => false
  | _ => true

/-! ### The program's tables -/
def szT (P : Program) (t : TypeId) : Nat := ((P.info? t).map (·.size)).getD 0
theorem sz_info {P : Program} {e : TypeId} (h : szT P e ≠ 0) : ∃ i, P.info? e = some i := by
  unfold szT at h
  cases hi : P.info? e with
  | none => rw [hi] at h; exact absurd rfl h
  | some i => exact ⟨i, rfl⟩
def bytesT (P : Program) (t : TypeId) : Nat := ((P.info? t).map (·.bytes)).getD 0
/-- A type's zero value, if it has no address. -/
def zeroT (P : Program) (t : TypeId) : Option Value :=
  match (P.info? t).bind (·.zero) with
  | some z => bif flat2 z then some z else none
  | none => none
def elemT (P : Program) (t : TypeId) : Option TypeId := match P.underlying t with | some (.slice e) => some e | _ => none

/-! ### Computations that touch nothing -/
def pureRun (P : Program) {α : Type} : Sem α → Option α
  | .pure a => some a
  | .program k => pureRun P (k P)
  | .mark _ k => pureRun P k
  | _ => none

theorem pureRun_run {P : Program} {α : Type} (s : Sem α) (v : α) (h : pureRun P s = some v) (w : World) : s.run P w = .ok v w := by
  induction s with
  | pure a => simp [pureRun] at h; simp [Sem.run, h]
  | program k ih => simp only [pureRun] at h; simp only [Sem.run]; exact ih P h
  | mark m k ih => simp only [pureRun] at h; simp only [Sem.run]; exact ih h
  | _ => simp [pureRun] at h

/-! ### Cells -/
def writeCells (C : Array Value) (i : Nat) : List Value → Array Value
  | [] => C
  | v :: r => writeCells (C.setIfInBounds i v) (i + 1) r

def loadA (P : Program) (H : AH) (t : TypeId) (p : Addr) : Option Value :=
  match p.spot, H.cells p.block, P.underlying t with
  | none, some (C, _, _), some d => match d with
    | .struct _ | .array _ _ => if p.off + szT P t ≤ C.size then some (.agg (C.extract p.off (p.off + szT P t))) else none
    | _ => C[p.off]?
  | _, _, _ => none

def storeA (P : Program) (H : AH) (t : TypeId) (p : Addr) (v : Value) : Option AH :=
  match p.spot, H.blk p.block with
  | none, some b => match b.obj with
    | .cells C e (lo, hi) =>
      if H.live p.block b && H.tip p.block b && (P.info? t).map (·.size) == some v.cells.size && decide (p.off + v.cells.size ≤ C.size) && v.cells.toList.all isCell &&
        (decide (hi ≤ p.off) || decide (p.off + v.cells.size ≤ lo) || lo == hi) then
        some (H.put p.block b (.cells (writeCells C p.off v.cells.toList) e (lo, hi)))
      else none
    | _ => none
  | _, _ => none

/-- The cells of a row from a place on. -/
def rowA (H : AH) (p : Option Addr) (n : Nat) : Option (List Value) :=
  match p with
  | none => if n = 0 then some [] else none
  | some p => match p.spot, H.cells p.block with
    | none, some (C, _, _) => if p.off + n ≤ C.size then some (C.extract p.off (p.off + n)).toList else none
    | _, _ => none

def bytesOfCells : List Value → Option (List UInt8)
  | [] => some []
  | .int .u8 n :: r => match bytesOfCells r with | some l => some (UInt8.ofNat n.toNat :: l) | none => none
  | _ :: _ => none
def runesOfCells : List Value → ByteArray → Option ByteArray
  | [], acc => some acc
  | .int .i32 n :: r, acc => runesOfCells r (acc ++ Utf8.encode n)
  | _ :: _, _ => none
end Go.Proofs.YtenolmhnmcjndaaGreatDoor.Ev
