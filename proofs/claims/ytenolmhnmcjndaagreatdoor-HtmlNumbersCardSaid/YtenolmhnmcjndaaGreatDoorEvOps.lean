/-
  A deterministic evaluator of the model's code over a heap of its own: operations, regions, code, functions.
-/
import Derived.Test.YtenolmhnmcjndaaGreatDoorEvCore
import Derived.Laws.Tables
import Derived.Great.BuildSlice
namespace Go.Proofs.YtenolmhnmcjndaaGreatDoor.Ev
set_option linter.unusedVariables false
set_option linter.unusedSimpArgs false
open Go

/-- What the evaluator knows nothing of. -/
def junk : Value := .chan (some 0)

def rho (e : List Value) : Operand → Value
  | .tmp t => e.getD t undef
  | .const v => bif flatB v then v else junk
  | .global _ => junk
  | .func f => .func (.func f) #[] #[]

abbrev CallA := FuncId → List Value → AH → Option (Value × AH)

/-- An operation on values without addresses, as the model has it. -/
def flatOp (P : Program) (o : Oper) (ρ : Operand → Value) : Option Value :=
  if o.op.operands.toList.all (fun x => flatB (ρ x)) then
    match pureRun P (execOp ρ o) with
    | some (.value v) => bif flatB v then some v else none
    | some .skip => some undef
    | _ => none
  else none

def buildA (P : Program) (t : TypeId) (parts : List (Nat × Value)) : Option Value :=
  match zeroT P t, parts.all (fun p => p.2.cells.toList.all isCell) with
  | some _, true => match P.built t parts with
    | some cells => some (.agg cells)
    | none => none
  | _, _ => none

def fieldAddrA (P : Program) (s : TypeId) (x : Value) (f : Nat) : Option Value :=
  match P.underlying s, x with
  | some (.struct fields), .pointer (some p) => match fields[f]? with
    | some fl => bif Nat.beq (szT P fl.type) 0 then none else some (.pointer (some (p.add fl.offset)))
    | none => none
  | _, _ => none

def indexAddrA (P : Program) (t : TypeId) (x i : Value) : Option Value :=
  match P.underlying t, x, i with
  | some (.slice e), .slice (some p) n _, .int _ i => if 0 ≤ i ∧ i < n ∧ szT P e ≠ 0 then some (.pointer (some (p.add (i.toNat * szT P e)))) else none
  | some (.array n e), .pointer (some p), .int _ i => if 0 ≤ i ∧ i < n ∧ szT P e ≠ 0 then some (.pointer (some (p.add (i.toNat * szT P e)))) else none
  | _, _, _ => none

def intOf? : Option Value → Option (Option Int)
  | none => some none
  | some (.int _ n) => some (some n)
  | _ => none

/-- x[lo:hi:mx] of a slice; an address at the end of a row goes on. -/
def sliceA (P : Program) (H : AH) (t : TypeId) (x : Value) (lo hi mx : Option Value) : Option Value :=
  match elemT P t, x, intOf? lo, intOf? hi, intOf? mx with
  | some e, .slice a n c, some lo, some hi, some mx =>
    let m := mx.getD c; let h := hi.getD n; let l := lo.getD 0
    if 0 ≤ l ∧ l ≤ h ∧ h ≤ m ∧ m ≤ c ∧ (mx.isSome → hi.isSome) ∧ n ≤ c ∧ szT P e ≠ 0 then
      match a with
      | none => some (.slice none (h - l).toNat (m - l).toNat)
      | some p => match H.cells p.block with
        | some (_, e', _) => bif Nat.beq e' e then some (.slice (some (p.add (l.toNat * szT P e))) (h - l).toNat (m - l).toNat) else none
        | none => none
    else none
  | _, _, _, _, _ => none

def buildSliceA (P : Program) (H : AH) (t : TypeId) (n : Nat) (parts : List (Nat × Value)) : Option (Value × AH) :=
  match elemT P t with
  | some e => match zeroT P e with
    | some z =>
      if n * szT P e = 0 then
        (bif parts.isEmpty then some (.slice (some ⟨H.next, 0, none⟩) n n, H.alloc (.cells #[] e) true) else none)
      else if n * szT P e ≤ 2 ^ 24 ∧ z.cells.size ≠ 0 ∧ parts.all (fun p => p.2.cells.toList.all isCell) = true then
        match Instr.fill (fun i => some (i * szT P e, szT P e)) ((Array.range (n * szT P e)).map (z.cells[· % z.cells.size]!)) parts with
        | some cells => some (.slice (some ⟨H.next, 0, none⟩) n n, H.alloc (.cells cells e) true)
        | none => none
      else none
    | none => none
  | none => none

def makeSliceA (P : Program) (H : AH) (t : TypeId) (l c : Value) : Option (Value × AH) :=
  match elemT P t, l, c with
  | some e, .int _ l, .int _ c => match zeroT P e with
    | some z =>
      if 0 ≤ l ∧ l ≤ c ∧ c ≤ 140737488355328 ∧ (bytesT P e : Int) * c ≤ 140737488355328 ∧ z.cells.size ≠ 0 ∧ szT P e ≠ 0 then
        some (.slice (some ⟨H.next, 0, none⟩) l.toNat c.toNat, H.alloc (.cells ((Array.range (c.toNat * szT P e)).map (z.cells[· % z.cells.size]!)) e) true)
      else none
    | none => none
  | _, _, _ => none

/-- What append lays behind. -/
def tailA (P : Program) (H : AH) (e : TypeId) (x : Value) : Option (Nat × List Value) :=
  match x with
  | .slice p m _ => match rowA H p (m * szT P e) with
    | some l => some (m, l)
    | none => none
  | .string s => if szT P e = 1 then some (s.size, s.data.toList.map fun b => Value.int .u8 b.toNat) else none
  | _ => none

def storeCellsA (H : AH) (p : Addr) (l : List Value) : Option AH :=
  match p.spot, H.blk p.block with
  | none, some b => match b.obj with
    | .cells C e (lo, hi) =>
      if H.live p.block b && H.tip p.block b && decide (p.off + l.length ≤ C.size) && l.all isCell && (decide (hi ≤ p.off) || decide (p.off + l.length ≤ lo) || lo == hi) then
        some (H.put p.block b (.cells (writeCells C p.off l) e (lo, hi)))
      else none
    | _ => none
  | _, _ => none

def notInt : TypeDesc → Bool
  | .int _ => false
  | _ => true

def appendA (P : Program) (H : AH) (sT : TypeId) (xT : Option TypeId) (s x : Value) : Option (Value × AH) :=
  match elemT P sT, xT.bind P.underlying, s with
  | some e, some xd, .slice base n c =>
    match notInt xd, tailA P H e x, zeroT P e with
    | true, some (m, l), some z =>
      if n + m ≤ c then
        match base, l with
        | none, [] => some (.slice none (n + m) c, H)
        | some p, [] => match H.cells p.block with
          | some _ => some (.slice (some p) (n + m) c, H)
          | none => none
        | some p, l => match storeCellsA H (p.add (n * szT P e)) l with
          | some H' => some (.slice (some p) (n + m) c, H')
          | none => none
        | _, _ => none
      else if (n + m) * bytesT P e ≤ 140737488355328 ∧ n + m ≤ 140737488355328 ∧ 0 < bytesT P e ∧ 0 < szT P e ∧ z.cells.size = szT P e then
        match base with
        | none => if n = 0 then some (.slice (some ⟨H.next, 0, none⟩) (n + m) (n + m), H.alloc (.cells l.toArray e) false) else none
        | some p => match p.spot, H.blk p.block, rowA H (some p) (n * szT P e) with
          | none, some b, some old => match b.obj with
            | .cells C e' (lo, hi) =>
              if e' ≠ e ∨ c < n then none
              else if b.exact = true ∨ p.off + c * szT P e < C.size then
                some (.slice (some ⟨H.next, 0, none⟩) (n + m) (n + m), H.alloc (.cells (old ++ l).toArray e) false)
              else if p.off + c * szT P e = C.size ∧ n = c ∧ H.tip p.block b = true then
                some (.slice (some ⟨H.next, 0, none⟩) (n + m) (n + m), H.copyOf (.cells (old ++ l).toArray e (lo - p.off, hi - p.off)) b.root)
              else none
            | _ => none
          | _, _, _ => none
      else none
    | _, _, _ => none
  | _, _, _ => none

/-- copy, of a row that has room enough before it. -/
def copyA (P : Program) (H : AH) (dT : TypeId) (d x : Value) : Option (Value × AH) :=
  match elemT P dT, d with
  | some e, .slice (some p) n _ => match tailA P H e x, zeroT P e with
    | some (m, l), some _ => if m ≤ n ∧ 0 < m ∧ l ≠ [] then (match storeCellsA H p l with | some H' => some (.int .i64 m, H') | none => none) else none
    | _, _ => none
  | _, _ => none

/-- A row of bytes that is converted to its own type: the place behind it is marked. -/
def markedA (H : AH) (p : Addr) (n c : Nat) : Option (Value × AH) :=
  match H.blk p.block with
  | some b => match b.obj with
    | .cells C e fr => if H.live p.block b = true ∧ H.tip p.block b = true ∧ b.exact = true ∧ 0 < n ∧ fr.1 = 0 ∧ fr.2 = 0 ∧ 0 < C.size then some (.slice (some p) n c, H.put p.block b (.cells C e (C.size, C.size + 1))) else none
    | _ => none
  | none => none

def convertA (P : Program) (H : AH) (src dst : TypeId) (x : Value) : Option (Value × AH) :=
  match P.underlying src, P.underlying dst, x with
  | some .string, some (.slice e), .string s => match P.underlying e, szT P e with
    | some (.int .u8), 1 => some (.slice (some ⟨H.next, 0, none⟩) s.size s.size, H.alloc (.cells (s.data.map fun b => Value.int .u8 b.toNat) e (s.size, s.size + 1)) false)
    | some (.int .i32), 1 => let l := Conv.runesFrom s s.size 0 #[]
      bif l.toList.all flat1 then some (.slice (some ⟨H.next, 0, none⟩) l.size l.size, H.alloc (.cells l e) false) else none
    | _, _ => none
  | some (.slice e), some .string, .slice p n _ => match P.underlying e, rowA H p n with
    | some (.int .u8), some l => match bytesOfCells l with | some b => some (.string ⟨b.toArray⟩, H) | none => none
    | some (.int .i32), some l => match runesOfCells l .empty with | some b => some (.string b, H) | none => none
    | _, _ => none
  | some (.slice _), some (.slice e), .slice (some p) n c => match Nat.beq src dst, P.underlying e with
    | true, some (.int .u8) => markedA H p n c
    | _, _ => none
  | _, _, _ => none

/-- A block that a pointer may be held against another's. -/
def AH.plain (H : AH) (c : Nat) : Bool :=
  match H.blk c with
  | some b => H.live c b && b.exact && (match b.obj with | .cells _ _ (lo, hi) => lo == 0 && hi == 0 | _ => false)
  | none => false

/-- == of values with addresses. -/
def eqA (P : Program) (H : AH) (t : TypeId) (x y : Value) : Option Bool :=
  match P.underlying t, x, y with
  | some (.pointer _), .pointer (some _), .pointer none | some (.pointer _), .pointer none, .pointer (some _) => some false
  | some (.pointer e), .pointer (some a), .pointer (some b) =>
    if szT P e ≠ 0 ∧ a.spot = none ∧ b.spot = none ∧ H.plain a.block = true ∧ H.plain b.block = true then some (Nat.beq a.block b.block && Nat.beq a.off b.off) else none
  | some (.slice _), .slice (some _) _ _, .slice none _ _ | some (.slice _), .slice none _ _, .slice (some _) _ _ => some false
  | some (.map _ _), .map (some _), .map none | some (.map _ _), .map none, .map (some _) => some false
  | some (.interface _), .iface _ _, .nilIface | some (.interface _), .nilIface, .iface _ _ => some false
  | _, _, _ => none

def nextA (H : AH) (it : Value) : Option (Value × AH) :=
  match it with
  | .pointer (some ⟨r, 0, none⟩) => match H.blk r with
    | some b => match H.live r b && H.tip r b, b.obj with
      | true, .stringIter s pos =>
        if pos < s.size then
          let d := Utf8.decode s pos
          some (.tuple #[.bool true, .int .i64 pos, .int .i32 d.1], H.put r b (.stringIter s (pos + d.2)))
        else some (.tuple #[.bool false], H)
      | _, _ => none
    | none => none
  | _ => none

def noTuple : Value → Bool
  | .tuple _ => false
  | _ => true

/-- A key that is looked for without asking. -/
def keyKind : TypeDesc → Bool
  | .int _ | .string | .bool => true
  | _ => false
def mapRow (H : AH) : Value → Option (List MapEntry)
  | .map none => some []
  | .map (some r) => match H.blk r with
    | some b => match H.live r b, b.obj with
      | true, .map es _ => some es.toList
      | _, _ => none
    | none => none
  | _ => none
def lookupA (P : Program) (H : AH) (t : TypeId) (m k : Value) (ok : Bool) : Option Value :=
  match P.underlying t with
  | some (.map kt et) => match P.underlying kt, zeroT P et, mapRow H m with
    | some kd, some z, some es => bif keyKind kd && atomB k then (match Instr.findNow kd k es 0 with
      | some (some (_, x)) => some (bif ok then .tuple #[x, .bool true] else x)
      | some none => some (bif ok then .tuple #[z, .bool false] else z)
      | none => none) else none
    | _, _, _ => none
  | _ => none
def mapUpdateA (P : Program) (H : AH) (t : TypeId) (m k x : Value) : Option AH :=
  match P.underlying t, m with
  | some (.map kt _), .map (some r) => match P.underlying kt, H.blk r with
    | some kd, some b => match H.live r b && H.tip r b && keyKind kd && atomB k && noTuple x, b.obj with
      | true, .map es ck => match Instr.findNow kd k es.toList 0 with
        | some (some (i, _)) => some (H.put r b (.map (es.modify i fun e => { e with key := k, val := x }) ck))
        | some none => some (H.put r b (.map (es.push { key := k, val := x, born := ck }) (ck + 1)))
        | none => none
      | _, _ => none
    | _, _ => none
  | _, _ => none

/-- A value that another may hold as an interface's: it has no address, or it is one. -/
def heldB : Value → Bool
  | .pointer (some _) => true
  | v => atomB v || (match v with | .agg cs => cs.toList.all atomB | _ => false)

/-- A value that a function literal may capture. -/
def capB : Value → Bool
  | .pointer (some _) | .slice (some _) _ _ | .map (some _) => true
  | v => atomB v

def callA (P : Program) (call : CallA) (o : Oper) (c : Call) (ρ : Operand → Value) (H : AH) : Option (Value × AH) :=
  match c.callee with
  | .value x => match ρ x with
    | .func (.func f) first cap => bif first.isEmpty then call f ((c.args.toList.map ρ) ++ cap.toList) H else none
    | _ => none
  | .builtin .len => match c.args.toList.map ρ, (c.argTypes[0]?).bind P.underlying with
    | [.slice _ n _], some (.slice _) => some (.int .i64 n, H)
    | [m], some (.map _ _) => (mapRow H m).map fun es => (.int .i64 es.length, H)
    | _, _ => (flatOp P o ρ).map (·, H)
  | .builtin .append => match c.args.toList.map ρ, c.argTypes[0]? with
    | [s, x], some sT => appendA P H sT c.argTypes[1]? s x
    | _, _ => none
  | .builtin .copy => match c.args.toList.map ρ, c.argTypes[0]? with
    | [d, x], some dT => copyA P H dT d x
    | _, _ => none
  | _ => (flatOp P o ρ).map (·, H)

def evOp (P : Program) (call : CallA) (o : Oper) (ρ : Operand → Value) (H : AH) : Option (Value × AH) :=
  match o.op with
  | .move x | .assign x => some (ρ x, H)
  | .pick c a b => match ρ c with
    | .bool true => some (ρ a, H)
    | .bool false => some (ρ b, H)
    | _ => none
  | .extract t ix => match ρ t with
    | .tuple vs => (vs[ix]?).map (·, H)
    | _ => none
  | .build t parts => (buildA P t (parts.toList.map fun p => (p.1, ρ p.2))).map (·, H)
  | .nilCheck x => match ρ x with
    | .pointer (some a) => some (.pointer (some a), H)
    | .func (.func f) a b => some (.func (.func f) a b, H)
    | _ => none
  | .fieldAddr s x f => (fieldAddrA P s (ρ x) f).map (·, H)
  | .indexAddr t x i => (indexAddrA P t (ρ x) (ρ i)).map (·, H)
  | .load t a => match ρ a with
    | .pointer (some p) => (loadA P H t p).map (·, H)
    | _ => none
  | .store t a x => match ρ a with
    | .pointer (some p) => (storeA P H t p (ρ x)).map (undef, ·)
    | _ => none
  | .alloc e => match zeroT P e with
    | some z => some (.pointer (some ⟨H.next, 0, none⟩), H.alloc (.cells z.cells e) true)
    | none => none
  | .box e x => bif (ρ x).cells.toList.all isCell then some (.pointer (some ⟨H.next, 0, none⟩), H.alloc (.cells (ρ x).cells e) true) else none
  | .buildSlice t n parts => buildSliceA P H t n (parts.toList.map fun p => (p.1, ρ p.2))
  | .makeSlice t l c => makeSliceA P H t (ρ l) (ρ c)
  | .makeFunc fn first cap => match fn with
    | .func f => bif first.isEmpty && cap.toList.all (fun x => capB (ρ x)) then some (.func (.func f) #[] (cap.map ρ), H) else none
    | _ => none
  | .makeInterface t x => match P.underlying t with
    | some (.interface _) => none
    | some _ => bif heldB (ρ x) then some (.iface t (ρ x), H) else none
    | none => none
  | .slice t x lo hi mx => match P.underlying t with
    | some (.slice _) => (sliceA P H t (ρ x) (lo.map ρ) (hi.map ρ) (mx.map ρ)).map (·, H)
    | _ => (flatOp P o ρ).map (·, H)
  | .convert src dst x => match convertA P H src dst (ρ x) with
    | some r => some r
    | none => (flatOp P o ρ).map (·, H)
  | .binOp op t x y _ => match op, eqA P H t (ρ x) (ρ y) with
    | .eql, some b => some (.bool b, H)
    | .neq, some b => some (.bool (!b), H)
    | _, _ => (flatOp P o ρ).map (·, H)
  | .range t x => match P.underlying t, ρ x with
    | some .string, .string s => some (.pointer (some ⟨H.next, 0, none⟩), H.alloc (.stringIter s 0) true)
    | _, _ => none
  | .next it true => nextA H (ρ it)
  | .call c => callA P call o c ρ H
  | .unOp .. | .index .. | .field .. | .typeAssert .. => (flatOp P o ρ).map (·, H)
  | .makeMap t none => match P.underlying t with
    | some (.map _ _) => some (.map (some H.next), H.alloc (.map #[] 0) true)
    | _ => none
  | .lookup t m k ok => (lookupA P H t (ρ m) (ρ k) ok).map (·, H)
  | .mapUpdate t m k x => (mapUpdateA P H t (ρ m) (ρ k) (ρ x)).map (undef, ·)
  | _ => none

def putE (e : List Value) (d : Option Tmp) (v : Value) : List Value :=
  match d with
  | some d => e.set d v
  | none => e

/-- Is the operation to be done? -/
def guardA (ops : Array Oper) (o : Oper) (e : List Value) : Option Bool :=
  match o.guard with
  | none => some true
  | some (j, want) => match ((ops[j]?).bind (·.dst)).bind (e[·]?) with
    | some (.bool b) => some (b == want)
    | some (.tuple vs) => bif vs.isEmpty then some false else none
    | _ => none

/-- Operations in the text's order. -/
def evOps (P : Program) (call : CallA) (ops : Array Oper) : List Oper → List Value → AH → Option (List Value × AH)
  | [], e, H => some (e, H)
  | o :: r, e, H =>
    match guardA ops o e with
    | some true => match evOp P call o (rho e) H with
      | some (v, H') => evOps P call ops r (putE e o.dst v) H'
      | none => none
    | some false => evOps P call ops r (putE e o.dst undef) H
    | none => none

/-- How a piece of code ends: it goes on, it leaves a block, it returns. -/
inductive St where
  | nx
  | ex (id : Nat)
  | rt

def loopA (f : List Value → AH → Option (St × List Value × AH)) : Nat → List Value → AH → Option (St × List Value × AH)
  | 0, _, _ => none
  | n + 1, e, H => match f e H with
    | some (.nx, e', H') => loopA f n e' H'
    | r => r

/-! ### A range over slices.Backward's function -/
def backName : String := "slices.Backward[[]int,int]$1"
def isBack (P : Program) (f : FuncId) : Bool := match P.funcs[f]? with
  | some fn => fn.name == backName
  | none => false
/-- Code that a round may be. -/
def plainC : Code → Bool
  | .skip => true
  | .region _ ops _ => ops.toList.all fun o => match o.op with | .defer _ => false | _ => true
  | .seq a b | .cond _ a b => plainC a && plainC b
  | .block _ c => plainC c
  | _ => false
/-- Code without a range over a function. -/
def noRF : Code → Bool
  | .seq a b | .cond _ a b => noRF a && noRF b
  | .block _ c | .loop c | .scope c => noRF c
  | .rangeFunc .. => false
  | _ => true
def cellA (H : AH) (p : Addr) : Option Value := match p.spot, H.cells p.block with
  | none, some (C, _, _) => C[p.off]?
  | _, _ => none
/-- Is it a slice of so many, from that place on? -/
def sameS (a : Option Addr) (len : Nat) : Option Value → Bool
  | some (.slice (some p) n _) => (match a with | some q => Nat.beq p.block q.block && Nat.beq p.off q.off && p.spot.isNone && q.spot.isNone | none => false) && Nat.beq n len
  | _ => false
/-- From the last to the first. -/
def backA (run : Nat → Value → AH → Option AH) (pb : Addr) (a : Option Addr) (len : Nat) : Nat → AH → Option AH
  | 0, H => some H
  | k + 1, H => match sameS a len (cellA H pb), a with
    | true, some p => match cellA H (p.add k) with
      | some (.int .i64 x) => match run k (.int .i64 x) H with
        | some H' => backA run pb a len k H'
        | none => none
      | _ => none
    | _, _ => none

/-- The rounds of a range over slices.Backward's function. -/
def rangeA (P : Program) (rd : Tmp → Tmp → Nat → Value → AH → Option AH) (ok : Bool) (g : Value) (ps : List Tmp) (H : AH) : Option AH :=
  match g, ps with
  | .func (.func f) first cap, [p0, p1] => match isBack P f && first.isEmpty && ok, cap.toList with
    | true, [.pointer (some pb)] => match cellA H pb with
      | some (.slice a len _) => bif Nat.ble len 140737488355328 then backA (rd p0 p1) pb a len len H else none
      | _ => none
    | _, _ => none
  | _, _ => none
theorem rangeA_some {P : Program} {rd : Tmp → Tmp → Nat → Value → AH → Option AH} {ok : Bool} {g : Value} {ps : List Tmp} {H H' : AH} (h : rangeA P rd ok g ps H = some H') :
    ∃ f p0 p1 pb a len c, g = .func (.func f) #[] #[.pointer (some pb)] ∧ ps = [p0, p1] ∧ isBack P f = true ∧ ok = true ∧ cellA H pb = some (.slice a len c) ∧ len ≤ 140737488355328 ∧ backA (rd p0 p1) pb a len len H = some H' := by
  unfold rangeA at h
  split at h
  case h_2 => cases h
  rename_i f first cap p0 p1
  split at h
  case h_2 => cases h
  rename_i pb hchk hcap
  simp only [Bool.and_eq_true] at hchk
  obtain ⟨⟨h1, h2⟩, h3⟩ := hchk
  split at h
  case h_2 => cases h
  rename_i a0 len cp hbox
  cases hle : Nat.ble len 140737488355328 with
  | false => rw [hle] at h; cases h
  | true =>
    rw [hle] at h
    have hf0 : first = #[] := by simpa using h2
    subst hf0
    have hc0 : cap = #[.pointer (some pb)] := by rw [← Array.toList_inj, hcap]
    subst hc0
    exact ⟨f, p0, p1, pb, a0, len, cp, rfl, rfl, h1, h3, hbox, Nat.le_of_ble_eq_true hle, h⟩
theorem rangeA_of {P : Program} {rd : Tmp → Tmp → Nat → Value → AH → Option AH} {f : FuncId} {p0 p1 : Tmp} {pb : Addr} {a : Option Addr} {len c : Nat} {H H' : AH} (h1 : isBack P f = true) (h2 : cellA H pb = some (.slice a len c)) (h3 : len ≤ 140737488355328) (h4 : backA (rd p0 p1) pb a len len H = some H') :
    rangeA P rd true (.func (.func f) #[] #[.pointer (some pb)]) [p0, p1] H = some H' := by
  unfold rangeA
  simp only [h1, Array.isEmpty_empty, Bool.and_self, h2, Nat.ble_eq_true_of_le h3, cond_true]
  exact h4
theorem backA_mono {rd rd' : Nat → Value → AH → Option AH} {pb : Addr} {a : Option Addr} {len : Nat} (hm : ∀ i x H H', rd i x H = some H' → rd' i x H = some H') : ∀ (k : Nat) (H H' : AH), backA rd pb a len k H = some H' → backA rd' pb a len k H = some H'
  | 0, _, _, h => h
  | k + 1, H, H', h => by
    unfold backA at h ⊢
    split at h
    case h_2 => cases h
    rename_i p hs
    split at h
    case h_2 => cases h
    rename_i x hc
    split at h
    case h_2 => cases h
    rename_i H2 hr
    simp only [hm _ _ _ _ hr]
    exact backA_mono hm k _ _ h
theorem rangeA_mono {P : Program} {rd rd' : Tmp → Tmp → Nat → Value → AH → Option AH} (hm : ∀ p0 p1 i x H H', rd p0 p1 i x H = some H' → rd' p0 p1 i x H = some H') {ok : Bool} {g : Value} {ps : List Tmp} {H H' : AH} (h : rangeA P rd ok g ps H = some H') : rangeA P rd' ok g ps H = some H' := by
  obtain ⟨f, p0, p1, pb, a, len, c, rfl, rfl, h1, rfl, h2, h3, h4⟩ := rangeA_some h
  exact rangeA_of h1 h2 h3 (backA_mono (hm p0 p1) _ _ _ h4)
theorem backA_rel {rd : Nat → Value → AH → Option AH} {R : AH → AH → Prop} (h0 : ∀ H, R H H) (ht : ∀ A B C, R A B → R B C → R A C) (hm : ∀ i x H H', rd i x H = some H' → R H H') {pb : Addr} {a : Option Addr} {len : Nat} : ∀ (k : Nat) (H H' : AH), backA rd pb a len k H = some H' → R H H'
  | 0, H, H', h => by cases h; exact h0 H
  | k + 1, H, H', h => by
    unfold backA at h
    split at h
    case h_2 => cases h
    split at h
    case h_2 => cases h
    split at h
    case h_2 => cases h
    rename_i H2 hr
    exact ht _ _ _ (hm _ _ _ _ hr) (backA_rel h0 ht hm k _ _ h)
theorem map_st {x : Option AH} {st : St} {e e' : List Value} {H' : AH} (h : x.map (fun H' => (St.nx, e, H')) = some (st, e', H')) : x = some H' ∧ st = .nx ∧ e' = e := by
  cases x with
  | none => cases h
  | some _ => cases h; exact ⟨rfl, rfl, rfl⟩

def evCode (P : Program) (reg : Array Oper → Bool → List Value → AH → Option (List Value × AH)) (n : Nat) : Code → List Value → AH → Option (St × List Value × AH)
  | .skip, e, H => some (.nx, e, H)
  | .region _ ops d, e, H => match reg ops d e H with
    | some (e', H') => some (.nx, e', H')
    | none => none
  | .seq a b, e, H => match evCode P reg n a e H with
    | some (.nx, e', H') => evCode P reg n b e' H'
    | r => r
  | .cond c x y, e, H => match rho e c with
    | .bool true => evCode P reg n x e H
    | .bool false => evCode P reg n y e H
    | _ => none
  | .block id c, e, H => match evCode P reg n c e H with
    | some (.ex i, e', H') => if i = id then some (.nx, e', H') else some (.ex i, e', H')
    | r => r
  | .loop c, e, H => loopA (evCode P reg n c) n e H
  | .exit id, e, H => some (.ex id, e, H)
  | .ret, e, H => some (.rt, e, H)
  | .scope c, e, H => evCode P reg n c e H
  | .rangeFunc g ps asg body, e, H => (rangeA P (fun p0 p1 i x H => match evCode P reg n asg ((e.set p0 (.int .i64 (i : Nat))).set p1 x) H with
      | some (.nx, e1, H1) => match evCode P reg n body e1 H1 with
        | some (.nx, _, H2) => some H2
        | _ => none
      | _ => none) (plainC asg && plainC body) (rho e g) ps.toList H).map fun H' => (.nx, e, H')
  | _, _, _ => none

/-- One round: the assignment, the body. -/
def roundA (P : Program) (reg : Array Oper → Bool → List Value → AH → Option (List Value × AH)) (n : Nat) (asg body : Code) (e : List Value) (p0 p1 : Tmp) (i : Nat) (x : Value) (H : AH) : Option AH :=
  match evCode P reg n asg ((e.set p0 (.int .i64 i)).set p1 x) H with
  | some (.nx, e1, H1) => match evCode P reg n body e1 H1 with
    | some (.nx, _, H2) => some H2
    | _ => none
  | _ => none
theorem roundA_some {P : Program} {reg : Array Oper → Bool → List Value → AH → Option (List Value × AH)} {n : Nat} {asg body : Code} {p0 p1 : Tmp} {e : List Value} {i : Nat} {x : Value} {H H' : AH} (h : roundA P reg n asg body e p0 p1 i x H = some H') :
    ∃ e1 H1 e2, evCode P reg n asg ((e.set p0 (.int .i64 i)).set p1 x) H = some (.nx, e1, H1) ∧ evCode P reg n body e1 H1 = some (.nx, e2, H') := by
  unfold roundA at h
  split at h
  · rename_i e1 H1 h1
    split at h
    · rename_i e2 H2 h2; cases h; exact ⟨_, _, _, h1, h2⟩
    · cases h
  · cases h
theorem roundA_of {P : Program} {reg : Array Oper → Bool → List Value → AH → Option (List Value × AH)} {n : Nat} {asg body : Code} {p0 p1 : Tmp} {e e1 e2 : List Value} {i : Nat} {x : Value} {H H1 H' : AH} (h1 : evCode P reg n asg ((e.set p0 (.int .i64 i)).set p1 x) H = some (.nx, e1, H1)) (h2 : evCode P reg n body e1 H1 = some (.nx, e2, H')) :
    roundA P reg n asg body e p0 p1 i x H = some H' := by
  unfold roundA; rw [h1]; simp only; rw [h2]
theorem evCode_range {P : Program} {reg : Array Oper → Bool → List Value → AH → Option (List Value × AH)} {n : Nat} {g : Operand} {ps : Array Tmp} {asg body : Code} {e : List Value} {H : AH} :
    evCode P reg n (.rangeFunc g ps asg body) e H = (rangeA P (roundA P reg n asg body e) (plainC asg && plainC body) (rho e g) ps.toList H).map fun H' => (.nx, e, H') := rfl

def resA (P : Program) (e : List Value) (H : AH) : ResultVar → Option Value
  | .tmp t => some (e.getD t undef)
  | .cell a t => match e.getD a undef with
    | .pointer (some p) => loadA P H t p
    | _ => none

def resultsA (P : Program) (e : List Value) (H : AH) (l : List ResultVar) : Option Value :=
  match l.mapM (resA P e H) with
  | some [v] => some v
  | some vs => bif vs.all noTuple then some (.tuple vs.toArray) else none
  | none => none

/-! ### Regions that draw their order: in the text's order, where that is all the same -/
/-- The states ahead of each operation, and behind the last. -/
def evTr (P : Program) (call : CallA) (ops : Array Oper) : List Oper → List Value → AH → Option (List (List Value × AH))
  | [], e, H => some [(e, H)]
  | o :: r, e, H =>
    match guardA ops o e with
    | some true => match evOp P call o (rho e) H with
      | some (v, H') => (evTr P call ops r (putE e o.dst v) H').map ((e, H) :: ·)
      | none => none
    | some false => (evTr P call ops r (putE e o.dst undef) H).map ((e, H) :: ·)
    | none => none

/-- May the operation write? -/
def effB : Op → Bool
  | .store .. | .next .. | .mapUpdate .. => true
  | .call { callee := .value _, .. } | .call { callee := .builtin .append, .. } | .call { callee := .builtin .copy, .. } | .call { callee := .invoke .., .. } => true
  | _ => false

def blockOf : Value → List Nat
  | .pointer (some p) => [p.block]
  | .slice (some p) _ _ => [p.block]
  | .map (some r) => [r]
  | _ => []

/-- The blocks that an operation that does not write looks at, or makes. -/
def touchA (o : Oper) (ρ : Operand → Value) (H : AH) : List Nat :=
  match o.op with
  | .load _ a => blockOf (ρ a)
  | .slice _ x _ _ _ | .convert _ _ x => H.next :: blockOf (ρ x)
  | .binOp _ _ x y _ => blockOf (ρ x) ++ blockOf (ρ y)
  | .lookup _ x _ _ => blockOf (ρ x)
  | .alloc _ | .box .. | .buildSlice .. | .makeSlice .. | .range .. | .makeMap .. => [H.next]
  | _ => []

def quietB : Op → Bool
  | .move _ | .assign _ | .pick .. | .extract .. | .build .. | .nilCheck _ | .fieldAddr .. | .indexAddr .. | .makeFunc .. | .makeInterface .. | .unOp .. | .index .. | .field .. | .typeAssert .. => true
  | .call { callee := .builtin .len, .. } | .call { callee := .builtin .min, .. } | .call { callee := .builtin .max, .. } => true
  | _ => false

def stab (H : AH) (c : Nat) : Option (Nat × Bool) := (H.blk c).map fun b => (b.ver, H.live c b)

/-- Pairs of an operation that looks, or makes, and one that writes, of which neither waits for the other. -/
def unord (ops : Array Oper) : List (Nat × Nat) :=
  let b := Region.before ops
  (List.range ops.size).flatMap fun e => bif (match ops[e]? with | some o => effB o.op | none => false) then
    (List.range ops.size).filterMap fun i => match ops[i]? with
      | some o => bif Nat.beq i e || effB o.op || quietB o.op || (b.getD (max i e) 0).testBit (min i e) then none else some (i, e)
      | none => none
    else []

def drawOk (ops : Array Oper) (s : List (List Value × AH)) : Bool :=
  (unord ops).all fun (i, e) => match ops[i]?, s[i]?, s[e]?, s[e + 1]? with
    | some o, some (ei, Hi), some (_, He), some (_, He') => (touchA o (rho ei) Hi).all fun c => stab He c == stab He' c
    | _, _, _, _ => false

/-- What is asked of the text of a region that draws. -/
def orderB (ops : Array Oper) : Bool :=
  let b := Region.before ops
  Region.temporariesOk ops b && Region.noSelect ops &&
  (List.range ops.size).all fun j => match ops[j]? with
    | some o => o.after.all (fun e => !Region.binds .any e || Nat.blt e.on j) &&
      (!effB o.op || (List.range j).all fun i => match ops[i]? with | some p => !effB p.op || (b.getD j 0).testBit i | none => true) &&
      (match o.guard with | some (g, _) => (b.getD j 0).testBit g | none => true)
    | none => true

def dstOf (ops : Array Oper) (k : Nat) : Option Tmp := (ops[k]?).bind (·.dst)

def namesOf (o : Oper) : List Tmp := o.dst.toList ++ o.op.operands.toList.filterMap fun | .tmp t => some t | _ => none
/-- Who writes a temporary stands ordered against all who name it. -/
def tempsB (ops : Array Oper) : Bool :=
  let b := Region.before ops
  (List.range ops.size).all fun j => match ops[j]? with
    | some o => (List.range ops.size).all fun i => Nat.beq i j || (match dstOf ops i with
      | some d => !(namesOf o).contains d || (b.getD (max i j) 0).testBit (min i j)
      | none => true)
    | none => true
/-- Edges lead back. -/
def backB (ops : Array Oper) : Bool :=
  (List.range ops.size).all fun j => match ops[j]? with
    | some o => o.after.toList.all fun e => !Region.binds .any e || Nat.blt e.on j
    | none => true

def calmB : Op → Bool
  | .move _ | .assign _ | .pick .. | .extract .. | .build .. | .nilCheck _ | .fieldAddr .. | .indexAddr .. | .load .. | .unOp .. | .index .. | .field .. | .typeAssert .. | .binOp .. | .slice .. => true
  | .call c => match c.callee with
    | .builtin .len => true
    | _ => false
  | _ => false

/-- What is asked of the text of a region that draws. -/
def calmReg (ops : Array Oper) : Bool := tempsB ops && backB ops && ops.toList.all fun o => calmB o.op && o.guard.isNone

/-- Does an operation look at nothing in the heap, and leave it alone? -/
def freeB (P : Program) : Op → Bool
  | .move _ | .assign _ | .pick .. | .extract .. | .build .. | .nilCheck _ | .fieldAddr .. | .indexAddr .. | .unOp .. | .index .. | .field .. | .typeAssert .. => true
  | .binOp op t _ _ _ => match op with
    | .eql | .neq => (match P.underlying t with
      | some (.int _) | some .string | some .bool => true
      | _ => false)
    | _ => true
  | .slice t _ _ _ _ => match P.underlying t with
    | some (.slice _) | none => false
    | _ => true
  | .convert src _ _ => match P.underlying src with
    | some (.int _) => true
    | _ => false
  | .call c => match c.callee with
    | .builtin .len => (match (c.argTypes[0]?).bind P.underlying with
      | some (.map _ _) => false
      | _ => true)
    | .builtin .max | .builtin .min => true
    | _ => false
  | _ => false

def selB : Op → Bool
  | .select .. => true
  | _ => false

/-- Of a region that draws, at most one operation minds the heap. -/
def oneReg (P : Program) (ops : Array Oper) : Bool :=
  tempsB ops && backB ops && (ops.toList.all fun o => o.guard.isNone && !selB o.op) && Nat.ble ((List.range ops.size).filter fun i => match ops[i]? with | some o => !freeB P o.op | none => false).length 1

def loadB : Op → Bool
  | .load .. => true
  | _ => false
def mindB (P : Program) (ops : Array Oper) (i : Nat) : Bool := match ops[i]? with | some o => !freeB P o.op && !loadB o.op | none => false
/-- The temporaries that an operation names, its guard's with them. -/
def gnamesOf (ops : Array Oper) (o : Oper) : List Tmp := namesOf o ++ (match o.guard with | some (j, _) => (dstOf ops j).toList | none => [])
def tempsG (ops : Array Oper) : Bool :=
  let b := Region.before ops
  (List.range ops.size).all fun j => match ops[j]? with
    | some o => (List.range ops.size).all fun i => Nat.beq i j || (match dstOf ops i with
      | some d => !(gnamesOf ops o).contains d || (b.getD (max i j) 0).testBit (min i j)
      | none => true)
    | none => true
/-- What minds the heap stands in a chain. -/
def chainB (P : Program) (ops : Array Oper) : Bool :=
  let b := Region.before ops
  (List.range ops.size).all fun j => !mindB P ops j || (List.range j).all fun i => !mindB P ops i || (b.getD j 0).testBit i
/-- Where a load looks is not written anew behind it. -/
def loadsB (ops : Array Oper) : Bool :=
  (List.range ops.size).all fun j => match ops[j]? with
    | some o => (match o.op with
      | .load _ (.tmp t) => (List.range ops.size).all fun k => Nat.blt k j || (match dstOf ops k with | some d => !(Nat.beq d t) | none => true)
      | _ => true)
    | none => true
def manyReg (P : Program) (ops : Array Oper) : Bool := tempsG ops && backB ops && chainB P ops && loadsB ops && ops.toList.all fun o => !selB o.op
def stillB (H H' : AH) : Value → Bool
  | .pointer (some a) => match H.blk a.block, H'.blk a.block with
    | some b, some b' => Nat.beq b'.ver b.ver && H'.live a.block b'
    | _, _ => false
  | .map (some r) => match H.blk r, H'.blk r with
    | some b, some b' => Nat.beq b'.ver b.ver && H'.live r b'
    | _, _ => false
  | _ => true
def stillAll (ops : Array Oper) (e : List Value) (H H' : AH) : Bool := ops.toList.all fun o => match o.op with | .load _ x => stillB H H' (rho e x) | _ => true
/-- What minds the heap (ld: but for loads). -/
def heapB (P : Program) (ops : Array Oper) (ld : Bool) (i : Nat) : Bool := match ops[i]? with | some o => !freeB P o.op && !(ld && loadB o.op) | none => false
/-- A slice's literal of constants. -/
def constP (ps : Array (Nat × Operand)) : Bool := ps.toList.all fun p => match p.2 with | .const v => atomB v | _ => false
/-- A new variable that nobody but what stands behind it in the chain looks at, or what stands behind such. -/
def lateAt (P : Program) (ops : Array Oper) (ld : Bool) (j : Nat) : Bool := let bf := Region.before ops; match ops[j]? with
  | some o => (match o.op with | .alloc _ => true | .buildSlice _ _ ps => constP ps | _ => false) && (match o.dst with
    | some d => (List.range ops.size).all fun k => Nat.beq k j || (match ops[k]? with
        | some p => (match p.dst with | some t => !(Nat.beq t d) | none => true) && (!((gnamesOf ops p).contains d || p.after.toList.any fun e => Region.binds .any e && Nat.beq e.on j) || (heapB P ops ld k && Nat.blt j k) || (List.range k).any fun x => heapB P ops ld x && Nat.blt j x && (bf.getD k 0).testBit x)
        | none => true)
    | none => false)
  | none => false
def chainL (P : Program) (ops : Array Oper) (ld : Bool) (j : Nat) : Bool :=
  let b := Region.before ops
  (List.range ops.size).all fun k => Nat.beq k j || !heapB P ops ld k || (List.range k).all fun i => !heapB P ops ld i || (b.getD k 0).testBit i
/-- A chain but for one new variable, which may be made ahead of its place. -/
def lateReg (P : Program) (ops : Array Oper) (ld : Bool) : Bool :=
  tempsG ops && backB ops && (!ld || loadsB ops) && (ops.toList.all fun o => !selB o.op) && (List.range ops.size).any fun j => lateAt P ops ld j && chainL P ops ld j
/-- A call of a function that leaves the heap alone, whatever lies in it. -/
def flatCall (ff : FuncId → Bool) : Op → Bool
  | .call c => match c.callee with
    | .value (.func f) => ff f
    | _ => false
  | _ => false
/-- A look into a map. -/
def lookB : Op → Bool
  | .lookup .. => true
  | _ => false
def mindF (P : Program) (ff : FuncId → Bool) (ops : Array Oper) (i : Nat) : Bool := match ops[i]? with | some o => !freeB P o.op && !loadB o.op && !lookB o.op && !flatCall ff o.op | none => false
def chainM (mind : Nat → Bool) (ops : Array Oper) : Bool :=
  let b := Region.before ops
  (List.range ops.size).all fun j => !mind j || (List.range j).all fun i => !mind i || (b.getD j 0).testBit i
def manyF (P : Program) (ff : FuncId → Bool) (ops : Array Oper) : Bool := tempsG ops && backB ops && chainM (mindF P ff ops) ops && loadsB ops && ops.toList.all fun o => !selB o.op
def noLoads (ops : Array Oper) : Bool := ops.toList.all fun o => !loadB o.op && !lookB o.op
/-- Behind which place of the chain an operation stands at the soonest, at the latest. -/
def winLo (mind : Nat → Bool) (ops : Array Oper) (i : Nat) : Nat :=
  let b := (Region.before ops).getD i 0
  (List.range i).foldl (fun m k => if mind k && b.testBit k then k + 1 else m) 0
def winHi (mind : Nat → Bool) (ops : Array Oper) (i : Nat) : Nat :=
  let b := Region.before ops
  (List.range ops.size).foldr (fun k m => if Nat.blt i k && mind k && (b.getD k 0).testBit i then k else m) ops.size
/-- Where a load looks is not written as long as the load may still stand there. -/
def stillW (P : Program) (call : CallA) (mind : Nat → Bool) (ops : Array Oper) (e : List Value) (H : AH) : Bool :=
  match evTr P call ops ops.toList e H with
  | some s => (List.range ops.size).all fun i => match ops[i]? with
    | some o => (match o.op with
      | .load _ x | .lookup _ x _ _ => (match s[i]?, s[winLo mind ops i]?, s[winHi mind ops i]? with
        | some p, some a, some c => stillB a.2 c.2 (rho p.1 x)
        | _, _, _ => false)
      | _ => true)
    | none => true
  | none => false
/-- What makes a new block, and looks at nothing. -/
def floatB : Op → Bool
  | .alloc _ | .box .. | .buildSlice .. | .makeSlice .. => true
  | _ => false
/-- What looks at the heap through one of its operands, and writes nothing. -/
def lookX (P : Program) : Op → Option Operand
  | .load _ x => some x
  | .lookup _ x _ _ => some x
  | .slice t x _ _ _ => match P.underlying t with
    | some (.slice _) => some x
    | _ => none
  | .convert src dst x => match P.underlying src, P.underlying dst with
    | some (.slice _), some .string => some x
    | _, _ => none
  | _ => none
/-- What minds the heap otherwise. -/
def mindP (P : Program) (ops : Array Oper) (i : Nat) : Bool := match ops[i]? with | some o => !freeB P o.op && !(lookX P o.op).isSome && !floatB o.op | none => false
def befB (ops : Array Oper) (i k : Nat) : Bool := ((Region.before ops).getD i 0).testBit k
/-- An order: all that does not mind the heap as soon as it can be. -/
def ordGo (b : Array Nat) (mind : Nat → Bool) : Nat → Nat → List Nat → List Nat
  | 0, _, _ => []
  | n + 1, done, rest => match (rest.find? fun i => Nat.beq (Nat.land (b.getD i 0) done) (b.getD i 0) && !mind i).orElse (fun _ => rest.find? fun i => Nat.beq (Nat.land (b.getD i 0) done) (b.getD i 0)) with
    | some i => i :: ordGo b mind n (done ||| 2 ^ i) (rest.filter fun k => !Nat.beq k i)
    | none => []
def ordOf (P : Program) (ops : Array Oper) : List Nat := ordGo (Region.before ops) (mindP P ops) ops.size 0 (List.range ops.size)
def posO (ord : List Nat) (i : Nat) : Nat := ord.idxOf i
/-- The place of the first of the chain that waits for it. -/
def hiP (P : Program) (ops : Array Oper) (ord : List Nat) (i : Nat) : Nat :=
  (List.range ops.size).foldr (fun k m => bif mindP P ops k && befB ops k i then min (posO ord k) m else m) ops.size
def permOk (P : Program) (ops : Array Oper) (ord : List Nat) : Bool :=
  tempsG ops && backB ops && (ops.toList.all fun o => !selB o.op) && Nat.beq ord.length ops.size &&
  ((List.range ops.size).all fun i => Nat.blt (posO ord i) ops.size && (match ord[posO ord i]? with | some k => Nat.beq k i | none => false)) &&
  ((List.range ops.size).all fun p => match ord[p]? with | some i => Nat.blt i ops.size && Nat.beq (posO ord i) p | none => false) &&
  ((List.range ops.size).all fun i => (List.range ops.size).all fun k => !befB ops i k || Nat.blt (posO ord k) (posO ord i)) &&
  ((List.range ops.size).all fun j => !mindP P ops j || (List.range j).all fun i => !mindP P ops i || befB ops j i) &&
  ((List.range ops.size).all fun x => !mindP P ops x || (List.range ops.size).all fun j => !Nat.blt (posO ord x) (posO ord j) || befB ops j x) &&
  ((List.range ops.size).all fun i => match dstOf ops i with | some d => (List.range ops.size).all fun k => Nat.beq k i || (match dstOf ops k with | some d' => !Nat.beq d' d | none => true) | none => true)
def stillN (H H' : AH) (c : Nat) : Bool := match H.blk c, H'.blk c with
  | some b, some b' => Nat.beq b'.ver b.ver && H'.live c b'
  | _, _ => false
/-- Where a value points nothing has been written. -/
def stillP (H H' : AH) : Value → Bool
  | .pointer (some a) => stillN H H' a.block
  | .slice (some a) _ _ => stillN H H' a.block
  | .map (some r) => stillN H H' r
  | _ => true
/-- The same small values. -/
def eqV : Value → Value → Bool
  | .int k a, .int k' b => decide (k = k') && decide (a = b)
  | .bool a, .bool b => a == b
  | .pointer none, .pointer none => true
  | .pointer (some p), .pointer (some q) => Nat.beq p.block q.block && Nat.beq p.off q.off && p.spot.isNone && q.spot.isNone
  | .slice none n c, .slice none m d => Nat.beq n m && Nat.beq c d
  | .slice (some p) n c, .slice (some q) m d => Nat.beq p.block q.block && Nat.beq p.off q.off && p.spot.isNone && q.spot.isNone && Nat.beq n m && Nat.beq c d
  | _, _ => false
theorem addr_same {p q : Addr} (h1 : p.block = q.block) (h2 : p.off = q.off) (h3 : p.spot = none) (h4 : q.spot = none) : p = q := by
  obtain ⟨a, b, c⟩ := p
  obtain ⟨a', b', c'⟩ := q
  simp only at h1 h2 h3 h4
  subst h1; subst h2; subst h3; subst h4; rfl
theorem eqV_ok {x y : Value} (h : eqV x y = true) : x = y := by
  unfold eqV at h
  split at h
  · rw [Bool.and_eq_true] at h
    rw [of_decide_eq_true h.1, of_decide_eq_true h.2]
  · rw [eq_of_beq h]
  · rfl
  · simp only [Bool.and_eq_true] at h
    obtain ⟨⟨⟨h1, h2⟩, h3⟩, h4⟩ := h
    rw [addr_same (Nat.eq_of_beq_eq_true h1) (Nat.eq_of_beq_eq_true h2) (Option.isNone_iff_eq_none.1 h3) (Option.isNone_iff_eq_none.1 h4)]
  · rw [Bool.and_eq_true] at h
    rw [Nat.eq_of_beq_eq_true h.1, Nat.eq_of_beq_eq_true h.2]
  · simp only [Bool.and_eq_true] at h
    obtain ⟨⟨⟨⟨⟨h1, h2⟩, h3⟩, h4⟩, h5⟩, h6⟩ := h
    rw [addr_same (Nat.eq_of_beq_eq_true h1) (Nat.eq_of_beq_eq_true h2) (Option.isNone_iff_eq_none.1 h3) (Option.isNone_iff_eq_none.1 h4), Nat.eq_of_beq_eq_true h5, Nat.eq_of_beq_eq_true h6]
  · cases h
def cellD : TypeDesc → Bool
  | .struct _ | .array _ _ => false
  | _ => true
/-- One cell is the same in both. -/
def sameQ (P : Program) (t : TypeId) (a : Addr) (H0 H1 : AH) : Bool := match P.underlying t, H0.cells a.block, H1.cells a.block with
  | some d, some (C, _, _), some (D, _, _) => cellD d && a.spot.isNone && (match C[a.off]?, D[a.off]? with | some x, some y => eqV x y | _, _ => false)
  | _, _, _ => false
/-- A load sees the same in each of these states. -/
def sameL (P : Program) (op : Op) (ρ : Operand → Value) (H0 : AH) (s : List (List Value × AH)) (p n : Nat) : Bool := match op with
  | .load t x => (match ρ x with
    | .pointer (some a) => (List.range n).all fun d => match s[p + d]? with | some b => sameQ P t a H0 b.2 | none => false
    | _ => false)
  | _ => false
/-- Looks see the same, new blocks stay as they were made, as long as the chain may run ahead of them. -/
def permChk (P : Program) (ops : Array Oper) (ord : List Nat) (s : List (List Value × AH)) : Bool :=
  (List.range ops.size).all fun p => match ord[p]?, s[p]?, s[p + 1]? with
    | some i, some a, some a' => match ops[i]? with
      | some o => match s[hiP P ops ord i]? with
        | some c => (match lookX P o.op with
          | some x => stillP a.2 c.2 (rho a.1 x) || sameL P o.op (rho a.1) a.2 s p (hiP P ops ord i + 1 - p)
          | none => true) && (!floatB o.op || Nat.beq a'.2.next a.2.next || stillN a'.2 c.2 a.2.next)
        | none => false
      | none => false
    | _, _, _ => false
/-- A region, in the order of its own. -/
def permA (P : Program) (call : CallA) (ops : Array Oper) (e : List Value) (H : AH) : Option (List Value × AH) :=
  match evTr P call ops ((ordOf P ops).filterMap (ops[·]?)) e H, evOps P call ops ((ordOf P ops).filterMap (ops[·]?)) e H with
  | some s, some r => bif permChk P ops (ordOf P ops) s then some r else none
  | _, _ => none
/-- No other rule takes the region. -/
def flatHere (ff : FuncId → Bool) (ops : Array Oper) : Bool := ops.toList.any fun o => flatCall ff o.op
def usePerm (P : Program) (ff : FuncId → Bool) (ops : Array Oper) : Bool :=
  !(calmReg ops || oneReg P ops || lateReg P ops false || (manyF P ff ops && (noLoads ops || flatHere ff ops))) && permOk P ops (ordOf P ops)
/-- A region; one that draws its order is done in the text's order, where that is all the same. -/
def evRegionT (P : Program) (ff : FuncId → Bool) (call : CallA) (ops : Array Oper) (draw : Bool) (e : List Value) (H : AH) : Option (List Value × AH) :=
  match evOps P call ops ops.toList e H with
  | some (e', H') => bif !draw || calmReg ops || oneReg P ops || (manyReg P ops && stillAll ops e' H H') || lateReg P ops false || (lateReg P ops true && stillAll ops e' H H') || (manyF P ff ops && (noLoads ops || stillW P call (mindF P ff ops) ops e H)) then some (e', H') else none
  | none => none
def evRegion (P : Program) (ff : FuncId → Bool) (call : CallA) (ops : Array Oper) (draw : Bool) (e : List Value) (H : AH) : Option (List Value × AH) :=
  bif draw && usePerm P ff ops then permA P call ops e H else evRegionT P ff call ops draw e H
theorem evRegion_old {P : Program} {ff : FuncId → Bool} {call : CallA} {ops : Array Oper} {d : Bool} {e : List Value} {H : AH} (h : usePerm P ff ops = false) : evRegion P ff call ops d e H = evRegionT P ff call ops d e H := by
  unfold evRegion; rw [h, Bool.and_false]; rfl
theorem evRegion_cases {P : Program} {ff : FuncId → Bool} {call : CallA} {ops : Array Oper} {d : Bool} {e : List Value} {H : AH} {r : List Value × AH} (h : evRegion P ff call ops d e H = some r) :
    (d = true ∧ usePerm P ff ops = true ∧ permA P call ops e H = some r) ∨ ((d && usePerm P ff ops) = false ∧ evRegionT P ff call ops d e H = some r) := by
  unfold evRegion at h
  cases hb : (d && usePerm P ff ops) with
  | true =>
    rw [hb] at h
    simp only [Bool.and_eq_true] at hb
    exact .inl ⟨hb.1, hb.2, h⟩
  | false => rw [hb] at h; exact .inr ⟨rfl, h⟩
theorem permA_some {P : Program} {call : CallA} {ops : Array Oper} {e : List Value} {H : AH} {r : List Value × AH} (h : permA P call ops e H = some r) :
    ∃ s, evTr P call ops ((ordOf P ops).filterMap (ops[·]?)) e H = some s ∧ evOps P call ops ((ordOf P ops).filterMap (ops[·]?)) e H = some r ∧ permChk P ops (ordOf P ops) s = true := by
  unfold permA at h
  split at h
  · rename_i s r' h1 h2
    cases hc : permChk P ops (ordOf P ops) s with
    | false => rw [hc] at h; cases h
    | true => rw [hc] at h; cases h; exact ⟨s, h1, h2, hc⟩
  · cases h

/-- A contract of a function of the library, in the evaluator's words. -/
abbrev PrimF := CallA → List Value → AH → Option (Value × AH)
/-- The functions told of by hand, and which of them leave the heap alone. -/
structure Prims where
  run : FuncId → Option PrimF
  flat : FuncId → Bool := fun _ => false
instance : CoeFun Prims fun _ => FuncId → Option PrimF := ⟨Prims.run⟩

def evFn (P : Program) (prims : Prims) : Nat → CallA
  | 0, _, _, _ => none
  | n + 1, f, args, H => match prims f with
    | some g => g (evFn P prims n) args H
    | none => match P.funcs[f]? with
      | some fn => match fn.body with
        | some c => match evCode P (evRegion P prims.flat (evFn P prims n)) n c (args ++ List.replicate (fn.ntmps - args.length) undef) H with
          | some (.nx, e, H') | some (.rt, e, H') => (resultsA P e H' fn.results.toList).map (·, H')
          | _ => none
        | none => none
      | none => none

end Go.Proofs.YtenolmhnmcjndaaGreatDoor.Ev
