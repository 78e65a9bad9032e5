/-
  The evaluator once more, quick to reckon with in the kernel: the temporaries lie in a tree; common operations are done at once. What it says, the evaluator says.
-/
import Derived.Test.YtenolmhnmcjndaaGreatDoorEvSymX
namespace Go.Proofs.YtenolmhnmcjndaaGreatDoor.Ev
set_option linter.unusedVariables false
set_option linter.unusedSimpArgs false
set_option linter.constructorNameAsVariable false
open Go

/-! ### Temporaries in a tree -/
noncomputable def Tr.g {α : Type} (t : Tr α) : Nat → Option α :=
  Tr.rec (motive := fun _ => Nat → Option α) (fun _ => none) (fun _ v _ ihl ihr n => Nat.rec (motive := fun _ => Option α) v (fun m _ => Nat.rec (motive := fun _ => Option α) (ihl (m / 2)) (fun _ _ => ihr (m / 2)) (m % 2)) n) t
noncomputable def Tr.s {α : Type} (f : Nat) : Tr α → Nat → α → Tr α :=
  Nat.rec (motive := fun _ => Tr α → Nat → α → Tr α) (fun t _ _ => t) (fun _ ih t n a =>
    Tr.casesOn (motive := fun _ => Tr α) t
      (Nat.rec (motive := fun _ => Tr α) (.node .nil (some a) .nil) (fun m _ => Nat.rec (motive := fun _ => Tr α) (.node (ih .nil (m / 2) a) none .nil) (fun _ _ => .node .nil none (ih .nil (m / 2) a)) (m % 2)) n)
      (fun l v r => Nat.rec (motive := fun _ => Tr α) (.node l (some a) r) (fun m _ => Nat.rec (motive := fun _ => Tr α) (.node (ih l (m / 2) a) v r) (fun _ _ => .node l v (ih r (m / 2) a)) (m % 2)) n)) f

theorem Tr.g_get {α : Type} (t : Tr α) : ∀ n, t.g n = t.get n := by
  induction t with
  | nil => intro n; rw [Tr.get_nil]; rfl
  | node l v r ihl ihr =>
    intro n
    cases n with
    | zero => rfl
    | succ m =>
      show Nat.rec (motive := fun _ => Option α) (l.g (m / 2)) (fun _ _ => r.g (m / 2)) (m % 2) = _
      rcases Nat.mod_two_eq_zero_or_one m with h | h
      · rw [h]; simp only [Tr.get, h]; exact ihl _
      · rw [h]; simp only [Tr.get, h]; exact ihr _
theorem Tr.s_set {α : Type} : ∀ (f : Nat) (t : Tr α) (n : Nat) (a : α), t.s f n a = Tr.set f t n a
  | 0, t, n, a => rfl
  | f + 1, t, n, a => by
    cases n with
    | zero => cases t <;> rfl
    | succ m =>
      cases t with
      | nil =>
        show Nat.rec (motive := fun _ => Tr α) (.node (Tr.s f .nil (m / 2) a) none .nil) (fun _ _ => .node .nil none (Tr.s f .nil (m / 2) a)) (m % 2) = _
        rcases Nat.mod_two_eq_zero_or_one m with h | h <;> rw [h] <;> simp only [Tr.set, h, Tr.parts, Tr.s_set f] <;> rfl
      | node l v r =>
        show Nat.rec (motive := fun _ => Tr α) (.node (Tr.s f l (m / 2) a) v r) (fun _ _ => .node l v (Tr.s f r (m / 2) a)) (m % 2) = _
        rcases Nat.mod_two_eq_zero_or_one m with h | h <;> rw [h] <;> simp only [Tr.set, h, Tr.parts, Tr.s_set f] <;> rfl

/-! ### Operations at once -/
section
variable {P : Program} {call call' : CallA} {o : Oper} {ρ : Operand → Value} {H H' : AH} {v : Value}

def eqBytes : List UInt8 → List UInt8 → Bool
  | [], [] => true
  | a :: r, b :: s => bif Nat.beq a.toNat b.toNat then eqBytes r s else false
  | _, _ => false
theorem eqBytes_iff : ∀ (a b : List UInt8), eqBytes a b = decide (a = b)
  | [], [] => rfl
  | [], _ :: _ => rfl
  | _ :: _, [] => rfl
  | a :: r, b :: s => by
    unfold eqBytes
    rw [eqBytes_iff r s]
    by_cases h : a = b
    · subst h
      rw [Nat.beq_refl]
      simp
    · have : Nat.beq a.toNat b.toNat = false := Bool.eq_false_iff.2 fun e => h (UInt8.toNat.inj (Nat.eq_of_beq_eq_true e))
      rw [this]
      simp [h]
theorem eqBytes_str (a b : ByteArray) : eqBytes a.data.toList b.data.toList = decide (a = b) := by
  rw [eqBytes_iff]
  congr 1
  apply propext
  constructor
  · intro h
    cases a; cases b
    simp only at h
    congr 1
    exact Array.toList_inj.1 h
  · rintro rfl; rfl

def binSF (op : BinOp) (a b : ByteArray) : Option Value :=
  match op with
  | .eql => some (.bool (eqBytes a.data.toList b.data.toList))
  | .neq => some (.bool (!eqBytes a.data.toList b.data.toList))
  | .add => if a.data.toList.length + b.data.toList.length ≤ 9223372036854775807 then some (.string ⟨⟨a.data.toList ++ b.data.toList⟩⟩) else none
  | _ => none
def fastBin (op : BinOp) (x y : Value) : Option Value :=
  match x with
  | .int k a => match y with
    | .int k' b => if k = k' then Ev.binI op k a b else none
    | _ => none
  | .string a => match y with
    | .string b => binSF op a b
    | _ => none
  | _ => none

theorem ev_bin {op : BinOp} {t t' : TypeId} {x y : Operand} (ho : o.op = .binOp op t x y t') (h : fastBin op (ρ x) (ρ y) = some v) : evOp P call o ρ H = some (v, H) := by
  unfold fastBin at h
  split at h
  · rename_i k a hx
    split at h
    case h_2 => cases h
    rename_i k' b hy
    split at h
    case isFalse => cases h
    rename_i hk
    subst hk
    have hf : flatOp P o ρ = some v := by
      refine flat_op (by rw [ho]; simp [Op.operands, hx, hy, flatB, flat2, flat1, atomB]) ?_ ?_
      · unfold execOp
        rw [ho]
        simp only [hx, hy]
        cases op <;> simp only [Ev.binI] at h <;> first | (cases h; done) | (cases h; simp [eqGuard, Go.binOp, Op.intArith, Op.intCmp, dec_eq, dec_ne]; rfl)
      · cases op <;> simp only [Ev.binI] at h <;> cases h <;> rfl
    unfold evOp
    simp only [ho, hx, hy, eqA_int, hf, Option.map_some]
  · rename_i a hx
    split at h
    case h_2 => cases h
    rename_i b hy
    have hf : flatOp P o ρ = some v := by
      refine flat_op (by rw [ho]; simp [Op.operands, hx, hy, flatB, flat2, flat1, atomB]) ?_ ?_
      · unfold execOp
        rw [ho]
        simp only [hx, hy]
        cases op <;> simp only [binSF, eqBytes_str] at h <;> try (cases h; done)
        · split at h
          case isFalse => cases h
          rename_i hsz
          cases h
          have hsz : a.size + b.size ≤ 9223372036854775807 := hsz
          have : ¬ (((a.size + b.size : Nat) : Int) > IntKind.i64.max) := by
            have : IntKind.i64.max = 9223372036854775807 := by decide
            rw [this]; omega
          have hab : a ++ b = ⟨⟨a.data.toList ++ b.data.toList⟩⟩ := by
            apply ByteArray.ext
            rw [ByteArray.data_append]
            apply Array.ext'
            simp
          simp only [eqGuard, Go.binOp, Op.stringOp, if_neg this, hab]
          rfl
        · cases h; simp [eqGuard, Go.binOp, Op.stringOp, dec_str]; rfl
        · cases h; simp [eqGuard, Go.binOp, Op.stringOp, dec_str]; rfl
      · cases op <;> simp only [binSF] at h <;> first | (cases h; done) | (cases h; rfl) | (split at h <;> cases h; rfl)
    unfold evOp
    simp only [ho, hx, eqA_string, hf, Option.map_some]
  · cases h

def fastUn (op : UnOp) (x : Value) : Option Value :=
  match op with
  | .not => match x with
    | .bool b => some (.bool (!b))
    | _ => none
  | _ => none
theorem ev_un {op : UnOp} {t : TypeId} {x : Operand} (ho : o.op = .unOp op t x) (h : fastUn op (ρ x) = some v) : evOp P call o ρ H = some (v, H) := by
  unfold fastUn at h
  split at h
  case h_2 => cases h
  split at h
  case h_2 => cases h
  rename_i b hx
  cases h
  have hf : flatOp P o ρ = some (.bool (!b)) := by
    refine flat_op (by rw [ho]; simp [Op.operands, hx, flatB, flat2, flat1, atomB]) ?_ rfl
    unfold execOp
    rw [ho]
    simp only [hx, Op.unary]
    rfl
  unfold evOp
  simp only [ho, hf, Option.map_some]

def fastLen (P : Program) (c : Call) (ρ : Operand → Value) : Option Value :=
  match c.callee with
  | .builtin .len => match c.args.toList with
    | [x] => match c.argTypes.toList with
      | [t] => match P.underlying t with
        | some .string => match ρ x with
          | .string s => some (.int .i64 s.size)
          | _ => none
        | _ => none
      | _ => none
    | _ => none
  | _ => none
theorem ev_len {c : Call} (ho : o.op = .call c) (h : fastLen P c ρ = some v) : evOp P call o ρ H = some (v, H) := by
  unfold fastLen at h
  split at h
  case h_2 => cases h
  rename_i hc
  split at h
  case h_2 => cases h
  rename_i x hcs
  split at h
  case h_2 => cases h
  rename_i t hct
  split at h
  case h_2 => cases h
  rename_i ht
  split at h
  case h_2 => cases h
  rename_i s hx
  cases h
  have hcs : c.args = #[x] := by rw [← Array.toArray_toList (xs := c.args), hcs]
  have hct : c.argTypes = #[t] := by rw [← Array.toArray_toList (xs := c.argTypes), hct]
  have hf : flatOp P o ρ = some (.int .i64 s.size) := by
    refine flat_op (by rw [ho]; simp [Op.operands, Call.operands, hc, hcs, hx, flatB, flat2, flat1, atomB]) ?_ rfl
    unfold execOp
    rw [ho]
    simp only [resolve, hc, hcs, List.map_toArray, List.map_cons, List.map_nil, hx, pr_bind, pr_pure, Option.bind_some, invoke, builtin, Builtin.len_, hct, List.getElem?_toArray, List.getElem?_cons_zero, pr_underlying ht]
    rfl
  have hty : ((#[t] : Array TypeId)[0]?).bind P.underlying = some .string := ht
  unfold evOp
  simp only [ho, callA, hc, hcs, hct, hty, List.map_cons, List.map_nil, hx, hf, Option.map_some]

def fastIndex (P : Program) (t : TypeId) (x i : Value) : Option Value :=
  match P.underlying t with
  | some .string => match x with
    | .string s => match i with
      | .int _ i => match i with
        | .ofNat n => match s.data.toList[n]? with
          | some b => some (.int .u8 b.toNat)
          | none => none
        | _ => none
      | _ => none
    | _ => none
  | _ => none
theorem ev_index {t : TypeId} {x y : Operand} (ho : o.op = .index t x y) (h : fastIndex P t (ρ x) (ρ y) = some v) : evOp P call o ρ H = some (v, H) := by
  unfold fastIndex at h
  split at h
  case h_2 => cases h
  rename_i ht
  split at h
  case h_2 => cases h
  rename_i s hx
  split at h
  case h_2 => cases h
  rename_i k i hy
  split at h
  case h_2 => cases h
  rename_i n
  split at h
  case h_2 => cases h
  rename_i b hb
  cases h
  have hi : n < s.data.size := by have := (List.getElem?_eq_some_iff.1 hb).1; simpa using this
  have hbd : s.data[n] = b := by
    rw [Array.getElem?_toList, Array.getElem?_eq_getElem hi] at hb
    exact Option.some.inj hb
  have hf : flatOp P o ρ = some (.int .u8 b.toNat) := by
    refine flat_op (by rw [ho]; simp [Op.operands, hx, hy, flatB, flat2, flat1, atomB]) ?_ rfl
    unfold execOp
    rw [ho]
    have hs : s[n]? = some b := by
      have h2 : n < s.size := hi
      rw [getElem?_pos s n h2, ← hbd]
      rfl
    have h0 : (0 : Int) ≤ Int.ofNat n := Int.natCast_nonneg n
    simp only [hx, hy, Instr.index, asIntOf, pr_bind, pr_pure, Option.bind_some, pr_underlying ht, if_pos h0, Int.ofNat_eq_natCast, Int.natCast_nonneg, if_true, Int.toNat_natCast, hs]
  unfold evOp
  simp only [ho, hf, Option.map_some]

/-- A bound of a slice expression. -/
def boundN (ρ : Operand → Value) (x : Option Operand) (d : Nat) : Option Nat :=
  match x with
  | none => some d
  | some x => match ρ x with
    | .int _ i => match i with
      | .ofNat n => some n
      | _ => none
    | _ => none
theorem boundN_I {x : Option Operand} {d n : Nat} (h : boundN ρ x d = some n) : boundI ρ x d = some (n : Int) := by
  unfold boundN at h
  unfold boundI
  split at h
  · cases h; rfl
  · split at h
    case h_2 => cases h
    rename_i hx
    split at h
    case h_2 => cases h
    cases h
    simp only [hx]
    rfl
def fastSlice (P : Program) (t : TypeId) (x : Value) (ρ : Operand → Value) (lo hi mx : Option Operand) : Option Value :=
  match mx with
  | some _ => none
  | none => match P.underlying t with
    | some .string => match x with
      | .string s => match boundN ρ lo 0 with
        | some l => match boundN ρ hi s.data.toList.length with
          | some h => bif Nat.ble l h && Nat.ble h s.data.toList.length then some (.string ⟨⟨(s.data.toList.take h).drop l⟩⟩) else none
          | none => none
        | none => none
      | _ => none
    | _ => none
theorem ev_slice {t : TypeId} {x : Operand} {lo hi mx : Option Operand} (ho : o.op = .slice t x lo hi mx) (hv : fastSlice P t (ρ x) ρ lo hi mx = some v) : evOp P call o ρ H = some (v, H) := by
  unfold fastSlice at hv
  split at hv
  case h_1 => cases hv
  split at hv
  case h_2 => cases hv
  rename_i ht
  split at hv
  case h_2 => cases hv
  rename_i s hx
  split at hv
  case h_2 => cases hv
  rename_i ln hl
  split at hv
  case h_2 => cases hv
  rename_i hn hh
  have hv2 := bif_some hv
  cases hc : (Nat.ble ln hn && Nat.ble hn s.data.toList.length) with
  | false => rw [hc] at hv; cases hv
  | true =>
  rw [Bool.and_eq_true] at hc
  have h1' := Nat.le_of_ble_eq_true hc.1
  have h2' := Nat.le_of_ble_eq_true hc.2
  have hex : (⟨⟨(s.data.toList.take hn).drop ln⟩⟩ : ByteArray) = s.extract (ln : Int).toNat (hn : Int).toNat := by
    apply ByteArray.ext
    apply Array.ext'
    simp [List.extract_eq_take_drop, List.drop_take]
  obtain rfl : v = .string (s.extract (ln : Int).toNat (hn : Int).toNat) := by rw [← hex]; exact (Option.some.inj hv2).symm
  have hl := boundN_I hl
  have hh := boundN_I hh
  have hsz : s.data.toList.length = s.size := by first | (simp; done) | (simp; rfl)
  rw [hsz] at hh h2'
  have h0 : (0 : Int) ≤ (ln : Int) := Int.natCast_nonneg _
  have h1 : (ln : Int) ≤ (hn : Int) := by omega
  have h2 : (hn : Int) ≤ s.size := by omega
  generalize (ln : Int) = l at *
  generalize (hn : Int) = h at *
  have hlh : l ≤ (h.toNat : Int) := by omega
  have hf : flatOp P o ρ = some (.string (s.extract l.toNat h.toNat)) := by
    cases lo with
    | none =>
      cases hl
      cases hi with
      | none =>
        cases hh
        refine flat_op (by rw [ho]; simp [Op.operands, hx, flatB, flat2, flat1, atomB]) ?_ rfl
        unfold execOp
        rw [ho]
        simp only [Instr.sliceAt, hx, Instr.slice, Instr.sliceBounds, Option.map_none, pr_bind, pr_pure, Option.bind_some, pr_underlying ht, Option.isSome_none, Bool.false_eq_true, if_false]
        rfl
      | some y =>
        simp only [boundI] at hh
        split at hh
        case h_2 => cases hh
        rename_i k i hy
        cases hh
        refine flat_op (by rw [ho]; simp [Op.operands, hx, hy, flatB, flat2, flat1, atomB]) ?_ rfl
        unfold execOp
        rw [ho]
        simp only [Instr.sliceAt, hx, Instr.slice, Instr.sliceBounds, Option.map_none, Option.map_some, pr_bind, pr_pure, Option.bind_some, pr_underlying ht, Option.isSome_none, Bool.false_eq_true, if_false, pr_bound hy h1 h2]
        rfl
    | some y =>
      simp only [boundI] at hl
      split at hl
      case h_2 => cases hl
      rename_i k i hy
      cases hl
      cases hi with
      | none =>
        cases hh
        refine flat_op (by rw [ho]; simp [Op.operands, hx, hy, flatB, flat2, flat1, atomB]) ?_ rfl
        unfold execOp
        rw [ho]
        simp only [Instr.sliceAt, hx, Instr.slice, Instr.sliceBounds, Option.map_none, Option.map_some, pr_bind, pr_pure, Option.bind_some, pr_underlying ht, Option.isSome_none, Bool.false_eq_true, if_false, pr_bound hy h0 h1]
        rfl
      | some z =>
        simp only [boundI] at hh
        split at hh
        case h_2 => cases hh
        rename_i k' i' hz
        cases hh
        refine flat_op (by rw [ho]; simp [Op.operands, hx, hy, hz, flatB, flat2, flat1, atomB]) ?_ rfl
        unfold execOp
        rw [ho]
        simp only [Instr.sliceAt, hx, Instr.slice, Instr.sliceBounds, Option.map_none, Option.map_some, pr_bind, pr_pure, Option.bind_some, pr_underlying ht, Option.isSome_none, Bool.false_eq_true, if_false, pr_bound hz (Int.le_trans h0 h1) h2, pr_bound hy h0 hlh]
  unfold evOp
  simp only [ho, ht, hf, Option.map_some]

def orEv (P : Program) (call : CallA) (o : Oper) (ρ : Operand → Value) (H : AH) (x : Option Value) : Option (Value × AH) :=
  match x with
  | some v => some (v, H)
  | none => evOp P call o ρ H
def evOpF (P : Program) (call : CallA) (o : Oper) (ρ : Operand → Value) (H : AH) : Option (Value × AH) :=
  match o.op with
  | .move x => some (ρ x, H)
  | .assign x => some (ρ x, H)
  | .binOp op t x y _ => orEv P call o ρ H (fastBin op (ρ x) (ρ y))
  | .unOp op t x => orEv P call o ρ H (fastUn op (ρ x))
  | .call c => orEv P call o ρ H (fastLen P c ρ)
  | .index t x i => orEv P call o ρ H (fastIndex P t (ρ x) (ρ i))
  | .slice t x lo hi mx => orEv P call o ρ H (fastSlice P t (ρ x) ρ lo hi mx)
  | _ => evOp P call o ρ H
theorem orEv_ok {x : Option Value} {r : Value × AH} (hx : ∀ v, x = some v → evOp P call o ρ H = some (v, H)) (h : orEv P call o ρ H x = some r) : evOp P call o ρ H = some r := by
  unfold orEv at h
  split at h
  · rw [← h]; exact hx _ rfl
  · exact h
theorem evOpF_ok {r : Value × AH} (h : evOpF P call o ρ H = some r) : evOp P call o ρ H = some r := by
  unfold evOpF at h
  split at h
  · rename_i x ho; unfold evOp; simp only [ho]; exact h
  · rename_i x ho; unfold evOp; simp only [ho]; exact h
  · rename_i ho; exact orEv_ok (fun v hv => ev_bin ho hv) h
  · rename_i ho; exact orEv_ok (fun v hv => ev_un ho hv) h
  · rename_i ho; exact orEv_ok (fun v hv => ev_len ho hv) h
  · rename_i ho; exact orEv_ok (fun v hv => ev_index ho hv) h
  · rename_i ho; exact orEv_ok (fun v hv => ev_slice ho hv) h
  · exact h

theorem evOp_call {r : Value × AH} (hc : ∀ f a H r, call f a H = some r → call' f a H = some r) (h : evOp P call o ρ H = some r) : evOp P call' o ρ H = some r := by
  unfold evOp at h ⊢
  cases hop : o.op with
  | next it b => rw [hop] at h; cases b <;> exact h
  | makeMap t rv => rw [hop] at h; cases rv <;> exact h
  | call c =>
    rw [hop] at h
    simp only at h ⊢
    unfold callA at h ⊢
    cases hcal : c.callee with
    | value x =>
      rw [hcal] at h
      simp only at h ⊢
      cases hx : ρ x with
      | func fn first cap =>
        rw [hx] at h
        cases fn with
        | func f =>
          simp only at h ⊢
          cases hfe : first.isEmpty with
          | false => rw [hfe] at h; cases h
          | true =>
            rw [hfe] at h
            exact hc _ _ _ _ h
        | _ => exact h
      | _ => rw [hx] at h; exact h
    | builtin b => rw [hcal] at h; cases b <;> exact h
    | invoke r n => rw [hcal] at h; exact h
  | _ => rw [hop] at h; exact h
end


/-! ### The evaluator -/
abbrev FE := Tr Value
structure RE (n : Nat) (t : FE) (e : List Value) : Prop where
  len : e.length = n
  at_ : ∀ i v, t.g i = some v → e[i]? = some v
  no : ∀ i, t.g i = none → e.getD i undef = undef

noncomputable def rhoF (t : FE) (x : Operand) : Value :=
  Operand.casesOn (motive := fun _ => Value) x (fun i => Option.rec (motive := fun _ => Value) undef (fun v => v) (t.g i)) (fun v => bif flatB v then v else junk) (fun _ => junk) (fun f => .func (.func f) #[] #[])
theorem rhoF_eq {n : Nat} {t : FE} {e : List Value} (h : RE n t e) : rhoF t = rho e := by
  funext x
  cases x with
  | tmp i =>
    show Option.rec (motive := fun _ => Value) undef (fun v => v) (t.g i) = e.getD i undef
    cases hg : t.g i with
    | none => exact (h.no i hg).symm
    | some v => rw [List.getD_eq_getElem?_getD, h.at_ i v hg]; rfl
  | const v => rfl
  | «global» g => rfl
  | func f => rfl

noncomputable def putF (n : Nat) (t : FE) (d : Option Tmp) (v : Value) : FE :=
  match d with
  | some d => bif Nat.blt d n then Tr.s n t d v else t
  | none => t
theorem RE.set {n : Nat} {t : FE} {e : List Value} (h : RE n t e) {d : Nat} {v : Value} (hd : d < n) : RE n (Tr.s n t d v) (e.set d v) := by
  have hg : ∀ i, (Tr.s n t d v).g i = if i = d then some v else t.g i := fun i => by rw [Tr.g_get, Tr.s_set, Tr.get_set n t d v i hd, Tr.g_get]
  refine ⟨by simp [h.len], fun i u hu => ?_, fun i hi => ?_⟩
  · rw [hg] at hu
    split at hu
    · rename_i e1; subst e1; cases hu; rw [List.getElem?_set_self (by rw [h.len]; exact hd)]
    · rename_i e1; rw [List.getElem?_set_ne (fun e => e1 e.symm)]; exact h.at_ i u hu
  · rw [hg] at hi
    split at hi
    · cases hi
    · rename_i e1
      rw [List.getD_eq_getElem?_getD, List.getElem?_set_ne (fun e => e1 e.symm), ← List.getD_eq_getElem?_getD]; exact h.no i hi
theorem putF_ok {n : Nat} {t : FE} {e : List Value} (h : RE n t e) {d : Option Tmp} {v : Value} : RE n (putF n t d v) (putE e d v) := by
  cases d with
  | none => exact h
  | some d =>
    unfold putF putE
    by_cases hd : d < n
    · have hb : Nat.blt d n = true := by simp [hd]
      simp only [hb, cond_true]
      exact h.set hd
    · have hb : Nat.blt d n = false := Bool.eq_false_iff.2 (by simpa using hd)
      simp only [hb, cond_false]
      rw [List.set_eq_of_length_le (by rw [h.len]; exact Nat.le_of_not_lt hd)]
      exact h

noncomputable def guardF (ops : Array Oper) (o : Oper) (t : FE) : Option Bool :=
  match o.guard with
  | none => some true
  | some (j, want) => match ((ops[j]?).bind (·.dst)).bind (t.g ·) with
    | some (.bool b) => some (b == want)
    | some (.tuple vs) => bif vs.isEmpty then some false else none
    | _ => none
theorem guardF_ok {n : Nat} {t : FE} {e : List Value} (h : RE n t e) {ops : Array Oper} {o : Oper} {b : Bool} (hg : guardF ops o t = some b) : guardA ops o e = some b := by
  unfold guardF at hg
  unfold guardA
  cases hgd : o.guard with
  | none => rw [hgd] at hg; exact hg
  | some p =>
    obtain ⟨j, want⟩ := p
    rw [hgd] at hg
    simp only at hg ⊢
    cases hd : (ops[j]?).bind (·.dst) with
    | none => rw [hd] at hg; cases hg
    | some d =>
      rw [hd] at hg
      simp only [Option.bind_some] at hg ⊢
      cases ht : t.g d with
      | none => rw [ht] at hg; cases hg
      | some u => rw [ht] at hg; rw [h.at_ d u ht]; exact hg

noncomputable def evOpsF (n : Nat) (P : Program) (call : CallA) (ops : Array Oper) : List Oper → FE → AH → Option (FE × AH)
  | [], t, H => some (t, H)
  | o :: r, t, H =>
    match guardF ops o t with
    | some true => match evOpF P call o (rhoF t) H with
      | some (v, H') => evOpsF n P call ops r (putF n t o.dst v) H'
      | none => none
    | some false => evOpsF n P call ops r (putF n t o.dst undef) H
    | none => none
noncomputable def evTrF (n : Nat) (P : Program) (call : CallA) (ops : Array Oper) : List Oper → FE → AH → Option (List (FE × AH))
  | [], t, H => some [(t, H)]
  | o :: r, t, H =>
    match guardF ops o t with
    | some true => match evOpF P call o (rhoF t) H with
      | some (v, H') => (evTrF n P call ops r (putF n t o.dst v) H').map ((t, H) :: ·)
      | none => none
    | some false => (evTrF n P call ops r (putF n t o.dst undef) H).map ((t, H) :: ·)
    | none => none

section
variable {n : Nat} {P : Program} {callF call : CallA} (hc : ∀ f a H r, callF f a H = some r → call f a H = some r) {ops : Array Oper}
include hc

theorem evOpsF_ok : ∀ (l : List Oper) {t t' : FE} {e : List Value} {H H' : AH}, RE n t e → evOpsF n P callF ops l t H = some (t', H') → ∃ e', evOps P call ops l e H = some (e', H') ∧ RE n t' e'
  | [], t, t', e, H, H', h, hr => by
    simp only [evOpsF, Option.some.injEq, Prod.mk.injEq] at hr
    obtain ⟨rfl, rfl⟩ := hr
    exact ⟨e, rfl, h⟩
  | o :: r, t, t', e, H, H', h, hr => by
    unfold evOpsF at hr
    unfold evOps
    split at hr
    · rename_i hg
      rw [guardF_ok h hg]
      split at hr
      case h_2 => cases hr
      rename_i v H1 ho
      rw [rhoF_eq h] at ho
      simp only [evOp_call hc (evOpF_ok ho)]
      exact evOpsF_ok r (putF_ok h) hr
    · rename_i hg
      rw [guardF_ok h hg]
      exact evOpsF_ok r (putF_ok h) hr
    · cases hr

theorem evTrF_ok : ∀ (l : List Oper) {t : FE} {s : List (FE × AH)} {e : List Value} {H : AH}, RE n t e → evTrF n P callF ops l t H = some s → ∃ s', evTr P call ops l e H = some s' ∧ s'.length = s.length ∧ ∀ (i : Nat) x y, s[i]? = some x → s'[i]? = some y → RE n x.1 y.1 ∧ x.2 = y.2
  | [], t, s, e, H, h, hr => by
    simp only [evTrF, Option.some.injEq] at hr
    subst hr
    refine ⟨[(e, H)], rfl, rfl, fun i x y hx hy => ?_⟩
    cases i with
    | zero => simp at hx hy; subst hx; subst hy; exact ⟨h, rfl⟩
    | succ i => simp at hx
  | o :: r, t, s, e, H, h, hr => by
    have go : ∀ {t1 : FE} {e1 : List Value} {H1 : AH}, RE n t1 e1 → (evTrF n P callF ops r t1 H1).map ((t, H) :: ·) = some s → ∃ s', (evTr P call ops r e1 H1).map ((e, H) :: ·) = some s' ∧ s'.length = s.length ∧ ∀ (i : Nat) x y, s[i]? = some x → s'[i]? = some y → RE n x.1 y.1 ∧ x.2 = y.2 := fun {t1 e1 H1} h1 hm => by
      cases hs : evTrF n P callF ops r t1 H1 with
      | none => rw [hs] at hm; cases hm
      | some s1 =>
        rw [hs] at hm
        simp only [Option.map_some, Option.some.injEq] at hm
        subst hm
        obtain ⟨s2, h2, h3, h4⟩ := evTrF_ok r h1 hs
        refine ⟨(e, H) :: s2, by rw [h2]; rfl, by simp [h3], fun i x y hx hy => ?_⟩
        cases i with
        | zero => simp at hx hy; subst hx; subst hy; exact ⟨h, rfl⟩
        | succ i => exact h4 i x y (by simpa using hx) (by simpa using hy)
    unfold evTrF at hr
    unfold evTr
    split at hr
    · rename_i hg
      rw [guardF_ok h hg]
      split at hr
      case h_2 => cases hr
      rename_i v H1 ho
      rw [rhoF_eq h] at ho
      simp only [evOp_call hc (evOpF_ok ho)]
      exact go (putF_ok h) hr
    · rename_i hg
      rw [guardF_ok h hg]
      exact go (putF_ok h) hr
    · cases hr
end

noncomputable def stillAllF (ops : Array Oper) (t : FE) (H H' : AH) : Bool := ops.toList.all fun o => match o.op with | .load _ x => stillB H H' (rhoF t x) | _ => true
noncomputable def stillWF (n : Nat) (P : Program) (call : CallA) (mind : Nat → Bool) (ops : Array Oper) (t : FE) (H : AH) : Bool :=
  match evTrF n P call ops ops.toList t H with
  | some s => (List.range ops.size).all fun i => match ops[i]? with
    | some o => (match o.op with
      | .load _ x | .lookup _ x _ _ => (match s[i]?, s[winLo mind ops i]?, s[winHi mind ops i]? with
        | some p, some a, some c => stillB a.2 c.2 (rhoF p.1 x)
        | _, _, _ => false)
      | _ => true)
    | none => true
  | none => false
noncomputable def evRegionF (n : Nat) (P : Program) (ff : FuncId → Bool) (call : CallA) (ops : Array Oper) (draw : Bool) (t : FE) (H : AH) : Option (FE × AH) :=
  bif draw && usePerm P ff ops then none else match evOpsF n P call ops ops.toList t H with
  | some (t', H') => bif !draw || calmReg ops || oneReg P ops || (manyReg P ops && stillAllF ops t' H H') || lateReg P ops false || (lateReg P ops true && stillAllF ops t' H H') || (manyF P ff ops && (noLoads ops || stillWF n P call (mindF P ff ops) ops t H)) then some (t', H') else none
  | none => none

section
variable {n : Nat} {P : Program} {callF call : CallA} (hc : ∀ f a H r, callF f a H = some r → call f a H = some r) {ops : Array Oper}
include hc
theorem stillWF_ok {mind : Nat → Bool} {t : FE} {e : List Value} {H : AH} (h : RE n t e) (hs : stillWF n P callF mind ops t H = true) : stillW P call mind ops e H = true := by
  unfold stillWF at hs
  unfold stillW
  cases ht : evTrF n P callF ops ops.toList t H with
  | none => rw [ht] at hs; cases hs
  | some s =>
    rw [ht] at hs
    obtain ⟨s', h1, h2, h3⟩ := evTrF_ok hc _ h ht
    rw [h1]
    simp only at hs ⊢
    rw [List.all_eq_true] at hs ⊢
    intro i hi
    have := hs i hi
    have sm : ∀ (k : Nat) x, s[k]? = some x → ∃ y, s'[k]? = some y ∧ RE n x.1 y.1 ∧ x.2 = y.2 := fun k x hx => by
      have hk : k < s'.length := by rw [h2]; exact (List.getElem?_eq_some_iff.1 hx).1
      exact ⟨s'[k], List.getElem?_eq_getElem hk, h3 k x _ hx (List.getElem?_eq_getElem hk)⟩
    cases ho : ops[i]? with
    | none => rfl
    | some o =>
      rw [ho] at this
      simp only at this ⊢
      cases hop : o.op with
      | load ty x =>
        rw [hop] at this
        simp only at this ⊢
        cases ha : s[i]? with
        | none => rw [ha] at this; cases this
        | some p =>
          cases hb : s[winLo mind ops i]? with
          | none => rw [ha, hb] at this; cases this
          | some a =>
            cases hcc : s[winHi mind ops i]? with
            | none => rw [ha, hb, hcc] at this; cases this
            | some c =>
              obtain ⟨p', k1, k2, k3⟩ := sm _ _ ha
              obtain ⟨a', l1, l2, l3⟩ := sm _ _ hb
              obtain ⟨c', m1, m2, m3⟩ := sm _ _ hcc
              rw [ha, hb, hcc] at this
              rw [k1, l1, m1]
              simp only at this ⊢
              rw [rhoF_eq k2, l3, m3] at this
              exact this
      | lookup ty x ky ok =>
        rw [hop] at this
        simp only at this ⊢
        cases ha : s[i]? with
        | none => rw [ha] at this; cases this
        | some p =>
          cases hb : s[winLo mind ops i]? with
          | none => rw [ha, hb] at this; cases this
          | some a =>
            cases hcc : s[winHi mind ops i]? with
            | none => rw [ha, hb, hcc] at this; cases this
            | some c =>
              obtain ⟨p', k1, k2, k3⟩ := sm _ _ ha
              obtain ⟨a', l1, l2, l3⟩ := sm _ _ hb
              obtain ⟨c', m1, m2, m3⟩ := sm _ _ hcc
              rw [ha, hb, hcc] at this
              rw [k1, l1, m1]
              simp only at this ⊢
              rw [rhoF_eq k2, l3, m3] at this
              exact this
      | _ => rfl

theorem evRegionF_ok {ff : FuncId → Bool} {d : Bool} {t t' : FE} {e : List Value} {H H' : AH} (h : RE n t e) (hr : evRegionF n P ff callF ops d t H = some (t', H')) : ∃ e', evRegion P ff call ops d e H = some (e', H') ∧ RE n t' e' := by
  unfold evRegionF at hr
  cases hup : (d && usePerm P ff ops) with
  | true => rw [hup] at hr; cases hr
  | false =>
  rw [hup] at hr
  simp only [cond_false] at hr
  cases h1 : evOpsF n P callF ops ops.toList t H with
  | none => rw [h1] at hr; cases hr
  | some p =>
    obtain ⟨t1, H1⟩ := p
    rw [h1] at hr
    simp only at hr
    obtain ⟨e', h2, h3⟩ := evOpsF_ok hc _ h h1
    have hall : ∀ H2, stillAllF ops t1 H H2 = stillAll ops e' H H2 := fun H2 => by unfold stillAllF stillAll; rw [rhoF_eq h3]; rfl
    have hr2 := bif_some hr
    cases hr2
    refine ⟨e', ?_, h3⟩
    unfold evRegion
    rw [hup]
    simp only [cond_false]
    unfold evRegionT
    rw [h2]
    simp only
    rw [hall] at hr
    have hb : (!d || calmReg ops || oneReg P ops || (manyReg P ops && stillAll ops e' H H') || lateReg P ops false || (lateReg P ops true && stillAll ops e' H H') || (manyF P ff ops && (noLoads ops || stillWF n P callF (mindF P ff ops) ops t H))) = true := by
      generalize (!d || calmReg ops || oneReg P ops || (manyReg P ops && stillAll ops e' H H') || lateReg P ops false || (lateReg P ops true && stillAll ops e' H H') || (manyF P ff ops && (noLoads ops || stillWF n P callF (mindF P ff ops) ops t H))) = b at hr
      cases b with
      | true => rfl
      | false => cases hr
    have hb2 : (!d || calmReg ops || oneReg P ops || (manyReg P ops && stillAll ops e' H H') || lateReg P ops false || (lateReg P ops true && stillAll ops e' H H') || (manyF P ff ops && (noLoads ops || stillW P call (mindF P ff ops) ops e H))) = true := by
      rw [Bool.or_eq_true] at hb ⊢
      rcases hb with hb | hb
      · exact .inl hb
      · rw [Bool.and_eq_true, Bool.or_eq_true] at hb
        rw [Bool.and_eq_true]
        exact .inr ⟨hb.1, by rw [Bool.or_eq_true]; exact hb.2.imp id (stillWF_ok hc h)⟩
    rw [hb2]
    rfl
end

noncomputable def loopF (f : FE → AH → Option (St × FE × AH)) : Nat → FE → AH → Option (St × FE × AH)
  | 0, _, _ => none
  | n + 1, t, H => match f t H with
    | some (.nx, t', H') => loopF f n t' H'
    | r => r
noncomputable def evCodeF (reg : Array Oper → Bool → FE → AH → Option (FE × AH)) (n : Nat) : Code → FE → AH → Option (St × FE × AH)
  | .skip, t, H => some (.nx, t, H)
  | .region _ ops d, t, H => match reg ops d t H with
    | some (t', H') => some (.nx, t', H')
    | none => none
  | .seq a b, t, H => match evCodeF reg n a t H with
    | some (.nx, t', H') => evCodeF reg n b t' H'
    | r => r
  | .cond c x y, t, H => match rhoF t c with
    | .bool true => evCodeF reg n x t H
    | .bool false => evCodeF reg n y t H
    | _ => none
  | .block id c, t, H => match evCodeF reg n c t H with
    | some (.ex i, t', H') => if i = id then some (.nx, t', H') else some (.ex i, t', H')
    | r => r
  | .loop c, t, H => loopF (evCodeF reg n c) n t H
  | .exit id, t, H => some (.ex id, t, H)
  | .ret, t, H => some (.rt, t, H)
  | .scope c, t, H => evCodeF reg n c t H
  | _, _, _ => none

theorem loopF_ok {k : Nat} {f : FE → AH → Option (St × FE × AH)} {g : List Value → AH → Option (St × List Value × AH)} (hfg : ∀ t e H st t' H', RE k t e → f t H = some (st, t', H') → ∃ e', g e H = some (st, e', H') ∧ RE k t' e') :
    ∀ n t e H st t' H', RE k t e → loopF f n t H = some (st, t', H') → ∃ e', loopA g n e H = some (st, e', H') ∧ RE k t' e'
  | 0, t, e, H, st, t', H', h, hr => by cases hr
  | n + 1, t, e, H, st, t', H', h, hr => by
    unfold loopF at hr
    unfold loopA
    cases hf : f t H with
    | none => rw [hf] at hr; cases hr
    | some p =>
      obtain ⟨st1, t1, H1⟩ := p
      obtain ⟨e1, h1, h2⟩ := hfg _ _ _ _ _ _ h hf
      rw [hf] at hr
      rw [h1]
      cases st1 with
      | nx => exact loopF_ok hfg n _ _ _ _ _ _ h2 hr
      | ex i =>
        simp only [Option.some.injEq, Prod.mk.injEq] at hr
        obtain ⟨rfl, rfl, rfl⟩ := hr
        exact ⟨e1, rfl, h2⟩
      | rt =>
        simp only [Option.some.injEq, Prod.mk.injEq] at hr
        obtain ⟨rfl, rfl, rfl⟩ := hr
        exact ⟨e1, rfl, h2⟩

theorem evCodeF_ok {P : Program} {k n : Nat} {regF : Array Oper → Bool → FE → AH → Option (FE × AH)} {reg : Array Oper → Bool → List Value → AH → Option (List Value × AH)}
    (hreg : ∀ ops d t e H t' H', RE k t e → regF ops d t H = some (t', H') → ∃ e', reg ops d e H = some (e', H') ∧ RE k t' e') (c : Code) :
    ∀ t e H st t' H', RE k t e → evCodeF regF n c t H = some (st, t', H') → ∃ e', evCode P reg n c e H = some (st, e', H') ∧ RE k t' e' := by
  induction c with
  | skip =>
    intro t e H st t' H' h hr
    simp only [evCodeF, Option.some.injEq, Prod.mk.injEq] at hr
    obtain ⟨rfl, rfl, rfl⟩ := hr
    exact ⟨e, rfl, h⟩
  | region id ops d =>
    intro t e H st t' H' h hr
    simp only [evCodeF] at hr
    cases hg : regF ops d t H with
    | none => rw [hg] at hr; cases hr
    | some p =>
      obtain ⟨t1, H1⟩ := p
      rw [hg] at hr
      simp only [Option.some.injEq, Prod.mk.injEq] at hr
      obtain ⟨rfl, rfl, rfl⟩ := hr
      obtain ⟨e1, h1, h2⟩ := hreg _ _ _ _ _ _ _ h hg
      exact ⟨e1, by simp only [evCode, h1], h2⟩
  | seq a b iha ihb =>
    intro t e H st t' H' h hr
    simp only [evCodeF] at hr
    cases ha : evCodeF regF n a t H with
    | none => rw [ha] at hr; cases hr
    | some p =>
      obtain ⟨st1, t1, H1⟩ := p
      obtain ⟨e1, h1, h2⟩ := iha _ _ _ _ _ _ h ha
      rw [ha] at hr
      simp only [evCode, h1]
      cases st1 with
      | nx => exact ihb _ _ _ _ _ _ h2 hr
      | ex i =>
        simp only [Option.some.injEq, Prod.mk.injEq] at hr
        obtain ⟨rfl, rfl, rfl⟩ := hr
        exact ⟨e1, rfl, h2⟩
      | rt =>
        simp only [Option.some.injEq, Prod.mk.injEq] at hr
        obtain ⟨rfl, rfl, rfl⟩ := hr
        exact ⟨e1, rfl, h2⟩
  | cond c x y ihx ihy =>
    intro t e H st t' H' h hr
    simp only [evCodeF, rhoF_eq h] at hr
    simp only [evCode]
    split at hr
    · rename_i hc; rw [hc]; exact ihx _ _ _ _ _ _ h hr
    · rename_i hc; rw [hc]; exact ihy _ _ _ _ _ _ h hr
    · cases hr
  | block id c ih =>
    intro t e H st t' H' h hr
    simp only [evCodeF] at hr
    cases ha : evCodeF regF n c t H with
    | none => rw [ha] at hr; cases hr
    | some p =>
      obtain ⟨st1, t1, H1⟩ := p
      obtain ⟨e1, h1, h2⟩ := ih _ _ _ _ _ _ h ha
      rw [ha] at hr
      simp only [evCode, h1]
      cases st1 with
      | ex i =>
        simp only at hr ⊢
        split at hr
        · simp only [Option.some.injEq, Prod.mk.injEq] at hr
          obtain ⟨rfl, rfl, rfl⟩ := hr
          rename_i hi
          exact ⟨e1, by rw [if_pos hi], h2⟩
        · simp only [Option.some.injEq, Prod.mk.injEq] at hr
          obtain ⟨rfl, rfl, rfl⟩ := hr
          rename_i hi
          exact ⟨e1, by rw [if_neg hi], h2⟩
      | nx =>
        simp only [Option.some.injEq, Prod.mk.injEq] at hr
        obtain ⟨rfl, rfl, rfl⟩ := hr
        exact ⟨e1, rfl, h2⟩
      | rt =>
        simp only [Option.some.injEq, Prod.mk.injEq] at hr
        obtain ⟨rfl, rfl, rfl⟩ := hr
        exact ⟨e1, rfl, h2⟩
  | loop c ih =>
    intro t e H st t' H' h hr
    simp only [evCodeF] at hr
    simp only [evCode]
    exact loopF_ok (fun t e H st t' H' h hr => ih t e H st t' H' h hr) n _ _ _ _ _ _ h hr
  | scope c ih =>
    intro t e H st t' H' h hr
    simp only [evCodeF] at hr
    simp only [evCode]
    exact ih t e H st t' H' h hr
  | exit id =>
    intro t e H st t' H' h hr
    simp only [evCodeF, Option.some.injEq, Prod.mk.injEq] at hr
    obtain ⟨rfl, rfl, rfl⟩ := hr
    exact ⟨e, rfl, h⟩
  | ret =>
    intro t e H st t' H' h hr
    simp only [evCodeF, Option.some.injEq, Prod.mk.injEq] at hr
    obtain ⟨rfl, rfl, rfl⟩ := hr
    exact ⟨e, rfl, h⟩
  | _ => intro t e H st t' H' h hr; simp only [evCodeF] at hr; cases hr

noncomputable def resF (P : Program) (t : FE) (H : AH) : ResultVar → Option Value
  | .tmp i => some (rhoF t (.tmp i))
  | .cell a ty => match rhoF t (.tmp a) with
    | .pointer (some p) => loadA P H ty p
    | _ => none
noncomputable def resultsF (P : Program) (t : FE) (H : AH) (l : List ResultVar) : Option Value :=
  match l.mapM (resF P t H) with
  | some [v] => some v
  | some vs => bif vs.all noTuple then some (.tuple vs.toArray) else none
  | none => none
theorem resultsF_eq {P : Program} {n : Nat} {t : FE} {e : List Value} {H : AH} {l : List ResultVar} (h : RE n t e) : resultsF P t H l = resultsA P e H l := by
  have : resF P t H = resA P e H := by
    funext x
    cases x with
    | tmp i => simp only [resF, resA, rhoF_eq h]; rfl
    | cell a ty => simp only [resF, resA, rhoF_eq h]; rfl
  unfold resultsF resultsA
  rw [this]; rfl

noncomputable def argsF (n : Nat) : Nat → List Value → FE → FE
  | _, [], t => t
  | i, a :: r, t => argsF n (i + 1) r (Tr.s n t i a)
theorem argsF_g (n : Nat) : ∀ (l : List Value) (i : Nat) (t : FE), i + l.length ≤ n → ∀ j, (argsF n i l t).g j = if i ≤ j ∧ j < i + l.length then l[j - i]? else t.g j
  | [], i, t, _, j => by rw [if_neg (fun h => by simp only [List.length_nil] at h; omega)]; rfl
  | a :: r, i, t, h, j => by
    simp only [List.length_cons] at h
    unfold argsF
    rw [argsF_g n r (i + 1) _ (by omega) j, Tr.g_get, Tr.s_set, Tr.get_set n t i a j (by omega), Tr.g_get]
    by_cases h1 : j = i
    · subst h1
      rw [if_neg (by omega), if_pos rfl, if_pos (by simp)]
      simp
    · rw [if_neg h1]
      by_cases h2 : i + 1 ≤ j ∧ j < i + 1 + r.length
      · rw [if_pos h2, if_pos (by simp; omega), show j - i = (j - (i + 1)) + 1 by omega]
        simp
      · rw [if_neg h2, if_neg (by simp; omega)]
theorem argsF_ok {n : Nat} {args : List Value} (h : args.length ≤ n) : RE n (argsF n 0 args .nil) (args ++ List.replicate (n - args.length) undef) := by
  have hg := argsF_g n args 0 .nil (by omega)
  refine ⟨by simp; omega, fun i v hv => ?_, fun i hi => ?_⟩
  · rw [hg] at hv
    split at hv
    · rw [List.getElem?_append_left (by omega)]; exact hv
    · cases hv
  · rw [hg] at hi
    split at hi
    · rename_i hc
      rw [Nat.sub_zero, List.getElem?_eq_getElem (by omega)] at hi
      cases hi
    · rename_i hc
      rw [List.getD_eq_getElem?_getD, List.getElem?_append_right (by omega), List.getElem?_replicate]
      split <;> rfl

noncomputable def evFnF (P : Program) (prims : Prims) : Nat → CallA
  | 0, _, _, _ => none
  | n + 1, f, args, H => match prims f with
    | some g => g (evFnF P prims n) args H
    | none => match P.funcs[f]? with
      | some fn => match fn.body with
        | some c => bif Nat.ble args.length fn.ntmps then (match evCodeF (evRegionF fn.ntmps P prims.flat (evFnF P prims n)) n c (argsF fn.ntmps 0 args .nil) H with
          | some (.nx, t, H') => (resultsF P t H' fn.results.toList).map (·, H')
          | some (.rt, t, H') => (resultsF P t H' fn.results.toList).map (·, H')
          | _ => none) else none
        | none => none
      | none => none

/-- Who is told of by hand says the more the more its callees say. -/
def PrimsUp (prims : Prims) : Prop := ∀ f g, prims f = some g → ∀ c c' : CallA, (∀ f a H r, c f a H = some r → c' f a H = some r) → ∀ a H r, g c a H = some r → g c' a H = some r
/-- What the quick one says, the evaluator says. -/
theorem evFnF_ok {P : Program} {prims : Prims} (hup : PrimsUp prims) : ∀ (n : Nat) (f : FuncId) (args : List Value) (H : AH) (r : Value × AH), evFnF P prims n f args H = some r → evFn P prims n f args H = some r
  | 0, f, args, H, r, h => by cases h
  | n + 1, f, args, H, r, h => by
    unfold evFnF at h
    unfold evFn
    cases hp : prims f with
    | some g => rw [hp] at h; exact hup f g hp _ _ (fun f a H r => evFnF_ok hup n f a H r) args H r h
    | none =>
      rw [hp] at h
      cases hf : P.funcs[f]? with
      | none => rw [hf] at h; cases h
      | some fn =>
        rw [hf] at h
        simp only at h ⊢
        cases hb : fn.body with
        | none => rw [hb] at h; cases h
        | some c =>
          rw [hb] at h
          simp only at h ⊢
          cases hl : Nat.ble args.length fn.ntmps with
          | false => rw [hl] at h; cases h
          | true =>
            rw [hl] at h
            simp only [cond_true] at h
            have hre := argsF_ok (Nat.le_of_ble_eq_true hl)
            have key := evCodeF_ok (P := P) (k := fn.ntmps) (n := n) (regF := evRegionF fn.ntmps P prims.flat (evFnF P prims n)) (reg := evRegion P prims.flat (evFn P prims n)) (fun ops d t e H t' H' h1 h2 => evRegionF_ok (fun f a H r => evFnF_ok hup n f a H r) h1 h2) c
            cases hcd : evCodeF (evRegionF fn.ntmps P prims.flat (evFnF P prims n)) n c (argsF fn.ntmps 0 args .nil) H with
            | none => rw [hcd] at h; cases h
            | some p =>
              obtain ⟨st, t1, H1⟩ := p
              obtain ⟨e1, h1, h2⟩ := key _ _ _ _ _ _ hre hcd
              rw [hcd] at h
              rw [h1]
              cases st with
              | nx => simp only [resultsF_eq h2] at h; exact h
              | rt => simp only [resultsF_eq h2] at h; exact h
              | ex i => cases h

def boolOf : Option (Value × AH) → Bool
  | some (.bool b, _) => b
  | _ => false
theorem boolOf_some {x : Option (Value × AH)} (h : boolOf x = true) : ∃ H, x = some (.bool true, H) := by
  unfold boolOf at h
  split at h
  · rename_i b H; subst h; exact ⟨H, rfl⟩
  · cases h
/-- A closed run, reckoned by the quick one. -/
theorem run_of_fast {P : Program} {prims : Prims} {n : Nat} {f : FuncId} (hup : PrimsUp prims) (h : boolOf (evFnF P prims n f [] AH.empty) = true) : (evFn P prims n f [] AH.empty).map Prod.fst = some (.bool true) := by
  obtain ⟨H, hx⟩ := boolOf_some h
  rw [evFnF_ok hup n f [] AH.empty _ hx]
  rfl
end Go.Proofs.YtenolmhnmcjndaaGreatDoor.Ev
