/-
  A machine that the kernel reckons with quickly: bytes in a number, values, rows in a tree with four branches.
  The machine's heap: blocks in a tree; what it says, the evaluator's heap says.
  The machine's temporaries: nodes of some branches, some floors; who reads one, who writes one, made ready once.
  The machine's values: looks at them.
  The machine's operations on values: operands, numbers, strings; each says what the evaluator says.
-/
import Derived.Test.YtenolmhnmcjndaaGreatDoorEvOps
import Derived.Test.YtenolmhnmcjndaaGreatDoorEvGrown
import Derived.Test.YtenolmhnmcjndaaGreatDoorEvFast
namespace Go.Proofs.YtenolmhnmcjndaaGreatDoor.Ev
set_option linter.unusedVariables false
set_option linter.unusedSimpArgs false
open Go

/-! ### Bytes in a number -/
def bytesL : Nat → Nat → List UInt8
  | 0, _ => []
  | n + 1, x => UInt8.ofNat x :: bytesL n (x / 256)
def bytesA (n x : Nat) : ByteArray := ⟨⟨bytesL n x⟩⟩
noncomputable def packL (l : List UInt8) : Nat := List.rec (motive := fun _ => Nat) 0 (fun b _ ih => Nat.add b.toNat (Nat.mul 256 ih)) l
theorem packL_cons (b : UInt8) (r : List UInt8) : packL (b :: r) = b.toNat + 256 * packL r := rfl
theorem bytesL_len : ∀ n x, (bytesL n x).length = n
  | 0, _ => rfl
  | n + 1, x => by simp [bytesL, bytesL_len n]
theorem bytesL_pack : ∀ l : List UInt8, bytesL l.length (packL l) = l
  | [] => rfl
  | b :: r => by
    simp only [List.length_cons, bytesL, packL_cons]
    rw [show (b.toNat + 256 * packL r) / 256 = packL r by have := b.toNat_lt; omega, bytesL_pack r]
    congr 1
    apply UInt8.toNat.inj
    rw [UInt8.toNat_ofNat']
    have := b.toNat_lt
    omega
theorem bytesL_take (n m : Nat) : ∀ x, (bytesL (n + m) x).take n = bytesL n x := by
  induction n with
  | zero => intro x; simp [bytesL]
  | succ n ih => intro x; rw [show n + 1 + m = (n + m) + 1 by omega]; simp [bytesL, ih]
theorem bytesL_drop (n m : Nat) : ∀ x, (bytesL (n + m) x).drop n = bytesL m (Nat.shiftRight x (8 * n)) := by
  induction n with
  | zero => intro x; simp [Nat.shiftRight]
  | succ n ih =>
    intro x
    rw [show n + 1 + m = (n + m) + 1 by omega]
    simp only [bytesL, List.drop_succ_cons, ih]
    congr 1
    have h1 : Nat.shiftRight x (8 * (n + 1)) = x / 2 ^ (8 * (n + 1)) := Nat.shiftRight_eq_div_pow ..
    have h2 : Nat.shiftRight (x / 256) (8 * n) = x / 256 / 2 ^ (8 * n) := Nat.shiftRight_eq_div_pow ..
    rw [h1, h2, Nat.div_div_eq_div_mul]
    congr 1
    rw [show 8 * (n + 1) = 8 + 8 * n by omega, Nat.pow_add]
theorem bytesL_get {n i : Nat} (h : i < n) (x : Nat) : (bytesL n x)[i]? = some (UInt8.ofNat (Nat.shiftRight x (8 * i))) := by
  have := bytesL_drop i (n - i) x
  rw [show i + (n - i) = n by omega] at this
  have h2 : ((bytesL n x).drop i)[0]? = (bytesL n x)[i]? := by simp
  rw [← h2, this, show n - i = (n - i - 1) + 1 by omega]
  rfl
theorem bytesL_mod (n : Nat) : ∀ x, bytesL n (x % 2 ^ (8 * n)) = bytesL n x := by
  induction n with
  | zero => intro x; rfl
  | succ n ih =>
    intro x
    simp only [bytesL]
    have h : x % 2 ^ (8 * (n + 1)) = x % (256 * 2 ^ (8 * n)) := by rw [show 8 * (n + 1) = 8 + 8 * n by omega, Nat.pow_add]
    rw [h, Nat.mod_mul_right_div_self, ih]
    congr 1
    apply UInt8.toNat.inj
    rw [UInt8.toNat_ofNat', UInt8.toNat_ofNat', Nat.mod_mul, Nat.add_mul_mod_self_left]
    exact Nat.mod_mod _ _
theorem bytesL_inj (n : Nat) : ∀ x y, bytesL n x = bytesL n y → x % 2 ^ (8 * n) = y % 2 ^ (8 * n) := by
  induction n with
  | zero => intro x y _; simp [Nat.mod_one]
  | succ n ih =>
    intro x y h
    simp only [bytesL, List.cons.injEq] at h
    have h1 := congrArg UInt8.toNat h.1
    rw [UInt8.toNat_ofNat', UInt8.toNat_ofNat'] at h1
    have h2 := ih _ _ h.2
    have e : ∀ z, z % 2 ^ (8 * (n + 1)) = z % 256 + 256 * (z / 256 % 2 ^ (8 * n)) := fun z => by
      rw [show 8 * (n + 1) = 8 + 8 * n by omega, Nat.pow_add, show (2 : Nat) ^ 8 = 256 from rfl, Nat.mod_mul]
    rw [e, e, h2]
    omega
theorem bytesL_app (m y : Nat) : ∀ n x, bytesL (n + m) (x % 2 ^ (8 * n) + Nat.shiftLeft y (8 * n)) = bytesL n x ++ bytesL m y
  | 0, x => by simp [bytesL, Nat.mod_one, Nat.shiftLeft]
  | n + 1, x => by
    rw [show n + 1 + m = (n + m) + 1 by omega]
    have h1 : Nat.shiftLeft y (8 * (n + 1)) = 256 * Nat.shiftLeft y (8 * n) := by
      have a : ∀ k, Nat.shiftLeft y k = y * 2 ^ k := fun k => Nat.shiftLeft_eq y k
      rw [a, a, show 8 * (n + 1) = 8 + 8 * n by omega, Nat.pow_add, show (2 : Nat) ^ 8 = 256 from rfl, Nat.mul_left_comm]
    have h2 : x % 2 ^ (8 * (n + 1)) = x % 256 + 256 * (x / 256 % 2 ^ (8 * n)) := by
      rw [show 8 * (n + 1) = 8 + 8 * n by omega, Nat.pow_add, show (2 : Nat) ^ 8 = 256 from rfl, Nat.mod_mul]
    simp only [bytesL, List.cons_append]
    rw [h1, h2]
    congr 1
    · apply UInt8.toNat.inj
      rw [UInt8.toNat_ofNat', UInt8.toNat_ofNat']
      omega
    · rw [show (x % 256 + 256 * (x / 256 % 2 ^ (8 * n)) + 256 * Nat.shiftLeft y (8 * n)) / 256 = x / 256 % 2 ^ (8 * n) + Nat.shiftLeft y (8 * n) by omega]
      exact bytesL_app m y n (x / 256)

/-! ### Forcing -/
/-- A number, reckoned. -/
noncomputable def natK (k : Nat → Bool) (n : Nat) : Bool := Nat.rec (motive := fun _ => Bool) (k 0) (fun m _ => k (Nat.succ m)) n
theorem natK_eq (k : Nat → Bool) (n : Nat) : natK k n = k n := by cases n <;> rfl
/-- Is it so? Then on. -/
noncomputable def ifK (k : Bool) (b : Bool) : Bool := Bool.rec (motive := fun _ => Bool) false k b
theorem ifK_ok {k b : Bool} (h : ifK k b = true) : b = true ∧ k = true := by
  cases b with
  | true => exact ⟨rfl, h⟩
  | false => cases h
noncomputable def iteK (k0 k1 : Bool) (b : Bool) : Bool := Bool.rec (motive := fun _ => Bool) k0 k1 b
theorem iteK_ok {k0 k1 b : Bool} (h : iteK k0 k1 b = true) : b = false ∧ k0 = true ∨ b = true ∧ k1 = true := by
  cases b with
  | true => exact .inr ⟨rfl, h⟩
  | false => exact .inl ⟨rfl, h⟩
noncomputable def intK (k : Int → Bool) (i : Int) : Bool := Int.rec (motive := fun _ => Bool) (natK fun n => k (.ofNat n)) (natK fun n => k (.negSucc n)) i
theorem intK_eq (k : Int → Bool) (i : Int) : intK k i = k i := by cases i <;> simp only [intK, natK_eq]

/-! ### Values -/
inductive FV where
  | nn (n : Nat)
  | ii (k : IntKind) (n : Int)
  | bb (b : Bool)
  | ss (len x : Nat)
  | pp (blk off : Nat)
  | ll (blk off len cap : Nat)
  | mm (blk : Nat)
  | aa (cs : List FV)
  | tt (cs : List FV)
  | ff (fn : Nat) (cap : List FV)
  | cc (t : TypeId) (v : FV)
  | oo (v : Value)

mutual
def FV.val : FV → Value
  | .nn x => .int .i64 (Int.ofNat x)
  | .ii k x => .int k x
  | .bb x => .bool x
  | .ss n x => .string (bytesA n x)
  | .pp c o => .pointer (some ⟨c, o, none⟩)
  | .ll c o n k => .slice (some ⟨c, o, none⟩) n k
  | .mm c => .map (some c)
  | .aa cs => .agg (FV.vals cs).toArray
  | .tt cs => .tuple (FV.vals cs).toArray
  | .ff f cs => .func (.func f) #[] (FV.vals cs).toArray
  | .cc t v => .iface t v.val
  | .oo v => v
def FV.vals : List FV → List Value
  | [] => []
  | x :: r => x.val :: FV.vals r
end
theorem FV.vals_eq : ∀ l : List FV, FV.vals l = l.map FV.val
  | [] => rfl
  | x :: r => by rw [FV.vals, FV.vals_eq r]; rfl

/-! ### A value's own form -/
noncomputable def natR {R : Type} (k : Nat → R) (n : Nat) : R := Nat.rec (motive := fun _ => R) (k 0) (fun m _ => k (Nat.succ m)) n
theorem natR_eq {R : Type} (k : Nat → R) (n : Nat) : natR k n = k n := by cases n <;> rfl
/-- A value of the model's as one of the machine's; it goes on where there is one. -/
noncomputable def conv1 {R : Type} (z : R) (k : FV → R) (v : Value) : R :=
  match v with
  | .bool b => Bool.rec (motive := fun _ => R) (k (.bb false)) (k (.bb true)) b
  | .int kd x => match kd with
    | .i64 => Int.rec (motive := fun _ => R) (natR fun n => k (.nn n)) (natR fun n => k (.ii .i64 (.negSucc n))) x
    | kd => Int.rec (motive := fun _ => R) (natR fun n => k (.ii kd (.ofNat n))) (natR fun n => k (.ii kd (.negSucc n))) x
  | .string s => natR (fun n => natR (fun x => k (.ss n x)) (packL s.data.toList)) s.data.toList.length
  | .pointer a => match a with
    | some a => match a.spot with
      | none => natR (fun c => natR (fun o => k (.pp c o)) a.off) a.block
      | some _ => z
    | none => k (.oo (.pointer none))
  | .slice a n c => match a with
    | some a => match a.spot with
      | none => natR (fun b => natR (fun o => natR (fun n => natR (fun c => k (.ll b o n c)) c) n) a.off) a.block
      | some _ => z
    | none => natR (fun n => natR (fun c => k (.oo (.slice none n c))) c) n
  | .map r => match r with
    | some r => natR (fun c => k (.mm c)) r
    | none => k (.oo (.map none))
  | .nilFunc => k (.oo .nilFunc)
  | .nilIface => k (.oo .nilIface)
  | .chan r => match r with
    | some n => Nat.rec (motive := fun _ => R) (k (.oo junk)) (fun _ _ => z) n
    | none => z
  | _ => z
def ConvOk {R : Type} (z : R) (k : FV → R) (v : Value) (r : R) : Prop := r = z ∨ ∃ f : FV, f.val = v ∧ r = k f
theorem conv1_ok {R : Type} {z : R} {k : FV → R} {v : Value} : ConvOk z k v (conv1 z k v) := by
  unfold conv1
  split
  · cases ‹Bool› <;> exact .inr ⟨_, rfl, rfl⟩
  · split
    · cases ‹Int› <;> simp only [natR_eq] <;> exact .inr ⟨_, rfl, rfl⟩
    · cases ‹Int› <;> simp only [natR_eq] <;> exact .inr ⟨_, rfl, rfl⟩
  · rename_i s
    rw [natR_eq, natR_eq]
    refine .inr ⟨_, ?_, rfl⟩
    simp only [FV.val, bytesA, bytesL_pack]
  · split
    · rename_i a
      split
      · rename_i hs
        rw [natR_eq, natR_eq]
        refine .inr ⟨_, ?_, rfl⟩
        obtain ⟨b, o, s⟩ := a
        simp only at hs; subst hs; rfl
      · exact .inl rfl
    · exact .inr ⟨_, rfl, rfl⟩
  · split
    · rename_i a
      split
      · rename_i hs
        rw [natR_eq, natR_eq, natR_eq, natR_eq]
        refine .inr ⟨_, ?_, rfl⟩
        obtain ⟨b, o, s⟩ := a
        simp only at hs; subst hs; rfl
      · exact .inl rfl
    · rw [natR_eq, natR_eq]; exact .inr ⟨_, rfl, rfl⟩
  · split
    · rw [natR_eq]; exact .inr ⟨_, rfl, rfl⟩
    · exact .inr ⟨_, rfl, rfl⟩
  · exact .inr ⟨_, rfl, rfl⟩
  · exact .inr ⟨_, rfl, rfl⟩
  · split
    · cases ‹Nat› with
      | zero => exact .inr ⟨_, rfl, rfl⟩
      | succ n => exact .inl rfl
    · exact .inl rfl
  · exact .inl rfl
noncomputable def convL {R : Type} (k1 : (FV → R) → Value → R) (l : List Value) : (List FV → R) → R :=
  List.rec (motive := fun _ => (List FV → R) → R) (fun k => k []) (fun v _ ih k => k1 (fun f => ih fun fs => k (f :: fs)) v) l
theorem convL_ok {R : Type} {z : R} {k1 : (FV → R) → Value → R} (h1 : ∀ k v, ConvOk z k v (k1 k v)) : ∀ (l : List Value) (k : List FV → R), convL k1 l k = z ∨ ∃ fs, FV.vals fs = l ∧ convL k1 l k = k fs
  | [], k => .inr ⟨[], rfl, rfl⟩
  | v :: r, k => by
    show k1 (fun f => convL k1 r fun fs => k (f :: fs)) v = z ∨ ∃ fs, FV.vals fs = v :: r ∧ k1 (fun f => convL k1 r fun fs => k (f :: fs)) v = k fs
    rcases h1 (fun f => convL k1 r fun fs => k (f :: fs)) v with h | ⟨f, rfl, h⟩
    · exact .inl h
    · rw [h]
      rcases convL_ok h1 r (fun fs => k (f :: fs)) with h2 | ⟨fs, rfl, h2⟩
      · exact .inl h2
      · exact .inr ⟨f :: fs, rfl, h2⟩
/-- One floor more: rows, what is held, functions. -/
noncomputable def convS {R : Type} (z : R) (k1 : (FV → R) → Value → R) (k : FV → R) (v : Value) : R :=
  match v with
  | .agg cs => convL k1 cs.toList fun l => k (.aa l)
  | .tuple cs => convL k1 cs.toList fun l => k (.tt l)
  | .func (.func f) fi cs => Bool.rec (motive := fun _ => R) z (natR (fun f => convL k1 cs.toList fun l => k (.ff f l)) f) fi.toList.isEmpty
  | .iface t v => natR (fun t => k1 (fun f => k (.cc t f)) v) t
  | v => conv1 z k v
theorem convS_ok {R : Type} {z : R} {k1 : (FV → R) → Value → R} (h1 : ∀ k v, ConvOk z k v (k1 k v)) (k : FV → R) (v : Value) : ConvOk z k v (convS z k1 k v) := by
  unfold convS
  split
  · rename_i cs
    rcases convL_ok h1 cs.toList (fun l => k (.aa l)) with h | ⟨fs, h2, h⟩
    · exact .inl h
    · exact .inr ⟨.aa fs, by simp only [FV.val, h2], h⟩
  · rename_i cs
    rcases convL_ok h1 cs.toList (fun l => k (.tt l)) with h | ⟨fs, h2, h⟩
    · exact .inl h
    · exact .inr ⟨.tt fs, by simp only [FV.val, h2], h⟩
  · rename_i f fi cs
    cases h0 : fi.toList.isEmpty with
    | false => exact .inl rfl
    | true =>
      show ConvOk z k _ (natR (fun f => convL k1 cs.toList fun l => k (.ff f l)) f)
      rw [natR_eq]
      have : fi = #[] := by
        apply Array.ext'
        simpa using h0
      subst this
      rcases convL_ok h1 cs.toList (fun l => k (.ff f l)) with h | ⟨fs, h2, h⟩
      · exact .inl h
      · exact .inr ⟨.ff _ fs, by simp only [FV.val, h2], h⟩
  · rename_i t v
    rw [natR_eq]
    rcases h1 (fun f => k (.cc t f)) v with h | ⟨f, rfl, h⟩
    · exact .inl h
    · exact .inr ⟨.cc t f, rfl, h⟩
  · exact conv1_ok
noncomputable def conv2 {R : Type} (z : R) : (FV → R) → Value → R := convS z (conv1 z)
noncomputable def conv3 {R : Type} (z : R) : (FV → R) → Value → R := convS z (conv2 z)
noncomputable def convR {R : Type} (z : R) : (FV → R) → Value → R := convS z (conv3 z)
theorem convR_ok {R : Type} (z : R) (k : FV → R) (v : Value) : ConvOk z k v (convR z k v) :=
  convS_ok (fun _ _ => convS_ok (fun _ _ => convS_ok (fun _ _ => conv1_ok) _ _) _ _) _ _
/-- A value as the machine's. -/
noncomputable def convK (k : FV → Bool) (v : Value) : Bool := convR false k v
theorem convK_ok {k : FV → Bool} {v : Value} (h : convK k v = true) : ∃ f : FV, f.val = v ∧ k f = true := by
  rcases convR_ok false k v with h2 | ⟨f, h1, h2⟩
  · unfold convK at h; rw [h2] at h; cases h
  · unfold convK at h; rw [h2] at h; exact ⟨f, h1, h⟩

/-! ### A tree with four branches: what is laid in one behind the other -/
inductive N5 (α β : Type) where
  | e
  | q (v : α) (a b c d : β)
def QT (α : Type) (d : Nat) : Type := Nat.rec (motive := fun _ => Type) Unit (fun _ T => N5 α T) d
def getS5 {α β : Type} (g : β → Nat → Option α) (t : N5 α β) (n : Nat) : Option α := match t with
  | .e => none
  | .q v a b c d => match n with
    | 0 => some v
    | m + 1 => match m % 4 with
      | 0 => g a (m / 4)
      | 1 => g b (m / 4)
      | 2 => g c (m / 4)
      | _ => g d (m / 4)
noncomputable def sel4 {β : Type} (x0 x1 x2 x3 : β) (n : Nat) : β := Nat.rec (motive := fun _ => β) x0 (fun n _ => Nat.rec (motive := fun _ => β) x1 (fun n _ => Nat.rec (motive := fun _ => β) x2 (fun _ _ => x3) n) n) n
theorem sel4_eq {β : Type} (x0 x1 x2 x3 : β) (n : Nat) : sel4 x0 x1 x2 x3 n = match n with | 0 => x0 | 1 => x1 | 2 => x2 | _ => x3 := by
  match n with
  | 0 => rfl
  | 1 => rfl
  | 2 => rfl
  | n + 3 => rfl
section
variable {α β R : Type}
/-- One floor of a look. -/
noncomputable def gB5 (g : (α → Bool) → β → Nat → Bool) (k : α → Bool) (a b c d : β) (m : Nat) (_ : Bool) : Bool := g k (sel4 a b c d (Nat.mod m 4)) (Nat.div m 4)
noncomputable def gA5 (g : (α → Bool) → β → Nat → Bool) (k : α → Bool) (n : Nat) (v : α) (a b c d : β) : Bool := Nat.rec (motive := fun _ => Bool) (k v) (gB5 g k a b c d) n
noncomputable def gN5 (g : (α → Bool) → β → Nat → Bool) (k : α → Bool) (t : N5 α β) (n : Nat) : Bool := N5.rec (motive := fun _ => Bool) false (gA5 g k n) t
theorem gN5_ok {g : (α → Bool) → β → Nat → Bool} {gs : β → Nat → Option α} {k : α → Bool} (hg : ∀ t n, g k t n = true → ∃ x, gs t n = some x ∧ k x = true) : ∀ (t : N5 α β) (n : Nat), gN5 g k t n = true → ∃ x, getS5 gs t n = some x ∧ k x = true
  | .e, n, h => by cases h
  | .q v a b c d, 0, h => ⟨v, rfl, h⟩
  | .q v a b c d, m + 1, h => by
    have h : g k (sel4 a b c d (m % 4)) (m / 4) = true := h
    rw [sel4_eq] at h
    have hm : m % 4 = 0 ∨ m % 4 = 1 ∨ m % 4 = 2 ∨ m % 4 = 3 := by omega
    simp only [getS5]
    rcases hm with hm | hm | hm | hm
    all_goals
      rw [hm] at h ⊢
      exact hg _ _ h
noncomputable def ra5 (v : α) (b c d : β) (k : N5 α β → R) (a : β) : R := k (.q v a b c d)
noncomputable def rb5 (v : α) (a c d : β) (k : N5 α β → R) (b : β) : R := k (.q v a b c d)
noncomputable def rc5 (v : α) (a b d : β) (k : N5 α β → R) (c : β) : R := k (.q v a b c d)
noncomputable def rd5 (v : α) (a b c : β) (k : N5 α β → R) (d : β) : R := k (.q v a b c d)
noncomputable def sB5 (s : α → β → (β → R) → Nat → R) (x : α) (k : N5 α β → R) (v : α) (a b c d : β) (m : Nat) (_ : R) : R :=
  sel4 (s x a (ra5 v b c d k)) (s x b (rb5 v a c d k)) (s x c (rc5 v a b d k)) (s x d (rd5 v a b c k)) (Nat.mod m 4) (Nat.div m 4)
noncomputable def sA5 (s : α → β → (β → R) → Nat → R) (x : α) (k : N5 α β → R) (n : Nat) (v : α) (a b c d : β) : R := Nat.rec (motive := fun _ => R) (k (.q x a b c d)) (sB5 s x k v a b c d) n
noncomputable def sE5 (z : R) (e : β) (x : α) (k : N5 α β → R) (n : Nat) : R := Nat.rec (motive := fun _ => R) (k (.q x e e e e)) (fun _ _ => z) n
noncomputable def sN5 (z : R) (e : β) (s : α → β → (β → R) → Nat → R) (x : α) (t : N5 α β) (k : N5 α β → R) (n : Nat) : R := N5.rec (motive := fun _ => R) (sE5 z e x k n) (sA5 s x k n) t
theorem sN5_ok {z : R} {e : β} {s : α → β → (β → R) → Nat → R} {gs : β → Nat → Option α} {x : α} (he : ∀ n, gs e n = none) (hs : ∀ t k n, s x t k n = z ∨ ∃ t', s x t k n = k t' ∧ ∀ m, gs t' m = if m = n then some x else gs t m) :
    ∀ (t : N5 α β) (k : N5 α β → R) (n : Nat), sN5 z e s x t k n = z ∨ ∃ t', sN5 z e s x t k n = k t' ∧ ∀ m, getS5 gs t' m = if m = n then some x else getS5 gs t m
  | .e, k, 0 => .inr ⟨.q x e e e e, rfl, fun m => by
      cases m with
      | zero => rfl
      | succ m => simp only [getS5, he]; split <;> simp⟩
  | .e, k, n + 1 => .inl rfl
  | .q v a b c d, k, 0 => .inr ⟨.q x a b c d, rfl, fun m => by cases m <;> simp [getS5]⟩
  | .q v a b c d, k, n + 1 => by
    have e0 : sN5 z e s x (.q v a b c d) k (n + 1) = sel4 (s x a (ra5 v b c d k)) (s x b (rb5 v a c d k)) (s x c (rc5 v a b d k)) (s x d (rd5 v a b c k)) (n % 4) (n / 4) := rfl
    rw [e0, sel4_eq]
    have hn : n % 4 = 0 ∨ n % 4 = 1 ∨ n % 4 = 2 ∨ n % 4 = 3 := by omega
    have fin : ∀ (w : β) (kk : β → R), (s x w kk (n / 4) = z ∨ ∃ t', s x w kk (n / 4) = kk t' ∧ ∀ m, gs t' m = if m = n / 4 then some x else gs w m) := fun w kk => hs w kk (n / 4)
    rcases hn with hn | hn | hn | hn
    · simp only [hn]
      rcases fin a (ra5 v b c d k) with h | ⟨t', h1, h2⟩
      · exact .inl h
      · refine .inr ⟨.q v t' b c d, h1, fun m => ?_⟩
        cases m with
        | zero => simp [getS5]
        | succ m =>
          have hm : m % 4 = 0 ∨ m % 4 = 1 ∨ m % 4 = 2 ∨ m % 4 = 3 := by omega
          rcases hm with hm | hm | hm | hm
          · simp only [getS5, hm, h2]
            have e : (m / 4 = n / 4) ↔ (m + 1 = n + 1) := by omega
            simp only [e]
          all_goals
            have e : ¬ (m + 1 = n + 1) := by omega
            rw [if_neg e]
            simp only [getS5, hm]
    · simp only [hn]
      rcases fin b (rb5 v a c d k) with h | ⟨t', h1, h2⟩
      · exact .inl h
      · refine .inr ⟨.q v a t' c d, h1, fun m => ?_⟩
        cases m with
        | zero => simp [getS5]
        | succ m =>
          have hm : m % 4 = 1 ∨ m % 4 = 0 ∨ m % 4 = 2 ∨ m % 4 = 3 := by omega
          rcases hm with hm | hm | hm | hm
          · simp only [getS5, hm, h2]
            have e : (m / 4 = n / 4) ↔ (m + 1 = n + 1) := by omega
            simp only [e]
          all_goals
            have e : ¬ (m + 1 = n + 1) := by omega
            rw [if_neg e]
            simp only [getS5, hm]
    · simp only [hn]
      rcases fin c (rc5 v a b d k) with h | ⟨t', h1, h2⟩
      · exact .inl h
      · refine .inr ⟨.q v a b t' d, h1, fun m => ?_⟩
        cases m with
        | zero => simp [getS5]
        | succ m =>
          have hm : m % 4 = 2 ∨ m % 4 = 0 ∨ m % 4 = 1 ∨ m % 4 = 3 := by omega
          rcases hm with hm | hm | hm | hm
          · simp only [getS5, hm, h2]
            have e : (m / 4 = n / 4) ↔ (m + 1 = n + 1) := by omega
            simp only [e]
          all_goals
            have e : ¬ (m + 1 = n + 1) := by omega
            rw [if_neg e]
            simp only [getS5, hm]
    · simp only [hn]
      rcases fin d (rd5 v a b c k) with h | ⟨t', h1, h2⟩
      · exact .inl h
      · refine .inr ⟨.q v a b c t', h1, fun m => ?_⟩
        cases m with
        | zero => simp [getS5]
        | succ m =>
          have hm : m % 4 = 3 ∨ m % 4 = 0 ∨ m % 4 = 1 ∨ m % 4 = 2 := by omega
          rcases hm with hm | hm | hm | hm
          · simp only [getS5, hm, h2]
            have e : (m / 4 = n / 4) ↔ (m + 1 = n + 1) := by omega
            simp only [e]
          all_goals
            have e : ¬ (m + 1 = n + 1) := by omega
            rw [if_neg e]
            simp only [getS5, hm]
end
def gs0 {α : Type} (_ : QT α 0) (_ : Nat) : Option α := none
noncomputable def g0 {α : Type} (_ : α → Bool) (_ : QT α 0) (_ : Nat) : Bool := false
noncomputable def s0 {α R : Type} (z : R) (_ : α) (_ : QT α 0) (_ : QT α 0 → R) (_ : Nat) : R := z
def gs1 {α : Type} (t : QT α 1) (n : Nat) : Option α := getS5 (β := QT α 0) gs0 t n
noncomputable def g1 {α : Type} (k : α → Bool) (t : QT α 1) (n : Nat) : Bool := gN5 (β := QT α 0) g0 k t n
noncomputable def s1 {α R : Type} (z : R) (x : α) (t : QT α 1) (k : QT α 1 → R) (n : Nat) : R := sN5 (β := QT α 0) z () (s0 z) x t k n
def gs2 {α : Type} (t : QT α 2) (n : Nat) : Option α := getS5 (β := QT α 1) gs1 t n
noncomputable def g2 {α : Type} (k : α → Bool) (t : QT α 2) (n : Nat) : Bool := gN5 (β := QT α 1) g1 k t n
noncomputable def s2 {α R : Type} (z : R) (x : α) (t : QT α 2) (k : QT α 2 → R) (n : Nat) : R := sN5 (β := QT α 1) z (N5.e : N5 α (QT α 0)) (s1 z) x t k n
def gs3 {α : Type} (t : QT α 3) (n : Nat) : Option α := getS5 (β := QT α 2) gs2 t n
noncomputable def g3 {α : Type} (k : α → Bool) (t : QT α 3) (n : Nat) : Bool := gN5 (β := QT α 2) g2 k t n
noncomputable def s3 {α R : Type} (z : R) (x : α) (t : QT α 3) (k : QT α 3 → R) (n : Nat) : R := sN5 (β := QT α 2) z (N5.e : N5 α (QT α 1)) (s2 z) x t k n
def gs4 {α : Type} (t : QT α 4) (n : Nat) : Option α := getS5 (β := QT α 3) gs3 t n
noncomputable def g4 {α : Type} (k : α → Bool) (t : QT α 4) (n : Nat) : Bool := gN5 (β := QT α 3) g3 k t n
noncomputable def s4 {α R : Type} (z : R) (x : α) (t : QT α 4) (k : QT α 4 → R) (n : Nat) : R := sN5 (β := QT α 3) z (N5.e : N5 α (QT α 2)) (s3 z) x t k n
def gs5 {α : Type} (t : QT α 5) (n : Nat) : Option α := getS5 (β := QT α 4) gs4 t n
noncomputable def g5 {α : Type} (k : α → Bool) (t : QT α 5) (n : Nat) : Bool := gN5 (β := QT α 4) g4 k t n
noncomputable def s5 {α R : Type} (z : R) (x : α) (t : QT α 5) (k : QT α 5 → R) (n : Nat) : R := sN5 (β := QT α 4) z (N5.e : N5 α (QT α 3)) (s4 z) x t k n
def gs6 {α : Type} (t : QT α 6) (n : Nat) : Option α := getS5 (β := QT α 5) gs5 t n
noncomputable def g6 {α : Type} (k : α → Bool) (t : QT α 6) (n : Nat) : Bool := gN5 (β := QT α 5) g5 k t n
noncomputable def s6 {α R : Type} (z : R) (x : α) (t : QT α 6) (k : QT α 6 → R) (n : Nat) : R := sN5 (β := QT α 5) z (N5.e : N5 α (QT α 4)) (s5 z) x t k n
def gs7 {α : Type} (t : QT α 7) (n : Nat) : Option α := getS5 (β := QT α 6) gs6 t n
noncomputable def g7 {α : Type} (k : α → Bool) (t : QT α 7) (n : Nat) : Bool := gN5 (β := QT α 6) g6 k t n
noncomputable def s7 {α R : Type} (z : R) (x : α) (t : QT α 7) (k : QT α 7 → R) (n : Nat) : R := sN5 (β := QT α 6) z (N5.e : N5 α (QT α 5)) (s6 z) x t k n
def gs8 {α : Type} (t : QT α 8) (n : Nat) : Option α := getS5 (β := QT α 7) gs7 t n
noncomputable def g8 {α : Type} (k : α → Bool) (t : QT α 8) (n : Nat) : Bool := gN5 (β := QT α 7) g7 k t n
noncomputable def s8 {α R : Type} (z : R) (x : α) (t : QT α 8) (k : QT α 8 → R) (n : Nat) : R := sN5 (β := QT α 7) z (N5.e : N5 α (QT α 6)) (s7 z) x t k n
def gs9 {α : Type} (t : QT α 9) (n : Nat) : Option α := getS5 (β := QT α 8) gs8 t n
noncomputable def g9 {α : Type} (k : α → Bool) (t : QT α 9) (n : Nat) : Bool := gN5 (β := QT α 8) g8 k t n
noncomputable def s9 {α R : Type} (z : R) (x : α) (t : QT α 9) (k : QT α 9 → R) (n : Nat) : R := sN5 (β := QT α 8) z (N5.e : N5 α (QT α 7)) (s8 z) x t k n
theorem g0_ok {α : Type} {k : α → Bool} (t : QT α 0) (n : Nat) (h : g0 k t n = true) : ∃ x, gs0 t n = some x ∧ k x = true := by cases h
theorem s0_ok {α R : Type} {z : R} {x : α} (t : QT α 0) (k : QT α 0 → R) (n : Nat) : s0 z x t k n = z ∨ ∃ t', s0 z x t k n = k t' ∧ ∀ m, gs0 t' m = if m = n then some x else gs0 t m := .inl rfl
theorem g1_ok {α : Type} {k : α → Bool} (t : QT α 1) (n : Nat) (h : g1 k t n = true) : ∃ x, gs1 t n = some x ∧ k x = true := gN5_ok (β := QT α 0) (gs := gs0) g0_ok t n h
theorem s1_ok {α R : Type} {z : R} {x : α} (t : QT α 1) (k : QT α 1 → R) (n : Nat) : s1 z x t k n = z ∨ ∃ t', s1 z x t k n = k t' ∧ ∀ m, gs1 t' m = if m = n then some x else gs1 t m := sN5_ok (β := QT α 0) (gs := gs0) (fun _ => rfl) s0_ok t k n
theorem g2_ok {α : Type} {k : α → Bool} (t : QT α 2) (n : Nat) (h : g2 k t n = true) : ∃ x, gs2 t n = some x ∧ k x = true := gN5_ok (β := QT α 1) (gs := gs1) g1_ok t n h
theorem s2_ok {α R : Type} {z : R} {x : α} (t : QT α 2) (k : QT α 2 → R) (n : Nat) : s2 z x t k n = z ∨ ∃ t', s2 z x t k n = k t' ∧ ∀ m, gs2 t' m = if m = n then some x else gs2 t m := sN5_ok (β := QT α 1) (gs := gs1) (fun _ => rfl) s1_ok t k n
theorem g3_ok {α : Type} {k : α → Bool} (t : QT α 3) (n : Nat) (h : g3 k t n = true) : ∃ x, gs3 t n = some x ∧ k x = true := gN5_ok (β := QT α 2) (gs := gs2) g2_ok t n h
theorem s3_ok {α R : Type} {z : R} {x : α} (t : QT α 3) (k : QT α 3 → R) (n : Nat) : s3 z x t k n = z ∨ ∃ t', s3 z x t k n = k t' ∧ ∀ m, gs3 t' m = if m = n then some x else gs3 t m := sN5_ok (β := QT α 2) (gs := gs2) (fun _ => rfl) s2_ok t k n
theorem g4_ok {α : Type} {k : α → Bool} (t : QT α 4) (n : Nat) (h : g4 k t n = true) : ∃ x, gs4 t n = some x ∧ k x = true := gN5_ok (β := QT α 3) (gs := gs3) g3_ok t n h
theorem s4_ok {α R : Type} {z : R} {x : α} (t : QT α 4) (k : QT α 4 → R) (n : Nat) : s4 z x t k n = z ∨ ∃ t', s4 z x t k n = k t' ∧ ∀ m, gs4 t' m = if m = n then some x else gs4 t m := sN5_ok (β := QT α 3) (gs := gs3) (fun _ => rfl) s3_ok t k n
theorem g5_ok {α : Type} {k : α → Bool} (t : QT α 5) (n : Nat) (h : g5 k t n = true) : ∃ x, gs5 t n = some x ∧ k x = true := gN5_ok (β := QT α 4) (gs := gs4) g4_ok t n h
theorem s5_ok {α R : Type} {z : R} {x : α} (t : QT α 5) (k : QT α 5 → R) (n : Nat) : s5 z x t k n = z ∨ ∃ t', s5 z x t k n = k t' ∧ ∀ m, gs5 t' m = if m = n then some x else gs5 t m := sN5_ok (β := QT α 4) (gs := gs4) (fun _ => rfl) s4_ok t k n
theorem g6_ok {α : Type} {k : α → Bool} (t : QT α 6) (n : Nat) (h : g6 k t n = true) : ∃ x, gs6 t n = some x ∧ k x = true := gN5_ok (β := QT α 5) (gs := gs5) g5_ok t n h
theorem s6_ok {α R : Type} {z : R} {x : α} (t : QT α 6) (k : QT α 6 → R) (n : Nat) : s6 z x t k n = z ∨ ∃ t', s6 z x t k n = k t' ∧ ∀ m, gs6 t' m = if m = n then some x else gs6 t m := sN5_ok (β := QT α 5) (gs := gs5) (fun _ => rfl) s5_ok t k n
theorem g7_ok {α : Type} {k : α → Bool} (t : QT α 7) (n : Nat) (h : g7 k t n = true) : ∃ x, gs7 t n = some x ∧ k x = true := gN5_ok (β := QT α 6) (gs := gs6) g6_ok t n h
theorem s7_ok {α R : Type} {z : R} {x : α} (t : QT α 7) (k : QT α 7 → R) (n : Nat) : s7 z x t k n = z ∨ ∃ t', s7 z x t k n = k t' ∧ ∀ m, gs7 t' m = if m = n then some x else gs7 t m := sN5_ok (β := QT α 6) (gs := gs6) (fun _ => rfl) s6_ok t k n
theorem g8_ok {α : Type} {k : α → Bool} (t : QT α 8) (n : Nat) (h : g8 k t n = true) : ∃ x, gs8 t n = some x ∧ k x = true := gN5_ok (β := QT α 7) (gs := gs7) g7_ok t n h
theorem s8_ok {α R : Type} {z : R} {x : α} (t : QT α 8) (k : QT α 8 → R) (n : Nat) : s8 z x t k n = z ∨ ∃ t', s8 z x t k n = k t' ∧ ∀ m, gs8 t' m = if m = n then some x else gs8 t m := sN5_ok (β := QT α 7) (gs := gs7) (fun _ => rfl) s7_ok t k n
theorem g9_ok {α : Type} {k : α → Bool} (t : QT α 9) (n : Nat) (h : g9 k t n = true) : ∃ x, gs9 t n = some x ∧ k x = true := gN5_ok (β := QT α 8) (gs := gs8) g8_ok t n h
theorem s9_ok {α R : Type} {z : R} {x : α} (t : QT α 9) (k : QT α 9 → R) (n : Nat) : s9 z x t k n = z ∨ ∃ t', s9 z x t k n = k t' ∧ ∀ m, gs9 t' m = if m = n then some x else gs9 t m := sN5_ok (β := QT α 8) (gs := gs8) (fun _ => rfl) s8_ok t k n
def Q (α : Type) : Type := QT α 9
def Q.emp {α : Type} : Q α := (N5.e : N5 α (QT α 8))
def Q.get {α : Type} (t : Q α) (n : Nat) : Option α := gs9 t n
theorem Q.get_emp {α : Type} (n : Nat) : (Q.emp : Q α).get n = none := rfl
/-- What lies there. -/
noncomputable def Q.getK {α : Type} (k : α → Bool) (t : Q α) (n : Nat) : Bool := g9 k t n
theorem Q.getK_ok {α : Type} {k : α → Bool} {t : Q α} {n : Nat} (h : Q.getK k t n = true) : ∃ x, t.get n = some x ∧ k x = true := g9_ok t n h
/-- Something is laid there: over what lay there, or as the next. -/
noncomputable def Q.setK {α : Type} (x : α) (t : Q α) (k : Q α → Bool) (n : Nat) : Bool := s9 false x t k n
theorem Q.setK_ok {α : Type} {x : α} {t : Q α} {k : Q α → Bool} {n : Nat} (h : Q.setK x t k n = true) : ∃ t' : Q α, k t' = true ∧ ∀ m, t'.get m = if m = n then some x else t.get m := by
  rcases s9_ok (z := false) t k n (x := x) with h1 | ⟨t', h1, h2⟩
  · unfold Q.setK at h; rw [h1] at h; cases h
  · unfold Q.setK at h; rw [h1] at h; exact ⟨t', h, h2⟩
/-- The same, made ready once. -/
noncomputable def setR {R α : Type} (z : R) (x : α) (t : Q α) (k : Q α → R) (n : Nat) : R := s9 z x t k n
theorem setR_ok {R α : Type} {z : R} {x : α} {t : Q α} {k : Q α → R} {n : Nat} : setR z x t k n = z ∨ ∃ t' : Q α, setR z x t k n = k t' ∧ ∀ m, t'.get m = if m = n then some x else t.get m := s9_ok t k n
end Go.Proofs.YtenolmhnmcjndaaGreatDoor.Ev
namespace Go.Proofs.YtenolmhnmcjndaaGreatDoor.Ev
set_option linter.unusedVariables false
set_option linter.unusedSimpArgs false
open Go

structure FEnt where
  key : FV
  val : FV
  born : Nat
def FEnt.ent (e : FEnt) : MapEntry := { key := e.key.val, val := e.val.val, born := e.born }
inductive FObj where
  | cl (n : Nat) (t : Q FV) (e lo hi : Nat)
  | yy (n x e lo hi : Nat)
  | it (n x pos : Nat)
  | mp (es : List FEnt) (ck : Nat)
def byteC (b : UInt8) : Value := .int .u8 (Int.ofNat b.toNat)
def FObjR : FObj → Obj → Prop
  | .cl n t e lo hi, o => ∃ C : Array Value, o = .cells C e (lo, hi) ∧ C.size = n ∧ ∀ i f, t.get i = some f → C[i]? = some f.val
  | .yy n x e lo hi, o => o = .cells ((bytesL n x).map byteC).toArray e (lo, hi)
  | .it n x pos, o => o = .stringIter (bytesA n x) pos
  | .mp es ck, o => o = .map (es.map FEnt.ent).toArray ck
theorem FObjR.sh {f : FObj} {o : Obj} (h : FObjR f o) : shapeSame o o := by
  cases f with
  | cl n t e lo hi => obtain ⟨C, rfl, _⟩ := h; exact ⟨rfl, rfl⟩
  | yy => cases h; exact ⟨rfl, rfl⟩
  | it => cases h; trivial
  | mp => cases h; trivial

inductive FBlk where
  | xx (o : FObj) (ver : Nat)
  | gg (o : FObj) (root ver hd fl : Nat)
def BlkR (H : AH) (c : Nat) : FBlk → Blk → Prop
  | .xx o ver, b => b.exact = true ∧ b.ver = ver ∧ FObjR o b.obj
  | .gg o root ver hd fl, b => b.exact = false ∧ b.root = root ∧ b.ver = ver ∧ FObjR o b.obj ∧ H.grp c = (hd, fl)
structure FH where
  t : Q FBlk
  next : Nat
  clock : Nat
structure HR (F : FH) (H : AH) : Prop where
  wf : WfH H
  next : H.next = F.next
  clock : H.clock = F.clock
  blk : ∀ c fb, F.t.get c = some fb → ∃ b, H.blk c = some b ∧ BlkR H c fb b

section
variable {F : FH} {H : AH}

theorem HR.xx (h : HR F H) {c : Nat} {o : FObj} {ver : Nat} (hg : F.t.get c = some (.xx o ver)) : ∃ b, H.blk c = some b ∧ FObjR o b.obj ∧ b.ver = ver ∧ b.exact = true ∧ b.root = c ∧ H.live c b = true ∧ H.tip c b = true := by
  obtain ⟨b, hb, h1, h2, h3⟩ := h.blk c _ hg
  obtain ⟨e1, e2, _⟩ := h.wf.exact c b hb h1
  refine ⟨b, hb, h3, h2, h1, e1, ?_, ?_⟩
  · rw [live_iff, e1]
    have := h.wf.floor c b hb
    rw [e1] at this
    omega
  · rw [tip_iff, e1]; exact e2

noncomputable def objRt (k : FObj → Bool) (c : Nat) (o : FObj) (rb : FBlk) : Bool := FBlk.rec (motive := fun _ => Bool) (fun _ _ => false) (fun _ _ _ _ fl => ifK (k o) (Nat.ble fl c)) rb
noncomputable def objG (k : FObj → Bool) (c : Nat) (t : Q FBlk) (o : FObj) (root ver hd fl : Nat) : Bool := iteK (Q.getK (objRt k c o) t root) (ifK (k o) (Nat.ble fl c)) (Nat.beq root c)
noncomputable def objB (k : FObj → Bool) (c : Nat) (t : Q FBlk) (fb : FBlk) : Bool := FBlk.rec (motive := fun _ => Bool) (fun o _ => k o) (objG k c t) fb
noncomputable def objF (k : FObj → Bool) (c : Nat) (t : Q FBlk) (_ _ : Nat) : Bool := Q.getK (objB k c t) t c
/-- What lies in a block that may be looked at. -/
noncomputable def objK (k : FObj → Bool) (F : FH) (c : Nat) : Bool := FH.rec (motive := fun _ => Bool) (objF k c) F
theorem objK_ok {k : FObj → Bool} {c : Nat} (h : HR F H) (hk : objK k F c = true) : ∃ o b, H.blk c = some b ∧ H.live c b = true ∧ FObjR o b.obj ∧ k o = true := by
  obtain ⟨t, next, clock⟩ := F
  have hk : Q.getK (objB k c t) t c = true := hk
  obtain ⟨fb, h1, h2⟩ := Q.getK_ok hk
  cases fb with
  | xx o ver =>
    obtain ⟨b, hb, ho, _, _, _, hl, _⟩ := h.xx h1
    exact ⟨o, b, hb, hl, ho, h2⟩
  | gg o root ver hd fl =>
    obtain ⟨b, hb, e1, e2, e3, e4, e5⟩ := h.blk c _ h1
    have h2 : objG k c t o root ver hd fl = true := h2
    rcases iteK_ok h2 with ⟨hr, h3⟩ | ⟨hr, h3⟩
    · obtain ⟨rb, g1, g2⟩ := Q.getK_ok h3
      cases rb with
      | xx => cases g2
      | gg ro rr rv rh rf =>
        have g2 : ifK (k o) (Nat.ble rf c) = true := g2
        obtain ⟨g3, g4⟩ := ifK_ok g2
        obtain ⟨b', hb', f1, f2, f3, f4, f5⟩ := h.blk root _ g1
        exact ⟨o, b, hb, by rw [live_iff, e2, f5]; exact Nat.le_of_ble_eq_true g3, e4, g4⟩
    · have hr := Nat.eq_of_beq_eq_true hr
      obtain ⟨g3, g4⟩ := ifK_ok h3
      exact ⟨o, b, hb, by rw [live_iff, e2, hr, e5]; exact Nat.le_of_ble_eq_true g3, e4, g4⟩

/-! ### Writing -/
noncomputable def wrN (k : FH → Bool) (t : Q FBlk) (next clock : Nat) : Bool := k ⟨t, next, clock⟩
noncomputable def wrT (k : FH → Bool) (next clock : Nat) (t : Q FBlk) : Bool := natK (wrN k t next) (Nat.succ clock)
noncomputable def wrX (k : FH → Bool) (c : Nat) (t : Q FBlk) (next clock : Nat) (o : FObj) : Bool := Q.setK (.xx o clock) t (wrT k next clock) c
noncomputable def wrG (k : FH → Bool) (c : Nat) (t : Q FBlk) (next clock : Nat) (o : FObj) : Bool := Q.setK (.gg o c clock c c) t (wrT k next clock) c
noncomputable def wrR2 (k : FH → Bool) (c root next clock : Nat) (rb : FBlk) (t : Q FBlk) : Bool := Q.setK rb t (wrT k next clock) root
noncomputable def wrR (k : FH → Bool) (c root hd fl : Nat) (rb : FBlk) (t : Q FBlk) (next clock : Nat) (o : FObj) : Bool := Q.setK (.gg o root clock hd fl) t (wrR2 k c root next clock rb) c
noncomputable def wrR1 (u : (FObj → Bool) → FObj → Bool) (k : FH → Bool) (c root hd fl : Nat) (t : Q FBlk) (next clock : Nat) (o : FObj) (rb : FBlk) : Bool :=
  FBlk.rec (motive := fun _ => Bool) (fun _ _ => false) (fun ro rr rv rh rf => ifK (ifK (u (wrR k c root hd fl (.gg ro rr rv rh c) t next clock) o) (Nat.beq rh c)) (Nat.ble rf c)) rb
noncomputable def wrB2 (u : (FObj → Bool) → FObj → Bool) (k : FH → Bool) (c : Nat) (t : Q FBlk) (next clock : Nat) (o : FObj) (root ver hd fl : Nat) : Bool :=
  iteK (Q.getK (wrR1 u k c root hd fl t next clock o) t root) (ifK (ifK (u (wrG k c t next clock) o) (Nat.beq hd c)) (Nat.ble fl c)) (Nat.beq root c)
noncomputable def wrB (u : (FObj → Bool) → FObj → Bool) (k : FH → Bool) (c : Nat) (t : Q FBlk) (next clock : Nat) (fb : FBlk) : Bool :=
  FBlk.rec (motive := fun _ => Bool) (fun o _ => u (wrX k c t next clock) o) (wrB2 u k c t next clock) fb
noncomputable def wrF (u : (FObj → Bool) → FObj → Bool) (k : FH → Bool) (c : Nat) (t : Q FBlk) (next clock : Nat) : Bool := Q.getK (wrB u k c t next clock) t c
/-- A block that may be written, written anew. -/
noncomputable def wrK (u : (FObj → Bool) → FObj → Bool) (k : FH → Bool) (F : FH) (c : Nat) : Bool := FH.rec (motive := fun _ => Bool) (wrF u k c) F

theorem HR.putR (h : HR F H) {c : Nat} {b : Blk} {O : Obj} {t : Q FBlk} (hb : H.blk c = some b) (hl : H.live c b = true) (ht : H.tip c b = true) (hs : shapeSame b.obj O) (hs2 : shapeSame O O)
    (hg : ∀ d fb, t.get d = some fb → ∃ b', (H.put c b O).blk d = some b' ∧ BlkR (H.put c b O) d fb b') : HR ⟨t, F.next, F.clock + 1⟩ (H.put c b O) :=
  ⟨h.wf.put hb hl ht hs2, h.next, by rw [clock_put, h.clock], hg⟩

theorem wrK_ok {u : (FObj → Bool) → FObj → Bool} {k : FH → Bool} {c : Nat} (h : HR F H) (hk : wrK u k F c = true) :
    ∃ b o, H.blk c = some b ∧ H.live c b = true ∧ H.tip c b = true ∧ FObjR o b.obj ∧ ∃ co : FObj → Bool, u co o = true ∧ ∀ o', co o' = true → ∀ O, FObjR o' O → shapeSame b.obj O → ∃ F', HR F' (H.put c b O) ∧ k F' = true := by
  obtain ⟨t, next, clock⟩ := F
  have hk : Q.getK (wrB u k c t next clock) t c = true := hk
  have hcl : H.clock = clock := h.clock
  obtain ⟨fb, h1, h2⟩ := Q.getK_ok hk
  cases fb with
  | xx o ver =>
    obtain ⟨b, hb, ho, _, hex, hrt, hl, ht⟩ := h.xx h1
    refine ⟨b, o, hb, hl, ht, ho, _, h2, fun o' ho' O hO hsh => ?_⟩
    obtain ⟨t', k1, k2⟩ := Q.setK_ok ho'
    unfold wrT at k1
    rw [natK_eq] at k1
    refine ⟨_, h.putR hb hl ht hsh hO.sh fun d fb hd => ?_, k1⟩
    rw [k2] at hd
    split at hd
    · rename_i e; subst e; cases hd
      exact ⟨{ b with obj := O, ver := H.clock }, by rw [blk_put, if_pos rfl], hex, hcl, hO⟩
    · rename_i e
      obtain ⟨b', hb', hr'⟩ := h.blk d fb hd
      refine ⟨b', by rw [blk_put, if_neg e]; exact hb', ?_⟩
      cases fb with
      | xx => exact hr'
      | gg => obtain ⟨a1, a2, a3, a4, a5⟩ := hr'; exact ⟨a1, a2, a3, a4, by rw [grp_put, if_neg (by rw [hrt]; exact e)]; exact a5⟩
  | gg o root ver hd fl =>
    obtain ⟨b, hb, e1, e2, e3, e4, e5⟩ := h.blk c _ h1
    have h2 : wrB2 u k c t next clock o root ver hd fl = true := h2
    rcases iteK_ok h2 with ⟨hr, h3⟩ | ⟨hr, h3⟩
    · have hr : root ≠ c := fun e => by rw [e, Nat.beq_refl] at hr; cases hr
      obtain ⟨rb, g1, g2⟩ := Q.getK_ok h3
      cases rb with
      | xx => cases g2
      | gg ro rr rv rh rf =>
        have g2 : ifK (ifK (u (wrR k c root hd fl (.gg ro rr rv rh c) t next clock) o) (Nat.beq rh c)) (Nat.ble rf c) = true := g2
        obtain ⟨g3, g4⟩ := ifK_ok g2
        obtain ⟨g5, g6⟩ := ifK_ok g4
        have g5 := Nat.eq_of_beq_eq_true g5
        obtain ⟨b', hb', f1, f2, f3, f4, f5⟩ := h.blk root _ g1
        have hl : H.live c b = true := by rw [live_iff, e2, f5]; exact Nat.le_of_ble_eq_true g3
        have ht : H.tip c b = true := by rw [tip_iff, e2, f5]; exact g5
        refine ⟨b, o, hb, hl, ht, e4, _, g6, fun o' ho' O hO hsh => ?_⟩
        obtain ⟨t1, k1, k2⟩ := Q.setK_ok ho'
        obtain ⟨t', k3, k4⟩ := Q.setK_ok k1
        unfold wrT at k3
        rw [natK_eq] at k3
        refine ⟨_, h.putR hb hl ht hsh hO.sh fun d fb hd' => ?_, k3⟩
        rw [k4] at hd'
        split at hd'
        · rename_i e; subst e; cases hd'
          exact ⟨b', by rw [blk_put, if_neg hr]; exact hb', f1, f2, f3, f4, by rw [grp_put, if_pos e2.symm, e2, f5]⟩
        · rename_i er
          rw [k2] at hd'
          split at hd'
          · rename_i e; subst e; cases hd'
            exact ⟨{ b with obj := O, ver := H.clock }, by rw [blk_put, if_pos rfl], e1, e2, hcl, hO, by rw [grp_put, if_neg (by rw [e2]; exact er)]; exact e5⟩
          · rename_i e
            obtain ⟨b2, hb2, hr2⟩ := h.blk d fb hd'
            refine ⟨b2, by rw [blk_put, if_neg e]; exact hb2, ?_⟩
            cases fb with
            | xx => exact hr2
            | gg => obtain ⟨a1, a2, a3, a4, a5⟩ := hr2; exact ⟨a1, a2, a3, a4, by rw [grp_put, if_neg (by rw [e2]; exact er)]; exact a5⟩
    · have hr := Nat.eq_of_beq_eq_true hr
      subst hr
      obtain ⟨g3, g4⟩ := ifK_ok h3
      obtain ⟨g5, g6⟩ := ifK_ok g4
      have g5 := Nat.eq_of_beq_eq_true g5
      subst g5
      have hl : H.live hd b = true := by rw [live_iff, e2, e5]; exact Nat.le_of_ble_eq_true g3
      have ht : H.tip hd b = true := by rw [tip_iff, e2, e5]
      refine ⟨b, o, hb, hl, ht, e4, _, g6, fun o' ho' O hO hsh => ?_⟩
      obtain ⟨t', k1, k2⟩ := Q.setK_ok ho'
      unfold wrT at k1
      rw [natK_eq] at k1
      refine ⟨_, h.putR hb hl ht hsh hO.sh fun d fb hd' => ?_, k1⟩
      rw [k2] at hd'
      split at hd'
      · rename_i e; subst e; cases hd'
        exact ⟨{ b with obj := O, ver := H.clock }, by rw [blk_put, if_pos rfl], e1, e2, hcl, hO, by rw [grp_put, if_pos e2.symm, e2, e5]⟩
      · rename_i e
        obtain ⟨b2, hb2, hr2⟩ := h.blk d fb hd'
        refine ⟨b2, by rw [blk_put, if_neg e]; exact hb2, ?_⟩
        cases fb with
        | xx => exact hr2
        | gg => obtain ⟨a1, a2, a3, a4, a5⟩ := hr2; exact ⟨a1, a2, a3, a4, by rw [grp_put, if_neg (by rw [e2]; exact e)]; exact a5⟩

/-! ### New blocks -/
noncomputable def nwN (k : Nat → FH → Bool) (t : Q FBlk) (next next' clock' : Nat) : Bool := k next ⟨t, next', clock'⟩
noncomputable def nwM (k : Nat → FH → Bool) (t : Q FBlk) (next clock next' : Nat) : Bool := natK (nwN k t next next') (Nat.succ clock)
noncomputable def nwT (k : Nat → FH → Bool) (next clock : Nat) (t : Q FBlk) : Bool := natK (nwM k t next clock) (Nat.succ next)
noncomputable def nwX (k : Nat → FH → Bool) (o : FObj) (t : Q FBlk) (next clock : Nat) : Bool := Q.setK (.xx o clock) t (nwT k next clock) next
noncomputable def nwG (k : Nat → FH → Bool) (o : FObj) (t : Q FBlk) (next clock : Nat) : Bool := Q.setK (.gg o next clock next next) t (nwT k next clock) next
/-- A new block, just as long as it is. -/
noncomputable def newX (k : Nat → FH → Bool) (o : FObj) (F : FH) : Bool := FH.rec (motive := fun _ => Bool) (nwX k o) F
/-- A new block that may have room behind. -/
noncomputable def newG (k : Nat → FH → Bool) (o : FObj) (F : FH) : Bool := FH.rec (motive := fun _ => Bool) (nwG k o) F

theorem newX_ok {k : Nat → FH → Bool} {o : FObj} {O : Obj} (h : HR F H) (hO : FObjR o O) (hk : newX k o F = true) : ∃ F', HR F' (H.alloc O true) ∧ k H.next F' = true := by
  obtain ⟨t, next, clock⟩ := F
  have hk : Q.setK (.xx o clock) t (nwT k next clock) next = true := hk
  have hcl : H.clock = clock := h.clock
  have hn : H.next = next := h.next
  obtain ⟨t', k1, k2⟩ := Q.setK_ok hk
  unfold nwT at k1
  rw [natK_eq] at k1
  unfold nwM at k1
  rw [natK_eq] at k1
  refine ⟨⟨t', Nat.succ next, Nat.succ clock⟩, ⟨h.wf.alloc hO.sh, by rw [next_alloc, hn], show H.clock + 1 = _ by rw [hcl], fun d fb hd => ?_⟩, by rw [hn]; exact k1⟩
  rw [k2] at hd
  split at hd
  · rename_i e; subst e; cases hd
    exact ⟨⟨O, H.next, true, H.clock⟩, by rw [blk_alloc, if_pos hn.symm], rfl, hcl, hO⟩
  · rename_i e
    obtain ⟨b', hb', hr'⟩ := h.blk d fb hd
    refine ⟨b', by rw [blk_alloc, if_neg (by rw [hn]; exact e)]; exact hb', ?_⟩
    cases fb with
    | xx => exact hr'
    | gg => exact hr'
theorem newG_ok {k : Nat → FH → Bool} {o : FObj} {O : Obj} (h : HR F H) (hO : FObjR o O) (hk : newG k o F = true) : ∃ F', HR F' (H.alloc O false) ∧ k H.next F' = true := by
  obtain ⟨t, next, clock⟩ := F
  have hk : Q.setK (.gg o next clock next next) t (nwT k next clock) next = true := hk
  have hcl : H.clock = clock := h.clock
  have hn : H.next = next := h.next
  obtain ⟨t', k1, k2⟩ := Q.setK_ok hk
  unfold nwT at k1
  rw [natK_eq] at k1
  unfold nwM at k1
  rw [natK_eq] at k1
  refine ⟨⟨t', Nat.succ next, Nat.succ clock⟩, ⟨h.wf.alloc hO.sh, by rw [next_alloc, hn], show H.clock + 1 = _ by rw [hcl], fun d fb hd => ?_⟩, by rw [hn]; exact k1⟩
  rw [k2] at hd
  split at hd
  · rename_i e; subst e; cases hd
    exact ⟨⟨O, H.next, false, H.clock⟩, by rw [blk_alloc, if_pos hn.symm], rfl, hn, hcl, hO, by rw [grp_alloc]; exact h.wf.fresh _ (by rw [hn]; exact Nat.le_refl _)⟩
  · rename_i e
    obtain ⟨b', hb', hr'⟩ := h.blk d fb hd
    refine ⟨b', by rw [blk_alloc, if_neg (by rw [hn]; exact e)]; exact hb', ?_⟩
    cases fb with
    | xx => exact hr'
    | gg => exact hr'

/-! ### A copy of a row that may be the row itself -/
noncomputable def cpT (k : Nat → FH → Bool) (root next clock : Nat) (rb : FBlk) (t : Q FBlk) : Bool := Q.setK rb t (nwT k next clock) root
noncomputable def cpR (k : Nat → FH → Bool) (o : FObj) (root : Nat) (t : Q FBlk) (next clock : Nat) (rb : FBlk) : Bool :=
  FBlk.rec (motive := fun _ => Bool) (fun _ _ => false) (fun ro rr rv rh rf => Q.setK (.gg o root clock next next) t (cpT k root next clock (.gg ro rr rv next rf)) next) rb
noncomputable def cpF (k : Nat → FH → Bool) (o : FObj) (root : Nat) (t : Q FBlk) (next clock : Nat) : Bool := Q.getK (cpR k o root t next clock) t root
noncomputable def copyG (k : Nat → FH → Bool) (o : FObj) (root : Nat) (F : FH) : Bool := FH.rec (motive := fun _ => Bool) (cpF k o root) F
theorem copyG_ok {k : Nat → FH → Bool} {o : FObj} {O : Obj} {c root : Nat} {b : Blk} (h : HR F H) (hb : H.blk c = some b) (he : b.exact = false) (hr : b.root = root) (hO : FObjR o O) (hk : copyG k o root F = true) : ∃ F', HR F' (H.copyOf O root) ∧ k H.next F' = true := by
  obtain ⟨t, next, clock⟩ := F
  have hk : Q.getK (cpR k o root t next clock) t root = true := hk
  have hcl : H.clock = clock := h.clock
  have hn : H.next = next := h.next
  obtain ⟨rb, g1, g2⟩ := Q.getK_ok hk
  cases rb with
  | xx => cases g2
  | gg ro rr rv rh rf =>
    have g2 : Q.setK (.gg o root clock next next) t (cpT k root next clock (.gg ro rr rv next rf)) next = true := g2
    obtain ⟨t1, k1, k2⟩ := Q.setK_ok g2
    obtain ⟨t', k3, k4⟩ := Q.setK_ok k1
    unfold nwT at k3
    rw [natK_eq] at k3
    unfold nwM at k3
    rw [natK_eq] at k3
    obtain ⟨b', hb', f1, f2, f3, f4, f5⟩ := h.blk root _ g1
    have hrn : root < next := by rw [← hn]; exact (h.wf.lt root b' hb').1
    refine ⟨⟨t', Nat.succ next, Nat.succ clock⟩, ⟨by rw [← hr]; exact h.wf.copyOf hb he hO.sh, by rw [next_copyOf, hn], show H.clock + 1 = _ by rw [hcl], fun d fb hd => ?_⟩, by rw [hn]; exact k3⟩
    rw [k4] at hd
    split at hd
    · rename_i e; subst e; cases hd
      refine ⟨b', by rw [blk_copyOf, if_neg (by omega)]; exact hb', f1, f2, f3, f4, by rw [grp_copyOf, if_pos rfl, f5, hn]⟩
    · rename_i er
      rw [k2] at hd
      split at hd
      · rename_i e; subst e; cases hd
        exact ⟨⟨O, root, false, H.clock⟩, by rw [blk_copyOf, if_pos hn.symm], rfl, rfl, hcl, hO, by rw [grp_copyOf, if_neg er]; exact h.wf.fresh _ (by rw [hn]; exact Nat.le_refl _)⟩
      · rename_i e
        obtain ⟨b2, hb2, hr2⟩ := h.blk d fb hd
        refine ⟨b2, by rw [blk_copyOf, if_neg (by rw [hn]; exact e)]; exact hb2, ?_⟩
        cases fb with
        | xx => exact hr2
        | gg => obtain ⟨a1, a2, a3, a4, a5⟩ := hr2; exact ⟨a1, a2, a3, a4, by rw [grp_copyOf, if_neg er]; exact a5⟩

/-! ### Cells -/
theorem cells_of {c : Nat} {b : Blk} {C : Array Value} {e : TypeId} {fr : Nat × Nat} (hb : H.blk c = some b) (hl : H.live c b = true) (ho : b.obj = .cells C e fr) : H.cells c = some (C, e, fr) := by
  unfold AH.cells
  simp only [hb, hl, ho]
noncomputable def byK (k : FV → Bool) (b : Nat) : Bool := k (.ii .u8 (.ofNat b))
noncomputable def cellO (k : FV → Bool) (off : Nat) (o : FObj) : Bool :=
  FObj.rec (motive := fun _ => Bool) (fun _ t _ _ _ => Q.getK k t off) (fun n x _ _ _ => ifK (natK (byK k) (Nat.mod (Nat.shiftRight x (Nat.mul 8 off)) 256)) (Nat.ble (Nat.succ off) n)) (fun _ _ _ => false) (fun _ _ => false) o
/-- One cell. -/
noncomputable def cellK (k : FV → Bool) (F : FH) (c off : Nat) : Bool := objK (cellO k off) F c
theorem byteC_mod (x : Nat) : byteC (UInt8.ofNat x) = .int .u8 (Int.ofNat (x % 256)) := by
  unfold byteC
  rw [UInt8.toNat_ofNat']
theorem cellO_ok {k : FV → Bool} {off : Nat} {o : FObj} {O : Obj} (hO : FObjR o O) (h : cellO k off o = true) : ∃ C e fr f, O = .cells C e fr ∧ C[off]? = some (FV.val f) ∧ k f = true := by
  cases o with
  | cl n t e lo hi =>
    obtain ⟨C, rfl, _, h2⟩ := hO
    obtain ⟨f, h3, h4⟩ := Q.getK_ok h
    exact ⟨C, e, _, f, rfl, h2 _ _ h3, h4⟩
  | yy n x e lo hi =>
    have h : ifK (natK (byK k) (Nat.mod (Nat.shiftRight x (Nat.mul 8 off)) 256)) (Nat.ble (Nat.succ off) n) = true := h
    obtain ⟨h1, h2⟩ := ifK_ok h
    rw [natK_eq] at h2
    have h1 : off < n := Nat.le_of_ble_eq_true h1
    refine ⟨_, e, _, _, hO, ?_, h2⟩
    rw [List.getElem?_toArray, List.getElem?_map, bytesL_get h1]
    simp only [Option.map_some, byteC_mod]
    rfl
  | it => cases h
  | mp => cases h
theorem cellK_ok {k : FV → Bool} {c off : Nat} (h : HR F H) (hk : cellK k F c off = true) : ∃ C e fr f, H.cells c = some (C, e, fr) ∧ C[off]? = some (FV.val f) ∧ k f = true := by
  obtain ⟨o, b, hb, hl, ho, h2⟩ := objK_ok h hk
  obtain ⟨C, e, fr, f, h3, h4, h5⟩ := cellO_ok ho h2
  exact ⟨C, e, fr, f, cells_of hb hl h3, h4, h5⟩

noncomputable def consK (k : List FV → Bool) (f : FV) (l : List FV) : Bool := k (f :: l)
/-- Cells one behind the other, of a tree. -/
noncomputable def cellsQ (t : Q FV) (n : Nat) : (List FV → Bool) → Nat → Bool :=
  Nat.rec (motive := fun _ => (List FV → Bool) → Nat → Bool) (fun k _ => k []) (fun _ ih k off => Q.getK (fun f => ih (consK k f) (Nat.succ off)) t off) n
theorem cellsQ_ok {t : Q FV} {C : Array Value} (hC : ∀ i f, t.get i = some f → C[i]? = some (FV.val f)) : ∀ (n : Nat) (k : List FV → Bool) (off : Nat), cellsQ t n k off = true → ∃ l, (C.toList.drop off).take n = FV.vals l ∧ l.length = n ∧ off + n ≤ C.size + (if n = 0 then off else 0) ∧ k l = true
  | 0, k, off, h => ⟨[], by simp [FV.vals], rfl, by simp, h⟩
  | n + 1, k, off, h => by
    have h : Q.getK (fun f => cellsQ t n (consK k f) (Nat.succ off)) t off = true := h
    obtain ⟨f, h1, h2⟩ := Q.getK_ok h
    obtain ⟨l, h3, h4, h5, h6⟩ := cellsQ_ok hC n _ _ h2
    have hf := hC _ _ h1
    have hlt : off < C.size := (Array.getElem?_eq_some_iff.1 hf).1
    have hd : C.toList.drop off = f.val :: C.toList.drop (off + 1) := by
      rw [List.drop_eq_getElem_cons (by simpa using hlt)]
      congr 1
      have := (Array.getElem?_eq_some_iff.1 hf).2
      simpa using this
    refine ⟨f :: l, ?_, by simp [h4], ?_, h6⟩
    · rw [hd, FV.vals, ← h3]; rfl
    · rw [if_neg (by omega)]
      split at h5 <;> omega
noncomputable def bytesQ (n : Nat) : (List FV → Bool) → Nat → Bool :=
  Nat.rec (motive := fun _ => (List FV → Bool) → Nat → Bool) (fun k _ => k []) (fun _ ih k x => natK (fun b => ih (consK k (.ii .u8 (.ofNat b))) (Nat.div x 256)) (Nat.mod x 256)) n
theorem bytesQ_ok : ∀ (n : Nat) (k : List FV → Bool) (x : Nat), bytesQ n k x = true → ∃ l, (bytesL n x).map byteC = FV.vals l ∧ l.length = n ∧ k l = true
  | 0, k, x, h => ⟨[], rfl, rfl, h⟩
  | n + 1, k, x, h => by
    have h : natK (fun b => bytesQ n (consK k (.ii .u8 (.ofNat b))) (Nat.div x 256)) (Nat.mod x 256) = true := h
    rw [natK_eq] at h
    obtain ⟨l, h1, h2, h3⟩ := bytesQ_ok n _ _ h
    refine ⟨_ :: l, ?_, by simp [h2], h3⟩
    rw [bytesL, List.map_cons, FV.vals, ← show (bytesL n (x / 256)).map byteC = FV.vals l from h1, byteC_mod]
    rfl
noncomputable def rowO (k : List FV → Bool) (off n : Nat) (o : FObj) : Bool :=
  FObj.rec (motive := fun _ => Bool) (fun N t _ _ _ => ifK (cellsQ t n k off) (Nat.ble (Nat.add off n) N)) (fun N x _ _ _ => ifK (bytesQ n k (Nat.shiftRight x (Nat.mul 8 off))) (Nat.ble (Nat.add off n) N)) (fun _ _ _ => false) (fun _ _ => false) o
/-- Some cells one behind the other. -/
noncomputable def cellsK (k : List FV → Bool) (F : FH) (c off n : Nat) : Bool := objK (rowO k off n) F c
theorem rowO_ok {k : List FV → Bool} {off n : Nat} {o : FObj} {O : Obj} (hO : FObjR o O) (h : rowO k off n o = true) : ∃ C e fr l, O = .cells C e fr ∧ off + n ≤ C.size ∧ (C.toList.drop off).take n = FV.vals l ∧ l.length = n ∧ k l = true := by
  cases o with
  | cl N t e lo hi =>
    obtain ⟨C, rfl, h1, h2⟩ := hO
    have h : ifK (cellsQ t n k off) (Nat.ble (Nat.add off n) N) = true := h
    obtain ⟨h3, h4⟩ := ifK_ok h
    obtain ⟨l, h5, h6, _, h7⟩ := cellsQ_ok h2 _ _ _ h4
    exact ⟨C, e, _, l, rfl, by rw [h1]; exact Nat.le_of_ble_eq_true h3, h5, h6, h7⟩
  | yy N x e lo hi =>
    have h : ifK (bytesQ n k (Nat.shiftRight x (Nat.mul 8 off))) (Nat.ble (Nat.add off n) N) = true := h
    obtain ⟨h3, h4⟩ := ifK_ok h
    have h3 : off + n ≤ N := Nat.le_of_ble_eq_true h3
    obtain ⟨l, h5, h6, h7⟩ := bytesQ_ok _ _ _ h4
    refine ⟨_, e, _, l, hO, by simpa [bytesL_len] using h3, ?_, h6, h7⟩
    rw [← h5]
    have e1 : (bytesL N x).drop off = bytesL (N - off) (Nat.shiftRight x (8 * off)) := by
      have := bytesL_drop off (N - off) x
      rwa [show off + (N - off) = N by omega] at this
    have e2 : (bytesL (N - off) (Nat.shiftRight x (8 * off))).take n = bytesL n (Nat.shiftRight x (8 * off)) := by
      have := bytesL_take n (N - off - n) (Nat.shiftRight x (8 * off))
      rwa [show n + (N - off - n) = N - off by omega] at this
    show (((bytesL N x).map byteC).drop off).take n = (bytesL n (Nat.shiftRight x (8 * off))).map byteC
    rw [← List.map_drop, ← List.map_take, e1, e2]
  | it => cases h
  | mp => cases h
theorem cellsK_ok {k : List FV → Bool} {c off n : Nat} (h : HR F H) (hk : cellsK k F c off n = true) : ∃ C e fr l, H.cells c = some (C, e, fr) ∧ off + n ≤ C.size ∧ (C.toList.drop off).take n = FV.vals l ∧ l.length = n ∧ k l = true := by
  obtain ⟨o, b, hb, hl, ho, h2⟩ := objK_ok h hk
  obtain ⟨C, e, fr, l, h3, h4, h5, h6, h7⟩ := rowO_ok ho h2
  exact ⟨C, e, fr, l, cells_of hb hl h3, h4, h5, h6, h7⟩
end
end Go.Proofs.YtenolmhnmcjndaaGreatDoor.Ev
namespace Go.Proofs.YtenolmhnmcjndaaGreatDoor.Ev
set_option linter.unusedVariables false
set_option linter.unusedSimpArgs false
open Go

structure NX (α : Type) where
  x0 : α
  x1 : α
  x2 : α
  x3 : α
  x4 : α
  x5 : α
  x6 : α
  x7 : α

def NX.get {α : Type} (t : NX α) (i : Nat) : α := match i with | 0 => t.x0 | 1 => t.x1 | 2 => t.x2 | 3 => t.x3 | 4 => t.x4 | 5 => t.x5 | 6 => t.x6 | _ => t.x7
def NX.set {α : Type} (t : NX α) (i : Nat) (v : α) : NX α := match i with | 0 => { t with x0 := v } | 1 => { t with x1 := v } | 2 => { t with x2 := v } | 3 => { t with x3 := v } | 4 => { t with x4 := v } | 5 => { t with x5 := v } | 6 => { t with x6 := v } | _ => { t with x7 := v }
structure SelK (α : Type) where
  run : NX α → α
structure InK (α : Type) where
  run : α → (NX α → Bool) → α → α → α → α → α → α → α → α → Bool
structure OuK (α : Type) where
  run : ((α → Bool) → α → Bool) → (NX α → Bool) → α → α → α → α → α → α → α → α → Bool
noncomputable def selS (α : Type) (n : Nat) : SelK α := (Nat.rec (motive := fun _ => SelK α) ⟨fun t => NX.x0 t⟩ (fun n _ => (Nat.rec (motive := fun _ => SelK α) ⟨fun t => NX.x1 t⟩ (fun n _ => (Nat.rec (motive := fun _ => SelK α) ⟨fun t => NX.x2 t⟩ (fun n _ => (Nat.rec (motive := fun _ => SelK α) ⟨fun t => NX.x3 t⟩ (fun n _ => (Nat.rec (motive := fun _ => SelK α) ⟨fun t => NX.x4 t⟩ (fun n _ => (Nat.rec (motive := fun _ => SelK α) ⟨fun t => NX.x5 t⟩ (fun n _ => (Nat.rec (motive := fun _ => SelK α) ⟨fun t => NX.x6 t⟩ (fun n _ => ⟨fun t => NX.x7 t⟩) n)) n)) n)) n)) n)) n)) n)
noncomputable def inS (α : Type) (n : Nat) : InK α := (Nat.rec (motive := fun _ => InK α) ⟨fun v k x0 x1 x2 x3 x4 x5 x6 x7 => k ⟨v, x1, x2, x3, x4, x5, x6, x7⟩⟩ (fun n _ => (Nat.rec (motive := fun _ => InK α) ⟨fun v k x0 x1 x2 x3 x4 x5 x6 x7 => k ⟨x0, v, x2, x3, x4, x5, x6, x7⟩⟩ (fun n _ => (Nat.rec (motive := fun _ => InK α) ⟨fun v k x0 x1 x2 x3 x4 x5 x6 x7 => k ⟨x0, x1, v, x3, x4, x5, x6, x7⟩⟩ (fun n _ => (Nat.rec (motive := fun _ => InK α) ⟨fun v k x0 x1 x2 x3 x4 x5 x6 x7 => k ⟨x0, x1, x2, v, x4, x5, x6, x7⟩⟩ (fun n _ => (Nat.rec (motive := fun _ => InK α) ⟨fun v k x0 x1 x2 x3 x4 x5 x6 x7 => k ⟨x0, x1, x2, x3, v, x5, x6, x7⟩⟩ (fun n _ => (Nat.rec (motive := fun _ => InK α) ⟨fun v k x0 x1 x2 x3 x4 x5 x6 x7 => k ⟨x0, x1, x2, x3, x4, v, x6, x7⟩⟩ (fun n _ => (Nat.rec (motive := fun _ => InK α) ⟨fun v k x0 x1 x2 x3 x4 x5 x6 x7 => k ⟨x0, x1, x2, x3, x4, x5, v, x7⟩⟩ (fun n _ => ⟨fun v k x0 x1 x2 x3 x4 x5 x6 x7 => k ⟨x0, x1, x2, x3, x4, x5, x6, v⟩⟩) n)) n)) n)) n)) n)) n)) n)
noncomputable def ouS (α : Type) (n : Nat) : OuK α := (Nat.rec (motive := fun _ => OuK α) ⟨fun f k x0 x1 x2 x3 x4 x5 x6 x7 => f (fun y => k ⟨y, x1, x2, x3, x4, x5, x6, x7⟩) x0⟩ (fun n _ => (Nat.rec (motive := fun _ => OuK α) ⟨fun f k x0 x1 x2 x3 x4 x5 x6 x7 => f (fun y => k ⟨x0, y, x2, x3, x4, x5, x6, x7⟩) x1⟩ (fun n _ => (Nat.rec (motive := fun _ => OuK α) ⟨fun f k x0 x1 x2 x3 x4 x5 x6 x7 => f (fun y => k ⟨x0, x1, y, x3, x4, x5, x6, x7⟩) x2⟩ (fun n _ => (Nat.rec (motive := fun _ => OuK α) ⟨fun f k x0 x1 x2 x3 x4 x5 x6 x7 => f (fun y => k ⟨x0, x1, x2, y, x4, x5, x6, x7⟩) x3⟩ (fun n _ => (Nat.rec (motive := fun _ => OuK α) ⟨fun f k x0 x1 x2 x3 x4 x5 x6 x7 => f (fun y => k ⟨x0, x1, x2, x3, y, x5, x6, x7⟩) x4⟩ (fun n _ => (Nat.rec (motive := fun _ => OuK α) ⟨fun f k x0 x1 x2 x3 x4 x5 x6 x7 => f (fun y => k ⟨x0, x1, x2, x3, x4, y, x6, x7⟩) x5⟩ (fun n _ => (Nat.rec (motive := fun _ => OuK α) ⟨fun f k x0 x1 x2 x3 x4 x5 x6 x7 => f (fun y => k ⟨x0, x1, x2, x3, x4, x5, y, x7⟩) x6⟩ (fun n _ => ⟨fun f k x0 x1 x2 x3 x4 x5 x6 x7 => f (fun y => k ⟨x0, x1, x2, x3, x4, x5, x6, y⟩) x7⟩) n)) n)) n)) n)) n)) n)) n)
noncomputable def NX.on {α β : Type} (m : α → α → α → α → α → α → α → α → β) (t : NX α) : β := NX.rec (motive := fun _ => β) m t
theorem NX.get_set {α : Type} (t : NX α) (i j : Nat) (v : α) (hi : i < 8) (hj : j < 8) : (t.set i v).get j = if j = i then v else t.get j := by
  match i, j, hi, hj with
  | 0, 0, _, _ => exact rfl
  | 0, 1, _, _ => exact rfl
  | 0, 2, _, _ => exact rfl
  | 0, 3, _, _ => exact rfl
  | 0, 4, _, _ => exact rfl
  | 0, 5, _, _ => exact rfl
  | 0, 6, _, _ => exact rfl
  | 0, 7, _, _ => exact rfl
  | 1, 0, _, _ => exact rfl
  | 1, 1, _, _ => exact rfl
  | 1, 2, _, _ => exact rfl
  | 1, 3, _, _ => exact rfl
  | 1, 4, _, _ => exact rfl
  | 1, 5, _, _ => exact rfl
  | 1, 6, _, _ => exact rfl
  | 1, 7, _, _ => exact rfl
  | 2, 0, _, _ => exact rfl
  | 2, 1, _, _ => exact rfl
  | 2, 2, _, _ => exact rfl
  | 2, 3, _, _ => exact rfl
  | 2, 4, _, _ => exact rfl
  | 2, 5, _, _ => exact rfl
  | 2, 6, _, _ => exact rfl
  | 2, 7, _, _ => exact rfl
  | 3, 0, _, _ => exact rfl
  | 3, 1, _, _ => exact rfl
  | 3, 2, _, _ => exact rfl
  | 3, 3, _, _ => exact rfl
  | 3, 4, _, _ => exact rfl
  | 3, 5, _, _ => exact rfl
  | 3, 6, _, _ => exact rfl
  | 3, 7, _, _ => exact rfl
  | 4, 0, _, _ => exact rfl
  | 4, 1, _, _ => exact rfl
  | 4, 2, _, _ => exact rfl
  | 4, 3, _, _ => exact rfl
  | 4, 4, _, _ => exact rfl
  | 4, 5, _, _ => exact rfl
  | 4, 6, _, _ => exact rfl
  | 4, 7, _, _ => exact rfl
  | 5, 0, _, _ => exact rfl
  | 5, 1, _, _ => exact rfl
  | 5, 2, _, _ => exact rfl
  | 5, 3, _, _ => exact rfl
  | 5, 4, _, _ => exact rfl
  | 5, 5, _, _ => exact rfl
  | 5, 6, _, _ => exact rfl
  | 5, 7, _, _ => exact rfl
  | 6, 0, _, _ => exact rfl
  | 6, 1, _, _ => exact rfl
  | 6, 2, _, _ => exact rfl
  | 6, 3, _, _ => exact rfl
  | 6, 4, _, _ => exact rfl
  | 6, 5, _, _ => exact rfl
  | 6, 6, _, _ => exact rfl
  | 6, 7, _, _ => exact rfl
  | 7, 0, _, _ => exact rfl
  | 7, 1, _, _ => exact rfl
  | 7, 2, _, _ => exact rfl
  | 7, 3, _, _ => exact rfl
  | 7, 4, _, _ => exact rfl
  | 7, 5, _, _ => exact rfl
  | 7, 6, _, _ => exact rfl
  | 7, 7, _, _ => exact rfl
  | n + 8, _, hi, _ => exact absurd hi (by omega)
  | _, n + 8, _, hj => exact absurd hj (by omega)
theorem selS_ok {α : Type} (i : Nat) (hi : i < 8) (t : NX α) : (selS α i).run t = t.get i := by
  match i, hi with
  | 0, _ => exact rfl
  | 1, _ => exact rfl
  | 2, _ => exact rfl
  | 3, _ => exact rfl
  | 4, _ => exact rfl
  | 5, _ => exact rfl
  | 6, _ => exact rfl
  | 7, _ => exact rfl
  | n + 8, hi => exact absurd hi (by omega)
theorem inS_ok {α : Type} (i : Nat) (hi : i < 8) (v : α) (k : NX α → Bool) (t : NX α) : NX.on ((inS α i).run v k) t = k (t.set i v) := by
  match i, hi with
  | 0, _ => exact rfl
  | 1, _ => exact rfl
  | 2, _ => exact rfl
  | 3, _ => exact rfl
  | 4, _ => exact rfl
  | 5, _ => exact rfl
  | 6, _ => exact rfl
  | 7, _ => exact rfl
  | n + 8, hi => exact absurd hi (by omega)
theorem ouS_ok {α : Type} (i : Nat) (hi : i < 8) (f : (α → Bool) → α → Bool) (k : NX α → Bool) (t : NX α) : NX.on ((ouS α i).run f k) t = f (fun y => k (t.set i y)) (t.get i) := by
  match i, hi with
  | 0, _ => exact rfl
  | 1, _ => exact rfl
  | 2, _ => exact rfl
  | 3, _ => exact rfl
  | 4, _ => exact rfl
  | 5, _ => exact rfl
  | 6, _ => exact rfl
  | 7, _ => exact rfl
  | n + 8, hi => exact absurd hi (by omega)

structure GetK (E : Type) where
  run : E → FV
structure PutK (E : Type) where
  run : (E → Bool) → FV → E → Bool
def undefF : FV := .oo undef
structure EnvI (E : Type) where
  sg : Nat → GetK E
  sp : Nat → PutK E
  at_ : E → Nat → FV
  size : Nat
  ini : E
  g_ok : ∀ n, n < size → ∀ t, (sg n).run t = at_ t n
  p_ok : ∀ n, n < size → ∀ k v t, (sp n).run k v t = true → ∃ t', k t' = true ∧ ∀ m, m < size → at_ t' m = if m = n then v else at_ t m
  ini_ok : ∀ m, m < size → at_ ini m = undefF
def ini1 {α : Type} (v : α) : NX α := ⟨v, v, v, v, v, v, v, v⟩
theorem ini1_get {α : Type} (v : α) (i : Nat) : (ini1 v).get i = v := by
  unfold NX.get ini1
  split <;> rfl

noncomputable def sg2 (n : Nat) : GetK (NX (NX FV)) := (SelK.rec (motive := fun _ => GetK (NX (NX FV))) (fun m2 => (SelK.rec (motive := fun _ => GetK (NX (NX FV))) (fun m1 => (⟨fun t => (m1 (m2 t))⟩ : GetK (NX (NX FV)))) (selS FV (Nat.mod n 8)))) (selS (NX FV) (Nat.div n 8)))
noncomputable def sp2 (n : Nat) : PutK (NX (NX FV)) := (OuK.rec (motive := fun _ => PutK (NX (NX FV))) (fun m2 => (InK.rec (motive := fun _ => PutK (NX (NX FV))) (fun m1 => (⟨fun k2 v u2 => NX.rec (motive := fun _ => Bool) (m2 (fun k1 u1 => NX.rec (motive := fun _ => Bool) (m1 v k1) u1) k2) u2⟩ : PutK (NX (NX FV)))) (inS FV (Nat.mod n 8)))) (ouS (NX FV) (Nat.div n 8)))
def at2 (t : NX (NX FV)) (n : Nat) : FV := (t.get (n / 8)).get (n % 8)
theorem sg2_run (n : Nat) (t : NX (NX FV)) : (sg2 n).run t = ((selS FV (n % 8)).run ((selS (NX FV) (n / 8)).run t)) := rfl
theorem sp2_run (n : Nat) (k2 : NX (NX FV) → Bool) (v : FV) (u2 : NX (NX FV)) : (sp2 n).run k2 v u2 = NX.on ((ouS (NX FV) (n / 8)).run (fun k1 u1 => NX.on ((inS FV (n % 8)).run v k1) u1) k2) u2 := rfl
noncomputable def env2 : EnvI (NX (NX FV)) where
  sg := sg2
  sp := sp2
  at_ := at2
  size := 64
  ini := (ini1 (ini1 undefF))
  g_ok := fun n hn t => by
    rw [sg2_run, selS_ok _ (by omega), selS_ok _ (by omega)]; rfl
  p_ok := fun n hn k v t h => by
    rw [sp2_run] at h
    rw [ouS_ok _ (by omega)] at h
    rw [inS_ok _ (by omega)] at h
    refine ⟨_, h, fun m hm => ?_⟩
    unfold at2
    rw [NX.get_set _ _ _ _ (by omega) (by omega)]
    by_cases e2 : (m / 8) = (n / 8)
    rotate_left
    · rw [if_neg e2, if_neg (by omega)]
    rw [if_pos e2]
    rw [NX.get_set _ _ _ _ (by omega) (by omega)]
    by_cases e1 : (m % 8) = (n % 8)
    · rw [if_pos e1, if_pos (by omega)]
    · rw [if_neg e1, if_neg (by omega), e2]
  ini_ok := fun m hm => by unfold at2; rw [ini1_get, ini1_get]
noncomputable def sg3 (n : Nat) : GetK (NX (NX (NX FV))) := (SelK.rec (motive := fun _ => GetK (NX (NX (NX FV)))) (fun m3 => (SelK.rec (motive := fun _ => GetK (NX (NX (NX FV)))) (fun m2 => (SelK.rec (motive := fun _ => GetK (NX (NX (NX FV)))) (fun m1 => (⟨fun t => (m1 (m2 (m3 t)))⟩ : GetK (NX (NX (NX FV))))) (selS FV (Nat.mod n 8)))) (selS (NX FV) (Nat.mod (Nat.div n 8) 8)))) (selS (NX (NX FV)) (Nat.div n 64)))
noncomputable def sp3 (n : Nat) : PutK (NX (NX (NX FV))) := (OuK.rec (motive := fun _ => PutK (NX (NX (NX FV)))) (fun m3 => (OuK.rec (motive := fun _ => PutK (NX (NX (NX FV)))) (fun m2 => (InK.rec (motive := fun _ => PutK (NX (NX (NX FV)))) (fun m1 => (⟨fun k3 v u3 => NX.rec (motive := fun _ => Bool) (m3 (fun k2 u2 => NX.rec (motive := fun _ => Bool) (m2 (fun k1 u1 => NX.rec (motive := fun _ => Bool) (m1 v k1) u1) k2) u2) k3) u3⟩ : PutK (NX (NX (NX FV))))) (inS FV (Nat.mod n 8)))) (ouS (NX FV) (Nat.mod (Nat.div n 8) 8)))) (ouS (NX (NX FV)) (Nat.div n 64)))
def at3 (t : NX (NX (NX FV))) (n : Nat) : FV := ((t.get (n / 64)).get (n / 8 % 8)).get (n % 8)
theorem sg3_run (n : Nat) (t : NX (NX (NX FV))) : (sg3 n).run t = ((selS FV (n % 8)).run ((selS (NX FV) (n / 8 % 8)).run ((selS (NX (NX FV)) (n / 64)).run t))) := rfl
theorem sp3_run (n : Nat) (k3 : NX (NX (NX FV)) → Bool) (v : FV) (u3 : NX (NX (NX FV))) : (sp3 n).run k3 v u3 = NX.on ((ouS (NX (NX FV)) (n / 64)).run (fun k2 u2 => NX.on ((ouS (NX FV) (n / 8 % 8)).run (fun k1 u1 => NX.on ((inS FV (n % 8)).run v k1) u1) k2) u2) k3) u3 := rfl
noncomputable def env3 : EnvI (NX (NX (NX FV))) where
  sg := sg3
  sp := sp3
  at_ := at3
  size := 512
  ini := (ini1 (ini1 (ini1 undefF)))
  g_ok := fun n hn t => by
    rw [sg3_run, selS_ok _ (by omega), selS_ok _ (by omega), selS_ok _ (by omega)]; rfl
  p_ok := fun n hn k v t h => by
    rw [sp3_run] at h
    rw [ouS_ok _ (by omega)] at h
    rw [ouS_ok _ (by omega)] at h
    rw [inS_ok _ (by omega)] at h
    refine ⟨_, h, fun m hm => ?_⟩
    unfold at3
    rw [NX.get_set _ _ _ _ (by omega) (by omega)]
    by_cases e3 : (m / 64) = (n / 64)
    rotate_left
    · rw [if_neg e3, if_neg (by omega)]
    rw [if_pos e3]
    rw [NX.get_set _ _ _ _ (by omega) (by omega)]
    by_cases e2 : (m / 8 % 8) = (n / 8 % 8)
    rotate_left
    · rw [if_neg e2, if_neg (by omega), e3]
    rw [if_pos e2]
    rw [NX.get_set _ _ _ _ (by omega) (by omega)]
    by_cases e1 : (m % 8) = (n % 8)
    · rw [if_pos e1, if_pos (by omega)]
    · rw [if_neg e1, if_neg (by omega), e3, e2]
  ini_ok := fun m hm => by unfold at3; rw [ini1_get, ini1_get, ini1_get]
noncomputable def sg4 (n : Nat) : GetK (NX (NX (NX (NX FV)))) := (SelK.rec (motive := fun _ => GetK (NX (NX (NX (NX FV))))) (fun m4 => (SelK.rec (motive := fun _ => GetK (NX (NX (NX (NX FV))))) (fun m3 => (SelK.rec (motive := fun _ => GetK (NX (NX (NX (NX FV))))) (fun m2 => (SelK.rec (motive := fun _ => GetK (NX (NX (NX (NX FV))))) (fun m1 => (⟨fun t => (m1 (m2 (m3 (m4 t))))⟩ : GetK (NX (NX (NX (NX FV)))))) (selS FV (Nat.mod n 8)))) (selS (NX FV) (Nat.mod (Nat.div n 8) 8)))) (selS (NX (NX FV)) (Nat.mod (Nat.div n 64) 8)))) (selS (NX (NX (NX FV))) (Nat.div n 512)))
noncomputable def sp4 (n : Nat) : PutK (NX (NX (NX (NX FV)))) := (OuK.rec (motive := fun _ => PutK (NX (NX (NX (NX FV))))) (fun m4 => (OuK.rec (motive := fun _ => PutK (NX (NX (NX (NX FV))))) (fun m3 => (OuK.rec (motive := fun _ => PutK (NX (NX (NX (NX FV))))) (fun m2 => (InK.rec (motive := fun _ => PutK (NX (NX (NX (NX FV))))) (fun m1 => (⟨fun k4 v u4 => NX.rec (motive := fun _ => Bool) (m4 (fun k3 u3 => NX.rec (motive := fun _ => Bool) (m3 (fun k2 u2 => NX.rec (motive := fun _ => Bool) (m2 (fun k1 u1 => NX.rec (motive := fun _ => Bool) (m1 v k1) u1) k2) u2) k3) u3) k4) u4⟩ : PutK (NX (NX (NX (NX FV)))))) (inS FV (Nat.mod n 8)))) (ouS (NX FV) (Nat.mod (Nat.div n 8) 8)))) (ouS (NX (NX FV)) (Nat.mod (Nat.div n 64) 8)))) (ouS (NX (NX (NX FV))) (Nat.div n 512)))
def at4 (t : NX (NX (NX (NX FV)))) (n : Nat) : FV := (((t.get (n / 512)).get (n / 64 % 8)).get (n / 8 % 8)).get (n % 8)
theorem sg4_run (n : Nat) (t : NX (NX (NX (NX FV)))) : (sg4 n).run t = ((selS FV (n % 8)).run ((selS (NX FV) (n / 8 % 8)).run ((selS (NX (NX FV)) (n / 64 % 8)).run ((selS (NX (NX (NX FV))) (n / 512)).run t)))) := rfl
theorem sp4_run (n : Nat) (k4 : NX (NX (NX (NX FV))) → Bool) (v : FV) (u4 : NX (NX (NX (NX FV)))) : (sp4 n).run k4 v u4 = NX.on ((ouS (NX (NX (NX FV))) (n / 512)).run (fun k3 u3 => NX.on ((ouS (NX (NX FV)) (n / 64 % 8)).run (fun k2 u2 => NX.on ((ouS (NX FV) (n / 8 % 8)).run (fun k1 u1 => NX.on ((inS FV (n % 8)).run v k1) u1) k2) u2) k3) u3) k4) u4 := rfl
noncomputable def env4 : EnvI (NX (NX (NX (NX FV)))) where
  sg := sg4
  sp := sp4
  at_ := at4
  size := 4096
  ini := (ini1 (ini1 (ini1 (ini1 undefF))))
  g_ok := fun n hn t => by
    rw [sg4_run, selS_ok _ (by omega), selS_ok _ (by omega), selS_ok _ (by omega), selS_ok _ (by omega)]; rfl
  p_ok := fun n hn k v t h => by
    rw [sp4_run] at h
    rw [ouS_ok _ (by omega)] at h
    rw [ouS_ok _ (by omega)] at h
    rw [ouS_ok _ (by omega)] at h
    rw [inS_ok _ (by omega)] at h
    refine ⟨_, h, fun m hm => ?_⟩
    unfold at4
    rw [NX.get_set _ _ _ _ (by omega) (by omega)]
    by_cases e4 : (m / 512) = (n / 512)
    rotate_left
    · rw [if_neg e4, if_neg (by omega)]
    rw [if_pos e4]
    rw [NX.get_set _ _ _ _ (by omega) (by omega)]
    by_cases e3 : (m / 64 % 8) = (n / 64 % 8)
    rotate_left
    · rw [if_neg e3, if_neg (by omega), e4]
    rw [if_pos e3]
    rw [NX.get_set _ _ _ _ (by omega) (by omega)]
    by_cases e2 : (m / 8 % 8) = (n / 8 % 8)
    rotate_left
    · rw [if_neg e2, if_neg (by omega), e4, e3]
    rw [if_pos e2]
    rw [NX.get_set _ _ _ _ (by omega) (by omega)]
    by_cases e1 : (m % 8) = (n % 8)
    · rw [if_pos e1, if_pos (by omega)]
    · rw [if_neg e1, if_neg (by omega), e4, e3, e2]
  ini_ok := fun m hm => by unfold at4; rw [ini1_get, ini1_get, ini1_get, ini1_get]
end Go.Proofs.YtenolmhnmcjndaaGreatDoor.Ev
namespace Go.Proofs.YtenolmhnmcjndaaGreatDoor.Ev
set_option linter.unusedVariables false
set_option linter.unusedSimpArgs false
open Go

inductive WonInt where
  | nn (a0 : Nat)
  | ii (a0 : IntKind) (a1 : Int)
  | no
noncomputable def wonInt (v : FV) : WonInt := FV.rec (motive_1 := fun _ => WonInt) (motive_2 := fun _ => WonInt) WonInt.nn WonInt.ii (fun _ => WonInt.no) (fun _ _ => WonInt.no) (fun _ _ => WonInt.no) (fun _ _ _ _ => WonInt.no) (fun _ => WonInt.no) (fun _ _ => WonInt.no) (fun _ _ => WonInt.no) (fun _ _ _ => WonInt.no) (fun _ _ _ => WonInt.no) (fun _ => WonInt.no) WonInt.no (fun _ _ _ _ => WonInt.no) v
noncomputable def onInt (knn : Nat → Bool) (kii : IntKind → Int → Bool) (z : Bool) (v : FV) : Bool := WonInt.rec (motive := fun _ => Bool) knn kii z (wonInt v)
theorem onInt_ok {knn : Nat → Bool} {kii : IntKind → Int → Bool} {z : Bool} {v : FV} (h : onInt knn kii z v = true) : (∃ a0, v = .nn a0 ∧ knn a0 = true) ∨ (∃ a0 a1, v = .ii a0 a1 ∧ kii a0 a1 = true) ∨ z = true := by
  cases v with
  | nn => exact .inl ⟨_, rfl, h⟩
  | ii => exact .inr (.inl ⟨_, _, rfl, h⟩)
  | bb => exact .inr (.inr h)
  | ss => exact .inr (.inr h)
  | pp => exact .inr (.inr h)
  | ll => exact .inr (.inr h)
  | mm => exact .inr (.inr h)
  | aa => exact .inr (.inr h)
  | tt => exact .inr (.inr h)
  | ff => exact .inr (.inr h)
  | cc => exact .inr (.inr h)
  | oo => exact .inr (.inr h)
inductive WonN where
  | nn (a0 : Nat)
  | no
noncomputable def wonN (v : FV) : WonN := FV.rec (motive_1 := fun _ => WonN) (motive_2 := fun _ => WonN) WonN.nn (fun _ _ => WonN.no) (fun _ => WonN.no) (fun _ _ => WonN.no) (fun _ _ => WonN.no) (fun _ _ _ _ => WonN.no) (fun _ => WonN.no) (fun _ _ => WonN.no) (fun _ _ => WonN.no) (fun _ _ _ => WonN.no) (fun _ _ _ => WonN.no) (fun _ => WonN.no) WonN.no (fun _ _ _ _ => WonN.no) v
noncomputable def onN (knn : Nat → Bool) (z : Bool) (v : FV) : Bool := WonN.rec (motive := fun _ => Bool) knn z (wonN v)
theorem onN_ok {knn : Nat → Bool} {z : Bool} {v : FV} (h : onN knn z v = true) : (∃ a0, v = .nn a0 ∧ knn a0 = true) ∨ z = true := by
  cases v with
  | nn => exact .inl ⟨_, rfl, h⟩
  | ii => exact .inr h
  | bb => exact .inr h
  | ss => exact .inr h
  | pp => exact .inr h
  | ll => exact .inr h
  | mm => exact .inr h
  | aa => exact .inr h
  | tt => exact .inr h
  | ff => exact .inr h
  | cc => exact .inr h
  | oo => exact .inr h
inductive WonB where
  | bb (a0 : Bool)
  | no
noncomputable def wonB (v : FV) : WonB := FV.rec (motive_1 := fun _ => WonB) (motive_2 := fun _ => WonB) (fun _ => WonB.no) (fun _ _ => WonB.no) WonB.bb (fun _ _ => WonB.no) (fun _ _ => WonB.no) (fun _ _ _ _ => WonB.no) (fun _ => WonB.no) (fun _ _ => WonB.no) (fun _ _ => WonB.no) (fun _ _ _ => WonB.no) (fun _ _ _ => WonB.no) (fun _ => WonB.no) WonB.no (fun _ _ _ _ => WonB.no) v
noncomputable def onB (kbb : Bool → Bool) (z : Bool) (v : FV) : Bool := WonB.rec (motive := fun _ => Bool) kbb z (wonB v)
theorem onB_ok {kbb : Bool → Bool} {z : Bool} {v : FV} (h : onB kbb z v = true) : (∃ a0, v = .bb a0 ∧ kbb a0 = true) ∨ z = true := by
  cases v with
  | nn => exact .inr h
  | ii => exact .inr h
  | bb => exact .inl ⟨_, rfl, h⟩
  | ss => exact .inr h
  | pp => exact .inr h
  | ll => exact .inr h
  | mm => exact .inr h
  | aa => exact .inr h
  | tt => exact .inr h
  | ff => exact .inr h
  | cc => exact .inr h
  | oo => exact .inr h
inductive WonS where
  | ss (a0 : Nat) (a1 : Nat)
  | no
noncomputable def wonS (v : FV) : WonS := FV.rec (motive_1 := fun _ => WonS) (motive_2 := fun _ => WonS) (fun _ => WonS.no) (fun _ _ => WonS.no) (fun _ => WonS.no) WonS.ss (fun _ _ => WonS.no) (fun _ _ _ _ => WonS.no) (fun _ => WonS.no) (fun _ _ => WonS.no) (fun _ _ => WonS.no) (fun _ _ _ => WonS.no) (fun _ _ _ => WonS.no) (fun _ => WonS.no) WonS.no (fun _ _ _ _ => WonS.no) v
noncomputable def onS (kss : Nat → Nat → Bool) (z : Bool) (v : FV) : Bool := WonS.rec (motive := fun _ => Bool) kss z (wonS v)
theorem onS_ok {kss : Nat → Nat → Bool} {z : Bool} {v : FV} (h : onS kss z v = true) : (∃ a0 a1, v = .ss a0 a1 ∧ kss a0 a1 = true) ∨ z = true := by
  cases v with
  | nn => exact .inr h
  | ii => exact .inr h
  | bb => exact .inr h
  | ss => exact .inl ⟨_, _, rfl, h⟩
  | pp => exact .inr h
  | ll => exact .inr h
  | mm => exact .inr h
  | aa => exact .inr h
  | tt => exact .inr h
  | ff => exact .inr h
  | cc => exact .inr h
  | oo => exact .inr h
inductive WonP where
  | pp (a0 : Nat) (a1 : Nat)
  | no
noncomputable def wonP (v : FV) : WonP := FV.rec (motive_1 := fun _ => WonP) (motive_2 := fun _ => WonP) (fun _ => WonP.no) (fun _ _ => WonP.no) (fun _ => WonP.no) (fun _ _ => WonP.no) WonP.pp (fun _ _ _ _ => WonP.no) (fun _ => WonP.no) (fun _ _ => WonP.no) (fun _ _ => WonP.no) (fun _ _ _ => WonP.no) (fun _ _ _ => WonP.no) (fun _ => WonP.no) WonP.no (fun _ _ _ _ => WonP.no) v
noncomputable def onP (kpp : Nat → Nat → Bool) (z : Bool) (v : FV) : Bool := WonP.rec (motive := fun _ => Bool) kpp z (wonP v)
theorem onP_ok {kpp : Nat → Nat → Bool} {z : Bool} {v : FV} (h : onP kpp z v = true) : (∃ a0 a1, v = .pp a0 a1 ∧ kpp a0 a1 = true) ∨ z = true := by
  cases v with
  | nn => exact .inr h
  | ii => exact .inr h
  | bb => exact .inr h
  | ss => exact .inr h
  | pp => exact .inl ⟨_, _, rfl, h⟩
  | ll => exact .inr h
  | mm => exact .inr h
  | aa => exact .inr h
  | tt => exact .inr h
  | ff => exact .inr h
  | cc => exact .inr h
  | oo => exact .inr h
inductive WonL where
  | ll (a0 : Nat) (a1 : Nat) (a2 : Nat) (a3 : Nat)
  | oo (a0 : Value)
  | no
noncomputable def wonL (v : FV) : WonL := FV.rec (motive_1 := fun _ => WonL) (motive_2 := fun _ => WonL) (fun _ => WonL.no) (fun _ _ => WonL.no) (fun _ => WonL.no) (fun _ _ => WonL.no) (fun _ _ => WonL.no) WonL.ll (fun _ => WonL.no) (fun _ _ => WonL.no) (fun _ _ => WonL.no) (fun _ _ _ => WonL.no) (fun _ _ _ => WonL.no) WonL.oo WonL.no (fun _ _ _ _ => WonL.no) v
noncomputable def onL (kll : Nat → Nat → Nat → Nat → Bool) (koo : Value → Bool) (z : Bool) (v : FV) : Bool := WonL.rec (motive := fun _ => Bool) kll koo z (wonL v)
theorem onL_ok {kll : Nat → Nat → Nat → Nat → Bool} {koo : Value → Bool} {z : Bool} {v : FV} (h : onL kll koo z v = true) : (∃ a0 a1 a2 a3, v = .ll a0 a1 a2 a3 ∧ kll a0 a1 a2 a3 = true) ∨ (∃ a0, v = .oo a0 ∧ koo a0 = true) ∨ z = true := by
  cases v with
  | nn => exact .inr (.inr h)
  | ii => exact .inr (.inr h)
  | bb => exact .inr (.inr h)
  | ss => exact .inr (.inr h)
  | pp => exact .inr (.inr h)
  | ll => exact .inl ⟨_, _, _, _, rfl, h⟩
  | mm => exact .inr (.inr h)
  | aa => exact .inr (.inr h)
  | tt => exact .inr (.inr h)
  | ff => exact .inr (.inr h)
  | cc => exact .inr (.inr h)
  | oo => exact .inr (.inl ⟨_, rfl, h⟩)
inductive WonM where
  | mm (a0 : Nat)
  | oo (a0 : Value)
  | no
noncomputable def wonM (v : FV) : WonM := FV.rec (motive_1 := fun _ => WonM) (motive_2 := fun _ => WonM) (fun _ => WonM.no) (fun _ _ => WonM.no) (fun _ => WonM.no) (fun _ _ => WonM.no) (fun _ _ => WonM.no) (fun _ _ _ _ => WonM.no) WonM.mm (fun _ _ => WonM.no) (fun _ _ => WonM.no) (fun _ _ _ => WonM.no) (fun _ _ _ => WonM.no) WonM.oo WonM.no (fun _ _ _ _ => WonM.no) v
noncomputable def onM (kmm : Nat → Bool) (koo : Value → Bool) (z : Bool) (v : FV) : Bool := WonM.rec (motive := fun _ => Bool) kmm koo z (wonM v)
theorem onM_ok {kmm : Nat → Bool} {koo : Value → Bool} {z : Bool} {v : FV} (h : onM kmm koo z v = true) : (∃ a0, v = .mm a0 ∧ kmm a0 = true) ∨ (∃ a0, v = .oo a0 ∧ koo a0 = true) ∨ z = true := by
  cases v with
  | nn => exact .inr (.inr h)
  | ii => exact .inr (.inr h)
  | bb => exact .inr (.inr h)
  | ss => exact .inr (.inr h)
  | pp => exact .inr (.inr h)
  | ll => exact .inr (.inr h)
  | mm => exact .inl ⟨_, rfl, h⟩
  | aa => exact .inr (.inr h)
  | tt => exact .inr (.inr h)
  | ff => exact .inr (.inr h)
  | cc => exact .inr (.inr h)
  | oo => exact .inr (.inl ⟨_, rfl, h⟩)
inductive WonA where
  | aa (a0 : List FV)
  | no
noncomputable def wonA (v : FV) : WonA := FV.rec (motive_1 := fun _ => WonA) (motive_2 := fun _ => WonA) (fun _ => WonA.no) (fun _ _ => WonA.no) (fun _ => WonA.no) (fun _ _ => WonA.no) (fun _ _ => WonA.no) (fun _ _ _ _ => WonA.no) (fun _ => WonA.no) (fun a0 _ => WonA.aa a0) (fun _ _ => WonA.no) (fun _ _ _ => WonA.no) (fun _ _ _ => WonA.no) (fun _ => WonA.no) WonA.no (fun _ _ _ _ => WonA.no) v
noncomputable def onA (kaa : List FV → Bool) (z : Bool) (v : FV) : Bool := WonA.rec (motive := fun _ => Bool) kaa z (wonA v)
theorem onA_ok {kaa : List FV → Bool} {z : Bool} {v : FV} (h : onA kaa z v = true) : (∃ a0, v = .aa a0 ∧ kaa a0 = true) ∨ z = true := by
  cases v with
  | nn => exact .inr h
  | ii => exact .inr h
  | bb => exact .inr h
  | ss => exact .inr h
  | pp => exact .inr h
  | ll => exact .inr h
  | mm => exact .inr h
  | aa => exact .inl ⟨_, rfl, h⟩
  | tt => exact .inr h
  | ff => exact .inr h
  | cc => exact .inr h
  | oo => exact .inr h
inductive WonT where
  | tt (a0 : List FV)
  | no
noncomputable def wonT (v : FV) : WonT := FV.rec (motive_1 := fun _ => WonT) (motive_2 := fun _ => WonT) (fun _ => WonT.no) (fun _ _ => WonT.no) (fun _ => WonT.no) (fun _ _ => WonT.no) (fun _ _ => WonT.no) (fun _ _ _ _ => WonT.no) (fun _ => WonT.no) (fun _ _ => WonT.no) (fun a0 _ => WonT.tt a0) (fun _ _ _ => WonT.no) (fun _ _ _ => WonT.no) (fun _ => WonT.no) WonT.no (fun _ _ _ _ => WonT.no) v
noncomputable def onT (ktt : List FV → Bool) (z : Bool) (v : FV) : Bool := WonT.rec (motive := fun _ => Bool) ktt z (wonT v)
theorem onT_ok {ktt : List FV → Bool} {z : Bool} {v : FV} (h : onT ktt z v = true) : (∃ a0, v = .tt a0 ∧ ktt a0 = true) ∨ z = true := by
  cases v with
  | nn => exact .inr h
  | ii => exact .inr h
  | bb => exact .inr h
  | ss => exact .inr h
  | pp => exact .inr h
  | ll => exact .inr h
  | mm => exact .inr h
  | aa => exact .inr h
  | tt => exact .inl ⟨_, rfl, h⟩
  | ff => exact .inr h
  | cc => exact .inr h
  | oo => exact .inr h
inductive WonF where
  | ff (a0 : Nat) (a1 : List FV)
  | no
noncomputable def wonF (v : FV) : WonF := FV.rec (motive_1 := fun _ => WonF) (motive_2 := fun _ => WonF) (fun _ => WonF.no) (fun _ _ => WonF.no) (fun _ => WonF.no) (fun _ _ => WonF.no) (fun _ _ => WonF.no) (fun _ _ _ _ => WonF.no) (fun _ => WonF.no) (fun _ _ => WonF.no) (fun _ _ => WonF.no) (fun a0 a1 _ => WonF.ff a0 a1) (fun _ _ _ => WonF.no) (fun _ => WonF.no) WonF.no (fun _ _ _ _ => WonF.no) v
noncomputable def onF (kff : Nat → List FV → Bool) (z : Bool) (v : FV) : Bool := WonF.rec (motive := fun _ => Bool) kff z (wonF v)
theorem onF_ok {kff : Nat → List FV → Bool} {z : Bool} {v : FV} (h : onF kff z v = true) : (∃ a0 a1, v = .ff a0 a1 ∧ kff a0 a1 = true) ∨ z = true := by
  cases v with
  | nn => exact .inr h
  | ii => exact .inr h
  | bb => exact .inr h
  | ss => exact .inr h
  | pp => exact .inr h
  | ll => exact .inr h
  | mm => exact .inr h
  | aa => exact .inr h
  | tt => exact .inr h
  | ff => exact .inl ⟨_, _, rfl, h⟩
  | cc => exact .inr h
  | oo => exact .inr h
inductive WonI where
  | cc (a0 : TypeId) (a1 : FV)
  | no
noncomputable def wonI (v : FV) : WonI := FV.rec (motive_1 := fun _ => WonI) (motive_2 := fun _ => WonI) (fun _ => WonI.no) (fun _ _ => WonI.no) (fun _ => WonI.no) (fun _ _ => WonI.no) (fun _ _ => WonI.no) (fun _ _ _ _ => WonI.no) (fun _ => WonI.no) (fun _ _ => WonI.no) (fun _ _ => WonI.no) (fun _ _ _ => WonI.no) (fun a0 a1 _ => WonI.cc a0 a1) (fun _ => WonI.no) WonI.no (fun _ _ _ _ => WonI.no) v
noncomputable def onI (kcc : TypeId → FV → Bool) (z : Bool) (v : FV) : Bool := WonI.rec (motive := fun _ => Bool) kcc z (wonI v)
theorem onI_ok {kcc : TypeId → FV → Bool} {z : Bool} {v : FV} (h : onI kcc z v = true) : (∃ a0 a1, v = .cc a0 a1 ∧ kcc a0 a1 = true) ∨ z = true := by
  cases v with
  | nn => exact .inr h
  | ii => exact .inr h
  | bb => exact .inr h
  | ss => exact .inr h
  | pp => exact .inr h
  | ll => exact .inr h
  | mm => exact .inr h
  | aa => exact .inr h
  | tt => exact .inr h
  | ff => exact .inr h
  | cc => exact .inl ⟨_, _, rfl, h⟩
  | oo => exact .inr h
inductive WonPO where
  | pp (a0 : Nat) (a1 : Nat)
  | oo (a0 : Value)
  | no
noncomputable def wonPO (v : FV) : WonPO := FV.rec (motive_1 := fun _ => WonPO) (motive_2 := fun _ => WonPO) (fun _ => WonPO.no) (fun _ _ => WonPO.no) (fun _ => WonPO.no) (fun _ _ => WonPO.no) WonPO.pp (fun _ _ _ _ => WonPO.no) (fun _ => WonPO.no) (fun _ _ => WonPO.no) (fun _ _ => WonPO.no) (fun _ _ _ => WonPO.no) (fun _ _ _ => WonPO.no) WonPO.oo WonPO.no (fun _ _ _ _ => WonPO.no) v
noncomputable def onPO (kpp : Nat → Nat → Bool) (koo : Value → Bool) (z : Bool) (v : FV) : Bool := WonPO.rec (motive := fun _ => Bool) kpp koo z (wonPO v)
theorem onPO_ok {kpp : Nat → Nat → Bool} {koo : Value → Bool} {z : Bool} {v : FV} (h : onPO kpp koo z v = true) : (∃ a0 a1, v = .pp a0 a1 ∧ kpp a0 a1 = true) ∨ (∃ a0, v = .oo a0 ∧ koo a0 = true) ∨ z = true := by
  cases v with
  | nn => exact .inr (.inr h)
  | ii => exact .inr (.inr h)
  | bb => exact .inr (.inr h)
  | ss => exact .inr (.inr h)
  | pp => exact .inl ⟨_, _, rfl, h⟩
  | ll => exact .inr (.inr h)
  | mm => exact .inr (.inr h)
  | aa => exact .inr (.inr h)
  | tt => exact .inr (.inr h)
  | ff => exact .inr (.inr h)
  | cc => exact .inr (.inr h)
  | oo => exact .inr (.inl ⟨_, rfl, h⟩)
inductive WonIS where
  | nn (a0 : Nat)
  | ii (a0 : IntKind) (a1 : Int)
  | ss (a0 : Nat) (a1 : Nat)
  | no
noncomputable def wonIS (v : FV) : WonIS := FV.rec (motive_1 := fun _ => WonIS) (motive_2 := fun _ => WonIS) WonIS.nn WonIS.ii (fun _ => WonIS.no) WonIS.ss (fun _ _ => WonIS.no) (fun _ _ _ _ => WonIS.no) (fun _ => WonIS.no) (fun _ _ => WonIS.no) (fun _ _ => WonIS.no) (fun _ _ _ => WonIS.no) (fun _ _ _ => WonIS.no) (fun _ => WonIS.no) WonIS.no (fun _ _ _ _ => WonIS.no) v
noncomputable def onIS (knn : Nat → Bool) (kii : IntKind → Int → Bool) (kss : Nat → Nat → Bool) (z : Bool) (v : FV) : Bool := WonIS.rec (motive := fun _ => Bool) knn kii kss z (wonIS v)
theorem onIS_ok {knn : Nat → Bool} {kii : IntKind → Int → Bool} {kss : Nat → Nat → Bool} {z : Bool} {v : FV} (h : onIS knn kii kss z v = true) : (∃ a0, v = .nn a0 ∧ knn a0 = true) ∨ (∃ a0 a1, v = .ii a0 a1 ∧ kii a0 a1 = true) ∨ (∃ a0 a1, v = .ss a0 a1 ∧ kss a0 a1 = true) ∨ z = true := by
  cases v with
  | nn => exact .inl ⟨_, rfl, h⟩
  | ii => exact .inr (.inl ⟨_, _, rfl, h⟩)
  | bb => exact .inr (.inr (.inr h))
  | ss => exact .inr (.inr (.inl ⟨_, _, rfl, h⟩))
  | pp => exact .inr (.inr (.inr h))
  | ll => exact .inr (.inr (.inr h))
  | mm => exact .inr (.inr (.inr h))
  | aa => exact .inr (.inr (.inr h))
  | tt => exact .inr (.inr (.inr h))
  | ff => exact .inr (.inr (.inr h))
  | cc => exact .inr (.inr (.inr h))
  | oo => exact .inr (.inr (.inr h))
inductive WonO where
  | oo (a0 : Value)
  | no
noncomputable def wonO (v : FV) : WonO := FV.rec (motive_1 := fun _ => WonO) (motive_2 := fun _ => WonO) (fun _ => WonO.no) (fun _ _ => WonO.no) (fun _ => WonO.no) (fun _ _ => WonO.no) (fun _ _ => WonO.no) (fun _ _ _ _ => WonO.no) (fun _ => WonO.no) (fun _ _ => WonO.no) (fun _ _ => WonO.no) (fun _ _ _ => WonO.no) (fun _ _ _ => WonO.no) WonO.oo WonO.no (fun _ _ _ _ => WonO.no) v
noncomputable def onO (koo : Value → Bool) (z : Bool) (v : FV) : Bool := WonO.rec (motive := fun _ => Bool) koo z (wonO v)
theorem onO_ok {koo : Value → Bool} {z : Bool} {v : FV} (h : onO koo z v = true) : (∃ a0, v = .oo a0 ∧ koo a0 = true) ∨ z = true := by
  cases v with
  | nn => exact .inr h
  | ii => exact .inr h
  | bb => exact .inr h
  | ss => exact .inr h
  | pp => exact .inr h
  | ll => exact .inr h
  | mm => exact .inr h
  | aa => exact .inr h
  | tt => exact .inr h
  | ff => exact .inr h
  | cc => exact .inr h
  | oo => exact .inl ⟨_, rfl, h⟩
inductive WonLS where
  | ll (a0 : Nat) (a1 : Nat) (a2 : Nat) (a3 : Nat)
  | oo (a0 : Value)
  | ss (a0 : Nat) (a1 : Nat)
  | no
noncomputable def wonLS (v : FV) : WonLS := FV.rec (motive_1 := fun _ => WonLS) (motive_2 := fun _ => WonLS) (fun _ => WonLS.no) (fun _ _ => WonLS.no) (fun _ => WonLS.no) WonLS.ss (fun _ _ => WonLS.no) WonLS.ll (fun _ => WonLS.no) (fun _ _ => WonLS.no) (fun _ _ => WonLS.no) (fun _ _ _ => WonLS.no) (fun _ _ _ => WonLS.no) WonLS.oo WonLS.no (fun _ _ _ _ => WonLS.no) v
noncomputable def onLS (kll : Nat → Nat → Nat → Nat → Bool) (koo : Value → Bool) (kss : Nat → Nat → Bool) (z : Bool) (v : FV) : Bool := WonLS.rec (motive := fun _ => Bool) kll koo kss z (wonLS v)
theorem onLS_ok {kll : Nat → Nat → Nat → Nat → Bool} {koo : Value → Bool} {kss : Nat → Nat → Bool} {z : Bool} {v : FV} (h : onLS kll koo kss z v = true) : (∃ a0 a1 a2 a3, v = .ll a0 a1 a2 a3 ∧ kll a0 a1 a2 a3 = true) ∨ (∃ a0, v = .oo a0 ∧ koo a0 = true) ∨ (∃ a0 a1, v = .ss a0 a1 ∧ kss a0 a1 = true) ∨ z = true := by
  cases v with
  | nn => exact .inr (.inr (.inr h))
  | ii => exact .inr (.inr (.inr h))
  | bb => exact .inr (.inr (.inr h))
  | ss => exact .inr (.inr (.inl ⟨_, _, rfl, h⟩))
  | pp => exact .inr (.inr (.inr h))
  | ll => exact .inl ⟨_, _, _, _, rfl, h⟩
  | mm => exact .inr (.inr (.inr h))
  | aa => exact .inr (.inr (.inr h))
  | tt => exact .inr (.inr (.inr h))
  | ff => exact .inr (.inr (.inr h))
  | cc => exact .inr (.inr (.inr h))
  | oo => exact .inr (.inl ⟨_, rfl, h⟩)
end Go.Proofs.YtenolmhnmcjndaaGreatDoor.Ev
namespace Go.Proofs.YtenolmhnmcjndaaGreatDoor.Ev
set_option linter.unusedVariables false
set_option linter.unusedSimpArgs false
open Go

abbrev CallT := Nat → List FV → (FV → FH → Bool) → FH → Bool
structure BodyK (E : Type) where
  run : CallT → (FV → FH → Bool) → E → FH → Bool
def CallR (call : CallT) (ca : CallA) : Prop := ∀ f args k F H, HR F H → call f args k F = true → ∃ v F' H', ca f (FV.vals args) H = some (FV.val v, H') ∧ HR F' H' ∧ k v F' = true

section
variable {E : Type} {I : EnvI E} {n : Nat} {P : Program}
structure REv (I : EnvI E) (n : Nat) (t : E) (e : List Value) : Prop where
  len : e.length = n
  le : n ≤ I.size
  at_ : ∀ i, i < n → e[i]? = some (I.at_ t i).val

noncomputable def opdS (I : EnvI E) (n : Nat) (x : Operand) : GetK E :=
  match x with
  | .tmp i => Bool.rec (motive := fun _ => GetK E) ⟨fun _ => undefF⟩ (I.sg i) (Nat.blt i n)
  | .const v => Bool.rec (motive := fun _ => GetK E) ⟨fun _ => .oo junk⟩ (convR ⟨fun _ => .oo v⟩ (fun f => ⟨fun _ => f⟩) v) (flatB v)
  | .global _ => ⟨fun _ => .oo junk⟩
  | .func f => ⟨fun _ => .ff f []⟩
theorem opdS_ok {t : E} {e : List Value} (h : REv I n t e) (x : Operand) : ((opdS I n x).run t).val = rho e x := by
  cases x with
  | tmp i =>
    show ((Bool.rec (motive := fun _ => GetK E) ⟨fun _ => undefF⟩ (I.sg i) (Nat.blt i n) : GetK E).run t).val = e.getD i undef
    by_cases hi : i < n
    · rw [show Nat.blt i n = true by simpa using hi]
      show ((I.sg i).run t).val = _
      rw [I.g_ok i (Nat.lt_of_lt_of_le hi h.le), List.getD_eq_getElem?_getD, h.at_ i hi]; rfl
    · rw [show Nat.blt i n = false from Bool.eq_false_iff.2 (by simpa using hi), List.getD_eq_getElem?_getD, List.getElem?_eq_none (by rw [h.len]; exact Nat.le_of_not_lt hi)]; rfl
  | const v =>
    show ((Bool.rec (motive := fun _ => GetK E) ⟨fun _ => .oo junk⟩ (convR ⟨fun _ => .oo v⟩ (fun f => ⟨fun _ => f⟩) v) (flatB v) : GetK E).run t).val = (bif flatB v then v else junk)
    cases hv : flatB v with
    | false => rfl
    | true =>
      show ((convR ⟨fun _ => .oo v⟩ (fun f => ⟨fun _ => f⟩) v : GetK E).run t).val = v
      rcases convR_ok (⟨fun _ => .oo v⟩ : GetK E) (fun f => ⟨fun _ => f⟩) v with h2 | ⟨f, h1, h2⟩
      · rw [h2]; rfl
      · rw [h2]; exact h1
  | «global» g => rfl
  | func f => rfl
noncomputable def rhoV (I : EnvI E) (n : Nat) (t : E) (x : Operand) : Value := ((opdS I n x).run t).val
theorem rhoV_eq {t : E} {e : List Value} (h : REv I n t e) : rhoV I n t = rho e := funext fun x => opdS_ok h x

noncomputable def putS (I : EnvI E) (n : Nat) (d : Option Tmp) : PutK E :=
  match d with
  | none => ⟨fun k _ t => k t⟩
  | some d => Bool.rec (motive := fun _ => PutK E) ⟨fun k _ t => k t⟩ (I.sp d) (Nat.blt d n)
theorem putS_ok {t : E} {e : List Value} (h : REv I n t e) {d : Option Tmp} {k : E → Bool} {v : FV} (hk : (putS I n d).run k v t = true) : ∃ t', k t' = true ∧ REv I n t' (putE e d v.val) := by
  cases d with
  | none => exact ⟨t, hk, h⟩
  | some d =>
    have hk : (Bool.rec (motive := fun _ => PutK E) ⟨fun k _ t => k t⟩ (I.sp d) (Nat.blt d n) : PutK E).run k v t = true := hk
    by_cases hd : d < n
    · rw [show Nat.blt d n = true by simpa using hd] at hk
      obtain ⟨t', h1, h2⟩ := I.p_ok d (Nat.lt_of_lt_of_le hd h.le) k v t hk
      refine ⟨t', h1, by simp [putE, h.len], h.le, fun i hi => ?_⟩
      rw [h2 i (Nat.lt_of_lt_of_le hi h.le)]
      show (e.set d v.val)[i]? = _
      rw [List.getElem?_set]
      split
      · rename_i e1; subst e1; rw [if_pos rfl, if_pos (by rw [h.len]; exact hi)]
      · rename_i e1; rw [if_neg (fun e2 => e1 e2.symm)]; exact h.at_ i hi
    · rw [show Nat.blt d n = false from Bool.eq_false_iff.2 (by simpa using hd)] at hk
      refine ⟨t, hk, ?_⟩
      show REv I n t (e.set d v.val)
      rw [List.set_eq_of_length_le (by rw [h.len]; exact Nat.le_of_not_lt hd)]
      exact h

/-- What a body promises. -/
def BodyOk (I : EnvI E) (n : Nat) (P : Program) (o : Oper) (b : BodyK E) : Prop :=
  ∀ call ca t e F H k, CallR call ca → REv I n t e → HR F H → b.run call k t F = true → ∃ v F' H', evOp P ca o (rho e) H = some (FV.val v, H') ∧ HR F' H' ∧ k v F' = true
def BodyFlat (I : EnvI E) (n : Nat) (P : Program) (o : Oper) (b : BodyK E) : Prop :=
  ∀ call t e F k, REv I n t e → b.run call k t F = true → ∃ v : FV, (∀ ca H, HR F H → evOp P ca o (rho e) H = some (v.val, H)) ∧ k v F = true
theorem BodyFlat.ok {o : Oper} {b : BodyK E} (h : BodyFlat I n P o b) : BodyOk I n P o b := fun call ca t e F H k _ ht hr hb => by
  obtain ⟨v, h1, h2⟩ := h call t e F k ht hb
  exact ⟨v, F, H, h1 ca H hr, hr, h2⟩

/-! ### By hand of the model -/
noncomputable def optK (k : FV → Bool) (x : Option Value) : Bool := Option.rec (motive := fun _ => Bool) false (fun v => convK k v) x
theorem optK_ok {k : FV → Bool} {x : Option Value} (h : optK k x = true) : ∃ f : FV, x = some f.val ∧ k f = true := by
  cases x with
  | none => cases h
  | some v => obtain ⟨f, rfl, h2⟩ := convK_ok h; exact ⟨f, rfl, h2⟩
noncomputable def flatK (I : EnvI E) (n : Nat) (P : Program) (o : Oper) (k : FV → Bool) (t : E) : Bool := optK k (flatOp P o (rhoV I n t))
theorem flatK_ok {o : Oper} {k : FV → Bool} {t : E} {e : List Value} (h : REv I n t e) (hk : flatK I n P o k t = true) : ∃ f : FV, flatOp P o (rho e) = some f.val ∧ k f = true := by
  unfold flatK at hk
  rw [rhoV_eq h] at hk
  exact optK_ok hk

/-! ### Numbers -/
noncomputable def bK (k : FV → Bool) (b : Bool) : Bool := Bool.rec (motive := fun _ => Bool) (k (.bb false)) (k (.bb true)) b
theorem bK_eq (k : FV → Bool) (b : Bool) : bK k b = k (.bb b) := by cases b <;> rfl
abbrev NN := (FV → Bool) → Bool → Nat → Nat → Bool
noncomputable def nnK (k : FV → Bool) (z : Bool) (s : Nat) : Bool := iteK z (k (.nn s)) (Nat.ble s 9223372036854775807)
noncomputable def nnAdd : NN := fun k z a b => natK (nnK k z) (Nat.add a b)
noncomputable def nnMul : NN := fun k z a b => natK (nnK k z) (Nat.mul a b)
noncomputable def nnNg (k : FV → Bool) (z : Bool) (d : Nat) : Bool := iteK z (k (.ii .i64 (.negSucc d))) (Nat.ble d 9223372036854775807)
noncomputable def nnSub : NN := fun k z a b => iteK (natK (nnNg k z) (Nat.pred (Nat.sub b a))) (natK (nnK k z) (Nat.sub a b)) (Nat.ble b a)
noncomputable def nnLt : NN := fun k z a b => bK k (Nat.ble (Nat.succ a) b)
noncomputable def nnLe : NN := fun k z a b => bK k (Nat.ble a b)
noncomputable def nnGt : NN := fun k z a b => bK k (Nat.ble (Nat.succ b) a)
noncomputable def nnGe : NN := fun k z a b => bK k (Nat.ble b a)
noncomputable def nnEq : NN := fun k z a b => bK k (Nat.beq a b)
noncomputable def nnNe : NN := fun k z a b => Bool.rec (motive := fun _ => Bool) (k (.bb true)) (k (.bb false)) (Nat.beq a b)
noncomputable def nnNo : NN := fun k z a b => z
structure NNK where
  run : NN
noncomputable def nnS (op : BinOp) : NNK :=
  match op with
  | .add => ⟨fun k z a b => natK (nnK k z) (Nat.add a b)⟩
  | .sub => ⟨nnSub⟩
  | .mul => ⟨nnMul⟩
  | .eql => ⟨nnEq⟩
  | .neq => ⟨nnNe⟩
  | .lss => ⟨nnLt⟩
  | .leq => ⟨nnLe⟩
  | .gtr => ⟨nnGt⟩
  | .geq => ⟨nnGe⟩
  | _ => ⟨nnNo⟩
theorem nnK_ok {k : FV → Bool} {z : Bool} {s : Nat} {a : Int} (ha : a = (s : Int)) (h : nnK k z s = true) : (∃ v : FV, Value.int .i64 (IntKind.i64.wrap a) = v.val ∧ k v = true) ∨ z = true := by
  subst ha
  rcases iteK_ok h with ⟨_, h1⟩ | ⟨h1, h2⟩
  · exact .inr h1
  · have h1 := Nat.le_of_ble_eq_true h1
    exact .inl ⟨_, by rw [wrap_id (by omega)]; rfl, h2⟩
theorem nnS_ok {op : BinOp} {k : FV → Bool} {z : Bool} {a b : Nat} (h : (nnS op).run k z a b = true) : (∃ v : FV, Ev.binI op .i64 (a : Int) (b : Int) = some v.val ∧ k v = true) ∨ z = true := by
  have cmp : ∀ {q : Prop} [Decidable q] {c : Bool}, c = decide q → bK k c = true → (∃ v : FV, some (Value.bool (decide q)) = some v.val ∧ k v = true) ∨ z = true := fun {q} _ {c} hc hk => by
    rw [bK_eq, hc] at hk
    exact .inl ⟨_, rfl, hk⟩
  cases op with
  | add =>
    have h : natK (nnK k z) (Nat.add a b) = true := h
    rw [natK_eq] at h
    rcases nnK_ok (a := (a : Int) + b) (by simp) h with ⟨v, h1, h2⟩ | h
    · exact .inl ⟨v, congrArg some h1, h2⟩
    · exact .inr h
  | mul =>
    have h : natK (nnK k z) (Nat.mul a b) = true := h
    rw [natK_eq] at h
    rcases nnK_ok (a := (a : Int) * b) (by simp) h with ⟨v, h1, h2⟩ | h
    · exact .inl ⟨v, congrArg some h1, h2⟩
    · exact .inr h
  | sub =>
    have h : iteK (natK (nnNg k z) (Nat.pred (Nat.sub b a))) (natK (nnK k z) (Nat.sub a b)) (Nat.ble b a) = true := h
    rcases iteK_ok h with ⟨h1, h2⟩ | ⟨h1, h2⟩
    · have h1 : a < b := Nat.lt_of_not_le fun hle => by rw [Nat.ble_eq_true_of_le hle] at h1; cases h1
      rw [natK_eq] at h2
      rcases iteK_ok h2 with ⟨_, h3⟩ | ⟨h3, h4⟩
      · exact .inr h3
      · have h3 := Nat.le_of_ble_eq_true h3
        have e : Nat.pred (Nat.sub b a) = b - a - 1 := rfl
        rw [e] at h3 h4
        refine .inl ⟨_, ?_, h4⟩
        show some (Value.int .i64 (IntKind.i64.wrap ((a : Int) - b))) = some (Value.int .i64 (Int.negSucc (b - a - 1)))
        rw [wrap_id (by omega)]
        congr 2
        omega
    · have h1 := Nat.le_of_ble_eq_true h1
      rw [natK_eq] at h2
      rcases nnK_ok (a := (a : Int) - b) (by have : Nat.sub a b = a - b := rfl; omega) h2 with ⟨v, h1, h2⟩ | h
      · exact .inl ⟨v, congrArg some h1, h2⟩
      · exact .inr h
  | eql => exact cmp (by rw [Bool.eq_iff_iff]; simp; omega) h
  | neq =>
    have h : Bool.rec (motive := fun _ => Bool) (k (.bb true)) (k (.bb false)) (Nat.beq a b) = true := h
    cases hb : Nat.beq a b with
    | true =>
      rw [hb] at h
      refine .inl ⟨.bb false, ?_, h⟩
      have := Nat.eq_of_beq_eq_true hb
      simp [Ev.binI, this, FV.val]
    | false =>
      rw [hb] at h
      refine .inl ⟨.bb true, ?_, h⟩
      have : a ≠ b := fun e => by rw [e, Nat.beq_refl] at hb; cases hb
      simp only [Ev.binI, FV.val]
      congr 2
      simp
      omega
  | lss => exact cmp (by rw [Bool.eq_iff_iff]; simp; omega) h
  | leq => exact cmp (by rw [Bool.eq_iff_iff]; simp) h
  | gtr => exact cmp (by rw [Bool.eq_iff_iff]; simp; omega) h
  | geq => exact cmp (by rw [Bool.eq_iff_iff]; simp) h
  | _ => exact .inr h
/-- Numbers of other kinds: what is compared is compared at once where both are no less than 0. -/
abbrev II := (FV → Bool) → Bool → IntKind → Int → Int → Bool
noncomputable def iiSlow (op : BinOp) : II := fun k z kd a b => Option.rec (motive := fun _ => Bool) z (fun v => convK k v) (Ev.binI op kd a b)
noncomputable def iiC2 (f : NN) (k : FV → Bool) (z s : Bool) (b : Int) (m : Nat) : Bool := Int.rec (motive := fun _ => Bool) (fun n => f k z m n) (fun _ => s) b
noncomputable def iiC (op : BinOp) (f : NN) : II := fun k z kd a b => Int.rec (motive := fun _ => Bool) (iiC2 f k z (iiSlow op k z kd a b) b) (fun _ => iiSlow op k z kd a b) a
structure IIK where
  run : II
noncomputable def iiS (op : BinOp) : IIK :=
  match op with
  | .eql => ⟨iiC .eql nnEq⟩
  | .neq => ⟨iiC .neq nnNe⟩
  | .lss => ⟨iiC .lss nnLt⟩
  | .leq => ⟨iiC .leq nnLe⟩
  | .gtr => ⟨iiC .gtr nnGt⟩
  | .geq => ⟨iiC .geq nnGe⟩
  | op => ⟨iiSlow op⟩
theorem iiSlow_ok {op : BinOp} {k : FV → Bool} {z : Bool} {kd : IntKind} {a b : Int} (h : iiSlow op k z kd a b = true) : (∃ v : FV, Ev.binI op kd a b = some v.val ∧ k v = true) ∨ z = true := by
  unfold iiSlow at h
  cases hb : Ev.binI op kd a b with
  | none => rw [hb] at h; exact .inr h
  | some v =>
    rw [hb] at h
    obtain ⟨f, rfl, h2⟩ := convK_ok h
    exact .inl ⟨f, rfl, h2⟩
theorem iiC_ok {op : BinOp} {f : NN} {k : FV → Bool} {z : Bool} {kd : IntKind} {a b : Int} (hf : f = (nnS op).run) (hk : ∀ a b, Ev.binI op kd a b = Ev.binI op .i64 a b) (h : iiC op f k z kd a b = true) : (∃ v : FV, Ev.binI op kd a b = some v.val ∧ k v = true) ∨ z = true := by
  unfold iiC at h
  cases a with
  | negSucc m => exact iiSlow_ok h
  | ofNat m =>
    cases b with
    | negSucc n => exact iiSlow_ok h
    | ofNat n =>
      have h : f k z m n = true := h
      rw [hf] at h
      rw [hk]
      exact nnS_ok h
theorem iiS_ok {op : BinOp} {k : FV → Bool} {z : Bool} {kd : IntKind} {a b : Int} (h : (iiS op).run k z kd a b = true) : (∃ v : FV, Ev.binI op kd a b = some v.val ∧ k v = true) ∨ z = true := by
  cases op with
  | eql => exact iiC_ok (op := .eql) rfl (fun _ _ => rfl) h
  | neq => exact iiC_ok (op := .neq) rfl (fun _ _ => rfl) h
  | lss => exact iiC_ok (op := .lss) rfl (fun _ _ => rfl) h
  | leq => exact iiC_ok (op := .leq) rfl (fun _ _ => rfl) h
  | gtr => exact iiC_ok (op := .gtr) rfl (fun _ _ => rfl) h
  | geq => exact iiC_ok (op := .geq) rfl (fun _ _ => rfl) h
  | _ => exact iiSlow_ok h

/-! ### Strings -/
abbrev SS := (FV → Bool) → Bool → Nat → Nat → Nat → Nat → Bool
noncomputable def maskN (n x : Nat) : Nat := Nat.mod x (Nat.pow 2 (Nat.mul 8 n))
noncomputable def ssEqB (n x m y : Nat) : Bool := Bool.rec (motive := fun _ => Bool) false (Nat.beq (maskN n x) (maskN m y)) (Nat.beq n m)
theorem bytesA_inj {n x m y : Nat} : bytesA n x = bytesA m y ↔ n = m ∧ x % 2 ^ (8 * n) = y % 2 ^ (8 * m) := by
  constructor
  · intro h
    have h1 : bytesL n x = bytesL m y := by
      have := congrArg (fun b : ByteArray => b.data.toList) h
      simpa [bytesA] using this
    have h2 : n = m := by have := congrArg List.length h1; simpa [bytesL_len] using this
    subst h2
    exact ⟨rfl, bytesL_inj _ _ _ h1⟩
  · rintro ⟨rfl, h⟩
    unfold bytesA
    rw [← bytesL_mod n x, ← bytesL_mod n y, h]
theorem ssEqB_eq (n x m y : Nat) : ssEqB n x m y = decide (bytesA n x = bytesA m y) := by
  unfold ssEqB
  by_cases h : n = m
  · subst h
    rw [Nat.beq_refl]
    show Nat.beq (maskN n x) (maskN n y) = _
    rw [Bool.eq_iff_iff, decide_eq_true_iff, bytesA_inj]
    constructor
    · intro h; exact ⟨rfl, Nat.eq_of_beq_eq_true h⟩
    · rintro ⟨_, h⟩
      have e : maskN n x = maskN n y := h
      rw [e]; exact Nat.beq_refl _
  · rw [show Nat.beq n m = false from Bool.eq_false_iff.2 fun e => h (Nat.eq_of_beq_eq_true e)]
    show false = _
    symm
    rw [decide_eq_false_iff_not, bytesA_inj]
    exact fun e => h e.1
noncomputable def ssEq : SS := fun k z n x m y => bK k (ssEqB n x m y)
noncomputable def ssNe : SS := fun k z n x m y => Bool.rec (motive := fun _ => Bool) (k (.bb true)) (k (.bb false)) (ssEqB n x m y)
noncomputable def ssAdd2 (k : FV → Bool) (z : Bool) (x : Nat) (s : Nat) : Bool := iteK z (natK (fun x => k (.ss s x)) x) (Nat.ble s 9223372036854775807)
noncomputable def catN (n x y : Nat) : Nat := Nat.add (maskN n x) (Nat.shiftLeft y (Nat.mul 8 n))
noncomputable def ssAdd : SS := fun k z n x m y => natK (ssAdd2 k z (catN n x y)) (Nat.add n m)
noncomputable def ssNo : SS := fun k z n x m y => z
theorem cat_ok (n x m y : Nat) : bytesA n x ++ bytesA m y = bytesA (n + m) (catN n x y) := by
  have h : bytesL (n + m) (catN n x y) = bytesL n x ++ bytesL m y := bytesL_app m y n x
  apply ByteArray.ext
  rw [ByteArray.data_append]
  apply Array.ext'
  simp [bytesA, h]
structure SSK where
  run : SS
noncomputable def ssS (op : BinOp) : SSK :=
  match op with
  | .eql => ⟨ssEq⟩
  | .neq => ⟨ssNe⟩
  | .add => ⟨ssAdd⟩
  | _ => ⟨ssNo⟩
theorem bytesA_size (n x : Nat) : (bytesA n x).size = n := by
  show (bytesL n x).toArray.size = n
  simp [bytesL_len]
theorem ssS_ok {op : BinOp} {k : FV → Bool} {z : Bool} {n x m y : Nat} (h : (ssS op).run k z n x m y = true) : (∃ v : FV, Ev.binSF op (bytesA n x) (bytesA m y) = some v.val ∧ k v = true) ∨ z = true := by
  cases op with
  | eql =>
    have h : bK k (ssEqB n x m y) = true := h
    rw [bK_eq] at h
    exact .inl ⟨_, by simp only [binSF, eqBytes_str, FV.val, ssEqB_eq], h⟩
  | neq =>
    have h : Bool.rec (motive := fun _ => Bool) (k (.bb true)) (k (.bb false)) (ssEqB n x m y) = true := h
    have e := ssEqB_eq n x m y
    cases hb : ssEqB n x m y with
    | true => rw [hb] at h e; exact .inl ⟨.bb false, by simp only [binSF, eqBytes_str, FV.val, ← e]; rfl, h⟩
    | false => rw [hb] at h e; exact .inl ⟨.bb true, by simp only [binSF, eqBytes_str, FV.val, ← e]; rfl, h⟩
  | add =>
    have h : natK (ssAdd2 k z (catN n x y)) (Nat.add n m) = true := h
    rw [natK_eq] at h
    rcases iteK_ok h with ⟨_, h1⟩ | ⟨h1, h2⟩
    · exact .inr h1
    · have h1 := Nat.le_of_ble_eq_true h1
      rw [natK_eq] at h2
      refine .inl ⟨_, ?_, h2⟩
      have hl : (bytesA n x).data.toList.length + (bytesA m y).data.toList.length ≤ 9223372036854775807 := by
        simpa [bytesA, bytesL_len] using h1
      unfold binSF
      simp only [if_pos hl, FV.val]
      congr 2
      show _ = bytesA (n + m) (catN n x y)
      rw [← cat_ok]
      apply ByteArray.ext
      rw [ByteArray.data_append]
      apply Array.ext'
      simp
  | _ => exact .inr h

/-! ### Two operands -/
noncomputable def b2i (ii : II) (k : FV → Bool) (z : Bool) (kd : IntKind) (a : Int) (kd' : IntKind) (b : Int) : Bool := iteK z (ii k z kd a b) (decide (kd = kd'))
noncomputable def b1n (nn : NN) (k : FV → Bool) (z : Bool) (y : FV) (a : Nat) : Bool := onN (nn k z a) z y
noncomputable def b1i (ii : II) (k : FV → Bool) (z : Bool) (y : FV) (kd : IntKind) (a : Int) : Bool := onInt (fun _ => z) (b2i ii k z kd a) z y
noncomputable def b1s (ss : SS) (k : FV → Bool) (z : Bool) (y : FV) (n x : Nat) : Bool := onS (ss k z n x) z y
noncomputable def binF (nn : NN) (ii : II) (ss : SS) (k : FV → Bool) (z : Bool) (y x : FV) : Bool := onIS (b1n nn k z y) (b1i ii k z y) (b1s ss k z y) z x
theorem binF_ok {op : BinOp} {k : FV → Bool} {z : Bool} {x y : FV} (h : binF (nnS op).run (iiS op).run (ssS op).run k z y x = true) : (∃ v : FV, fastBin op x.val y.val = some v.val ∧ k v = true) ∨ z = true := by
  rcases onIS_ok h with ⟨a, rfl, h⟩ | ⟨kd, a, rfl, h⟩ | ⟨n, a, rfl, h⟩ | h
  · rcases onN_ok h with ⟨b, rfl, h⟩ | h
    · rcases nnS_ok h with ⟨v, h1, h2⟩ | h
      · exact .inl ⟨v, by simp only [fastBin, FV.val]; exact h1, h2⟩
      · exact .inr h
    · exact .inr h
  · rcases onInt_ok h with ⟨b, rfl, h⟩ | ⟨kd', b, rfl, h⟩ | h
    · exact .inr h
    · rcases iteK_ok h with ⟨_, h9⟩ | ⟨hk, h9⟩
      · exact .inr h9
      · have hk : kd = kd' := of_decide_eq_true hk
        subst hk
        rcases iiS_ok h9 with ⟨v, h1, h2⟩ | h
        · exact .inl ⟨v, by simp only [fastBin, FV.val, if_pos rfl]; exact h1, h2⟩
        · exact .inr h
    · exact .inr h
  · rcases onS_ok h with ⟨m, b, rfl, h⟩ | h
    · rcases ssS_ok h with ⟨v, h1, h2⟩ | h
      · exact .inl ⟨v, by simp only [fastBin, FV.val]; exact h1, h2⟩
      · exact .inr h
    · exact .inr h
  · exact .inr h
/-- What is no pointer is held against another without the heap. -/
def ptrB : Value → Bool
  | .pointer (some _) => true
  | _ => false
theorem eqA_any {t : TypeId} {x y : Value} (h : ptrB x = false ∨ ptrB y = false) (H H' : AH) : eqA P H t x y = eqA P H' t x y := by
  unfold eqA
  split <;> first | rfl | (rcases h with h | h <;> cases h)
noncomputable def eqlK (k : FV → Bool) (neg : Bool) (z : Bool) (x : Option Bool) : Bool := Option.rec (motive := fun _ => Bool) z (fun b => Bool.rec (motive := fun _ => Bool) (k (.bb neg)) (k (.bb (!neg))) b) x
noncomputable def eqSlow (I : EnvI E) (n : Nat) (P : Program) (o : Oper) (t : TypeId) (neg : Bool) (k : FV → Bool) (x y : FV) (e : E) : Bool :=
  Bool.rec (motive := fun _ => Bool) false (eqlK k neg (flatK I n P o k e) (eqA P AH.empty t x.val y.val)) (!(ptrB x.val) || !(ptrB y.val))
/-- A block of one's own, nothing of it frozen. -/
noncomputable def plO (k : Bool) (o : FObj) : Bool := FObj.rec (motive := fun _ => Bool) (fun _ _ _ lo hi => ifK (ifK k (Nat.beq hi 0)) (Nat.beq lo 0)) (fun _ _ _ lo hi => ifK (ifK k (Nat.beq hi 0)) (Nat.beq lo 0)) (fun _ _ _ => false) (fun _ _ => false) o
noncomputable def plF (k : Bool) (c : Nat) (t : Q FBlk) (_ _ : Nat) : Bool := Q.getK (fun fb => FBlk.rec (motive := fun _ => Bool) (fun o _ => plO k o) (fun _ _ _ _ _ => false) fb) t c
noncomputable def plK (k : Bool) (F : FH) (c : Nat) : Bool := FH.rec (motive := fun _ => Bool) (plF k c) F
theorem plK_ok {k : Bool} {F : FH} {c : Nat} (h : plK k F c = true) : k = true ∧ ∀ H, HR F H → H.plain c = true := by
  obtain ⟨t, nx, ck⟩ := F
  have h : Q.getK (fun fb => FBlk.rec (motive := fun _ => Bool) (fun o _ => plO k o) (fun _ _ _ _ _ => false) fb) t c = true := h
  obtain ⟨fb, h1, h2⟩ := Q.getK_ok h
  cases fb with
  | gg => cases h2
  | xx o ver =>
    have h2 : plO k o = true := h2
    have key : ∀ (lo hi : Nat), ifK (ifK k (Nat.beq hi 0)) (Nat.beq lo 0) = true → k = true ∧ lo = 0 ∧ hi = 0 := fun lo hi g => by
      obtain ⟨g1, g2⟩ := ifK_ok g
      obtain ⟨g3, g4⟩ := ifK_ok g2
      exact ⟨g4, Nat.eq_of_beq_eq_true g1, Nat.eq_of_beq_eq_true g3⟩
    have hk : k = true := by
      cases o with
      | cl n t e lo hi => exact (key lo hi h2).1
      | yy n x e lo hi => exact (key lo hi h2).1
      | it => cases h2
      | mp => cases h2
    refine ⟨hk, fun H hH => ?_⟩
    obtain ⟨b, hb, ho, _, he, _, hl, _⟩ := hH.xx h1
    unfold AH.plain
    rw [hb]
    simp only [hl, he]
    cases o with
    | cl n t e lo hi =>
      obtain ⟨_, rfl, rfl⟩ := key lo hi h2
      obtain ⟨C, ho, _⟩ := ho
      rw [ho]; rfl
    | yy n x e lo hi =>
      obtain ⟨_, rfl, rfl⟩ := key lo hi h2
      have ho : b.obj = .cells ((bytesL n x).map byteC).toArray e (0, 0) := ho
      rw [ho]; rfl
    | it => cases h2
    | mp => cases h2
noncomputable def eqPP (k : FV → Bool) (neg : Bool) (F : FH) (c o d q : Nat) : Bool :=
  plK (plK (Bool.rec (motive := fun _ => Bool) (k (.bb neg)) (k (.bb (!neg))) (Bool.and (Nat.beq c d) (Nat.beq o q))) F d) F c
/-- Pointers to what has a size may be held against one another. -/
def ptrT (P : Program) (t : TypeId) : Bool := match P.underlying t with
  | some (.pointer e) => !(Nat.beq (szT P e) 0)
  | _ => false
structure SlowK (E : Type) where
  run : (FV → Bool) → FV → FV → E → FH → Bool
noncomputable def eqSlowP (I : EnvI E) (n : Nat) (P : Program) (o : Oper) (t : TypeId) (neg : Bool) (k : FV → Bool) (x y : FV) (e : E) (F : FH) : Bool :=
  onP (fun c a => onP (fun d b => eqPP k neg F c a d b) (eqSlow I n P o t neg k x y e) y) (eqSlow I n P o t neg k x y e) x
noncomputable def slowS (I : EnvI E) (n : Nat) (P : Program) (o : Oper) (op : BinOp) (t : TypeId) : SlowK E :=
  match op with
  | .eql => match ptrT P t with
    | true => ⟨eqSlowP I n P o t false⟩
    | false => ⟨fun k x y e _ => eqSlow I n P o t false k x y e⟩
  | .neq => match ptrT P t with
    | true => ⟨eqSlowP I n P o t true⟩
    | false => ⟨fun k x y e _ => eqSlow I n P o t true k x y e⟩
  | _ => ⟨fun k x y e _ => flatK I n P o k e⟩
theorem eqSlow_ok {o : Oper} {t : TypeId} {neg : Bool} {k : FV → Bool} {x y : FV} {e : E} {en : List Value} (hr : REv I n e en) (h : eqSlow I n P o t neg k x y e = true) :
    ∃ v : FV, k v = true ∧ ∀ H, (∃ b, eqA P H t x.val y.val = some b ∧ v.val = .bool (if neg then !b else b)) ∨ (eqA P H t x.val y.val = none ∧ flatOp P o (rho en) = some v.val) := by
  unfold eqSlow at h
  cases hp : (!(ptrB x.val) || !(ptrB y.val)) with
  | false => rw [hp] at h; cases h
  | true =>
    rw [hp] at h
    have hp : ptrB x.val = false ∨ ptrB y.val = false := by simpa using hp
    have h : eqlK k neg (flatK I n P o k e) (eqA P AH.empty t x.val y.val) = true := h
    cases he : eqA P AH.empty t x.val y.val with
    | none =>
      rw [he] at h
      obtain ⟨v, h1, h2⟩ := flatK_ok hr h
      exact ⟨v, h2, fun H => .inr ⟨by rw [eqA_any hp H AH.empty, he], h1⟩⟩
    | some b =>
      rw [he] at h
      refine ⟨.bb (if neg then !b else b), ?_, fun H => .inl ⟨b, by rw [eqA_any hp H AH.empty, he], rfl⟩⟩
      cases b <;> cases neg <;> exact h
theorem eqSlowP_ok {o : Oper} {t : TypeId} {neg : Bool} {k : FV → Bool} {x y : FV} {e : E} {F : FH} {en : List Value} (hp : ptrT P t = true) (hr : REv I n e en) (h : eqSlowP I n P o t neg k x y e F = true) :
    ∃ v : FV, k v = true ∧ ∀ H, HR F H → (∃ b, eqA P H t x.val y.val = some b ∧ v.val = .bool (if neg then !b else b)) ∨ (eqA P H t x.val y.val = none ∧ flatOp P o (rho en) = some v.val) := by
  have slow : eqSlow I n P o t neg k x y e = true → ∃ v : FV, k v = true ∧ ∀ H, HR F H → (∃ b, eqA P H t x.val y.val = some b ∧ v.val = .bool (if neg then !b else b)) ∨ (eqA P H t x.val y.val = none ∧ flatOp P o (rho en) = some v.val) := fun h => by
    obtain ⟨v, h1, h2⟩ := eqSlow_ok hr h
    exact ⟨v, h1, fun H _ => h2 H⟩
  unfold ptrT at hp
  split at hp
  case h_2 => cases hp
  rename_i el hu
  have hz : szT P el ≠ 0 := fun e0 => by rw [e0] at hp; cases hp
  rcases onP_ok h with ⟨c, a, rfl, h1⟩ | h1
  · rcases onP_ok h1 with ⟨d, b, rfl, h2⟩ | h2
    · obtain ⟨h3, h4⟩ := plK_ok (show plK (plK _ F d) F c = true from h2)
      obtain ⟨h5, h6⟩ := plK_ok h3
      refine ⟨.bb (if neg then !(Nat.beq c d && Nat.beq a b) else (Nat.beq c d && Nat.beq a b)), ?_, fun H hH => .inl ⟨_, ?_, rfl⟩⟩
      · cases hb : (Nat.beq c d && Nat.beq a b) with
        | true =>
          have hb' : Bool.and (Nat.beq c d) (Nat.beq a b) = true := hb
          rw [hb'] at h5
          cases neg <;> exact h5
        | false =>
          have hb' : Bool.and (Nat.beq c d) (Nat.beq a b) = false := hb
          rw [hb'] at h5
          cases neg <;> exact h5
      · simp only [eqA, hu, FV.val]
        rw [if_pos ⟨hz, by trivial, by trivial, h4 H hH, h6 H hH⟩]
    · exact slow h2
  · exact slow h1
/-- Two operands. -/
noncomputable def bin2S (I : EnvI E) (n : Nat) (P : Program) (o : Oper) (op : BinOp) (t : TypeId) (x y : Operand) : BodyK E :=
  NNK.rec (motive := fun _ => BodyK E) (fun nn => IIK.rec (motive := fun _ => BodyK E) (fun ii => SSK.rec (motive := fun _ => BodyK E) (fun ss => SlowK.rec (motive := fun _ => BodyK E) (fun sl =>
    GetK.rec (motive := fun _ => BodyK E) (fun gx => GetK.rec (motive := fun _ => BodyK E) (fun gy => ⟨fun _ k t F => binF nn ii ss (fun v => k v F) (sl (fun v => k v F) (gx t) (gy t) t F) (gy t) (gx t)⟩) (opdS I n y)) (opdS I n x)) (slowS I n P o op t)) (ssS op)) (iiS op)) (nnS op)
theorem bin2S_ok {o : Oper} {op : BinOp} {t t' : TypeId} {x y : Operand} (ho : o.op = .binOp op t x y t') : BodyFlat I n P o (bin2S I n P o op t x y) := fun call e en F k hr h => by
  have h : binF (nnS op).run (iiS op).run (ssS op).run (fun v => k v F) ((slowS I n P o op t).run (fun v => k v F) ((opdS I n x).run e) ((opdS I n y).run e) e F) ((opdS I n y).run e) ((opdS I n x).run e) = true := h
  rcases binF_ok h with ⟨v, h1, h2⟩ | h
  · rw [opdS_ok hr, opdS_ok hr] at h1
    exact ⟨v, fun ca H _ => ev_bin ho h1, h2⟩
  · cases op with
    | eql =>
      have h0 : ∃ v : FV, k v F = true ∧ ∀ H, HR F H → (∃ b, eqA P H t ((opdS I n x).run e).val ((opdS I n y).run e).val = some b ∧ v.val = .bool (if false then !b else b)) ∨ (eqA P H t ((opdS I n x).run e).val ((opdS I n y).run e).val = none ∧ flatOp P o (rho en) = some v.val) := by
        unfold slowS at h
        simp only at h
        split at h
        · rename_i hp; exact eqSlowP_ok (k := fun v => k v F) hp hr h
        · obtain ⟨v, h1, h2⟩ := eqSlow_ok (k := fun v => k v F) hr h
          exact ⟨v, h1, fun H _ => h2 H⟩
      obtain ⟨v, h1, h2⟩ := h0
      refine ⟨v, fun ca H hH => ?_, h1⟩
      have := h2 H hH
      rw [opdS_ok hr, opdS_ok hr] at this
      unfold evOp
      simp only [ho]
      rcases this with ⟨b, h3, h4⟩ | ⟨h3, h4⟩
      · rw [h3, h4]; rfl
      · rw [h3, h4]; rfl
    | neq =>
      have h0 : ∃ v : FV, k v F = true ∧ ∀ H, HR F H → (∃ b, eqA P H t ((opdS I n x).run e).val ((opdS I n y).run e).val = some b ∧ v.val = .bool (if true then !b else b)) ∨ (eqA P H t ((opdS I n x).run e).val ((opdS I n y).run e).val = none ∧ flatOp P o (rho en) = some v.val) := by
        unfold slowS at h
        simp only at h
        split at h
        · rename_i hp; exact eqSlowP_ok (k := fun v => k v F) hp hr h
        · obtain ⟨v, h1, h2⟩ := eqSlow_ok (k := fun v => k v F) hr h
          exact ⟨v, h1, fun H _ => h2 H⟩
      obtain ⟨v, h1, h2⟩ := h0
      refine ⟨v, fun ca H hH => ?_, h1⟩
      have := h2 H hH
      rw [opdS_ok hr, opdS_ok hr] at this
      unfold evOp
      simp only [ho]
      rcases this with ⟨b, h3, h4⟩ | ⟨h3, h4⟩
      · rw [h3, h4]; rfl
      · rw [h3, h4]; rfl
    | _ =>
      obtain ⟨v, h1, h2⟩ := flatK_ok hr h
      refine ⟨v, fun ca H _ => ?_, h2⟩
      unfold evOp
      simp only [ho]
      rw [h1]; rfl

/-! ### Moves, choices, parts -/
noncomputable def moveS (I : EnvI E) (n : Nat) (x : Operand) : BodyK E := GetK.rec (motive := fun _ => BodyK E) (fun gx => ⟨fun _ k t F => k (gx t) F⟩) (opdS I n x)
theorem moveS_run (x : Operand) (call : CallT) (k : FV → FH → Bool) (t : E) (F : FH) : (moveS I n x).run call k t F = k ((opdS I n x).run t) F := rfl
theorem moveS_ok {o : Oper} {x : Operand} (ho : o.op = .move x ∨ o.op = .assign x) : BodyFlat I n P o (moveS I n x) := fun call e en F k hr h => by
  rw [moveS_run] at h
  refine ⟨_, fun ca H _ => ?_, h⟩
  unfold evOp
  rcases ho with ho | ho <;> simp only [ho, opdS_ok hr]
noncomputable def pickS (I : EnvI E) (n : Nat) (c a b : Operand) : BodyK E :=
  GetK.rec (motive := fun _ => BodyK E) (fun gc => GetK.rec (motive := fun _ => BodyK E) (fun ga => GetK.rec (motive := fun _ => BodyK E) (fun gb => ⟨fun _ k t F => onB (iteK (k (gb t) F) (k (ga t) F)) false (gc t)⟩) (opdS I n b)) (opdS I n a)) (opdS I n c)
theorem pickS_ok {o : Oper} {c a b : Operand} (ho : o.op = .pick c a b) : BodyFlat I n P o (pickS I n c a b) := fun call e en F k hr h => by
  have h : onB (iteK (k ((opdS I n b).run e) F) (k ((opdS I n a).run e) F)) false ((opdS I n c).run e) = true := h
  rcases onB_ok h with ⟨bc, hb, h⟩ | h
  · have hc : rho en c = .bool bc := by rw [← opdS_ok hr, hb]; rfl
    rcases iteK_ok h with ⟨rfl, h⟩ | ⟨rfl, h⟩
    · refine ⟨_, fun ca H _ => ?_, h⟩
      unfold evOp
      simp only [ho, hc, opdS_ok hr]
    · refine ⟨_, fun ca H _ => ?_, h⟩
      unfold evOp
      simp only [ho, hc, opdS_ok hr]
  · cases h
/-- One of a list. -/
noncomputable def nthL (k : FV → Bool) (l : List FV) : Nat → Bool := List.rec (motive := fun _ => Nat → Bool) (fun _ => false) (fun x _ ih i => Nat.rec (motive := fun _ => Bool) (k x) (fun j _ => ih j) i) l
theorem nthL_ok {k : FV → Bool} : ∀ {l : List FV} {i : Nat}, nthL k l i = true → ∃ f, l[i]? = some f ∧ k f = true
  | [], i, h => by cases h
  | x :: r, 0, h => ⟨x, rfl, h⟩
  | x :: r, i + 1, h => by
    obtain ⟨f, h1, h2⟩ := nthL_ok (l := r) (i := i) h
    exact ⟨f, by simpa using h1, h2⟩
theorem vals_get {l : List FV} {i : Nat} {f : FV} (h : l[i]? = some f) : (FV.vals l)[i]? = some f.val := by rw [FV.vals_eq, List.getElem?_map, h]; rfl
noncomputable def extrS (I : EnvI E) (n : Nat) (x : Operand) (ix : Nat) : BodyK E := GetK.rec (motive := fun _ => BodyK E) (fun gx => ⟨fun _ k t F => onT (fun l => nthL (fun v => k v F) l ix) false (gx t)⟩) (opdS I n x)
theorem extrS_ok {o : Oper} {x : Operand} {ix : Nat} (ho : o.op = .extract x ix) : BodyFlat I n P o (extrS I n x ix) := fun call e en F k hr h => by
  have h : onT (fun l => nthL (fun v => k v F) l ix) false ((opdS I n x).run e) = true := h
  rcases onT_ok h with ⟨l, hl, h⟩ | h
  · obtain ⟨f, h1, h2⟩ := nthL_ok h
    refine ⟨f, fun ca H _ => ?_, h2⟩
    have hx : rho en x = .tuple (FV.vals l).toArray := by rw [← opdS_ok hr, hl]; rfl
    unfold evOp
    simp only [ho, hx, List.getElem?_toArray, vals_get h1, Option.map_some]
  · cases h
/-- By hand of the model: what is done without the heap. -/
noncomputable def flatS (I : EnvI E) (n : Nat) (P : Program) (o : Oper) : BodyK E := ⟨fun _ k t F => flatK I n P o (fun v => k v F) t⟩
theorem flatS_ok {o : Oper} (he : ∀ ca ρ H, evOp P ca o ρ H = (flatOp P o ρ).map (·, H)) : BodyFlat I n P o (flatS I n P o) := fun call e en F k hr h => by
  obtain ⟨v, h1, h2⟩ := flatK_ok hr (show flatK I n P o (fun v => k v F) e = true from h)
  exact ⟨v, fun ca H _ => by rw [he, h1]; rfl, h2⟩
noncomputable def notS (I : EnvI E) (n : Nat) (P : Program) (o : Oper) (x : Operand) : BodyK E := GetK.rec (motive := fun _ => BodyK E) (fun gx => ⟨fun _ k t F => onB (iteK (k (.bb true) F) (k (.bb false) F)) false (gx t)⟩) (opdS I n x)
theorem notS_ok {o : Oper} {t : TypeId} {x : Operand} (ho : o.op = .unOp .not t x) : BodyFlat I n P o (notS I n P o x) := fun call e en F k hr h => by
  have h : onB (iteK (k (.bb true) F) (k (.bb false) F)) false ((opdS I n x).run e) = true := h
  rcases onB_ok h with ⟨b, hb, h⟩ | h
  · have hx : rho en x = .bool b := by rw [← opdS_ok hr, hb]; rfl
    rcases iteK_ok h with ⟨rfl, h⟩ | ⟨rfl, h⟩
    · exact ⟨_, fun ca H _ => ev_un ho (by rw [hx]; rfl), h⟩
    · exact ⟨_, fun ca H _ => ev_un ho (by rw [hx]; rfl), h⟩
  · cases h

/-! ### Strings' bytes and parts -/
/-- An index, of whatever kind. -/
noncomputable def onX2 (k : Nat → Bool) (_ : IntKind) (i : Int) : Bool := Int.rec (motive := fun _ => Bool) k (fun _ => false) i
noncomputable def onX (k : Nat → Bool) (v : FV) : Bool := onInt k (onX2 k) false v
theorem onX_ok {k : Nat → Bool} {v : FV} (h : onX k v = true) : ∃ kd i, v.val = .int kd (Int.ofNat i) ∧ k i = true := by
  rcases onInt_ok h with ⟨i, rfl, h1⟩ | ⟨kd, i, rfl, h1⟩ | h1
  · exact ⟨_, i, rfl, h1⟩
  · cases i with
    | ofNat m => exact ⟨kd, m, rfl, h1⟩
    | negSucc m => cases h1
  · cases h1
noncomputable def idx2 (k : FV → Bool) (n x : Nat) (i : Nat) : Bool := ifK (natK (byK k) (Nat.mod (Nat.shiftRight x (Nat.mul 8 i)) 256)) (Nat.ble (Nat.succ i) n)
noncomputable def idx1 (k : FV → Bool) (y : FV) (n x : Nat) : Bool := onX (idx2 k n x) y
noncomputable def indexS (I : EnvI E) (n : Nat) (x y : Operand) : BodyK E :=
  GetK.rec (motive := fun _ => BodyK E) (fun gx => GetK.rec (motive := fun _ => BodyK E) (fun gy => ⟨fun _ k t F => onS (idx1 (fun v => k v F) (gy t)) false (gx t)⟩) (opdS I n y)) (opdS I n x)
theorem indexS_ok {o : Oper} {t : TypeId} {x y : Operand} (ho : o.op = .index t x y) (ht : P.underlying t = some .string) : BodyFlat I n P o (indexS I n x y) := fun call e en F k hr h => by
  have h : onS (idx1 (fun v => k v F) ((opdS I n y).run e)) false ((opdS I n x).run e) = true := h
  rcases onS_ok h with ⟨m, s, hx, h⟩ | h
  · obtain ⟨kd, i, hy, h⟩ := onX_ok h
    · obtain ⟨h1, h2⟩ := ifK_ok h
      rw [natK_eq] at h2
      have h1 : i < m := Nat.le_of_ble_eq_true h1
      refine ⟨_, fun ca H _ => ev_index ho ?_, h2⟩
      rw [← opdS_ok hr x, ← opdS_ok hr y, hx, hy]
      have := bytesL_get h1 s
      simp only [fastIndex, ht, FV.val, bytesA, this]
      rw [show (Value.int IntKind.u8 ((UInt8.ofNat (Nat.shiftRight s (8 * i))).toNat : Int)) = byteC (UInt8.ofNat (Nat.shiftRight s (8 * i))) from rfl, byteC_mod]
      rfl
  · cases h
end
end Go.Proofs.YtenolmhnmcjndaaGreatDoor.Ev
