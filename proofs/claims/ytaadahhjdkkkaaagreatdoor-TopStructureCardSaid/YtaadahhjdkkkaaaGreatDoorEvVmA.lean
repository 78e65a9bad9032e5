/-
  A machine that the kernel reckons with quickly: bytes in a number, values, rows in a tree with four branches.
-/
import Derived.Test.YtaadahhjdkkkaaaGreatDoorEvOps
namespace Go.Proofs.YtaadahhjdkkkaaaGreatDoor.Ev
set_option linter.unusedVariables false
set_option linter.unusedSimpArgs false
open Go

/-! ### Bytes in a number -/
def bytesL : Nat → Nat → List UInt8
  | 0, _ => []
  | n + 1, x => UInt8.ofNat x :: bytesL n (x / 256)
def bytesA (n x : Nat) : ByteArray := ⟨⟨bytesL n x⟩⟩
noncomputable def packL (l : List UInt8) : Nat := List.rec (motive := fun _ => Nat) 0 (fun b _ ih => Nat.add b.toNat (Nat.mul 256 ih)) l
theorem packL_cons (b : UInt8) (r : List UInt8) : packL (b :: r) = b.toNat + 256 * packL r := rfl
theorem bytesL_len : ∀ n x, (bytesL n x).length = n
  | 0, _ => rfl
  | n + 1, x => by simp [bytesL, bytesL_len n]
theorem bytesL_pack : ∀ l : List UInt8, bytesL l.length (packL l) = l
  | [] => rfl
  | b :: r => by
    simp only [List.length_cons, bytesL, packL_cons]
    rw [show (b.toNat + 256 * packL r) / 256 = packL r by have := b.toNat_lt; omega, bytesL_pack r]
    congr 1
    apply UInt8.toNat.inj
    rw [UInt8.toNat_ofNat']
    have := b.toNat_lt
    omega
theorem bytesL_take (n m : Nat) : ∀ x, (bytesL (n + m) x).take n = bytesL n x := by
  induction n with
  | zero => intro x; simp [bytesL]
  | succ n ih => intro x; rw [show n + 1 + m = (n + m) + 1 by omega]; simp [bytesL, ih]
theorem bytesL_drop (n m : Nat) : ∀ x, (bytesL (n + m) x).drop n = bytesL m (Nat.shiftRight x (8 * n)) := by
  induction n with
  | zero => intro x; simp [Nat.shiftRight]
  | succ n ih =>
    intro x
    rw [show n + 1 + m = (n + m) + 1 by omega]
    simp only [bytesL, List.drop_succ_cons, ih]
    congr 1
    have h1 : Nat.shiftRight x (8 * (n + 1)) = x / 2 ^ (8 * (n + 1)) := Nat.shiftRight_eq_div_pow ..
    have h2 : Nat.shiftRight (x / 256) (8 * n) = x / 256 / 2 ^ (8 * n) := Nat.shiftRight_eq_div_pow ..
    rw [h1, h2, Nat.div_div_eq_div_mul]
    congr 1
    rw [show 8 * (n + 1) = 8 + 8 * n by omega, Nat.pow_add]
theorem bytesL_get {n i : Nat} (h : i < n) (x : Nat) : (bytesL n x)[i]? = some (UInt8.ofNat (Nat.shiftRight x (8 * i))) := by
  have := bytesL_drop i (n - i) x
  rw [show i + (n - i) = n by omega] at this
  have h2 : ((bytesL n x).drop i)[0]? = (bytesL n x)[i]? := by simp
  rw [← h2, this, show n - i = (n - i - 1) + 1 by omega]
  rfl
theorem bytesL_mod (n : Nat) : ∀ x, bytesL n (x % 2 ^ (8 * n)) = bytesL n x := by
  induction n with
  | zero => intro x; rfl
  | succ n ih =>
    intro x
    simp only [bytesL]
    have h : x % 2 ^ (8 * (n + 1)) = x % (256 * 2 ^ (8 * n)) := by rw [show 8 * (n + 1) = 8 + 8 * n by omega, Nat.pow_add]
    rw [h, Nat.mod_mul_right_div_self, ih]
    congr 1
    apply UInt8.toNat.inj
    rw [UInt8.toNat_ofNat', UInt8.toNat_ofNat', Nat.mod_mul, Nat.add_mul_mod_self_left]
    exact Nat.mod_mod _ _
theorem bytesL_inj (n : Nat) : ∀ x y, bytesL n x = bytesL n y → x % 2 ^ (8 * n) = y % 2 ^ (8 * n) := by
  induction n with
  | zero => intro x y _; simp [Nat.mod_one]
  | succ n ih =>
    intro x y h
    simp only [bytesL, List.cons.injEq] at h
    have h1 := congrArg UInt8.toNat h.1
    rw [UInt8.toNat_ofNat', UInt8.toNat_ofNat'] at h1
    have h2 := ih _ _ h.2
    have e : ∀ z, z % 2 ^ (8 * (n + 1)) = z % 256 + 256 * (z / 256 % 2 ^ (8 * n)) := fun z => by
      rw [show 8 * (n + 1) = 8 + 8 * n by omega, Nat.pow_add, show (2 : Nat) ^ 8 = 256 from rfl, Nat.mod_mul]
    rw [e, e, h2]
    omega
theorem bytesL_app (m y : Nat) : ∀ n x, bytesL (n + m) (x % 2 ^ (8 * n) + Nat.shiftLeft y (8 * n)) = bytesL n x ++ bytesL m y
  | 0, x => by simp [bytesL, Nat.mod_one, Nat.shiftLeft]
  | n + 1, x => by
    rw [show n + 1 + m = (n + m) + 1 by omega]
    have h1 : Nat.shiftLeft y (8 * (n + 1)) = 256 * Nat.shiftLeft y (8 * n) := by
      have a : ∀ k, Nat.shiftLeft y k = y * 2 ^ k := fun k => Nat.shiftLeft_eq y k
      rw [a, a, show 8 * (n + 1) = 8 + 8 * n by omega, Nat.pow_add, show (2 : Nat) ^ 8 = 256 from rfl, Nat.mul_left_comm]
    have h2 : x % 2 ^ (8 * (n + 1)) = x % 256 + 256 * (x / 256 % 2 ^ (8 * n)) := by
      rw [show 8 * (n + 1) = 8 + 8 * n by omega, Nat.pow_add, show (2 : Nat) ^ 8 = 256 from rfl, Nat.mod_mul]
    simp only [bytesL, List.cons_append]
    rw [h1, h2]
    congr 1
    · apply UInt8.toNat.inj
      rw [UInt8.toNat_ofNat', UInt8.toNat_ofNat']
      omega
    · rw [show (x % 256 + 256 * (x / 256 % 2 ^ (8 * n)) + 256 * Nat.shiftLeft y (8 * n)) / 256 = x / 256 % 2 ^ (8 * n) + Nat.shiftLeft y (8 * n) by omega]
      exact bytesL_app m y n (x / 256)

/-! ### Forcing -/
/-- A number, reckoned. -/
noncomputable def natK (k : Nat → Bool) (n : Nat) : Bool := Nat.rec (motive := fun _ => Bool) (k 0) (fun m _ => k (Nat.succ m)) n
theorem natK_eq (k : Nat → Bool) (n : Nat) : natK k n = k n := by cases n <;> rfl
/-- Is it so? Then on. -/
noncomputable def ifK (k : Bool) (b : Bool) : Bool := Bool.rec (motive := fun _ => Bool) false k b
theorem ifK_ok {k b : Bool} (h : ifK k b = true) : b = true ∧ k = true := by
  cases b with
  | true => exact ⟨rfl, h⟩
  | false => cases h
noncomputable def iteK (k0 k1 : Bool) (b : Bool) : Bool := Bool.rec (motive := fun _ => Bool) k0 k1 b
theorem iteK_ok {k0 k1 b : Bool} (h : iteK k0 k1 b = true) : b = false ∧ k0 = true ∨ b = true ∧ k1 = true := by
  cases b with
  | true => exact .inr ⟨rfl, h⟩
  | false => exact .inl ⟨rfl, h⟩
noncomputable def intK (k : Int → Bool) (i : Int) : Bool := Int.rec (motive := fun _ => Bool) (natK fun n => k (.ofNat n)) (natK fun n => k (.negSucc n)) i
theorem intK_eq (k : Int → Bool) (i : Int) : intK k i = k i := by cases i <;> simp only [intK, natK_eq]

/-! ### Values -/
inductive FV where
  | nn (n : Nat)
  | ii (k : IntKind) (n : Int)
  | bb (b : Bool)
  | ss (len x : Nat)
  | pp (blk off : Nat)
  | ll (blk off len cap : Nat)
  | mm (blk : Nat)
  | aa (cs : List FV)
  | tt (cs : List FV)
  | ff (fn : Nat) (cap : List FV)
  | cc (t : TypeId) (v : FV)
  | oo (v : Value)

mutual
def FV.val : FV → Value
  | .nn x => .int .i64 (Int.ofNat x)
  | .ii k x => .int k x
  | .bb x => .bool x
  | .ss n x => .string (bytesA n x)
  | .pp c o => .pointer (some ⟨c, o, none⟩)
  | .ll c o n k => .slice (some ⟨c, o, none⟩) n k
  | .mm c => .map (some c)
  | .aa cs => .agg (FV.vals cs).toArray
  | .tt cs => .tuple (FV.vals cs).toArray
  | .ff f cs => .func (.func f) #[] (FV.vals cs).toArray
  | .cc t v => .iface t v.val
  | .oo v => v
def FV.vals : List FV → List Value
  | [] => []
  | x :: r => x.val :: FV.vals r
end
theorem FV.vals_eq : ∀ l : List FV, FV.vals l = l.map FV.val
  | [] => rfl
  | x :: r => by rw [FV.vals, FV.vals_eq r]; rfl

/-! ### A value's own form -/
noncomputable def natR {R : Type} (k : Nat → R) (n : Nat) : R := Nat.rec (motive := fun _ => R) (k 0) (fun m _ => k (Nat.succ m)) n
theorem natR_eq {R : Type} (k : Nat → R) (n : Nat) : natR k n = k n := by cases n <;> rfl
/-- A value of the model's as one of the machine's; it goes on where there is one. -/
noncomputable def conv1 {R : Type} (z : R) (k : FV → R) (v : Value) : R :=
  match v with
  | .bool b => Bool.rec (motive := fun _ => R) (k (.bb false)) (k (.bb true)) b
  | .int kd x => match kd with
    | .i64 => Int.rec (motive := fun _ => R) (natR fun n => k (.nn n)) (natR fun n => k (.ii .i64 (.negSucc n))) x
    | kd => Int.rec (motive := fun _ => R) (natR fun n => k (.ii kd (.ofNat n))) (natR fun n => k (.ii kd (.negSucc n))) x
  | .string s => natR (fun n => natR (fun x => k (.ss n x)) (packL s.data.toList)) s.data.toList.length
  | .pointer a => match a with
    | some a => match a.spot with
      | none => natR (fun c => natR (fun o => k (.pp c o)) a.off) a.block
      | some _ => z
    | none => k (.oo (.pointer none))
  | .slice a n c => match a with
    | some a => match a.spot with
      | none => natR (fun b => natR (fun o => natR (fun n => natR (fun c => k (.ll b o n c)) c) n) a.off) a.block
      | some _ => z
    | none => natR (fun n => natR (fun c => k (.oo (.slice none n c))) c) n
  | .map r => match r with
    | some r => natR (fun c => k (.mm c)) r
    | none => k (.oo (.map none))
  | .nilFunc => k (.oo .nilFunc)
  | .nilIface => k (.oo .nilIface)
  | .chan r => match r with
    | some n => Nat.rec (motive := fun _ => R) (k (.oo junk)) (fun _ _ => z) n
    | none => z
  | _ => z
def ConvOk {R : Type} (z : R) (k : FV → R) (v : Value) (r : R) : Prop := r = z ∨ ∃ f : FV, f.val = v ∧ r = k f
theorem conv1_ok {R : Type} {z : R} {k : FV → R} {v : Value} : ConvOk z k v (conv1 z k v) := by
  unfold conv1
  split
  · cases ‹Bool› <;> exact .inr ⟨_, rfl, rfl⟩
  · split
    · cases ‹Int› <;> simp only [natR_eq] <;> exact .inr ⟨_, rfl, rfl⟩
    · cases ‹Int› <;> simp only [natR_eq] <;> exact .inr ⟨_, rfl, rfl⟩
  · rename_i s
    rw [natR_eq, natR_eq]
    refine .inr ⟨_, ?_, rfl⟩
    simp only [FV.val, bytesA, bytesL_pack]
  · split
    · rename_i a
      split
      · rename_i hs
        rw [natR_eq, natR_eq]
        refine .inr ⟨_, ?_, rfl⟩
        obtain ⟨b, o, s⟩ := a
        simp only at hs; subst hs; rfl
      · exact .inl rfl
    · exact .inr ⟨_, rfl, rfl⟩
  · split
    · rename_i a
      split
      · rename_i hs
        rw [natR_eq, natR_eq, natR_eq, natR_eq]
        refine .inr ⟨_, ?_, rfl⟩
        obtain ⟨b, o, s⟩ := a
        simp only at hs; subst hs; rfl
      · exact .inl rfl
    · rw [natR_eq, natR_eq]; exact .inr ⟨_, rfl, rfl⟩
  · split
    · rw [natR_eq]; exact .inr ⟨_, rfl, rfl⟩
    · exact .inr ⟨_, rfl, rfl⟩
  · exact .inr ⟨_, rfl, rfl⟩
  · exact .inr ⟨_, rfl, rfl⟩
  · split
    · cases ‹Nat› with
      | zero => exact .inr ⟨_, rfl, rfl⟩
      | succ n => exact .inl rfl
    · exact .inl rfl
  · exact .inl rfl
noncomputable def convL {R : Type} (k1 : (FV → R) → Value → R) (l : List Value) : (List FV → R) → R :=
  List.rec (motive := fun _ => (List FV → R) → R) (fun k => k []) (fun v _ ih k => k1 (fun f => ih fun fs => k (f :: fs)) v) l
theorem convL_ok {R : Type} {z : R} {k1 : (FV → R) → Value → R} (h1 : ∀ k v, ConvOk z k v (k1 k v)) : ∀ (l : List Value) (k : List FV → R), convL k1 l k = z ∨ ∃ fs, FV.vals fs = l ∧ convL k1 l k = k fs
  | [], k => .inr ⟨[], rfl, rfl⟩
  | v :: r, k => by
    show k1 (fun f => convL k1 r fun fs => k (f :: fs)) v = z ∨ ∃ fs, FV.vals fs = v :: r ∧ k1 (fun f => convL k1 r fun fs => k (f :: fs)) v = k fs
    rcases h1 (fun f => convL k1 r fun fs => k (f :: fs)) v with h | ⟨f, rfl, h⟩
    · exact .inl h
    · rw [h]
      rcases convL_ok h1 r (fun fs => k (f :: fs)) with h2 | ⟨fs, rfl, h2⟩
      · exact .inl h2
      · exact .inr ⟨f :: fs, rfl, h2⟩
/-- One floor more: rows, what is held, functions. -/
noncomputable def convS {R : Type} (z : R) (k1 : (FV → R) → Value → R) (k : FV → R) (v : Value) : R :=
  match v with
  | .agg cs => convL k1 cs.toList fun l => k (.aa l)
  | .tuple cs => convL k1 cs.toList fun l => k (.tt l)
  | .func (.func f) fi cs => Bool.rec (motive := fun _ => R) z (natR (fun f => convL k1 cs.toList fun l => k (.ff f l)) f) fi.toList.isEmpty
  | .iface t v => natR (fun t => k1 (fun f => k (.cc t f)) v) t
  | v => conv1 z k v
theorem convS_ok {R : Type} {z : R} {k1 : (FV → R) → Value → R} (h1 : ∀ k v, ConvOk z k v (k1 k v)) (k : FV → R) (v : Value) : ConvOk z k v (convS z k1 k v) := by
  unfold convS
  split
  · rename_i cs
    rcases convL_ok h1 cs.toList (fun l => k (.aa l)) with h | ⟨fs, h2, h⟩
    · exact .inl h
    · exact .inr ⟨.aa fs, by simp only [FV.val, h2], h⟩
  · rename_i cs
    rcases convL_ok h1 cs.toList (fun l => k (.tt l)) with h | ⟨fs, h2, h⟩
    · exact .inl h
    · exact .inr ⟨.tt fs, by simp only [FV.val, h2], h⟩
  · rename_i f fi cs
    cases h0 : fi.toList.isEmpty with
    | false => exact .inl rfl
    | true =>
      show ConvOk z k _ (natR (fun f => convL k1 cs.toList fun l => k (.ff f l)) f)
      rw [natR_eq]
      have : fi = #[] := by
        apply Array.ext'
        simpa using h0
      subst this
      rcases convL_ok h1 cs.toList (fun l => k (.ff f l)) with h | ⟨fs, h2, h⟩
      · exact .inl h
      · exact .inr ⟨.ff _ fs, by simp only [FV.val, h2], h⟩
  · rename_i t v
    rw [natR_eq]
    rcases h1 (fun f => k (.cc t f)) v with h | ⟨f, rfl, h⟩
    · exact .inl h
    · exact .inr ⟨.cc t f, rfl, h⟩
  · exact conv1_ok
noncomputable def conv2 {R : Type} (z : R) : (FV → R) → Value → R := convS z (conv1 z)
noncomputable def conv3 {R : Type} (z : R) : (FV → R) → Value → R := convS z (conv2 z)
noncomputable def convR {R : Type} (z : R) : (FV → R) → Value → R := convS z (conv3 z)
theorem convR_ok {R : Type} (z : R) (k : FV → R) (v : Value) : ConvOk z k v (convR z k v) :=
  convS_ok (fun _ _ => convS_ok (fun _ _ => convS_ok (fun _ _ => conv1_ok) _ _) _ _) _ _
/-- A value as the machine's. -/
noncomputable def convK (k : FV → Bool) (v : Value) : Bool := convR false k v
theorem convK_ok {k : FV → Bool} {v : Value} (h : convK k v = true) : ∃ f : FV, f.val = v ∧ k f = true := by
  rcases convR_ok false k v with h2 | ⟨f, h1, h2⟩
  · unfold convK at h; rw [h2] at h; cases h
  · unfold convK at h; rw [h2] at h; exact ⟨f, h1, h⟩

/-! ### A tree with four branches: what is laid in one behind the other -/
inductive N5 (α β : Type) where
  | e
  | q (v : α) (a b c d : β)
def QT (α : Type) (d : Nat) : Type := Nat.rec (motive := fun _ => Type) Unit (fun _ T => N5 α T) d
def getS5 {α β : Type} (g : β → Nat → Option α) (t : N5 α β) (n : Nat) : Option α := match t with
  | .e => none
  | .q v a b c d => match n with
    | 0 => some v
    | m + 1 => match m % 4 with
      | 0 => g a (m / 4)
      | 1 => g b (m / 4)
      | 2 => g c (m / 4)
      | _ => g d (m / 4)
noncomputable def sel4 {β : Type} (x0 x1 x2 x3 : β) (n : Nat) : β := Nat.rec (motive := fun _ => β) x0 (fun n _ => Nat.rec (motive := fun _ => β) x1 (fun n _ => Nat.rec (motive := fun _ => β) x2 (fun _ _ => x3) n) n) n
theorem sel4_eq {β : Type} (x0 x1 x2 x3 : β) (n : Nat) : sel4 x0 x1 x2 x3 n = match n with | 0 => x0 | 1 => x1 | 2 => x2 | _ => x3 := by
  match n with
  | 0 => rfl
  | 1 => rfl
  | 2 => rfl
  | n + 3 => rfl
section
variable {α β R : Type}
/-- One floor of a look. -/
noncomputable def gB5 (g : (α → Bool) → β → Nat → Bool) (k : α → Bool) (a b c d : β) (m : Nat) (_ : Bool) : Bool := g k (sel4 a b c d (Nat.mod m 4)) (Nat.div m 4)
noncomputable def gA5 (g : (α → Bool) → β → Nat → Bool) (k : α → Bool) (n : Nat) (v : α) (a b c d : β) : Bool := Nat.rec (motive := fun _ => Bool) (k v) (gB5 g k a b c d) n
noncomputable def gN5 (g : (α → Bool) → β → Nat → Bool) (k : α → Bool) (t : N5 α β) (n : Nat) : Bool := N5.rec (motive := fun _ => Bool) false (gA5 g k n) t
theorem gN5_ok {g : (α → Bool) → β → Nat → Bool} {gs : β → Nat → Option α} {k : α → Bool} (hg : ∀ t n, g k t n = true → ∃ x, gs t n = some x ∧ k x = true) : ∀ (t : N5 α β) (n : Nat), gN5 g k t n = true → ∃ x, getS5 gs t n = some x ∧ k x = true
  | .e, n, h => by cases h
  | .q v a b c d, 0, h => ⟨v, rfl, h⟩
  | .q v a b c d, m + 1, h => by
    have h : g k (sel4 a b c d (m % 4)) (m / 4) = true := h
    rw [sel4_eq] at h
    have hm : m % 4 = 0 ∨ m % 4 = 1 ∨ m % 4 = 2 ∨ m % 4 = 3 := by omega
    simp only [getS5]
    rcases hm with hm | hm | hm | hm
    all_goals
      rw [hm] at h ⊢
      exact hg _ _ h
noncomputable def ra5 (v : α) (b c d : β) (k : N5 α β → R) (a : β) : R := k (.q v a b c d)
noncomputable def rb5 (v : α) (a c d : β) (k : N5 α β → R) (b : β) : R := k (.q v a b c d)
noncomputable def rc5 (v : α) (a b d : β) (k : N5 α β → R) (c : β) : R := k (.q v a b c d)
noncomputable def rd5 (v : α) (a b c : β) (k : N5 α β → R) (d : β) : R := k (.q v a b c d)
noncomputable def sB5 (s : α → β → (β → R) → Nat → R) (x : α) (k : N5 α β → R) (v : α) (a b c d : β) (m : Nat) (_ : R) : R :=
  sel4 (s x a (ra5 v b c d k)) (s x b (rb5 v a c d k)) (s x c (rc5 v a b d k)) (s x d (rd5 v a b c k)) (Nat.mod m 4) (Nat.div m 4)
noncomputable def sA5 (s : α → β → (β → R) → Nat → R) (x : α) (k : N5 α β → R) (n : Nat) (v : α) (a b c d : β) : R := Nat.rec (motive := fun _ => R) (k (.q x a b c d)) (sB5 s x k v a b c d) n
noncomputable def sE5 (z : R) (e : β) (x : α) (k : N5 α β → R) (n : Nat) : R := Nat.rec (motive := fun _ => R) (k (.q x e e e e)) (fun _ _ => z) n
noncomputable def sN5 (z : R) (e : β) (s : α → β → (β → R) → Nat → R) (x : α) (t : N5 α β) (k : N5 α β → R) (n : Nat) : R := N5.rec (motive := fun _ => R) (sE5 z e x k n) (sA5 s x k n) t
theorem sN5_ok {z : R} {e : β} {s : α → β → (β → R) → Nat → R} {gs : β → Nat → Option α} {x : α} (he : ∀ n, gs e n = none) (hs : ∀ t k n, s x t k n = z ∨ ∃ t', s x t k n = k t' ∧ ∀ m, gs t' m = if m = n then some x else gs t m) :
    ∀ (t : N5 α β) (k : N5 α β → R) (n : Nat), sN5 z e s x t k n = z ∨ ∃ t', sN5 z e s x t k n = k t' ∧ ∀ m, getS5 gs t' m = if m = n then some x else getS5 gs t m
  | .e, k, 0 => .inr ⟨.q x e e e e, rfl, fun m => by
      cases m with
      | zero => rfl
      | succ m => simp only [getS5, he]; split <;> simp⟩
  | .e, k, n + 1 => .inl rfl
  | .q v a b c d, k, 0 => .inr ⟨.q x a b c d, rfl, fun m => by cases m <;> simp [getS5]⟩
  | .q v a b c d, k, n + 1 => by
    have e0 : sN5 z e s x (.q v a b c d) k (n + 1) = sel4 (s x a (ra5 v b c d k)) (s x b (rb5 v a c d k)) (s x c (rc5 v a b d k)) (s x d (rd5 v a b c k)) (n % 4) (n / 4) := rfl
    rw [e0, sel4_eq]
    have hn : n % 4 = 0 ∨ n % 4 = 1 ∨ n % 4 = 2 ∨ n % 4 = 3 := by omega
    have fin : ∀ (w : β) (kk : β → R), (s x w kk (n / 4) = z ∨ ∃ t', s x w kk (n / 4) = kk t' ∧ ∀ m, gs t' m = if m = n / 4 then some x else gs w m) := fun w kk => hs w kk (n / 4)
    rcases hn with hn | hn | hn | hn
    · simp only [hn]
      rcases fin a (ra5 v b c d k) with h | ⟨t', h1, h2⟩
      · exact .inl h
      · refine .inr ⟨.q v t' b c d, h1, fun m => ?_⟩
        cases m with
        | zero => simp [getS5]
        | succ m =>
          have hm : m % 4 = 0 ∨ m % 4 = 1 ∨ m % 4 = 2 ∨ m % 4 = 3 := by omega
          rcases hm with hm | hm | hm | hm
          · simp only [getS5, hm, h2]
            have e : (m / 4 = n / 4) ↔ (m + 1 = n + 1) := by omega
            simp only [e]
          all_goals
            have e : ¬ (m + 1 = n + 1) := by omega
            rw [if_neg e]
            simp only [getS5, hm]
    · simp only [hn]
      rcases fin b (rb5 v a c d k) with h | ⟨t', h1, h2⟩
      · exact .inl h
      · refine .inr ⟨.q v a t' c d, h1, fun m => ?_⟩
        cases m with
        | zero => simp [getS5]
        | succ m =>
          have hm : m % 4 = 1 ∨ m % 4 = 0 ∨ m % 4 = 2 ∨ m % 4 = 3 := by omega
          rcases hm with hm | hm | hm | hm
          · simp only [getS5, hm, h2]
            have e : (m / 4 = n / 4) ↔ (m + 1 = n + 1) := by omega
            simp only [e]
          all_goals
            have e : ¬ (m + 1 = n + 1) := by omega
            rw [if_neg e]
            simp only [getS5, hm]
    · simp only [hn]
      rcases fin c (rc5 v a b d k) with h | ⟨t', h1, h2⟩
      · exact .inl h
      · refine .inr ⟨.q v a b t' d, h1, fun m => ?_⟩
        cases m with
        | zero => simp [getS5]
        | succ m =>
          have hm : m % 4 = 2 ∨ m % 4 = 0 ∨ m % 4 = 1 ∨ m % 4 = 3 := by omega
          rcases hm with hm | hm | hm | hm
          · simp only [getS5, hm, h2]
            have e : (m / 4 = n / 4) ↔ (m + 1 = n + 1) := by omega
            simp only [e]
          all_goals
            have e : ¬ (m + 1 = n + 1) := by omega
            rw [if_neg e]
            simp only [getS5, hm]
    · simp only [hn]
      rcases fin d (rd5 v a b c k) with h | ⟨t', h1, h2⟩
      · exact .inl h
      · refine .inr ⟨.q v a b c t', h1, fun m => ?_⟩
        cases m with
        | zero => simp [getS5]
        | succ m =>
          have hm : m % 4 = 3 ∨ m % 4 = 0 ∨ m % 4 = 1 ∨ m % 4 = 2 := by omega
          rcases hm with hm | hm | hm | hm
          · simp only [getS5, hm, h2]
            have e : (m / 4 = n / 4) ↔ (m + 1 = n + 1) := by omega
            simp only [e]
          all_goals
            have e : ¬ (m + 1 = n + 1) := by omega
            rw [if_neg e]
            simp only [getS5, hm]
end
def gs0 {α : Type} (_ : QT α 0) (_ : Nat) : Option α := none
noncomputable def g0 {α : Type} (_ : α → Bool) (_ : QT α 0) (_ : Nat) : Bool := false
noncomputable def s0 {α R : Type} (z : R) (_ : α) (_ : QT α 0) (_ : QT α 0 → R) (_ : Nat) : R := z
def gs1 {α : Type} (t : QT α 1) (n : Nat) : Option α := getS5 (β := QT α 0) gs0 t n
noncomputable def g1 {α : Type} (k : α → Bool) (t : QT α 1) (n : Nat) : Bool := gN5 (β := QT α 0) g0 k t n
noncomputable def s1 {α R : Type} (z : R) (x : α) (t : QT α 1) (k : QT α 1 → R) (n : Nat) : R := sN5 (β := QT α 0) z () (s0 z) x t k n
def gs2 {α : Type} (t : QT α 2) (n : Nat) : Option α := getS5 (β := QT α 1) gs1 t n
noncomputable def g2 {α : Type} (k : α → Bool) (t : QT α 2) (n : Nat) : Bool := gN5 (β := QT α 1) g1 k t n
noncomputable def s2 {α R : Type} (z : R) (x : α) (t : QT α 2) (k : QT α 2 → R) (n : Nat) : R := sN5 (β := QT α 1) z (N5.e : N5 α (QT α 0)) (s1 z) x t k n
def gs3 {α : Type} (t : QT α 3) (n : Nat) : Option α := getS5 (β := QT α 2) gs2 t n
noncomputable def g3 {α : Type} (k : α → Bool) (t : QT α 3) (n : Nat) : Bool := gN5 (β := QT α 2) g2 k t n
noncomputable def s3 {α R : Type} (z : R) (x : α) (t : QT α 3) (k : QT α 3 → R) (n : Nat) : R := sN5 (β := QT α 2) z (N5.e : N5 α (QT α 1)) (s2 z) x t k n
def gs4 {α : Type} (t : QT α 4) (n : Nat) : Option α := getS5 (β := QT α 3) gs3 t n
noncomputable def g4 {α : Type} (k : α → Bool) (t : QT α 4) (n : Nat) : Bool := gN5 (β := QT α 3) g3 k t n
noncomputable def s4 {α R : Type} (z : R) (x : α) (t : QT α 4) (k : QT α 4 → R) (n : Nat) : R := sN5 (β := QT α 3) z (N5.e : N5 α (QT α 2)) (s3 z) x t k n
def gs5 {α : Type} (t : QT α 5) (n : Nat) : Option α := getS5 (β := QT α 4) gs4 t n
noncomputable def g5 {α : Type} (k : α → Bool) (t : QT α 5) (n : Nat) : Bool := gN5 (β := QT α 4) g4 k t n
noncomputable def s5 {α R : Type} (z : R) (x : α) (t : QT α 5) (k : QT α 5 → R) (n : Nat) : R := sN5 (β := QT α 4) z (N5.e : N5 α (QT α 3)) (s4 z) x t k n
def gs6 {α : Type} (t : QT α 6) (n : Nat) : Option α := getS5 (β := QT α 5) gs5 t n
noncomputable def g6 {α : Type} (k : α → Bool) (t : QT α 6) (n : Nat) : Bool := gN5 (β := QT α 5) g5 k t n
noncomputable def s6 {α R : Type} (z : R) (x : α) (t : QT α 6) (k : QT α 6 → R) (n : Nat) : R := sN5 (β := QT α 5) z (N5.e : N5 α (QT α 4)) (s5 z) x t k n
def gs7 {α : Type} (t : QT α 7) (n : Nat) : Option α := getS5 (β := QT α 6) gs6 t n
noncomputable def g7 {α : Type} (k : α → Bool) (t : QT α 7) (n : Nat) : Bool := gN5 (β := QT α 6) g6 k t n
noncomputable def s7 {α R : Type} (z : R) (x : α) (t : QT α 7) (k : QT α 7 → R) (n : Nat) : R := sN5 (β := QT α 6) z (N5.e : N5 α (QT α 5)) (s6 z) x t k n
def gs8 {α : Type} (t : QT α 8) (n : Nat) : Option α := getS5 (β := QT α 7) gs7 t n
noncomputable def g8 {α : Type} (k : α → Bool) (t : QT α 8) (n : Nat) : Bool := gN5 (β := QT α 7) g7 k t n
noncomputable def s8 {α R : Type} (z : R) (x : α) (t : QT α 8) (k : QT α 8 → R) (n : Nat) : R := sN5 (β := QT α 7) z (N5.e : N5 α (QT α 6)) (s7 z) x t k n
def gs9 {α : Type} (t : QT α 9) (n : Nat) : Option α := getS5 (β := QT α 8) gs8 t n
noncomputable def g9 {α : Type} (k : α → Bool) (t : QT α 9) (n : Nat) : Bool := gN5 (β := QT α 8) g8 k t n
noncomputable def s9 {α R : Type} (z : R) (x : α) (t : QT α 9) (k : QT α 9 → R) (n : Nat) : R := sN5 (β := QT α 8) z (N5.e : N5 α (QT α 7)) (s8 z) x t k n
theorem g0_ok {α : Type} {k : α → Bool} (t : QT α 0) (n : Nat) (h : g0 k t n = true) : ∃ x, gs0 t n = some x ∧ k x = true := by cases h
theorem s0_ok {α R : Type} {z : R} {x : α} (t : QT α 0) (k : QT α 0 → R) (n : Nat) : s0 z x t k n = z ∨ ∃ t', s0 z x t k n = k t' ∧ ∀ m, gs0 t' m = if m = n then some x else gs0 t m := .inl rfl
theorem g1_ok {α : Type} {k : α → Bool} (t : QT α 1) (n : Nat) (h : g1 k t n = true) : ∃ x, gs1 t n = some x ∧ k x = true := gN5_ok (β := QT α 0) (gs := gs0) g0_ok t n h
theorem s1_ok {α R : Type} {z : R} {x : α} (t : QT α 1) (k : QT α 1 → R) (n : Nat) : s1 z x t k n = z ∨ ∃ t', s1 z x t k n = k t' ∧ ∀ m, gs1 t' m = if m = n then some x else gs1 t m := sN5_ok (β := QT α 0) (gs := gs0) (fun _ => rfl) s0_ok t k n
theorem g2_ok {α : Type} {k : α → Bool} (t : QT α 2) (n : Nat) (h : g2 k t n = true) : ∃ x, gs2 t n = some x ∧ k x = true := gN5_ok (β := QT α 1) (gs := gs1) g1_ok t n h
theorem s2_ok {α R : Type} {z : R} {x : α} (t : QT α 2) (k : QT α 2 → R) (n : Nat) : s2 z x t k n = z ∨ ∃ t', s2 z x t k n = k t' ∧ ∀ m, gs2 t' m = if m = n then some x else gs2 t m := sN5_ok (β := QT α 1) (gs := gs1) (fun _ => rfl) s1_ok t k n
theorem g3_ok {α : Type} {k : α → Bool} (t : QT α 3) (n : Nat) (h : g3 k t n = true) : ∃ x, gs3 t n = some x ∧ k x = true := gN5_ok (β := QT α 2) (gs := gs2) g2_ok t n h
theorem s3_ok {α R : Type} {z : R} {x : α} (t : QT α 3) (k : QT α 3 → R) (n : Nat) : s3 z x t k n = z ∨ ∃ t', s3 z x t k n = k t' ∧ ∀ m, gs3 t' m = if m = n then some x else gs3 t m := sN5_ok (β := QT α 2) (gs := gs2) (fun _ => rfl) s2_ok t k n
theorem g4_ok {α : Type} {k : α → Bool} (t : QT α 4) (n : Nat) (h : g4 k t n = true) : ∃ x, gs4 t n = some x ∧ k x = true := gN5_ok (β := QT α 3) (gs := gs3) g3_ok t n h
theorem s4_ok {α R : Type} {z : R} {x : α} (t : QT α 4) (k : QT α 4 → R) (n : Nat) : s4 z x t k n = z ∨ ∃ t', s4 z x t k n = k t' ∧ ∀ m, gs4 t' m = if m = n then some x else gs4 t m := sN5_ok (β := QT α 3) (gs := gs3) (fun _ => rfl) s3_ok t k n
theorem g5_ok {α : Type} {k : α → Bool} (t : QT α 5) (n : Nat) (h : g5 k t n = true) : ∃ x, gs5 t n = some x ∧ k x = true := gN5_ok (β := QT α 4) (gs := gs4) g4_ok t n h
theorem s5_ok {α R : Type} {z : R} {x : α} (t : QT α 5) (k : QT α 5 → R) (n : Nat) : s5 z x t k n = z ∨ ∃ t', s5 z x t k n = k t' ∧ ∀ m, gs5 t' m = if m = n then some x else gs5 t m := sN5_ok (β := QT α 4) (gs := gs4) (fun _ => rfl) s4_ok t k n
theorem g6_ok {α : Type} {k : α → Bool} (t : QT α 6) (n : Nat) (h : g6 k t n = true) : ∃ x, gs6 t n = some x ∧ k x = true := gN5_ok (β := QT α 5) (gs := gs5) g5_ok t n h
theorem s6_ok {α R : Type} {z : R} {x : α} (t : QT α 6) (k : QT α 6 → R) (n : Nat) : s6 z x t k n = z ∨ ∃ t', s6 z x t k n = k t' ∧ ∀ m, gs6 t' m = if m = n then some x else gs6 t m := sN5_ok (β := QT α 5) (gs := gs5) (fun _ => rfl) s5_ok t k n
theorem g7_ok {α : Type} {k : α → Bool} (t : QT α 7) (n : Nat) (h : g7 k t n = true) : ∃ x, gs7 t n = some x ∧ k x = true := gN5_ok (β := QT α 6) (gs := gs6) g6_ok t n h
theorem s7_ok {α R : Type} {z : R} {x : α} (t : QT α 7) (k : QT α 7 → R) (n : Nat) : s7 z x t k n = z ∨ ∃ t', s7 z x t k n = k t' ∧ ∀ m, gs7 t' m = if m = n then some x else gs7 t m := sN5_ok (β := QT α 6) (gs := gs6) (fun _ => rfl) s6_ok t k n
theorem g8_ok {α : Type} {k : α → Bool} (t : QT α 8) (n : Nat) (h : g8 k t n = true) : ∃ x, gs8 t n = some x ∧ k x = true := gN5_ok (β := QT α 7) (gs := gs7) g7_ok t n h
theorem s8_ok {α R : Type} {z : R} {x : α} (t : QT α 8) (k : QT α 8 → R) (n : Nat) : s8 z x t k n = z ∨ ∃ t', s8 z x t k n = k t' ∧ ∀ m, gs8 t' m = if m = n then some x else gs8 t m := sN5_ok (β := QT α 7) (gs := gs7) (fun _ => rfl) s7_ok t k n
theorem g9_ok {α : Type} {k : α → Bool} (t : QT α 9) (n : Nat) (h : g9 k t n = true) : ∃ x, gs9 t n = some x ∧ k x = true := gN5_ok (β := QT α 8) (gs := gs8) g8_ok t n h
theorem s9_ok {α R : Type} {z : R} {x : α} (t : QT α 9) (k : QT α 9 → R) (n : Nat) : s9 z x t k n = z ∨ ∃ t', s9 z x t k n = k t' ∧ ∀ m, gs9 t' m = if m = n then some x else gs9 t m := sN5_ok (β := QT α 8) (gs := gs8) (fun _ => rfl) s8_ok t k n
def Q (α : Type) : Type := QT α 9
def Q.emp {α : Type} : Q α := (N5.e : N5 α (QT α 8))
def Q.get {α : Type} (t : Q α) (n : Nat) : Option α := gs9 t n
theorem Q.get_emp {α : Type} (n : Nat) : (Q.emp : Q α).get n = none := rfl
/-- What lies there. -/
noncomputable def Q.getK {α : Type} (k : α → Bool) (t : Q α) (n : Nat) : Bool := g9 k t n
theorem Q.getK_ok {α : Type} {k : α → Bool} {t : Q α} {n : Nat} (h : Q.getK k t n = true) : ∃ x, t.get n = some x ∧ k x = true := g9_ok t n h
/-- Something is laid there: over what lay there, or as the next. -/
noncomputable def Q.setK {α : Type} (x : α) (t : Q α) (k : Q α → Bool) (n : Nat) : Bool := s9 false x t k n
theorem Q.setK_ok {α : Type} {x : α} {t : Q α} {k : Q α → Bool} {n : Nat} (h : Q.setK x t k n = true) : ∃ t' : Q α, k t' = true ∧ ∀ m, t'.get m = if m = n then some x else t.get m := by
  rcases s9_ok (z := false) t k n (x := x) with h1 | ⟨t', h1, h2⟩
  · unfold Q.setK at h; rw [h1] at h; cases h
  · unfold Q.setK at h; rw [h1] at h; exact ⟨t', h, h2⟩
/-- The same, made ready once. -/
noncomputable def setR {R α : Type} (z : R) (x : α) (t : Q α) (k : Q α → R) (n : Nat) : R := s9 z x t k n
theorem setR_ok {R α : Type} {z : R} {x : α} {t : Q α} {k : Q α → R} {n : Nat} : setR z x t k n = z ∨ ∃ t' : Q α, setR z x t k n = k t' ∧ ∀ m, t'.get m = if m = n then some x else t.get m := s9_ok t k n
end Go.Proofs.YtaadahhjdkkkaaaGreatDoor.Ev
