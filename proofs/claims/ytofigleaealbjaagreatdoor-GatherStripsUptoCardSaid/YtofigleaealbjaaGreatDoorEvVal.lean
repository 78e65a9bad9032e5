/-
  Values of the evaluator and of the world: what is alike, what follows.
-/
import Derived.Test.YtofigleaealbjaaGreatDoorEvSim2
namespace Go.Proofs.YtofigleaealbjaaGreatDoor.Ev
open Go
section
variable {P : Program} {φ : Phi} {H : AH} {w : World}

theorem ArrR.eq {R : Value → Value → Prop} {a b : Array Value} {f : Value → Bool} (h : ArrR R a b) (hf : a.toList.all f = true) (hr : ∀ x y, f x = true → R x y → x = y) : a = b := by
  apply Array.ext h.1
  intro i h1 h2
  exact hr _ _ (List.all_eq_true.1 hf _ (by simp)) (h.2 i _ _ (Array.getElem?_eq_getElem h1) (Array.getElem?_eq_getElem h2))

theorem ArrR.refl {R : Value → Value → Prop} {a : Array Value} {f : Value → Bool} (hf : a.toList.all f = true) (hr : ∀ x, f x = true → R x x) : ArrR R a a :=
  ⟨rfl, fun i x y hx hy => by
    rw [hx] at hy; obtain rfl := Option.some.inj hy
    obtain ⟨h1, rfl⟩ := Array.getElem?_eq_some_iff.1 hx
    exact hr _ (List.all_eq_true.1 hf _ (by simp))⟩

theorem atom_eq {a b : Value} (h : atomB a = true) (r : AtomR P φ H w a b) : a = b := by
  cases r <;> first | rfl | (simp [atomB] at h)

theorem cell_eq {a b : Value} (h : flat1 a = true) (r : CellR P φ H w a b) : a = b := by
  cases r with
  | atom r =>
    cases r with
    | flat _ => rfl
    | _ => simp [flat1, atomB] at h
  | iface r =>
    rename_i t a b
    by_cases ha : atomB a = true
    · rw [atom_eq ha r]
    · cases r with
      | flat h' => exact absurd h' ha
      | _ => simp [flat1, atomB] at h
  | ifaceAgg _ => rfl
  | func _ => simp [flat1, atomB] at h

theorem part_eq {a b : Value} (h : flat2 a = true) (r : PartR P φ H w a b) : a = b := by
  cases r with
  | junk => simp [flat2, flat1, atomB, junk] at h
  | cell r =>
    refine cell_eq ?_ r
    cases a <;> first | exact h | skip
    cases r with
    | atom r => cases r with | flat h' => simp [atomB] at h'
  | agg r => rw [r.eq h fun x y => cell_eq]

theorem val_eq {a b : Value} (h : flatB a = true) (r : ValR P φ H w a b) : a = b := by
  cases r with
  | part r =>
    refine part_eq ?_ r
    cases a <;> first | exact h | skip
    cases r with
    | cell r => cases r with
      | atom r => cases r with | flat h' => simp [atomB] at h'
  | tuple r => rw [r.eq h fun x y => part_eq]

theorem cell_refl {a : Value} (h : flat1 a = true) : CellR P φ H w a a := by
  unfold flat1 at h
  split at h
  · rename_i t v
    simp only [Bool.or_eq_true] at h
    rcases h with h | h
    · exact .iface (.flat h)
    · split at h
      · exact .ifaceAgg h
      · cases h
  · exact .atom (.flat h)

theorem part_refl {a : Value} (h : flat2 a = true) : PartR P φ H w a a := by
  unfold flat2 at h
  split at h
  · exact .agg (ArrR.refl h fun _ => cell_refl)
  · exact .cell (cell_refl h)

theorem val_refl {a : Value} (h : flatB a = true) : ValR P φ H w a a := by
  unfold flatB at h
  split at h
  · exact .tuple (ArrR.refl h fun _ => part_refl)
  · exact .part (part_refl h)

theorem val_junk {b : Value} : ValR P φ H w junk b := .part .junk
theorem val_undef : ValR P φ H w undef undef := val_refl (by simp [undef, flatB])

theorem val_bool {t : Bool} {b : Value} (r : ValR P φ H w (.bool t) b) : b = .bool t := (val_eq rfl r).symm
theorem val_int {k : IntKind} {n : Int} {b : Value} (r : ValR P φ H w (.int k n) b) : b = .int k n := (val_eq rfl r).symm
theorem val_string {s : ByteArray} {b : Value} (r : ValR P φ H w (.string s) b) : b = .string s := (val_eq rfl r).symm
theorem val_niliface {b : Value} (r : ValR P φ H w .nilIface b) : b = .nilIface := (val_eq rfl r).symm
theorem val_nilptr {b : Value} (r : ValR P φ H w (.pointer none) b) : b = .pointer none := (val_eq rfl r).symm
theorem val_nilmap {b : Value} (r : ValR P φ H w (.map none) b) : b = .map none := (val_eq rfl r).symm
theorem val_nilslice {n c : Nat} {b : Value} (r : ValR P φ H w (.slice none n c) b) : b = .slice none n c := (val_eq rfl r).symm

theorem val_ptr {p : Addr} {b : Value} (r : ValR P φ H w (.pointer (some p)) b) : ∃ q, b = .pointer (some q) ∧ AddrR φ H p q := by
  cases r with
  | part r => cases r with
    | cell r => cases r with
      | atom r => cases r with
        | flat h => simp [atomB] at h
        | ptr h => exact ⟨_, rfl, h⟩

theorem val_slice {p : Addr} {n c : Nat} {b : Value} (r : ValR P φ H w (.slice (some p) n c) b) : ∃ q c', b = .slice (some q) n c' ∧ SliceR P φ H w p q n c c' := by
  cases r with
  | part r => cases r with
    | cell r => cases r with
      | atom r => cases r with
        | flat h => simp [atomB] at h
        | slice h => exact ⟨_, _, rfl, h⟩

theorem val_map {m : Nat} {b : Value} (r : ValR P φ H w (.map (some m)) b) : ∃ k, b = .map (some k) ∧ (Dead H m ∨ φ m = some (k, 0)) := by
  cases r with
  | part r => cases r with
    | cell r => cases r with
      | atom r => cases r with
        | flat h => simp [atomB] at h
        | map h => exact ⟨_, rfl, h⟩

theorem val_func {f : Fn} {x y : Array Value} {b : Value} (r : ValR P φ H w (.func f x y) b) : x = #[] ∧ ∃ y', b = .func f #[] y' ∧ ArrR (AtomR P φ H w) y y' := by
  cases r with
  | part r => cases r with
    | cell r => cases r with
      | atom r => cases r with
        | flat h => simp [atomB] at h
      | func h => exact ⟨rfl, _, rfl, h⟩

theorem val_tuple {vs : Array Value} {b : Value} (r : ValR P φ H w (.tuple vs) b) : ∃ vs', b = .tuple vs' ∧ ArrR (PartR P φ H w) vs vs' := by
  cases r with
  | part r => cases r with
    | cell r => cases r with
      | atom r => cases r with
        | flat h => simp [atomB] at h
  | tuple h => exact ⟨_, rfl, h⟩

theorem val_iface {t : TypeId} {v : Value} {b : Value} (r : ValR P φ H w (.iface t v) b) : ∃ v', b = .iface t v' := by
  cases r with
  | part r => cases r with
    | cell r => cases r with
      | atom r => cases r with
        | flat h => simp [atomB] at h
      | iface h => exact ⟨_, rfl⟩
      | ifaceAgg h => exact ⟨_, rfl⟩

/-- Cells of a value. -/
theorem val_cells {a b : Value} (r : ValR P φ H w a b) (h : a.cells.toList.all isCell = true) : ArrR (CellR P φ H w) a.cells b.cells := by
  have one : ∀ x y : Value, CellR P φ H w x y → ArrR (CellR P φ H w) #[x] #[y] := fun x y h => ⟨rfl, fun i u v hu hv => by
    have hi : i = 0 := by have := (Array.getElem?_eq_some_iff.1 hu).1; simp at this; omega
    subst hi; simp at hu hv; subst hu; subst hv; exact h⟩
  have noagg : ∀ x y, CellR P φ H w x y → isCell x = true → x.cells = #[x] ∧ y.cells = #[y] := fun x y h hx => by
    cases h with
    | atom h => cases h with
      | flat h' => cases x <;> simp [atomB] at h' <;> exact ⟨rfl, rfl⟩
      | _ => exact ⟨rfl, rfl⟩
    | _ => exact ⟨rfl, rfl⟩
  cases r with
  | part r => cases r with
    | junk => simp [junk, Value.cells, isCell] at h
    | cell r =>
      have hx : isCell a = true := by
        cases a <;> first | rfl | (simp [Value.cells, isCell] at h; done) | skip
        cases r with
        | atom r => cases r with | flat h' => simp [atomB] at h'
      obtain ⟨e1, e2⟩ := noagg _ _ r hx
      rw [e1, e2]; exact one _ _ r
    | agg r => exact r
  | tuple r => simp [Value.cells, isCell] at h

theorem cell_one {a b : Value} (r : CellR P φ H w a b) : b.oneCell' = true := by
  cases r with
  | atom r => cases r with
    | flat h => cases a <;> simp [atomB] at h <;> rfl
    | _ => rfl
  | _ => rfl

theorem part_of_cell {a b : Value} (r : CellR P φ H w a b) : ValR P φ H w a b := .part (.cell r)

theorem ArrR.set {R : Value → Value → Prop} {a b : Array Value} {x y : Value} (i : Nat) (h : ArrR R a b) (hxy : R x y) : ArrR R (a.setIfInBounds i x) (b.setIfInBounds i y) := by
  refine ⟨by simp [h.1], fun j u v hu hv => ?_⟩
  rw [Array.getElem?_setIfInBounds] at hu hv
  split at hu
  · rename_i e; subst e
    rw [if_pos rfl] at hv
    split at hu
    · split at hv
      · cases hu; cases hv; exact hxy
      · cases hv
    · cases hu
  · rename_i e; rw [if_neg e] at hv; exact h.2 j u v hu hv

theorem fold_rel {R : Value → Value → Prop} (off : Nat) : ∀ (l l' : List Value) (k : Nat) (C C' : Array Value), l.length = l'.length → (∀ (i : Nat) (x y : Value), l[i]? = some x → l'[i]? = some y → R x y) → ArrR R C C' →
    ArrR R ((l.zipIdx k).foldl (fun cs p => cs.setIfInBounds (off + p.2) p.1) C) ((l'.zipIdx k).foldl (fun cs p => cs.setIfInBounds (off + p.2) p.1) C')
  | [], [], _, _, _, _, _, h => h
  | x :: l, y :: l', k, C, C', hl, hr, h => by
    simp only [List.zipIdx_cons, List.foldl_cons]
    exact fold_rel off l l' (k + 1) _ _ (by simpa using hl) (fun i u v hu hv => hr (i + 1) u v (by simpa using hu) (by simpa using hv)) (h.set _ (hr 0 x y rfl rfl))

theorem fill_rel {α : Type} {R : Value → Value → Prop} (place : Nat → Option (Nat × Nat)) (f g : α → Nat × Value) (hfg : ∀ a, (f a).1 = (g a).1) :
    ∀ (l : List α) (C C' D : Array Value), (∀ a ∈ l, ArrR R (f a).2.cells (g a).2.cells) → ArrR R C C' → Instr.fill place C (l.map f) = some D →
    ∃ D', Instr.fill place C' (l.map g) = some D' ∧ ArrR R D D'
  | [], C, C', D, _, h, hf => by simp only [List.map_nil, Instr.fill] at hf ⊢; cases hf; exact ⟨C', rfl, h⟩
  | a :: l, C, C', D, hp, h, hf => by
    have ha := hp a (List.mem_cons_self ..)
    simp only [List.map_cons] at hf ⊢
    unfold Instr.fill at hf ⊢
    simp only [← hfg a]
    cases hpl : place (f a).1 with
    | none => rw [hpl] at hf; cases hf
    | some os =>
      obtain ⟨off, size⟩ := os
      simp only [hpl] at hf ⊢
      rw [← ha.1, ← h.1]
      split at hf
      · cases hf
      · rename_i hc
        rw [if_neg hc]
        refine fill_rel place f g hfg l _ _ D (fun x hx => hp x (List.mem_cons_of_mem _ hx)) ?_ hf
        have e : ∀ (V C : Array Value), V.zipIdx.foldl (fun cs (p : Value × Nat) => match p with | (c, j) => cs.setIfInBounds (off + j) c) C = (V.toList.zipIdx 0).foldl (fun cs p => cs.setIfInBounds (off + p.2) p.1) C := fun V C => by
          rw [← Array.foldl_toList, Array.toList_zipIdx]
        rw [e, e]
        refine fold_rel off _ _ 0 _ _ (by simpa using ha.1) (fun i x y hx hy => ha.2 i x y (by simpa using hx) (by simpa using hy)) h

theorem fill_size (place : Nat → Option (Nat × Nat)) : ∀ (l : List (Nat × Value)) (C D : Array Value), Instr.fill place C l = some D → D.size = C.size
  | [], C, D, h => by simp only [Instr.fill] at h; cases h; rfl
  | (k, v) :: l, C, D, h => by
    unfold Instr.fill at h
    split at h
    · cases h
    · split at h
      · cases h
      · rw [fill_size place l _ D h]
        have : ∀ (l : List (Value × Nat)) (f : Nat → Nat) (C : Array Value), (l.foldl (fun cs p => cs.setIfInBounds (f p.2) p.1) C).size = C.size := fun l => by
          induction l with
          | nil => intros; rfl
          | cons a l ih => intro f C; rw [List.foldl_cons, ih]; simp
        rename_i off size _ _
        have e : v.cells.zipIdx.foldl (fun cs (p : Value × Nat) => match p with | (c, j) => cs.setIfInBounds (off + j) c) C = (v.cells.toList.zipIdx 0).foldl (fun cs p => cs.setIfInBounds (off + p.2) p.1) C := by
          rw [← Array.foldl_toList, Array.toList_zipIdx]
        exact e ▸ this _ (off + ·) C

/-! ### Operands -/
def EnvR (P : Program) (φ : Phi) (H : AH) (w : World) (e : List Value) (t : Array Value) : Prop :=
  t.size = e.length ∧ ∀ (i : Nat) (x y : Value), e[i]? = some x → t[i]? = some y → ValR P φ H w x y

theorem EnvR.mono {φ' : Phi} {H' : AH} {w' : World} (s : Step P φ H w φ' H' w') {e : List Value} {t : Array Value} (h : EnvR P φ H w e t) : EnvR P φ' H' w' e t :=
  ⟨h.1, fun i x y hx hy => (h.2 i x y hx hy).mono s⟩

theorem EnvR.get {e : List Value} {t : Array Value} (h : EnvR P φ H w e t) (i : Nat) : ValR P φ H w (e.getD i undef) (t.getD i undef) := by
  rw [List.getD_eq_getElem?_getD, Array.getD_eq_getD_getElem?]
  by_cases hi : i < e.length
  · have ht : i < t.size := by rw [h.1]; exact hi
    rw [List.getElem?_eq_getElem hi, Array.getElem?_eq_getElem ht]
    exact h.2 i _ _ (List.getElem?_eq_getElem hi) (Array.getElem?_eq_getElem ht)
  · rw [List.getElem?_eq_none (by omega), Array.getElem?_eq_none (by rw [h.1]; omega)]
    exact val_undef

theorem EnvR.rho {e : List Value} {a : Act} (h : EnvR P φ H w e a.tmps) (x : Operand) : ValR P φ H w (rho e x) (a.eval x) := by
  cases x with
  | tmp t => exact h.get t
  | const v =>
    show ValR P φ H w (bif flatB v then v else junk) v
    cases hv : flatB v with
    | true => exact val_refl hv
    | false => exact val_junk
  | global g => exact val_junk
  | func f => exact .part (.cell (.func ⟨rfl, fun i x y hx hy => by simp at hx⟩))

theorem EnvR.put {e : List Value} {a : Act} (h : EnvR P φ H w e a.tmps) (d : Option Tmp) {v v' : Value} (hv : ValR P φ H w v v') : EnvR P φ H w (putE e d v) (a.put d v').tmps := by
  cases d with
  | none => exact h
  | some d =>
    refine ⟨by simp [putE, Act.put, h.1], fun i x y hx hy => ?_⟩
    simp only [putE, List.getElem?_set] at hx
    simp only [Act.put, Array.getElem?_setIfInBounds] at hy
    split at hx
    · rename_i e; subst e
      rw [if_pos rfl] at hy
      split at hx
      · split at hy
        · cases hx; cases hy; exact hv
        · cases hy
      · cases hx
    · rename_i e; rw [if_neg e] at hy; exact h.2 i x y hx hy
end
end Go.Proofs.YtofigleaealbjaaGreatDoor.Ev
