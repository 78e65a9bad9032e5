/-
  The machine's operations on the heap: rows made, slices of slices, texts gone through, functions, interfaces, maps.
-/
import Derived.Test.YtaadahhjdkkkaaaGreatDoorEvVmF
namespace Go.Proofs.YtaadahhjdkkkaaaGreatDoor.Ev
set_option linter.unusedVariables false
set_option linter.unusedSimpArgs false
open Go
section
variable {E : Type} {I : EnvI E} {n : Nat} {P : Program}

/-! ### make -/
noncomputable def catL (z y : List FV) : List FV := List.rec (motive := fun _ => List FV) y (fun a _ ih => a :: ih) z
theorem catL_eq (y : List FV) : ∀ z, catL z y = z ++ y
  | [] => rfl
  | a :: z => by show a :: catL z y = _; rw [catL_eq y z]; rfl
noncomputable def repL (z : List FV) (m : Nat) : List FV := Nat.rec (motive := fun _ => List FV) [] (fun _ ih => catL z ih) m
theorem vals_app : ∀ a b : List FV, FV.vals (a ++ b) = FV.vals a ++ FV.vals b
  | [], _ => rfl
  | x :: a, b => by show x.val :: FV.vals (a ++ b) = _; rw [vals_app a b]; rfl
theorem rep_range {α : Type} [Inhabited α] (C : Array α) (m : Nat) : (((Array.range ((m + 1) * C.size)).map (C[· % C.size]!))).toList = C.toList ++ (((Array.range (m * C.size)).map (C[· % C.size]!))).toList := by
  simp only [Array.toList_map, Array.toList_range]
  apply List.ext_getElem
  · simp [Nat.add_mul, Nat.add_comm]
  · intro i h1 h2
    simp only [List.length_map, List.length_range] at h1
    by_cases hi : i < C.size
    · rw [List.getElem_append_left (by simpa using hi)]
      simp [Nat.mod_eq_of_lt hi, hi]
    · rw [List.getElem_append_right (by simpa using Nat.le_of_not_lt hi)]
      simp only [List.getElem_map, List.getElem_range, Array.length_toList]
      rw [Nat.mod_eq_sub_mod (Nat.le_of_not_lt hi)]
theorem repL_vals (z : List FV) (C : Array Value) (hz : FV.vals z = C.toList) : ∀ m, FV.vals (repL z m) = ((Array.range (m * C.size)).map (C[· % C.size]!)).toList
  | 0 => by simp [repL, FV.vals]
  | m + 1 => by
    show FV.vals (catL z (repL z m)) = _
    rw [catL_eq, vals_app, repL_vals z C hz m, rep_range, hz]
noncomputable def mk2 (u8 : Bool) (e : TypeId) (by_ : Nat) (z : List FV) (k : FV → FH → Bool) (F : FH) (l c : Nat) : Bool :=
  ifK (ifK (ifK (rowX u8 (slcK k l c) e F (repL z c)) (Nat.ble (Nat.mul by_ c) 140737488355328)) (Nat.ble c 140737488355328)) (Nat.ble l c)
noncomputable def mk1 (u8 : Bool) (e : TypeId) (by_ : Nat) (z : List FV) (k : FV → FH → Bool) (F : FH) (y : FV) (l : Nat) : Bool := onN (mk2 u8 e by_ z k F l) false y
noncomputable def makeSlS (I : EnvI E) (n : Nat) (P : Program) (t : TypeId) (x y : Operand) : BodyK E :=
  match elemT P t with
  | some e => match zeroT P e with
    | some z => Bool.rec (motive := fun _ => BodyK E) failB
        (readyL (fun z0 => natR (fun by_ => GetK.rec (motive := fun _ => BodyK E) (fun gx => GetK.rec (motive := fun _ => BodyK E) (fun gy => Bool.rec (motive := fun _ => BodyK E) ⟨fun _ k t F => onN (mk1 false e by_ z0 k F (gy t)) false (gx t)⟩ ⟨fun _ k t F => onN (mk1 true e by_ z0 k F (gy t)) false (gx t)⟩ (isU8 P e)) (opdS I n y)) (opdS I n x)) (bytesT P e)) z.cells.toList) (Nat.rec (motive := fun _ => Bool) false (fun m _ => Nat.beq z.cells.size (m + 1)) (szT P e))
    | none => failB
  | none => failB
theorem makeSlS_ok {o : Oper} {t : TypeId} {x y : Operand} (ho : o.op = .makeSlice t x y) : BodyOk I n P o (makeSlS I n P t x y) := fun call ca e en F H k hc hr hH h => by
  unfold makeSlS at h
  split at h
  case h_2 => cases h
  rename_i el hel
  split at h
  case h_2 => cases h
  rename_i z hz
  have hS : (Nat.rec (motive := fun _ => Bool) false (fun m _ => Nat.beq z.cells.size (m + 1)) (szT P el) : Bool) = true → z.cells.size = szT P el ∧ szT P el ≠ 0 := by
    cases szT P el with
    | zero => intro h; cases h
    | succ m => intro h; exact ⟨Nat.eq_of_beq_eq_true h, Nat.succ_ne_zero m⟩
  cases hb : (Nat.rec (motive := fun _ => Bool) false (fun m _ => Nat.beq z.cells.size (m + 1)) (szT P el) : Bool) with
  | false => rw [hb] at h; cases h
  | true =>
    rw [hb] at h
    obtain ⟨hb, hb0⟩ := hS hb
    obtain ⟨z0, h1, h2⟩ := readyL_ok h
    rw [natR_eq] at h2
    have h3 : onN (mk1 (isU8 P el) el (bytesT P el) z0 k F ((opdS I n y).run e)) false ((opdS I n x).run e) = true := by
      revert h2
      generalize opdS I n x = gx
      generalize opdS I n y = gy
      cases gx; cases gy
      cases isU8 P el <;> exact id
    rcases onN_ok h3 with ⟨lx, hx, h4⟩ | h4
    · rcases onN_ok h4 with ⟨c, hy, h5⟩ | h5
      · obtain ⟨h6, h7⟩ := ifK_ok h5
        obtain ⟨h8, h9⟩ := ifK_ok h7
        obtain ⟨h10, h11⟩ := ifK_ok h9
        have h6 : lx ≤ c := Nat.le_of_ble_eq_true h6
        have h8 : c ≤ 140737488355328 := Nat.le_of_ble_eq_true h8
        have h10 : bytesT P el * c ≤ 140737488355328 := Nat.le_of_ble_eq_true h10
        obtain ⟨F', h12, h13⟩ := rowX_ok hH (C := (Array.range (c * szT P el)).map (z.cells[· % z.cells.size]!)) (by
          rw [← hb]; exact (repL_vals z0 z.cells h1 c).symm) h11
        refine ⟨.ll H.next 0 lx c, F', _, ?_, h12, h13⟩
        have hx : rho en x = .int .i64 (Int.ofNat lx) := by rw [← opdS_ok hr, hx]; rfl
        have hy : rho en y = .int .i64 (Int.ofNat c) := by rw [← opdS_ok hr, hy]; rfl
        have hcond : (0 : Int) ≤ Int.ofNat lx ∧ Int.ofNat lx ≤ Int.ofNat c ∧ Int.ofNat c ≤ 140737488355328 ∧ (bytesT P el : Int) * Int.ofNat c ≤ 140737488355328 ∧ z.cells.size ≠ 0 ∧ szT P el ≠ 0 := by
          refine ⟨Int.natCast_nonneg _, Int.ofNat_le.2 h6, Int.ofNat_le.2 h8, ?_, by rw [hb]; exact hb0, hb0⟩
          show (bytesT P el : Int) * (c : Int) ≤ 140737488355328
          rw [← Int.natCast_mul]
          exact Int.ofNat_le.2 h10
        unfold evOp
        simp only [ho, makeSliceA, hel, hx, hy, hz]
        rw [if_pos hcond]
        rfl
      · cases h5
    · cases h4

/-! ### Slices of slices -/
noncomputable def elO (k : Bool) (e : TypeId) (o : FObj) : Bool := FObj.rec (motive := fun _ => Bool) (fun _ _ e' _ _ => ifK k (Nat.beq e' e)) (fun _ _ e' _ _ => ifK k (Nat.beq e' e)) (fun _ _ _ => false) (fun _ _ => false) o
/-- A row of such cells lies there. -/
noncomputable def elK (k : Bool) (e : TypeId) (F : FH) (c : Nat) : Bool := objK (elO k e) F c
theorem elK_ok {k : Bool} {e : TypeId} {F : FH} {H : AH} {c : Nat} (hH : HR F H) (h : elK k e F c = true) : ∃ C fr, H.cells c = some (C, e, fr) ∧ k = true := by
  obtain ⟨o, b, hb, hl, ho, h2⟩ := objK_ok hH h
  cases o with
  | cl n t e' lo hi =>
    obtain ⟨C, h3, _⟩ := ho
    obtain ⟨h4, h5⟩ := ifK_ok (show ifK k (Nat.beq e' e) = true from h2)
    have h4 : e' = e := Nat.eq_of_beq_eq_true h4
    subst h4
    exact ⟨C, _, cells_of hb hl h3, h5⟩
  | yy n x e' lo hi =>
    obtain ⟨h4, h5⟩ := ifK_ok (show ifK k (Nat.beq e' e) = true from h2)
    have h4 : e' = e := Nat.eq_of_beq_eq_true h4
    subst h4
    exact ⟨_, _, cells_of hb hl ho, h5⟩
  | it => cases h2
  | mp => cases h2
/-- A bound: what is told, or what it is by default. -/
noncomputable def bndK (k : Nat → Bool) (v : FV) : Bool := onN k false v
structure BndK (E : Type) where
  run : (Nat → Bool) → E → Nat → Bool
noncomputable def bndS (I : EnvI E) (n : Nat) (x : Option Operand) : BndK E :=
  match x with
  | none => ⟨fun k _ d => k d⟩
  | some x => GetK.rec (motive := fun _ => BndK E) (fun g => ⟨fun k t _ => onN k false (g t)⟩) (opdS I n x)
theorem bndS_ok {x : Option Operand} {k : Nat → Bool} {e : E} {en : List Value} {d : Nat} (hr : REv I n e en) (h : (bndS I n x).run k e d = true) : ∃ m, intOf? (x.map (rho en)) = some (if x.isSome then some (Int.ofNat m) else none) ∧ (x = none → m = d) ∧ k m = true ∧ boundN (rho en) x d = some m := by
  cases x with
  | none => exact ⟨d, rfl, fun _ => rfl, h, rfl⟩
  | some x =>
    have h : onN k false ((opdS I n x).run e) = true := h
    rcases onN_ok h with ⟨m, hx, h⟩ | h
    · have hx : rho en x = .int .i64 (Int.ofNat m) := by rw [← opdS_ok hr, hx]; rfl
      exact ⟨m, by simp only [Option.map_some, hx, intOf?, Option.isSome_some, if_true], (fun hn => by cases hn), h, by simp only [boundN, hx]⟩
    · cases h
noncomputable def slc3 (k : FV → FH → Bool) (F : FH) (e : TypeId) (sz c o n cap l h m : Nat) : Bool :=
  ifK (ifK (ifK (ifK (natK (fun o => natK (fun a => natK (fun b => k (.ll c o a b) F) (Nat.sub m l)) (Nat.sub h l)) (Nat.add o (Nat.mul l sz))) (Nat.ble n cap)) (Nat.ble m cap)) (Nat.ble h m)) (Nat.ble l h)
noncomputable def slcN3 (k : FV → FH → Bool) (F : FH) (n cap l h m : Nat) : Bool :=
  ifK (ifK (ifK (ifK (natK (fun a => natK (fun b => k (.oo (.slice none a b)) F) (Nat.sub m l)) (Nat.sub h l)) (Nat.ble n cap)) (Nat.ble m cap)) (Nat.ble h m)) (Nat.ble l h)
noncomputable def slcL (lo hi mx : (Nat → Bool) → E → Nat → Bool) (e : TypeId) (sz : Nat) (k : FV → FH → Bool) (t : E) (F : FH) (c o n cap : Nat) : Bool :=
  elK (lo (fun l => hi (fun h => mx (fun m => slc3 k F e sz c o n cap l h m) t cap) t n) t 0) e F c
noncomputable def slcO (lo hi mx : (Nat → Bool) → E → Nat → Bool) (k : FV → FH → Bool) (t : E) (F : FH) (v : Value) : Bool :=
  match v with
  | .slice none n cap => natK (fun n => natK (fun cap => lo (fun l => hi (fun h => mx (fun m => slcN3 k F n cap l h m) t cap) t n) t 0) cap) n
  | _ => false
noncomputable def sliceS (I : EnvI E) (n : Nat) (P : Program) (e : TypeId) (x : Operand) (lo hi mx : Option Operand) : BodyK E :=
  match Nat.beq (szT P e) 0 || (mx.isSome && !hi.isSome) with
  | true => failB
  | false => natR (fun sz => GetK.rec (motive := fun _ => BodyK E) (fun gx => BndK.rec (motive := fun _ => BodyK E) (fun bl => BndK.rec (motive := fun _ => BodyK E) (fun bh => BndK.rec (motive := fun _ => BodyK E) (fun bm => ⟨fun _ k t F => onL (slcL bl bh bm e sz k t F) (slcO bl bh bm k t F) false (gx t)⟩) (bndS I n mx)) (bndS I n hi)) (bndS I n lo)) (opdS I n x)) (szT P e)
theorem sliceS_ok {o : Oper} {t e : TypeId} {x : Operand} {lo hi mx : Option Operand} (ho : o.op = .slice t x lo hi mx) (ht : P.underlying t = some (.slice e)) : BodyOk I n P o (sliceS I n P e x lo hi mx) := fun call ca ev en F H k hc hr hH h => by
  unfold sliceS at h
  split at h
  case h_1 => cases h
  rename_i hz
  simp only [Bool.or_eq_false_iff, Bool.and_eq_false_iff, Bool.not_eq_false'] at hz
  obtain ⟨hz, hmh⟩ := hz
  have hz := beq_ne hz
  rw [natR_eq] at h
  have h : onL (slcL (bndS I n lo).run (bndS I n hi).run (bndS I n mx).run e (szT P e) k ev F) (slcO (bndS I n lo).run (bndS I n hi).run (bndS I n mx).run k ev F) false ((opdS I n x).run ev) = true := h
  have hel : elemT P t = some e := by unfold elemT; rw [ht]
  have key : ∀ (n' cap l h m : Nat), intOf? (lo.map (rho en)) = some (if lo.isSome then some (Int.ofNat l) else none) → (lo = none → l = 0) → intOf? (hi.map (rho en)) = some (if hi.isSome then some (Int.ofNat h) else none) → (hi = none → h = n') →
      intOf? (mx.map (rho en)) = some (if mx.isSome then some (Int.ofNat m) else none) → (mx = none → m = cap) → n' ≤ cap → m ≤ cap → h ≤ m → l ≤ h → ∀ a, rho en x = .slice a n' cap → sliceA P H t (rho en x) (lo.map (rho en)) (hi.map (rho en)) (mx.map (rho en)) =
        match a with
        | none => some (.slice none (h - l) (m - l))
        | some p => match H.cells p.block with
          | some (_, e', _) => bif Nat.beq e' e then some (.slice (some (p.add (l * szT P e))) (h - l) (m - l)) else none
          | none => none := fun n' cap l h m e1 e2 e3 e4 e5 e6 g1 g2 g3 g4 a hx => by
    unfold sliceA
    simp only [hel, hx, e1, e3, e5]
    have q1 : ((if lo.isSome then some (Int.ofNat l) else none).getD 0 : Int) = l := by cases lo with | none => simp [e2 rfl] | some _ => rfl
    have q2 : ((if hi.isSome then some (Int.ofNat h) else none).getD (n' : Int) : Int) = h := by cases hi with | none => simp [e4 rfl] | some _ => rfl
    have q3 : ((if mx.isSome then some (Int.ofNat m) else none).getD (cap : Int) : Int) = m := by cases mx with | none => simp [e6 rfl] | some _ => rfl
    have q4 : ((if mx.isSome then some (Int.ofNat m) else none).isSome = true → (if hi.isSome then some (Int.ofNat h) else none).isSome = true) := by
      cases mx with
      | none => intro hh; cases hh
      | some _ =>
        intro _
        cases hi with
        | none => rcases hmh with hh | hh <;> cases hh
        | some _ => rfl
    rw [q1, q2, q3]
    have q7 : (0 : Int) ≤ (l : Int) ∧ (l : Int) ≤ (h : Int) ∧ (h : Int) ≤ (m : Int) ∧ (m : Int) ≤ (cap : Int) ∧ ((if mx.isSome then some (Int.ofNat m) else none).isSome = true → (if hi.isSome then some (Int.ofNat h) else none).isSome = true) ∧ n' ≤ cap ∧ szT P e ≠ 0 := ⟨by omega, by omega, by omega, by omega, q4, g1, hz⟩
    rw [if_pos q7]
    have q5 : ((h : Int) - l).toNat = h - l := by omega
    have q6 : ((m : Int) - l).toNat = m - l := by omega
    simp only [q5, q6, Int.toNat_natCast]
    cases a with
    | none => rfl
    | some p => rfl
  rcases onL_ok h with ⟨c, off, m', cap, hx, h⟩ | ⟨v, hx, h⟩ | h
  · obtain ⟨C, fr, h1, h2⟩ := elK_ok hH (show elK _ e F c = true from h)
    obtain ⟨l, a1, a2, h3, _⟩ := bndS_ok hr h2
    obtain ⟨hh, b1, b2, h4, _⟩ := bndS_ok hr h3
    obtain ⟨m, c1, c2, h5, _⟩ := bndS_ok hr h4
    obtain ⟨g1, h6⟩ := ifK_ok h5
    obtain ⟨g2, h7⟩ := ifK_ok h6
    obtain ⟨g3, h8⟩ := ifK_ok h7
    obtain ⟨g4, h9⟩ := ifK_ok h8
    rw [natK_eq, natK_eq, natK_eq] at h9
    have hx : rho en x = .slice (some ⟨c, off, none⟩) m' cap := by rw [← opdS_ok hr, hx]; rfl
    refine ⟨_, F, H, ?_, hH, h9⟩
    unfold evOp
    simp only [ho, ht]
    rw [key m' cap l hh m a1 a2 b1 b2 c1 c2 (Nat.le_of_ble_eq_true g4) (Nat.le_of_ble_eq_true g3) (Nat.le_of_ble_eq_true g2) (Nat.le_of_ble_eq_true g1) _ hx]
    simp only [h1, show Nat.beq e e = true from Nat.beq_refl e, cond_true, Option.map_some, FV.val, addr_add]
    rfl
  · unfold slcO at h
    split at h
    case h_2 => cases h
    rename_i m' cap
    rw [natK_eq, natK_eq] at h
    obtain ⟨l, a1, a2, h3, _⟩ := bndS_ok hr h
    obtain ⟨hh, b1, b2, h4, _⟩ := bndS_ok hr h3
    obtain ⟨m, c1, c2, h5, _⟩ := bndS_ok hr h4
    obtain ⟨g1, h6⟩ := ifK_ok h5
    obtain ⟨g2, h7⟩ := ifK_ok h6
    obtain ⟨g3, h8⟩ := ifK_ok h7
    obtain ⟨g4, h9⟩ := ifK_ok h8
    rw [natK_eq, natK_eq] at h9
    have hx : rho en x = .slice none m' cap := by rw [← opdS_ok hr, hx]; rfl
    refine ⟨_, F, H, ?_, hH, h9⟩
    unfold evOp
    simp only [ho, ht]
    rw [key m' cap l hh m a1 a2 b1 b2 c1 c2 (Nat.le_of_ble_eq_true g4) (Nat.le_of_ble_eq_true g3) (Nat.le_of_ble_eq_true g2) (Nat.le_of_ble_eq_true g1) _ hx]
    rfl
  · cases h
/-- A part of a string. -/
noncomputable def sst3 (k : FV → FH → Bool) (F : FH) (n x l h : Nat) : Bool := ifK (ifK (natK (fun y => natK (fun m => k (.ss m y) F) (Nat.sub h l)) (Nat.shiftRight x (Nat.mul 8 l))) (Nat.ble h n)) (Nat.ble l h)
noncomputable def sstS (lo hi : (Nat → Bool) → E → Nat → Bool) (k : FV → FH → Bool) (t : E) (F : FH) (n x : Nat) : Bool := lo (fun l => hi (sst3 k F n x l) t n) t 0
noncomputable def substrS (I : EnvI E) (n : Nat) (x : Operand) (lo hi mx : Option Operand) : BodyK E :=
  match mx with
  | some _ => failB
  | none => GetK.rec (motive := fun _ => BodyK E) (fun gx => BndK.rec (motive := fun _ => BodyK E) (fun bl => BndK.rec (motive := fun _ => BodyK E) (fun bh => ⟨fun _ k t F => onS (sstS bl bh k t F) false (gx t)⟩) (bndS I n hi)) (bndS I n lo)) (opdS I n x)
theorem substrS_ok {o : Oper} {t : TypeId} {x : Operand} {lo hi mx : Option Operand} (ho : o.op = .slice t x lo hi mx) (ht : P.underlying t = some .string) : BodyFlat I n P o (substrS I n x lo hi mx) := fun call ev en F k hr h => by
  unfold substrS at h
  split at h
  case h_1 => cases h
  have h : onS (sstS (bndS I n lo).run (bndS I n hi).run k ev F) false ((opdS I n x).run ev) = true := h
  rcases onS_ok h with ⟨m, s, hx, h⟩ | h
  · obtain ⟨l, _, _, h3, e1⟩ := bndS_ok hr (show (bndS I n lo).run _ ev 0 = true from h)
    obtain ⟨hh, _, _, h4, e2⟩ := bndS_ok hr h3
    obtain ⟨g1, h5⟩ := ifK_ok h4
    obtain ⟨g2, h6⟩ := ifK_ok h5
    rw [natK_eq, natK_eq] at h6
    have g1' : l ≤ hh := Nat.le_of_ble_eq_true g1
    have g2' : hh ≤ m := Nat.le_of_ble_eq_true g2
    have hx : rho en x = .string (bytesA m s) := by rw [← opdS_ok hr, hx]; rfl
    refine ⟨_, fun ca H _ => ev_slice ho ?_, h6⟩
    have hlen : (bytesA m s).data.toList.length = m := by simp [bytesA, bytesL_len]
    simp only [fastSlice, ht, hx, hlen, e1, e2, g1, g2, Bool.and_self, cond_true, FV.val]
    congr 3
    have e3 : (bytesA m s).data.toList = bytesL m s := rfl
    have e4 : (bytesL m s).take hh = bytesL hh s := by
      have := bytesL_take hh (m - hh) s
      rwa [show hh + (m - hh) = m by omega] at this
    have e5 : (bytesL hh s).drop l = bytesL (hh - l) (Nat.shiftRight s (8 * l)) := by
      have := bytesL_drop l (hh - l) s
      rwa [show l + (hh - l) = hh by omega] at this
    rw [e3, e4, e5]; rfl
  · cases h

/-! ### A text gone through -/
noncomputable def rangS (I : EnvI E) (n : Nat) (x : Operand) : BodyK E := GetK.rec (motive := fun _ => BodyK E) (fun gx => ⟨fun _ k t F => onS (fun n x => newX (ptrK k) (.it n x 0) F) false (gx t)⟩) (opdS I n x)
theorem rangS_ok {o : Oper} {t : TypeId} {x : Operand} (ho : o.op = .range t x) (ht : P.underlying t = some .string) : BodyOk I n P o (rangS I n x) := fun call ca e en F H k hc hr hH h => by
  have h : onS (fun n x => newX (ptrK k) (.it n x 0) F) false ((opdS I n x).run e) = true := h
  rcases onS_ok h with ⟨m, s, hx, h⟩ | h
  · have hx : rho en x = .string (bytesA m s) := by rw [← opdS_ok hr, hx]; rfl
    obtain ⟨F', h1, h2⟩ := newX_ok (o := .it m s 0) hH (O := .stringIter (bytesA m s) 0) rfl h
    refine ⟨.pp H.next 0, F', _, ?_, h1, h2⟩
    unfold evOp
    simp only [ho, ht, hx]
    rfl
  · cases h
noncomputable def nxW (n x pos' : Nat) (co : FObj → Bool) (o : FObj) : Bool := co (.it n x pos')
noncomputable def nxV (k : FV → FH → Bool) (pos r : Nat) (F : FH) : Bool := k (.tt [.bb true, .nn pos, .ii .i32 (.ofNat r)]) F
noncomputable def nx2 (k : FV → FH → Bool) (F : FH) (c n x pos r w : Nat) : Bool := natK (fun pos' => wrK (nxW n x pos') (nxV k pos r) F c) (Nat.add pos w)
noncomputable def nxSlow (k : FV → FH → Bool) (F : FH) (c n x pos : Nat) (d : Nat × Nat) : Bool := natK (fun r => natK (fun w => nx2 k F c n x pos r w) d.2) d.1
noncomputable def nx1 (k : FV → FH → Bool) (F : FH) (c n x pos b : Nat) : Bool := iteK (nxSlow k F c n x pos (Utf8.decode (bytesA n x) pos)) (nx2 k F c n x pos b 1) (Nat.ble (Nat.succ b) 128)
noncomputable def nx0 (k : FV → FH → Bool) (F : FH) (c n x pos : Nat) : Bool := iteK (k (.tt [.bb false]) F) (natK (nx1 k F c n x pos) (Nat.mod (Nat.shiftRight x (Nat.mul 8 pos)) 256)) (Nat.ble (Nat.succ pos) n)
noncomputable def nxO (k : FV → FH → Bool) (F : FH) (c : Nat) (o : FObj) : Bool := FObj.rec (motive := fun _ => Bool) (fun _ _ _ _ _ => false) (fun _ _ _ _ _ => false) (nx0 k F c) (fun _ _ => false) o
noncomputable def nxB (k : FV → FH → Bool) (F : FH) (c : Nat) (fb : FBlk) : Bool := FBlk.rec (motive := fun _ => Bool) (fun o _ => nxO k F c o) (fun _ _ _ _ _ => false) fb
noncomputable def nxF (k : FV → FH → Bool) (F : FH) (c off : Nat) : Bool := ifK (FH.rec (motive := fun _ => Bool) (fun t _ _ => Q.getK (nxB k F c) t c) F) (Nat.beq off 0)
noncomputable def nextS (I : EnvI E) (n : Nat) (x : Operand) : BodyK E := GetK.rec (motive := fun _ => BodyK E) (fun gx => ⟨fun _ k t F => onP (nxF k F) false (gx t)⟩) (opdS I n x)
theorem get!_bytes {m s i : Nat} (h : i < m) : ((bytesA m s).get! i).toNat = Nat.shiftRight s (8 * i) % 256 := by
  have h1 : (bytesA m s).get! i = (bytesL m s)[i]! := by
    show (bytesL m s).toArray[i]! = _
    simp
  rw [h1]
  have h2 := bytesL_get h s
  rw [List.getElem!_eq_getElem?_getD, h2]
  simp
theorem decode_ascii {m s pos : Nat} (h : pos < m) (hb : Nat.shiftRight s (8 * pos) % 256 < 128) : Utf8.decode (bytesA m s) pos = (Nat.shiftRight s (8 * pos) % 256, 1) := by
  unfold Utf8.decode
  simp only [Nat.add_zero, get!_bytes h, if_pos hb]
theorem nextS_ok {o : Oper} {x : Operand} (ho : o.op = .next x true) : BodyOk I n P o (nextS I n x) := fun call ca e en F H k hc hr hH h => by
  have h : onP (nxF k F) false ((opdS I n x).run e) = true := h
  rcases onP_ok h with ⟨c, off, hx, h⟩ | h
  · obtain ⟨h0, h⟩ := ifK_ok h
    have h0 : off = 0 := Nat.eq_of_beq_eq_true h0
    subst h0
    have hx : rho en x = .pointer (some ⟨c, 0, none⟩) := by rw [← opdS_ok hr, hx]; rfl
    obtain ⟨t, nx, ck⟩ := F
    have h : Q.getK (nxB k ⟨t, nx, ck⟩ c) t c = true := h
    obtain ⟨fb, h1, h2⟩ := Q.getK_ok h
    cases fb with
    | gg => cases h2
    | xx o' ver =>
      obtain ⟨b, hb, hO, _, _, _, hl, ht⟩ := hH.xx h1
      cases o' with
      | cl => cases h2
      | yy => cases h2
      | mp => cases h2
      | it m s pos =>
        have h2 : nx0 k ⟨t, nx, ck⟩ c m s pos = true := h2
        have hO : b.obj = .stringIter (bytesA m s) pos := hO
        have hbl : (H.live c b && H.tip c b) = true := by rw [hl, ht]; rfl
        rcases iteK_ok h2 with ⟨h3, h4⟩ | ⟨h3, h4⟩
        · refine ⟨_, _, H, ?_, hH, h4⟩
          have h3 : ¬ pos < m := fun hlt => by rw [Nat.ble_eq_true_of_le hlt] at h3; cases h3
          unfold evOp
          simp only [ho, hx, nextA, hb, hbl, hO]
          rw [if_neg (by rw [bytesA_size]; exact h3)]
          rfl
        · have h3 : pos < m := Nat.le_of_ble_eq_true h3
          have wr : ∀ d : Nat × Nat, Utf8.decode (bytesA m s) pos = d → nx2 k ⟨t, nx, ck⟩ c m s pos d.1 d.2 = true → ∃ v F' H', evOp P ca o (rho en) H = some (FV.val v, H') ∧ HR F' H' ∧ k v F' = true := fun d hd h5 => by
            unfold nx2 at h5
            rw [natK_eq] at h5
            obtain ⟨b1, o1, hb1, _, _, _, co, h6, h7⟩ := wrK_ok hH h5
            rw [hb] at hb1; cases hb1
            obtain ⟨F', h8, h9⟩ := h7 _ h6 (.stringIter (bytesA m s) (pos + d.2)) rfl (by rw [hO]; trivial)
            refine ⟨_, F', _, ?_, h8, h9⟩
            unfold evOp
            simp only [ho, hx, nextA, hb, hbl, hO]
            rw [if_pos (by rw [bytesA_size]; exact h3), hd]
            rfl
          rw [natK_eq] at h4
          rcases iteK_ok h4 with ⟨_, h5⟩ | ⟨h5, h6⟩
          · unfold nxSlow at h5
            rw [natK_eq, natK_eq] at h5
            exact wr _ rfl h5
          · exact wr _ (decode_ascii h3 (Nat.le_of_ble_eq_true h5)) h6
  · cases h
end
end Go.Proofs.YtaadahhjdkkkaaaGreatDoor.Ev
