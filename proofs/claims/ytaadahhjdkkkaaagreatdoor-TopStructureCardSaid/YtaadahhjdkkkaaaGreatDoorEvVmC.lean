/-
  The machine's temporaries: nodes of some branches, some floors; who reads one, who writes one, made ready once.
-/
import Derived.Test.YtaadahhjdkkkaaaGreatDoorEvVmB
namespace Go.Proofs.YtaadahhjdkkkaaaGreatDoor.Ev
set_option linter.unusedVariables false
set_option linter.unusedSimpArgs false
open Go

structure NX (α : Type) where
  x0 : α
  x1 : α
  x2 : α
  x3 : α
  x4 : α
  x5 : α
  x6 : α
  x7 : α

def NX.get {α : Type} (t : NX α) (i : Nat) : α := match i with | 0 => t.x0 | 1 => t.x1 | 2 => t.x2 | 3 => t.x3 | 4 => t.x4 | 5 => t.x5 | 6 => t.x6 | _ => t.x7
def NX.set {α : Type} (t : NX α) (i : Nat) (v : α) : NX α := match i with | 0 => { t with x0 := v } | 1 => { t with x1 := v } | 2 => { t with x2 := v } | 3 => { t with x3 := v } | 4 => { t with x4 := v } | 5 => { t with x5 := v } | 6 => { t with x6 := v } | _ => { t with x7 := v }
structure SelK (α : Type) where
  run : NX α → α
structure InK (α : Type) where
  run : α → (NX α → Bool) → α → α → α → α → α → α → α → α → Bool
structure OuK (α : Type) where
  run : ((α → Bool) → α → Bool) → (NX α → Bool) → α → α → α → α → α → α → α → α → Bool
noncomputable def selS (α : Type) (n : Nat) : SelK α := (Nat.rec (motive := fun _ => SelK α) ⟨fun t => NX.x0 t⟩ (fun n _ => (Nat.rec (motive := fun _ => SelK α) ⟨fun t => NX.x1 t⟩ (fun n _ => (Nat.rec (motive := fun _ => SelK α) ⟨fun t => NX.x2 t⟩ (fun n _ => (Nat.rec (motive := fun _ => SelK α) ⟨fun t => NX.x3 t⟩ (fun n _ => (Nat.rec (motive := fun _ => SelK α) ⟨fun t => NX.x4 t⟩ (fun n _ => (Nat.rec (motive := fun _ => SelK α) ⟨fun t => NX.x5 t⟩ (fun n _ => (Nat.rec (motive := fun _ => SelK α) ⟨fun t => NX.x6 t⟩ (fun n _ => ⟨fun t => NX.x7 t⟩) n)) n)) n)) n)) n)) n)) n)
noncomputable def inS (α : Type) (n : Nat) : InK α := (Nat.rec (motive := fun _ => InK α) ⟨fun v k x0 x1 x2 x3 x4 x5 x6 x7 => k ⟨v, x1, x2, x3, x4, x5, x6, x7⟩⟩ (fun n _ => (Nat.rec (motive := fun _ => InK α) ⟨fun v k x0 x1 x2 x3 x4 x5 x6 x7 => k ⟨x0, v, x2, x3, x4, x5, x6, x7⟩⟩ (fun n _ => (Nat.rec (motive := fun _ => InK α) ⟨fun v k x0 x1 x2 x3 x4 x5 x6 x7 => k ⟨x0, x1, v, x3, x4, x5, x6, x7⟩⟩ (fun n _ => (Nat.rec (motive := fun _ => InK α) ⟨fun v k x0 x1 x2 x3 x4 x5 x6 x7 => k ⟨x0, x1, x2, v, x4, x5, x6, x7⟩⟩ (fun n _ => (Nat.rec (motive := fun _ => InK α) ⟨fun v k x0 x1 x2 x3 x4 x5 x6 x7 => k ⟨x0, x1, x2, x3, v, x5, x6, x7⟩⟩ (fun n _ => (Nat.rec (motive := fun _ => InK α) ⟨fun v k x0 x1 x2 x3 x4 x5 x6 x7 => k ⟨x0, x1, x2, x3, x4, v, x6, x7⟩⟩ (fun n _ => (Nat.rec (motive := fun _ => InK α) ⟨fun v k x0 x1 x2 x3 x4 x5 x6 x7 => k ⟨x0, x1, x2, x3, x4, x5, v, x7⟩⟩ (fun n _ => ⟨fun v k x0 x1 x2 x3 x4 x5 x6 x7 => k ⟨x0, x1, x2, x3, x4, x5, x6, v⟩⟩) n)) n)) n)) n)) n)) n)) n)
noncomputable def ouS (α : Type) (n : Nat) : OuK α := (Nat.rec (motive := fun _ => OuK α) ⟨fun f k x0 x1 x2 x3 x4 x5 x6 x7 => f (fun y => k ⟨y, x1, x2, x3, x4, x5, x6, x7⟩) x0⟩ (fun n _ => (Nat.rec (motive := fun _ => OuK α) ⟨fun f k x0 x1 x2 x3 x4 x5 x6 x7 => f (fun y => k ⟨x0, y, x2, x3, x4, x5, x6, x7⟩) x1⟩ (fun n _ => (Nat.rec (motive := fun _ => OuK α) ⟨fun f k x0 x1 x2 x3 x4 x5 x6 x7 => f (fun y => k ⟨x0, x1, y, x3, x4, x5, x6, x7⟩) x2⟩ (fun n _ => (Nat.rec (motive := fun _ => OuK α) ⟨fun f k x0 x1 x2 x3 x4 x5 x6 x7 => f (fun y => k ⟨x0, x1, x2, y, x4, x5, x6, x7⟩) x3⟩ (fun n _ => (Nat.rec (motive := fun _ => OuK α) ⟨fun f k x0 x1 x2 x3 x4 x5 x6 x7 => f (fun y => k ⟨x0, x1, x2, x3, y, x5, x6, x7⟩) x4⟩ (fun n _ => (Nat.rec (motive := fun _ => OuK α) ⟨fun f k x0 x1 x2 x3 x4 x5 x6 x7 => f (fun y => k ⟨x0, x1, x2, x3, x4, y, x6, x7⟩) x5⟩ (fun n _ => (Nat.rec (motive := fun _ => OuK α) ⟨fun f k x0 x1 x2 x3 x4 x5 x6 x7 => f (fun y => k ⟨x0, x1, x2, x3, x4, x5, y, x7⟩) x6⟩ (fun n _ => ⟨fun f k x0 x1 x2 x3 x4 x5 x6 x7 => f (fun y => k ⟨x0, x1, x2, x3, x4, x5, x6, y⟩) x7⟩) n)) n)) n)) n)) n)) n)) n)
noncomputable def NX.on {α β : Type} (m : α → α → α → α → α → α → α → α → β) (t : NX α) : β := NX.rec (motive := fun _ => β) m t
theorem NX.get_set {α : Type} (t : NX α) (i j : Nat) (v : α) (hi : i < 8) (hj : j < 8) : (t.set i v).get j = if j = i then v else t.get j := by
  match i, j, hi, hj with
  | 0, 0, _, _ => exact rfl
  | 0, 1, _, _ => exact rfl
  | 0, 2, _, _ => exact rfl
  | 0, 3, _, _ => exact rfl
  | 0, 4, _, _ => exact rfl
  | 0, 5, _, _ => exact rfl
  | 0, 6, _, _ => exact rfl
  | 0, 7, _, _ => exact rfl
  | 1, 0, _, _ => exact rfl
  | 1, 1, _, _ => exact rfl
  | 1, 2, _, _ => exact rfl
  | 1, 3, _, _ => exact rfl
  | 1, 4, _, _ => exact rfl
  | 1, 5, _, _ => exact rfl
  | 1, 6, _, _ => exact rfl
  | 1, 7, _, _ => exact rfl
  | 2, 0, _, _ => exact rfl
  | 2, 1, _, _ => exact rfl
  | 2, 2, _, _ => exact rfl
  | 2, 3, _, _ => exact rfl
  | 2, 4, _, _ => exact rfl
  | 2, 5, _, _ => exact rfl
  | 2, 6, _, _ => exact rfl
  | 2, 7, _, _ => exact rfl
  | 3, 0, _, _ => exact rfl
  | 3, 1, _, _ => exact rfl
  | 3, 2, _, _ => exact rfl
  | 3, 3, _, _ => exact rfl
  | 3, 4, _, _ => exact rfl
  | 3, 5, _, _ => exact rfl
  | 3, 6, _, _ => exact rfl
  | 3, 7, _, _ => exact rfl
  | 4, 0, _, _ => exact rfl
  | 4, 1, _, _ => exact rfl
  | 4, 2, _, _ => exact rfl
  | 4, 3, _, _ => exact rfl
  | 4, 4, _, _ => exact rfl
  | 4, 5, _, _ => exact rfl
  | 4, 6, _, _ => exact rfl
  | 4, 7, _, _ => exact rfl
  | 5, 0, _, _ => exact rfl
  | 5, 1, _, _ => exact rfl
  | 5, 2, _, _ => exact rfl
  | 5, 3, _, _ => exact rfl
  | 5, 4, _, _ => exact rfl
  | 5, 5, _, _ => exact rfl
  | 5, 6, _, _ => exact rfl
  | 5, 7, _, _ => exact rfl
  | 6, 0, _, _ => exact rfl
  | 6, 1, _, _ => exact rfl
  | 6, 2, _, _ => exact rfl
  | 6, 3, _, _ => exact rfl
  | 6, 4, _, _ => exact rfl
  | 6, 5, _, _ => exact rfl
  | 6, 6, _, _ => exact rfl
  | 6, 7, _, _ => exact rfl
  | 7, 0, _, _ => exact rfl
  | 7, 1, _, _ => exact rfl
  | 7, 2, _, _ => exact rfl
  | 7, 3, _, _ => exact rfl
  | 7, 4, _, _ => exact rfl
  | 7, 5, _, _ => exact rfl
  | 7, 6, _, _ => exact rfl
  | 7, 7, _, _ => exact rfl
  | n + 8, _, hi, _ => exact absurd hi (by omega)
  | _, n + 8, _, hj => exact absurd hj (by omega)
theorem selS_ok {α : Type} (i : Nat) (hi : i < 8) (t : NX α) : (selS α i).run t = t.get i := by
  match i, hi with
  | 0, _ => exact rfl
  | 1, _ => exact rfl
  | 2, _ => exact rfl
  | 3, _ => exact rfl
  | 4, _ => exact rfl
  | 5, _ => exact rfl
  | 6, _ => exact rfl
  | 7, _ => exact rfl
  | n + 8, hi => exact absurd hi (by omega)
theorem inS_ok {α : Type} (i : Nat) (hi : i < 8) (v : α) (k : NX α → Bool) (t : NX α) : NX.on ((inS α i).run v k) t = k (t.set i v) := by
  match i, hi with
  | 0, _ => exact rfl
  | 1, _ => exact rfl
  | 2, _ => exact rfl
  | 3, _ => exact rfl
  | 4, _ => exact rfl
  | 5, _ => exact rfl
  | 6, _ => exact rfl
  | 7, _ => exact rfl
  | n + 8, hi => exact absurd hi (by omega)
theorem ouS_ok {α : Type} (i : Nat) (hi : i < 8) (f : (α → Bool) → α → Bool) (k : NX α → Bool) (t : NX α) : NX.on ((ouS α i).run f k) t = f (fun y => k (t.set i y)) (t.get i) := by
  match i, hi with
  | 0, _ => exact rfl
  | 1, _ => exact rfl
  | 2, _ => exact rfl
  | 3, _ => exact rfl
  | 4, _ => exact rfl
  | 5, _ => exact rfl
  | 6, _ => exact rfl
  | 7, _ => exact rfl
  | n + 8, hi => exact absurd hi (by omega)

structure GetK (E : Type) where
  run : E → FV
structure PutK (E : Type) where
  run : (E → Bool) → FV → E → Bool
def undefF : FV := .oo undef
structure EnvI (E : Type) where
  sg : Nat → GetK E
  sp : Nat → PutK E
  at_ : E → Nat → FV
  size : Nat
  ini : E
  g_ok : ∀ n, n < size → ∀ t, (sg n).run t = at_ t n
  p_ok : ∀ n, n < size → ∀ k v t, (sp n).run k v t = true → ∃ t', k t' = true ∧ ∀ m, m < size → at_ t' m = if m = n then v else at_ t m
  ini_ok : ∀ m, m < size → at_ ini m = undefF
def ini1 {α : Type} (v : α) : NX α := ⟨v, v, v, v, v, v, v, v⟩
theorem ini1_get {α : Type} (v : α) (i : Nat) : (ini1 v).get i = v := by
  unfold NX.get ini1
  split <;> rfl

noncomputable def sg2 (n : Nat) : GetK (NX (NX FV)) := (SelK.rec (motive := fun _ => GetK (NX (NX FV))) (fun m2 => (SelK.rec (motive := fun _ => GetK (NX (NX FV))) (fun m1 => (⟨fun t => (m1 (m2 t))⟩ : GetK (NX (NX FV)))) (selS FV (Nat.mod n 8)))) (selS (NX FV) (Nat.div n 8)))
noncomputable def sp2 (n : Nat) : PutK (NX (NX FV)) := (OuK.rec (motive := fun _ => PutK (NX (NX FV))) (fun m2 => (InK.rec (motive := fun _ => PutK (NX (NX FV))) (fun m1 => (⟨fun k2 v u2 => NX.rec (motive := fun _ => Bool) (m2 (fun k1 u1 => NX.rec (motive := fun _ => Bool) (m1 v k1) u1) k2) u2⟩ : PutK (NX (NX FV)))) (inS FV (Nat.mod n 8)))) (ouS (NX FV) (Nat.div n 8)))
def at2 (t : NX (NX FV)) (n : Nat) : FV := (t.get (n / 8)).get (n % 8)
theorem sg2_run (n : Nat) (t : NX (NX FV)) : (sg2 n).run t = ((selS FV (n % 8)).run ((selS (NX FV) (n / 8)).run t)) := rfl
theorem sp2_run (n : Nat) (k2 : NX (NX FV) → Bool) (v : FV) (u2 : NX (NX FV)) : (sp2 n).run k2 v u2 = NX.on ((ouS (NX FV) (n / 8)).run (fun k1 u1 => NX.on ((inS FV (n % 8)).run v k1) u1) k2) u2 := rfl
noncomputable def env2 : EnvI (NX (NX FV)) where
  sg := sg2
  sp := sp2
  at_ := at2
  size := 64
  ini := (ini1 (ini1 undefF))
  g_ok := fun n hn t => by
    rw [sg2_run, selS_ok _ (by omega), selS_ok _ (by omega)]; rfl
  p_ok := fun n hn k v t h => by
    rw [sp2_run] at h
    rw [ouS_ok _ (by omega)] at h
    rw [inS_ok _ (by omega)] at h
    refine ⟨_, h, fun m hm => ?_⟩
    unfold at2
    rw [NX.get_set _ _ _ _ (by omega) (by omega)]
    by_cases e2 : (m / 8) = (n / 8)
    rotate_left
    · rw [if_neg e2, if_neg (by omega)]
    rw [if_pos e2]
    rw [NX.get_set _ _ _ _ (by omega) (by omega)]
    by_cases e1 : (m % 8) = (n % 8)
    · rw [if_pos e1, if_pos (by omega)]
    · rw [if_neg e1, if_neg (by omega), e2]
  ini_ok := fun m hm => by unfold at2; rw [ini1_get, ini1_get]
noncomputable def sg3 (n : Nat) : GetK (NX (NX (NX FV))) := (SelK.rec (motive := fun _ => GetK (NX (NX (NX FV)))) (fun m3 => (SelK.rec (motive := fun _ => GetK (NX (NX (NX FV)))) (fun m2 => (SelK.rec (motive := fun _ => GetK (NX (NX (NX FV)))) (fun m1 => (⟨fun t => (m1 (m2 (m3 t)))⟩ : GetK (NX (NX (NX FV))))) (selS FV (Nat.mod n 8)))) (selS (NX FV) (Nat.mod (Nat.div n 8) 8)))) (selS (NX (NX FV)) (Nat.div n 64)))
noncomputable def sp3 (n : Nat) : PutK (NX (NX (NX FV))) := (OuK.rec (motive := fun _ => PutK (NX (NX (NX FV)))) (fun m3 => (OuK.rec (motive := fun _ => PutK (NX (NX (NX FV)))) (fun m2 => (InK.rec (motive := fun _ => PutK (NX (NX (NX FV)))) (fun m1 => (⟨fun k3 v u3 => NX.rec (motive := fun _ => Bool) (m3 (fun k2 u2 => NX.rec (motive := fun _ => Bool) (m2 (fun k1 u1 => NX.rec (motive := fun _ => Bool) (m1 v k1) u1) k2) u2) k3) u3⟩ : PutK (NX (NX (NX FV))))) (inS FV (Nat.mod n 8)))) (ouS (NX FV) (Nat.mod (Nat.div n 8) 8)))) (ouS (NX (NX FV)) (Nat.div n 64)))
def at3 (t : NX (NX (NX FV))) (n : Nat) : FV := ((t.get (n / 64)).get (n / 8 % 8)).get (n % 8)
theorem sg3_run (n : Nat) (t : NX (NX (NX FV))) : (sg3 n).run t = ((selS FV (n % 8)).run ((selS (NX FV) (n / 8 % 8)).run ((selS (NX (NX FV)) (n / 64)).run t))) := rfl
theorem sp3_run (n : Nat) (k3 : NX (NX (NX FV)) → Bool) (v : FV) (u3 : NX (NX (NX FV))) : (sp3 n).run k3 v u3 = NX.on ((ouS (NX (NX FV)) (n / 64)).run (fun k2 u2 => NX.on ((ouS (NX FV) (n / 8 % 8)).run (fun k1 u1 => NX.on ((inS FV (n % 8)).run v k1) u1) k2) u2) k3) u3 := rfl
noncomputable def env3 : EnvI (NX (NX (NX FV))) where
  sg := sg3
  sp := sp3
  at_ := at3
  size := 512
  ini := (ini1 (ini1 (ini1 undefF)))
  g_ok := fun n hn t => by
    rw [sg3_run, selS_ok _ (by omega), selS_ok _ (by omega), selS_ok _ (by omega)]; rfl
  p_ok := fun n hn k v t h => by
    rw [sp3_run] at h
    rw [ouS_ok _ (by omega)] at h
    rw [ouS_ok _ (by omega)] at h
    rw [inS_ok _ (by omega)] at h
    refine ⟨_, h, fun m hm => ?_⟩
    unfold at3
    rw [NX.get_set _ _ _ _ (by omega) (by omega)]
    by_cases e3 : (m / 64) = (n / 64)
    rotate_left
    · rw [if_neg e3, if_neg (by omega)]
    rw [if_pos e3]
    rw [NX.get_set _ _ _ _ (by omega) (by omega)]
    by_cases e2 : (m / 8 % 8) = (n / 8 % 8)
    rotate_left
    · rw [if_neg e2, if_neg (by omega), e3]
    rw [if_pos e2]
    rw [NX.get_set _ _ _ _ (by omega) (by omega)]
    by_cases e1 : (m % 8) = (n % 8)
    · rw [if_pos e1, if_pos (by omega)]
    · rw [if_neg e1, if_neg (by omega), e3, e2]
  ini_ok := fun m hm => by unfold at3; rw [ini1_get, ini1_get, ini1_get]
noncomputable def sg4 (n : Nat) : GetK (NX (NX (NX (NX FV)))) := (SelK.rec (motive := fun _ => GetK (NX (NX (NX (NX FV))))) (fun m4 => (SelK.rec (motive := fun _ => GetK (NX (NX (NX (NX FV))))) (fun m3 => (SelK.rec (motive := fun _ => GetK (NX (NX (NX (NX FV))))) (fun m2 => (SelK.rec (motive := fun _ => GetK (NX (NX (NX (NX FV))))) (fun m1 => (⟨fun t => (m1 (m2 (m3 (m4 t))))⟩ : GetK (NX (NX (NX (NX FV)))))) (selS FV (Nat.mod n 8)))) (selS (NX FV) (Nat.mod (Nat.div n 8) 8)))) (selS (NX (NX FV)) (Nat.mod (Nat.div n 64) 8)))) (selS (NX (NX (NX FV))) (Nat.div n 512)))
noncomputable def sp4 (n : Nat) : PutK (NX (NX (NX (NX FV)))) := (OuK.rec (motive := fun _ => PutK (NX (NX (NX (NX FV))))) (fun m4 => (OuK.rec (motive := fun _ => PutK (NX (NX (NX (NX FV))))) (fun m3 => (OuK.rec (motive := fun _ => PutK (NX (NX (NX (NX FV))))) (fun m2 => (InK.rec (motive := fun _ => PutK (NX (NX (NX (NX FV))))) (fun m1 => (⟨fun k4 v u4 => NX.rec (motive := fun _ => Bool) (m4 (fun k3 u3 => NX.rec (motive := fun _ => Bool) (m3 (fun k2 u2 => NX.rec (motive := fun _ => Bool) (m2 (fun k1 u1 => NX.rec (motive := fun _ => Bool) (m1 v k1) u1) k2) u2) k3) u3) k4) u4⟩ : PutK (NX (NX (NX (NX FV)))))) (inS FV (Nat.mod n 8)))) (ouS (NX FV) (Nat.mod (Nat.div n 8) 8)))) (ouS (NX (NX FV)) (Nat.mod (Nat.div n 64) 8)))) (ouS (NX (NX (NX FV))) (Nat.div n 512)))
def at4 (t : NX (NX (NX (NX FV)))) (n : Nat) : FV := (((t.get (n / 512)).get (n / 64 % 8)).get (n / 8 % 8)).get (n % 8)
theorem sg4_run (n : Nat) (t : NX (NX (NX (NX FV)))) : (sg4 n).run t = ((selS FV (n % 8)).run ((selS (NX FV) (n / 8 % 8)).run ((selS (NX (NX FV)) (n / 64 % 8)).run ((selS (NX (NX (NX FV))) (n / 512)).run t)))) := rfl
theorem sp4_run (n : Nat) (k4 : NX (NX (NX (NX FV))) → Bool) (v : FV) (u4 : NX (NX (NX (NX FV)))) : (sp4 n).run k4 v u4 = NX.on ((ouS (NX (NX (NX FV))) (n / 512)).run (fun k3 u3 => NX.on ((ouS (NX (NX FV)) (n / 64 % 8)).run (fun k2 u2 => NX.on ((ouS (NX FV) (n / 8 % 8)).run (fun k1 u1 => NX.on ((inS FV (n % 8)).run v k1) u1) k2) u2) k3) u3) k4) u4 := rfl
noncomputable def env4 : EnvI (NX (NX (NX (NX FV)))) where
  sg := sg4
  sp := sp4
  at_ := at4
  size := 4096
  ini := (ini1 (ini1 (ini1 (ini1 undefF))))
  g_ok := fun n hn t => by
    rw [sg4_run, selS_ok _ (by omega), selS_ok _ (by omega), selS_ok _ (by omega), selS_ok _ (by omega)]; rfl
  p_ok := fun n hn k v t h => by
    rw [sp4_run] at h
    rw [ouS_ok _ (by omega)] at h
    rw [ouS_ok _ (by omega)] at h
    rw [ouS_ok _ (by omega)] at h
    rw [inS_ok _ (by omega)] at h
    refine ⟨_, h, fun m hm => ?_⟩
    unfold at4
    rw [NX.get_set _ _ _ _ (by omega) (by omega)]
    by_cases e4 : (m / 512) = (n / 512)
    rotate_left
    · rw [if_neg e4, if_neg (by omega)]
    rw [if_pos e4]
    rw [NX.get_set _ _ _ _ (by omega) (by omega)]
    by_cases e3 : (m / 64 % 8) = (n / 64 % 8)
    rotate_left
    · rw [if_neg e3, if_neg (by omega), e4]
    rw [if_pos e3]
    rw [NX.get_set _ _ _ _ (by omega) (by omega)]
    by_cases e2 : (m / 8 % 8) = (n / 8 % 8)
    rotate_left
    · rw [if_neg e2, if_neg (by omega), e4, e3]
    rw [if_pos e2]
    rw [NX.get_set _ _ _ _ (by omega) (by omega)]
    by_cases e1 : (m % 8) = (n % 8)
    · rw [if_pos e1, if_pos (by omega)]
    · rw [if_neg e1, if_neg (by omega), e4, e3, e2]
  ini_ok := fun m hm => by unfold at4; rw [ini1_get, ini1_get, ini1_get, ini1_get]
end Go.Proofs.YtaadahhjdkkkaaaGreatDoor.Ev
