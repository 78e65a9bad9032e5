/-
  sync.Once's slow road and its door; strings' Replacer at its first use.
-/
import Derived.Test.YtnlkgnoogcakjaaGreatDoorEvOnceW
namespace Go.Proofs.YtnlkgnoogcakjaaGreatDoor.Once
open Go
set_option maxRecDepth 100000
set_option maxHeartbeats 3200000

theorem slow (b off : Nat) (rv : Addr) (w : World) (R : World → Prop)
    (h0 : w.cell? ⟨b, off, none⟩ = some (.int .u32 0)) (h1 : w.cell? ⟨b, off + 1, none⟩ = some (.int .i32 0))
    (f0 : w.frozen? ⟨b, off, none⟩ = false) (f1 : w.frozen? ⟨b, off + 1, none⟩ = false)
    (hf : Calls Tryz.prog 61 #[.pointer (some rv)] (w.setCell ⟨b, off + 1, none⟩ (.int .i32 1)) fun e w2 => e = .returned (.tuple #[]) ∧ R w2)
    (hR : ∀ w2, R w2 → (∃ x, w2.cell? ⟨b, off, none⟩ = some x) ∧ w2.cell? ⟨b, off + 1, none⟩ = some (.int .i32 1) ∧ w2.frozen? ⟨b, off, none⟩ = false ∧ w2.frozen? ⟨b, off + 1, none⟩ = false) :
    Calls Tryz.prog 70 #[.pointer (some ⟨b, off, none⟩), .func (.func 61) #[.pointer (some rv)] #[]] w fun e w' => e = .returned (.tuple #[]) ∧
      ∃ w2, R w2 ∧ w' = (w2.drew.setCell ⟨b, off, none⟩ (.int .u32 1)).setCell ⟨b, off + 1, none⟩ (.int .i32 0) := by
  have hl := run_call_load (P := Tryz.prog) Tryz.func76 (by kernel_rfl) (by kernel_rfl) (by kernel_rfl) .u32 (by kernel_rfl) (w := w.setCell ⟨b, off + 1, none⟩ (.int .i32 1)) (a := ⟨b, off, none⟩) (x := 0) ((World.cell?_setCell_other _ ⟨b, off + 1, none⟩ ⟨b, off, none⟩ _ (by simp)).trans h0)
  have hnot : ∀ (x : Bool) (w : World), (Op.unary .not (.bool x)).run Tryz.prog w = .ok (.bool (!x)) w := fun _ _ => rfl
  go_enter_defers Tryz.func70, Tryz.ntmps70
  go_wp2_with (go_at_call 77; refine (lock_free ⟨b, off + 1, none⟩ _ (by go_simp) (by go_simp)).mono ?_; rintro e w' ⟨rfl, rfl⟩)
  go_wp2_with (first | (go_at_call 61; refine hf.mono ?_; rintro e w2 ⟨rfl, hR2⟩) | (go_at_call 69; go_in))
  obtain ⟨⟨x0, c0⟩, c1, z0, z1⟩ := hR w2 hR2
  -- the door: two deferred calls, the last laid first
  refine leaves_cons (f := 79) (args := #[.pointer (some ⟨b, off, none⟩), .bool true]) (by simp) (by simp [go_sem]) ?_
  refine (store_deferred ⟨b, off, none⟩ x0 .returning _ c0 z0).mono ?_
  rintro e u' w'' ⟨rfl, rfl, rfl⟩
  refine leaves_cons (f := 78) (args := #[.pointer (some ⟨b, off + 1, none⟩)]) (by simp [settle]) (by simp [go_sem]) ?_
  refine (unlock_deferred ⟨b, off + 1, none⟩ _ _ ?_ (by simp [z1])).mono ?_
  · refine (World.cell?_setCell_other _ ⟨b, off, none⟩ ⟨b, off + 1, none⟩ _ (by simp)).trans ?_
    rw [World.cell?_drew]
    exact c1
  rintro e u' w'' ⟨rfl, rfl, rfl⟩
  have : ∃ w3, R w3 ∧ ((w2.drew.setCell ⟨b, off, none⟩ (.int .u32 1)).setCell ⟨b, off + 1, none⟩ (.int .i32 0)) = ((w3.drew.setCell ⟨b, off, none⟩ (.int .u32 1)).setCell ⟨b, off + 1, none⟩ (.int .i32 0)) := ⟨w2, hR2, rfl⟩
  simpa [Leaves, settle, results, Tryz.results70] using this

theorem door (b off : Nat) (rv : Addr) (w : World) (R : World → Prop)
    (h0 : w.cell? ⟨b, off, none⟩ = some (.int .u32 0)) (h1 : w.cell? ⟨b, off + 1, none⟩ = some (.int .i32 0))
    (f0 : w.frozen? ⟨b, off, none⟩ = false) (f1 : w.frozen? ⟨b, off + 1, none⟩ = false)
    (hf : Calls Tryz.prog 61 #[.pointer (some rv)] (w.setCell ⟨b, off + 1, none⟩ (.int .i32 1)) fun e w2 => e = .returned (.tuple #[]) ∧ R w2)
    (hR : ∀ w2, R w2 → (∃ x, w2.cell? ⟨b, off, none⟩ = some x) ∧ w2.cell? ⟨b, off + 1, none⟩ = some (.int .i32 1) ∧ w2.frozen? ⟨b, off, none⟩ = false ∧ w2.frozen? ⟨b, off + 1, none⟩ = false) :
    Calls Tryz.prog 60 #[.pointer (some ⟨b, off, none⟩), .func (.func 61) #[.pointer (some rv)] #[]] w fun e w' => e = .returned (.tuple #[]) ∧
      ∃ w2, R w2 ∧ w' = (w2.drew.setCell ⟨b, off, none⟩ (.int .u32 1)).setCell ⟨b, off + 1, none⟩ (.int .i32 0) := by
  have hl := run_call_load (P := Tryz.prog) Tryz.func76 (by kernel_rfl) (by kernel_rfl) (by kernel_rfl) .u32 (by kernel_rfl) (w := w) (a := ⟨b, off, none⟩) (x := 0) h0
  have hnot : ∀ (x : Bool) (w : World), (Op.unary .not (.bool x)).run Tryz.prog w = .ok (.bool (!x)) w := fun _ _ => rfl
  go_enter Tryz.func60, Tryz.ntmps60
  go_wp2_with (first | (go_at_call 70; refine (slow b off rv w R h0 h1 f0 f1 hf hR).mono ?_; rintro e w3 ⟨rfl, w2, hR2, rfl⟩) | (go_at_call 69; go_in))
  go_end0
  exact ⟨rfl, w2, hR2, rfl⟩

/-- '(*strings.Replacer).Replace', at its first use. -/
theorem replace (b off : Nat) (s : ByteArray) (w : World) (R : World → Prop) (S : Value → World → Prop)
    (h0 : w.cell? ⟨b, off, none⟩ = some (.int .u32 0)) (h1 : w.cell? ⟨b, off + 1, none⟩ = some (.int .i32 0))
    (f0 : w.frozen? ⟨b, off, none⟩ = false) (f1 : w.frozen? ⟨b, off + 1, none⟩ = false)
    (hf : Calls Tryz.prog 61 #[.pointer (some ⟨b, off, none⟩)] (w.setCell ⟨b, off + 1, none⟩ (.int .i32 1)) fun e w2 => e = .returned (.tuple #[]) ∧ R w2)
    (hR : ∀ w2, R w2 → (∃ x, w2.cell? ⟨b, off, none⟩ = some x) ∧ w2.cell? ⟨b, off + 1, none⟩ = some (.int .i32 1) ∧ w2.frozen? ⟨b, off, none⟩ = false ∧ w2.frozen? ⟨b, off + 1, none⟩ = false)
    (hS : ∀ w2, R w2 → ∃ q : Addr, w2.cell? ⟨b, off + 3, none⟩ = some (.iface 130 (.pointer (some q))) ∧
      Calls Tryz.prog 137 #[.pointer (some q), .string s] ((w2.drew.setCell ⟨b, off, none⟩ (.int .u32 1)).setCell ⟨b, off + 1, none⟩ (.int .i32 0)) fun e w' => ∃ t : ByteArray, e = .returned (.string t) ∧ S (.string t) w') :
    Calls Tryz.prog 44 #[.pointer (some ⟨b, off, none⟩), .string s] w fun e w' => ∃ t : ByteArray, e = .returned (.string t) ∧ S (.string t) w' := by
  go_enter Tryz.func44, Tryz.ntmps44
  have hmf : ∀ w : World, (Instr.makeFunc (.func 61) #[.pointer (some ⟨b, off, none⟩)] #[]).run Tryz.prog w = .ok (.func (.func 61) #[.pointer (some ⟨b, off, none⟩)] #[]) w := fun _ => rfl
  have hm : ∀ (q : Addr) (w : World), (callMethod (.iface 130 (.pointer (some q))) "Replace" #[.string s]).run Tryz.prog w = .ok (.enter 137 #[.pointer (some q), .string s]) w := fun _ _ => by kernel_rfl
  go_wp2_with (first
    | (go_at_call 60
       refine (door b off ⟨b, off, none⟩ w R h0 h1 f0 f1 hf hR).mono ?_
       rintro e w3 ⟨rfl, w2, hR2, rfl⟩
       obtain ⟨q, hq, hcall⟩ := hS w2 hR2
       have hq1 : ((w2.drew.setCell ⟨b, off, none⟩ (.int .u32 1)).setCell ⟨b, off + 1, none⟩ (.int .i32 0)).cell? ⟨b, off + 3, none⟩ = some (.iface 130 (.pointer (some q))) :=
         (World.cell?_setCell_other _ ⟨b, off + 1, none⟩ ⟨b, off + 3, none⟩ _ (by simp)).trans ((World.cell?_setCell_other _ ⟨b, off, none⟩ ⟨b, off + 3, none⟩ _ (by simp)).trans (by rw [World.cell?_drew]; exact hq))
       have hmq := hm q)
    | (go_at_call 137; refine hcall.mono ?_; rintro e w4 ⟨t, rfl, hS4⟩))
  go_ret
  exact ⟨t, rfl, hS4⟩
end Go.Proofs.YtnlkgnoogcakjaaGreatDoor.Once
