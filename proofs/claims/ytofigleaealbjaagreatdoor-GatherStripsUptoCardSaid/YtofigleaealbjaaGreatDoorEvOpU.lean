/-
  Slices of slices, conversions, comparisons of addresses: what the evaluator says is what the model does.
-/
import Derived.Test.YtofigleaealbjaaGreatDoorEvOpT
namespace Go.Proofs.YtofigleaealbjaaGreatDoor.Ev
open Go
section
variable {P : Program} {φ : Phi} {H H' : AH} {w w' : World} {o : Oper} {ρ ρ' : Operand → Value} {v : Value}

theorem intOf?_some {x : Option Value} {m : Option Int} (h : intOf? x = some m) : (x = none ∧ m = none) ∨ ∃ k n, x = some (.int k n) ∧ m = some n := by
  unfold intOf? at h
  split at h
  · cases h; exact .inl ⟨rfl, rfl⟩
  · cases h; exact .inr ⟨_, _, rfl, rfl⟩
  · cases h

theorem opt_int (hρ : ∀ x, ValR P φ H w (ρ x) (ρ' x)) {x : Option Operand} {m : Option Int} (h : intOf? (x.map ρ) = some m) : (x.map ρ' = none ∧ m = none) ∨ ∃ k n, x.map ρ' = some (.int k n) ∧ m = some n := by
  rcases intOf?_some h with ⟨h1, h2⟩ | ⟨k, n, h1, h2⟩
  · cases x with
    | none => exact .inl ⟨rfl, h2⟩
    | some x => cases h1
  · cases x with
    | none => cases h1
    | some x =>
      have h1 : ρ x = .int k n := by simpa using h1
      exact .inr ⟨k, n, by simp [val_int (h1 ▸ hρ x)], h2⟩

theorem run_bound {k : IntKind} {n : Int} {y : Nat} {c : BoundsCode} (h0 : 0 ≤ n) (h1 : n ≤ y) : (Instr.sliceBound (.int k n) y c).run P w = .ok n.toNat w := by
  simp only [Instr.sliceBound, asIntOf, Sem.run_bind, Sem.run_pure, Result.andThen_ok, Sem.run_ite]
  rw [if_pos ⟨h0, h1⟩]

/-- The bounds of x[lo:hi:mx], run. -/
theorem run_bounds {n c : Nat} {lo hi mx : Option Value} {l h m : Option Int} (hl : (lo = none ∧ l = none) ∨ ∃ k i, lo = some (.int k i) ∧ l = some i) (hh : (hi = none ∧ h = none) ∨ ∃ k i, hi = some (.int k i) ∧ h = some i)
    (hm : (mx = none ∧ m = none) ∨ ∃ k i, mx = some (.int k i) ∧ m = some i) (h0 : 0 ≤ l.getD 0) (h1 : l.getD 0 ≤ h.getD n) (h2 : h.getD n ≤ m.getD c) (h3 : m.getD c ≤ c) (h4 : m.isSome → h.isSome) :
    (Instr.sliceBounds true n c lo hi mx).run P w = .ok ((l.getD 0).toNat, (h.getD n).toNat, (m.getD c).toNat) w := by
  have B : ∀ {k : IntKind} {i : Int} {y : Nat} {code : BoundsCode}, 0 ≤ i → i ≤ y → (Instr.sliceBound (.int k i) y code).run P w = .ok i.toNat w := run_bound
  rcases hl with ⟨rfl, rfl⟩ | ⟨k1, i1, rfl, rfl⟩ <;> rcases hh with ⟨rfl, rfl⟩ | ⟨k2, i2, rfl, rfl⟩ <;> rcases hm with ⟨rfl, rfl⟩ | ⟨k3, i3, rfl, rfl⟩ <;> simp only [Option.getD_some, Option.getD_none] at h0 h1 h2 h3 ⊢
  all_goals
    unfold Instr.sliceBounds
    simp only [if_true, Option.isSome_some, Option.isSome_none, Bool.false_eq_true, if_false]
  · simp
  · simp at h4
  · rw [Sem.run_bind, Sem.run_pure, Result.andThen_ok, Sem.run_bind, B (by omega) (by omega)]; simp
  · rw [Sem.run_bind, B (by omega) (by omega), Result.andThen_ok, Sem.run_bind, B (by omega) (by omega)]; simp
  · rw [Sem.run_bind, Sem.run_pure, Result.andThen_ok, Sem.run_bind, Sem.run_pure, Result.andThen_ok, Sem.run_bind, B (by omega) (by omega)]; simp
  · simp at h4
  · rw [Sem.run_bind, Sem.run_pure, Result.andThen_ok, Sem.run_bind, B (by omega) (by omega), Result.andThen_ok, Sem.run_bind, B (by omega) (by omega)]; simp
  · rw [Sem.run_bind, B (by omega) (by omega), Result.andThen_ok, Sem.run_bind, B (by omega) (by omega), Result.andThen_ok, Sem.run_bind, B (by omega) (by omega)]; simp

theorem s_slice (hs : Sim P φ H w) (hρ : ∀ x, ValR P φ H w (ρ x) (ρ' x)) {t : TypeId} {x : Operand} {lo hi mx : Option Operand} (ho : o.op = .slice t x lo hi mx)
    (h : sliceA P H t (ρ x) (lo.map ρ) (hi.map ρ) (mx.map ρ) = some v) : OpRun P o ρ' φ H w H v := by
  unfold sliceA at h
  split at h
  · rename_i e a n c l hh m he hx hl hhi hm
    have hu := elem_some he
    simp only at h
    split at h
    · rename_i hc
      obtain ⟨c1, c2, c3, c4, c5, c6, c7⟩ := hc
      obtain ⟨ie, hie⟩ := sz_info c7
      have ol := opt_int hρ hl
      have oh := opt_int hρ hhi
      have om := opt_int hρ hm
      have step : ∀ (a' : Option Addr) (c' : Nat), ρ' x = .slice a' n c' → hh.getD n ≤ m.getD c' → m.getD c' ≤ c' →
          (execOp ρ' o).run P w = .ok (.value (.slice (if (m.getD c').toNat = (l.getD 0).toNat then a' else a'.map (·.add ((l.getD 0).toNat * szT P e))) ((hh.getD n).toNat - (l.getD 0).toNat) ((m.getD c').toNat - (l.getD 0).toNat))) w := fun a' c' h1 h2 h3 => by
        simp only [execOp, ho, Instr.sliceAt, Sem.run_bind, run_underlying hu, Result.andThen_ok, Instr.slice, h1, run_bounds ol oh om c1 c2 h2 h3 c5, run_size hie, Sem.run_pure]
      cases a with
      | none =>
        simp only at h
        cases h
        have h1 := val_nilslice (hx ▸ hρ x)
        have hr := step none c h1 c3 c4
        refine OpRun.value hs (v' := .slice none ((hh.getD n).toNat - (l.getD 0).toNat) ((m.getD c).toNat - (l.getD 0).toNat)) (by simpa using hr) ?_
        rw [show (hh.getD n - l.getD 0).toNat = (hh.getD n).toNat - (l.getD 0).toNat by omega, show (m.getD c - l.getD 0).toNat = (m.getD c).toNat - (l.getD 0).toNat by omega]
        exact val_refl rfl
      | some p =>
        simp only at h
        split at h
        · rename_i C e' fr hcs
          cases hee : Nat.beq e' e with
          | false => rw [hee] at h; cases h
          | true =>
            rw [hee] at h
            have hee := Nat.eq_of_beq_eq_true hee
            subst hee
            cases h
            obtain ⟨b, hb, hlv, hobj⟩ := cells_some hcs
            obtain ⟨q, c', h1, h2⟩ := val_slice (hx ▸ hρ x)
            have hcc : c ≤ c' := by
              rcases h2 with h2 | ⟨_, rfl, rfl, _⟩ | ⟨_, _, _, _, _, _, _, _, _, _, _, _, _, h2⟩ | ⟨_, _, rfl, _⟩
              · exact absurd h2 (not_dead hb hlv)
              · exact Nat.le_refl _
              · rcases h2 with rfl | ⟨_, _, h2, _⟩
                · exact Nat.le_refl _
                · exact h2
              · exact Nat.zero_le _
            have hm2 : m.getD c ≤ m.getD c' := by cases m <;> simp <;> omega
            have hm3 : m.getD c' ≤ c' := by cases m <;> simp at * <;> omega
            have hr := step (some q) c' h1 (by omega) hm3
            refine OpRun.value hs hr ?_
            rw [show (hh.getD n - l.getD 0).toNat = (hh.getD n).toNat - (l.getD 0).toNat by omega, show (m.getD c - l.getD 0).toNat = (m.getD c).toNat - (l.getD 0).toNat by omega]
            have hb' : ∀ a : Addr, ∀ k, (a.add k).block = a.block := fun a k => by unfold Addr.add; split <;> rfl
            by_cases hz0 : (m.getD c').toNat = (l.getD 0).toNat
            · -- nothing is left of the room in the world: nor in the evaluator
              have hz1 : (m.getD c).toNat = (l.getD 0).toNat := by omega
              rw [if_pos hz0, hz0, hz1]
              refine .part (.cell (.atom ?_))
              rw [show (hh.getD ↑n).toNat - (l.getD 0).toNat = 0 by omega, Nat.sub_self]
              refine .slice ?_
              rcases h2 with h2 | ⟨_, _, _, k⟩ | ⟨_, _, _, _, _, _, _, g3, _⟩ | ⟨_, _, k3, k4, _⟩
              · exact absurd h2 (not_dead hb hlv)
              · exact .inr (.inl ⟨rfl, rfl, rfl, by rw [hb']; exact k⟩)
              · exact .inr (.inl ⟨rfl, rfl, rfl, by rw [hb']; exact ⟨_, g3⟩⟩)
              · omega
            · rw [if_neg hz0]
              refine .part (.cell (.atom (.slice ?_)))
              rcases h2 with h2 | ⟨e1, e2, e3, _⟩ | ⟨g1, g2, δ, C2, e2, fr2, b2, g3, g4, g5, g6, g7, g8, g9⟩ | ⟨_, _, k3, k4, _⟩
              · exact absurd h2 (not_dead hb hlv)
              · exfalso
                subst e1 e2 e3
                omega
              · rw [hb] at g5; obtain rfl := Option.some.inj g5
                rw [hobj] at g6; cases g6
                show SliceR P φ H w _ (q.add ((l.getD 0).toNat * szT P e')) _ _ _
                rw [add_none g1, add_none g2]
                have hmul : (l.getD 0).toNat * szT P e' + ((m.getD c).toNat - (l.getD 0).toNat) * szT P e' = (m.getD c).toNat * szT P e' := by
                  rw [← Nat.add_mul]; congr 1; omega
                have hmul' : (l.getD 0).toNat * szT P e' + ((m.getD c').toNat - (l.getD 0).toNat) * szT P e' = (m.getD c').toNat * szT P e' := by
                  rw [← Nat.add_mul]; congr 1; omega
                have hle : (m.getD c).toNat * szT P e' ≤ c * szT P e' := Nat.mul_le_mul_right _ (by omega)
                refine .inr (.inr (.inl ⟨rfl, rfl, δ, C, e', fr, b, g3, by simp only; omega, hb, hobj, by omega, by simp only; omega, ?_⟩))
                cases m with
                | some m => exact .inl rfl
                | none =>
                  simp only [Option.getD_none, Int.toNat_natCast] at *
                  rcases g9 with rfl | ⟨k1, k2, k3, C', fr', k4, k5⟩
                  · exact .inl rfl
                  · exact .inr ⟨k1, by omega, by omega, C', fr', k4, by omega⟩
              · omega
        · cases h
    · cases h
  · cases h

theorem bytes_cons {x : Value} {l : List Value} {bs : List UInt8} (h : bytesOfCells (x :: l) = some bs) : ∃ n bs', x = .int .u8 n ∧ bytesOfCells l = some bs' ∧ bs = UInt8.ofNat n.toNat :: bs' := by
  cases x <;> try (simp [bytesOfCells] at h; done)
  rename_i k n
  cases k <;> try (simp [bytesOfCells] at h; done)
  cases hb : bytesOfCells l with
  | none => simp [bytesOfCells, hb] at h
  | some bs' => simp [bytesOfCells, hb] at h; exact ⟨n, bs', rfl, rfl, h.symm⟩

theorem bytes_cells : ∀ (l l' : List Value) (bs : List UInt8), l.length = l'.length → (∀ (i : Nat) (x y : Value), l[i]? = some x → l'[i]? = some y → CellR P φ H w x y) → bytesOfCells l = some bs → bytesOfCells l' = some bs
  | [], [], _, _, _, h => h
  | x :: l, y :: l', bs, hl, hr, h => by
    obtain ⟨n, bs', rfl, hb, rfl⟩ := bytes_cons h
    have : y = .int .u8 n := (cell_eq rfl (hr 0 _ y rfl rfl)).symm
    subst this
    have ih := bytes_cells l l' bs' (by simpa using hl) (fun i u v hu hv => hr (i + 1) u v (by simpa using hu) (by simpa using hv)) hb
    simp [bytesOfCells, ih]

theorem runes_cons {x : Value} {l : List Value} {acc bs : ByteArray} (h : runesOfCells (x :: l) acc = some bs) : ∃ n, x = .int .i32 n ∧ runesOfCells l (acc ++ Utf8.encode n) = some bs := by
  cases x <;> try (simp [runesOfCells] at h; done)
  rename_i k n
  cases k <;> try (simp [runesOfCells] at h; done)
  exact ⟨n, rfl, h⟩

theorem runes_cells : ∀ (l l' : List Value) (acc bs : ByteArray), l.length = l'.length → (∀ (i : Nat) (x y : Value), l[i]? = some x → l'[i]? = some y → CellR P φ H w x y) → runesOfCells l acc = some bs → runesOfCells l' acc = some bs
  | [], [], _, _, _, _, h => h
  | x :: l, y :: l', acc, bs, hl, hr, h => by
    obtain ⟨n, rfl, hb⟩ := runes_cons h
    have : y = .int .i32 n := (cell_eq rfl (hr 0 _ y rfl rfl)).symm
    subst this
    exact runes_cells l l' _ bs (by simpa using hl) (fun i u v hu hv => hr (i + 1) u v (by simpa using hu) (by simpa using hv)) hb
end
end Go.Proofs.YtofigleaealbjaaGreatDoor.Ev
