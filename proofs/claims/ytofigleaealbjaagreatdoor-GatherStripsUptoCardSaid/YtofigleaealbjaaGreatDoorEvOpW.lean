/-
  Comparisons of addresses: what the evaluator says is what the model does.
-/
import Derived.Test.YtofigleaealbjaaGreatDoorEvOpV
namespace Go.Proofs.YtofigleaealbjaaGreatDoor.Ev
open Go
section
variable {P : Program} {φ : Phi} {H H' : AH} {w w' : World} {o : Oper} {ρ ρ' : Operand → Value} {v : Value}

theorem plain_some {c : Nat} (h : H.plain c = true) : ∃ b C e, H.blk c = some b ∧ H.live c b = true ∧ b.exact = true ∧ b.obj = .cells C e (0, 0) := by
  unfold AH.plain at h
  split at h
  · rename_i b hb
    simp only [Bool.and_eq_true] at h
    obtain ⟨⟨h1, h2⟩, h3⟩ := h
    cases hobj : b.obj with
    | cells C e fr =>
      obtain ⟨lo, hi⟩ := fr
      rw [hobj] at h3
      simp at h3
      obtain ⟨rfl, rfl⟩ := h3
      exact ⟨b, C, e, hb, h1, h2, hobj⟩
    | _ => rw [hobj] at h3; cases h3
  · cases h

theorem plain_real (hs : Sim P φ H w) {p q : Addr} (hp : AddrR φ H p q) (h : H.plain p.block = true) : p.spot = none ∧ q.spot = none ∧ q.off = p.off ∧ φ p.block = some (q.block, 0) ∧ ∃ C' e, w.heap[q.block]? = some (.cells C' e (0, 0)) := by
  obtain ⟨b, C, e, hb, hl, hx, hobj⟩ := plain_some h
  have hc : H.cells p.block = some (C, e, (0, 0)) := by simp [AH.cells, hb, hl, hobj]
  obtain ⟨b2, δ, C', fr', lz⟩ := lies hs hp hc
  have hb2 := lz.blk
  rw [hb] at hb2; obtain rfl := Option.some.inj hb2
  obtain ⟨rfl, _, rfl⟩ := lz.exact hx
  exact ⟨lz.pspot, lz.qspot, by rw [lz.off]; omega, lz.phi, C', e, lz.real⟩

theorem run_sameAddr {a b : Addr} {C D : Array Value} {e f : TypeId} (ha : w.heap[a.block]? = some (.cells C e (0, 0))) (hb : w.heap[b.block]? = some (.cells D f (0, 0))) : (sameAddr a b).run P w = .ok (a == b) w := by
  unfold sameAddr
  by_cases h : a.block = b.block
  · have : (a.block == b.block) = true := by simpa using h
    simp only [this, if_true, Sem.run_pure]
  · have h1 : (a.block == b.block) = false := by simpa using h
    have h2 : (a == b) = false := by rw [beq_eq_false_iff_ne]; exact fun e => h (by rw [e])
    have fa : ∀ n, w.frozen? ⟨a.block, n, none⟩ = false := fun n => by simp [World.frozen?, ha]
    have fb : ∀ n, w.frozen? ⟨b.block, n, none⟩ = false := fun n => by simp [World.frozen?, hb]
    have fa' : w.frozen? a = false := by simp [World.frozen?, ha]
    have fb' : w.frozen? b = false := by simp [World.frozen?, hb]
    have sa : w.shape? a.block = some (e, C.size) := by simp [World.shape?, ha]
    have sb : w.shape? b.block = some (f, D.size) := by simp [World.shape?, hb]
    simp [h1, h2, fa', fb', noView, viewAt, sa, sb, mayBeOne, stringish, fa, fb]

theorem run_eq (op : BinOp) {t : TypeId} {x y : Operand} {yt : TypeId} {a b : Value} {r : Bool} (ho : o.op = .binOp op t x y yt) (ha : ρ' x = a) (hb : ρ' y = b) (hr : (Op.equal t a b).run P w = .ok r w)
    (hc : (∃ p, a = .pointer p) ∨ (∃ p n c, a = .slice p n c) ∨ (∃ m, a = .map m) ∨ (∃ d z, a = .iface d z) ∨ (a = .nilIface ∧ ∃ d z, b = .iface d z)) :
    (op = .eql → (execOp ρ' o).run P w = .ok (.value (.bool r)) w) ∧ (op = .neq → (execOp ρ' o).run P w = .ok (.value (.bool (!r))) w) := by
  have hg : ∀ op, (eqGuard op t x y a b).run P w = .ok () w := fun op => by
    unfold eqGuard
    rcases hc with ⟨p, rfl⟩ | ⟨p, n, c, rfl⟩ | ⟨m, rfl⟩ | ⟨d, z, rfl⟩ | ⟨rfl, d, z, rfl⟩ <;> cases op <;> simp
  have hb1 : (binOp .eql t a b).run P w = .ok (.bool r) w := by
    rcases hc with ⟨p, rfl⟩ | ⟨p, n, c, rfl⟩ | ⟨m, rfl⟩ | ⟨d, z, rfl⟩ | ⟨rfl, d, z, rfl⟩ <;> simp [binOp, hr]
  have hb2 : (binOp .neq t a b).run P w = .ok (.bool (!r)) w := by
    rcases hc with ⟨p, rfl⟩ | ⟨p, n, c, rfl⟩ | ⟨m, rfl⟩ | ⟨d, z, rfl⟩ | ⟨rfl, d, z, rfl⟩ <;> simp [binOp, hr]
  refine ⟨fun h => ?_, fun h => ?_⟩
  · subst h; simp only [execOp, ho, ha, hb, Sem.run_bind, hg, Result.andThen_ok, hb1, Sem.run_pure]
  · subst h; simp only [execOp, ho, ha, hb, Sem.run_bind, hg, Result.andThen_ok, hb2, Sem.run_pure]


theorem eq_sound (d : Nat) (hs : Sim P φ H w) {t : TypeId} {x y a b : Value} {r : Bool} (hx : ValR P φ H w x a) (hy : ValR P φ H w y b) (h : eqA P H t x y = some r) :
    (Op.equalIn (d + 1) t a b).run P w = .ok r w ∧ ((∃ p, a = .pointer p) ∨ (∃ p n c, a = .slice p n c) ∨ (∃ m, a = .map m) ∨ (∃ d z, a = .iface d z) ∨ (a = .nilIface ∧ ∃ d z, b = .iface d z)) := by
  unfold eqA at h
  split at h
  · rename_i e p hu
    cases h
    obtain ⟨q, rfl, _⟩ := val_ptr hx
    obtain rfl := val_nilptr hy
    exact ⟨by simp [Op.equalIn, run_underlying hu], .inl ⟨_, rfl⟩⟩
  · rename_i e p hu
    cases h
    obtain rfl := val_nilptr hx
    obtain ⟨q, rfl, _⟩ := val_ptr hy
    exact ⟨by simp [Op.equalIn, run_underlying hu], .inl ⟨_, rfl⟩⟩
  · rename_i e p1 p2 hu
    split at h
    · rename_i hc
      obtain ⟨h0, s1, s2, pl1, pl2⟩ := hc
      cases h
      obtain ⟨q1, rfl, r1⟩ := val_ptr hx
      obtain ⟨q2, rfl, r2⟩ := val_ptr hy
      obtain ⟨_, t1, o1, f1, C1, e1, w1⟩ := plain_real hs r1 pl1
      obtain ⟨_, t2, o2, f2, C2, e2, w2⟩ := plain_real hs r2 pl2
      obtain ⟨i, hi⟩ : ∃ i, P.info? e = some i := by
        cases hi : P.info? e with
        | none => exact absurd (by simp [szT, hi]) h0
        | some i => exact ⟨i, rfl⟩
      refine ⟨?_, .inl ⟨_, rfl⟩⟩
      have hsame := run_sameAddr (P := P) w1 w2
      have heq : (q1 == q2) = (Nat.beq p1.block p2.block && Nat.beq p1.off p2.off) := by
        rw [Bool.eq_iff_iff, beq_iff_eq, Bool.and_eq_true, Nat.beq_eq, Nat.beq_eq]
        constructor
        · intro e; subst e
          refine ⟨?_, by omega⟩
          obtain ⟨b1, _, _, hb1, _, hx1, _⟩ := plain_some pl1
          obtain ⟨b2, _, _, hb2, _, hx2, _⟩ := plain_some pl2
          have := hs.sep _ _ _ _ _ _ _ f1 f2 hb1 hb2
          rw [(hs.wf.exact _ _ hb1 hx1).1, (hs.wf.exact _ _ hb2 hx2).1] at this
          exact this
        · rintro ⟨e1, e2⟩
          rw [addr_eta t1, addr_eta t2]
          rw [e1, f2] at f1
          have : q2.block = q1.block := by simpa using f1
          rw [this, o1, o2, e2]
      rw [← heq]
      simp [Op.equalIn, run_underlying hu, run_size hi, h0, hsame]
    · cases h
  · rename_i e p n c n' c' hu
    cases h
    obtain ⟨q, c2, rfl, _⟩ := val_slice hx
    obtain rfl := val_nilslice hy
    exact ⟨by simp [Op.equalIn, run_underlying hu], .inr (.inl ⟨_, _, _, rfl⟩)⟩
  · rename_i e n c p n' c' hu
    cases h
    obtain rfl := val_nilslice hx
    obtain ⟨q, c2, rfl, _⟩ := val_slice hy
    exact ⟨by simp [Op.equalIn, run_underlying hu], .inr (.inl ⟨_, _, _, rfl⟩)⟩
  · rename_i k e m hu
    cases h
    obtain ⟨m', rfl, _⟩ := val_map hx
    obtain rfl := val_nilmap hy
    exact ⟨by simp [Op.equalIn, run_underlying hu], .inr (.inr (.inl ⟨_, rfl⟩))⟩
  · rename_i k e m hu
    cases h
    obtain rfl := val_nilmap hx
    obtain ⟨m', rfl, _⟩ := val_map hy
    exact ⟨by simp [Op.equalIn, run_underlying hu], .inr (.inr (.inl ⟨_, rfl⟩))⟩
  · rename_i m dd z hu
    cases h
    obtain ⟨z', rfl⟩ := val_iface hx
    obtain rfl := val_niliface hy
    exact ⟨by simp [Op.equalIn, run_underlying hu], .inr (.inr (.inr (.inl ⟨_, _, rfl⟩)))⟩
  · rename_i m dd z hu
    cases h
    obtain rfl := val_niliface hx
    obtain ⟨z', rfl⟩ := val_iface hy
    exact ⟨by simp [Op.equalIn, run_underlying hu], .inr (.inr (.inr (.inr ⟨rfl, _, _, rfl⟩)))⟩
  · cases h

theorem s_eql (hs : Sim P φ H w) (hρ : ∀ x, ValR P φ H w (ρ x) (ρ' x)) {t yt : TypeId} {x y : Operand} (ho : o.op = .binOp .eql t x y yt) {r : Bool} (h : eqA P H t (ρ x) (ρ y) = some r) : OpRun P o ρ' φ H w H (.bool r) := by
  obtain ⟨h1, h2⟩ := eq_sound 9999 hs (hρ x) (hρ y) h
  exact OpRun.value hs ((run_eq .eql ho rfl rfl h1 h2).1 rfl) (val_refl rfl)

theorem s_neq (hs : Sim P φ H w) (hρ : ∀ x, ValR P φ H w (ρ x) (ρ' x)) {t yt : TypeId} {x y : Operand} (ho : o.op = .binOp .neq t x y yt) {r : Bool} (h : eqA P H t (ρ x) (ρ y) = some r) : OpRun P o ρ' φ H w H (.bool (!r)) := by
  obtain ⟨h1, h2⟩ := eq_sound 9999 hs (hρ x) (hρ y) h
  exact OpRun.value hs ((run_eq .neq ho rfl rfl h1 h2).2 rfl) (val_refl rfl)
end
end Go.Proofs.YtofigleaealbjaaGreatDoor.Ev
