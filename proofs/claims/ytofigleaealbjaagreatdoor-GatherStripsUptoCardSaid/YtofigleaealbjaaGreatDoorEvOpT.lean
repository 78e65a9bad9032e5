/-
  Each operation but calls, further: what the evaluator says is what the model does.
-/
import Derived.Test.YtofigleaealbjaaGreatDoorEvOpS
namespace Go.Proofs.YtofigleaealbjaaGreatDoor.Ev
open Go
section
variable {P : Program} {φ : Phi} {H H' : AH} {w w' : World} {o : Oper} {ρ ρ' : Operand → Value} {v : Value}

theorem s_pick (hs : Sim P φ H w) (hρ : ∀ x, ValR P φ H w (ρ x) (ρ' x)) {c a b : Operand} (ho : o.op = .pick c a b) {t : Bool} (hc : ρ c = .bool t) :
    OpRun P o ρ' φ H w H (if t then ρ a else ρ b) := by
  have h := val_bool (hc ▸ hρ c)
  refine OpRun.value hs (v' := if t then ρ' a else ρ' b) (by simp [execOp, ho, h, asBool]) ?_
  cases t
  · exact hρ b
  · exact hρ a

theorem s_extract (hs : Sim P φ H w) (hρ : ∀ x, ValR P φ H w (ρ x) (ρ' x)) {t : Operand} {ix : Nat} (ho : o.op = .extract t ix) {vs : Array Value} (ht : ρ t = .tuple vs) (hv : vs[ix]? = some v) :
    OpRun P o ρ' φ H w H v := by
  obtain ⟨vs', h1, h2⟩ := val_tuple (ht ▸ hρ t)
  have hlt : ix < vs'.size := by rw [← h2.1]; exact (Array.getElem?_eq_some_iff.1 hv).1
  have hv' := Array.getElem?_eq_getElem hlt
  exact OpRun.value hs (v' := vs'[ix]) (by simp [execOp, ho, Instr.extract, h1, hv']) (.part (h2.2 ix v _ hv hv'))

theorem s_build (hs : Sim P φ H w) (hρ : ∀ x, ValR P φ H w (ρ x) (ρ' x)) {t : TypeId} {parts : Array (Nat × Operand)} (ho : o.op = .build t parts)
    (h : buildA P t (parts.toList.map fun p => (p.1, ρ p.2)) = some v) : OpRun P o ρ' φ H w H v := by
  unfold buildA at h
  split at h
  · rename_i z hz hp
    split at h
    · rename_i cells hb
      cases h
      obtain ⟨i, hi, hiz, hf⟩ := zero_info hz
      have hparts : ∀ p ∈ parts.toList, ArrR (CellR P φ H w) (ρ p.2).cells (ρ' p.2).cells := fun p hp' => val_cells (hρ p.2) (by
        have := List.all_eq_true.1 hp (p.1, ρ p.2) (List.mem_map.2 ⟨p, hp', rfl⟩); exact this)
      have key : ∃ D', P.built t (parts.toList.map fun p => (p.1, ρ' p.2)) = some D' ∧ ArrR (CellR P φ H w) cells D' := by
        unfold Program.built at hb ⊢
        simp only [hi] at hb ⊢
        cases hu : P.underlying t with
        | none => simp [hu] at hb
        | some d =>
          cases d <;> try (simp [hu] at hb; done)
          case array n e =>
            simp only [hu] at hb ⊢
            cases hie : P.info? e with
            | none => simp [hie] at hb
            | some ie =>
              simp only [hie, hiz] at hb ⊢
              exact fill_rel _ (fun p : Nat × Operand => (p.1, ρ p.2)) (fun p => (p.1, ρ' p.2)) (fun _ => rfl) _ _ _ _ hparts (zero_cells hf) hb
          case struct fields =>
            simp only [hu] at hb ⊢
            cases hpl : fields.toList.mapM (fun f => (P.info? f.type).map fun i => (f.offset, i.size)) with
            | none => simp [hpl] at hb
            | some places =>
              simp only [hpl, hiz] at hb ⊢
              exact fill_rel _ (fun p : Nat × Operand => (p.1, ρ p.2)) (fun p => (p.1, ρ' p.2)) (fun _ => rfl) _ _ _ _ hparts (zero_cells hf) hb
      obtain ⟨D', hD, hrel⟩ := key
      refine OpRun.value hs (v' := .agg D') ?_ (.part (.agg hrel))
      have := run_build w t (parts.map fun p => (p.1, ρ' p.2)) D' (by simpa using hD)
      simp only [execOp, ho, Sem.run_bind, this, Result.andThen_ok, Sem.run_pure]
    · cases h
  · cases h

theorem s_nilCheck_ptr (hs : Sim P φ H w) (hρ : ∀ x, ValR P φ H w (ρ x) (ρ' x)) {x : Operand} (ho : o.op = .nilCheck x) {p : Addr} (hx : ρ x = .pointer (some p)) : OpRun P o ρ' φ H w H (.pointer (some p)) := by
  obtain ⟨q, h1, h2⟩ := val_ptr (hx ▸ hρ x)
  exact OpRun.value hs (v' := .pointer (some q)) (by simp [execOp, ho, h1]) (.part (.cell (.atom (.ptr h2))))

theorem s_nilCheck_func (hs : Sim P φ H w) (hρ : ∀ x, ValR P φ H w (ρ x) (ρ' x)) {x : Operand} (ho : o.op = .nilCheck x) {f : FuncId} {a b : Array Value} (hx : ρ x = .func (.func f) a b) :
    OpRun P o ρ' φ H w H (.func (.func f) a b) := by
  obtain ⟨h0, y', h1, h2⟩ := val_func (hx ▸ hρ x)
  subst h0
  exact OpRun.value hs (v' := .func (.func f) #[] y') (by simp [execOp, ho, h1]) (.part (.cell (.func h2)))

theorem AddrR.add {p q : Addr} (h : AddrR φ H p q) (n : Nat) : AddrR φ H (p.add n) (q.add n) := by
  have hb : ∀ a : Addr, (a.add n).block = a.block := fun a => by unfold Addr.add; split <;> rfl
  rcases h with h | ⟨h1, h2, δ, h3, h4⟩
  · exact .inl (by rw [hb]; exact h)
  · rw [add_none h1, add_none h2]
    exact .inr ⟨rfl, rfl, δ, h3, by simp only; omega⟩

theorem s_fieldAddr (hs : Sim P φ H w) (hρ : ∀ x, ValR P φ H w (ρ x) (ρ' x)) {s : TypeId} {x : Operand} {f : Nat} (ho : o.op = .fieldAddr s x f) (h : fieldAddrA P s (ρ x) f = some v) : OpRun P o ρ' φ H w H v := by
  unfold fieldAddrA at h
  split at h
  · rename_i fields p hu hx
    split at h
    · rename_i fl hfl
      cases h0 : Nat.beq (szT P fl.type) 0 with
      | true => rw [h0] at h; cases h
      | false =>
        rw [h0] at h; cases h
        have hne : szT P fl.type ≠ 0 := fun e => by rw [e] at h0; cases h0
        obtain ⟨i, hi⟩ : ∃ i, P.info? fl.type = some i := by
          cases hi : P.info? fl.type with
          | none => exact absurd (by simp [szT, hi]) hne
          | some i => exact ⟨i, rfl⟩
        obtain ⟨q, h1, h2⟩ := val_ptr (hx ▸ hρ x)
        refine OpRun.value hs (v' := .pointer (some (q.add fl.offset))) ?_ (.part (.cell (.atom (.ptr (h2.add _)))))
        simp only [execOp, ho, Instr.fieldAt, Sem.run_bind, run_underlying hu, Result.andThen_ok, hfl, h1, Instr.sureAddr, Sem.run_pure, fieldPlace, run_size hi, if_neg hne]
    · cases h
  · cases h

theorem s_indexAddr (hs : Sim P φ H w) (hρ : ∀ x, ValR P φ H w (ρ x) (ρ' x)) {t : TypeId} {x y : Operand} (ho : o.op = .indexAddr t x y)
    (h : indexAddrA P t (ρ x) (ρ y) = some v) : OpRun P o ρ' φ H w H v := by
  unfold indexAddrA at h
  split at h
  · rename_i e p n c k i hu hx hy
    split at h
    · rename_i hc
      cases h
      obtain ⟨hc1, hc2, hc3⟩ := hc
      obtain ⟨ie, hie⟩ := sz_info hc3
      have hc : 0 ≤ i ∧ i < n := ⟨hc1, hc2⟩
      obtain ⟨q, c', h1, h2⟩ := val_slice (hx ▸ hρ x)
      have h3 := val_int (hy ▸ hρ y)
      have hp : AddrR φ H p q := by
        rcases h2 with h2 | ⟨rfl, _, _⟩ | ⟨g1, g2, δ, _, _, _, _, g3, g4, _⟩ | ⟨g1, g2, _, _, δ, g3, g4⟩
        · exact .inl h2
        · omega
        · exact .inr ⟨g1, g2, δ, g3, g4⟩
        · exact .inr ⟨g1, g2, δ, g3, g4⟩
      refine OpRun.value hs (v' := .pointer (some (q.add (i.toNat * szT P e)))) ?_ (.part (.cell (.atom (.ptr (hp.add _)))))
      simp only [execOp, ho, Instr.indexAt, h1, h3, asIntOf, Sem.run_bind, run_underlying hu, Result.andThen_ok, Sem.run_pure, Sem.run_ite, if_pos hc, run_size hie]
    · cases h
  · rename_i n e p k i hu hx hy
    split at h
    · rename_i hc
      cases h
      obtain ⟨hc1, hc2, hc3⟩ := hc
      obtain ⟨ie, hie⟩ := sz_info hc3
      have hc : 0 ≤ i ∧ i < n := ⟨hc1, hc2⟩
      obtain ⟨q, h1, hp⟩ := val_ptr (hx ▸ hρ x)
      have h3 := val_int (hy ▸ hρ y)
      refine OpRun.value hs (v' := .pointer (some (q.add (i.toNat * szT P e)))) ?_ (.part (.cell (.atom (.ptr (hp.add _)))))
      simp only [execOp, ho, Instr.indexAt, Instr.sureAddr, h1, h3, asIntOf, Sem.run_bind, run_underlying hu, Result.andThen_ok, Sem.run_pure, Sem.run_ite, if_pos hc, run_size hie]
    · cases h
  · cases h

theorem cap_atom {a b : Value} (h : capB a = true) (r : ValR P φ H w a b) : AtomR P φ H w a b := by
  cases r with
  | part r => cases r with
    | junk => simp [junk, capB, atomB] at h
    | cell r => cases r with
      | atom r => exact r
      | _ => simp [capB, atomB] at h
    | agg r => simp [capB, atomB] at h
  | tuple r => simp [capB, atomB] at h

theorem s_makeFunc (hs : Sim P φ H w) (hρ : ∀ x, ValR P φ H w (ρ x) (ρ' x)) {f : FuncId} {first cap : Array Operand} (ho : o.op = .makeFunc (.func f) first cap) (h0 : first.isEmpty = true) (hc : cap.toList.all (fun x => capB (ρ x)) = true) :
    OpRun P o ρ' φ H w H (.func (.func f) #[] (cap.map ρ)) := by
  have hf : first = #[] := by simpa using h0
  subst hf
  refine OpRun.value hs (v' := .func (.func f) #[] (cap.map ρ')) (by simp [execOp, ho, Instr.makeFunc]) (.part (.cell (.func ⟨by simp, fun i x y hx hy => ?_⟩)))
  rw [Array.getElem?_map] at hx hy
  obtain ⟨k, hk, rfl⟩ := Option.map_eq_some_iff.1 hx
  rw [hk] at hy; cases hy
  exact cap_atom (List.all_eq_true.1 hc k (by simpa using Array.mem_of_getElem? hk)) (hρ k)

theorem s_makeInterface (hs : Sim P φ H w) (hρ : ∀ x, ValR P φ H w (ρ x) (ρ' x)) {t : TypeId} {x : Operand} (ho : o.op = .makeInterface t x) {d : TypeDesc} (hu : P.underlying t = some d) (hd : ∀ m, d ≠ .interface m)
    (hx : heldB (ρ x) = true) : OpRun P o ρ' φ H w H (.iface t (ρ x)) := by
  have hr := hρ x
  refine OpRun.value hs (v' := .iface t (ρ' x)) ?_ ?_
  · simp only [execOp, ho, Instr.makeInterface, Sem.run_bind, run_underlying hu, Result.andThen_ok]
    cases d <;> first | rfl | (rename_i m; exact absurd rfl (hd m))
  · generalize ρ x = a at *
    generalize ρ' x = b at *
    cases hr with
    | part r => cases r with
      | junk => simp [junk, heldB, atomB] at hx
      | cell r => cases r with
        | atom r => exact .part (.cell (.iface r))
        | _ => simp [heldB, atomB] at hx
      | @agg cs cs' r =>
        have hx : cs.toList.all atomB = true := by simpa [heldB, atomB] using hx
        have := r.eq (f := atomB) hx (fun x y h r => by cases r with
          | atom r => exact atom_eq h r
          | _ => simp [atomB] at h)
        subst this
        exact .part (.cell (.ifaceAgg hx))
    | tuple r => simp [heldB, atomB] at hx

theorem s_range (hs : Sim P φ H w) (hρ : ∀ x, ValR P φ H w (ρ x) (ρ' x)) {t : TypeId} {x : Operand} (ho : o.op = .range t x) (hu : P.underlying t = some .string) {s : ByteArray} (hx : ρ x = .string s) :
    OpRun P o ρ' φ H w (H.alloc (.stringIter s 0) true) (.pointer (some ⟨H.next, 0, none⟩)) := by
  have h := val_string (hx ▸ hρ x)
  have hsh : shapeSame (.stringIter s 0) (.stringIter s 0) := trivial
  have hst := step_alloc (w' := { w with heap := w.heap.push (.stringIter s 0) }) (o := .stringIter s 0) (ex := true) hs rfl ⟨rfl, rfl, rfl⟩
  refine ⟨.value (.pointer (some ⟨w.heap.size, 0, none⟩)), { w with heap := w.heap.push (.stringIter s 0) }, ?_, .inl ⟨_, rfl, _, hst, sim_alloc hs rfl ⟨rfl, rfl, rfl⟩ hsh ?_, .part (.cell (.atom (.ptr new_addr)))⟩⟩
  · simp only [execOp, ho, Instr.range, Sem.run_bind, run_underlying hu, Result.andThen_ok, h, Sem.run_pure, run_newObj]
  · exact ⟨rfl, rfl, by simp⟩

theorem s_next (hs : Sim P φ H w) (hρ : ∀ x, ValR P φ H w (ρ x) (ρ' x)) {x : Operand} (ho : o.op = .next x true) (h : nextA H (ρ x) = some (v, H')) : OpRun P o ρ' φ H w H' v := by
  unfold nextA at h
  split at h
  · rename_i r hx
    split at h
    · rename_i b hb
      split at h
      · rename_i s pos hc hobj
        simp only [Bool.and_eq_true] at hc
        obtain ⟨hl, ht⟩ := hc
        obtain ⟨q, h1, h2⟩ := val_ptr (hx ▸ hρ x)
        rcases h2 with h2 | ⟨_, hqs, δ, hφ, hoff⟩
        · exact absurd h2 (not_dead hb hl)
        · have hobjR := hs.obj r _ δ b hφ hb hl
          unfold ObjR at hobjR
          simp only [hobj] at hobjR
          obtain ⟨rfl, hex, hheap⟩ := hobjR
          have hq : q = ⟨q.block, 0, none⟩ := by
            have h0 : q.off = 0 := by simpa using hoff
            rw [← h0]; exact addr_eta hqs
          have hget : (getObj q.block).run P w = .ok (.stringIter s pos) w := by simp [getObj, Sem.run, hheap]
          split at h
          · rename_i hpos
            cases h
            have hset : (setObj q.block (.stringIter s (pos + (Utf8.decode s pos).2))).run P w = .ok () { w with heap := w.heap.setIfInBounds q.block (.stringIter s (pos + (Utf8.decode s pos).2)) } := by
              simp [setObj, Sem.run, hheap]
            have hlt : q.block < w.heap.size := (Array.getElem?_eq_some_iff.1 hheap).1
            have hh : ∀ k, (w.heap.setIfInBounds q.block (.stringIter s (pos + (Utf8.decode s pos).2)))[k]? = if k = q.block then some (.stringIter s (pos + (Utf8.decode s pos).2)) else w.heap[k]? := fun k => by
              rw [Array.getElem?_setIfInBounds]
              by_cases e : q.block = k
              · subst e; simp [hlt]
              · rw [if_neg e, if_neg (fun e' => e e'.symm)]
            have hreal : ∀ C e fr, w.heap[q.block]? = some (.cells C e fr) → ∃ C' fr', Obj.stringIter s (pos + (Utf8.decode s pos).2) = .cells C' e fr' ∧ C'.size = C.size := fun C e fr h => by rw [hheap] at h; cases h
            have hsh : shapeSame b.obj (.stringIter s (pos + (Utf8.decode s pos).2)) := by rw [hobj]; trivial
            have hst := step_put (w' := { w with heap := w.heap.setIfInBounds q.block (.stringIter s (pos + (Utf8.decode s pos).2)) }) (o := .stringIter s (pos + (Utf8.decode s pos).2)) hs hφ hb hl ht hsh (by simp) hh ⟨rfl, rfl, rfl⟩ hreal
            refine ⟨.value (.tuple #[.bool true, goInt pos, .int .i32 (Utf8.decode s pos).1]), { w with heap := w.heap.setIfInBounds q.block (.stringIter s (pos + (Utf8.decode s pos).2)) }, ?_, .inl ⟨_, rfl, φ, hst, sim_put hs hφ hb hl ht hsh trivial (by simp) hh ⟨rfl, rfl, rfl⟩ hreal ?_, ?_⟩⟩
            · rw [hq] at h1
              simp only [execOp, ho, Instr.next, h1, Sem.run_bind, hget, Result.andThen_ok, if_pos hpos, hset, Sem.run_pure]
            · exact ⟨rfl, hex, by rw [hh, if_pos rfl]⟩
            · exact val_refl (by simp [flatB, flat2, flat1, atomB])
          · rename_i hpos
            cases h
            refine OpRun.value hs (v' := .tuple #[.bool false]) ?_ (val_refl (by simp [flatB, flat2, flat1, atomB]))
            rw [hq] at h1
            simp only [execOp, ho, Instr.next, h1, Sem.run_bind, hget, Result.andThen_ok, if_neg hpos, Sem.run_pure]
      · cases h
    · cases h
  · cases h
end
end Go.Proofs.YtofigleaealbjaaGreatDoor.Ev
