/-
  The machine's operations: calls, append, len; one body for each operation.
-/
import Derived.Test.YtaadahhjdkkkaaaGreatDoorEvVmJ
namespace Go.Proofs.YtaadahhjdkkkaaaGreatDoor.Ev
set_option linter.unusedVariables false
set_option linter.unusedSimpArgs false
open Go
section
variable {E : Type} {I : EnvI E} {n : Nat} {P : Program} {F : FH} {H : AH}

/-! ### Remainders and quotients -/
noncomputable def rm2 (md : Bool) (k : FV → Bool) (z : Bool) (a b : Nat) : Bool := iteK z (iteK z (natK (fun r => k (.nn r)) (Bool.rec (motive := fun _ => Nat) (Nat.div a b) (Nat.mod a b) md)) (Nat.ble a 9223372036854775807)) (Nat.ble 1 b)
noncomputable def rm1 (md : Bool) (k : FV → Bool) (z : Bool) (y : FV) (a : Nat) : Bool := onN (rm2 md k z a) z y
noncomputable def remS (I : EnvI E) (n : Nat) (P : Program) (o : Oper) (md : Bool) (x y : Operand) : BodyK E :=
  GetK.rec (motive := fun _ => BodyK E) (fun gx => GetK.rec (motive := fun _ => BodyK E) (fun gy => ⟨fun _ k t F => onN (rm1 md (fun v => k v F) (flatK I n P o (fun v => k v F) t) (gy t)) (flatK I n P o (fun v => k v F) t) (gx t)⟩) (opdS I n y)) (opdS I n x)
theorem remS_ok {o : Oper} {md : Bool} {t t' : TypeId} {x y : Operand} (ho : o.op = .binOp (if md then .rem else .quo) t x y t') : BodyFlat I n P o (remS I n P o md x y) := fun call ev en F k hr h => by
  have h : onN (rm1 md (fun v => k v F) (flatK I n P o (fun v => k v F) ev) ((opdS I n y).run ev)) (flatK I n P o (fun v => k v F) ev) ((opdS I n x).run ev) = true := h
  have flat : flatK I n P o (fun v => k v F) ev = true → ∃ v : FV, (∀ ca H, HR F H → evOp P ca o (rho en) H = some (v.val, H)) ∧ k v F = true := fun hf => by
    obtain ⟨v, h1, h2⟩ := flatK_ok hr hf
    refine ⟨v, fun ca H _ => ?_, h2⟩
    unfold evOp
    simp only [ho]
    cases md
    · simp only [Bool.false_eq_true, if_false]; rw [h1]; rfl
    · simp only [if_true]; rw [h1]; rfl
  rcases onN_ok h with ⟨a, hx, h⟩ | h
  · rcases onN_ok (show onN _ _ ((opdS I n y).run ev) = true from h) with ⟨b, hy, h⟩ | h
    · rcases iteK_ok h with ⟨_, h⟩ | ⟨h1, h⟩
      · exact flat h
      · rcases iteK_ok h with ⟨_, h⟩ | ⟨h2, h3⟩
        · exact flat h
        · rw [natK_eq] at h3
          have h1 : 0 < b := Nat.le_of_ble_eq_true h1
          have h2 : a ≤ 9223372036854775807 := Nat.le_of_ble_eq_true h2
          have hx : rho en x = .int .i64 (a : Int) := by rw [← opdS_ok hr, hx]; rfl
          have hy : rho en y = .int .i64 (b : Int) := by rw [← opdS_ok hr, hy]; rfl
          have hb : ¬ (b : Int) = 0 := by omega
          refine ⟨_, fun ca H _ => ?_, h3⟩
          cases md with
          | true =>
            have ho : o.op = .binOp .rem t x y t' := by simpa using ho
            have hm : (a : Int).tmod b = ((a % b : Nat) : Int) := by rw [Int.tmod_eq_emod_of_nonneg (by omega)]; simp
            have hf : flatOp P o (rho en) = some (.int .i64 ((a % b : Nat) : Int)) := by
              refine flat_op (by rw [ho]; simp [Op.operands, hx, hy, flatB, flat2, flat1, atomB]) ?_ rfl
              unfold execOp
              rw [ho]
              simp only [hx, hy, eqGuard, Go.binOp, Op.intDiv]
              rw [if_neg hb, hm]
              rfl
            unfold evOp
            simp only [ho, hx, hy, eqA_int, hf, Option.map_some]
            rfl
          | false =>
            have ho : o.op = .binOp .quo t x y t' := by simpa using ho
            have hm : (a : Int).tdiv b = ((a / b : Nat) : Int) := by rw [Int.tdiv_eq_ediv_of_nonneg (by omega)]; simp
            have hle : a / b ≤ a := Nat.div_le_self _ _
            have hw : IntKind.i64.wrap ((a / b : Nat) : Int) = ((a / b : Nat) : Int) := (fun q hq => wrap_id (by omega) : ∀ q : Nat, q ≤ a → IntKind.i64.wrap (q : Int) = q) _ hle
            have hf : flatOp P o (rho en) = some (.int .i64 ((a / b : Nat) : Int)) := by
              refine flat_op (by rw [ho]; simp [Op.operands, hx, hy, flatB, flat2, flat1, atomB]) ?_ rfl
              unfold execOp
              rw [ho]
              simp only [hx, hy, eqGuard, Go.binOp, Op.intDiv]
              rw [if_neg hb, hm, hw]
              rfl
            unfold evOp
            simp only [ho, hx, hy, eqA_int, hf, Option.map_some]
            rfl
    · exact flat h
  · exact flat h

/-! ### len -/
noncomputable def lnNo (k : FV → Bool) (v : Value) : Bool := match v with
  | .slice none m _ => natK (fun m => k (.nn m)) m
  | _ => false
noncomputable def lnM (k : FV → Bool) (o : FObj) : Bool := mpO (fun es _ => natK (fun m => k (.nn m)) (List.rec (motive := fun _ => Nat) 0 (fun _ _ ih => Nat.add ih 1) es)) o
noncomputable def lenS (I : EnvI E) (n : Nat) (P : Program) (o : Oper) (c : Call) : BodyK E := match c.args.toList, c.argTypes.toList with
  | [x], [t] => match P.underlying t with
    | some .string => GetK.rec (motive := fun _ => BodyK E) (fun gx => ⟨fun _ k t F => onS (fun m _ => k (.nn m) F) false (gx t)⟩) (opdS I n x)
    | some (.slice _) => GetK.rec (motive := fun _ => BodyK E) (fun gx => ⟨fun _ k t F => onL (fun _ _ m _ => k (.nn m) F) (lnNo fun v => k v F) false (gx t)⟩) (opdS I n x)
    | some (.map _ _) => GetK.rec (motive := fun _ => BodyK E) (fun gx => ⟨fun _ k t F => onM (fun c => objK (lnM fun v => k v F) F c) (lkNo fun _ => k (.nn 0) F) false (gx t)⟩) (opdS I n x)
    | _ => failB
  | _, _ => failB
theorem lenE_eq : ∀ l : List FEnt, (List.rec (motive := fun _ => Nat) 0 (fun _ _ ih => Nat.add ih 1) l : Nat) = l.length
  | [] => rfl
  | x :: r => by show Nat.add (List.rec (motive := fun _ => Nat) 0 (fun _ _ ih => Nat.add ih 1) r : Nat) 1 = _; rw [lenE_eq r]; rfl
theorem lenS_ok {o : Oper} {c : Call} (ho : o.op = .call c) (hc : c.callee = .builtin .len) : BodyOk I n P o (lenS I n P o c) := fun call ca ev en F H k hcl hr hH h => by
  unfold lenS at h
  split at h
  case h_2 => cases h
  rename_i x t hxs hts
  have hty : (c.argTypes[0]?).bind P.underlying = P.underlying t := by
    have : c.argTypes = #[t] := by rw [← Array.toArray_toList (xs := c.argTypes), hts]
    rw [this]; rfl
  split at h
  · rename_i hu
    rcases onS_ok (show onS (fun m _ => k (.nn m) F) false ((opdS I n x).run ev) = true from h) with ⟨m, s, hx, h⟩ | h
    · have hx : rho en x = .string (bytesA m s) := by rw [← opdS_ok hr, hx]; rfl
      refine ⟨.nn m, F, H, ev_len ho ?_, hH, h⟩
      simp only [fastLen, hc, hxs, hts, hu, hx, bytesA_size]
      rfl
    · cases h
  · rename_i el hu
    rcases onL_ok (show onL (fun _ _ m _ => k (.nn m) F) (lnNo fun v => k v F) false ((opdS I n x).run ev) = true from h) with ⟨b, off, m, cap, hx, h⟩ | ⟨v, hx, h⟩ | h
    · have hx : rho en x = .slice (some ⟨b, off, none⟩) m cap := by rw [← opdS_ok hr, hx]; rfl
      refine ⟨.nn m, F, H, ?_, hH, h⟩
      unfold evOp
      simp only [ho, callA, hc, hxs, List.map_cons, List.map_nil, hx, hty, hu]
      rfl
    · replace h : lnNo (fun v => k v F) v = true := h
      unfold lnNo at h
      split at h
      case h_2 => cases h
      rename_i m cap
      rw [natK_eq] at h
      have hx : rho en x = .slice none m cap := by rw [← opdS_ok hr, hx]; rfl
      refine ⟨.nn m, F, H, ?_, hH, h⟩
      unfold evOp
      simp only [ho, callA, hc, hxs, List.map_cons, List.map_nil, hx, hty, hu]
      rfl
    · cases h
  · rename_i kt et hu
    rcases onM_ok (show onM (fun c => objK (lnM fun v => k v F) F c) (lkNo fun _ => k (.nn 0) F) false ((opdS I n x).run ev) = true from h) with ⟨b, hx, h⟩ | ⟨v, hx, h⟩ | h
    · have hx : rho en x = .map (some b) := by rw [← opdS_ok hr, hx]; rfl
      obtain ⟨ob, bl, hb, hl, hO, h2⟩ := objK_ok hH h
      cases ob with
      | cl => cases h2
      | yy => cases h2
      | it => cases h2
      | mp es ck =>
        have h2 : natK (fun m => k (.nn m) F) (List.rec (motive := fun _ => Nat) 0 (fun _ _ ih => Nat.add ih 1) es) = true := h2
        rw [natK_eq, lenE_eq] at h2
        refine ⟨.nn es.length, F, H, ?_, hH, h2⟩
        have hO : bl.obj = .map (es.map FEnt.ent).toArray ck := hO
        unfold evOp
        simp only [ho, callA, hc, hxs, List.map_cons, List.map_nil, hx, hty, hu, mapRow, hb, hl, hO, Option.map_some, List.length_map]
        rfl
    · replace h : lkNo (fun _ => k (.nn 0) F) v = true := h
      unfold lkNo at h
      split at h
      case h_2 => cases h
      have hx : rho en x = .map none := by rw [← opdS_ok hr, hx]; rfl
      refine ⟨.nn 0, F, H, ?_, hH, h⟩
      unfold evOp
      simp only [ho, callA, hc, hxs, List.map_cons, List.map_nil, hx, hty, hu, mapRow]
      rfl
    · cases h
  · cases h

/-! ### append -/
noncomputable def appS (I : EnvI E) (n : Nat) (P : Program) (c : Call) : BodyK E := match c.args.toList, c.argTypes[0]? with
  | [s, x], some sT => match elemT P sT, (c.argTypes[1]?).bind P.underlying with
    | some e, some xd => match notInt xd, zeroT P e with
      | true, some z => Bool.rec (motive := fun _ => BodyK E) failB (natR (fun by_ => natR (fun sz => GetK.rec (motive := fun _ => BodyK E) (fun gs => GetK.rec (motive := fun _ => BodyK E) (fun gx => Bool.rec (motive := fun _ => BodyK E)
            ⟨fun _ k t F => tlG (app2 k F sz by_ e (gs t)) F sz (gx t)⟩ ⟨fun _ k t F => tlY (app2 k F sz by_ e (gs t)) F (gx t)⟩ (isU8 P e && Nat.beq sz 1)) (opdS I n x)) (opdS I n s)) (szT P e)) (bytesT P e))
          (Nat.ble 1 (bytesT P e) && (Nat.ble 1 (szT P e) && Nat.beq z.cells.size (szT P e)))
      | _, _ => failB
    | _, _ => failB
  | _, _ => failB
theorem tailA_zero {e : TypeId} {x : Value} {l : List Value} (h : tailA P H e x = some (0, l)) : l = [] := by
  unfold tailA at h
  split at h
  · split at h
    · rename_i m _ l' hr
      simp only [Option.some.injEq, Prod.mk.injEq] at h
      obtain ⟨rfl, rfl⟩ := h
      unfold rowA at hr
      split at hr
      · simp at hr; first | exact hr.symm | exact hr
      · split at hr
        · split at hr
          · cases hr; simp
          · cases hr
        · cases hr
    · cases h
  · rename_i s
    split at h
    · simp only [Option.some.injEq, Prod.mk.injEq] at h
      obtain ⟨h1, rfl⟩ := h
      have : s.data.toList = [] := List.eq_nil_of_length_eq_zero (by simpa using h1)
      rw [this]; rfl
    · cases h
  · cases h
theorem appS_ok {o : Oper} {c : Call} (ho : o.op = .call c) (hc : c.callee = .builtin .append) : BodyOk I n P o (appS I n P c) := fun call ca ev en F H k hcl hr hH h => by
  unfold appS at h
  split at h
  case h_2 => cases h
  rename_i s x sT hxs hsT
  split at h
  case h_2 => cases h
  rename_i e xd he hxd
  split at h
  case h_2 => cases h
  rename_i z hni hz
  cases hb : (Nat.ble 1 (bytesT P e) && (Nat.ble 1 (szT P e) && Nat.beq z.cells.size (szT P e))) with
  | false => rw [hb] at h; cases h
  | true =>
    rw [hb] at h
    simp only [Bool.and_eq_true] at hb
    have hs : 0 < bytesT P e ∧ 0 < szT P e ∧ z.cells.size = szT P e := ⟨Nat.le_of_ble_eq_true hb.1, Nat.le_of_ble_eq_true hb.2.1, Nat.eq_of_beq_eq_true hb.2.2⟩
    have h := (natR_eq _ _ ▸ h : (natR _ _ : BodyK E).run call k ev F = true)
    rw [natR_eq] at h
    have fin : ∀ m tl, tailA P H e ((opdS I n x).run ev).val = some (m, tl.vals) → app2 k F (szT P e) (bytesT P e) e ((opdS I n s).run ev) m tl = true → ∃ v F' H', evOp P ca o (rho en) H = some (FV.val v, H') ∧ HR F' H' ∧ k v F' = true := fun m tl h1 h2 => by
      obtain ⟨v, F', H', h3, h4, h5⟩ := app2_ok hH he hxd hni h1 hz hs (fun hm => by subst hm; exact tailA_zero h1) h2
      rw [opdS_ok hr, opdS_ok hr] at h3
      refine ⟨v, F', H', ?_, h4, h5⟩
      unfold evOp
      simp only [ho, callA, hc, hxs, List.map_cons, List.map_nil, hsT]
      exact h3
    cases hu : (isU8 P e && Nat.beq (szT P e) 1) with
    | false =>
      rw [hu] at h
      obtain ⟨m, tl, h1, h2⟩ := tlG_ok hH (show tlG (app2 k F (szT P e) (bytesT P e) e ((opdS I n s).run ev)) F (szT P e) ((opdS I n x).run ev) = true from h)
      exact fin m tl h1 h2
    | true =>
      rw [hu] at h
      simp only [Bool.and_eq_true] at hu
      obtain ⟨m, tl, h1, h2⟩ := tlY_ok hH (Nat.eq_of_beq_eq_true hu.2) (show tlY (app2 k F (szT P e) (bytesT P e) e ((opdS I n s).run ev)) F ((opdS I n x).run ev) = true from h)
      exact fin m tl h1 h2

/-! ### Calls -/
noncomputable def callS (I : EnvI E) (n : Nat) (P : Program) (o : Oper) (c : Call) : BodyK E := match c.callee with
  | .value x => match x with
    | .func f => natR (fun f => ArgK.rec (motive := fun _ => BodyK E) (fun a => ⟨fun call k t F => call f (a t) k F⟩) (argsS I n c.args.toList)) f
    | x => ArgK.rec (motive := fun _ => BodyK E) (fun a => GetK.rec (motive := fun _ => BodyK E) (fun g => ⟨fun call k t F => onF (fun f cap => appL cap (fun l => call f l k F) (a t)) false (g t)⟩) (opdS I n x)) (argsS I n c.args.toList)
  | .builtin b => match b with
    | .len => lenS I n P o c
    | .append => appS I n P c
    | .copy => failB
    | _ => ⟨fun _ k t F => flatK I n P o (fun v => k v F) t⟩
  | _ => failB
theorem callS_ok {o : Oper} {c : Call} (ho : o.op = .call c) : BodyOk I n P o (callS I n P o c) := by
  have fail : BodyOk I n P o failB := fun call ca ev en F H k hc hr hH h => by cases h
  unfold callS
  split
  · rename_i x hx
    split
    · rename_i f
      rw [natR_eq]
      intro call ca ev en F H k hc hr hH h
      obtain ⟨v, F', H', h1, h2, h3⟩ := hc _ _ _ _ _ hH (show call f ((argsS I n c.args.toList).run ev) k F = true from h)
      refine ⟨v, F', H', ?_, h2, h3⟩
      unfold evOp
      simp only [ho, callA, hx, rho, Array.isEmpty_empty, cond_true]
      rw [argsS_ok hr] at h1
      simpa using h1
    · intro call ca ev en F H k hc hr hH h
      rcases onF_ok (show onF (fun f cap => appL cap (fun l => call f l k F) ((argsS I n c.args.toList).run ev)) false ((opdS I n x).run ev) = true from h) with ⟨f, cap, hxv, h⟩ | h
      · have h := appL_ok _ _ h
        obtain ⟨v, F', H', h1, h2, h3⟩ := hc _ _ _ _ _ hH h
        refine ⟨v, F', H', ?_, h2, h3⟩
        have hxr : rho en x = .func (.func f) #[] (FV.vals cap).toArray := by rw [← opdS_ok hr, hxv]; rfl
        unfold evOp
        simp only [ho, callA, hx, hxr, Array.isEmpty_empty, cond_true]
        rw [FV.vals_eq, List.map_append, ← FV.vals_eq, ← FV.vals_eq, argsS_ok hr] at h1
        exact h1
      · cases h
  · rename_i b hb
    split
    · exact lenS_ok ho hb
    · exact appS_ok ho hb
    · exact fail
    · rename_i h1 h2 h3
      intro call ca ev en F H k hc hr hH h
      obtain ⟨v, g1, g2⟩ := flatK_ok hr (show flatK I n P o (fun v => k v F) ev = true from h)
      refine ⟨v, F, H, ?_, hH, g2⟩
      unfold evOp
      simp only [ho, callA, hb]
      cases b with
      | len => exact (h1 rfl).elim
      | append => exact (h2 rfl).elim
      | copy => exact (h3 rfl).elim
      | _ => rw [g1]; rfl
  · exact fail

/-! ### One body for each operation -/
noncomputable def bodyS (I : EnvI E) (n : Nat) (P : Program) (o : Oper) : BodyK E := match o.op with
  | .move x => moveS I n x
  | .assign x => moveS I n x
  | .pick c a b => pickS I n c a b
  | .extract t ix => extrS I n t ix
  | .build t ps => buildS I n P t ps
  | .nilCheck x => nilS I n x
  | .fieldAddr s x f => fieldAS I n P s x f
  | .indexAddr t x i => indexAS I n P t x i
  | .load t a => loadS I n P t a
  | .store t a x => storeS I n P t a x
  | .alloc e => allocS P e
  | .box e x => boxS I n e x
  | .buildSlice t m ps => buildSlS I n P t m ps
  | .makeSlice t l c => makeSlS I n P t l c
  | .makeFunc fn first cap => match fn with
    | .func f => match first.isEmpty with
      | true => makeFnS I n f cap
      | false => failB
    | _ => failB
  | .makeInterface t x => mkiS I n P t x
  | .slice t x lo hi mx => match P.underlying t with
    | some (.slice e) => sliceS I n P e x lo hi mx
    | some .string => substrS I n x lo hi mx
    | _ => failB
  | .convert src dst x => convS2 I n P o src dst x
  | .binOp op t x y _ => match op with
    | .rem => remS I n P o true x y
    | .quo => remS I n P o false x y
    | op => bin2S I n P o op t x y
  | .range t x => match P.underlying t with
    | some .string => rangS I n x
    | _ => failB
  | .next x b => match b with
    | true => nextS I n x
    | false => failB
  | .call c => callS I n P o c
  | .unOp op t x => match op with
    | .not => notS I n P o x
    | _ => flatS I n P o
  | .index t x i => match P.underlying t with
    | some .string => indexS I n x i
    | _ => flatS I n P o
  | .field .. => flatS I n P o
  | .typeAssert .. => flatS I n P o
  | .makeMap t rv => match rv with
    | none => makeMapS P t
    | some _ => failB
  | .lookup t m k ok => lookS I n P t m k ok
  | .mapUpdate t m k x => updS I n P t m k x
  | _ => failB
theorem bodyS_ok (o : Oper) : BodyOk I n P o (bodyS I n P o) := by
  have fail : BodyOk I n P o failB := fun call ca ev en F H k hc hr hH h => by cases h
  unfold bodyS
  split
  · rename_i ho; exact (moveS_ok (.inl ho)).ok
  · rename_i ho; exact (moveS_ok (.inr ho)).ok
  · rename_i ho; exact (pickS_ok ho).ok
  · rename_i ho; exact (extrS_ok ho).ok
  · rename_i ho; exact (buildS_ok ho).ok
  · rename_i ho; exact (nilS_ok ho).ok
  · rename_i ho; exact (fieldAS_ok ho).ok
  · rename_i ho; exact (indexAS_ok ho).ok
  · rename_i ho; exact loadS_ok ho
  · rename_i ho; exact storeS_ok ho
  · rename_i ho; exact allocS_ok ho
  · rename_i ho; exact boxS_ok ho
  · rename_i ho; exact buildSlS_ok ho
  · rename_i ho; exact makeSlS_ok ho
  · rename_i ho
    split
    · split
      · rename_i hf; exact (makeFnS_ok ho hf).ok
      · exact fail
    · exact fail
  · rename_i ho; exact (mkiS_ok ho).ok
  · rename_i ho
    split
    · rename_i hu; exact sliceS_ok ho hu
    · rename_i hu; exact (substrS_ok ho hu).ok
    · exact fail
  · rename_i ho; exact convS2_ok ho
  · rename_i ho
    split
    · exact (remS_ok (md := true) ho).ok
    · exact (remS_ok (md := false) ho).ok
    · exact (bin2S_ok ho).ok
  · rename_i ho
    split
    · rename_i hu; exact rangS_ok ho hu
    · exact fail
  · rename_i ho
    split
    · exact nextS_ok ho
    · exact fail
  · rename_i ho; exact callS_ok ho
  · rename_i ho
    split
    · exact (notS_ok ho).ok
    · exact (flatS_ok fun ca ρ H => by unfold evOp; simp only [ho]).ok
  · rename_i ho
    split
    · rename_i hu; exact (indexS_ok ho hu).ok
    · exact (flatS_ok fun ca ρ H => by unfold evOp; simp only [ho]).ok
  · rename_i ho; exact (flatS_ok fun ca ρ H => by unfold evOp; simp only [ho]).ok
  · rename_i ho; exact (flatS_ok fun ca ρ H => by unfold evOp; simp only [ho]).ok
  · rename_i ho
    split
    · exact makeMapS_ok ho
    · exact fail
  · rename_i ho; exact lookS_ok ho
  · rename_i ho; exact updS_ok ho
  · exact fail
end
end Go.Proofs.YtaadahhjdkkkaaaGreatDoor.Ev
