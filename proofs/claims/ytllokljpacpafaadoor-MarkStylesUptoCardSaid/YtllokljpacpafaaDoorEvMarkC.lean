/-
  What the library's functions tell a walk; a text cut at its first blank; what is blank throughout.
-/
import Derived.Test.YtllokljpacpafaaDoorEvMarkW
namespace Go.Proofs.YtllokljpacpafaaDoor.Ev
open Go
set_option linter.unusedVariables false
set_option linter.unusedSimpArgs false

theorem idx_no (l : List UInt8) (c : UInt8) : Lib.indexByte l c < 0 ↔ ∀ b, b ∈ l → b ≠ c := by
  constructor
  · intro h b hb e
    subst e
    have := Lib.indexByte_ge l b
    obtain ⟨k, hk⟩ := List.getElem?_of_mem hb
    exact Lib.indexByte_none (by omega) k hk
  · intro h
    rcases Int.lt_or_le (Lib.indexByte l c) 0 with h1 | h1
    · exact h1
    · obtain ⟨o, ho⟩ := Int.eq_ofNat_of_zero_le h1
      exact absurd rfl (h c (List.mem_of_getElem? (Lib.indexByte_some ho).1))
theorem noB_iff (s : ByteArray) (c : Nat) (hc : c < 256) : noB s c ↔ ∀ b, b ∈ s.data.toList → b ≠ UInt8.ofNat c := by
  refine ⟨noB_mem hc, fun h j hj e => ?_⟩
  obtain ⟨b, hb, e2⟩ := byte_mem hj
  exact h b hb (u8_eq b c hc (by rw [← e2, e]))
theorem noB_idx (s : ByteArray) (c : Nat) (hc : c < 256) : noB s c ↔ Lib.indexByte s.data.toList (UInt8.ofNat c) < 0 := by rw [noB_iff s c hc, idx_no]
theorem cut_at (s : ByteArray) (o : Nat) (h : Lib.indexByte s.data.toList 32 = (o : Int)) : o + 1 ≤ s.size ∧ CutAt s (s.extract 0 o) (s.extract (o + 1) s.size) := by
  obtain ⟨h1, h2⟩ := Lib.indexByte_some h
  have hlt := (List.getElem?_eq_some_iff.1 h1).1
  rw [len_list] at hlt
  have hl : s.data.toList = s.data.toList.take o ++ 32 :: s.data.toList.drop (o + 1) := by
    have := List.take_append_drop o s.data.toList
    rw [List.drop_eq_getElem_cons (by rw [len_list]; exact hlt)] at this
    rw [(List.getElem?_eq_some_iff.1 h1).2] at this
    exact this.symm
  have hlen : (s.data.toList.take o).length = o := by rw [List.length_take, len_list]; omega
  obtain ⟨m1, m2⟩ := ext_mid s _ _ _ hl
  rw [hlen] at m1 m2
  refine ⟨by omega, .inl ⟨ba_ext ?_, ?_⟩⟩
  · simp only [app_list, m1, m2, List.append_assoc]
    exact hl
  · refine (noB_iff _ 32 (by decide)).2 fun b hb e => ?_
    rw [m1] at hb
    obtain ⟨k, hk⟩ := List.getElem?_of_mem hb
    have hk2 := (List.getElem?_eq_some_iff.1 hk).1
    rw [hlen] at hk2
    rw [List.getElem?_take, if_pos hk2] at hk
    exact h2 k hk2 (by rw [hk, e]; rfl)
theorem cut_no (s : ByteArray) (h : Lib.indexByte s.data.toList 32 < 0) : CutAt s s ⟨#[]⟩ := .inr ⟨rfl, rfl, (noB_idx s 32 (by decide)).2 h⟩

def trimW (s : ByteArray) : ByteArray := ⟨(Lib.trimS s.data.toList [32, 9]).toArray⟩
theorem drop_nil (p : UInt8 → Bool) : ∀ l : List UInt8, l.dropWhile p = [] ↔ ∀ x, x ∈ l → p x = true
  | [] => by simp
  | a :: l => by
    simp only [List.dropWhile_cons]
    cases h : p a with
    | true => simp only [if_true, List.mem_cons, drop_nil p l]; constructor
              · rintro k x (rfl | hx)
                · exact h
                · exact k x hx
              · exact fun k x hx => k x (.inr hx)
    | false => simp only [Bool.false_eq_true, if_false]; constructor
               · intro k; cases k
               · intro k; have := k a (by simp); rw [h] at this; cases this
theorem take_all (p : UInt8 → Bool) : ∀ (l : List UInt8) x, x ∈ l.takeWhile p → p x = true
  | [], x, h => by simp at h
  | a :: l, x, h => by
    simp only [List.takeWhile_cons] at h
    cases ha : p a with
    | true =>
      rw [ha] at h
      rcases List.mem_cons.1 h with rfl | h
      · exact ha
      · exact take_all p l x h
    | false => rw [ha] at h; cases h
theorem trimS_nil (l cs : List UInt8) : Lib.trimS l cs = [] ↔ ∀ x, x ∈ l → cs.contains x = true := by
  unfold Lib.trimS Lib.trimLeftS
  rw [drop_nil]
  unfold Lib.trimRightS
  constructor
  · intro h x hx
    have hl : l.reverse = l.reverse.takeWhile (cs.contains ·) ++ l.reverse.dropWhile (cs.contains ·) := (List.takeWhile_append_dropWhile).symm
    have hx2 : x ∈ l.reverse := List.mem_reverse.2 hx
    rw [hl] at hx2
    rcases List.mem_append.1 hx2 with h1 | h1
    · exact take_all _ _ _ h1
    · exact h x (List.mem_reverse.2 h1)
  · intro h x hx
    rw [List.mem_reverse] at hx
    exact h x (List.mem_reverse.1 ((List.dropWhile_suffix _).subset hx))
theorem trimW_nil (s : ByteArray) : trimW s = ⟨#[]⟩ ↔ ∀ j : Nat, j < s.size → gapB (byteAt s (j : Nat)) := by
  have e : trimW s = ⟨#[]⟩ ↔ Lib.trimS s.data.toList [32, 9] = [] := by
    constructor
    · intro h
      have := congrArg (fun x : ByteArray => x.data.toList) h
      simpa [trimW] using this
    · intro h; unfold trimW; rw [h]
  rw [e, trimS_nil]
  constructor
  · intro h j hj
    obtain ⟨b, hb, e2⟩ := byte_mem hj
    rw [e2]; exact (gap_contains b).1 (h b hb)
  · intro h b hb
    obtain ⟨j, hj, e2⟩ := mem_byte hb
    have := h j hj
    rw [e2] at this
    exact (gap_contains b).2 this
theorem lastIndex_lt (s : ByteArray) (p : ByteArray) (hp : p.size = 1) : -1 ≤ Lib.lastIndex s.data.toList p.data.toList ∧ Lib.lastIndex s.data.toList p.data.toList < s.size := by
  unfold Lib.lastIndex
  have hl := len_list p
  split
  · rename_i h
    rcases Lib.lastOcc_spec s.data.toList p.data.toList (s.data.toList.length - p.data.toList.length + 1) with ⟨e, _⟩ | ⟨i, hi, e, _⟩
    · rw [e]; omega
    · rw [e]; have hs := len_list s; omega
  · omega

section
variable {H : AH} {Q : Value → AH → Prop}
theorem trim_spec (s : ByteArray) (hs : s.size ≤ 9000000) (h : Q (.string (trimW s)) H) : FWp Tryd.prog prims 21 [.string s, .string ⟨#[32, 9]⟩] H Q :=
  FWp.prim (g := primTrim) rfl (by simp only [primTrim]; rw [if_pos ⟨by decide, by omega⟩]; rfl) h
theorem trimLe_spec (s : ByteArray) (h : Q (.string (trimC s WS)) H) : FWp Tryd.prog prims 25 [.string s, .string ⟨#[32, 9]⟩] H Q :=
  FWp.prim (g := primTrimL) rfl (by simp only [primTrimL]; rw [if_pos (by decide)]; rfl) h
theorem idx58_spec (s : ByteArray) (h : ∀ i : Int, (i < 0 ↔ noB s 58) → Q (.int .i64 i) H) : FWp Tryd.prog prims 24 [.string s, .int .u8 58] H Q :=
  FWp.prim (g := primIndexByte) rfl (by simp only [primIndexByte]; rfl) (h _ (noB_idx s 58 (by decide)).symm)
theorem idx32_spec (s : ByteArray) (h : Q (.int .i64 (Lib.indexByte s.data.toList 32)) H) : FWp Tryd.prog prims 68 [.string s, .string SPB] H Q :=
  FWp.prim (g := primIndex1) rfl (by simp only [primIndex1]; rw [if_pos (show SPB.size = 1 from rfl)]; rfl) h
theorem lastI_spec (s p : ByteArray) (hs : s.size ≤ 9000000) (hp : p.size = 1) (h : ∀ i : Int, i = Lib.lastIndex s.data.toList p.data.toList → -1 ≤ i → i < s.size → Q (.int .i64 i) H) : FWp Tryd.prog prims 29 [.string s, .string p] H Q :=
  FWp.prim (g := primLastIndex) rfl (by simp only [primLastIndex]; rw [if_pos (by omega)]) (h _ rfl (lastIndex_lt s p hp).1 (lastIndex_lt s p hp).2)
theorem itoa_spec (n : Int) (hn : -9223372036854775808 ≤ n ∧ n ≤ 9223372036854775807) (h : Q (.string (itoaB n)) H) : FWp Tryd.prog prims 20 [.int .i64 n] H Q :=
  FWp.prim (g := primItoa) rfl (by simp only [primItoa]; rw [if_pos hn]; rfl) h
def errV (eo : Option Nat) : Value := match eo with | none => .nilIface | some q => .iface 89 (.pointer (some ⟨q, 0, none⟩))
theorem atoi_spec (s : ByteArray) (hs : s.size ≤ 9000000) (hw : WfH H) (h : ∀ H' (x : Int) (eo : Option Nat), Keeps H H' → (∀ v, Lib.atoiAll s.data.toList = .ok v → x = v ∧ eo = none) → Q (.tuple #[.int .i64 x, errV eo]) H') : FWp Tryd.prog prims 30 [.string s] H Q := by
  rcases hr : Lib.atoiAll s.data.toList with v | _ | _
  · refine FWp.prim (g := primAtoi) rfl (v := .tuple #[.int .i64 v, errV none]) (H1 := H) (by simp only [primAtoi]; rw [if_pos (by omega), hr]; rfl) (h H v none (Keeps.refl hw) fun v' e => ?_)
    rw [hr] at e; cases e; exact ⟨rfl, rfl⟩
  · refine FWp.prim (g := primAtoi) rfl (v := .tuple #[.int .i64 0, errV (some H.next)]) (H1 := H.ghost) (by simp only [primAtoi]; rw [if_pos (by omega), hr]; rfl) (h _ 0 (some H.next) (ghost_keep hw).1 fun v' e => ?_)
    rw [hr] at e; cases e
  · refine FWp.prim (g := primAtoi) rfl (v := .tuple #[.int .i64 (Lib.atoiSat s.data.toList), errV (some H.next)]) (H1 := H.ghost) (by simp only [primAtoi]; rw [if_pos (by omega), hr]; rfl) (h _ _ (some H.next) (ghost_keep hw).1 fun v' e => ?_)
    rw [hr] at e; cases e
end
section
variable {prims : Prims} {ops : Array Oper} {o : Oper} {r : List Oper} {e e' : List Value} {H : AH} {Q : List Value → AH → Prop}
/-- Is it no error? -/
theorem OWp.eqErr {t' : TypeId} {x : Operand} {eo : Option Nat} (hg : guardA ops o e = some true) (ho : o.op = .binOp .eql 49 x (.const .nilIface) t') (hx : rho e x = errV eo)
    (hk : OWp Tryd.prog prims ops r e' H Q) (he : putE e o.dst (.bool (decide (eo = none))) = e' := by simp only [putE, rho, List.set_cons_zero, List.set_cons_succ, List.getD_cons_zero, List.getD_cons_succ]; exact rfl) : OWp Tryd.prog prims ops (o :: r) e H Q := by
  refine OWp.step hg (fun call => ?_) he hk
  cases eo with
  | some q =>
    have : eqA Tryd.prog H 49 (errV (some q)) (rho e (.const .nilIface)) = some false := by
      unfold eqA errV
      simp only [Tryd.underlying49, rho]
      rfl
    unfold evOp
    simp only [ho, hx, this]
    simp
  | none =>
    have hn : eqA Tryd.prog H 49 (errV none) (rho e (.const .nilIface)) = none := by
      unfold eqA errV
      simp only [Tryd.underlying49, rho]
      rfl
    have hy : rho e (.const .nilIface) = .nilIface := rfl
    have hf : flatOp Tryd.prog o (rho e) = some (.bool true) := by
      refine flat_op (by rw [ho]; simp only [Op.operands, List.all_toArray, List.all_cons, List.all_nil, hx, hy]; rfl) ?_ rfl
      unfold execOp
      rw [ho]
      have hq : pureRun Tryd.prog (Op.equal 49 .nilIface .nilIface) = some true := by
        show pureRun Tryd.prog (Op.equalIn (9999 + 1) 49 .nilIface .nilIface) = _
        rw [Op.equalIn]
        simp only [pr_bind, pr_underlying Tryd.underlying49, Option.bind_some, pr_pure]
      simp only [hx, hy, errV]
      simp [eqGuard, pr_bind, pr_pure, Go.binOp]
      show pureRun Tryd.prog (Op.equal 49 .nilIface .nilIface >>= fun a => pure (Next.value (Value.bool a))) = _
      rw [pr_bind, hq]
      rfl
    unfold evOp
    simp only [ho, hx, hn, hf, Option.map_some]
    simp
end
end Go.Proofs.YtllokljpacpafaaDoor.Ev
