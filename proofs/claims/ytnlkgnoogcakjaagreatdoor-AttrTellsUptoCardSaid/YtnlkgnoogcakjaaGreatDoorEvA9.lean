import Derived.Test.YtnlkgnoogcakjaaGreatDoorEvA5
import Derived.Test.YtnlkgnoogcakjaaGreatDoorEvAttrU
namespace Go.Proofs.YtnlkgnoogcakjaaGreatDoor.Ev
open Go
set_option linter.unusedVariables false
set_option linter.unusedSimpArgs false
set_option maxHeartbeats 4000000
set_option maxRecDepth 20000
theorem OWp.eqAtY {prims : Prims} {ops : Array Oper} {o : Oper} {r : List Oper} {e e' : List Value} {H : AH} {Q : List Value → AH → Prop} {t' : TypeId} {x y : Operand} (a : At) (hg : guardA ops o e = some true) (ho : o.op = .binOp .eql 27 x y t') (hx : rho e x = a.v) (hy : rho e y = a.v)
    (hk : OWp Tryz.prog prims ops r e' H Q) (he : putE e o.dst (.bool true) = e' := by simp only [putE, rho, List.set_cons_zero, List.set_cons_succ, List.getD_cons_zero, List.getD_cons_succ]; exact rfl) : OWp Tryz.prog prims ops (o :: r) e H Q :=
  OWp.eqAt a a hg ho hx hy hk (by rw [decide_eq_true rfl]; exact he)
theorem OWp.neAtN {prims : Prims} {ops : Array Oper} {o : Oper} {r : List Oper} {e e' : List Value} {H : AH} {Q : List Value → AH → Prop} {t' : TypeId} {x y : Operand} (a : At) (hg : guardA ops o e = some true) (ho : o.op = .binOp .neq 27 x y t') (hx : rho e x = a.v) (hy : rho e y = a.v)
    (hk : OWp Tryz.prog prims ops r e' H Q) (he : putE e o.dst (.bool false) = e' := by simp only [putE, rho, List.set_cons_zero, List.set_cons_succ, List.getD_cons_zero, List.getD_cons_succ]; exact rfl) : OWp Tryz.prog prims ops (o :: r) e H Q :=
  OWp.neAt a a hg ho hx hy hk (by rw [decide_eq_false (fun h => h rfl)]; exact he)
/-! ### Sizes -/
theorem text_size (k s : ByteArray) : (textS k s).size ≤ k.size + 4 + 2 * s.size := by
  unfold textS
  have hl := escL_length s.data.toList
  have hc := cntE_le s.data.toList
  rw [len_size] at hl hc
  split
  · exact Nat.zero_le _
  split
  · simp only [size_app, sz_1]; omega
  · simp only [size_app, sz_1, bl_size]; omega
def SzA (a : At) : Prop := a.lang.size + a.name.size + a.file.size + a.sty.size ≤ 1048576
theorem sz_7 (a b c d e f g : UInt8) : (⟨#[a, b, c, d, e, f, g]⟩ : ByteArray).size = 7 := rfl
theorem z4 : KNAM.size = 4 := rfl
theorem z4f : KFIL.size = 4 := rfl
theorem z7c : KCOM.size = 7 := rfl
theorem SzA.text {a : At} (h : SzA a) : (textS KNAM a.name).size ≤ 8 + 2 * a.name.size ∧ (textS KFIL a.file).size ≤ 8 + 2 * a.file.size ∧ (textS KCOM a.sty).size ≤ 11 + 2 * a.sty.size := by
  have h1 := text_size KNAM a.name
  have h2 := text_size KFIL a.file
  have h3 := text_size KCOM a.sty
  rw [z4] at h1; rw [z4f] at h2; rw [z7c] at h3
  omega
theorem SzA.write {a : At} (h : SzA a) : (writeP a).size ≤ 2200000 := by
  obtain ⟨h1, h2, h3⟩ := h.text
  unfold SzA at h
  have e1 : (if a.app = true then (⟨#[32, 97, 112, 112, 101, 110, 100]⟩ : ByteArray) else ⟨#[]⟩).size ≤ 7 := by split; exact Nat.le_refl 7; exact Nat.zero_le _
  have e2 : (if a.nol = true then (⟨#[32, 110, 111, 108, 105, 110, 101]⟩ : ByteArray) else ⟨#[]⟩).size ≤ 7 := by split; exact Nat.le_refl 7; exact Nat.zero_le _
  unfold writeP
  simp only [size_app]
  omega
theorem SzA.writeS {a : At} (h : SzA a) : (writeS a).size ≤ 2200000 := by
  by_cases hr : readS (trimC (writeP a) WS) = some a
  · rw [writeS_yes hr]; have := trim_size (writeP a); have := h.write; omega
  · rw [writeS_no hr]; exact Nat.zero_le _
theorem pairsS_lang {s lang : ByteArray} {l : List PR} (h : pairsS s = some (lang, l)) : lang.size ≤ s.size := by
  unfold pairsS at h
  obtain ⟨l2, _, e⟩ := Option.map_eq_some_iff.1 h
  have e2 : (langS (trimC s WS)).1 = lang := congrArg Prod.fst e
  rw [← e2]
  have ht := trim_size s
  unfold langS
  split
  · have hw := (wordN_end (trimC s WS)).1
    show ((trimC s WS).extract 0 (wordN (trimC s WS))).size ≤ _
    rw [ByteArray.size_extract]
    omega
  · exact Nat.zero_le _
theorem putS_lang {a b : At} {p : PR} (hp : putS a p = some b) : b.lang = a.lang := by
  unfold putS at hp
  repeat' split at hp
  all_goals first | (cases hp; done) | (cases hp; rfl)
theorem readL_lang : ∀ (l : List PR) (a b : At), readL a l = some b → b.lang = a.lang
  | [], a, b, hr => by cases hr; rfl
  | p :: l, a, b, hr => by
    unfold readL at hr
    split at hr
    · rename_i c hc; exact (readL_lang l c b hr).trans (putS_lang hc)
    · cases hr
theorem readS_size {s : ByteArray} {a : At} (h : readS s = some a) (hs : s.size ≤ 1000000) : SzA a := by
  have h2 := (readS_said h).1
  have hl : a.lang.size ≤ s.size := by
    unfold readS at h
    split at h
    · rename_i b hb
      split at h
      · cases h
      · cases h
        unfold readR at hb
        split at hb
        · rename_i lang l hp
          have := readL_lang _ _ _ hb
          rw [this]
          exact pairsS_lang hp
        · cases hb
    · cases h
  have h3 : a.name.size ≤ 60 := by rcases h2.name with e | e; omega; exact e.hi
  have h4 : a.file.size ≤ 60 := by rcases h2.file with e | e; omega; exact e.hi
  have h5 : a.sty.size ≤ 4 := by rcases h2.sty with e | e; omega; exact e.2.1
  unfold SzA
  omega
theorem app_if_t {x y z : ByteArray} {b : Bool} (h : b = true) : x ++ y = x ++ (if b = true then y else z) := by rw [if_pos h]
theorem app_if_f {x y : ByteArray} {b : Bool} (h : b = false) : x = x ++ (if b = true then y else ⟨#[]⟩) := by
  rw [if_neg (by rw [h]; decide)]
  apply ba_ext
  rw [app_list]
  exact (List.append_nil _).symm
theorem textP_spec (k s : ByteArray) (hk : k.size ≤ 9000000) (hs : s.size ≤ 9000000) (H : AH) (Q : Value → AH → Prop) (h : Q (.string (textS k s)) H) : FWp Tryz.prog prims 20 [.string k, .string s] H Q :=
  FWp.prim (g := primText) rfl (by simp only [primText]; rw [if_pos ⟨hk, hs⟩]) h
theorem write_yes {a a2 : At} {ok : Bool} {t : ByteArray} (ht : t = trimC (writeP a) WS) (h1 : ∀ a3, readS t = some a3 → ok = true ∧ a2 = a3) (h2 : readS t = none → ok = false ∧ a2 = zeroAt) (hok : ok = true) (he : a2 = a) : t = writeS a := by
  subst ht he
  have : readS (trimC (writeP a2) WS) = some a2 := by
    cases hr : readS (trimC (writeP a2) WS) with
    | none => have := (h2 hr).1; rw [hok] at this; cases this
    | some a3 => rw [(h1 a3 hr).2]
  exact (writeS_yes this).symm
theorem write_no {a a2 : At} {ok : Bool} {t : ByteArray} (ht : t = trimC (writeP a) WS) (h1 : ∀ a3, readS t = some a3 → ok = true ∧ a2 = a3) (hn : ok = true → ¬ a2 = a) : (⟨#[]⟩ : ByteArray) = writeS a := by
  subst ht
  refine (writeS_no fun hr => ?_).symm
  exact hn (h1 a hr).1 (h1 a hr).2

theorem write_spec (a : At) (ha : SzA a) (H : AH) (Q : Value → AH → Prop) (h : ∀ H', Keeps H H' → Q (.string (writeS a)) H') (hw : WfH H) : FWp Tryz.prog prims 10 [a.v] H Q := by
  have hh := Has.start hw
  obtain ⟨hx1, hx2, hx3⟩ := ha.text
  have hx4 := ha.write
  have ha0 := ha
  unfold SzA at ha0
  refine FWp.enter (rfl) Tryz.func10 rfl (e := [a.v, undef, undef, undef, undef, undef, undef, undef, undef, undef, undef, undef, undef, undef, undef, undef, undef, undef, undef, undef, undef, undef, undef, undef, undef, undef, undef, undef, undef, undef, undef, undef, undef, undef, undef, undef, undef, undef, undef, undef, undef, undef, undef]) rfl ?_
  refine CWp.seq ?_
  refine CWp.region ?_
  refine OWp.boxAt _ hh rfl rfl rfl (fun H1 b1 hh => ?_)
  refine OWp.norm ?_
  refine OWp.assign rfl rfl ?_
  refine OWp.nil ?_
  refine CWp.seq ?_
  refine CWp.drawnN (by kernel_rfl) ?_
  have hhS := hh
  have hkS := Keeps.refl hh.wf
  refine OWp.fieldAt 0 (by decide) rfl rfl rfl ?_
  first | refine OWp.loadAt_0 (k := 0) hh rfl rfl rfl rfl ?_ | refine OWp.loadAt_0 (k := 1) hh rfl rfl rfl rfl ?_
  refine OWp.fieldAt 1 (by decide) rfl rfl rfl ?_
  first | refine OWp.loadAt_1 (k := 0) hh rfl rfl rfl rfl ?_ | refine OWp.loadAt_1 (k := 1) hh rfl rfl rfl rfl ?_
  refine OWp.call rfl rfl rfl rfl ?_
  refine textP_spec KNAM _ (by rw [z4]; decide) (by omega) _ _ ?_
  refine OWp.norm ?_
  refine OWp.catS rfl rfl rfl rfl (by first | omega | (simp only [size_app, sz_0, sz_1, sz_2, sz_3, sz_4, sz_7]; omega)) ?_
  refine OWp.fieldAt 2 (by decide) rfl rfl rfl ?_
  first | refine OWp.loadAt_2 (k := 0) hh rfl rfl rfl rfl ?_ | refine OWp.loadAt_2 (k := 1) hh rfl rfl rfl rfl ?_
  refine OWp.call rfl rfl rfl rfl ?_
  refine textP_spec KFIL _ (by rw [z4f]; decide) (by omega) _ _ ?_
  refine OWp.norm ?_
  refine OWp.catS rfl rfl rfl rfl (by first | omega | (simp only [size_app, sz_0, sz_1, sz_2, sz_3, sz_4, sz_7]; omega)) ?_
  refine OWp.fieldAt 3 (by decide) rfl rfl rfl ?_
  first | refine OWp.loadAt_3 (k := 0) hh rfl rfl rfl rfl ?_ | refine OWp.loadAt_3 (k := 1) hh rfl rfl rfl rfl ?_
  refine OWp.call rfl rfl rfl rfl ?_
  refine textP_spec KCOM _ (by rw [z7c]; decide) (by omega) _ _ ?_
  refine OWp.norm ?_
  refine OWp.catS rfl rfl rfl rfl (by first | omega | (simp only [size_app, sz_0, sz_1, sz_2, sz_3, sz_4, sz_7]; omega)) ?_
  refine OWp.assign rfl rfl ?_
  refine OWp.nil ?_
  refine ⟨still_all (L := [.pointer (some ⟨b1, 0, none⟩), .pointer (some ⟨b1, 1, none⟩), .pointer (some ⟨b1, 2, none⟩), .pointer (some ⟨b1, 3, none⟩)]) rfl (by simp only [List.all_cons, List.all_nil, Bool.and_true, Bool.and_eq_true]; first | rfl | (refine ⟨?_, ?_, ?_, ?_⟩ <;> first | rfl | exact still_has (k := 0) hhS rfl hkS | exact still_has (k := 1) hhS rfl hkS) | exact still_has (k := 0) hhS rfl hkS | exact still_has (k := 1) hhS rfl hkS), ?_⟩
  refine CWp.cut (fun e H' => ∃ (w : ByteArray) (g : Nat → Value), e = [a.v, .pointer (some ⟨b1, 0, none⟩), g 2, .string w, g 4, g 5, g 6, g 7, g 8, g 9, g 10, g 11, g 12, g 13, g 14, g 15, g 16, g 17, g 18, g 19, g 20, g 21, g 22, g 23, g 24, g 25, g 26, g 27, g 28, g 29, g 30, g 31, g 32, g 33, g 34, g 35, g 36, g 37, g 38, g 39, g 40, g 41, g 42] ∧ Has H H' [(b1, a.O)] ∧ w = a.lang ++ textS KNAM a.name ++ textS KFIL a.file ++ textS KCOM a.sty ++ (if a.app = true then (⟨#[32, 97, 112, 112, 101, 110, 100]⟩ : ByteArray) else ⟨#[]⟩)) ?_ ?_
  · skip
    refine CWp.seq ?_
    refine CWp.region ?_
    refine OWp.fieldAt 4 (by decide) rfl rfl rfl ?_
    first | refine OWp.loadAt_4 (k := 0) hh rfl rfl rfl rfl ?_ | refine OWp.loadAt_4 (k := 1) hh rfl rfl rfl rfl ?_
    refine OWp.nil ?_
    first | refine CWp.condP rfl (fun h0 => ?_) (fun h0 => ?_) | refine CWp.cond rfl (fun h0 => ?_) (fun h0 => ?_)
    · skip
      first | rw [decide_eq_true h0] | rw [decide_eq_false h0] | rw [h0] | skip
      refine CWp.region ?_
      refine OWp.move rfl rfl ?_
      refine OWp.catS rfl rfl rfl rfl (by first | omega | (simp only [size_app, sz_0, sz_1, sz_2, sz_3, sz_4, sz_7]; omega)) ?_
      refine OWp.assign rfl rfl ?_
      refine OWp.nil ?_
      exact ⟨_, ex_env rfl ⟨hh, (by first | exact app_if_t h0 | exact app_if_t rfl)⟩⟩
    · skip
      first | rw [decide_eq_true h0] | rw [decide_eq_false h0] | rw [h0] | skip
      refine CWp.skip ?_
      exact ⟨_, ex_env rfl ⟨hh, (by first | exact app_if_f h0 | exact app_if_f rfl | exact app_if_f (by simpa using h0))⟩⟩
  · rintro e H' ⟨w, g, rfl, hh, hw4⟩
    have hz4 : w.size ≤ 2200000 := by
      have h4 := ha.write
      unfold writeP at h4
      rw [← hw4, size_app] at h4
      omega
    refine CWp.cut (fun e H' => ∃ (w : ByteArray) (g : Nat → Value), e = [a.v, .pointer (some ⟨b1, 0, none⟩), g 2, .string w, g 4, g 5, g 6, g 7, g 8, g 9, g 10, g 11, g 12, g 13, g 14, g 15, g 16, g 17, g 18, g 19, g 20, g 21, g 22, g 23, g 24, g 25, g 26, g 27, g 28, g 29, g 30, g 31, g 32, g 33, g 34, g 35, g 36, g 37, g 38, g 39, g 40, g 41, g 42] ∧ Has H H' [(b1, a.O)] ∧ w = writeP a) ?_ ?_
    · skip
      refine CWp.seq ?_
      refine CWp.region ?_
      refine OWp.fieldAt 5 (by decide) rfl rfl rfl ?_
      first | refine OWp.loadAt_5 (k := 0) hh rfl rfl rfl rfl ?_ | refine OWp.loadAt_5 (k := 1) hh rfl rfl rfl rfl ?_
      refine OWp.nil ?_
      first | refine CWp.condP rfl (fun h2 => ?_) (fun h2 => ?_) | refine CWp.cond rfl (fun h2 => ?_) (fun h2 => ?_)
      · skip
        first | rw [decide_eq_true h2] | rw [decide_eq_false h2] | rw [h2] | skip
        refine CWp.region ?_
        refine OWp.move rfl rfl ?_
        refine OWp.catS rfl rfl rfl rfl (by first | omega | (simp only [size_app, sz_0, sz_1, sz_2, sz_3, sz_4, sz_7]; omega)) ?_
        refine OWp.assign rfl rfl ?_
        refine OWp.nil ?_
        exact ⟨_, ex_env rfl ⟨hh, (by unfold writeP; rw [← hw4]; first | exact app_if_t h2 | exact app_if_t rfl)⟩⟩
      · skip
        first | rw [decide_eq_true h2] | rw [decide_eq_false h2] | rw [h2] | skip
        refine CWp.skip ?_
        exact ⟨_, ex_env rfl ⟨hh, (by unfold writeP; rw [← hw4]; first | exact app_if_f h2 | exact app_if_f rfl | exact app_if_f (by simpa using h2))⟩⟩
    · rintro e H' ⟨w, g, rfl, hh, hw6⟩
      subst hw6
      refine CWp.seq ?_
      refine CWp.region ?_
      refine OWp.move rfl rfl ?_
      refine OWp.call rfl rfl rfl rfl ?_
      refine trimL_spec _ _ _ ?_
      obtain ⟨tr, htr⟩ : ∃ tr, tr = trimC (writeP a) WS := ⟨_, rfl⟩
      have htz : tr.size ≤ 9000000 := by rw [htr]; have := trim_size (writeP a); omega
      rw [← htr]
      refine OWp.norm ?_
      refine OWp.assign rfl rfl ?_
      refine OWp.nil ?_
      refine CWp.seq ?_
      refine CWp.seq ?_
      refine CWp.region ?_
      refine OWp.move rfl rfl ?_
      refine OWp.call rfl rfl rfl rfl ?_
      refine read_spec _ htz _ _ ?_ hh.wf
      intro H3 ab okb hk3 hrb1 hrb2
      replace hh := hh.after hk3
      refine OWp.norm ?_
      refine OWp.move rfl rfl ?_
      refine OWp.extract rfl rfl rfl rfl ?_
      refine OWp.extract rfl rfl rfl rfl ?_
      refine OWp.allocAt hh rfl rfl (fun H4 b4 hh => ?_)
      refine OWp.norm ?_
      first | refine OWp.storeAt (k := 0) hh rfl rfl rfl rfl rfl (fun H4 hh => ?_) | refine OWp.storeAt (k := 1) hh rfl rfl rfl rfl rfl (fun H4 hh => ?_)
      simp only [List.set_cons_zero, List.set_cons_succ] at hh
      refine OWp.norm ?_
      refine OWp.assign rfl rfl ?_
      refine OWp.nil ?_
      refine CWp.seq ?_
      refine CWp.region ?_
      refine OWp.move rfl rfl ?_
      first | refine OWp.notD rfl rfl rfl ?_ | refine OWp.notB rfl rfl rfl ?_
      refine OWp.move rfl rfl ?_
      first | refine OWp.byF rfl (fun hg2 => ?_) (fun hg2 => ?_) | refine OWp.byBF rfl (fun hg2 => ?_) (fun hg2 => ?_)
      · skip
        first | rw [decide_eq_true hg2] | rw [decide_eq_false hg2] | rw [hg2] | skip
        try simp only [Decidable.not_not] at hg2
        first | refine OWp.loadAt (k := 0) hh rfl rfl rfl rfl ?_ | refine OWp.loadAt (k := 1) hh rfl rfl rfl rfl ?_
        first | refine OWp.loadAt (k := 0) hh rfl rfl rfl rfl ?_ | refine OWp.loadAt (k := 1) hh rfl rfl rfl rfl ?_
        refine OWp.neAt _ _ rfl rfl rfl rfl ?_
        refine OWp.pickF rfl rfl rfl ?_
        refine OWp.nil ?_
        first | refine CWp.condP rfl (fun h3 => ?_) (fun h3 => ?_) | refine CWp.cond rfl (fun h3 => ?_) (fun h3 => ?_)
        · skip
          first | rw [decide_eq_true h3] | rw [decide_eq_false h3] | rw [h3] | skip
          refine CWp.seq ?_
          refine CWp.region ?_
          refine OWp.assign rfl rfl ?_
          refine OWp.nil ?_
          refine CWp.ret ?_
          refine RetQ.one (by first | exact .inl rfl | exact .inr rfl) rfl rfl ?_
          have := write_no (a := a) htr hrb1 (fun e => by simp_all)
          rw [this]
          exact h _ hh.keep
        · skip
          first | rw [decide_eq_true h3] | rw [decide_eq_false h3] | rw [h3] | skip
          refine CWp.skip ?_
          refine CWp.seq ?_
          refine CWp.region ?_
          refine OWp.move rfl rfl ?_
          refine OWp.assign rfl rfl ?_
          refine OWp.nil ?_
          refine CWp.ret ?_
          refine RetQ.one (by first | exact .inl rfl | exact .inr rfl) rfl rfl ?_
          have := write_yes htr hrb1 hrb2 (by simp_all) (by simp_all)
          rw [this]
          exact h _ hh.keep
      · skip
        first | rw [decide_eq_true hg2] | rw [decide_eq_false hg2] | rw [hg2] | skip
        try simp only [Decidable.not_not] at hg2
        refine OWp.leave rfl ?_
        refine OWp.leave rfl ?_
        refine OWp.leave rfl ?_
        refine OWp.pickT rfl rfl rfl ?_
        refine OWp.nil ?_
        refine CWp.condT rfl ?_
        refine CWp.seq ?_
        refine CWp.region ?_
        refine OWp.assign rfl rfl ?_
        refine OWp.nil ?_
        refine CWp.ret ?_
        refine RetQ.one (by first | exact .inl rfl | exact .inr rfl) rfl rfl ?_
        have := write_no (a := a) htr hrb1 (fun e => by simp_all)
        rw [this]
        exact h _ hh.keep

theorem attrBack_spec (lg nm st : ByteArray) (fl ap no : Bool) (l : List Value) (hl : Bytes l) (ks : Value) (hz : lg.size + nm.size + st.size ≤ 1048576) (H : AH) (Q : Value → AH → Prop) (h : ∀ H', Q (.bool true) H') (hvw : View H ks l) (hlen : l.length ≤ 9223372036854775807) (hw : WfH H) : FWp Tryz.prog prims 5 [.string lg, .string nm, .string st, .bool fl, .bool ap, .bool no, ks] H Q := by
  have hh := Has.start hw
  refine FWp.enter (rfl) Tryz.func5 rfl (e := [.string lg, .string nm, .string st, .bool fl, .bool ap, .bool no, ks, undef, undef, undef, undef, undef, undef, undef, undef, undef, undef, undef, undef, undef, undef, undef, undef, undef, undef, undef, undef, undef, undef, undef, undef, undef, undef, undef, undef, undef, undef, undef, undef, undef, undef, undef, undef, undef, undef, undef, undef, undef, undef, undef, undef, undef, undef, undef, undef, undef, undef, undef, undef, undef, undef, undef, undef, undef, undef, undef, undef, undef, undef, undef, undef, undef, undef, undef, undef, undef, undef, undef]) rfl ?_
  refine CWp.seq ?_
  refine CWp.region ?_
  refine OWp.assign rfl rfl ?_
  refine OWp.nil ?_
  refine CWp.seq ?_
  refine CWp.region ?_
  refine OWp.move rfl rfl ?_
  refine OWp.move rfl rfl ?_
  refine OWp.move rfl rfl ?_
  refine OWp.move rfl rfl ?_
  refine OWp.move rfl rfl ?_
  refine OWp.buildAt (⟨lg, nm, ⟨#[]⟩, st, ap, no⟩) rfl rfl rfl (by kernel_rfl) ?_
  refine OWp.allocAt hh rfl rfl (fun H15 b15 hh => ?_)
  refine OWp.norm ?_
  first | refine OWp.storeAt (k := 0) hh rfl rfl rfl rfl rfl (fun H4 hh => ?_) | refine OWp.storeAt (k := 1) hh rfl rfl rfl rfl rfl (fun H4 hh => ?_) | refine OWp.storeAt (k := 2) hh rfl rfl rfl rfl rfl (fun H4 hh => ?_)
  simp only [List.set_cons_zero, List.set_cons_succ] at hh
  refine OWp.norm ?_
  refine OWp.nil ?_
  refine CWp.cut (fun e H' => ∃ (a : At) (g : Nat → Value), e = [.string lg, .string nm, .string st, .bool fl, .bool ap, .bool no, ks, g 7, g 8, g 9, g 10, g 11, g 12, g 13, g 14, .pointer (some ⟨b15, 0, none⟩), g 16, g 17, g 18, g 19, g 20, g 21, g 22, g 23, g 24, g 25, g 26, g 27, g 28, g 29, g 30, g 31, g 32, g 33, g 34, g 35, g 36, g 37, g 38, g 39, g 40, g 41, g 42, g 43, g 44, g 45, g 46, g 47, g 48, g 49, g 50, g 51, g 52, g 53, g 54, g 55, g 56, g 57, g 58, g 59, g 60, g 61, g 62, g 63, g 64, g 65, g 66, g 67, g 68, g 69, g 70, g 71, g 72, g 73, g 74, g 75, g 76, g 77] ∧ Has H H' [(b15, a.O)] ∧ SzA a) ?_ ?_
  · skip
    refine CWp.seq ?_
    refine CWp.region ?_
    refine OWp.move rfl rfl ?_
    refine OWp.nil ?_
    first | refine CWp.condP rfl (fun h0 => ?_) (fun h0 => ?_) | refine CWp.cond rfl (fun h0 => ?_) (fun h0 => ?_)
    · skip
      first | rw [decide_eq_true h0] | rw [decide_eq_false h0] | rw [h0] | skip
      refine CWp.region ?_
      refine OWp.move rfl rfl ?_
      refine OWp.fieldAt 1 (by decide) rfl rfl rfl ?_
      first | refine OWp.storeAt_1 (k := 0) hh rfl rfl rfl rfl rfl (fun H4 hh => ?_) | refine OWp.storeAt_1 (k := 1) hh rfl rfl rfl rfl rfl (fun H4 hh => ?_) | refine OWp.storeAt_1 (k := 2) hh rfl rfl rfl rfl rfl (fun H4 hh => ?_)
      simp only [List.set_cons_zero, List.set_cons_succ] at hh
      refine OWp.norm ?_
      refine OWp.fieldAt 2 (by decide) rfl rfl rfl ?_
      first | refine OWp.storeAt_2 (k := 0) hh rfl rfl rfl rfl rfl (fun H4 hh => ?_) | refine OWp.storeAt_2 (k := 1) hh rfl rfl rfl rfl rfl (fun H4 hh => ?_) | refine OWp.storeAt_2 (k := 2) hh rfl rfl rfl rfl rfl (fun H4 hh => ?_)
      simp only [List.set_cons_zero, List.set_cons_succ] at hh
      refine OWp.norm ?_
      refine OWp.nil ?_
      exact ⟨_, ex_env rfl ⟨hh, (by show lg.size + 0 + nm.size + st.size ≤ _; omega)⟩⟩
    · skip
      first | rw [decide_eq_true h0] | rw [decide_eq_false h0] | rw [h0] | skip
      refine CWp.skip ?_
      exact ⟨_, ex_env rfl ⟨hh, (by show lg.size + nm.size + 0 + st.size ≤ _; omega)⟩⟩
  · rintro e H' ⟨a, g, rfl, hh, ha⟩
    refine CWp.cut (fun e H' => ∃ (g : Nat → Value), e = [.string lg, .string nm, .string st, .bool fl, .bool ap, .bool no, ks, g 7, g 8, g 9, g 10, g 11, g 12, g 13, g 14, g 15, g 16, g 17, g 18, g 19, g 20, g 21, g 22, g 23, g 24, g 25, g 26, g 27, g 28, g 29, g 30, g 31, g 32, g 33, g 34, g 35, g 36, g 37, g 38, g 39, g 40, g 41, g 42, g 43, g 44, g 45, g 46, g 47, g 48, g 49, g 50, g 51, g 52, g 53, g 54, g 55, g 56, g 57, g 58, g 59, g 60, g 61, g 62, g 63, g 64, g 65, g 66, g 67, g 68, g 69, g 70, g 71, g 72, g 73, g 74, g 75, g 76, g 77] ∧ WfH H' ∧ Keeps H H' ∧ True) ?_ ?_
    · skip
      refine CWp.seq ?_
      refine CWp.region ?_
      first | refine OWp.loadAt (k := 0) hh rfl rfl rfl rfl ?_ | refine OWp.loadAt (k := 1) hh rfl rfl rfl rfl ?_ | refine OWp.loadAt (k := 2) hh rfl rfl rfl rfl ?_
      refine OWp.call rfl rfl rfl rfl ?_
      refine write_spec _ ha _ _ ?_ hh.wf
      intro H5 hk5
      replace hh := hh.after hk5
      have hz5 := ha.writeS
      have hy5 := @writeS_read a
      obtain ⟨tx, htx⟩ : ∃ tx, tx = writeS a := ⟨_, rfl⟩
      rw [← htx] at hz5 hy5 ⊢
      refine OWp.norm ?_
      refine OWp.assign rfl rfl ?_
      refine OWp.nil ?_
      refine CWp.seq ?_
      refine CWp.region ?_
      refine OWp.move rfl rfl ?_
      refine OWp.binS rfl rfl rfl rfl rfl ?_
      refine OWp.nil ?_
      first | refine CWp.condP rfl (fun h2 => ?_) (fun h2 => ?_) | refine CWp.cond rfl (fun h2 => ?_) (fun h2 => ?_)
      · skip
        first | rw [decide_eq_true h2] | rw [decide_eq_false h2] | rw [h2] | skip
        refine CWp.seq ?_
        refine CWp.region ?_
        refine OWp.move rfl rfl ?_
        refine OWp.call rfl rfl rfl rfl ?_
        refine read_spec _ (by omega) _ _ ?_ hh.wf
        intro H3 ac okc hk3 hrc1 hrc2
        replace hh := hh.after hk3
        obtain ⟨rfl, rfl⟩ := hrc1 _ (hy5 (by simpa using h2))
        refine OWp.norm ?_
        refine OWp.move rfl rfl ?_
        refine OWp.extract rfl rfl rfl rfl ?_
        refine OWp.extract rfl rfl rfl rfl ?_
        refine OWp.allocAt hh rfl rfl (fun H17 b17 hh => ?_)
        refine OWp.norm ?_
        first | refine OWp.storeAt (k := 0) hh rfl rfl rfl rfl rfl (fun H4 hh => ?_) | refine OWp.storeAt (k := 1) hh rfl rfl rfl rfl rfl (fun H4 hh => ?_) | refine OWp.storeAt (k := 2) hh rfl rfl rfl rfl rfl (fun H4 hh => ?_)
        simp only [List.set_cons_zero, List.set_cons_succ] at hh
        refine OWp.norm ?_
        refine OWp.assign rfl rfl ?_
        refine OWp.nil ?_
        refine CWp.seq ?_
        refine CWp.region ?_
        refine OWp.move rfl rfl ?_
        first | refine OWp.notD rfl rfl rfl ?_ | refine OWp.notB rfl rfl rfl ?_
        refine OWp.move rfl rfl ?_
        first | refine OWp.loadAt (k := 0) hh rfl rfl rfl rfl ?_ | refine OWp.loadAt (k := 1) hh rfl rfl rfl rfl ?_ | refine OWp.loadAt (k := 2) hh rfl rfl rfl rfl ?_
        first | refine OWp.loadAt (k := 0) hh rfl rfl rfl rfl ?_ | refine OWp.loadAt (k := 1) hh rfl rfl rfl rfl ?_ | refine OWp.loadAt (k := 2) hh rfl rfl rfl rfl ?_
        refine OWp.neAtN _ rfl rfl rfl rfl ?_
        refine OWp.pickF rfl rfl rfl ?_
        refine OWp.nil ?_
        refine CWp.condF rfl ?_
        refine CWp.skip ?_
        exact ex_env rfl ⟨hh.wf, hh.keep, trivial⟩
      · skip
        first | rw [decide_eq_true h2] | rw [decide_eq_false h2] | rw [h2] | skip
        refine CWp.skip ?_
        exact ex_env rfl ⟨hh.wf, hh.keep, trivial⟩
    · rintro e H' ⟨g, rfl, hw9, hk9, _⟩
      have hvw := hvw.sees (hk9.sees hw)
      have hh := Has.start hw9
      refine CWp.seq ?_
      refine CWp.region ?_
      refine OWp.move rfl rfl ?_
      refine OWp.call rfl rfl rfl rfl ?_
      refine madeV_spec l hl _ _ _ ?_ hvw hlen hh.wf
      intro Hm mm hkm hzm
      replace hh := hh.after hkm
      refine OWp.norm ?_
      refine OWp.call rfl rfl rfl rfl ?_
      refine read_spec _ (by omega) _ _ ?_ hh.wf
      intro H3 ad okd hk3 hrd1 hrd2
      replace hh := hh.after hk3
      refine OWp.norm ?_
      refine OWp.move rfl rfl ?_
      refine OWp.extract rfl rfl rfl rfl ?_
      refine OWp.extract rfl rfl rfl rfl ?_
      refine OWp.allocAt hh rfl rfl (fun H19 b19 hh => ?_)
      refine OWp.norm ?_
      first | refine OWp.storeAt (k := 0) hh rfl rfl rfl rfl rfl (fun H4 hh => ?_) | refine OWp.storeAt (k := 1) hh rfl rfl rfl rfl rfl (fun H4 hh => ?_) | refine OWp.storeAt (k := 2) hh rfl rfl rfl rfl rfl (fun H4 hh => ?_)
      simp only [List.set_cons_zero, List.set_cons_succ] at hh
      refine OWp.norm ?_
      refine OWp.assign rfl rfl ?_
      refine OWp.nil ?_
      refine CWp.seq ?_
      refine CWp.seq ?_
      refine CWp.region ?_
      refine OWp.move rfl rfl ?_
      first | refine OWp.notD rfl rfl rfl ?_ | refine OWp.notB rfl rfl rfl ?_
      refine OWp.nil ?_
      first | refine CWp.condP rfl (fun h2 => ?_) (fun h2 => ?_) | refine CWp.cond rfl (fun h2 => ?_) (fun h2 => ?_)
      · skip
        have hd0 : okd = false := by simpa using h2
        obtain rfl : ad = zeroAt := by
          cases hr : readS mm with
          | none => exact (hrd2 hr).2
          | some a3 => have := (hrd1 a3 hr).1; rw [hd0] at this; cases this
        first | rw [decide_eq_true h2] | rw [decide_eq_false h2] | rw [h2] | skip
        refine CWp.seq ?_
        refine CWp.region ?_
        first | refine OWp.loadAt (k := 0) hh rfl rfl rfl rfl ?_ | refine OWp.loadAt (k := 1) hh rfl rfl rfl rfl ?_ | refine OWp.loadAt (k := 2) hh rfl rfl rfl rfl ?_
        refine OWp.buildAt (zeroAt) rfl rfl rfl (by kernel_rfl) ?_
        refine OWp.eqAtY _ rfl rfl rfl rfl ?_
        refine OWp.move rfl rfl ?_
        refine OWp.call rfl rfl rfl rfl ?_
        refine known_spec _ _ ?_
        refine OWp.norm ?_
        refine OWp.pickT rfl rfl rfl ?_
        refine OWp.assign rfl rfl ?_
        refine OWp.nil ?_
        refine CWp.ret ?_
        refine RetQ.one (by first | exact .inl rfl | exact .inr rfl) rfl rfl ?_
        exact h _
      · skip
        have hd0 : okd = true := by simpa using h2
        have hrd : readS mm = some ad := by
          cases hr : readS mm with
          | none => have := (hrd2 hr).1; rw [hd0] at this; cases this
          | some a3 => rw [(hrd1 a3 hr).2]
        have hsd := readS_size hrd (by omega)
        first | rw [decide_eq_true h2] | rw [decide_eq_false h2] | rw [h2] | skip
        refine CWp.skip ?_
        refine CWp.seq ?_
        refine CWp.region ?_
        first | refine OWp.loadAt (k := 0) hh rfl rfl rfl rfl ?_ | refine OWp.loadAt (k := 1) hh rfl rfl rfl rfl ?_ | refine OWp.loadAt (k := 2) hh rfl rfl rfl rfl ?_
        refine OWp.call rfl rfl rfl rfl ?_
        refine write_spec _ hsd _ _ ?_ hh.wf
        intro H6 hk6
        replace hh := hh.after hk6
        have hz6 := hsd.writeS
        have hy6 : readS (writeS ad) = some ad := by rw [writeS_yes (read_write hrd)]; exact read_write hrd
        refine OWp.norm ?_
        refine OWp.call rfl rfl rfl rfl ?_
        refine read_spec _ (by omega) _ _ ?_ hh.wf
        intro H3 ae oke hk3 hre1 hre2
        replace hh := hh.after hk3
        obtain ⟨rfl, rfl⟩ := hre1 _ hy6
        refine OWp.norm ?_
        refine OWp.move rfl rfl ?_
        refine OWp.extract rfl rfl rfl rfl ?_
        refine OWp.extract rfl rfl rfl rfl ?_
        refine OWp.allocAt hh rfl rfl (fun H21 b21 hh => ?_)
        refine OWp.norm ?_
        first | refine OWp.storeAt (k := 0) hh rfl rfl rfl rfl rfl (fun H4 hh => ?_) | refine OWp.storeAt (k := 1) hh rfl rfl rfl rfl rfl (fun H4 hh => ?_) | refine OWp.storeAt (k := 2) hh rfl rfl rfl rfl rfl (fun H4 hh => ?_)
        simp only [List.set_cons_zero, List.set_cons_succ] at hh
        refine OWp.norm ?_
        refine OWp.assign rfl rfl ?_
        refine OWp.nil ?_
        refine CWp.seq ?_
        refine CWp.region ?_
        refine OWp.move rfl rfl ?_
        refine OWp.move rfl rfl ?_
        first | refine OWp.loadAt (k := 0) hh rfl rfl rfl rfl ?_ | refine OWp.loadAt (k := 1) hh rfl rfl rfl rfl ?_ | refine OWp.loadAt (k := 2) hh rfl rfl rfl rfl ?_
        first | refine OWp.loadAt (k := 0) hh rfl rfl rfl rfl ?_ | refine OWp.loadAt (k := 1) hh rfl rfl rfl rfl ?_ | refine OWp.loadAt (k := 2) hh rfl rfl rfl rfl ?_
        refine OWp.eqAtY _ rfl rfl rfl rfl ?_
        refine OWp.pickT rfl rfl rfl ?_
        refine OWp.move rfl rfl ?_
        refine OWp.call rfl rfl rfl rfl ?_
        refine known_spec _ _ ?_
        refine OWp.norm ?_
        refine OWp.pickT rfl rfl rfl ?_
        refine OWp.assign rfl rfl ?_
        refine OWp.nil ?_
        refine CWp.ret ?_
        refine RetQ.one (by first | exact .inl rfl | exact .inr rfl) rfl rfl ?_
        exact h _

end Go.Proofs.YtnlkgnoogcakjaaGreatDoor.Ev
