/- The abstract machine: equality of plain values. -/
import Derived.Test.YtbngfbpegdcpkaaA8b
namespace Go.Proofs.Ytbngfbpegdcpkaa
set_option linter.unusedVariables false
set_option linter.unusedSimpArgs false
def kindsFs (P : Program) (g : TypeId → Option (List CK)) : List Field → Nat → Option (List CK)
  | [], _ => some []
  | f :: fs, off => if f.name = "_" ∨ f.offset ≠ off then none else (g f.type).bind fun ks => if (P.info? f.type).isSome = true ∧ P.cellsOf f.type = ks.length then (kindsFs P g fs (off + ks.length)).bind fun l => some (ks ++ l) else none
def kindsOf (P : Program) : Nat → TypeId → Option (List CK)
  | 0, _ => none
  | d + 1, T => match P.underlying T with
    | some .bool => some [.bool]
    | some (.int _) => some [.int]
    | some .string => some [.str]
    | some (.struct fs) => if P.stoodInHeld T then none else kindsFs P (kindsOf P d) fs.toList 0
    | _ => none
def vceq : CK → Value → Value → Option Bool
  | .int, .int k a, .int k' b => if k = k' then some (decide (a = b)) else none
  | .bool, .bool a, .bool b => some (a == b)
  | .str, .string a, .string b => some (a == b)
  | _, _, _ => none
def veqs : List CK → List Value → List Value → Option Bool
  | [], _, _ => some true
  | k :: ks, x :: xs, y :: ys => (vceq k x y).bind fun b => (veqs ks xs ys).bind fun c => some (b && c)
  | _, _, _ => none
section
variable {P : Program} {o : Oper} {a : Act} {ρ : Locs} {R : Imm} {H : Heap} {q : Lab} {r : Res}
theorem ceq_rep {k : CK} {x y : AV} {u v : Value} {b : Bool} (h : ceq k x y = some b) (hx : RepV ρ R x u) (hy : RepV ρ R y v) : vceq k u v = some b := by
  cases k <;> cases x <;> simp only [ceq] at h <;> try (cases h; done)
  all_goals cases y <;> simp only at h <;> try (cases h; done)
  · rw [hx.int_inv, hy.int_inv]; exact h
  · rw [hx.bool_inv, hy.bool_inv]; exact h
  · rw [hx.str_inv, hy.str_inv]; exact h
theorem aeqs_rep : ∀ {ks : List CK} {xs ys : List AV} {us vs : List Value} {b : Bool}, aeqs ks xs ys = some b → RepL ρ R xs us → RepL ρ R ys vs → veqs ks us vs = some b
  | [], xs, ys, us, vs, b, h, _, _ => by simpa [aeqs, veqs] using h
  | k :: ks, [], ys, us, vs, b, h, _, _ => by simp [aeqs] at h
  | k :: ks, x :: xs, [], us, vs, b, h, _, _ => by simp [aeqs] at h
  | k :: ks, x :: xs, y :: ys, us, vs, b, h, hx, hy => by
    simp only [aeqs, Option.bind_eq_some_iff, Option.some.injEq] at h
    obtain ⟨b1, h1, b2, h2, rfl⟩ := h
    obtain ⟨u, us', rfl, hu, hus⟩ := hx.head
    obtain ⟨v, vs', rfl, hv, hvs⟩ := hy.head
    simp [veqs, ceq_rep h1 hu hv, aeqs_rep h2 hus hvs]
theorem veqs_append : ∀ {ks1 ks2 : List CK} {us vs : List Value} {b : Bool}, veqs (ks1 ++ ks2) us vs = some b → ∃ b1 b2, veqs ks1 us vs = some b1 ∧ veqs ks2 (us.drop ks1.length) (vs.drop ks1.length) = some b2 ∧ b = (b1 && b2) ∧ ks1.length ≤ us.length ∧ ks1.length ≤ vs.length
  | [], ks2, us, vs, b, h => ⟨true, b, rfl, by simpa using h, rfl, Nat.zero_le _, Nat.zero_le _⟩
  | k :: ks, ks2, [], vs, b, h => by simp [veqs] at h
  | k :: ks, ks2, u :: us, [], b, h => by simp [veqs] at h
  | k :: ks, ks2, u :: us, v :: vs, b, h => by
    simp only [List.cons_append, veqs, Option.bind_eq_some_iff, Option.some.injEq] at h
    obtain ⟨c, hc, d, hd, rfl⟩ := h
    obtain ⟨b1, b2, h1, h2, rfl, h3, h4⟩ := veqs_append hd
    exact ⟨c && b1, b2, by simp [veqs, hc, h1], by simpa using h2, by rw [Bool.and_assoc], by simpa using h3, by simpa using h4⟩
theorem veqs_take : ∀ {ks : List CK} {us vs : List Value} {b : Bool} (n : Nat), ks.length ≤ n → veqs ks us vs = some b → veqs ks (us.take n) (vs.take n) = some b
  | [], us, vs, b, n, _, h => by simpa [veqs] using h
  | k :: ks, [], vs, b, n, _, h => by simp [veqs] at h
  | k :: ks, u :: us, [], b, n, _, h => by simp [veqs] at h
  | k :: ks, u :: us, v :: vs, b, 0, hn, h => by simp at hn
  | k :: ks, u :: us, v :: vs, b, n + 1, hn, h => by
    simp only [veqs, Option.bind_eq_some_iff, Option.some.injEq] at h
    obtain ⟨c, hc, d, hd, rfl⟩ := h
    simp only [List.length_cons, Nat.add_le_add_iff_right] at hn
    simp [List.take_succ_cons, veqs, hc, veqs_take n hn hd]
/-- a value of its cells -/
def mkV (P : Program) (T : TypeId) (us : List Value) : Value := match P.underlying T with
  | some d => if aggD d then .agg us.toArray else us.getD 0 undef
  | none => undef
def EqT (P : Program) (d : Nat) (T : TypeId) (ks : List CK) : Prop := ∀ (us vs : List Value) (b : Bool) (D : Nat) (w : World), us.length = ks.length → vs.length = ks.length → veqs ks us vs = some b → (Op.equalIn (d + D) T (mkV P T us) (mkV P T vs)).run P w = .ok b w
theorem run_part {T : TypeId} {ks : List CK} (hi : (P.info? T).isSome = true) (hc : P.cellsOf T = ks.length) {d : TypeDesc} (hd : P.underlying T = some d) (h1 : aggD d = false → ks.length = 1) (us : Array Value) (off : Nat) (hle : off + ks.length ≤ us.size) (w : World) :
    (part T us off).run P w = .ok (mkV P T ((us.toList.drop off).take ks.length)) w := by
  obtain ⟨i, hi⟩ := Option.isSome_iff_exists.1 hi
  have hsz : i.size = ks.length := by rw [← hc]; simp [Program.cellsOf, hi]
  have h2 := run_isAgg' (P := P) hd w
  unfold mkV
  simp only [hd]
  cases ha : aggD d with
  | true =>
    rw [ha] at h2
    have e : us.extract off (off + ks.length) = ((us.toList.drop off).take ks.length).toArray := by
      apply Array.ext'; simp [List.extract_eq_take_drop]
    simp only [part, Sem.run_bind, h2, Result.andThen_ok, if_true, run_sizeOf' hi, hsz, Sem.run_pure, e]
  | false =>
    rw [ha] at h2
    have hl := h1 ha
    have hlt : off < us.size := by omega
    have e : ((us.toList.drop off).take ks.length).getD 0 undef = us[off] := by
      rw [hl]
      simp [List.getD_eq_getElem?_getD, hlt]
    simp only [part, Sem.run_bind, h2, Result.andThen_ok, Bool.false_eq_true, if_false, e]
    rw [Array.getElem?_eq_getElem hlt]
    rfl
theorem kinds_one {d : Nat} {T : TypeId} {ks : List CK} {D : TypeDesc} (h : kindsOf P d T = some ks) (hD : P.underlying T = some D) : aggD D = false → ks.length = 1 := by
  intro ha
  cases d with
  | zero => simp [kindsOf] at h
  | succ d =>
    simp only [kindsOf, hD] at h
    cases D <;> simp [aggD] at ha h <;> simp [← h]
theorem kinds_und {d : Nat} {T : TypeId} {ks : List CK} (h : kindsOf P d T = some ks) : ∃ D, P.underlying T = some D := by
  cases d with
  | zero => simp [kindsOf] at h
  | succ d =>
    simp only [kindsOf] at h
    cases hu : P.underlying T with
    | none => simp [hu] at h
    | some D => exact ⟨D, rfl⟩
theorem eq_fields {d D : Nat} (ih : ∀ T ks, kindsOf P d T = some ks → EqT P d T ks) (us vs : Array Value) (w : World) : ∀ (fs : List Field) (off : Nat) (ks : List CK) (b : Bool), kindsFs P (kindsOf P d) fs off = some ks → veqs ks (us.toList.drop off) (vs.toList.drop off) = some b → off ≤ us.size → off ≤ vs.size →
    ((forIn fs ((none : Option Bool), ()) fun (f : Field) (_ : Option Bool × Unit) =>
            if f.name = "_" then pure (ForInStep.yield (none, ()))
            else do
              let l ← part f.type us f.offset
              let l1 ← part f.type vs f.offset
              let l2 ← Op.equalIn (d + D) f.type l l1
              if l2 = false then pure (ForInStep.done (some false, ())) else pure (ForInStep.yield (none, ())) : Sem (Option Bool × Unit))).run P w = .ok (if b then none else some false, ()) w
  | [], off, ks, b, h, hb, _, _ => by
    simp only [kindsFs, Option.some.injEq] at h
    subst h
    simp only [veqs, Option.some.injEq] at hb
    subst hb
    simp
  | f :: fs, off, ks, b, h, hb, hu, hv => by
    simp only [kindsFs] at h
    split at h
    · cases h
    · rename_i hn
      simp only [not_or, Decidable.not_not] at hn
      obtain ⟨hn, rfl⟩ := hn
      simp only [Option.bind_eq_some_iff] at h
      obtain ⟨k1, hk1, h⟩ := h
      split at h
      · rename_i hc
        simp only [Option.bind_eq_some_iff, Option.some.injEq] at h
        obtain ⟨k2, hk2, rfl⟩ := h
        obtain ⟨b1, b2, h1, h2, rfl, h3, h4⟩ := veqs_append hb
        simp only [List.length_drop, Array.length_toList] at h3 h4
        obtain ⟨De, hDe⟩ := kinds_und hk1
        have p1 := run_part (P := P) hc.1 hc.2 hDe (kinds_one hk1 hDe) us f.offset (by omega) w
        have p2 := run_part (P := P) hc.1 hc.2 hDe (kinds_one hk1 hDe) vs f.offset (by omega) w
        have p3 := ih f.type k1 hk1 ((us.toList.drop f.offset).take k1.length) ((vs.toList.drop f.offset).take k1.length) b1 D w (by simp; omega) (by simp; omega) (veqs_take _ (Nat.le_refl _) h1)
        have p4 := eq_fields (D := D) ih us vs w fs (f.offset + k1.length) k2 b2 hk2 (by simpa [List.drop_drop] using h2) (by omega) (by omega)
        rw [List.forIn_cons]
        simp only [hn, if_false, Sem.run_bind, p1, p2, p3, Result.andThen_ok]
        cases b1 with
        | false => simp
        | true =>
          simp only [Bool.true_eq_false, if_false, Sem.run_pure, Result.andThen_ok, Bool.true_and]
          exact p4
      · cases h
theorem eq_plain : ∀ (d : Nat) (T : TypeId) (ks : List CK), kindsOf P d T = some ks → EqT P d T ks
  | 0, T, ks, h => by simp [kindsOf] at h
  | d + 1, T, ks, h => by
    have ih := fun T ks => eq_plain d T ks
    intro us vs b D w hu hv hb
    simp only [kindsOf] at h
    have hdd : d + 1 + D = (d + D) + 1 := by omega
    rw [hdd]
    split at h
    · rename_i hT
      cases h
      match us, vs, hu, hv with
      | [u], [v], _, _ =>
        simp only [veqs, Option.bind_eq_some_iff, Option.some.injEq] at hb
        obtain ⟨b', hb', _, rfl, rfl⟩ := hb
        cases u <;> simp only [vceq] at hb' <;> try (cases hb'; done)
        cases v <;> simp only at hb' <;> try (cases hb'; done)
        simp only [Option.some.injEq] at hb'; subst hb'
        simp [mkV, hT, aggD, Op.equalIn, run_underlying' hT]
    · rename_i k hT
      cases h
      match us, vs, hu, hv with
      | [u], [v], _, _ =>
        simp only [veqs, Option.bind_eq_some_iff, Option.some.injEq] at hb
        obtain ⟨b', hb', _, rfl, rfl⟩ := hb
        cases u <;> simp only [vceq] at hb' <;> try (cases hb'; done)
        cases v <;> simp only at hb' <;> try (cases hb'; done)
        split at hb'
        · rename_i hk; subst hk
          simp only [Option.some.injEq] at hb'; subst hb'
          simp [mkV, hT, aggD, Op.equalIn, run_underlying' hT]
          rfl
        · cases hb'
    · rename_i hT
      cases h
      match us, vs, hu, hv with
      | [u], [v], _, _ =>
        simp only [veqs, Option.bind_eq_some_iff, Option.some.injEq] at hb
        obtain ⟨b', hb', _, rfl, rfl⟩ := hb
        cases u <;> simp only [vceq] at hb' <;> try (cases hb'; done)
        cases v <;> simp only at hb' <;> try (cases hb'; done)
        simp only [Option.some.injEq] at hb'; subst hb'
        simp [mkV, hT, aggD, Op.equalIn, run_underlying' hT]
    · rename_i fs hT
      split at h
      · cases h
      · rename_i hs
        have hs' : P.stoodInHeld T = false := by simpa using hs
        have := eq_fields (P := P) (D := D) ih us.toArray vs.toArray w fs.toList 0 ks b h (by simpa using hb) (Nat.zero_le _) (Nat.zero_le _)
        have hm : ∀ xs : List Value, mkV P T xs = .agg xs.toArray := fun xs => by simp [mkV, hT, aggD]
        rw [hm, hm, Op.equalIn]
        simp only [Sem.run_bind, run_underlying' hT, Result.andThen_ok]
        rw [Array.forIn_toList] at this
        simp [hs']
        rw [this]
        cases b <;> simp
    · cases h
/-- equality of two plain values of one type -/
theorem run_eq_plain {d : Nat} (hd : d ≤ 10000) {T : TypeId} {ks : List CK} (h : kindsOf P d T = some ks) {us vs : List Value} {b : Bool} (hu : us.length = ks.length) (hv : vs.length = ks.length) (hb : veqs ks us vs = some b) (w : World) : (Op.equal T (mkV P T us) (mkV P T vs)).run P w = .ok b w := by
  have := eq_plain d T ks h us vs b (10000 - d) w hu hv hb
  rw [show d + (10000 - d) = 10000 by omega] at this
  exact this
theorem shaped_val {T : TypeId} {D : TypeDesc} {ks : List CK} {x : AV} {v : Value} (hD : P.underlying T = some D) (h : shaped (aggD D) ks x = true) (hx : RepV ρ R x v) : v = mkV P T v.cells.toList ∧ v.cells.toList.length = ks.length := by
  simp only [shaped, Bool.and_eq_true, beq_iff_eq, decide_eq_true_eq] at h
  obtain ⟨h1, h2⟩ := h
  have hl := (RepL.cells hx).1
  refine ⟨?_, by rw [hl, h2]⟩
  unfold mkV
  simp only [hD]
  rw [← h1]
  cases hx <;> simp [AV.isAgg, Value.cells]
theorem akeq_run {d : Nat} (hd : d ≤ 10000) {T : TypeId} {D : TypeDesc} {ks : List CK} (h : kindsOf P d T = some ks) (hD : P.underlying T = some D) {x y : AV} {u v : Value} {b : Bool} (hb : akeq (aggD D) ks x y = some b) (hx : RepV ρ R x u) (hy : RepV ρ R y v) (w : World) : (Op.equal T u v).run P w = .ok b w := by
  unfold akeq at hb
  split at hb
  · rename_i hs
    simp only [Bool.and_eq_true] at hs
    obtain ⟨e1, l1⟩ := shaped_val (P := P) hD hs.1 hx
    obtain ⟨e2, l2⟩ := shaped_val (P := P) hD hs.2 hy
    rw [e1, e2]
    exact run_eq_plain hd h l1 l2 (aeqs_rep hb (RepL.cells hx) (RepL.cells hy)) w
  · cases hb
theorem sound_eqs {op : BinOp} {T T' : TypeId} {p p' : Operand} {fs : Array Field} {ks : List CK} {x y z : AV} {b : Bool} (ho : o.op = .binOp op T p p' T') (hD : P.underlying T = some (.struct fs)) (hk : kindsOf P 20 T = some ks) (hg : P.eqGuardType P.depth T = false)
    (hx : RepV ρ R x (a.eval p)) (hy : RepV ρ R y (a.eval p')) (hb : akeq true ks x y = some b) (hz : eqNeq op b = some z) : Sound P o a ρ R H q (.pure z) := by
  have hs : shaped true ks x = true ∧ shaped true ks y = true := by
    unfold akeq at hb
    split at hb
    · rename_i h; simpa using h
    · cases hb
  have hax : x.isAgg = true := by have := hs.1; simp only [shaped, Bool.and_eq_true, beq_iff_eq] at this; exact this.1
  have hay : y.isAgg = true := by have := hs.2; simp only [shaped, Bool.and_eq_true, beq_iff_eq] at this; exact this.1
  cases x <;> simp [AV.isAgg] at hax
  cases y <;> simp [AV.isAgg] at hay
  obtain ⟨us, hu, _⟩ := hx.agg_inv
  obtain ⟨vs, hv, _⟩ := hy.agg_inv
  have key : ∀ w, ∃ t, (execOp a.eval o).run P w = .ok (.value t) w ∧ RepV ρ R z t := by
    intro w
    have he := akeq_run (P := P) (T := T) (by omega) hk hD hb hx hy w
    obtain ⟨t, h1, h2⟩ := run_binEq (P := P) (ρ := ρ) (R := R) (T := T) (u := a.eval p) (v := a.eval p') w hz (by rw [hu, hv]; exact ⟨rfl, rfl⟩) he
    refine ⟨t, ?_, h2⟩
    have hgu : (eqGuard op T p p' (a.eval p) (a.eval p')).run P w = .ok () w := by
      rw [hu, hv]
      cases op <;> simp [eqGuard, hg]
    simp [execOp, ho, hgu, h1]
  refine ⟨fun l hl => absurd hl (not_has_nil l), fun w hR _ => ?_⟩
  obtain ⟨t, h1, h2⟩ := key w
  exact opC_value h1 ⟨ρ, R, Fut.refl _ _ _ _ _, h2, hR⟩
end
end Go.Proofs.Ytbngfbpegdcpkaa
