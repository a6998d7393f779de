/- The abstract machine: maps. -/
import Derived.Test.YtbngfbpegdcpkaaA8c
namespace Go.Proofs.Ytbngfbpegdcpkaa
set_option linter.unusedVariables false
set_option linter.unusedSimpArgs false
section
variable {P : Program} {o : Oper} {a : Act} {ρ : Locs} {R : Imm} {H : Heap} {q : Lab} {r : Res}

theorem check_fields {e : Bool} {n d : Nat} (ih : ∀ T ks, kindsOf P d T = some ks → ∀ (us : List Value) (w : World), us.length = ks.length → (Instr.checkKey e n T (mkV P T us)).run P w = .ok () w) (us : Array Value) (w : World) : ∀ (fs : List Field) (off : Nat) (ks : List CK), kindsFs P (kindsOf P d) fs off = some ks → off + ks.length ≤ us.size →
    ((forIn fs PUnit.unit fun (f : Field) (_ : PUnit) => if f.name = "_" then pure (ForInStep.yield PUnit.unit) else do
        let l ← part f.type us f.offset
        (fun _ => ForInStep.yield PUnit.unit) <$> Instr.checkKey e n f.type l : Sem PUnit)).run P w = .ok PUnit.unit w
  | [], off, ks, h, hu => by simp
  | f :: fs, off, ks, h, hu => by
    simp only [kindsFs] at h
    split at h
    · cases h
    · rename_i hn
      simp only [not_or, Decidable.not_not] at hn
      obtain ⟨hn, rfl⟩ := hn
      simp only [Option.bind_eq_some_iff] at h
      obtain ⟨k1, hk1, h⟩ := h
      split at h
      · rename_i hc
        simp only [Option.bind_eq_some_iff, Option.some.injEq] at h
        obtain ⟨k2, hk2, rfl⟩ := h
        simp only [List.length_append] at hu
        obtain ⟨De, hDe⟩ := kinds_und hk1
        have p1 := run_part (P := P) hc.1 hc.2 hDe (kinds_one hk1 hDe) us f.offset (by omega) w
        have p3 := ih f.type k1 hk1 ((us.toList.drop f.offset).take k1.length) w (by simp; omega)
        have p4 := check_fields ih us w fs (f.offset + k1.length) k2 hk2 (by omega)
        rw [List.forIn_cons]
        simp only [hn, if_false, Sem.run_bind, Sem.run_map, p1, p3, Result.andThen_ok]
        exact p4
      · cases h
theorem check_plain {e : Bool} : ∀ (d n : Nat) (T : TypeId) (ks : List CK), kindsOf P d T = some ks → ∀ (us : List Value) (w : World), us.length = ks.length → (Instr.checkKey e (d + n) T (mkV P T us)).run P w = .ok () w
  | 0, n, T, ks, h => by simp [kindsOf] at h
  | d + 1, n, T, ks, h => by
    intro us w hu
    rw [show d + 1 + n = (d + n) + 1 by omega]
    have ih := fun T ks h => check_plain (e := e) d n T ks h
    simp only [kindsOf] at h
    rw [Instr.checkKey]
    split at h
    · rename_i hT; simp [run_underlying' hT]
    · rename_i k hT; simp [run_underlying' hT]
    · rename_i hT; simp [run_underlying' hT]
    · rename_i fs hT
      split at h
      · cases h
      · have := check_fields ih us.toArray w fs.toList 0 ks h (by simp; omega)
        have hm : mkV P T us = .agg us.toArray := by simp [mkV, hT, aggD]
        rw [hm]
        rw [Array.forIn_toList] at this
        simp only [Sem.run_bind, run_underlying' hT, Result.andThen_ok]
        simp
        rw [this]
        simp
    · cases h
theorem check_key {e : Bool} {T : TypeId} {D : TypeDesc} {ks : List CK} (hk : kindsOf P 20 T = some ks) (hD : P.underlying T = some D) {x : AV} {v : Value} (h : shaped (aggD D) ks x = true) (hx : RepV ρ R x v) (w : World) : (Instr.checkKey e 10000 T v).run P w = .ok () w := by
  obtain ⟨e1, l1⟩ := shaped_val (P := P) hD h hx
  rw [e1]
  exact check_plain (e := e) 20 9980 T ks hk _ w l1
/-- the search of a key -/
def FoundOk (ρ : Locs) (R : Imm) (agg : Bool) (ks : List CK) (x : AV) (es : List (AV × AV)) (ents : List MapEntry) (i : Nat) : Option (Nat × AV) → Option (Nat × Value) → Prop
  | none, none => True
  | some (j, y), some (j', u) => j = j' ∧ i ≤ j ∧ RepV ρ R y u ∧ (∃ p m, es[j - i]? = some p ∧ ents[j - i]? = some m ∧ akeq agg ks x p.1 = some true)
  | _, _ => False
theorem FoundOk.cons {agg : Bool} {ks : List CK} {x : AV} {es : List (AV × AV)} {ents : List MapEntry} {i : Nat} {r : Option (Nat × AV)} {c : Option (Nat × Value)} (p : AV × AV) (m : MapEntry) (h : FoundOk ρ R agg ks x es ents (i + 1) r c) : FoundOk ρ R agg ks x (p :: es) (m :: ents) i r c := by
  cases r with
  | none => cases c with
    | none => trivial
    | some ju => exact h.elim
  | some jy => cases c with
    | none => exact h.elim
    | some ju =>
      obtain ⟨j, y⟩ := jy
      obtain ⟨j', u⟩ := ju
      obtain ⟨e1, e2, e3, p', m', e4, e5, e6⟩ := h
      refine ⟨e1, by omega, e3, p', m', ?_, ?_, e6⟩
      · rw [show j - i = (j - (i + 1)) + 1 by omega]; simpa using e4
      · rw [show j - i = (j - (i + 1)) + 1 by omega]; simpa using e5
theorem findNow_none {kd : TypeDesc} {k : Value} (h : ∀ v, Instr.sameNow kd k v = none) : ∀ (es : List MapEntry) (i : Nat), es ≠ [] → Instr.findNow kd k es i = none
  | [], _, he => absurd rfl he
  | e :: es, i, _ => by simp [Instr.findNow, h]
theorem afind_run {T : TypeId} {D : TypeDesc} {ks : List CK} (hk : kindsOf P 20 T = some ks) (hD : P.underlying T = some D) {x : AV} {v : Value} (hx : RepV ρ R x v) (w : World) : ∀ (es : List (AV × AV)) (ents : List MapEntry) (i : Nat) (r : Option (Nat × AV)), afind (aggD D) ks x es i = some r → ents.length = es.length →
    (∀ (j : Nat) p m, es[j]? = some p → ents[j]? = some m → RepV ρ R p.1 m.key ∧ RepV ρ R p.2 m.val) →
    (∃ c, (Instr.findAsking T v ents i).run P w = .ok c w ∧ FoundOk ρ R (aggD D) ks x es ents i r c)
  | [], ents, i, r, h, hl, _ => by
    simp only [afind, Option.some.injEq] at h; subst h
    have : ents = [] := List.length_eq_zero_iff.1 hl
    subst this
    exact ⟨none, rfl, trivial⟩
  | p :: es, ents, i, r, h, hl, hr => by
    cases ents with
    | nil => simp at hl
    | cons m ents =>
      obtain ⟨h1, h2⟩ := hr 0 p m rfl rfl
      simp only [afind, Option.bind_eq_some_iff] at h
      obtain ⟨b, hb, h⟩ := h
      have he := akeq_run (P := P) (T := T) (by omega) hk hD hb hx h1 w
      cases b with
      | true =>
        simp only [if_true, Option.some.injEq] at h; subst h
        exact ⟨some (i, m.val), by simp [Instr.findAsking, he], rfl, Nat.le_refl _, h2, p, m, by simp, by simp, hb⟩
      | false =>
        simp only [Bool.false_eq_true, if_false] at h
        obtain ⟨c, hc, hm⟩ := afind_run hk hD hx w es ents (i + 1) r h (by simpa using hl) (fun j p m hp hm => hr (j + 1) p m (by simpa using hp) (by simpa using hm))
        refine ⟨c, by simp [Instr.findAsking, he, hc], ?_⟩
        exact hm.cons p m
theorem sameNow_plain {T : TypeId} {D : TypeDesc} {ks : List CK} (hk : kindsOf P 20 T = some ks) (hD : P.underlying T = some D) (hagg : aggD D = false) {x y : AV} {u v : Value} {b : Bool} (hb : akeq (aggD D) ks x y = some b) (hx : RepV ρ R x u) (hy : RepV ρ R y v) : Instr.sameNow D u v = some b := by
  rw [hagg] at hb
  unfold akeq at hb
  split at hb
  · rename_i hs
    simp only [Bool.and_eq_true, shaped, beq_iff_eq, decide_eq_true_eq] at hs
    obtain ⟨⟨hx1, hx2⟩, hy1, hy2⟩ := hs
    have hl := kinds_one hk hD hagg
    have hcx : x.cells = [x] := by cases x <;> simp [AV.isAgg] at hx1 <;> rfl
    have hcy : y.cells = [y] := by cases y <;> simp [AV.isAgg] at hy1 <;> rfl
    rw [hcx, hcy] at hb
    match ks, hl with
    | [k], _ =>
      simp only [aeqs, Option.bind_eq_some_iff, Option.some.injEq] at hb
      obtain ⟨b', hb, _, rfl, rfl⟩ := hb
      simp only [kindsOf, hD] at hk
      cases D <;> simp [aggD] at hagg hk
      all_goals subst hk
      · cases x <;> simp only [ceq] at hb <;> try (cases hb; done)
        cases y <;> simp only at hb <;> try (cases hb; done)
        simp only [Option.some.injEq] at hb; subst hb
        rw [hx.bool_inv, hy.bool_inv]; simp [Instr.sameNow]
      · cases x <;> simp only [ceq] at hb <;> try (cases hb; done)
        cases y <;> simp only at hb <;> try (cases hb; done)
        split at hb
        · rename_i hkk; subst hkk
          simp only [Option.some.injEq] at hb; subst hb
          rw [hx.int_inv, hy.int_inv]; simp [Instr.sameNow]; rfl
        · cases hb
      · cases x <;> simp only [ceq] at hb <;> try (cases hb; done)
        cases y <;> simp only at hb <;> try (cases hb; done)
        simp only [Option.some.injEq] at hb; subst hb
        rw [hx.str_inv, hy.str_inv]; simp [Instr.sameNow]
  · cases hb
theorem findNow_plain {T : TypeId} {D : TypeDesc} {ks : List CK} (hk : kindsOf P 20 T = some ks) (hD : P.underlying T = some D) (hagg : aggD D = false) {x : AV} {v : Value} (hx : RepV ρ R x v) : ∀ (es : List (AV × AV)) (ents : List MapEntry) (i : Nat) (r : Option (Nat × AV)), afind (aggD D) ks x es i = some r → ents.length = es.length →
    (∀ (j : Nat) p m, es[j]? = some p → ents[j]? = some m → RepV ρ R p.1 m.key ∧ RepV ρ R p.2 m.val) →
    (∃ c, Instr.findNow D v ents i = some c ∧ FoundOk ρ R (aggD D) ks x es ents i r c)
  | [], ents, i, r, h, hl, _ => by
    simp only [afind, Option.some.injEq] at h; subst h
    have : ents = [] := List.length_eq_zero_iff.1 hl
    subst this
    exact ⟨none, rfl, trivial⟩
  | p :: es, ents, i, r, h, hl, hr => by
    cases ents with
    | nil => simp at hl
    | cons m ents =>
      obtain ⟨h1, h2⟩ := hr 0 p m rfl rfl
      simp only [afind, Option.bind_eq_some_iff] at h
      obtain ⟨b, hb, h⟩ := h
      have he := sameNow_plain (P := P) hk hD hagg hb hx h1
      cases b with
      | true =>
        simp only [if_true, Option.some.injEq] at h; subst h
        exact ⟨some (i, m.val), by simp [Instr.findNow, he], rfl, Nat.le_refl _, h2, p, m, by simp, by simp, hb⟩
      | false =>
        simp only [Bool.false_eq_true, if_false] at h
        obtain ⟨c, hc, hm⟩ := findNow_plain hk hD hagg hx es ents (i + 1) r h (by simpa using hl) (fun j p m hp hm => hr (j + 1) p m (by simpa using hp) (by simpa using hm))
        refine ⟨c, by simp [Instr.findNow, he, hc], ?_⟩
        exact hm.cons p m
theorem findKey_run {T : TypeId} {D : TypeDesc} {ks : List CK} (hk : kindsOf P 20 T = some ks) (hD : P.underlying T = some D) {x : AV} {v : Value} (hx : RepV ρ R x v) (w : World) {es : List (AV × AV)} {ents : List MapEntry} {r : Option (Nat × AV)} (h : afind (aggD D) ks x es 0 = some r) (hl : ents.length = es.length)
    (hr : ∀ (j : Nat) p m, es[j]? = some p → ents[j]? = some m → RepV ρ R p.1 m.key ∧ RepV ρ R p.2 m.val) :
    ∃ c, (Instr.findKey T v ents).run P w = .ok c w ∧ FoundOk ρ R (aggD D) ks x es ents 0 r c := by
  cases hagg : aggD D with
  | false =>
    obtain ⟨c, hc, hm⟩ := findNow_plain (P := P) hk hD hagg hx es ents 0 r h hl hr
    rw [hagg] at hm
    exact ⟨c, by simp [Instr.findKey, run_underlying' hD, hc], hm⟩
  | true =>
    obtain ⟨c, hc, hm⟩ := afind_run (P := P) hk hD hx w es ents 0 r h hl hr
    rw [hagg] at hm
    refine ⟨c, ?_, hm⟩
    have hsn : ∀ u, Instr.sameNow D v u = none := by
      intro u
      cases D <;> simp [aggD] at hagg <;> (simp [Instr.sameNow])
    cases ents with
    | nil =>
      have : es = [] := List.length_eq_zero_iff.1 hl.symm
      subst this
      simp only [Instr.findAsking, Sem.run_pure, Result.ok.injEq, and_true] at hc
      subst hc
      simp [Instr.findKey, run_underlying' hD, Instr.findNow]
    | cons m ents =>
      simp [Instr.findKey, run_underlying' hD, findNow_none hsn (m :: ents) 0 (by simp), hc]
theorem run_getObj {w : World} {b : Nat} {ents : Array MapEntry} {clock : Nat} (h : w.heap[b]? = some (.map ents clock)) : (getObj b).run P w = .ok (.map ents clock) w := by simp [getObj, Sem.run, h]
theorem run_setObj {w : World} {b : Nat} {ents : Array MapEntry} {clock : Nat} (h : w.heap[b]? = some (.map ents clock)) (O : Obj) : (setObj b O).run P w = .ok () (w.setB b O) := by simp [setObj, Sem.run, h, World.setB]
theorem RepV.map_inv {l : Lab} {v : Value} (h : RepV ρ R (.map l) v) : ∃ L, ρ l = some L ∧ v = .map (some L.blk) := by cases h; exact ⟨_, by assumption, rfl⟩
def lkRes (ok : Bool) (zero : AV) : Option (Nat × AV) → AV
  | some (_, v) => if ok then .tuple [v, .bool true] else v
  | none => if ok then .tuple [zero, .bool false] else zero
/-- a map's entry at a key, in the order in which they stand -/
theorem lookup_run {T K E : TypeId} {D : TypeDesc} {p p' : Operand} {ok : Bool} {i : TypeInfo} {z : Value} {zero k : AV} {ks : List CK} {l : Lab} (ho : o.op = .lookup T p p' ok) (hT : P.underlying T = some (.map K E)) (hD : P.underlying K = some D) (hk : kindsOf P 20 K = some ks) (hi : P.info? E = some i) (hz : i.zero = some z) (hzr : RepV ρ R zero z)
    (hm : RepV ρ R (.map l) (a.eval p)) (hkk : RepV ρ R k (a.eval p')) (hs : shaped (aggD D) ks k = true) {es : List (AV × AV)} {c : Option (Nat × AV)} (hc : afind (aggD D) ks k es 0 = some c) {x : AV} (hx : x = lkRes ok zero c)
    (w : World) (L : Loc) (ents : Array MapEntry) (clock : Nat) (hO : w.heap[L.blk]? = some (.map ents clock)) (hL : ρ l = some L) (hl1 : ents.size = es.length) (hr : ∀ (i : Nat) p m, es[i]? = some p → ents[i]? = some m → RepV ρ R p.1 m.key ∧ RepV ρ R p.2 m.val) : ∃ v, (execOp a.eval o).run P w = .ok (.value v) w ∧ RepV ρ R x v := by
  obtain ⟨L', hL', hg⟩ := hm.map_inv
  rw [hL] at hL'; cases hL'
  obtain ⟨c', hc', hf⟩ := findKey_run (P := P) hk hD hkk w hc (ents := ents.toList) (by simpa using hl1) (fun j p m hp hm => hr j p m hp (by simpa using hm))
  have hck := check_key (P := P) (e := ents.isEmpty) hk hD hs hkk w
  cases c with
  | none =>
    cases c' with
    | some ju => exact hf.elim
    | none =>
      subst hx
      refine ⟨if ok then .tuple #[z, .bool false] else z, ?_, ?_⟩
      · simp [execOp, ho, hg, Instr.lookup, run_underlying' hT, run_getObj hO, hck, hc', run_zero' hi hz]
      · cases ok
        · exact hzr
        · exact (RepL.cons hzr (.cons (.bool false) .nil)).tuple
  | some jy =>
    cases c' with
    | none => exact hf.elim
    | some ju =>
      obtain ⟨j, y⟩ := jy
      obtain ⟨j', u⟩ := ju
      obtain ⟨_, _, hyu, _⟩ := hf
      subst hx
      refine ⟨if ok then .tuple #[u, .bool true] else u, ?_, ?_⟩
      · simp [execOp, ho, hg, Instr.lookup, run_underlying' hT, run_getObj hO, hck, hc']
      · cases ok
        · exact hyu
        · exact (RepL.cons hyu (.cons (.bool true) .nil)).tuple
theorem match_perm {agg : Bool} {ks : List CK} {k : AV} {es es' : List (AV × AV)} (h : es'.Perm es) : ∀ {l : List AV}, amatch agg ks k es = some l → ∃ l', amatch agg ks k es' = some l' ∧ l'.Perm l := by
  induction h with
  | nil => intro l hl; exact ⟨l, hl, .refl _⟩
  | cons x _ ih =>
    intro l hl
    simp only [amatch, Option.bind_eq_some_iff, Option.map_eq_some_iff] at hl ⊢
    obtain ⟨b, hb, m, hm, rfl⟩ := hl
    obtain ⟨m', hm', hp⟩ := ih hm
    refine ⟨_, ⟨b, hb, m', hm', rfl⟩, ?_⟩
    cases b
    · exact hp
    · exact hp.cons _
  | swap x y es =>
    intro l hl
    simp only [amatch, Option.bind_eq_some_iff, Option.map_eq_some_iff] at hl ⊢
    obtain ⟨b, hb, m, ⟨b2, hb2, m2, hm2, rfl⟩, rfl⟩ := hl
    refine ⟨_, ⟨b2, hb2, _, ⟨b, hb, m2, hm2, rfl⟩, rfl⟩, ?_⟩
    cases b <;> cases b2
    · exact .refl _
    · exact .refl _
    · exact .refl _
    · exact .swap _ _ _
  | trans _ _ ih1 ih2 =>
    intro l hl
    obtain ⟨l2, h2, p2⟩ := ih2 hl
    obtain ⟨l1, h1, p1⟩ := ih1 h2
    exact ⟨l1, h1, p1.trans p2⟩
theorem match_find {agg : Bool} {ks : List CK} {k : AV} : ∀ {es : List (AV × AV)} {i : Nat} {l : List AV}, amatch agg ks k es = some l → (l = [] → afind agg ks k es i = some none) ∧ (∀ v r, l = v :: r → ∃ j, afind agg ks k es i = some (some (j, v)))
  | [], i, l, h => by
    simp only [amatch, Option.some.injEq] at h; subst h
    exact ⟨fun _ => rfl, fun v r e => by cases e⟩
  | e :: es, i, l, h => by
    simp only [amatch, Option.bind_eq_some_iff, Option.map_eq_some_iff] at h
    obtain ⟨b, hb, m, hm, rfl⟩ := h
    have ih := match_find (i := i + 1) hm
    simp only [afind, hb, Option.bind_some]
    cases b
    · simpa using ih
    · refine ⟨fun e => by simp at e, fun v r e => ?_⟩
      simp at e
      obtain ⟨rfl, rfl⟩ := e
      exact ⟨i, by simp⟩
theorem sound_lookup {T K E : TypeId} {D : TypeDesc} {p p' : Operand} {ok : Bool} {i : TypeInfo} {z : Value} {zero m k : AV} {ks : List CK} (ho : o.op = .lookup T p p' ok) (hT : P.underlying T = some (.map K E)) (hD : P.underlying K = some D) (hk : kindsOf P 20 K = some ks) (hi : P.info? E = some i) (hz : i.zero = some z) (hzz : ofC z = some zero)
    (hm : RepV ρ R m (a.eval p)) (hkk : RepV ρ R k (a.eval p')) (h : aLookup (aggD D) ks zero ok m k H = some r) : Sound P o a ρ R H q r := by
  have hzr := rep_ofC (ρ := ρ) (R := R) hzz
  unfold aLookup at h
  split at h
  · rename_i hs
    split at h
    · simp only [Option.some.injEq] at h; subst h
      generalize hg : a.eval p = pv at hm
      cases hm
      refine sound_pure (v := if ok then .tuple #[z, .bool false] else z) (fun w => ?_) ?_
      · have hck := check_key (P := P) (e := true) hk hD hs hkk w
        simp [execOp, ho, hg, Instr.lookup, run_underlying' hT, hck, Instr.findKey, run_underlying' hD, Instr.findNow, run_zero' hi hz]
      · cases ok
        · exact hzr
        · exact (RepL.cons hzr (.cons (.bool false) .nil)).tuple
    · rename_i l
      split at h
      · rename_i es bs ck hl
        simp only [Option.bind_eq_some_iff] at h
        obtain ⟨c, hc, h⟩ := h
        have key : ∀ w L O, w.heap[L.blk]? = some O → ρ l = some L → RepO ρ R L (.amap es bs ck) O → ∃ v, (execOp a.eval o).run P w = .ok (.value v) w ∧ RepV ρ R r.x v := by
          intro w L O hO hL hrep
          cases O <;> simp only [RepO] at hrep
          rename_i ents clock
          obtain ⟨hl1, _, _, _, hr⟩ := hrep
          obtain ⟨L', hL', hg⟩ := hm.map_inv
          rw [hL] at hL'; cases hL'
          obtain ⟨c', hc', hf⟩ := findKey_run (P := P) hk hD hkk w hc (ents := ents.toList) (by simpa using hl1) (fun j p m hp hm => hr j p m hp (by simpa using hm))
          have hck := check_key (P := P) (e := ents.isEmpty) hk hD hs hkk w
          cases c with
          | none =>
            cases c' with
            | some ju => exact hf.elim
            | none =>
              simp only [Option.some.injEq] at h; subst h
              refine ⟨if ok then .tuple #[z, .bool false] else z, ?_, ?_⟩
              · simp [execOp, ho, hg, Instr.lookup, run_underlying' hT, run_getObj hO, hck, hc', run_zero' hi hz]
              · cases ok
                · exact hzr
                · exact (RepL.cons hzr (.cons (.bool false) .nil)).tuple
          | some jy =>
            cases c' with
            | none => exact hf.elim
            | some ju =>
              obtain ⟨j, y⟩ := jy
              obtain ⟨j', u⟩ := ju
              obtain ⟨_, _, hyu, _⟩ := hf
              simp only [Option.some.injEq] at h; subst h
              refine ⟨if ok then .tuple #[u, .bool true] else u, ?_, ?_⟩
              · simp [execOp, ho, hg, Instr.lookup, run_underlying' hT, run_getObj hO, hck, hc']
              · cases ok
                · exact hyu
                · exact (RepL.cons hyu (.cons (.bool true) .nil)).tuple
        have hr : ∃ x, r = ⟨x, [], some [l]⟩ := by
          cases c with
          | none => simp only [Option.some.injEq] at h; exact ⟨_, h.symm⟩
          | some jy => obtain ⟨j, y⟩ := jy; simp only [Option.some.injEq] at h; exact ⟨_, h.symm⟩
        obtain ⟨x, rfl⟩ := hr
        exact sound_read hl key
      · rename_i es hl
        simp only [Option.bind_eq_some_iff] at h
        obtain ⟨c, hc, h⟩ := h
        have hr : ∃ x, r = ⟨x, [], some [l]⟩ ∧ ∀ es' : List (AV × AV), es'.Perm es → ∃ d, afind (aggD D) ks k es' 0 = some d ∧ x = lkRes ok zero d := by
          split at h
          · rename_i v
            cases h
            refine ⟨_, rfl, fun es' hp => ?_⟩
            obtain ⟨l', h1, h2⟩ := match_perm hp hc
            have e := List.perm_singleton.1 h2
            subst e
            obtain ⟨j, hj⟩ := (match_find (i := 0) h1).2 v [] rfl
            exact ⟨_, hj, rfl⟩
          · cases h
            refine ⟨_, rfl, fun es' hp => ?_⟩
            obtain ⟨l', h1, h2⟩ := match_perm hp hc
            have e := List.perm_nil.1 h2
            subst e
            exact ⟨_, (match_find (i := 0) h1).1 rfl, rfl⟩
          · cases h
        obtain ⟨x, rfl, hx⟩ := hr
        refine sound_read hl (fun w L O hO hL hrep => ?_)
        cases O <;> simp only [RepO] at hrep
        rename_i ents clock
        obtain ⟨es', hp, h1, _, _, h4⟩ := hrep
        obtain ⟨d, hd, hxd⟩ := hx es' hp
        exact lookup_run ho hT hD hk hi hz hzr hm hkk hs hd hxd w L ents clock hO hL h1 h4
      · cases h
    · cases h
  · cases h
theorem sameBits_cells : ∀ {ks : List CK} {us vs : List Value} {n : Nat}, veqs ks us vs = some true → us.length = ks.length → vs.length = ks.length → ((us.zip vs).all fun (x, y) => Instr.sameBits n x y) = true
  | [], us, vs, n, _, hu, hv => by
    have : us = [] := List.length_eq_zero_iff.1 (by simpa using hu)
    subst this; simp
  | k :: ks, [], vs, n, h, hu, hv => by simp at hu
  | k :: ks, u :: us, [], n, h, hu, hv => by simp at hv
  | k :: ks, u :: us, v :: vs, n, h, hu, hv => by
    simp only [veqs, Option.bind_eq_some_iff, Option.some.injEq, Bool.and_eq_true] at h
    obtain ⟨b, hb, c, hc, rfl, rfl⟩ := h
    have ih := sameBits_cells (n := n) hc (by simpa using hu) (by simpa using hv)
    simp only [List.zip_cons_cons, List.all_cons, Bool.and_eq_true]
    refine ⟨?_, ih⟩
    cases k <;> cases u <;> simp only [vceq] at hb <;> try (cases hb; done)
    all_goals cases v <;> simp only at hb <;> try (cases hb; done)
    · split at hb
      · rename_i hk; subst hk; simp at hb; simp [Instr.sameBits, hb]
      · cases hb
    · simp at hb; simp [Instr.sameBits, hb]
    · simp at hb; simp [Instr.sameBits, hb]
theorem beq_bytes {s t : ByteArray} (h : (s == t) = true) : (t == s) = true := by
  have e : ∀ s t : ByteArray, (s == t) = (s.data == t.data) := fun s t => rfl
  rw [e] at h ⊢
  simp at h ⊢
  exact h.symm
theorem sameBits_plain {T : TypeId} {D : TypeDesc} {ks : List CK} (hk : kindsOf P 20 T = some ks) (hD : P.underlying T = some D) {x y : AV} {u v : Value} (hb : akeq (aggD D) ks x y = some true) (hx : RepV ρ R x u) (hy : RepV ρ R y v) : Instr.sameBits 10000 v u = true := by
  unfold akeq at hb
  split at hb
  · rename_i hs
    simp only [Bool.and_eq_true] at hs
    obtain ⟨e1, l1⟩ := shaped_val (P := P) hD hs.1 hx
    obtain ⟨e2, l2⟩ := shaped_val (P := P) hD hs.2 hy
    have hv := aeqs_rep hb (RepL.cells hx) (RepL.cells hy)
    have hsym : ∀ {ks : List CK} {us vs : List Value}, veqs ks us vs = some true → veqs ks vs us = some true := by
      intro ks
      induction ks with
      | nil => intro us vs _; rfl
      | cons k ks ih =>
        intro us vs h
        cases us with
        | nil => simp [veqs] at h
        | cons u us => cases vs with
          | nil => simp [veqs] at h
          | cons v vs =>
            simp only [veqs, Option.bind_eq_some_iff, Option.some.injEq, Bool.and_eq_true] at h ⊢
            obtain ⟨b, hb, c, hc, rfl, rfl⟩ := h
            refine ⟨true, ?_, true, ih hc, rfl, rfl⟩
            cases k <;> cases u <;> simp only [vceq] at hb <;> try (cases hb; done)
            all_goals cases v <;> simp only at hb <;> try (cases hb; done)
            · split at hb
              · rename_i hk; subst hk; simp at hb; simp [vceq, hb]
              · cases hb
            · simp at hb; simp [vceq, hb]
            · simp at hb; simp only [vceq, Option.some.injEq]; exact beq_bytes hb
    cases hagg : aggD D with
    | true =>
      have hm : ∀ us, mkV P T us = .agg us.toArray := fun us => by simp [mkV, hD, hagg]
      have := sameBits_cells (n := 9999) (hsym hv) l2 l1
      rw [e1, e2, hm, hm]
      have e : Instr.sameBits 10000 (.agg v.cells.toList.toArray) (.agg u.cells.toList.toArray) = (v.cells.toList.toArray.size == u.cells.toList.toArray.size && (v.cells.toList.toArray.toList.zip u.cells.toList.toArray.toList).all fun (x, y) => Instr.sameBits 9999 x y) := rfl
      rw [e, Bool.and_eq_true]
      exact ⟨by simp only [beq_iff_eq, List.size_toArray]; omega, by simpa using this⟩
    | false =>
      have hone := kinds_one hk hD hagg
      have := sameBits_cells (n := 10000) (hsym hv) l2 l1
      rw [hagg] at hs
      simp only [shaped, Bool.and_eq_true, beq_iff_eq, decide_eq_true_eq] at hs
      have hu : u.cells = #[u] := by
        have h0 := hs.1.1
        clear this
        cases hx <;> simp [AV.isAgg] at h0 <;> rfl
      have hv' : v.cells = #[v] := by
        have h0 := hs.2.1
        clear this
        cases hy <;> simp [AV.isAgg] at h0 <;> rfl
      rw [hu, hv'] at this
      simpa using this
  · cases hb
theorem nodup_push {l : List Nat} {c : Nat} (h : l.Nodup) (hc : ∀ x ∈ l, x < c) : (l ++ [c]).Nodup := by
  rw [List.nodup_append]
  refine ⟨h, by simp, fun x hx y hy e => ?_⟩
  simp at hy
  have := hc x hx
  omega
theorem sound_mapUpdate {T K E : TypeId} {D : TypeDesc} {p p' p'' : Operand} {m k x : AV} {ks : List CK} (ho : o.op = .mapUpdate T p p' p'' ∨ o.op = .insert T p p' p'') (hT : P.underlying T = some (.map K E)) (hD : P.underlying K = some D) (hk : kindsOf P 20 K = some ks)
    (hm : RepV ρ R m (a.eval p)) (hkk : RepV ρ R k (a.eval p')) (hx : RepV ρ R x (a.eval p'')) (h : aMapUpdate (aggD D) ks m k x H = some r) : Sound P o a ρ R H q r := by
  have hex : ∀ w, (execOp a.eval o).run P w = ((Instr.mapUpdate T (a.eval p) (a.eval p') (a.eval p'')).run P w).andThen fun _ w' => .ok .skip w' := by
    intro w
    rcases ho with ho | ho <;> simp [execOp, ho]
  unfold aMapUpdate at h
  split at h
  · rename_i hs
    split at h
    · rename_i l
      split at h
      · rename_i es bs ck hl
        simp only [Option.bind_eq_some_iff] at h
        obtain ⟨c, hc, h⟩ := h
        have key : ∀ w L O, w.heap[L.blk]? = some O → ρ l = some L → RepO ρ R L (.amap es bs ck) O → ∃ ents clock c', O = .map ents clock ∧ FoundOk ρ R (aggD D) ks k es ents.toList 0 c c' ∧ (execOp a.eval o).run P w = .ok .skip (w.setB L.blk (match c' with
            | some (i, _) => .map (ents.modify i fun e => { e with key := a.eval p', val := a.eval p'' }) clock
            | none => .map (ents.push { key := a.eval p', val := a.eval p'', born := clock }) (clock + 1))) := by
          intro w L O hO hL hrep
          cases O <;> simp only [RepO] at hrep
          rename_i ents clock
          obtain ⟨hl1, _, _, _, hr⟩ := hrep
          obtain ⟨L', hL', hg⟩ := hm.map_inv
          rw [hL] at hL'; cases hL'
          obtain ⟨c', hc', hf⟩ := findKey_run (P := P) hk hD hkk w hc (ents := ents.toList) (by simpa using hl1) (fun j p m hp hm => hr j p m hp (by simpa using hm))
          have hck := check_key (P := P) (e := false) hk hD hs hkk w
          refine ⟨ents, clock, c', rfl, hf, ?_⟩
          rw [hex, hg]
          cases c' with
          | none => simp [Instr.mapUpdate, run_underlying' hT, run_getObj hO, hck, hc', run_setObj hO]
          | some ju =>
            obtain ⟨j', u⟩ := ju
            cases c with
            | none => exact hf.elim
            | some jy =>
              obtain ⟨j, y⟩ := jy
              obtain ⟨rfl, _, _, p0, m0, hp0, hm0, hke⟩ := hf
              simp only [Nat.sub_zero, Array.getElem?_toList] at hp0 hm0
              have hsb := sameBits_plain (P := P) hk hD hke hkk (hr j p0 m0 hp0 hm0).1
              have hks : (Instr.keyThatStays (((ents[j]?).map (·.key)).getD (a.eval p')) (a.eval p')).run P w = .ok (a.eval p') w := by
                rw [hm0]
                simp only [Option.map_some, Option.getD_some, Instr.keyThatStays, hsb, if_true, Sem.run_pure]
              simp [Instr.mapUpdate, run_underlying' hT, run_getObj hO, hck, hc', hks, run_setObj hO]
        cases c with
        | none =>
          simp only [Option.some.injEq] at h; subst h
          refine sound_upd hl fun w L O hO hL hrep => ?_
          obtain ⟨ents, clock, c', rfl, hf, hrun⟩ := key w L O hO hL hrep
          cases c' with
          | some ju => exact hf.elim
          | none =>
            refine ⟨_, hrun, ?_⟩
            simp only [RepO] at hrep ⊢
            obtain ⟨h1, h2, h3, h5, h4⟩ := hrep
            refine ⟨by simp [h1], ?_, fun m hm => ?_, ⟨by simp [h5.1, h5.2], by rw [h5.2]⟩, fun i p m hp hm => ?_⟩
            · simp only [Array.toList_push, List.map_append, List.map_cons, List.map_nil]
              exact nodup_push h2 (fun b hb => by
                obtain ⟨m, hm, rfl⟩ := List.mem_map.1 hb
                exact h3 m (by simpa using hm))
            · rcases Array.mem_push.1 hm with hm | rfl
              · have := h3 m hm; omega
              · simp
            · by_cases hi : i < es.length
              · rw [List.getElem?_append_left hi] at hp
                rw [Array.getElem?_push_lt (by omega)] at hm
                exact h4 i p m hp (by rw [Array.getElem?_eq_getElem (by omega)]; exact hm)
              · rw [List.getElem?_append_right (by omega)] at hp
                have hi2 : i = es.length := by
                  rcases Nat.lt_or_ge (i - es.length) 1 with h6 | h6
                  · omega
                  · rw [List.getElem?_eq_none (by simpa using h6)] at hp; cases hp
                subst hi2
                simp at hp
                rw [← h1, Array.getElem?_push_size] at hm
                cases hm; subst hp
                exact ⟨hkk, hx⟩
        | some jy =>
          obtain ⟨j, y⟩ := jy
          simp only [Option.some.injEq] at h; subst h
          refine sound_upd hl fun w L O hO hL hrep => ?_
          obtain ⟨ents, clock, c', rfl, hf, hrun⟩ := key w L O hO hL hrep
          cases c' with
          | none => exact hf.elim
          | some ju =>
            obtain ⟨j', u⟩ := ju
            obtain ⟨rfl, _, _, p0, m0, hp0, hm0, _⟩ := hf
            refine ⟨_, hrun, ?_⟩
            simp only [RepO] at hrep ⊢
            obtain ⟨h1, h2, h3, h5, h4⟩ := hrep
            have hborn : ∀ i m, (ents.modify j fun e => { e with key := a.eval p', val := a.eval p'' })[i]? = some m → ∃ m', ents[i]? = some m' ∧ m.born = m'.born ∧ ((i = j ∧ m.key = a.eval p' ∧ m.val = a.eval p'') ∨ (i ≠ j ∧ m = m')) := by
              intro i m hm
              rw [Array.getElem?_modify] at hm
              by_cases hij : j = i
              · subst hij
                simp only [if_true, Option.map_eq_some_iff] at hm
                obtain ⟨m', hm', rfl⟩ := hm
                exact ⟨m', hm', rfl, .inl ⟨rfl, rfl, rfl⟩⟩
              · simp only [hij, if_false] at hm
                exact ⟨m, hm, rfl, .inr ⟨fun e => hij e.symm, rfl⟩⟩
            have hsame : (ents.modify j fun e => { e with key := a.eval p', val := a.eval p'' }).toList.map (·.born) = ents.toList.map (·.born) := by
              apply List.ext_getElem?
              intro i
              simp only [List.getElem?_map, Array.getElem?_toList, Array.getElem?_modify]
              split
              · rename_i e; subst e; cases ents[j]? <;> simp
              · rfl
            refine ⟨by simp [h1], ?_, fun m hm => ?_, ⟨by rw [hsame]; exact h5.1, h5.2⟩, fun i p m hp hm => ?_⟩
            · rw [hsame]; exact h2
            · obtain ⟨i, hi⟩ := Array.getElem?_of_mem hm
              obtain ⟨m', hm', hb, _⟩ := hborn i m hi
              rw [hb]; exact h3 m' (Array.mem_of_getElem? hm')
            · obtain ⟨m', hm', _, hcase⟩ := hborn i m hm
              rw [List.getElem?_set] at hp
              rcases hcase with ⟨rfl, hk1, hv1⟩ | ⟨hne, rfl⟩
              · simp only [if_true] at hp
                split at hp
                · cases hp; rw [hk1, hv1]; exact ⟨hkk, hx⟩
                · cases hp
              · rw [if_neg (fun e => hne e.symm)] at hp
                exact h4 i p m hp hm'
      · cases h
    · cases h
  · cases h
theorem sound_delete {T K E : TypeId} {D : TypeDesc} {c : Call} {p p' : Operand} {m k : AV} {ks : List CK} (ho : o.op = .call c) (hc : c.callee = .builtin .delete) (hargs : c.args = #[p, p']) (ht : c.argTypes[0]? = some T) (hT : P.underlying T = some (.map K E)) (hD : P.underlying K = some D) (hk : kindsOf P 20 K = some ks)
    (hm : RepV ρ R m (a.eval p)) (hkk : RepV ρ R k (a.eval p')) (h : aDelete (aggD D) ks m k H = some r) : Sound P o a ρ R H q r := by
  unfold aDelete at h
  split at h
  · rename_i hs
    split at h
    · simp only [Option.some.injEq] at h; subst h
      generalize hg : a.eval p = pv at hm
      cases hm
      refine sound_pure (v := .tuple #[]) (fun w => ?_) (RepL.tuple .nil)
      have hck := check_key (P := P) (e := true) hk hD hs hkk w
      simp [execOp, ho, resolve, hc, hargs, invoke, builtin, Builtin.delete_, ht, hg, run_underlying' hT, hck]
    · rename_i l
      split at h
      · rename_i es bs ck hl
        simp only [Option.bind_eq_some_iff] at h
        obtain ⟨cc, hcc, h⟩ := h
        have key : ∀ w L O, w.heap[L.blk]? = some O → ρ l = some L → RepO ρ R L (.amap es bs ck) O → ∃ ents clock c', O = .map ents clock ∧ FoundOk ρ R (aggD D) ks k es ents.toList 0 cc c' ∧ (execOp a.eval o).run P w = .ok (.value (.tuple #[])) (w.setB L.blk (match c' with
            | some (i, _) => .map (ents.eraseIdxIfInBounds i) clock
            | none => .map ents clock)) := by
          intro w L O hO hL hrep
          cases O <;> simp only [RepO] at hrep
          rename_i ents clock
          obtain ⟨hl1, _, _, _, hr⟩ := hrep
          obtain ⟨L', hL', hg⟩ := hm.map_inv
          rw [hL] at hL'; cases hL'
          obtain ⟨c', hc', hf⟩ := findKey_run (P := P) hk hD hkk w hcc (ents := ents.toList) (by simpa using hl1) (fun j p m hp hm => hr j p m hp (by simpa using hm))
          have hck := check_key (P := P) (e := ents.isEmpty) hk hD hs hkk w
          refine ⟨ents, clock, c', rfl, hf, ?_⟩
          cases c' with
          | none => simp [execOp, ho, resolve, hc, hargs, invoke, builtin, Builtin.delete_, ht, hg, run_underlying' hT, run_getObj hO, hck, hc', run_setObj hO]
          | some ju => obtain ⟨j', u⟩ := ju; simp [execOp, ho, resolve, hc, hargs, invoke, builtin, Builtin.delete_, ht, hg, run_underlying' hT, run_getObj hO, hck, hc', run_setObj hO]
        have hval : RepV ρ R (.tuple []) (.tuple #[]) := RepL.tuple .nil
        cases cc with
        | none =>
          simp only [Option.some.injEq] at h; subst h
          refine sound_read hl fun w L O hO hL hrep => ?_
          obtain ⟨ents, clock, c', rfl, hf, hrun⟩ := key w L O hO hL hrep
          cases c' with
          | some ju => exact hf.elim
          | none => exact ⟨_, by rw [hrun]; simp only; rw [setB_id hO], hval⟩
        | some jy =>
          obtain ⟨j, y⟩ := jy
          simp only [Option.some.injEq] at h; subst h
          refine ⟨fun k hk => .inl (by rw [has_one hk]; simp [restr, hl]), fun w hR _ => ?_⟩
          obtain ⟨L, O, h1, h2, h3⟩ := hR.own l (.amap es bs ck) (by simp [restr, hl])
          obtain ⟨ents, clock, c', rfl, hf, hrun⟩ := key w L O h2 h1 h3
          cases c' with
          | none => exact hf.elim
          | some ju =>
            obtain ⟨j', u⟩ := ju
            obtain ⟨rfl, _, _, p0, m0, hp0, hm0, _⟩ := hf
            simp only [Nat.sub_zero, Array.getElem?_toList] at hp0 hm0
            have hj : j < ents.size := (Array.getElem?_eq_some_iff.1 hm0).1
            have ho' : RepO ρ R L (.amap (es.eraseIdx j) (bs.eraseIdx j) ck) (.map (ents.eraseIdxIfInBounds j) clock) := by
              simp only [RepO] at h3 ⊢
              obtain ⟨g1, g2, g3, g5, g4⟩ := h3
              have el : (ents.eraseIdxIfInBounds j).toList = ents.toList.eraseIdx j := by
                rw [Array.eraseIdxIfInBounds_eq, dif_pos hj]; simp
              have hsz : (ents.eraseIdxIfInBounds j).size = (es.eraseIdx j).length := by
                have := congrArg List.length el
                simp only [Array.length_toList] at this
                rw [this, List.length_eraseIdx, List.length_eraseIdx]
                simp [g1]
              have em : (ents.toList.eraseIdx j).map (·.born) = (ents.toList.map (·.born)).eraseIdx j := by
                apply List.ext_getElem?
                intro i
                simp only [List.getElem?_map, List.getElem?_eraseIdx]
                split <;> rfl
              refine ⟨hsz, ?_, fun m hm => ?_, ⟨by rw [el, em, g5.1], g5.2⟩, fun i p m hp hm => ?_⟩
              · rw [el, em]
                exact g2.sublist (List.eraseIdx_sublist _ _)
              · have : m ∈ (ents.eraseIdxIfInBounds j).toList := hm.val
                rw [el] at this
                exact g3 m (by simpa using List.mem_of_mem_eraseIdx this)
              · rw [List.getElem?_eraseIdx] at hp
                have hm' : (ents.eraseIdxIfInBounds j).toList[i]? = some m := by rw [Array.getElem?_toList]; exact hm
                rw [el, List.getElem?_eraseIdx] at hm'
                split at hp
                · rename_i hij; rw [if_pos hij] at hm'; exact g4 i p m hp (by simpa using hm')
                · rename_i hij; rw [if_neg hij] at hm'; exact g4 _ p m hp (by simpa using hm')
            obtain ⟨hF, hR'⟩ := fut_upd (W := Under q) hR (show restr H (some [l]) l = some (.amap es bs ck) by simp [restr, hl]) h1 h2 ho'
            exact opC_value hrun ⟨ρ, R, hF, hval, hR'⟩
      · cases h
    · cases h
  · cases h
theorem sound_mkmap {T : TypeId} (ho : o.op = .makeMap T none) : Sound P o a ρ R H q ⟨.map q, [(q, some (.amap [] [] 0))], some []⟩ := by
  refine sound_new (O := .map #[] 0) 0 0 (fun w => ⟨.map (some w.heap.size), ?_, fun ρ' _ h => ?_⟩) (fun b => ?_)
  · simp [execOp, ho, Instr.makeMap]
  · have := RepV.map (R := R) q _ h
    simpa using this
  · simp only [RepO]
    exact ⟨rfl, by simp, by simp, by simp, fun i p m hp => by simp at hp⟩
theorem sound_mkmap1 {T K E : TypeId} {p : Operand} {k : IntKind} {n : Int} (ho : o.op = .makeMap T (some p)) (hT : P.underlying T = some (.map K E)) (hx : RepV ρ R (.int k n) (a.eval p)) : Sound P o a ρ R H q ⟨.map q, [(q, some (.amap [] [] 0))], some []⟩ := by
  refine sound_new (O := .map #[] 0) 0 0 (fun w => ⟨.map (some w.heap.size), ?_, fun ρ' _ h => ?_⟩) (fun b => ?_)
  · have hg := hx.int_inv
    simp [execOp, ho, Instr.makeMap, run_underlying' hT, asInt, asIntOf, hg]
  · have := RepV.map (R := R) q _ h
    simpa using this
  · simp only [RepO]
    exact ⟨rfl, by simp, by simp, by simp, fun i p m hp => by simp at hp⟩
end
end Go.Proofs.Ytbngfbpegdcpkaa
