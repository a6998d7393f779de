/- The abstract machine: its operations are sound. -/
import Derived.Test.YtbngfbpegdcpkaaA4
namespace Go.Proofs.Ytbngfbpegdcpkaa
set_option linter.unusedVariables false
set_option linter.unusedSimpArgs false
section
variable {P : Program} {o : Oper} {a : Act} {ρ : Locs} {R : Imm} {H : Heap} {nx : Lab} {r : Res}

theorem RepV.one {x : AV} {v : Value} (h : RepV ρ R x v) (hx : x.one = true) : v.oneCell' = true := by
  cases h <;> first | rfl | (simp [AV.one] at hx)
theorem RepV.cells_len {x : AV} {v : Value} (h : RepV ρ R x v) : v.cells.size = x.cells.length ∧ ∀ (i : Nat) y, x.cells[i]? = some y → ∃ u, v.cells[i]? = some u ∧ RepV ρ R y u := by
  cases h with
  | agg cs C hC h =>
    refine ⟨hC, fun i y hy => ?_⟩
    have hi : i < C.size := by
      have := (List.getElem?_eq_some_iff.1 hy).1
      simp only [AV.cells] at this
      omega
    refine ⟨C[i], Array.getElem?_eq_getElem hi, ?_⟩
    have := h i y hy
    simpa [Array.getD, hi] using this
  | _ =>
    refine ⟨rfl, fun i y hy => ?_⟩
    simp only [AV.cells] at hy
    cases i with
    | zero => simp at hy; subst hy; exact ⟨_, rfl, by constructor <;> assumption⟩
    | succ i => simp at hy
theorem run_underlying' {T : TypeId} {d : TypeDesc} (h : P.underlying T = some d) (w : World) : (underlying T).run P w = .ok d w := by simp [underlying, h]
theorem run_sizeOf' {T : TypeId} {i : TypeInfo} (h : P.info? T = some i) (w : World) : (sizeOf T).run P w = .ok i.size w := by simp [sizeOf, typeInfo, h]
theorem run_zero' {T : TypeId} {i : TypeInfo} {z : Value} (h : P.info? T = some i) (hz : i.zero = some z) (w : World) : (zeroValue T).run P w = .ok z w := by simp [zeroValue, typeInfo, h, hz]
def aggD : TypeDesc → Bool
  | .struct _ | .array _ _ => true
  | _ => false
theorem run_isAgg' {T : TypeId} {d : TypeDesc} (h : P.underlying T = some d) (w : World) : (isAgg T).run P w = .ok (aggD d) w := by
  cases d <;> simp [isAgg, run_underlying' h, aggD]

theorem sound_move {x : Operand} {y : AV} (ho : o.op = .move x ∨ o.op = .assign x) (hx : RepV ρ R y (a.eval x)) : Sound P o a ρ R H nx (.pure y) := by
  refine sound_pure (v := a.eval x) (fun w => ?_) hx
  rcases ho with ho | ho <;> simp [execOp, ho]
theorem sound_pick {c x y : Operand} {b : Bool} {p q : AV} (ho : o.op = .pick c x y) (hc : RepV ρ R (.bool b) (a.eval c)) (hx : RepV ρ R p (a.eval x)) (hy : RepV ρ R q (a.eval y)) : Sound P o a ρ R H nx (.pure (if b then p else q)) := by
  refine sound_pure (v := if b then a.eval x else a.eval y) (fun w => ?_) ?_
  · generalize hg : a.eval c = vc at hc
    cases hc
    simp [execOp, ho, asBool, hg]
  · cases b <;> assumption

theorem run_loadVar {T : TypeId} {d : TypeDesc} {i : TypeInfo} (hd : P.underlying T = some d) (hi : P.info? T = some i) (w : World) (ad : Addr) (vs : List Value) (hv : ∀ (k : Nat) v, vs[k]? = some v → w.cell? (ad.add k) = some v) (hn : vs.length = i.size)
    (h1 : aggD d = false → i.size = 1) : (loadVar T ad).run P w = .ok (if aggD d then .agg vs.toArray else vs.getD 0 undef) w := by
  have h2 := run_isAgg' (P := P) hd w
  cases ha : aggD d with
  | true =>
    rw [ha] at h2
    have := run_loadCells_list (P := P) w ad vs hv
    rw [hn] at this
    simp [loadVar, h2, run_sizeOf' hi, this]
  | false =>
    rw [ha] at h2
    have hs := h1 ha
    obtain ⟨v, rfl⟩ : ∃ v, vs = [v] := by
      match vs, hn.trans hs with
      | [v], _ => exact ⟨v, rfl⟩
    have := hv 0 v rfl
    simp only [Addr.add, if_true] at this
    simp [loadVar, h2, this]

theorem wrap_agg {agg : Bool} {cs : List AV} {y : AV} {vs : List Value} (h : wrapCells agg cs = some y) (hl : vs.length = cs.length) (hv : ∀ (k : Nat) x, cs[k]? = some x → ∃ v, vs[k]? = some v ∧ RepV ρ R x v) : RepV ρ R y (if agg then .agg vs.toArray else vs.getD 0 undef) := by
  cases agg with
  | true =>
    simp only [wrapCells, if_true, Option.some.injEq] at h
    subst h
    exact RepV.agg_list hl hv
  | false =>
    simp only [wrapCells, Bool.false_eq_true, if_false] at h
    split at h
    · cases h
      obtain ⟨v, h1, h2⟩ := hv 0 _ rfl
      simpa [List.getD, h1] using h2
    · cases h

theorem sound_load {T : TypeId} {p : Operand} {x : AV} {d : TypeDesc} {i : TypeInfo} (ho : o.op = .load T p) (hd : P.underlying T = some d) (hi : P.info? T = some i) (h1 : aggD d = false → i.size = 1) (hx : RepV ρ R x (a.eval p))
    (h : aLoad i.size (aggD d) x H nx = some r) : Sound P o a ρ R H nx r := by
  cases x <;> simp only [aLoad] at h <;> try (cases h; done)
  case ptr l e ii j =>
    cases hl : H l with
    | none => simp [hl] at h
    | some ob =>
      cases ob with
      | amap es bs ck => simp [hl] at h
      | bag es => simp [hl] at h
      | iter => simp [hl] at h
      | rows e' rs =>
        simp only [hl] at h
        split at h
        · rename_i he; subst he
          cases hc : (AO.rows e rs).cells ii j i.size with
          | none => simp [hc] at h
          | some cs =>
            simp only [hc, Option.bind_some] at h
            cases hw : wrapCells (aggD d) cs with
            | none => simp [hw] at h
            | some y =>
              simp only [hw, Option.bind_some, Option.some.injEq] at h
              subst h
              refine sound_read hl fun w L O hO hL hrep => ?_
              obtain ⟨vs, hvl, hvc, hvr⟩ := cells_mem hrep hc (fun _ _ e => by cases e; rfl) hO
              refine ⟨_, ?_, wrap_agg hw (hvl.trans (cells_rows hc).1.symm) hvr⟩
              generalize hg : a.eval p = pv at hx
              cases hx
              rename_i L' hL'
              rw [hL] at hL'; cases hL'
              simp [execOp, ho, Instr.loadAt, hg, Instr.sureAddr, run_loadVar hd hi w _ vs hvc hvl h1]
        · cases h
  case iptr e rows ii j =>
    cases hc : (AO.rows e rows).cells ii j i.size with
    | none => simp [hc] at h
    | some cs =>
      simp only [hc, Option.bind_some] at h
      cases hw : wrapCells (aggD d) cs with
      | none => simp [hw] at h
      | some y =>
        simp only [hw, Option.bind_some, Option.some.injEq] at h
        subst h
        generalize hg : a.eval p = pv at hx
        obtain ⟨⟩ | ⟨⟩ | ⟨⟩ | ⟨⟩ | ⟨⟩ | ⟨_, _, _, _, b, o', c, T', fz, g, hb, hcc, hr⟩ := hx
        refine sound_imm fun w hR => ?_
        obtain ⟨vs, hvl, hvc, hvr⟩ := imm_mem hc hcc hr (hR _ _ hb)
        refine ⟨_, ?_, wrap_agg hw (hvl.trans (cells_rows hc).1.symm) hvr⟩
        simp [execOp, ho, Instr.loadAt, hg, Instr.sureAddr, run_loadVar hd hi w _ vs hvc hvl h1]

/-- cells put into a row -/
def putC (c : Array Value) (k : Nat) : List Value → Array Value
  | [] => c
  | v :: vs => putC (c.setIfInBounds k v) (k + 1) vs
theorem putC_size : ∀ (vs : List Value) (c : Array Value) (k : Nat), (putC c k vs).size = c.size
  | [], _, _ => rfl
  | v :: vs, c, k => by simp [putC, putC_size vs]
theorem putC_get : ∀ (vs : List Value) (c : Array Value) (k j : Nat), (putC c k vs)[j]? = if k ≤ j ∧ j < k + vs.length ∧ j < c.size then vs[j - k]? else c[j]?
  | [], c, k, j => by simp [putC]; omega
  | v :: vs, c, k, j => by
    rw [putC, putC_get vs]
    simp only [Array.size_setIfInBounds, List.length_cons]
    by_cases h1 : k = j
    · subst h1
      have e : ¬ (k + 1 ≤ k ∧ k < k + 1 + vs.length ∧ k < c.size) := by omega
      rw [if_neg e]
      by_cases h2 : k < c.size
      · rw [if_pos ⟨Nat.le_refl _, by omega, h2⟩]; simp [h2]
      · rw [if_neg (by omega)]; simp [h2]
    · rw [Array.getElem?_setIfInBounds_ne h1]
      by_cases h3 : k ≤ j
      · rw [show j - k = (j - (k + 1)) + 1 by omega, List.getElem?_cons_succ]
        have e : (k + 1 ≤ j ∧ j < k + 1 + vs.length ∧ j < c.size) ↔ (k ≤ j ∧ j < k + (vs.length + 1) ∧ j < c.size) := by omega
        simp only [e]
      · rw [if_neg (by omega), if_neg (by omega)]
theorem setCell_eq {w : World} {b : Nat} {c : Array Value} {T : TypeId} {fz : Nat × Nat} (h : w.heap[b]? = some (.cells c T fz)) (k : Nat) (v : Value) : w.setCell ⟨b, k, none⟩ v = w.setB b (.cells (c.setIfInBounds k v) T fz) := by
  have hb := heap_lt h
  have h2 : w.heap[b] = .cells c T fz := by simpa [Array.getElem?_eq_getElem hb] using h
  unfold World.setCell World.setB
  congr 1
  apply Array.ext_getElem?
  intro i
  rw [Array.getElem?_modify, Array.getElem?_setIfInBounds]
  by_cases hi : b = i
  · subst hi; simp [hb, h2]
  · simp [hi]
theorem setB_setB (w : World) (b : Nat) (O O' : Obj) : (w.setB b O).setB b O' = w.setB b O' := by
  unfold World.setB
  simp
theorem setB_id {w : World} {b : Nat} {O : Obj} (h : w.heap[b]? = some O) : w.setB b O = w := by
  unfold World.setB
  have hb := heap_lt h
  have h2 : w.heap[b] = O := by simpa [Array.getElem?_eq_getElem hb] using h
  cases w
  simp at h2 ⊢
  subst h2
  apply Array.ext_getElem?
  intro i
  rw [Array.getElem?_setIfInBounds]
  by_cases hi : b = i
  · subst hi; simp at hb; simp [hb]
  · simp [hi]
theorem run_storeCells : ∀ (vs : List Value) (w : World) (b o' i : Nat) (c : Array Value) (T : TypeId), w.heap[b]? = some (.cells c T (0, 0)) → (∀ v ∈ vs, v.oneCell' = true) → o' + i + vs.length ≤ c.size →
    (storeCells ⟨b, o', none⟩ vs i).run P w = .ok () (w.setB b (.cells (putC c (o' + i) vs) T (0, 0)))
  | [], w, b, o', i, c, T, h, _, _ => by simp [storeCells, putC, setB_id h]
  | v :: vs, w, b, o', i, c, T, h, hv, hle => by
    simp only [List.length_cons] at hle
    have h1 : w.cell? ⟨b, o' + i, none⟩ = some (c[o' + i]'(by omega)) := by rw [cell_at h]; exact Array.getElem?_eq_getElem (by omega)
    have hf : w.frozen? ⟨b, o' + i, none⟩ = false := by simp [World.frozen?, h]
    have ih := run_storeCells vs (w.setB b (.cells (c.setIfInBounds (o' + i) v) T (0, 0))) b o' (i + 1) (c.setIfInBounds (o' + i) v) T (setB_at h _) (fun u hu => hv u (by simp [hu])) (by simp; omega)
    simp only [storeCells, Sem.run_bind, add_none, run_store P w _ v _ (hv v (by simp)), h1, hf, Result.andThen, setCell_eq h, Bool.false_eq_true, if_false]
    rw [ih, setB_setB, putC, show o' + (i + 1) = o' + i + 1 by omega]
theorem putL_get {cs v : List AV} {off : Nat} (h : off + v.length ≤ cs.length) (j : Nat) : (putL cs off v)[j]? = if off ≤ j ∧ j < off + v.length then v[j - off]? else cs[j]? := by
  unfold putL
  by_cases h1 : j < off
  · rw [List.append_assoc, List.getElem?_append_left (by simp; omega), List.getElem?_take, if_pos h1, if_neg (by omega)]
  · by_cases h2 : j < off + v.length
    · rw [if_pos ⟨by omega, h2⟩, List.append_assoc, List.getElem?_append_right (by simp; omega), List.getElem?_append_left (by simp; omega)]
      simp; congr 1; omega
    · rw [if_neg (by omega), List.getElem?_append_right (by simp; omega)]
      simp
      congr 1; omega
theorem putL_len {cs v : List AV} {off : Nat} (h : off + v.length ≤ cs.length) : (putL cs off v).length = cs.length := by
  unfold putL; simp; omega
theorem rows_inj {e i j i' j' : Nat} (hj : j < e) (hj' : j' < e) (h : i * e + j = i' * e + j') : i = i' ∧ j = j' := by
  have h1 : (i * e + j) / e = i := by rw [Nat.mul_comm, Nat.mul_add_div (by omega), Nat.div_eq_of_lt hj]; omega
  have h2 : (i' * e + j') / e = i' := by rw [Nat.mul_comm, Nat.mul_add_div (by omega), Nat.div_eq_of_lt hj']; omega
  have : i = i' := by rw [← h1, ← h2, h]
  subst this
  exact ⟨rfl, by omega⟩
/-- a part of a row stored -/
theorem repO_store {L : Loc} {e : Nat} {rs : List (List AV)} {c : Array Value} {T : TypeId} {fz : Nat × Nat} {i j : Nat} {row : List AV} {xs : List AV} {vs : List Value} (h : RepO ρ R L (.rows e rs) (.cells c T fz)) (hr : rs[i]? = some row) (hle : j + xs.length ≤ row.length) (hone : xs.all AV.one = true)
    (hl : vs.length = xs.length) (hv : ∀ (k : Nat) x, xs[k]? = some x → ∃ v, vs[k]? = some v ∧ RepV ρ R x v) : RepO ρ R L (.rows e (rs.set i (putL row j xs))) (.cells (putC c (L.off + (i * e + j)) vs) T fz) := by
  simp only [RepO] at h ⊢
  obtain ⟨h1, h2, h3, h4, h5⟩ := h
  have hi : i < rs.length := (List.getElem?_eq_some_iff.1 hr).1
  have hrow : row.length = e := (h3 row (List.mem_of_getElem? hr)).1
  have hfit : i * e + e ≤ rs.length * e := by
    have : (i + 1) * e ≤ rs.length * e := Nat.mul_le_mul_right e hi
    rwa [Nat.add_mul, Nat.one_mul] at this
  refine ⟨h1, by rw [putC_size]; exact h2, fun r hr' => ?_, by simpa using h4, fun i' j' x hx => ?_⟩
  · rcases List.mem_or_eq_of_mem_set hr' with h6 | h6
    · exact h3 r h6
    · rw [h6]
      refine ⟨by rw [putL_len hle, hrow], fun x hx => ?_⟩
      unfold putL at hx
      rcases List.mem_append.1 hx with h7 | h7
      · rcases List.mem_append.1 h7 with h7 | h7
        · exact (h3 row (List.mem_of_getElem? hr)).2 x (List.mem_of_mem_take h7)
        · exact List.all_eq_true.1 hone x h7
      · exact (h3 row (List.mem_of_getElem? hr)).2 x (List.mem_of_mem_drop h7)
  · rw [putC_get]
    simp only [rowsGet, List.getElem?_set] at hx
    by_cases hii : i = i'
    · subst hii
      simp only [hi, if_true, Option.bind_some] at hx
      rw [putL_get hle] at hx
      by_cases hj : j ≤ j' ∧ j' < j + xs.length
      · rw [if_pos hj] at hx
        obtain ⟨v, hv1, hv2⟩ := hv _ x hx
        refine ⟨v, ?_, hv2⟩
        rw [if_pos ⟨by omega, by omega, by omega⟩, show L.off + (i * e + j') - (L.off + (i * e + j)) = j' - j by omega]
        exact hv1
      · rw [if_neg hj] at hx
        rw [if_neg (by omega)]
        exact h5 i j' x (by simp [rowsGet, hr, hx])
    · simp only [hii, if_false] at hx
      have hx' : rowsGet rs i' j' = some x := hx
      rw [if_neg]
      · exact h5 i' j' x hx'
      · rintro ⟨k1, k2, k3⟩
        obtain ⟨r', hr', hx2⟩ := Option.bind_eq_some_iff.1 hx'
        have hj' : j' < e := by
          have := (h3 r' (List.mem_of_getElem? hr')).1
          have := (List.getElem?_eq_some_iff.1 hx2).1
          omega
        have : ∃ m, m < xs.length ∧ i' * e + j' = i * e + (j + m) := ⟨i' * e + j' - (i * e + j), by omega, by omega⟩
        obtain ⟨m, hm, he⟩ := this
        exact hii (rows_inj hj' (by omega) he).1.symm
theorem sound_store {T : TypeId} {p q : Operand} {x y : AV} {i : TypeInfo} (ho : o.op = .store T p q) (hi : P.info? T = some i) (hx : RepV ρ R x (a.eval p)) (hy : RepV ρ R y (a.eval q)) (h : aStore i.size x y H nx = some r) : Sound P o a ρ R H nx r := by
  cases x <;> simp only [aStore] at h <;> try (cases h; done)
  rename_i l e ii j
  cases hl : H l with
  | none => simp [hl] at h
  | some ob =>
    cases ob with
    | amap es bs ck => simp [hl] at h
    | bag es => simp [hl] at h
    | iter => simp [hl] at h
    | rows e' rs =>
      simp only [hl] at h
      split at h
      · rename_i he
        obtain ⟨he, hlen⟩ := he
        subst he
        cases hr : rs[ii]? with
        | none => simp [hr] at h
        | some row =>
          simp only [hr] at h
          split at h
          · rename_i hle
            obtain ⟨hle, hone⟩ := hle
            simp only [Option.some.injEq] at h
            subst h
            refine sound_upd hl fun w L O hO hL hrep => ?_
            cases O <;> (have hrep' := hrep; simp only [RepO] at hrep')
            rename_i c T' fz
            obtain ⟨h1, h2, h3, h4, h5⟩ := hrep'
            subst h1
            obtain ⟨hc1, hc2⟩ := hy.cells_len
            have hst := repO_store (vs := (a.eval q).cells.toList) (xs := y.cells) (j := j) hrep hr (by omega) hone (by simpa using hc1) (fun k x hk => by
              obtain ⟨u, hu, hru⟩ := hc2 k x hk
              exact ⟨u, by simpa using hu, hru⟩)
            refine ⟨_, ?_, hst⟩
            have hii : ii < rs.length := (List.getElem?_eq_some_iff.1 hr).1
            have hrow : row.length = e := (h3 row (List.mem_of_getElem? hr)).1
            have hfit : ii * e + e ≤ rs.length * e := by
              have : (ii + 1) * e ≤ rs.length * e := Nat.mul_le_mul_right e hii
              rwa [Nat.add_mul, Nat.one_mul] at this
            have hall : ∀ v ∈ (a.eval q).cells.toList, v.oneCell' = true := by
              intro v hv
              obtain ⟨k, hk, rfl⟩ := List.getElem_of_mem hv
              have hk' : k < y.cells.length := by simp at hk; omega
              obtain ⟨u, hu, hru⟩ := hc2 k _ (List.getElem?_eq_getElem hk')
              have : (a.eval q).cells[k]? = some ((a.eval q).cells.toList[k]) := by simp
              rw [this] at hu
              cases hu
              refine hru.one ?_
              exact List.all_eq_true.1 hone _ (List.getElem_mem hk')
            have hrun := run_storeCells (P := P) (a.eval q).cells.toList w L.blk (L.off + (ii * e + j)) 0 c T' hO hall (by simp; omega)
            generalize hg : a.eval p = pv at hx
            cases hx
            rename_i L' hL'
            rw [hL] at hL'; cases hL'
            have hsz : ¬ (a.eval q).cells.size ≠ i.size := by omega
            simp only [Nat.add_zero] at hrun
            simp [execOp, ho, Instr.storeAt, hg, Instr.sureAddr, storeVar, run_sizeOf' hi, hsz, hrun]
          · cases h
      · cases h
end
end Go.Proofs.Ytbngfbpegdcpkaa
