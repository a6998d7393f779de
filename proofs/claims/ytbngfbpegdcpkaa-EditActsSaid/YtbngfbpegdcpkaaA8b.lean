/- The abstract machine: append. -/
import Derived.Test.YtbngfbpegdcpkaaA8
import Derived.Laws.Append
namespace Go.Proofs.Ytbngfbpegdcpkaa
set_option linter.unusedVariables false
set_option linter.unusedSimpArgs false
section
variable {P : Program} {o : Oper} {a : Act} {ρ : Locs} {R : Imm} {H : Heap} {q : Lab} {r : Res}

/-- rows one behind the other, and their cells -/
def RowsL (ρ : Locs) (R : Imm) (e : Nat) (rs : List (List AV)) (us : List Value) : Prop := us.length = rs.length * e ∧ (∀ r ∈ rs, RowOk e r) ∧ ∀ i j x, rowsGet rs i j = some x → ∃ v, us[i * e + j]? = some v ∧ RepV ρ R x v
theorem rowsGet_some {rs : List (List AV)} {i j : Nat} {x : AV} (h : rowsGet rs i j = some x) : ∃ r, rs[i]? = some r ∧ r[j]? = some x := by
  simpa [rowsGet, Option.bind_eq_some_iff] using h
theorem RowsL.col {e : Nat} {rs : List (List AV)} {us : List Value} (h : RowsL ρ R e rs us) {i j : Nat} {x : AV} (hx : rowsGet rs i j = some x) : i < rs.length ∧ j < e := by
  obtain ⟨r, hr, hj⟩ := rowsGet_some hx
  have h1 := (List.getElem?_eq_some_iff.1 hr).1
  have h2 := (List.getElem?_eq_some_iff.1 hj).1
  have h3 := (h.2.1 r (List.mem_of_getElem? hr)).1
  omega
theorem RowsL.nil (e : Nat) : RowsL ρ R e [] [] := ⟨by simp, by simp, fun i j x h => by simp [rowsGet] at h⟩
theorem RowsL.append {e : Nat} {rs rs' : List (List AV)} {us us' : List Value} (h : RowsL ρ R e rs us) (h' : RowsL ρ R e rs' us') : RowsL ρ R e (rs ++ rs') (us ++ us') := by
  refine ⟨by simp [h.1, h'.1, Nat.add_mul], fun r hr => ?_, fun i j x hx => ?_⟩
  · rcases List.mem_append.1 hr with h1 | h1
    · exact h.2.1 r h1
    · exact h'.2.1 r h1
  · obtain ⟨r, hr, hj⟩ := rowsGet_some hx
    by_cases hi : i < rs.length
    · rw [List.getElem?_append_left hi] at hr
      have hg : rowsGet rs i j = some x := by simp [rowsGet, hr, hj]
      obtain ⟨v, hv, hvr⟩ := h.2.2 i j x hg
      have := h.col hg
      have hlt : i * e + j < us.length := (List.getElem?_eq_some_iff.1 hv).1
      exact ⟨v, by rw [List.getElem?_append_left hlt]; exact hv, hvr⟩
    · rw [List.getElem?_append_right (by omega)] at hr
      have hg : rowsGet rs' (i - rs.length) j = some x := by simp [rowsGet, hr, hj]
      obtain ⟨v, hv, hvr⟩ := h'.2.2 _ j x hg
      refine ⟨v, ?_, hvr⟩
      have e1 : i * e = (i - rs.length) * e + rs.length * e := by rw [← Nat.add_mul]; congr 1; omega
      rw [List.getElem?_append_right (by rw [h.1]; omega), h.1, e1, show (i - rs.length) * e + rs.length * e + j - rs.length * e = (i - rs.length) * e + j by omega]
      exact hv
/-- a piece of an object's rows -/
theorem rowsL_of {L : Loc} {e : Nat} {rs : List (List AV)} {c : Array Value} {T : TypeId} {fz : Nat × Nat} (h : RepO ρ R L (.rows e rs) (.cells c T fz)) {off n : Nat} (hle : off + n ≤ rs.length) :
    RowsL ρ R e ((rs.drop off).take n) ((List.range (n * e)).map fun k => c.getD (L.off + off * e + k) undef) ∧ ∀ k v, ((List.range (n * e)).map fun k => c.getD (L.off + off * e + k) undef)[k]? = some v → c[L.off + off * e + k]? = some v := by
  simp only [RepO] at h
  obtain ⟨h1, h2, h3, h4, h5⟩ := h
  have hsz : L.off + off * e + n * e ≤ c.size := by
    have : (off + n) * e ≤ rs.length * e := Nat.mul_le_mul_right _ hle
    rw [Nat.add_mul] at this
    omega
  have hmn : min n (rs.length - off) = n := by omega
  refine ⟨⟨by simp [hmn], fun r hr => h3 r (List.mem_of_mem_drop (List.mem_of_mem_take hr)), fun i j x hx => ?_⟩, fun k v hk => ?_⟩
  · obtain ⟨r, hr, hj⟩ := rowsGet_some hx
    rw [List.getElem?_take] at hr
    split at hr
    · rename_i hi
      rw [List.getElem?_drop] at hr
      have hg : rowsGet rs (off + i) j = some x := by simp [rowsGet, hr, hj]
      obtain ⟨v, hv, hvr⟩ := h5 _ j x hg
      refine ⟨v, ?_, hvr⟩
      have hje : j < e := by
        have := (h3 r (List.mem_of_getElem? hr)).1
        have := (List.getElem?_eq_some_iff.1 hj).1
        omega
      have hlt : i * e + j < n * e := by
        have : (i + 1) * e ≤ n * e := Nat.mul_le_mul_right _ hi
        rw [Nat.add_mul, Nat.one_mul] at this
        omega
      rw [List.getElem?_map, List.getElem?_range hlt, Option.map_some]
      rw [Nat.add_mul] at hv
      rw [show L.off + off * e + (i * e + j) = L.off + (off * e + i * e + j) by omega]
      simp [Array.getD_eq_getD_getElem?, hv]
    · cases hr
  · have hkn : k < n * e := by
      rcases Nat.lt_or_ge k (n * e) with h6 | h6
      · exact h6
      · rw [List.getElem?_eq_none (by simp; omega)] at hk; cases hk
    rw [List.getElem?_map, List.getElem?_range hkn, Option.map_some, Option.some.injEq] at hk
    subst hk
    have : L.off + off * e + k < c.size := by omega
    simp [Array.getD, this]
/-- what a slice holds, read out -/
theorem rows_read {e : Nat} {x : AV} {v : Value} {src : List (List AV) × List Lab} {G : Heap} {w : World} (h : aRows e x H = some src) (hx : RepV ρ R x v) (hG : Rep G ρ R w) (hsub : ∀ l ∈ src.2, G l = H l) :
    ∃ A n c us, v = .slice A n c ∧ n ≤ c ∧ n = src.1.length ∧ RowsL ρ R e src.1 us ∧ (n = 0 ∨ ∃ ad, A = some ad ∧ ∀ k u, us[k]? = some u → w.cell? (ad.add k) = some u) := by
  cases x <;> simp only [aRows] at h <;> try (cases h; done)
  · cases h; cases hx; exact ⟨none, 0, 0, [], rfl, Nat.le_refl _, rfl, .nil _, .inl rfl⟩
  · rename_i l e' off len
    split at h
    · rename_i h0
      cases h; subst h0
      rcases hx.sl_inv with ⟨L, cap, _, _, _, _, rfl⟩ | ⟨_, _, ad, _, _, rfl⟩
      · exact ⟨_, 0, cap, [], rfl, Nat.zero_le _, rfl, .nil _, .inl rfl⟩
      · exact ⟨_, 0, 0, [], rfl, Nat.zero_le _, rfl, .nil _, .inl rfl⟩
    · rename_i h0
      split at h
      · rename_i e2 rs hl
        split at h
        · rename_i hc
          obtain ⟨rfl, rfl, hle⟩ := hc
          cases h
          rcases hx.sl_inv with ⟨L, cap, hL, hcap, _, _, rfl⟩ | ⟨h1, _⟩
          · obtain ⟨L', O, h1, h2, h3⟩ := hG.own l (.rows e rs) (by rw [hsub l (by simp)]; exact hl)
            rw [hL] at h1; cases h1
            cases O <;> (have h3' := h3; simp only [RepO] at h3')
            obtain ⟨h4, h5⟩ := rowsL_of h3 hle
            refine ⟨_, len, cap, _, rfl, hcap, by simp; omega, h4, .inr ⟨_, rfl, fun k u hk => ?_⟩⟩
            rw [add_none, cell_at h2]
            exact h5 k u hk
          · exact absurd h1 h0
        · cases h
      · cases h
  · cases h; cases hx; exact ⟨_, 0, 0, [], rfl, Nat.le_refl _, rfl, .nil _, .inl rfl⟩
  · rename_i e' rows
    split at h
    · rename_i he; subst he
      cases h
      rcases hx.isl_inv with ⟨b, o', cap, c, T', fz, g, hl, hw, hb, hcc, hr, rfl⟩ | ⟨rfl, ad, cap, hn, rfl⟩
      · have hmem := hG.imm _ _ hb
        have hcell : ∀ i j, i < rows.length → j < e → ∃ x, rowsGet rows i j = some x := by
          intro i j hi hj
          have h1 := (hw _ (List.getElem_mem hi)).1
          refine ⟨rows[i][j]'(by omega), ?_⟩
          simp [rowsGet, hi, show j < rows[i].length by omega]
        refine ⟨_, rows.length, cap, (List.range (rows.length * e)).map fun k => g (k / e) (k % e), rfl, hl, rfl, ⟨by simp, hw, fun i j x hx => ?_⟩, .inr ⟨_, rfl, fun k u hk => ?_⟩⟩
        · obtain ⟨r, hr', hj⟩ := rowsGet_some hx
          have h1 := (List.getElem?_eq_some_iff.1 hr').1
          have h2 := (List.getElem?_eq_some_iff.1 hj).1
          have h3 := (hw r (List.mem_of_getElem? hr')).1
          have hlt : i * e + j < rows.length * e := by
            have : (i + 1) * e ≤ rows.length * e := Nat.mul_le_mul_right _ h1
            rw [Nat.add_mul, Nat.one_mul] at this
            omega
          refine ⟨g i j, ?_, hr i j x hx⟩
          have e1 : (i * e + j) / e = i := by rw [Nat.mul_comm, Nat.mul_add_div (by omega), Nat.div_eq_of_lt (by omega)]; omega
          have e2 : (i * e + j) % e = j := by rw [Nat.mul_comm, Nat.mul_add_mod]; exact Nat.mod_eq_of_lt (by omega)
          rw [List.getElem?_map, List.getElem?_range hlt, Option.map_some, e1, e2]
        · have hkn : k < rows.length * e := by
            rcases Nat.lt_or_ge k (rows.length * e) with h6 | h6
            · exact h6
            · rw [List.getElem?_eq_none (by simp; omega)] at hk; cases hk
          rw [List.getElem?_map, List.getElem?_range hkn, Option.map_some, Option.some.injEq] at hk
          subst hk
          have he : 0 < e := by rcases Nat.eq_zero_or_pos e with h | h; · subst h; simp at hkn
                                · exact h
          obtain ⟨x, hx⟩ := hcell (k / e) (k % e) ((Nat.div_lt_iff_lt_mul he).2 hkn) (Nat.mod_lt _ he)
          have h7 := hcc _ _ x hx
          rw [add_none, cell_at hmem, ← h7]
          congr 1
          have := Nat.div_add_mod k e
          rw [Nat.mul_comm] at this
          omega
      · exact ⟨_, 0, cap, [], rfl, Nat.zero_le _, rfl, .nil _, .inl rfl⟩
    · cases h
theorem RowsL.one {e : Nat} {rs : List (List AV)} {us : List Value} (h : RowsL ρ R e rs us) (he : 0 < e) : ∀ v ∈ us, v.oneCell' = true := by
  intro v hv
  obtain ⟨k, hk, rfl⟩ := List.getElem_of_mem hv
  have hlen := h.1
  have hi : k / e < rs.length := (Nat.div_lt_iff_lt_mul he).2 (by omega)
  have hj : k % e < e := Nat.mod_lt _ he
  obtain ⟨h1, h2⟩ := h.2.1 _ (List.getElem_mem hi)
  have hg : rowsGet rs (k / e) (k % e) = some (rs[k / e][k % e]'(by omega)) := by simp [rowsGet, hi, show k % e < rs[k / e].length by omega]
  obtain ⟨u, hu, hr⟩ := h.2.2 _ _ _ hg
  have e1 : k / e * e + k % e = k := by have := Nat.div_add_mod k e; rw [Nat.mul_comm] at this; omega
  rw [e1, List.getElem?_eq_getElem hk] at hu
  cases hu
  exact hr.one (h2 _ (List.getElem_mem _))
theorem repO_rows {e : Nat} {rs : List (List AV)} {us : List Value} (h : RowsL ρ R e rs us) (rest : Array Value) (b : Nat) (T : TypeId) : RepO ρ R ⟨b, 0, (us.toArray ++ rest).size, rs.length⟩ (.rows e rs) (.cells (us.toArray ++ rest) T (0, 0)) := by
  have h1 := h.1
  refine ⟨rfl, rfl, h.2.1, ⟨rfl, by simp; omega⟩, fun i j x hx => ?_⟩
  obtain ⟨v, hv, hr⟩ := h.2.2 i j x hx
  have hlt : i * e + j < us.length := (List.getElem?_eq_some_iff.1 hv).1
  exact ⟨v, by simp only [Nat.zero_add]; rw [Array.getElem?_append_left (by simpa using hlt)]; simpa using hv, hr⟩
theorem run_append_zero {T U E E' ty : TypeId} {i : TypeInfo} (hd : P.underlying T = some (.slice E)) (hd' : P.underlying U = some (.slice E')) (hi : P.info? E = some i) (A A' : Option Addr) (n c c' : Nat) (hn : n ≤ c) (w : World) :
    (Builtin.append_ #[T, U] ty #[.slice A n c, .slice A' 0 c']).run P w = .ok (.slice A n c) w := by
  have hf : (Builtin.firstCells i.size 0 (.slice A' 0 c')).run P w = .ok #[] w := by
    cases A' with
    | none => simp [Builtin.firstCells]
    | some ad => have := run_firstCells_some (P := P) w i.size 0 ad 0 c' [] (by simp) (fun j v h => by simp at h); simpa using this
  cases A with
  | none => simp [Builtin.append_, run_underlying' hd, run_underlying' hd', run_sizeOf' hi, Builtin.lenOf, hn, hf]
  | some ad => simp [Builtin.append_, run_underlying' hd, run_underlying' hd', run_sizeOf' hi, Builtin.lenOf, hn, hf, storeCells]
theorem run_append_fit {T U E E' ty : TypeId} {i : TypeInfo} (hd : P.underlying T = some (.slice E)) (hd' : P.underlying U = some (.slice E')) (hi : P.info? E = some i) (b o' n m c c' : Nat) (A' : Addr) (us : List Value) (hn : n + m ≤ c) (w : World) (hlen : us.length = m * i.size)
    (hus : ∀ k u, us[k]? = some u → w.cell? (A'.add k) = some u) (hone : ∀ v ∈ us, v.oneCell' = true) (cc : Array Value) (T' : TypeId) (hb : w.heap[b]? = some (.cells cc T' (0, 0))) (hfit : o' + n * i.size + us.length ≤ cc.size) :
    (Builtin.append_ #[T, U] ty #[.slice (some ⟨b, o', none⟩) n c, .slice (some A') m c']).run P w = .ok (.slice (some ⟨b, o', none⟩) (n + m) c) (w.setB b (.cells (putC cc (o' + n * i.size) us) T' (0, 0))) := by
  have hf := run_firstCells_some (P := P) w i.size m A' m c' us hlen hus
  have hs := run_storeCells (P := P) us w b (o' + n * i.size) 0 cc T' hb hone (by omega)
  simp only [Nat.add_zero] at hs
  simp [Builtin.append_, run_underlying' hd, run_underlying' hd', run_sizeOf' hi, Builtin.lenOf, hn, hf, add_none, hs]
theorem run_append_more {T U E E' ty : TypeId} {i : TypeInfo} {z : Value} (hd : P.underlying T = some (.slice E)) (hd' : P.underlying U = some (.slice E')) (hi : P.info? E = some i) (hz : i.zero = some z) (A : Option Addr) (n m c c' : Nat) (A' : Addr) (olds us : List Value) (hn : c < n + m) (hnc : n ≤ c) (w : World)
    (hol : olds.length = n * i.size) (hold : n = 0 ∨ ∃ ad, A = some ad ∧ ∀ k u, olds[k]? = some u → w.cell? (ad.add k) = some u) (hlen : us.length = m * i.size)
    (hus : ∀ k u, us[k]? = some u → w.cell? (A'.add k) = some u) (h63 : n + m ≤ 4611686018427387904) (h48 : (n + m) * i.bytes ≤ 140737488355328) :
    ∃ nc rest, n + m ≤ nc ∧ (olds.toArray ++ us.toArray ++ rest).size = (n + m + (nc - (n + m)) * z.cells.size / i.size * 0) * i.size + rest.size ∧ rest.size = (nc - (n + m)) * z.cells.size ∧
      (Builtin.append_ #[T, U] ty #[.slice A n c, .slice (some A') m c']).run P w = .ok (.slice (some ⟨w.heap.size, 0, none⟩) (n + m) nc) (w.drew.alloc (.cells (olds.toArray ++ us.toArray ++ rest) E)) := by
  have hfit := growslice_fits (need := n + m) (old := c) hn h48
  have hf := run_firstCells_some (P := P) w.drew i.size m A' m c' us hlen (by simpa using hus)
  have hfo : (Builtin.firstCells i.size n (.slice A n c)).run P w.drew = .ok olds.toArray w.drew := by
    rcases hold with h0 | ⟨ad, rfl, h1⟩
    · subst h0
      have : olds = [] := List.length_eq_zero_iff.1 (by simpa using hol)
      subst this
      cases A with
      | none => simp [Builtin.firstCells]
      | some ad => have := run_firstCells_some (P := P) w.drew i.size 0 ad 0 c [] (by simp) (fun j v h => by simp at h); simpa using this
    · exact run_firstCells_some (P := P) w.drew i.size n ad n c olds hol (by simpa using h1)
  have hnn : ¬ (n + m ≤ c) := by omega
  have h63' : ¬ (9223372036854775807 < ((n : Int) + (m : Int))) := by omega
  have h48' : ¬ (281474976710656 < Builtin.nextslicecap (n + m) c * i.bytes) := by omega
  refine ⟨grownCap w (n + m) c E, Builtin.zeroCells z.cells (grownCap w (n + m) c E - (n + m)), ?_, ?_, ?_, ?_⟩
  · simp [grownCap, Question.cut]
  · simp [hol, hlen, Nat.add_mul]
  · simp [Builtin.zeroCells]
  · simp [Builtin.append_, run_underlying' hd, run_underlying' hd', run_sizeOf' hi, typeInfo, run_zero' hi hz, hi, Builtin.lenOf, hnn, h63', h48', Question.forced, hf, hfo, newRow, grownCap]
    congr 2
    apply Array.ext'
    simp [List.append_assoc]
/-- an object that goes over into another one, in its own block -/
theorem fut_move {w : World} (hR : Rep H ρ R w) {W : Lab → Prop} {l nx : Lab} (hfr : ρ nx = none) (hn : W nx) {ob ob' : AO} {L L' : Loc} {O O' : Obj} (hl : H l = some ob) (hL : ρ l = some L) (hO : w.heap[L.blk]? = some O) (hb : L'.blk = L.blk) (ho : RepO ρ R L' ob' O') :
    Fut H ρ R w W (fun k => if k = nx then some L' else ρ k) R (w.setB L.blk O') ∧ Rep (upd [(nx, some ob'), (l, none)] H) (fun k => if k = nx then some L' else ρ k) R (w.setB L.blk O') := by
  have hext : Ext ρ (fun k => if k = nx then some L' else ρ k) R R := ⟨fun k K hk => by
    have : k ≠ nx := fun e => by subst e; rw [hfr] at hk; cases hk
    simp [this, hk], fun _ _ h => h⟩
  have hne : l ≠ nx := fun e => by subst e; rw [hfr] at hL; cases hL
  have hval : ∀ k o, upd [(nx, some ob'), (l, none)] H k = some o → (k = nx ∧ o = ob') ∨ (k ≠ nx ∧ k ≠ l ∧ H k = some o) := by
    intro k o h
    simp only [upd] at h
    by_cases e1 : k = nx
    · simp [e1] at h; exact .inl ⟨e1, h.symm⟩
    · by_cases e2 : k = l
      · simp [e2, hne] at h
      · simp [e1, e2] at h; exact .inr ⟨e1, e2, h⟩
  constructor
  · refine ⟨hext, fun k K hk => ?_, fun _ _ h => .inl h, rfl, rfl, rfl, by rw [setB_size]; exact Nat.le_refl _, fun b _ hno => setB_other _ _ (fun e => hno l ob L hl hL e.symm)⟩
    split at hk
    · cases hk; rename_i e; subst e; exact .inr ⟨hn, .inr ⟨l, ob, L, hl, hL, hb.symm⟩⟩
    · exact .inl hk
  · have other : ∀ k o K, k ≠ l → H k = some o → ρ k = some K → K.blk ≠ L.blk := fun k o K hkl hk hK e => hkl (hR.sep k l o ob K L hk hl hK hL e)
    refine ⟨fun k o hk => ?_, fun k k' o1 o2 L1 L2 h1 h2 h3 h4 h5 => ?_, fun k o K hk hK => ?_, fun b O2 h => ?_⟩
    · rcases hval k o hk with ⟨rfl, rfl⟩ | ⟨e1, e2, hk⟩
      · exact ⟨L', O', by simp, by rw [hb]; exact setB_at hO O', ho.mono hext⟩
      · obtain ⟨K, O2, h1, h2, h3⟩ := hR.own k o hk
        exact ⟨K, O2, by simp [e1, h1], by rw [setB_other _ _ (other k o K e2 hk h1)]; exact h2, h3.mono hext⟩
    · rcases hval k o1 h1 with ⟨rfl, rfl⟩ | ⟨e1, e2, h1'⟩ <;> rcases hval k' o2 h2 with ⟨rfl, rfl⟩ | ⟨e3, e4, h2'⟩
      · rfl
      · simp at h3; subst h3
        simp [e3] at h4
        exact absurd (h5.symm.trans hb) (other k' o2 L2 e4 h2' h4)
      · simp at h4; subst h4
        simp [e1] at h3
        exact absurd (h5.trans hb) (other k o1 L1 e2 h1' h3)
      · simp [e1] at h3
        simp [e3] at h4
        exact hR.sep k k' o1 o2 L1 L2 h1' h2' h3 h4 h5
    · rcases hval k o hk with ⟨rfl, rfl⟩ | ⟨e1, e2, hk⟩
      · simp at hK; subst hK
        rw [hb]; exact hR.dis l ob L hl hL
      · simp [e1] at hK
        exact hR.dis k o K hk hK
    · rw [setB_other _ _ (fun e => by rw [e] at h; rw [hR.dis l ob L hl hL] at h; cases h)]
      exact hR.imm b O2 h
theorem rep_drew {w : World} (h : Rep H ρ R w) : Rep H ρ R w.drew := ⟨h.own, h.sep, h.dis, h.imm⟩
theorem append_two {c : Call} {T U : TypeId} (hs : c.argTypes.size = 2) (hT : c.argTypes[0]? = some T) (hU : c.argTypes[1]? = some U) : c.argTypes = #[T, U] := by
  apply Array.ext_getElem?
  intro k
  match k with
  | 0 => simpa using hT
  | 1 => simpa using hU
  | k + 2 => rw [Array.getElem?_eq_none (by omega)]; simp
theorem restr_sub {G : Heap} {ls : List Lab} {l : Lab} (h : l ∈ ls) : restr G (some ls) l = G l := by simp [restr, h]
theorem rows_empty {e : Nat} {y : AV} {v : Value} {src : List (List AV) × List Lab} (h : aRows e y H = some src) (hem : src.1 = []) (hy : RepV ρ R y v) : ∃ A' c', v = .slice A' 0 c' := by
  cases y <;> simp only [aRows] at h <;> try (cases h; done)
  · cases hy; exact ⟨_, _, rfl⟩
  · rename_i l e' off len
    split at h
    · rename_i h0
      subst h0
      rcases hy.sl_inv with ⟨L, cap, _, _, _, _, rfl⟩ | ⟨_, _, ad, _, _, rfl⟩ <;> exact ⟨_, _, rfl⟩
    · rename_i h0
      split at h
      · split at h
        · rename_i hc
          cases h
          simp only at hem
          have := congrArg List.length hem
          simp at this
          omega
        · cases h
      · cases h
  · cases hy; exact ⟨_, _, rfl⟩
  · split at h
    · cases h
      simp only at hem
      subst hem
      cases hy
      · exact ⟨_, _, rfl⟩
      · exact ⟨_, _, rfl⟩
    · cases h
def AV.isS : AV → Bool
  | .nils | .sl0 | .sl .. | .isl .. => true
  | _ => false
theorem slice_val {x : AV} {v : Value} (hx : RepV ρ R x v) (hk : x.isS = true) : ∃ A n c, v = .slice A n c ∧ n ≤ c := by
  cases hx <;> simp [AV.isS] at hk <;> first | exact ⟨_, _, _, rfl, by assumption⟩ | exact ⟨_, _, _, rfl, Nat.zero_le _⟩
/-- append that makes a new block -/
theorem append_more {p p' : Operand} {T U E E' : TypeId} {i : TypeInfo} {z : Value} {src : List (List AV) × List Lab} {dst : List (List AV)} {G : Heap} {w : World} {olds us : List Value} {A : Option Addr} {n c c' m : Nat} {A' : Addr}
    (hrun : ∀ w : World, (execOp a.eval o).run P w = ((Builtin.append_ #[T, U] o.type #[a.eval p, a.eval p']).run P w).andThen fun v w' => .ok (.value v) w')
    (hd : P.underlying T = some (.slice E)) (hd' : P.underlying U = some (.slice E')) (hi : P.info? E = some i) (hz : i.zero = some z) (hzs : z.cells.size = i.size) (hR : Rep G ρ R w) (hfr : ρ q = none)
    (hg : a.eval p = .slice A n c) (hg' : a.eval p' = .slice (some A') m c') (hn : c < n + m) (hnc : n ≤ c) (hold : n = 0 ∨ ∃ ad, A = some ad ∧ ∀ k u, olds[k]? = some u → w.cell? (ad.add k) = some u)
    (hus : ∀ k u, us[k]? = some u → w.cell? (A'.add k) = some u) (h63 : n + m ≤ 4611686018427387904) (h48 : (n + m) * i.bytes ≤ 140737488355328) (hdr : RowsL ρ R i.size dst olds) (hsr : RowsL ρ R i.size src.1 us) (hdn : dst.length = n) (hsm : src.1.length = m) :
    ∃ v w' ρ' R', (execOp a.eval o).run P w = .ok (.value v) w' ∧ Fut G ρ R w (Under q) ρ' R' w' ∧ RepV ρ' R' (.sl q i.size 0 (n + m)) v ∧ Rep (upd [(q, some (.rows i.size (dst ++ src.1)))] G) ρ' R' w' := by
  obtain ⟨nc, rest, h1, _, h2, h3⟩ := run_append_more (ty := o.type) (P := P) hd hd' hi hz A n m c c' A' olds us hn hnc w (by rw [hdr.1, hdn]) hold (by rw [hsr.1, hsm]) hus h63 h48
  have hrows := hdr.append hsr
  have hO : RepO ρ R ⟨w.drew.heap.size, 0, ((olds ++ us).toArray ++ rest).size, (dst ++ src.1).length⟩ (.rows i.size (dst ++ src.1)) (.cells ((olds ++ us).toArray ++ rest) E (0, 0)) := repO_rows hrows rest _ E
  obtain ⟨hF, hRep⟩ := fut_new (W := Under q) (rep_drew hR) hfr (Under.self q) (O := .cells ((olds ++ us).toArray ++ rest) E) (L := ⟨w.drew.heap.size, 0, ((olds ++ us).toArray ++ rest).size, (dst ++ src.1).length⟩) rfl hO
  have e : (olds ++ us).toArray = olds.toArray ++ us.toArray := by simp
  rw [← e] at h3
  refine ⟨_, _, _, _, by rw [hrun, hg, hg', h3]; rfl, ⟨hF.ext, hF.win, hF.new, hF.os, hF.tape, hF.output, hF.size, hF.frame⟩, ?_, hRep⟩
  have := RepV.sl (ρ := fun l => if l = q then some ⟨w.drew.heap.size, 0, ((olds ++ us).toArray ++ rest).size, (dst ++ src.1).length⟩ else ρ l) (R := R) q i.size 0 (n + m) nc _ (if_pos rfl) h1 (by
    simp only [Nat.zero_add, Array.size_append, List.size_toArray, List.length_append]
    rw [hdr.1, hsr.1, hdn, hsm, h2, hzs, ← Nat.add_mul, ← Nat.add_mul]
    exact Nat.mul_le_mul_right _ (by omega)) (by simp; omega)
  simpa using this
theorem sound_append {c : Call} {p p' : Operand} {T U E E' : TypeId} {i : TypeInfo} {z : Value} {x y : AV} (ho : o.op = .call c) (hc : c.callee = .builtin .append) (hargs : c.args = #[p, p']) (hs : c.argTypes.size = 2) (hT : c.argTypes[0]? = some T) (hU : c.argTypes[1]? = some U)
    (hd : P.underlying T = some (.slice E)) (hd' : P.underlying U = some (.slice E')) (hi : P.info? E = some i) (hz : i.zero = some z) (hzs : z.cells.size = i.size) (hx : RepV ρ R x (a.eval p)) (hy : RepV ρ R y (a.eval p')) (h : aAppend i.size i.bytes x y H q = some r) : Sound P o a ρ R H q r := by
  have hat := append_two hs hT hU
  have hrun : ∀ w : World, (execOp a.eval o).run P w = ((Builtin.append_ #[T, U] o.type #[a.eval p, a.eval p']).run P w).andThen fun v w' => .ok (.value v) w' := by
    intro w
    simp [execOp, ho, resolve, hc, hargs, invoke, builtin, hat]
  simp only [aAppend, Option.bind_eq_some_iff] at h
  obtain ⟨src, hsrc, h⟩ := h
  split at h
  · -- nothing to append
    rename_i hem
    have hem' : src.1 = [] := by simpa using hem
    have hrx : r = .pure x ∧ x.isS = true := by
      cases x <;> simp at h <;> exact ⟨h.symm, by simp [AV.isS]⟩
    obtain ⟨rfl, hk⟩ := hrx
    obtain ⟨A, n, cp, hg, hn⟩ := slice_val hx hk
    obtain ⟨A', c', hg'⟩ := rows_empty hsrc hem' hy
    refine sound_pure (v := a.eval p) (fun w => ?_) hx
    rw [hrun, hg, hg', run_append_zero hd hd' hi A A' n cp c' hn w]
    rfl
  · rename_i hem
    have hpos : 0 < src.1.length := by
      cases hq : src.1 with
      | nil => rw [hq] at hem; simp at hem
      | cons a b => simp
    have hsz : ∀ {k : Nat} {l : Lab}, k = k := fun {_ _} => rfl
    -- a new slice out of none
    have fresh0 : ∀ A, a.eval p = .slice A 0 0 → 0 < i.size ∧ src.1.length * i.bytes ≤ 140737488355328 ∧ src.1.length ≤ 4611686018427387904 → ∀ ls : List Lab, (∀ l ∈ src.2, l ∈ ls) → ∀ w, Rep (restr H (some ls)) ρ R w → ρ q = none →
        ∃ v w' ρ' R', (execOp a.eval o).run P w = .ok (.value v) w' ∧ Fut (restr H (some ls)) ρ R w (Under q) ρ' R' w' ∧ RepV ρ' R' (.sl q i.size 0 src.1.length) v ∧ Rep (upd [(q, some (.rows i.size src.1))] (restr H (some ls))) ρ' R' w' := by
      intro A hg hb ls hls w hR hfr
      obtain ⟨B, m, c', us, hg', hmc, hm, hus, hread⟩ := rows_read hsrc hy hR (fun l hl => restr_sub (hls l hl))
      rcases hread with h0 | ⟨ad, rfl, hread⟩
      · omega
      have := append_more (P := P) (q := q) (dst := []) (olds := []) hrun hd hd' hi hz hzs hR hfr hg hg' (by omega) (Nat.le_refl _) (.inl rfl) hread (by omega) (by rw [hm, Nat.zero_add]; exact hb.2.1) (.nil _) hus rfl hm.symm
      simpa [hm] using this
    cases x <;> simp only at h <;> try (cases h; done)
    · -- nils
      split at h
      · rename_i hb
        simp only [Option.some.injEq] at h; subst h
        generalize hg : a.eval p = pv at hx
        cases hx
        refine ⟨fun l hl => .inr (by rw [has_one hl]; exact .self _), fun w hR hfr => ?_⟩
        obtain ⟨v, w', ρ', R', h1, h2, h3, h4⟩ := fresh0 none hg hb src.2 (fun l hl => hl) w hR (hfr q (.self q))
        exact opC_value h1 ⟨ρ', R', h2, h3, h4⟩
      · cases h
    · -- sl
      rename_i l e' off n
      split at h
      · rename_i e2 rs hl
        split at h
        · rename_i hb
          obtain ⟨rfl, rfl, hle, hpe, h48, h63⟩ := hb
          simp only [Option.some.injEq] at h; subst h
          refine ⟨fun k hk => ?_, fun w hR hfr => ?_⟩
          · obtain ⟨pr, hp, rfl⟩ := hk
            simp at hp
            rcases hp with rfl | rfl
            · exact .inr (.self _)
            · exact .inl (by simp [restr, hl])
          · have hG : restr H (some (l :: src.2)) l = some (.rows i.size rs) := by simp [restr, hl]
            obtain ⟨B, m, c', us, hg', hmc, hm, hus, hread⟩ := rows_read hsrc hy hR (fun k hk => restr_sub (by simp [hk]))
            rcases hread with h0 | ⟨ad, rfl, hread⟩
            · omega
            obtain ⟨L, O, hL, hO, hrep⟩ := hR.own l _ hG
            cases O <;> (have hrep' := hrep; simp only [RepO] at hrep')
            rename_i cc T' fz
            obtain ⟨rfl, hsz, hrow, htop, hcell⟩ := hrep'
            obtain ⟨hdr, hdc⟩ := rowsL_of hrep hle
            have hfin : ∀ {G' : Heap}, (∃ v w' ρ' R', (execOp a.eval o).run P w = .ok (.value v) w' ∧ Fut (restr H (some (l :: src.2))) ρ R w (Under q) ρ' R' w' ∧ RepV ρ' R' (.sl q i.size 0 (n + src.1.length)) v ∧ Rep (upd [(q, some (.rows i.size ((rs.drop off).take n ++ src.1)))] (restr H (some (l :: src.2)))) ρ' R' w') →
                opC P o a w (fun v w' => ∃ ρ' R', Fut (restr H (some (l :: src.2))) ρ R w (Under q) ρ' R' w' ∧ RepV ρ' R' (.sl q i.size 0 (n + src.1.length)) v ∧ Rep (upd [(q, some (.rows i.size ((rs.drop off).take n ++ src.1))), (l, none)] (restr H (some (l :: src.2)))) ρ' R' w') := by
              intro _ ⟨v, w', ρ', R', h1, h2, h3, h4⟩
              refine opC_value h1 ⟨ρ', R', h2, h3, h4.drop (fun k ob hk => ?_)⟩
              simp only [upd] at hk ⊢
              split at hk
              · rename_i e; rw [if_pos e]; exact hk
              · rename_i e; rw [if_neg e]
                split at hk
                · cases hk
                · exact hk
            rcases hx.sl_inv with ⟨L2, cap, hL2, hcap, ht, hxt, hg⟩ | ⟨rfl, _, ad2, _, _, hg⟩
            · rw [hL] at hL2; cases hL2
              by_cases hfit : n + m ≤ cap
              · have hroom : L.off + off * i.size + n * i.size + us.length ≤ cc.size := by
                  rw [hus.1, ← hm, hsz]
                  have : (off + (n + m)) * i.size ≤ (off + cap) * i.size := Nat.mul_le_mul_right _ (by omega)
                  simp only [Nat.add_mul] at this ht
                  omega
                have hr := run_append_fit (ty := o.type) (P := P) hd hd' hi L.blk (L.off + off * i.size) n m cap c' ad us hfit w (by rw [hus.1, hm]) hread (hus.one hpe) cc T' hO hroom
                have hnew : RepO ρ R ⟨L.blk, L.off + off * i.size, L.top, n + m⟩ (.rows i.size ((rs.drop off).take n ++ src.1)) (.cells (putC cc (L.off + off * i.size + n * i.size) us) T' (0, 0)) := by
                  have hall := hdr.append hus
                  refine ⟨rfl, by rw [putC_size]; exact hsz, hall.2.1, ?_, fun ii j xx hxx => ?_⟩
                  · have hlen : ((rs.drop off).take n ++ src.1).length = n + m := by simp; omega
                    rw [hlen]
                    refine ⟨rfl, ?_⟩
                    have : (off + (n + m)) * i.size ≤ (off + cap) * i.size := Nat.mul_le_mul_right _ (by omega)
                    simp only [Nat.add_mul] at this ht ⊢
                    omega
                  · obtain ⟨v, hv, hvr⟩ := hall.2.2 ii j xx hxx
                    refine ⟨v, ?_, hvr⟩
                    simp only
                    rw [putC_get]
                    have hol : ((List.range (n * i.size)).map fun k => cc.getD (L.off + off * i.size + k) undef).length = n * i.size := by simp
                    by_cases hlt : ii * i.size + j < n * i.size
                    · rw [List.getElem?_append_left (by omega)] at hv
                      rw [if_neg (by omega)]
                      exact hdc _ v hv
                    · rw [List.getElem?_append_right (by omega), hol] at hv
                      have hb2 := (List.getElem?_eq_some_iff.1 hv).1
                      rw [if_pos ⟨by omega, by omega, by omega⟩, ← hv]
                      congr 1; omega
                obtain ⟨hF, hRep⟩ := fut_move (W := Under q) (nx := q) hR (hfr q (.self q)) (.self q) hG hL hO (L' := ⟨L.blk, L.off + off * i.size, L.top, n + m⟩) rfl hnew
                refine opC_value (v := .slice (some ⟨L.blk, L.off + off * i.size, none⟩) (n + m) cap) (by rw [hrun, hg, hg', hr]; rfl) ⟨_, R, hF, ?_, hRep⟩
                rw [← hm]
                have := RepV.sl (ρ := fun k => if k = q then some ⟨L.blk, L.off + off * i.size, L.top, n + m⟩ else ρ k) (R := R) q i.size 0 (n + m) cap _ (if_pos rfl) hfit (by
                  simp only [Nat.zero_add, Nat.add_mul] at ht ⊢; omega) (by simpa using hfit)
                simpa using this
              · refine hfin (G' := H) ?_
                have := append_more (P := P) (q := q) hrun hd hd' hi hz hzs hR (hfr q (.self q)) hg hg' (by omega) hcap (.inr ⟨_, rfl, fun k u hk => by rw [add_none, cell_at hO]; exact hdc k u hk⟩) hread (by omega) (by rw [hm]; exact h48) hdr hus (by simp; omega) hm.symm
                simpa [hm] using this
            · refine hfin (G' := H) ?_
              have := append_more (P := P) (q := q) (dst := (rs.drop off).take 0) (olds := []) hrun hd hd' hi hz hzs hR (hfr q (.self q)) hg hg' (by omega) (Nat.le_refl _) (.inl rfl) hread (by omega) (by rw [hm]; exact h48) (by simpa using RowsL.nil (ρ := ρ) (R := R) i.size) hus (by simp) hm.symm
              simpa [hm] using this
        · cases h
      · cases h
    · -- sl0
      split at h
      · rename_i hb
        simp only [Option.some.injEq] at h; subst h
        generalize hg : a.eval p = pv at hx
        cases hx
        refine ⟨fun l hl => .inr (by rw [has_one hl]; exact .self _), fun w hR hfr => ?_⟩
        obtain ⟨v, w', ρ', R', h1, h2, h3, h4⟩ := fresh0 _ hg hb src.2 (fun l hl => hl) w hR (hfr q (.self q))
        exact opC_value h1 ⟨ρ', R', h2, h3, h4⟩
      · cases h
end
end Go.Proofs.Ytbngfbpegdcpkaa
