/- The abstract machine: what makes objects, and constants. -/
import Derived.Test.YtbngfbpegdcpkaaA5
namespace Go.Proofs.Ytbngfbpegdcpkaa
set_option linter.unusedVariables false
set_option linter.unusedSimpArgs false
section
variable {P : Program} {o : Oper} {a : Act} {ρ : Locs} {R : Imm} {H : Heap} {nx : Lab} {r : Res}

/-- lists of values -/
def RepL (ρ : Locs) (R : Imm) (xs : List AV) (vs : List Value) : Prop := vs.length = xs.length ∧ ∀ (k : Nat) x, xs[k]? = some x → ∃ v, vs[k]? = some v ∧ RepV ρ R x v
theorem RepL.nil : RepL ρ R [] [] := ⟨rfl, fun k x h => by simp at h⟩
theorem RepL.cons {x : AV} {v : Value} {xs : List AV} {vs : List Value} (h : RepV ρ R x v) (hs : RepL ρ R xs vs) : RepL ρ R (x :: xs) (v :: vs) := by
  refine ⟨by simp [hs.1], fun k y hk => ?_⟩
  cases k with
  | zero => simp at hk; subst hk; exact ⟨v, rfl, h⟩
  | succ k => simpa using hs.2 k y (by simpa using hk)
theorem RepL.head {x : AV} {xs : List AV} {vs : List Value} (h : RepL ρ R (x :: xs) vs) : ∃ v us, vs = v :: us ∧ RepV ρ R x v ∧ RepL ρ R xs us := by
  obtain ⟨hl, hg⟩ := h
  cases vs with
  | nil => simp at hl
  | cons v us =>
    obtain ⟨u, hu, hr⟩ := hg 0 x rfl
    simp at hu; subst hu
    exact ⟨v, us, rfl, hr, by simpa using hl, fun k y hk => by simpa using hg (k + 1) y (by simpa using hk)⟩
theorem RepL.nil_inv {vs : List Value} (h : RepL ρ R [] vs) : vs = [] := List.length_eq_zero_iff.1 h.1
theorem RepL.cells {x : AV} {v : Value} (h : RepV ρ R x v) : RepL ρ R x.cells v.cells.toList := by
  obtain ⟨h1, h2⟩ := h.cells_len
  exact ⟨by simpa using h1, fun k y hk => by obtain ⟨u, hu, hr⟩ := h2 k y hk; exact ⟨u, by simpa using hu, hr⟩⟩
theorem RepL.append {xs ys : List AV} {vs us : List Value} (h : RepL ρ R xs vs) (h' : RepL ρ R ys us) : RepL ρ R (xs ++ ys) (vs ++ us) := by
  refine ⟨by simp [h.1, h'.1], fun k y hk => ?_⟩
  have := h.1
  by_cases hlt : k < xs.length
  · rw [List.getElem?_append_left hlt] at hk
    rw [List.getElem?_append_left (by omega)]
    exact h.2 k y hk
  · rw [List.getElem?_append_right (by omega)] at hk
    rw [List.getElem?_append_right (by omega), this]
    exact h'.2 _ y hk
theorem RepL.take {xs : List AV} {vs : List Value} (h : RepL ρ R xs vs) (n : Nat) : RepL ρ R (xs.take n) (vs.take n) := by
  refine ⟨by simp [h.1], fun k y hk => ?_⟩
  rw [List.getElem?_take] at hk ⊢
  split at hk
  · rename_i hlt; rw [if_pos hlt]; exact h.2 k y hk
  · cases hk
theorem RepL.drop {xs : List AV} {vs : List Value} (h : RepL ρ R xs vs) (n : Nat) : RepL ρ R (xs.drop n) (vs.drop n) := by
  refine ⟨by simp [h.1], fun k y hk => ?_⟩
  rw [List.getElem?_drop] at hk ⊢
  exact h.2 _ y hk
theorem RepL.mono {ρ' : Locs} {R' : Imm} {xs : List AV} {vs : List Value} (h : RepL ρ R xs vs) (e : Ext ρ ρ' R R') : RepL ρ' R' xs vs :=
  ⟨h.1, fun k x hk => by obtain ⟨v, hv, hr⟩ := h.2 k x hk; exact ⟨v, hv, hr.mono e⟩⟩
theorem RepL.agg {xs : List AV} {vs : List Value} (h : RepL ρ R xs vs) : RepV ρ R (.agg xs) (.agg vs.toArray) := RepV.agg_list h.1 h.2
theorem RepL.fn {f : Fn} {xs ys : List AV} {vs us : List Value} (h : RepL ρ R xs vs) (h' : RepL ρ R ys us) : RepV ρ R (.fn f xs ys) (.func f vs.toArray us.toArray) := by
  refine .fn f xs ys _ _ (by simp [h.1]) (by simp [h'.1]) (fun i x hx => ?_) (fun i x hx => ?_)
  · obtain ⟨v, hv, hr⟩ := h.2 i x hx; simpa [Array.getD_eq_getD_getElem?, hv] using hr
  · obtain ⟨v, hv, hr⟩ := h'.2 i x hx; simpa [Array.getD_eq_getD_getElem?, hv] using hr
theorem RepV.agg_inv {cs : List AV} {v : Value} (h : RepV ρ R (.agg cs) v) : ∃ vs : List Value, v = .agg vs.toArray ∧ RepL ρ R cs vs := by
  cases h with
  | agg _ C hC h =>
    refine ⟨C.toList, by simp, by simpa using hC, fun k x hk => ?_⟩
    have hk' : k < C.size := by have := (List.getElem?_eq_some_iff.1 hk).1; omega
    have := h k x hk
    refine ⟨C[k], by simp [hk'], by simpa [Array.getD, hk'] using this⟩
theorem RepV.tuple_inv {cs : List AV} {v : Value} (h : RepV ρ R (.tuple cs) v) : ∃ vs : List Value, v = .tuple vs.toArray ∧ RepL ρ R cs vs := by
  cases h with
  | tuple _ C hC h =>
    refine ⟨C.toList, by simp, by simpa using hC, fun k x hk => ?_⟩
    have hk' : k < C.size := by have := (List.getElem?_eq_some_iff.1 hk).1; omega
    have := h k x hk
    refine ⟨C[k], by simp [hk'], by simpa [Array.getD, hk'] using this⟩
theorem RepL.tuple {xs : List AV} {vs : List Value} (h : RepL ρ R xs vs) : RepV ρ R (.tuple xs) (.tuple vs.toArray) := by
  refine .tuple xs _ (by simp [h.1]) fun i x hx => ?_
  obtain ⟨v, hv, hr⟩ := h.2 i x hx; simpa [Array.getD_eq_getD_getElem?, hv] using hr

/-- constants -/
def ofC1 : Value → Option AV
  | .bool b => some (.bool b)
  | .int k n => some (.int k n)
  | .string s => some (.str s)
  | .pointer none => some .nilp
  | .slice none 0 0 => some .nils
  | .map none => some .nilm
  | .nilFunc => some .nilf
  | _ => none
def ofCs : List Value → Option (List AV)
  | [] => some []
  | v :: vs => (ofC1 v).bind fun x => (ofCs vs).map fun xs => x :: xs
def ofC : Value → Option AV
  | .agg cs => (ofCs cs.toList).map .agg
  | .tuple cs => (ofCs cs.toList).map .tuple
  | v => ofC1 v
theorem rep_ofC1 {v : Value} {x : AV} (h : ofC1 v = some x) : RepV ρ R x v := by
  unfold ofC1 at h
  split at h <;> first | (cases h; constructor) | cases h
theorem rep_ofCs : ∀ {vs : List Value} {xs : List AV}, ofCs vs = some xs → RepL ρ R xs vs
  | [], xs, h => by simp [ofCs] at h; subst h; exact .nil
  | v :: vs, xs, h => by
    simp only [ofCs, Option.bind_eq_some_iff, Option.map_eq_some_iff] at h
    obtain ⟨x, hx, ys, hys, rfl⟩ := h
    exact .cons (rep_ofC1 hx) (rep_ofCs hys)
theorem rep_ofC {v : Value} {x : AV} (h : ofC v = some x) : RepV ρ R x v := by
  unfold ofC at h
  split at h
  · simp only [Option.map_eq_some_iff] at h
    obtain ⟨xs, hxs, rfl⟩ := h
    exact (rep_ofCs hxs).agg
  · simp only [Option.map_eq_some_iff] at h
    obtain ⟨xs, hxs, rfl⟩ := h
    exact (rep_ofCs hxs).tuple
  · exact rep_ofC1 h

theorem ofC1_one {v : Value} {x : AV} (h : ofC1 v = some x) : x.one = true := by
  unfold ofC1 at h
  split at h <;> first | (cases h; rfl) | cases h
theorem ofCs_one : ∀ {vs : List Value} {xs : List AV}, ofCs vs = some xs → ∀ x ∈ xs, x.one = true
  | [], xs, h => by simp [ofCs] at h; subst h; simp
  | v :: vs, xs, h => by
    simp only [ofCs, Option.bind_eq_some_iff, Option.map_eq_some_iff] at h
    obtain ⟨x, hx, ys, hys, rfl⟩ := h
    intro y hy
    rcases List.mem_cons.1 hy with rfl | hy
    · exact ofC1_one hx
    · exact ofCs_one hys y hy
/-- a new row -/
theorem repO_one {cs : List AV} {vs : List Value} (h : RepL ρ R cs vs) (ho : ∀ x ∈ cs, x.one = true) (b : Nat) (T : TypeId) : RepO ρ R ⟨b, 0, vs.length, 1⟩ (.rows cs.length [cs]) (.cells vs.toArray T (0, 0)) := by
  refine ⟨rfl, by simp, fun r hr => by simp at hr; rw [hr]; exact ⟨rfl, ho⟩, ⟨rfl, by simp [h.1]⟩, fun i j x hx => ?_⟩
  cases i with
  | zero =>
    simp only [rowsGet, List.getElem?_cons_zero, Option.bind_some] at hx
    obtain ⟨v, hv, hr⟩ := h.2 j x hx
    exact ⟨v, by simpa using hv, hr⟩
  | succ i => simp [rowsGet] at hx
theorem chunk_len {e : Nat} : ∀ (n : Nat) (l : List AV), (chunk e n l).length = n
  | 0, _ => rfl
  | n + 1, l => by simp [chunk, chunk_len n]
theorem chunk_row {e : Nat} : ∀ (n : Nat) (l : List AV), n * e ≤ l.length → ∀ r ∈ chunk e n l, r.length = e
  | 0, _, _, r, hr => by simp [chunk] at hr
  | n + 1, l, h, r, hr => by
    rw [Nat.add_mul, Nat.one_mul] at h
    simp only [chunk, List.mem_cons] at hr
    rcases hr with rfl | hr
    · simp; omega
    · exact chunk_row n (l.drop e) (by simp; omega) r hr
theorem chunk_get {e : Nat} : ∀ (n : Nat) (l : List AV) (i j : Nat) (x : AV), rowsGet (chunk e n l) i j = some x → j < e ∧ l[i * e + j]? = some x
  | 0, _, i, j, x, h => by simp [chunk, rowsGet] at h
  | n + 1, l, i, j, x, h => by
    cases i with
    | zero =>
      simp only [chunk, rowsGet, List.getElem?_cons_zero, Option.bind_some, List.getElem?_take] at h
      split at h
      · rename_i hj; exact ⟨hj, by simpa using h⟩
      · cases h
    | succ i =>
      have := chunk_get n (l.drop e) i j x (by simpa [chunk, rowsGet] using h)
      refine ⟨this.1, ?_⟩
      have h2 := this.2
      rw [List.getElem?_drop] at h2
      rw [← h2]
      congr 1
      rw [Nat.add_mul]; omega
theorem chunk_mem {e : Nat} : ∀ (n : Nat) (l : List AV), ∀ r ∈ chunk e n l, ∀ x ∈ r, x ∈ l
  | 0, _, r, hr => by simp [chunk] at hr
  | n + 1, l, r, hr => by
    simp only [chunk, List.mem_cons] at hr
    rcases hr with rfl | hr
    · exact fun x hx => List.mem_of_mem_take hx
    · exact fun x hx => List.mem_of_mem_drop (chunk_mem n (l.drop e) r hr x hx)
theorem repO_chunk {cs : List AV} {vs : List Value} (h : RepL ρ R cs vs) (ho : ∀ x ∈ cs, x.one = true) (e n : Nat) (hn : n * e ≤ cs.length) (b : Nat) (T : TypeId) : RepO ρ R ⟨b, 0, vs.length, n⟩ (.rows e (chunk e n cs)) (.cells vs.toArray T (0, 0)) := by
  refine ⟨rfl, by simp, fun r hr => ⟨chunk_row n cs hn r hr, fun x hx => ho x (chunk_mem n cs r hr x hx)⟩, ⟨chunk_len _ _, by rw [chunk_len]; have := h.1; simp; omega⟩, fun i j x hx => ?_⟩
  obtain ⟨hj, hx⟩ := chunk_get n cs i j x hx
  obtain ⟨v, hv, hr⟩ := h.2 _ x hx
  exact ⟨v, by simpa using hv, hr⟩

theorem sound_alloc {T : TypeId} {i : TypeInfo} {z : Value} {zs : List AV} (ho : o.op = .alloc T) (hi : P.info? T = some i) (hz : i.zero = some z) (hc : ofCs z.cells.toList = some zs) :
    Sound P o a ρ R H nx (aNew zs.length [zs] (.ptr nx zs.length 0 0) nx) := by
  have hr := rep_ofCs (ρ := ρ) (R := R) hc
  refine sound_new (O := .cells z.cells T) z.cells.size 1 (fun w => ⟨.pointer (some ⟨w.heap.size, 0, none⟩), ?_, fun ρ' _ h => ?_⟩) (fun b => ?_)
  · simp [execOp, ho, Instr.alloc, run_zero' hi hz, newVar, newRow]
  · have := RepV.ptr (R := R) nx zs.length 0 0 _ h
    simpa using this
  · have := repO_one hr (ofCs_one hc) b T
    simpa using this
theorem sound_box {T : TypeId} {p : Operand} {x : AV} (ho : o.op = .box T p) (hx : RepV ρ R x (a.eval p)) (hone : x.cells.all AV.one = true) : Sound P o a ρ R H nx (aNew x.cells.length [x.cells] (.ptr nx x.cells.length 0 0) nx) := by
  have hr := RepL.cells hx
  refine sound_new (O := .cells (a.eval p).cells T) (a.eval p).cells.size 1 (fun w => ⟨.pointer (some ⟨w.heap.size, 0, none⟩), ?_, fun ρ' _ h => ?_⟩) (fun b => ?_)
  · simp [execOp, ho, Instr.box, newVar, newRow]
  · have := RepV.ptr (R := R) nx x.cells.length 0 0 _ h
    simpa using this
  · have := repO_one hr (List.all_eq_true.1 hone) b T
    simpa using this

/-- parts put into cells -/
theorem foldl_putC : ∀ (vs : List Value) (c : Array Value) (off k : Nat), (vs.zipIdx k).foldl (fun cs p => cs.setIfInBounds (off + p.2) p.1) c = putC c (off + k) vs
  | [], _, _, _ => rfl
  | v :: vs, c, off, k => by
    simp only [List.zipIdx_cons, List.foldl_cons, putC]
    rw [foldl_putC vs _ off (k + 1), show off + (k + 1) = off + k + 1 by omega]
theorem RepL.putL {xs ys : List AV} {vs us : List Value} (h : RepL ρ R xs vs) (h' : RepL ρ R ys us) (off : Nat) (hle : off + ys.length ≤ xs.length) : RepL ρ R (putL xs off ys) (putC vs.toArray off us).toList := by
  have h1 := h.1
  have h2 := h'.1
  refine ⟨by simp [putC_size, putL_len hle, h1], fun k x hk => ?_⟩
  rw [putL_get hle] at hk
  simp only [Array.getElem?_toList, putC_get]
  by_cases hc : off ≤ k ∧ k < off + ys.length
  · rw [if_pos hc] at hk
    rw [if_pos ⟨hc.1, by omega, by simp; omega⟩]
    exact h'.2 _ x hk
  · rw [if_neg hc] at hk
    rw [if_neg (by omega)]
    simpa using h.2 k x hk
theorem fill_ok : ∀ (parts : List (Nat × Value)) (place : Nat → Option (Nat × Nat)) (ps : List (Nat × Nat)) (xs zs cs : List AV) (zv : List Value), fillA zs ps xs = some cs → parts.length = ps.length → (∀ (k : Nat) p q, parts[k]? = some p → ps[k]? = some q → place p.1 = some q) →
    RepL ρ R xs (parts.map (·.2)) → RepL ρ R zs zv → ∃ vs : List Value, Instr.fill place zv.toArray parts = some vs.toArray ∧ RepL ρ R cs vs
  | [], place, ps, xs, zs, cs, zv, hf, hl, _, hx, hz => by
    have : ps = [] := List.length_eq_zero_iff.1 hl.symm
    subst this
    have : xs = [] := List.length_eq_zero_iff.1 (by simpa using hx.1.symm)
    subst this
    simp only [fillA, Option.some.injEq] at hf
    subst hf
    exact ⟨zv, rfl, hz⟩
  | (n, v) :: parts, place, ps, xs, zs, cs, zv, hf, hl, hp, hx, hz => by
    cases ps with
    | nil => simp at hl
    | cons q ps =>
      obtain ⟨off, size⟩ := q
      cases xs with
      | nil => have := hx.1; simp at this
      | cons x xs =>
        simp only [fillA] at hf
        split at hf
        · rename_i hc
          obtain ⟨u, us, he, hu, hus⟩ := RepL.head hx
          simp only [List.map_cons, List.cons.injEq] at he
          obtain ⟨rfl, rfl⟩ := he
          have h0 := hp 0 (n, v) (off, size) rfl rfl
          simp only at h0
          have hcl := RepL.cells hu
          have hput := hz.putL hcl off (by omega)
          obtain ⟨vs, h1, h2⟩ := fill_ok parts place ps xs _ cs _ hf (by simpa using hl) (fun k p q hk hq => hp (k + 1) p q (by simpa using hk) (by simpa using hq)) hus hput
          refine ⟨vs, ?_, h2⟩
          have e1 := hcl.1
          simp only [Array.length_toList] at e1
          have e2 := hz.1
          have hb : (v.cells.size ≠ size || decide (off + v.cells.size > zv.toArray.size)) = false := by simp; omega
          simp only [Instr.fill, h0, hb, Bool.false_eq_true, if_false]
          rw [← h1]
          congr 1
          have := foldl_putC v.cells.toList zv.toArray off 0
          simp only [Nat.add_zero] at this
          rw [← Array.foldl_toList]
          simpa using this
        · cases hf
theorem run_mapM {α β : Type} (w : World) (f : α → Sem β) (g : α → β) (xs : Array α) (h : ∀ x ∈ xs, (f x).run P w = .ok (g x) w) : (xs.mapM f).run P w = .ok (xs.map g) w := by
  have key : ∀ l : List α, (∀ x ∈ l, (f x).run P w = .ok (g x) w) → (l.mapM f).run P w = .ok (l.map g) w := by
    intro l
    induction l with
    | nil => intro _; rfl
    | cons x l ih =>
      intro hl
      simp [List.mapM_cons, hl x (by simp), ih (fun y hy => hl y (by simp [hy]))]
  rw [Array.mapM_eq_mapM_toList, Sem.run_map, key xs.toList (fun x hx => h x (by simpa using hx))]
  simp only [Result.andThen]
  congr 1
  exact Array.ext' (by simp)
theorem sound_build {T : TypeId} {parts : Array (Nat × Operand)} {fs : Array Field} {i : TypeInfo} {z : Value} {zs xs cs : List AV} {ps : List (Nat × Nat)} (ho : o.op = .build T parts) (hd : P.underlying T = some (.struct fs)) (hi : P.info? T = some i) (hz : i.zero = some z)
    (hfs : ∀ f ∈ fs, ∃ i, P.info? f.type = some i) (hc : ofCs z.cells.toList = some zs) (hpl : parts.size = ps.length) (hp : ∀ (k : Nat) p q, parts[k]? = some p → ps[k]? = some q → ∃ f, fs[p.1]? = some f ∧ q = (f.offset, P.cellsOf f.type))
    (hx : RepL ρ R xs ((parts.map (fun p => a.eval p.2)).toList)) (h : fillA zs ps xs = some cs) : Sound P o a ρ R H nx (.pure (.agg cs)) := by
  have hm : ∀ w, (fs.mapM fun (f : Field) => do pure (f.offset, ← sizeOf f.type)).run P w = .ok (fs.map fun (f : Field) => (f.offset, P.cellsOf f.type)) w := by
    intro w
    refine run_mapM w _ _ fs fun f hf => ?_
    obtain ⟨j, hj⟩ := hfs f hf
    simp [run_sizeOf' hj, Program.cellsOf, hj]
  obtain ⟨vs, h1, h2⟩ := fill_ok (ρ := ρ) (R := R) (parts.map fun p => (p.1, a.eval p.2)).toList (fun k => (fs.map fun (f : Field) => (f.offset, P.cellsOf f.type))[k]?) ps xs zs cs z.cells.toList h (by simpa using hpl) (fun k p q hk hq => by
      simp only [Array.toList_map, List.getElem?_map, Option.map_eq_some_iff] at hk
      obtain ⟨p', hp', rfl⟩ := hk
      obtain ⟨f, hf, rfl⟩ := hp k p' q (by simpa using hp') hq
      simp [hf]) (by simpa [Function.comp_def] using hx) (rep_ofCs hc)
  refine sound_pure (v := .agg vs.toArray) (fun w => ?_) h2.agg
  simp only [Array.toArray_toList] at h1
  simp only [Array.toList_map, Array.getElem?_map] at h1
  have hm' := hm w
  simp only [bind_pure_comp] at hm'
  simp [execOp, ho, Instr.build, run_zero' hi hz, run_underlying' hd, hm', h1]
theorem sound_buildSlice {T E : TypeId} {len : Nat} {parts : Array (Nat × Operand)} {i : TypeInfo} {z : Value} {zs xs cs : List AV} {ps : List (Nat × Nat)} (ho : o.op = .buildSlice T len parts) (hd : P.underlying T = some (.slice E)) (hi : P.info? E = some i) (hz : i.zero = some z)
    (_hsz : z.cells.size = i.size) (hpos : 0 < i.size) (hlen : len * i.size ≤ 16777216) (hc : ofCs ((Array.range (len * i.size)).map (z.cells[· % z.cells.size]!)).toList = some zs) (hpl : parts.size = ps.length) (hp : ∀ (k : Nat) p q, parts[k]? = some p → ps[k]? = some q → q = (p.1 * i.size, i.size))
    (hx : RepL ρ R xs ((parts.map (fun p => a.eval p.2)).toList)) (h : fillA zs ps xs = some cs) (hone : cs.all AV.one = true) : Sound P o a ρ R H nx (aNew i.size (chunk i.size (cs.length / i.size) cs) (.sl nx i.size 0 (cs.length / i.size)) nx) := by
  have hzs := rep_ofCs (ρ := ρ) (R := R) hc
  obtain ⟨vs, h1, h2⟩ := fill_ok (ρ := ρ) (R := R) (parts.map fun p => (p.1, a.eval p.2)).toList (fun k => some (k * i.size, i.size)) ps xs zs cs _ h (by simpa using hpl) (fun k p q hk hq => by
      simp only [Array.toList_map, List.getElem?_map, Option.map_eq_some_iff] at hk
      obtain ⟨p', hp', rfl⟩ := hk
      rw [hp k p' q (by simpa using hp') hq]) (by simpa [Function.comp_def] using hx) hzs
  have hcl : cs.length = len * i.size := by
    have e : ∀ (ps : List (Nat × Nat)) (xs zs cs : List AV), fillA zs ps xs = some cs → cs.length = zs.length := by
      intro ps
      induction ps with
      | nil => intro xs zs cs h; cases xs <;> simp [fillA] at h; rw [h]
      | cons q ps ih =>
        intro xs zs cs h
        cases xs with
        | nil => simp [fillA] at h
        | cons x xs =>
          simp only [fillA] at h
          split at h
          · rename_i hc; rw [ih _ _ _ h, putL_len (by omega)]
          · cases h
    rw [e ps xs zs cs h]
    have := hzs.1
    simp at this
    omega
  have hn : cs.length / i.size = len := by rw [hcl]; exact Nat.mul_div_cancel _ hpos
  rw [hn]
  refine sound_new (O := .cells vs.toArray E) vs.length len (fun w => ⟨.slice (some ⟨w.heap.size, 0, none⟩) len len, ?_, fun ρ' _ h => ?_⟩) (fun b => repO_chunk h2 (List.all_eq_true.1 hone) i.size len (by omega) b E)
  · simp only [Array.toArray_toList] at h1
    simp only [Array.toList_map] at h1
    have hne : ¬ (2 ^ 24 < len * i.size) := by omega
    by_cases h0 : len * i.size = 0
    · rw [h0] at h1
      have e0 : ∀ f : Nat → Value, (Array.range 0).map f = #[] := fun f => by simp
      rw [e0] at h1
      simp [execOp, ho, Instr.buildSlice, run_underlying' hd, run_sizeOf' hi, h0, e0, h1, newRow]
    · simp [execOp, ho, Instr.buildSlice, run_underlying' hd, run_sizeOf' hi, hne, h0, run_zero' hi hz, h1, newRow]
  · have h3 := h2.1
    have := RepV.sl (R := R) nx i.size 0 len len _ h (Nat.le_refl _) (by simp; omega) (by simp)
    simpa using this
end
end Go.Proofs.Ytbngfbpegdcpkaa
