/- The abstract machine: what makes an object, what changes one, what only reads. -/
import Derived.Test.YtbngfbpegdcpkaaA2
import Derived.Laws.Cells
namespace Go.Proofs.Ytbngfbpegdcpkaa
set_option linter.unusedVariables false
set_option linter.unusedSimpArgs false

def _root_.Go.World.setB (w : World) (b : Nat) (O : Obj) : World := { w with heap := w.heap.setIfInBounds b O }
theorem setB_at {w : World} {b : Nat} {O' : Obj} (h : w.heap[b]? = some O') (O : Obj) : (w.setB b O).heap[b]? = some O := by
  have := (Array.getElem?_eq_some_iff.1 h).1
  simp [World.setB, this]
theorem setB_other (w : World) {b c : Nat} (O : Obj) (h : c ≠ b) : (w.setB b O).heap[c]? = w.heap[c]? := by
  simp [World.setB, Ne.symm h]
theorem setB_size (w : World) (b : Nat) (O : Obj) : (w.setB b O).heap.size = w.heap.size := by simp [World.setB]
theorem alloc_at (w : World) (O : Obj) : (w.alloc O).heap[w.heap.size]? = some O := by show (w.heap.push O)[w.heap.size]? = _; simp
theorem alloc_other (w : World) (O : Obj) {b : Nat} (h : b ≠ w.heap.size) : (w.alloc O).heap[b]? = w.heap[b]? := by
  show (w.heap.push O)[b]? = _
  simp [Array.getElem?_push, h]
theorem heap_lt {w : World} {b : Nat} {O : Obj} (h : w.heap[b]? = some O) : b < w.heap.size := (Array.getElem?_eq_some_iff.1 h).1

/-- a new object -/
theorem fut_new {H : Heap} {ρ : Locs} {R : Imm} {w : World} (hR : Rep H ρ R w) {W : Lab → Prop} {nx : Lab} (hfr : ρ nx = none) (hn : W nx) {O : Obj} {o : AO} {L : Loc} (hb : L.blk = w.heap.size)
    (ho : RepO ρ R L o O) : Fut H ρ R w W (fun l => if l = nx then some L else ρ l) R (w.alloc O) ∧ Rep (upd [(nx, some o)] H) (fun l => if l = nx then some L else ρ l) R (w.alloc O) := by
  have hext : Ext ρ (fun l => if l = nx then some L else ρ l) R R := ⟨fun l K hl => by
    have : l ≠ nx := fun e => by subst e; rw [hfr] at hl; cases hl
    simp [this, hl], fun _ _ h => h⟩
  constructor
  · refine ⟨hext, fun l K hl => ?_, fun _ _ h => .inl h, rfl, rfl, rfl, by simp, fun b hb' _ => alloc_other _ _ (by omega)⟩
    split at hl
    · cases hl; rename_i e; subst e; exact .inr ⟨hn, .inl (by omega)⟩
    · exact .inl hl
  · have hHn : H nx = none := by
      cases h : H nx with
      | none => rfl
      | some o' => obtain ⟨L', O', h1, _⟩ := hR.own nx o' h; rw [hfr] at h1; cases h1
    have old : ∀ l o' K, l ≠ nx → H l = some o' → ρ l = some K → K.blk < w.heap.size := fun l o' K _ h h' => hR.lt h h'
    refine ⟨fun l o' hl => ?_, fun l l' o1 o2 L1 L2 h1 h2 h3 h4 h5 => ?_, fun l o' K hl hK => ?_, fun b O' h => ?_⟩
    · simp only [upd] at hl
      split at hl
      · cases hl; rename_i e; subst e
        exact ⟨L, O, by simp, by rw [hb]; exact alloc_at _ _, ho.mono hext⟩
      · rename_i hne
        obtain ⟨K, O', h1, h2, h3⟩ := hR.own l o' hl
        exact ⟨K, O', by simp [hne, h1], by rw [alloc_other _ _ (Nat.ne_of_lt (heap_lt h2))]; exact h2, h3.mono hext⟩
    · simp only [upd] at h1 h2
      by_cases e1 : l = nx <;> by_cases e2 : l' = nx
      · rw [e1, e2]
      · simp only [e1, if_true] at h3; cases h3
        simp only [e2, if_false] at h2 h4
        have := old l' o2 L2 e2 h2 h4; omega
      · simp only [e2, if_true] at h4; cases h4
        simp only [e1, if_false] at h1 h3
        have := old l o1 L1 e1 h1 h3; omega
      · simp only [e1, e2, if_false] at h1 h2 h3 h4
        exact hR.sep l l' o1 o2 L1 L2 h1 h2 h3 h4 h5
    · simp only [upd] at hl
      by_cases e1 : l = nx
      · simp only [e1, if_true] at hK; cases hK
        cases h : R L.blk with
        | none => rfl
        | some O' => have := heap_lt (hR.imm _ _ h); omega
      · simp only [e1, if_false] at hl hK
        exact hR.dis l o' K hl hK
    · have h1 := hR.imm b O' h
      rw [alloc_other _ _ (Nat.ne_of_lt (heap_lt h1))]; exact h1

/-- an object that changes -/
theorem fut_upd {H : Heap} {ρ : Locs} {R : Imm} {w : World} (hR : Rep H ρ R w) {l : Lab} {W : Lab → Prop} {o o' : AO} {L : Loc} {O O' : Obj} (hl : H l = some o) (hL : ρ l = some L) (hO : w.heap[L.blk]? = some O) (ho : RepO ρ R L o' O') :
    Fut H ρ R w W ρ R (w.setB L.blk O') ∧ Rep (upd [(l, some o')] H) ρ R (w.setB L.blk O') := by
  constructor
  · exact ⟨.refl _ _, fun _ _ h => .inl h, fun _ _ h => .inl h, rfl, rfl, rfl, by rw [setB_size]; exact Nat.le_refl _, fun b _ hno => setB_other _ _ (fun e => hno l o L hl hL e.symm)⟩
  · refine ⟨fun k o2 hk => ?_, fun k k' o1 o2 L1 L2 h1 h2 h3 h4 h5 => ?_, fun k o2 K hk hK => ?_, fun b O2 h => ?_⟩
    · simp only [upd] at hk
      split at hk
      · cases hk; rename_i e; subst e
        exact ⟨L, O', hL, setB_at hO O', ho⟩
      · rename_i hne
        obtain ⟨K, O2, h1, h2, h3⟩ := hR.own k o2 hk
        refine ⟨K, O2, h1, ?_, h3⟩
        rw [setB_other _ _ (fun e => hne (hR.sep k l o2 o K L hk hl h1 hL e))]; exact h2
    · have g : ∀ k o1, upd [(l, some o')] H k = some o1 → ∃ o2, H k = some o2 := by
        intro k o1 h
        simp only [upd] at h
        split at h
        · rename_i e; subst e; exact ⟨o, hl⟩
        · exact ⟨o1, h⟩
      obtain ⟨p1, q1⟩ := g k o1 h1
      obtain ⟨p2, q2⟩ := g k' o2 h2
      exact hR.sep k k' p1 p2 L1 L2 q1 q2 h3 h4 h5
    · simp only [upd] at hk
      split at hk
      · rename_i e; subst e; rw [hL] at hK; cases hK; exact hR.dis k o L hl hL
      · exact hR.dis k o2 K hk hK
    · rw [setB_other _ _ (fun e => by rw [e] at h; rw [hR.dis l o L hl hL] at h; cases h)]
      exact hR.imm b O2 h

/-- a label that is let go -/
theorem Rep.drop {H G : Heap} {ρ : Locs} {R : Imm} {w : World} (h : Rep H ρ R w) (hG : ∀ l o, G l = some o → H l = some o) : Rep G ρ R w :=
  ⟨fun l o e => h.own l o (hG l o e), fun l l' o o' L L' e e' => h.sep l l' o o' L L' (hG l o e) (hG l' o' e'), fun l o L e => h.dis l o L (hG l o e), h.imm⟩

/-- what an operation of the abstract machine yields -/
structure Res where
  x : AV
  u : Chg
  foot : Option (List Lab)
def Res.pure (x : AV) : Res := ⟨x, [], some []⟩

/-- an operation's soundness -/
def Sound (P : Program) (o : Oper) (a : Act) (ρ : Locs) (R : Imm) (H : Heap) (q : Lab) (r : Res) : Prop :=
  (∀ l, r.u.has l → restr H r.foot l ≠ none ∨ Under q l) ∧ Does (opC P o a) (restr H r.foot) r.u (Under q) ρ R r.x
theorem opC_value {P : Program} {o : Oper} {a : Act} {w w' : World} {v : Value} {K : Value → World → Prop} (h : (execOp a.eval o).run P w = .ok (.value v) w') (hK : K v w') : opC P o a w K := by
  intro next Q hn
  unfold Oper.wp
  rw [h]
  exact hn v w' hK
theorem opC_skip {P : Program} {o : Oper} {a : Act} {w w' : World} {K : Value → World → Prop} (h : (execOp a.eval o).run P w = .ok .skip w') (hK : K undef w') : opC P o a w K := by
  intro next Q hn
  unfold Oper.wp
  rw [h]
  exact hn undef w' hK
theorem Under.self (q : Lab) : Under q q := ⟨[], rfl⟩
theorem not_has_nil (l : Lab) : ¬ Chg.has [] l := fun ⟨p, hp, _⟩ => by cases hp
theorem has_one {l k : Lab} {o : Option AO} (h : Chg.has [(k, o)] l) : l = k := by
  obtain ⟨p, hp, e⟩ := h
  simp at hp; subst hp; exact e.symm
theorem sound_pure {P : Program} {o : Oper} {a : Act} {ρ : Locs} {R : Imm} {H : Heap} {q : Lab} {x : AV} {v : Value} (h : ∀ w, (execOp a.eval o).run P w = .ok (.value v) w) (hx : RepV ρ R x v) : Sound P o a ρ R H q (.pure x) :=
  ⟨fun l hl => absurd hl (not_has_nil l), fun w hR _ => opC_value (h w) ⟨ρ, R, Fut.refl _ _ _ _ _, hx, hR⟩⟩
/-- what reads one object -/
theorem sound_read {P : Program} {o : Oper} {a : Act} {ρ : Locs} {R : Imm} {H : Heap} {q l : Lab} {x : AV} {ob : AO} (hl : H l = some ob)
    (h : ∀ w L O, w.heap[L.blk]? = some O → ρ l = some L → RepO ρ R L ob O → ∃ v, (execOp a.eval o).run P w = .ok (.value v) w ∧ RepV ρ R x v) : Sound P o a ρ R H q ⟨x, [], some [l]⟩ := by
  refine ⟨fun l hl => absurd hl (not_has_nil l), fun w hR _ => ?_⟩
  obtain ⟨L, O, h1, h2, h3⟩ := hR.own l ob (by simp [restr, hl])
  obtain ⟨v, hv, hx⟩ := h w L O h2 h1 h3
  exact opC_value hv ⟨ρ, R, Fut.refl _ _ _ _ _, hx, hR⟩
/-- what reads memory that nobody changes -/
theorem sound_imm {P : Program} {o : Oper} {a : Act} {ρ : Locs} {R : Imm} {H : Heap} {q : Lab} {x : AV}
    (h : ∀ w : World, (∀ b O, R b = some O → w.heap[b]? = some O) → ∃ v, (execOp a.eval o).run P w = .ok (.value v) w ∧ RepV ρ R x v) : Sound P o a ρ R H q (.pure x) := by
  refine ⟨fun l hl => absurd hl (not_has_nil l), fun w hR _ => ?_⟩
  obtain ⟨v, hv, hx⟩ := h w hR.imm
  exact opC_value hv ⟨ρ, R, Fut.refl _ _ _ _ _, hx, hR⟩
/-- what makes one object -/
theorem sound_new {P : Program} {o : Oper} {a : Act} {ρ : Locs} {R : Imm} {H : Heap} {nx : Lab} {x : AV} {ob : AO} {O : Obj} (top ext : Nat)
    (h : ∀ w, ∃ v, (execOp a.eval o).run P w = .ok (.value v) (w.alloc O) ∧ ∀ ρ', Ext ρ ρ' R R → ρ' nx = some ⟨w.heap.size, 0, top, ext⟩ → RepV ρ' R x v) (ho : ∀ b, RepO ρ R ⟨b, 0, top, ext⟩ ob O) : Sound P o a ρ R H nx ⟨x, [(nx, some ob)], some []⟩ := by
  refine ⟨fun l hl => .inr (by rw [has_one hl]; exact .self _), fun w hR hf => ?_⟩
  obtain ⟨v, hv, hx⟩ := h w
  obtain ⟨hF, hR'⟩ := fut_new hR (hf nx (Under.self _)) (Under.self nx) (O := O) (o := ob) (L := ⟨w.heap.size, 0, top, ext⟩) rfl (ho _)
  exact opC_value hv ⟨_, R, hF, hx _ hF.ext (by simp), hR'⟩
/-- what changes one object -/
theorem sound_upd {P : Program} {o : Oper} {a : Act} {ρ : Locs} {R : Imm} {H : Heap} {q l : Lab} {ob ob' : AO} (hl : H l = some ob)
    (h : ∀ w L O, w.heap[L.blk]? = some O → ρ l = some L → RepO ρ R L ob O → ∃ O', (execOp a.eval o).run P w = .ok .skip (w.setB L.blk O') ∧ RepO ρ R L ob' O') : Sound P o a ρ R H q ⟨.tuple [], [(l, some ob')], some [l]⟩ := by
  refine ⟨fun k hk => .inl (by rw [has_one hk]; simp [restr, hl]), fun w hR _ => ?_⟩
  obtain ⟨L, O, h1, h2, h3⟩ := hR.own l ob (by simp [restr, hl])
  obtain ⟨O', hv, ho⟩ := h w L O h2 h1 h3
  obtain ⟨hF, hR'⟩ := fut_upd (W := Under q) hR (show restr H (some [l]) l = some ob by simp [restr, hl]) h1 h2 ho
  exact opC_skip hv ⟨ρ, R, hF, .tuple [] #[] rfl (fun i x hx => by simp at hx), hR'⟩

/-- cells of a row -/
def AO.cells (o : AO) (i j n : Nat) : Option (List AV) := match o with
  | .rows _e rs => match rs[i]? with
    | some r => if j + n ≤ r.length then some ((r.drop j).take n) else none
    | none => none
  | _ => none
theorem cells_rows {e i j n : Nat} {rs : List (List AV)} {cs : List AV} (h : (AO.rows e rs).cells i j n = some cs) : cs.length = n ∧ ∀ (k : Nat) x, cs[k]? = some x → rowsGet rs i (j + k) = some x := by
  simp only [AO.cells] at h
  split at h
  · rename_i r hr
    split at h
    · rename_i hle
      cases h
      refine ⟨by simp; omega, fun k x hk => ?_⟩
      have hkn : k < n := by
        rcases Nat.lt_or_ge k n with h1 | h1
        · exact h1
        · rw [List.getElem?_eq_none (by simp; omega)] at hk; cases hk
      rw [List.getElem?_take, if_pos hkn, List.getElem?_drop] at hk
      simp [rowsGet, hr, hk]
    · cases h
  · cases h
theorem cell_at {w : World} {b : Nat} {c : Array Value} {T : TypeId} {fz : Nat × Nat} (h : w.heap[b]? = some (.cells c T fz)) (k : Nat) : w.cell? ⟨b, k, none⟩ = c[k]? := by simp [World.cell?, h]
theorem add_none (b o n : Nat) : (⟨b, o, none⟩ : Addr).add n = ⟨b, o + n, none⟩ := by
  unfold Addr.add; split <;> simp_all
/-- the cells that a row's part has in memory -/
theorem cells_mem {ρ : Locs} {R : Imm} {L : Loc} {ob : AO} {O : Obj} {i j n e : Nat} {cs : List AV} (ho : RepO ρ R L ob O) (hc : ob.cells i j n = some cs) (he : ∀ e' rs, ob = .rows e' rs → e' = e) {w : World} (hw : w.heap[L.blk]? = some O) :
    ∃ vs : List Value, vs.length = n ∧ (∀ k v, vs[k]? = some v → w.cell? ((⟨L.blk, L.off + (i * e + j), none⟩ : Addr).add k) = some v) ∧ ∀ (k : Nat) x, cs[k]? = some x → ∃ v, vs[k]? = some v ∧ RepV ρ R x v := by
  cases ob with
  | amap es bs ck => simp [AO.cells] at hc
  | bag es => simp [AO.cells] at hc
  | iter => simp [AO.cells] at hc
  | rows e' rs =>
    have := he e' rs rfl; subst this
    cases O <;> simp only [RepO] at ho
    rename_i c T fz
    obtain ⟨_, _, _, _, h5⟩ := ho
    obtain ⟨hlen, hget⟩ := cells_rows hc
    refine ⟨(List.range n).map (fun k => c.getD (L.off + (i * e' + j) + k) undef), by simp, fun k v hk => ?_, fun k x hk => ?_⟩
    · have hkn : k < n := by
        rcases Nat.lt_or_ge k n with h1 | h1
        · exact h1
        · rw [List.getElem?_eq_none (by simp; omega)] at hk; cases hk
      have hx : ∃ x, cs[k]? = some x := ⟨_, List.getElem?_eq_getElem (by omega)⟩
      obtain ⟨x, hx⟩ := hx
      obtain ⟨v', hv', _⟩ := h5 i (j + k) x (hget k x hx)
      simp only [List.getElem?_map, List.getElem?_range hkn, Option.map_some, Option.some.injEq] at hk
      subst hk
      rw [add_none, cell_at hw]
      rw [show L.off + (i * e' + j) + k = L.off + (i * e' + (j + k)) by omega]
      simp [Array.getD_eq_getD_getElem?, hv']
    · have hkn : k < n := by
        rcases Nat.lt_or_ge k n with h1 | h1
        · exact h1
        · rw [List.getElem?_eq_none (by omega)] at hk; cases hk
      obtain ⟨v', hv', hr⟩ := h5 i (j + k) x (hget k x hk)
      refine ⟨v', ?_, hr⟩
      simp only [List.getElem?_map, List.getElem?_range hkn, Option.map_some]
      rw [show L.off + (i * e' + j) + k = L.off + (i * e' + (j + k)) by omega]
      simp [Array.getD_eq_getD_getElem?, hv']
/-- the same of memory that nobody changes -/
theorem imm_mem {ρ : Locs} {R : Imm} {b o e i j n : Nat} {rows : List (List AV)} {c : Array Value} {T : TypeId} {fz : Nat × Nat} {g : Nat → Nat → Value} {cs : List AV} (hcs : (AO.rows e rows).cells i j n = some cs)
    (hc : ∀ i j x, rowsGet rows i j = some x → c[o + (i * e + j)]? = some (g i j)) (hr : ∀ i j x, rowsGet rows i j = some x → RepV ρ R x (g i j)) {w : World} (hw : w.heap[b]? = some (.cells c T fz)) :
    ∃ vs : List Value, vs.length = n ∧ (∀ k v, vs[k]? = some v → w.cell? ((⟨b, o + (i * e + j), none⟩ : Addr).add k) = some v) ∧ ∀ (k : Nat) x, cs[k]? = some x → ∃ v, vs[k]? = some v ∧ RepV ρ R x v := by
  obtain ⟨hlen, hget⟩ := cells_rows hcs
  refine ⟨(List.range n).map (fun k => g i (j + k)), by simp, fun k v hk => ?_, fun k x hk => ?_⟩
  · have hkn : k < n := by
      rcases Nat.lt_or_ge k n with h1 | h1
      · exact h1
      · rw [List.getElem?_eq_none (by simp; omega)] at hk; cases hk
    obtain ⟨x, hx⟩ : ∃ x, cs[k]? = some x := ⟨_, List.getElem?_eq_getElem (by omega)⟩
    have := hc i (j + k) x (hget k x hx)
    simp only [List.getElem?_map, List.getElem?_range hkn, Option.map_some, Option.some.injEq] at hk
    subst hk
    rw [add_none, cell_at hw, show o + (i * e + j) + k = o + (i * e + (j + k)) by omega]
    exact this
  · have hkn : k < n := by
      rcases Nat.lt_or_ge k n with h1 | h1
      · exact h1
      · rw [List.getElem?_eq_none (by omega)] at hk; cases hk
    exact ⟨g i (j + k), by simp [List.getElem?_map, List.getElem?_range hkn], hr i (j + k) x (hget k x hk)⟩
theorem RepV.agg_list {ρ : Locs} {R : Imm} {cs : List AV} {vs : List Value} (hl : vs.length = cs.length) (h : ∀ (k : Nat) x, cs[k]? = some x → ∃ v, vs[k]? = some v ∧ RepV ρ R x v) : RepV ρ R (.agg cs) (.agg vs.toArray) := by
  refine .agg cs vs.toArray (by simp [hl]) fun i x hx => ?_
  obtain ⟨v, hv, hr⟩ := h i x hx
  simpa [Array.getD_eq_getD_getElem?, hv] using hr
end Go.Proofs.Ytbngfbpegdcpkaa
