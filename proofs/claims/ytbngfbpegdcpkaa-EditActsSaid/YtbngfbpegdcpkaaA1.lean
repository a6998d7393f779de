/- An abstract machine over a heap of named objects: what its values and objects are in memory. -/
import Derived.Laws.Sem
import Derived.Laws.World
import Derived.Calls
import Derived.Orders
namespace Go.Proofs.Ytbngfbpegdcpkaa
set_option linter.unusedVariables false
set_option linter.unusedSimpArgs false

/-- labels: paths -/
abbrev Lab := List Nat
/-- values: memory of the program's own by a label, memory that nobody changes by what it holds -/
inductive AV where
  | bool (b : Bool)
  | int (k : IntKind) (n : Int)
  | str (s : ByteArray)
  | nilp
  | ptr (l : Lab) (e i j : Nat)
  | iptr (e : Nat) (rows : List (List AV)) (i j : Nat)
  | nils
  | sl (l : Lab) (e off len : Nat)
  | sl0
  | isl (e : Nat) (rows : List (List AV))
  | nilm
  | map (l : Lab)
  | nilf
  | fn (f : Fn) (first captured : List AV)
  | agg (cs : List AV)
  | tuple (cs : List AV)

def AV.one : AV → Bool
  | .agg _ | .tuple _ => false
  | _ => true
/-- a row of single cells -/
def RowOk (e : Nat) (r : List AV) : Prop := r.length = e ∧ ∀ x ∈ r, x.one = true
/-- a label's place: its block, where it begins there, how many cells the block has, how many rows are known -/
structure Loc where
  blk : Nat
  off : Nat
  top : Nat
  ext : Nat
abbrev Locs := Lab → Option Loc
abbrev Imm := Nat → Option Obj

def rowsGet (rs : List (List AV)) (i j : Nat) : Option AV := (rs[i]?).bind (·[j]?)

/-- how a value reads: ρ tells where labels lie, R which blocks nobody changes -/
inductive RepV (ρ : Locs) (R : Imm) : AV → Value → Prop
  | bool (b : Bool) : RepV ρ R (.bool b) (.bool b)
  | int (k : IntKind) (n : Int) : RepV ρ R (.int k n) (.int k n)
  | str (s : ByteArray) : RepV ρ R (.str s) (.string s)
  | nilp : RepV ρ R .nilp (.pointer none)
  | ptr (l : Lab) (e i j : Nat) (L : Loc) (h : ρ l = some L) : RepV ρ R (.ptr l e i j) (.pointer (some ⟨L.blk, L.off + (i * e + j), none⟩))
  | iptr (e : Nat) (rows : List (List AV)) (i j b o : Nat) (c : Array Value) (T : TypeId) (fz : Nat × Nat) (g : Nat → Nat → Value)
      (hb : R b = some (.cells c T fz)) (hc : ∀ i j x, rowsGet rows i j = some x → c[o + (i * e + j)]? = some (g i j))
      (hr : ∀ i j x, rowsGet rows i j = some x → RepV ρ R x (g i j)) : RepV ρ R (.iptr e rows i j) (.pointer (some ⟨b, o + (i * e + j), none⟩))
  | nils : RepV ρ R .nils (.slice none 0 0)
  | sl (l : Lab) (e off len cap : Nat) (L : Loc) (h : ρ l = some L) (hl : len ≤ cap) (ht : L.off + (off + cap) * e ≤ L.top) (hx : L.ext ≤ off + cap) : RepV ρ R (.sl l e off len) (.slice (some ⟨L.blk, L.off + off * e, none⟩) len cap)
  | slz (l : Lab) (e off : Nat) (a : Addr) (L : Loc) (h : ρ l = some L) (hx : L.ext ≤ off) : RepV ρ R (.sl l e off 0) (.slice (some a) 0 0)
  | sl0 (a : Option Addr) : RepV ρ R .sl0 (.slice a 0 0)
  | isl0 (a : Option Addr) (e cap : Nat) (h : a = none → cap = 0) : RepV ρ R (.isl e []) (.slice a 0 cap)
  | isl (e : Nat) (rows : List (List AV)) (b o cap : Nat) (c : Array Value) (T : TypeId) (fz : Nat × Nat) (g : Nat → Nat → Value)
      (hl : rows.length ≤ cap) (hw : ∀ r ∈ rows, RowOk e r) (hb : R b = some (.cells c T fz)) (hc : ∀ i j x, rowsGet rows i j = some x → c[o + (i * e + j)]? = some (g i j))
      (hr : ∀ i j x, rowsGet rows i j = some x → RepV ρ R x (g i j)) : RepV ρ R (.isl e rows) (.slice (some ⟨b, o, none⟩) rows.length cap)
  | nilm : RepV ρ R .nilm (.map none)
  | map (l : Lab) (L : Loc) (h : ρ l = some L) : RepV ρ R (.map l) (.map (some L.blk))
  | nilf : RepV ρ R .nilf .nilFunc
  | fn (f : Fn) (first captured : List AV) (F C : Array Value) (hF : F.size = first.length) (hC : C.size = captured.length)
      (h1 : ∀ i x, first[i]? = some x → RepV ρ R x (F.getD i undef)) (h2 : ∀ i x, captured[i]? = some x → RepV ρ R x (C.getD i undef)) : RepV ρ R (.fn f first captured) (.func f F C)
  | agg (cs : List AV) (C : Array Value) (hC : C.size = cs.length) (h : ∀ i x, cs[i]? = some x → RepV ρ R x (C.getD i undef)) : RepV ρ R (.agg cs) (.agg C)
  | tuple (cs : List AV) (C : Array Value) (hC : C.size = cs.length) (h : ∀ i x, cs[i]? = some x → RepV ρ R x (C.getD i undef)) : RepV ρ R (.tuple cs) (.tuple C)

/-- objects: rows of e cells each; a map's entries in the order in which they came -/
inductive AO where
  | rows (e : Nat) (rs : List (List AV))
  | amap (es : List (AV × AV)) (bs : List Nat) (ck : Nat)
  | bag (es : List (AV × AV))
  | iter (m : Option Lab) (since : Nat) (seen : List Nat) (st : Nat)

def RepO (ρ : Locs) (R : Imm) (L : Loc) : AO → Obj → Prop
  | .rows e rs, .cells c _ fz => fz = (0, 0) ∧ c.size = L.top ∧ (∀ r ∈ rs, RowOk e r) ∧ (rs.length = L.ext ∧ L.off + rs.length * e ≤ L.top) ∧
      ∀ i j x, rowsGet rs i j = some x → ∃ v, c[L.off + (i * e + j)]? = some v ∧ RepV ρ R x v
  | .amap es bs ck, .map ents clock => ents.size = es.length ∧ (ents.toList.map (·.born)).Nodup ∧ (∀ m ∈ ents, m.born < clock) ∧ (ents.toList.map (·.born) = bs ∧ clock = ck) ∧
      ∀ (i : Nat) p m, es[i]? = some p → ents[i]? = some m → RepV ρ R p.1 m.key ∧ RepV ρ R p.2 m.val
  | .bag es, .map ents clock => ∃ es' : List (AV × AV), es'.Perm es ∧ ents.size = es'.length ∧ (ents.toList.map (·.born)).Nodup ∧ (∀ m ∈ ents, m.born < clock) ∧
      ∀ (i : Nat) p m, es'[i]? = some p → ents[i]? = some m → RepV ρ R p.1 m.key ∧ RepV ρ R p.2 m.val
  | .iter m since seen st, .mapIter m' since' seen' st' => L.off = 0 ∧ since' = since ∧ seen'.toList = seen ∧ st' = st ∧ ((m = none ∧ m' = none) ∨ ∃ l M, m = some l ∧ ρ l = some M ∧ m' = some M.blk)
  | _, _ => False

abbrev Heap := Lab → Option AO
/-- a heap and a world -/
structure Rep (H : Heap) (ρ : Locs) (R : Imm) (w : World) : Prop where
  own : ∀ l o, H l = some o → ∃ L O, ρ l = some L ∧ w.heap[L.blk]? = some O ∧ RepO ρ R L o O
  sep : ∀ l l' o o' L L', H l = some o → H l' = some o' → ρ l = some L → ρ l' = some L' → L.blk = L'.blk → l = l'
  dis : ∀ l o L, H l = some o → ρ l = some L → R L.blk = none
  imm : ∀ b O, R b = some O → w.heap[b]? = some O

structure Ext (ρ ρ' : Locs) (R R' : Imm) : Prop where
  loc : ∀ l L, ρ l = some L → ρ' l = some L
  imm : ∀ b O, R b = some O → R' b = some O
theorem Ext.refl (ρ : Locs) (R : Imm) : Ext ρ ρ R R := ⟨fun _ _ h => h, fun _ _ h => h⟩
theorem Ext.trans {ρ ρ' ρ'' : Locs} {R R' R'' : Imm} (h : Ext ρ ρ' R R') (k : Ext ρ' ρ'' R' R'') : Ext ρ ρ'' R R'' := ⟨fun _ _ e => k.loc _ _ (h.loc _ _ e), fun _ _ e => k.imm _ _ (h.imm _ _ e)⟩

theorem RepV.mono {ρ ρ' : Locs} {R R' : Imm} {x : AV} {v : Value} (h : RepV ρ R x v) (e : Ext ρ ρ' R R') : RepV ρ' R' x v := by
  induction h with
  | bool b => exact .bool b
  | int k n => exact .int k n
  | str s => exact .str s
  | nilp => exact .nilp
  | ptr l e' i j L h => exact .ptr l e' i j L (e.loc _ _ h)
  | iptr e' rows i j b o c T fz g hb hc hr ih => exact .iptr e' rows i j b o c T fz g (e.imm _ _ hb) hc ih
  | nils => exact .nils
  | sl l e' off len cap L h hl ht hx => exact .sl l e' off len cap L (e.loc _ _ h) hl ht hx
  | slz l e2 off a L h hx => exact .slz l e2 off a L (e.loc _ _ h) hx
  | sl0 a => exact .sl0 a
  | isl0 a e' cap h => exact .isl0 a e' cap h
  | isl e' rows b o cap c T fz g hl hw hb hc hr ih => exact .isl e' rows b o cap c T fz g hl hw (e.imm _ _ hb) hc ih
  | nilm => exact .nilm
  | map l L h => exact .map l L (e.loc _ _ h)
  | nilf => exact .nilf
  | fn f first captured F C hF hC h1 h2 ih1 ih2 => exact .fn f first captured F C hF hC ih1 ih2
  | agg cs C hC h ih => exact .agg cs C hC ih
  | tuple cs C hC h ih => exact .tuple cs C hC ih
theorem RepO.mono {ρ ρ' : Locs} {R R' : Imm} {L : Loc} {o : AO} {O : Obj} (h : RepO ρ R L o O) (e : Ext ρ ρ' R R') : RepO ρ' R' L o O := by
  cases o <;> cases O <;> simp only [RepO] at h ⊢
  · obtain ⟨h1, h2, h3, h4, h5⟩ := h
    refine ⟨h1, h2, h3, h4, fun i j x hx => ?_⟩
    obtain ⟨v, hv, hr⟩ := h5 i j x hx
    exact ⟨v, hv, hr.mono e⟩
  · obtain ⟨h1, h2, h3, h5, h4⟩ := h
    exact ⟨h1, h2, h3, h5, fun i p m hp hm => ⟨(h4 i p m hp hm).1.mono e, (h4 i p m hp hm).2.mono e⟩⟩
  · obtain ⟨es', h0, h1, h2, h3, h4⟩ := h
    exact ⟨es', h0, h1, h2, h3, fun i p m hp hm => ⟨(h4 i p m hp hm).1.mono e, (h4 i p m hp hm).2.mono e⟩⟩
  · obtain ⟨h0, h1, h2, h3, h4⟩ := h
    refine ⟨h0, h1, h2, h3, ?_⟩
    rcases h4 with h4 | ⟨l, M, k1, k2, k3⟩
    · exact .inl h4
    · exact .inr ⟨l, M, k1, e.loc _ _ k2, k3⟩

/-- changes of a heap -/
abbrev Chg := List (Lab × Option AO)
def upd : Chg → Heap → Heap
  | [], H => H
  | (l, o) :: u, H => fun k => if k = l then o else upd u H k
def Chg.has (u : Chg) (l : Lab) : Prop := ∃ p ∈ u, p.1 = l
theorem upd_not {u : Chg} {H : Heap} {l : Lab} (h : ¬ u.has l) : upd u H l = H l := by
  induction u with
  | nil => rfl
  | cons p u ih =>
    obtain ⟨k, o⟩ := p
    simp only [upd]
    rw [if_neg (fun e => h ⟨(k, o), by simp, e.symm⟩)]
    exact ih (fun ⟨q, hq, e⟩ => h ⟨q, by simp [hq], e⟩)
theorem upd_has {u : Chg} {H H' : Heap} {l : Lab} (h : u.has l) : upd u H l = upd u H' l := by
  induction u with
  | nil => obtain ⟨p, hp, _⟩ := h; cases hp
  | cons p u ih =>
    obtain ⟨k, o⟩ := p
    simp only [upd]
    by_cases e : l = k
    · rw [if_pos e, if_pos e]
    · rw [if_neg e, if_neg e]
      obtain ⟨q, hq, e'⟩ := h
      rcases List.mem_cons.1 hq with rfl | hq
      · exact absurd e'.symm e
      · exact ih ⟨q, hq, e'⟩

/-- what becomes of labels, blocks and the world when something is done that touches the heap's blocks alone, and whose new labels are of W -/
structure Fut (H : Heap) (ρ : Locs) (R : Imm) (w : World) (W : Lab → Prop) (ρ' : Locs) (R' : Imm) (w' : World) : Prop where
  ext : Ext ρ ρ' R R'
  win : ∀ l L, ρ' l = some L → ρ l = some L ∨ (W l ∧ (w.heap.size ≤ L.blk ∨ ∃ k o K, H k = some o ∧ ρ k = some K ∧ K.blk = L.blk))
  new : ∀ b O, R' b = some O → R b = some O ∨ w.heap.size ≤ b ∨ ∃ k o K, H k = some o ∧ ρ k = some K ∧ K.blk = b
  os : w'.os = w.os
  tape : w'.tape = w.tape
  output : w'.output = w.output
  size : w.heap.size ≤ w'.heap.size
  frame : ∀ b, b < w.heap.size → (∀ k o K, H k = some o → ρ k = some K → K.blk ≠ b) → w'.heap[b]? = w.heap[b]?

/-- C, a computation, over the heap H yields x and the changes u, its new labels of W -/
def Does (C : World → (Value → World → Prop) → Prop) (H : Heap) (u : Chg) (W : Lab → Prop) (ρ : Locs) (R : Imm) (x : AV) : Prop :=
  ∀ w, Rep H ρ R w → (∀ l, W l → ρ l = none) → C w (fun v w' => ∃ ρ' R', Fut H ρ R w W ρ' R' w' ∧ RepV ρ' R' x v ∧ Rep (upd u H) ρ' R' w')

theorem Rep.lt {H : Heap} {ρ : Locs} {R : Imm} {w : World} (h : Rep H ρ R w) {l : Lab} {o : AO} {L : Loc} (hl : H l = some o) (hL : ρ l = some L) : L.blk < w.heap.size := by
  obtain ⟨L', O, h1, h2, _⟩ := h.own l o hl
  rw [hL] at h1; cases h1
  exact (Array.getElem?_eq_some_iff.1 h2).1

/-- THE FRAME: what is done over a part of the heap is done over all of it. -/
theorem Does.frame {C : World → (Value → World → Prop) → Prop} {H G : Heap} {u : Chg} {W : Lab → Prop} {ρ : Locs} {R : Imm} {x : AV} (hC : ∀ w K K', (∀ v w', K v w' → K' v w') → C w K → C w K')
    (h : Does C H u W ρ R x) (hsub : ∀ l o, H l = some o → G l = some o) (hu : ∀ l, u.has l → H l ≠ none ∨ W l) : Does C G u W ρ R x := by
  intro w hG hfresh
  have hH : Rep H ρ R w := ⟨fun l o e => hG.own l o (hsub l o e), fun l l' o o' L L' e e' => hG.sep l l' o o' L L' (hsub l o e) (hsub l' o' e'), fun l o L e => hG.dis l o L (hsub l o e), hG.imm⟩
  refine hC w _ _ ?_ (h w hH hfresh)
  rintro v w' ⟨ρ', R', hF, hx, hR⟩
  -- labels of G that are not H's: their blocks are as they were
  have key : ∀ l o L, G l = some o → ¬ u.has l → H l = none → ρ l = some L → L.blk < w.heap.size ∧ (∀ k o K, H k = some o → ρ k = some K → K.blk ≠ L.blk) := by
    intro l o L hl _ hn hL
    refine ⟨hG.lt hl hL, fun k o' K hk hK e => ?_⟩
    have := hG.sep k l o' o K L (hsub k o' hk) hl hK hL e
    subst this
    rw [hk] at hn; cases hn
  have hnot : ∀ l, G l ≠ none → H l = none → ¬ u.has l := by
    intro l hl hn hul
    rcases hu l hul with h1 | h1
    · exact h1 hn
    · obtain ⟨o, ho⟩ := Option.ne_none_iff_exists'.1 hl
      obtain ⟨L, O, h2, _⟩ := hG.own l o ho
      rw [hfresh l h1] at h2; cases h2
  have hval : ∀ l o, upd u G l = some o → (upd u H l = some o) ∨ (G l = some o ∧ H l = none ∧ ¬ u.has l) := by
    intro l o e
    by_cases hul : u.has l
    · rw [upd_has (H' := H) hul] at e; exact .inl e
    · rw [upd_not hul] at e
      by_cases hn : H l = none
      · exact .inr ⟨e, hn, hul⟩
      · obtain ⟨o', ho'⟩ := Option.ne_none_iff_exists'.1 hn
        rw [hsub l o' ho'] at e
        rw [upd_not hul, ho']; exact .inl e
  refine ⟨ρ', R', ?_, hx, ?_⟩
  · refine { ext := hF.ext, win := ?_, new := ?_, os := hF.os, tape := hF.tape, output := hF.output, size := hF.size, frame := ?_ }
    · intro l L e
      rcases hF.win l L e with h1 | ⟨h2, h3 | ⟨k, o, K, h4, h5, h6⟩⟩
      · exact .inl h1
      · exact .inr ⟨h2, .inl h3⟩
      · exact .inr ⟨h2, .inr ⟨k, o, K, hsub k o h4, h5, h6⟩⟩
    · intro b O e
      rcases hF.new b O e with h1 | h1 | ⟨k, o, K, h4, h5, h6⟩
      · exact .inl h1
      · exact .inr (.inl h1)
      · exact .inr (.inr ⟨k, o, K, hsub k o h4, h5, h6⟩)
    · intro b hb hno
      exact hF.frame b hb (fun k o K hk => hno k o K (hsub k o hk))
  · refine { own := ?_, sep := ?_, dis := ?_, imm := hR.imm }
    · intro l o e
      rcases hval l o e with e | ⟨e, hn, hul⟩
      · exact hR.own l o e
      · obtain ⟨L, O, h1, h2, h3⟩ := hG.own l o e
        obtain ⟨k1, k2⟩ := key l o L e hul hn h1
        exact ⟨L, O, hF.ext.loc _ _ h1, (hF.frame L.blk k1 k2).trans h2, h3.mono hF.ext⟩
    · intro l l' o o' L L' e e' hL hL' hb
      -- a label that is none of H's, against any other
      have mix : ∀ l l' o o' L L', G l = some o → H l = none → ¬ u.has l → upd u H l' = some o' → ρ' l = some L → ρ' l' = some L' → L.blk = L'.blk → l = l' := by
        intro l l' o o' L L' e hn hul e' hL hL' hb
        obtain ⟨L0, O, h1, h2, h3⟩ := hG.own l o e
        obtain ⟨k1, k2⟩ := key l o L0 e hul hn h1
        have : ρ' l = some L0 := hF.ext.loc _ _ h1
        rw [hL] at this; cases this
        rcases hF.win l' L' hL' with h4 | ⟨_, h5 | ⟨k, o2, K, h6, h7, h8⟩⟩
        · by_cases hu' : u.has l'
          · by_cases hH' : H l' = none
            · rcases hu l' hu' with h6 | h6
              · exact absurd hH' h6
              · rw [hfresh l' h6] at h4; cases h4
            · obtain ⟨o2, h6⟩ := Option.ne_none_iff_exists'.1 hH'
              exact absurd hb.symm (k2 l' o2 L' h6 h4)
          · rw [upd_not hu'] at e'
            exact absurd hb.symm (k2 l' o' L' e' h4)
        · omega
        · exact absurd (h8.trans hb.symm) (k2 k o2 K h6 h7)
      rcases hval l o e with e1 | ⟨e1, hn1, hul1⟩
      · rcases hval l' o' e' with e2 | ⟨e2, hn2, hul2⟩
        · exact hR.sep l l' o o' L L' e1 e2 hL hL' hb
        · exact (mix l' l o' o L' L e2 hn2 hul2 e1 hL' hL hb.symm).symm
      · rcases hval l' o' e' with e2 | ⟨e2, hn2, hul2⟩
        · exact mix l l' o o' L L' e1 hn1 hul1 e2 hL hL' hb
        · obtain ⟨L0, _, h1, _⟩ := hG.own l o e1
          obtain ⟨L1, _, h2, _⟩ := hG.own l' o' e2
          have h3 := hF.ext.loc _ _ h1
          have h4 := hF.ext.loc _ _ h2
          rw [hL] at h3; cases h3
          rw [hL'] at h4; cases h4
          exact hG.sep l l' o o' L L' e1 e2 h1 h2 hb
    · intro l o L e hL
      rcases hval l o e with e1 | ⟨e1, hn1, hul1⟩
      · exact hR.dis l o L e1 hL
      · obtain ⟨L0, _, h1, _⟩ := hG.own l o e1
        have h3 := hF.ext.loc _ _ h1
        rw [hL] at h3; cases h3
        obtain ⟨k1, k2⟩ := key l o L e1 hul1 hn1 h1
        have hd := hG.dis l o L e1 h1
        cases hr : R' L.blk with
        | none => rfl
        | some O =>
          rcases hF.new _ O hr with h4 | h4 | ⟨k, o2, K, h6, h7, h8⟩
          · rw [hd] at h4; cases h4
          · omega
          · exact absurd h8 (k2 k o2 K h6 h7)
end Go.Proofs.Ytbngfbpegdcpkaa
