/- Texts of the proof, joined. -/
import Derived.Laws.Sem
import Derived.Laws.World
import Derived.Calls
import Derived.Orders
import Derived.OrdersIn
import Derived.LoopNIn
import Derived.RangeFuncRecord
import Derived.Laws.Cells
import Derived.Laws.Append
import Derived.Maps.RangeRun
/-! An abstract machine over a heap of named objects: what its values and objects are in memory. -/
namespace Go.Proofs.Ytigjoggpaamodaa
set_option linter.unusedVariables false
set_option linter.unusedSimpArgs false
/-- whatever is let in; of what make a frame is -/
abbrev Fw (r : Option Nat) : Fence := { Fence.wide with round := r }
theorem room_w (r : Option Nat) (n : Nat) : (Fw r).room n := fun _ h => by simp [Fence.wide] at h

/-- labels: paths -/
abbrev Lab := List Nat
/-- values: memory of the program's own by a label, memory that nobody changes by what it holds -/
inductive AV where
  | bool (b : Bool)
  | int (k : IntKind) (n : Int)
  | str (s : ByteArray)
  | nilp
  | ptr (l : Lab) (e i j : Nat)
  | iptr (e : Nat) (rows : List (List AV)) (i j : Nat)
  | nils
  | sl (l : Lab) (e off len : Nat)
  | sl0
  | isl (e : Nat) (rows : List (List AV))
  | nilm
  | map (l : Lab)
  | nilf
  | fn (f : Fn) (first captured : List AV)
  | agg (cs : List AV)
  | tuple (cs : List AV)
  | yield (l : Lab)

def AV.one : AV → Bool
  | .agg _ | .tuple _ => false
  | _ => true
/-- a row of single cells -/
def gC (e : Nat) (r : List AV) : Prop := r.length = e ∧ ∀ x ∈ r, x.one = true
/-- a label's place: its block, where it begins there, how many cells the block has, how many rows are known -/
structure Loc where
  blk : Nat
  off : Nat
  top : Nat
  ext : Nat
abbrev aH := Lab → Option Loc
abbrev Imm := Nat → Option Obj

def aC (rs : List (List AV)) (i j : Nat) : Option AV := (rs[i]?).bind (·[j]?)

/-- how a value reads: ρ tells where labels lie, R which blocks nobody changes -/
inductive RepV (ρ : aH) (R : Imm) : AV → Value → Prop
  | bool (b : Bool) : RepV ρ R (.bool b) (.bool b)
  | int (k : IntKind) (n : Int) : RepV ρ R (.int k n) (.int k n)
  | str (s : ByteArray) : RepV ρ R (.str s) (.string s)
  | nilp : RepV ρ R .nilp (.pointer none)
  | ptr (l : Lab) (e i j : Nat) (L : Loc) (h : ρ l = some L) : RepV ρ R (.ptr l e i j) (.pointer (some ⟨L.blk, L.off + (i * e + j), none⟩))
  | iptr (e : Nat) (rows : List (List AV)) (i j b o : Nat) (c : Array Value) (T : TypeId) (fz : Nat × Nat) (g : Nat → Nat → Value)
      (hb : R b = some (.cells c T fz)) (hc : ∀ i j x, aC rows i j = some x → c[o + (i * e + j)]? = some (g i j))
      (hr : ∀ i j x, aC rows i j = some x → RepV ρ R x (g i j)) : RepV ρ R (.iptr e rows i j) (.pointer (some ⟨b, o + (i * e + j), none⟩))
  | nils : RepV ρ R .nils (.slice none 0 0)
  | sl (l : Lab) (e off len cap : Nat) (L : Loc) (h : ρ l = some L) (hl : len ≤ cap) (ht : L.off + (off + cap) * e ≤ L.top) (hx : L.ext ≤ off + cap) : RepV ρ R (.sl l e off len) (.slice (some ⟨L.blk, L.off + off * e, none⟩) len cap)
  | slz (l : Lab) (e off : Nat) (a : Addr) (L : Loc) (h : ρ l = some L) (hx : L.ext ≤ off) : RepV ρ R (.sl l e off 0) (.slice (some a) 0 0)
  | sl0 (a : Option Addr) : RepV ρ R .sl0 (.slice a 0 0)
  | isl0 (a : Option Addr) (e cap : Nat) (h : a = none → cap = 0) : RepV ρ R (.isl e []) (.slice a 0 cap)
  | isl (e : Nat) (rows : List (List AV)) (b o cap : Nat) (c : Array Value) (T : TypeId) (fz : Nat × Nat) (g : Nat → Nat → Value)
      (hl : rows.length ≤ cap) (hw : ∀ r ∈ rows, gC e r) (hb : R b = some (.cells c T fz)) (hc : ∀ i j x, aC rows i j = some x → c[o + (i * e + j)]? = some (g i j))
      (hr : ∀ i j x, aC rows i j = some x → RepV ρ R x (g i j)) : RepV ρ R (.isl e rows) (.slice (some ⟨b, o, none⟩) rows.length cap)
  | nilm : RepV ρ R .nilm (.map none)
  | map (l : Lab) (L : Loc) (h : ρ l = some L) : RepV ρ R (.map l) (.map (some L.blk))
  | nilf : RepV ρ R .nilf .nilFunc
  | fn (f : Fn) (first captured : List AV) (F C : Array Value) (hF : F.size = first.length) (hC : C.size = captured.length)
      (h1 : ∀ i x, first[i]? = some x → RepV ρ R x (F.getD i undef)) (h2 : ∀ i x, captured[i]? = some x → RepV ρ R x (C.getD i undef)) : RepV ρ R (.fn f first captured) (.func f F C)
  | agg (cs : List AV) (C : Array Value) (hC : C.size = cs.length) (h : ∀ i x, cs[i]? = some x → RepV ρ R x (C.getD i undef)) : RepV ρ R (.agg cs) (.agg C)
  | tuple (cs : List AV) (C : Array Value) (hC : C.size = cs.length) (h : ∀ i x, cs[i]? = some x → RepV ρ R x (C.getD i undef)) : RepV ρ R (.tuple cs) (.tuple C)
  | yield (l : Lab) (L : Loc) (h : ρ l = some L) : RepV ρ R (.yield l) (.func (.yield L.blk) #[] #[])

/-- objects: rows of e cells each; a map's entries in the order in which they came -/
inductive AO where
  | rows (e : Nat) (rs : List (List AV))
  | amap (es : List (AV × AV)) (bs : List Nat) (ck : Nat)
  | bag (es : List (AV × AV))
  | iter (m : Option Lab) (since : Nat) (seen : List Nat) (st : Nat)
  | loop (r : Go.Loop) (regs : List (Nat × AV))

def RepO (ρ : aH) (R : Imm) (L : Loc) : AO → Obj → Prop
  | .rows e rs, .cells c _ fz => fz = (0, 0) ∧ c.size = L.top ∧ (∀ r ∈ rs, gC e r) ∧ (rs.length = L.ext ∧ L.off + rs.length * e ≤ L.top) ∧
      ∀ i j x, aC rs i j = some x → ∃ v, c[L.off + (i * e + j)]? = some v ∧ RepV ρ R x v
  | .amap es bs ck, .map ents clock => ents.size = es.length ∧ (ents.toList.map (·.born)).Nodup ∧ (∀ m ∈ ents, m.born < clock) ∧ (ents.toList.map (·.born) = bs ∧ clock = ck) ∧
      ∀ (i : Nat) p m, es[i]? = some p → ents[i]? = some m → RepV ρ R p.1 m.key ∧ RepV ρ R p.2 m.val
  | .bag es, .map ents clock => ∃ es' : List (AV × AV), es'.Perm es ∧ ents.size = es'.length ∧ (ents.toList.map (·.born)).Nodup ∧ (∀ m ∈ ents, m.born < clock) ∧
      ∀ (i : Nat) p m, es'[i]? = some p → ents[i]? = some m → RepV ρ R p.1 m.key ∧ RepV ρ R p.2 m.val
  | .iter m since seen st, .mapIter m' since' seen' st' => L.off = 0 ∧ since' = since ∧ seen'.toList = seen ∧ st' = st ∧ ((m = none ∧ m' = none) ∨ ∃ l M, m = some l ∧ ρ l = some M ∧ m' = some M.blk)
  | .loop r regs, .loop r' => L.off = 0 ∧ r' = r ∧ ∀ t x, regs.lookup t = some x → RepV ρ R x (r.tmps.getD t undef)
  | _, _ => False

abbrev aB := Lab → Option AO
/-- a heap and a world -/
structure Rep (H : aB) (ρ : aH) (R : Imm) (w : World) : Prop where
  own : ∀ l o, H l = some o → ∃ L O, ρ l = some L ∧ w.heap[L.blk]? = some O ∧ RepO ρ R L o O
  sep : ∀ l l' o o' L L', H l = some o → H l' = some o' → ρ l = some L → ρ l' = some L' → L.blk = L'.blk → l = l'
  dis : ∀ l o L, H l = some o → ρ l = some L → R L.blk = none
  imm : ∀ b O, R b = some O → w.heap[b]? = some O

structure Ext (ρ ρ' : aH) (R R' : Imm) : Prop where
  loc : ∀ l L, ρ l = some L → ρ' l = some L
  imm : ∀ b O, R b = some O → R' b = some O
theorem Ext.refl (ρ : aH) (R : Imm) : Ext ρ ρ R R := ⟨fun _ _ h => h, fun _ _ h => h⟩
theorem Ext.trans {ρ ρ' ρ'' : aH} {R R' R'' : Imm} (h : Ext ρ ρ' R R') (k : Ext ρ' ρ'' R' R'') : Ext ρ ρ'' R R'' := ⟨fun _ _ e => k.loc _ _ (h.loc _ _ e), fun _ _ e => k.imm _ _ (h.imm _ _ e)⟩

theorem RepV.mono {ρ ρ' : aH} {R R' : Imm} {x : AV} {v : Value} (h : RepV ρ R x v) (e : Ext ρ ρ' R R') : RepV ρ' R' x v := by
  induction h with
  | bool b => exact .bool b
  | int k n => exact .int k n
  | str s => exact .str s
  | nilp => exact .nilp
  | ptr l e' i j L h => exact .ptr l e' i j L (e.loc _ _ h)
  | iptr e' rows i j b o c T fz g hb hc hr ih => exact .iptr e' rows i j b o c T fz g (e.imm _ _ hb) hc ih
  | nils => exact .nils
  | sl l e' off len cap L h hl ht hx => exact .sl l e' off len cap L (e.loc _ _ h) hl ht hx
  | slz l e2 off a L h hx => exact .slz l e2 off a L (e.loc _ _ h) hx
  | sl0 a => exact .sl0 a
  | isl0 a e' cap h => exact .isl0 a e' cap h
  | isl e' rows b o cap c T fz g hl hw hb hc hr ih => exact .isl e' rows b o cap c T fz g hl hw (e.imm _ _ hb) hc ih
  | nilm => exact .nilm
  | map l L h => exact .map l L (e.loc _ _ h)
  | nilf => exact .nilf
  | fn f first captured F C hF hC h1 h2 ih1 ih2 => exact .fn f first captured F C hF hC ih1 ih2
  | agg cs C hC h ih => exact .agg cs C hC ih
  | tuple cs C hC h ih => exact .tuple cs C hC ih
  | yield l L h => exact .yield l L (e.loc _ _ h)
theorem RepO.mono {ρ ρ' : aH} {R R' : Imm} {L : Loc} {o : AO} {O : Obj} (h : RepO ρ R L o O) (e : Ext ρ ρ' R R') : RepO ρ' R' L o O := by
  cases o <;> cases O <;> simp only [RepO] at h ⊢
  · obtain ⟨h1, h2, h3, h4, h5⟩ := h
    refine ⟨h1, h2, h3, h4, fun i j x hx => ?_⟩
    obtain ⟨v, hv, hr⟩ := h5 i j x hx
    exact ⟨v, hv, hr.mono e⟩
  · obtain ⟨h1, h2, h3, h5, h4⟩ := h
    exact ⟨h1, h2, h3, h5, fun i p m hp hm => ⟨(h4 i p m hp hm).1.mono e, (h4 i p m hp hm).2.mono e⟩⟩
  · obtain ⟨es', h0, h1, h2, h3, h4⟩ := h
    exact ⟨es', h0, h1, h2, h3, fun i p m hp hm => ⟨(h4 i p m hp hm).1.mono e, (h4 i p m hp hm).2.mono e⟩⟩
  · obtain ⟨h0, h1, h2, h3, h4⟩ := h
    refine ⟨h0, h1, h2, h3, ?_⟩
    rcases h4 with h4 | ⟨l, M, k1, k2, k3⟩
    · exact .inl h4
    · exact .inr ⟨l, M, k1, e.loc _ _ k2, k3⟩
  · exact ⟨h.1, h.2.1, fun t x hx => (h.2.2 t x hx).mono e⟩
  all_goals exact h

/-- changes of a heap -/
abbrev Chg := List (Lab × Option AO)
def upd : Chg → aB → aB
  | [], H => H
  | (l, o) :: u, H => fun k => if k = l then o else upd u H k
def Chg.has (u : Chg) (l : Lab) : Prop := ∃ p ∈ u, p.1 = l
theorem aR {u : Chg} {H : aB} {l : Lab} (h : ¬ u.has l) : upd u H l = H l := by
  induction u with
  | nil => rfl
  | cons p u ih =>
    obtain ⟨k, o⟩ := p
    simp only [upd]
    rw [if_neg (fun e => h ⟨(k, o), by simp, e.symm⟩)]
    exact ih (fun ⟨q, hq, e⟩ => h ⟨q, by simp [hq], e⟩)
theorem dV {u : Chg} {H H' : aB} {l : Lab} (h : u.has l) : upd u H l = upd u H' l := by
  induction u with
  | nil => obtain ⟨p, hp, _⟩ := h; cases hp
  | cons p u ih =>
    obtain ⟨k, o⟩ := p
    simp only [upd]
    by_cases e : l = k
    · rw [if_pos e, if_pos e]
    · rw [if_neg e, if_neg e]
      obtain ⟨q, hq, e'⟩ := h
      rcases List.mem_cons.1 hq with rfl | hq
      · exact absurd e'.symm e
      · exact ih ⟨q, hq, e'⟩

/-- what becomes of labels, blocks and the world when something is done that touches the heap's blocks alone, and whose new labels are of W -/
structure Fut (H : aB) (ρ : aH) (R : Imm) (w : World) (W : Lab → Prop) (ρ' : aH) (R' : Imm) (w' : World) : Prop where
  ext : Ext ρ ρ' R R'
  win : ∀ l L, ρ' l = some L → ρ l = some L ∨ (W l ∧ (w.heap.size ≤ L.blk ∨ ∃ k o K, H k = some o ∧ ρ k = some K ∧ K.blk = L.blk))
  new : ∀ b O, R' b = some O → R b = some O ∨ w.heap.size ≤ b ∨ ∃ k o K, H k = some o ∧ ρ k = some K ∧ K.blk = b
  os : w'.os = w.os
  tape : w'.tape = w.tape
  output : w'.output = w.output
  size : w.heap.size ≤ w'.heap.size
  frame : ∀ b, b < w.heap.size → (∀ k o K, H k = some o → ρ k = some K → K.blk ≠ b) → w'.heap[b]? = w.heap[b]?

/-- C, a computation, over the heap H yields x and the changes u, its new labels of W -/
def Does (C : World → (Value → World → Prop) → Prop) (H : aB) (u : Chg) (W : Lab → Prop) (ρ : aH) (R : Imm) (x : AV) : Prop :=
  ∀ w, Rep H ρ R w → (∀ l, W l → ρ l = none) → C w (fun v w' => ∃ ρ' R', Fut H ρ R w W ρ' R' w' ∧ RepV ρ' R' x v ∧ Rep (upd u H) ρ' R' w')

theorem Rep.lt {H : aB} {ρ : aH} {R : Imm} {w : World} (h : Rep H ρ R w) {l : Lab} {o : AO} {L : Loc} (hl : H l = some o) (hL : ρ l = some L) : L.blk < w.heap.size := by
  obtain ⟨L', O, h1, h2, _⟩ := h.own l o hl
  rw [hL] at h1; cases h1
  exact (Array.getElem?_eq_some_iff.1 h2).1

/-- THE FRAME: what is done over a part of the heap is done over all of it. -/
theorem Does.frame {C : World → (Value → World → Prop) → Prop} {H G : aB} {u : Chg} {W : Lab → Prop} {ρ : aH} {R : Imm} {x : AV} (hC : ∀ w K K', (∀ v w', K v w' → K' v w') → C w K → C w K')
    (h : Does C H u W ρ R x) (hsub : ∀ l o, H l = some o → G l = some o) (hu : ∀ l, u.has l → H l ≠ none ∨ W l) : Does C G u W ρ R x := by
  intro w hG hfresh
  have hH : Rep H ρ R w := ⟨fun l o e => hG.own l o (hsub l o e), fun l l' o o' L L' e e' => hG.sep l l' o o' L L' (hsub l o e) (hsub l' o' e'), fun l o L e => hG.dis l o L (hsub l o e), hG.imm⟩
  refine hC w _ _ ?_ (h w hH hfresh)
  rintro v w' ⟨ρ', R', hF, hx, hR⟩
  -- labels of G that are not H's: their blocks are as they were
  have key : ∀ l o L, G l = some o → ¬ u.has l → H l = none → ρ l = some L → L.blk < w.heap.size ∧ (∀ k o K, H k = some o → ρ k = some K → K.blk ≠ L.blk) := by
    intro l o L hl _ hn hL
    refine ⟨hG.lt hl hL, fun k o' K hk hK e => ?_⟩
    have := hG.sep k l o' o K L (hsub k o' hk) hl hK hL e
    subst this
    rw [hk] at hn; cases hn
  have hnot : ∀ l, G l ≠ none → H l = none → ¬ u.has l := by
    intro l hl hn hul
    rcases hu l hul with h1 | h1
    · exact h1 hn
    · obtain ⟨o, ho⟩ := Option.ne_none_iff_exists'.1 hl
      obtain ⟨L, O, h2, _⟩ := hG.own l o ho
      rw [hfresh l h1] at h2; cases h2
  have hval : ∀ l o, upd u G l = some o → (upd u H l = some o) ∨ (G l = some o ∧ H l = none ∧ ¬ u.has l) := by
    intro l o e
    by_cases hul : u.has l
    · rw [dV (H' := H) hul] at e; exact .inl e
    · rw [aR hul] at e
      by_cases hn : H l = none
      · exact .inr ⟨e, hn, hul⟩
      · obtain ⟨o', ho'⟩ := Option.ne_none_iff_exists'.1 hn
        rw [hsub l o' ho'] at e
        rw [aR hul, ho']; exact .inl e
  refine ⟨ρ', R', ?_, hx, ?_⟩
  · refine { ext := hF.ext, win := ?_, new := ?_, os := hF.os, tape := hF.tape, output := hF.output, size := hF.size, frame := ?_ }
    · intro l L e
      rcases hF.win l L e with h1 | ⟨h2, h3 | ⟨k, o, K, h4, h5, h6⟩⟩
      · exact .inl h1
      · exact .inr ⟨h2, .inl h3⟩
      · exact .inr ⟨h2, .inr ⟨k, o, K, hsub k o h4, h5, h6⟩⟩
    · intro b O e
      rcases hF.new b O e with h1 | h1 | ⟨k, o, K, h4, h5, h6⟩
      · exact .inl h1
      · exact .inr (.inl h1)
      · exact .inr (.inr ⟨k, o, K, hsub k o h4, h5, h6⟩)
    · intro b hb hno
      exact hF.frame b hb (fun k o K hk => hno k o K (hsub k o hk))
  · refine { own := ?_, sep := ?_, dis := ?_, imm := hR.imm }
    · intro l o e
      rcases hval l o e with e | ⟨e, hn, hul⟩
      · exact hR.own l o e
      · obtain ⟨L, O, h1, h2, h3⟩ := hG.own l o e
        obtain ⟨k1, k2⟩ := key l o L e hul hn h1
        exact ⟨L, O, hF.ext.loc _ _ h1, (hF.frame L.blk k1 k2).trans h2, h3.mono hF.ext⟩
    · intro l l' o o' L L' e e' hL hL' hb
      -- a label that is none of H's, against any other
      have mix : ∀ l l' o o' L L', G l = some o → H l = none → ¬ u.has l → upd u H l' = some o' → ρ' l = some L → ρ' l' = some L' → L.blk = L'.blk → l = l' := by
        intro l l' o o' L L' e hn hul e' hL hL' hb
        obtain ⟨L0, O, h1, h2, h3⟩ := hG.own l o e
        obtain ⟨k1, k2⟩ := key l o L0 e hul hn h1
        have : ρ' l = some L0 := hF.ext.loc _ _ h1
        rw [hL] at this; cases this
        rcases hF.win l' L' hL' with h4 | ⟨_, h5 | ⟨k, o2, K, h6, h7, h8⟩⟩
        · by_cases hu' : u.has l'
          · by_cases hH' : H l' = none
            · rcases hu l' hu' with h6 | h6
              · exact absurd hH' h6
              · rw [hfresh l' h6] at h4; cases h4
            · obtain ⟨o2, h6⟩ := Option.ne_none_iff_exists'.1 hH'
              exact absurd hb.symm (k2 l' o2 L' h6 h4)
          · rw [aR hu'] at e'
            exact absurd hb.symm (k2 l' o' L' e' h4)
        · omega
        · exact absurd (h8.trans hb.symm) (k2 k o2 K h6 h7)
      rcases hval l o e with e1 | ⟨e1, hn1, hul1⟩
      · rcases hval l' o' e' with e2 | ⟨e2, hn2, hul2⟩
        · exact hR.sep l l' o o' L L' e1 e2 hL hL' hb
        · exact (mix l' l o' o L' L e2 hn2 hul2 e1 hL' hL hb.symm).symm
      · rcases hval l' o' e' with e2 | ⟨e2, hn2, hul2⟩
        · exact mix l l' o o' L L' e1 hn1 hul1 e2 hL hL' hb
        · obtain ⟨L0, _, h1, _⟩ := hG.own l o e1
          obtain ⟨L1, _, h2, _⟩ := hG.own l' o' e2
          have h3 := hF.ext.loc _ _ h1
          have h4 := hF.ext.loc _ _ h2
          rw [hL] at h3; cases h3
          rw [hL'] at h4; cases h4
          exact hG.sep l l' o o' L L' e1 e2 h1 h2 hb
    · intro l o L e hL
      rcases hval l o e with e1 | ⟨e1, hn1, hul1⟩
      · exact hR.dis l o L e1 hL
      · obtain ⟨L0, _, h1, _⟩ := hG.own l o e1
        have h3 := hF.ext.loc _ _ h1
        rw [hL] at h3; cases h3
        obtain ⟨k1, k2⟩ := key l o L e1 hul1 hn1 h1
        have hd := hG.dis l o L e1 h1
        cases hr : R' L.blk with
        | none => rfl
        | some O =>
          rcases hF.new _ O hr with h4 | h4 | ⟨k, o2, K, h6, h7, h8⟩
          · rw [hd] at h4; cases h4
          · omega
          · exact absurd h8 (k2 k o2 K h6 h7)
end Go.Proofs.Ytigjoggpaamodaa
/-! The abstract machine: regions, in whatever order. -/
namespace Go.Proofs.Ytigjoggpaamodaa
set_option linter.unusedVariables false
set_option linter.unusedSimpArgs false

theorem Fut.refl (H : aB) (ρ : aH) (R : Imm) (w : World) (W : Lab → Prop) : Fut H ρ R w W ρ R w :=
  ⟨.refl _ _, fun _ _ h => .inl h, fun _ _ h => .inl h, rfl, rfl, rfl, Nat.le_refl _, fun _ _ _ => rfl⟩
/-- one behind the other -/
theorem Fut.trans {H G : aB} {ρ ρ1 ρ2 : aH} {R R1 R2 : Imm} {w w1 w2 : World} {W W1 W2 : Lab → Prop} (_hH : Rep H ρ R w)
    (h1 : Fut H ρ R w W1 ρ1 R1 w1) (h2 : Fut G ρ1 R1 w1 W2 ρ2 R2 w2) (hG : ∀ k o, G k = some o → H k ≠ none ∨ ρ k = none) (ha : ∀ l, W1 l → W l) (hb : ∀ l, W2 l → W l) : Fut H ρ R w W ρ2 R2 w2 := by
  -- a block of G's is one of H's, or a new one
  have own : ∀ k o K, G k = some o → ρ1 k = some K → w.heap.size ≤ K.blk ∨ ∃ k o' K', H k = some o' ∧ ρ k = some K' ∧ K'.blk = K.blk := by
    intro k o K hk hK
    rcases h1.win k K hK with h | ⟨_, h | h⟩
    · rcases hG k o hk with h3 | h3
      · obtain ⟨o', ho'⟩ := Option.ne_none_iff_exists'.1 h3
        exact .inr ⟨k, o', K, ho', h, rfl⟩
      · rw [h] at h3; cases h3
    · exact .inl h
    · exact .inr h
  refine { ext := h1.ext.trans h2.ext, win := ?_, new := ?_, os := h2.os.trans h1.os, tape := h2.tape.trans h1.tape, output := h2.output.trans h1.output, size := Nat.le_trans h1.size h2.size, frame := ?_ }
  · intro l L e
    rcases h2.win l L e with h | ⟨h4, h5⟩
    · rcases h1.win l L h with h | ⟨h4, h5⟩
      · exact .inl h
      · exact .inr ⟨ha l h4, h5⟩
    · refine .inr ⟨hb l h4, ?_⟩
      rcases h5 with h5 | ⟨k, o, K, h6, h7, h8⟩
      · exact .inl (Nat.le_trans h1.size h5)
      · rw [← h8]; exact own k o K h6 h7
  · intro c O e
    rcases h2.new c O e with h | h | ⟨k, o, K, h6, h7, h8⟩
    · exact h1.new c O h
    · exact .inr (.inl (Nat.le_trans h1.size h))
    · rw [← h8]; exact .inr (own k o K h6 h7)
  · intro c hc hno
    rw [h2.frame c (Nat.lt_of_lt_of_le hc h1.size) ?_, h1.frame c hc hno]
    intro k o K hk hK e
    rcases own k o K hk hK with h | ⟨k', o', K', h3, h4, h5⟩
    · omega
    · exact hno k' o' K' h3 h4 (h5.trans e)

abbrev nB := Nat → Option AV
def gD (r : nB) (d : Option Nat) (x : AV) : nB := match d with
  | none => r
  | some t => fun k => if k = t then some x else r k

/-- the marks of loops over functions, among the deferred calls -/
def oY (D : Nat) : Deferred := { target := .collected D, args := #[] }
def Marks (B : Nat) (ds : List Deferred) (H : aB) (ρ : aH) (R : Imm) (w : World) : Prop := ∃ Ds : List Nat, ds = Ds.map oY ∧ Ds.Nodup ∧ ∀ D ∈ Ds, B ≤ D ∧ w.heap[D]? = some (.deferred (some [])) ∧ R D = none ∧ ∀ l o L, H l = some o → ρ l = some L → L.blk ≠ D
theorem Marks.nil {B : Nat} {H : aB} {ρ : aH} {R : Imm} {w : World} : Marks B [] H ρ R w := ⟨[], rfl, .nil, fun D h => by cases h⟩
theorem Marks.sub {B : Nat} {ds : List Deferred} {H H' : aB} {ρ : aH} {R : Imm} {w : World} (h : Marks B ds H ρ R w) (hs : ∀ l o, H' l = some o → H l ≠ none) : Marks B ds H' ρ R w := by
  obtain ⟨Ds, h1, h2, h3⟩ := h
  refine ⟨Ds, h1, h2, fun D hD => ?_⟩
  obtain ⟨k1, k2, k3, k4⟩ := h3 D hD
  refine ⟨k1, k2, k3, fun l o L hl => ?_⟩
  obtain ⟨o', ho'⟩ := Option.ne_none_iff_exists'.1 (hs l o hl)
  exact k4 l o' L ho'
theorem Marks.fut {B : Nat} {ds : List Deferred} {H : aB} {u : Chg} {ρ ρ' : aH} {R R' : Imm} {w w' : World} {W : Lab → Prop} (h : Marks B ds H ρ R w) (hF : Fut H ρ R w W ρ' R' w') (hu : ∀ l, u.has l → H l ≠ none ∨ ρ l = none) : Marks B ds (upd u H) ρ' R' w' := by
  obtain ⟨Ds, h1, h2, h3⟩ := h
  refine ⟨Ds, h1, h2, fun D hD => ?_⟩
  obtain ⟨k1, k2, k3, k4⟩ := h3 D hD
  have hlt := (Array.getElem?_eq_some_iff.1 k2).1
  refine ⟨k1, (hF.frame D hlt fun k o K hk hK => k4 k o K hk hK).trans k2, ?_, fun l o L hl hL e => ?_⟩
  · cases hR : R' D with
    | none => rfl
    | some O =>
      rcases hF.new D O hR with g | g | ⟨k, o, K, hk, hK, g⟩
      · rw [k3] at g; cases g
      · omega
      · exact absurd g (k4 k o K hk hK)
  · rcases hF.win l L hL with g | ⟨_, g | ⟨k, o', K, hk, hK, g⟩⟩
    · have : H l ≠ none := by
        by_cases hul : u.has l
        · rcases hu l hul with h4 | h4
          · exact h4
          · rw [h4] at g; cases g
        · rw [aR hul] at hl; rw [hl]; simp
      obtain ⟨o', ho'⟩ := Option.ne_none_iff_exists'.1 this
      exact k4 l o' L ho' g e
    · omega
    · exact k4 k o' K hk hK (g.trans e)
structure RepS (n B : Nat) (r : nB) (H : aB) (ρ : aH) (R : Imm) (a : Act) (w : World) : Prop where
  size : a.tmps.size = n
  defers : Marks B a.defers H ρ R w
  regs : ∀ t x, r t = some x → RepV ρ R x (a.tmps.getD t undef)
  heap : Rep H ρ R w

/-- an operation as a computation -/
def opC (P : Program) (o : Oper) (a : Act) (w : World) (K : Value → World → Prop) : Prop :=
  ∀ (r : Option Nat) (next : Act → World → Prop) (Q : Exit → Act → World → Prop), (∀ v w', K v w' → next (a.put o.dst v) w') → o.wpIn (Fw r) 0 P a w next Q
theorem jI {P : Program} {o : Oper} {a : Act} : ∀ w K K', (∀ v w', K v w' → K' v w') → opC P o a w K → opC P o a w K' :=
  fun _ _ _ h hk r next Q hn => hk r next Q (fun v w' hv => hn v w' (h v w' hv))

/-- what is known of an operation of a region once it is reckoned out -/
structure Rc where
  skip : Bool
  x : AV
  u : Chg
  q : Lab
  foot : Option (List Lab)
/-- the labels below one -/
def Under (q : Lab) (l : Lab) : Prop := ∃ s, l = s ++ q
def restr (H : aB) : Option (List Lab) → aB
  | none => H
  | some ls => fun l => if l ∈ ls then H l else none

section
variable (ops : Array Oper) (rc : Nat → Rc) (D : Nat → Bool) (r0 : nB) (H0 : aB)
def stR : Nat → nB
  | 0 => r0
  | k + 1 => if D k then gD (stR k) ((ops[k]?).bind (·.dst)) (rc k).x else stR k
def stH : Nat → aB
  | 0 => H0
  | k + 1 => if D k then upd (rc k).u (stH k) else stH k
end
/-- one operation waits for another one -/
inductive Anc (ops : Array Oper) : Nat → Nat → Prop
  | step {j : Nat} {o : Oper} {e : Edge} (ho : ops[j]? = some o) (he : e ∈ o.after) (hb : Region.binds .any e = true) : Anc ops e.on j
  | trans {i j k : Nat} (h : Anc ops i j) (h' : Anc ops j k) : Anc ops i k

def nC (ops : Array Oper) (o : Oper) (r : nB) (ρ : aH) (R : Imm) (a : Act) : Prop := ∀ t ∈ o.looksAt ops, ∀ y, r t = some y → RepV ρ R y (a.tmps.getD t undef)

structure RegOk (P : Program) (ops : Array Oper) (n : Nat) (rc : Nat → Rc) (r0 : nB) (H0 : aB) (W : Lab → Prop) : Prop where
  skip : ∀ j o, ops[j]? = some o → (rc j).skip = true → (rc j).x = .tuple [] ∧ (rc j).u = [] ∧
    ∀ ρ R a, nC ops o (stR ops rc (fun _ => true) r0 j) ρ R a → a.tmps.size = n → Region.wanted o (yielded ops a.tmps) = false
  run : ∀ j o, ops[j]? = some o → (rc j).skip = false → (∀ l, (rc j).u.has l → restr (stH rc (fun _ => true) H0 j) (rc j).foot l ≠ none ∨ Under (rc j).q l) ∧
    ∀ ρ R a, nC ops o (stR ops rc (fun _ => true) r0 j) ρ R a → a.tmps.size = n → Region.wanted o (yielded ops a.tmps) = true ∧
      Does (opC P o a) (restr (stH rc (fun _ => true) H0 j) (rc j).foot) (rc j).u (Under (rc j).q) ρ R (rc j).x
  back : ∀ j o e, ops[j]? = some o → e ∈ o.after → Region.binds .any e = true → e.on < j
  win : ∀ i j, i ≠ j → i < ops.size → j < ops.size → ∀ l, Under (rc i).q l → ¬ Under (rc j).q l
  wid : ∀ j, j < ops.size → ∀ l, Under (rc j).q l → W l
  regs : ∀ i j oi oj, i ≠ j → ops[i]? = some oi → ops[j]? = some oj → ¬ Anc ops i j → ¬ Anc ops j i → oi.apart ops oj = true
  heap : ∀ i j, i ≠ j → i < ops.size → j < ops.size → ¬ Anc ops i j → ¬ Anc ops j i → ∀ l, (rc i).u.has l → restr (stH rc (fun _ => true) H0 j) (rc j).foot l = none
  dst : ∀ (j : Nat) (o : Oper) (d : Nat), ops[j]? = some o → o.dst = some d → d < n

section
variable {P : Program} {ops : Array Oper} {n : Nat} {rc : Nat → Rc} {r0 : nB} {H0 : aB} {W : Lab → Prop}
theorem RegOk.anc_lt (h : RegOk P ops n rc r0 H0 W) {i j : Nat} (ha : Anc ops i j) : i < j := by
  induction ha with
  | step ho he hb => exact h.back _ _ _ ho he hb
  | trans _ _ h1 h2 => omega

theorem upd_other {u : Chg} {H : aB} {l : Lab} (h : ¬ u.has l) : upd u H l = H l := aR h
theorem iU {r : nB} {d : Option Nat} {x : AV} {t : Nat} (h : d ≠ some t) : gD r d x t = r t := by
  cases d with
  | none => rfl
  | some k => simp only [gD]; rw [if_neg (fun e => h (by rw [e]))]

/-- a register that only operations which stand in one order write -/
theorem jT {D : Nat → Bool} {j : Nat} {t : Nat} (hD1 : ∀ i oi, i < j → ops[i]? = some oi → oi.dst = some t → D i = true) (hD2 : ∀ i oi, j ≤ i → ops[i]? = some oi → oi.dst = some t → D i = false) :
    ∀ k, stR ops rc D r0 k t = stR ops rc (fun _ => true) r0 (min k j) t
  | 0 => by simp [stR]
  | k + 1 => by
    have ih := jT hD1 hD2 k
    simp only [stR]
    by_cases hk : k < j
    · rw [show min (k + 1) j = min k j + 1 by omega]
      have hm : min k j = k := by omega
      simp only [stR, if_true]
      rw [hm] at ih ⊢
      cases ho : ops[k]? with
      | none => simp only [Option.bind_none, gD]; split <;> exact ih
      | some o =>
        simp only [Option.bind_some]
        by_cases hd : o.dst = some t
        · rw [hD1 k o hk ho hd, if_pos rfl]
          simp [gD, hd]
        · rw [iU hd]
          split
          · rw [iU hd]; exact ih
          · exact ih
    · rw [show min (k + 1) j = min k j by omega]
      split
      · rename_i hDk
        cases ho : ops[k]? with
        | none => simp only [Option.bind_none, gD]; exact ih
        | some o =>
          simp only [Option.bind_some]
          rw [iU]
          · exact ih
          · intro hd
            rw [hD2 k o (by omega) ho hd] at hDk; cases hDk
      · exact ih
theorem nP {D : Nat → Bool} {j : Nat} {l : Lab} (hD1 : ∀ i, i < j → (rc i).u.has l → D i = true) (hD2 : ∀ i, j ≤ i → i < ops.size → (rc i).u.has l → D i = false) :
    ∀ k, k ≤ ops.size → stH rc D H0 k l = stH rc (fun _ => true) H0 (min k j) l
  | 0, _ => by simp [stH]
  | k + 1, hks => by
    have ih := nP hD1 hD2 k (by omega)
    simp only [stH]
    by_cases hk : k < j
    · rw [show min (k + 1) j = min k j + 1 by omega]
      have hm : min k j = k := by omega
      simp only [stH, if_true]
      rw [hm] at ih ⊢
      by_cases hu : (rc k).u.has l
      · rw [hD1 k hk hu, if_pos rfl]
        exact dV hu
      · rw [aR hu]
        split
        · rw [aR hu]; exact ih
        · exact ih
    · rw [show min (k + 1) j = min k j by omega]
      split
      · rename_i hDk
        rw [aR]
        · exact ih
        · intro hu
          rw [hD2 k (by omega) (by omega) hu] at hDk; cases hDk
      · exact ih

def a7 (D : Nat → Bool) (j : Nat) : Nat → Bool := fun i => i == j || D i
theorem oQ {D : Nat → Bool} {j : Nat} {o : Oper} (hj : D j = false) (ho : ops[j]? = some o) (hlater : ∀ i oi, j < i → ops[i]? = some oi → D i = true → ∀ d, o.dst = some d → oi.dst ≠ some d) :
    ∀ k, stR ops rc (a7 D j) r0 k = if j < k then gD (stR ops rc D r0 k) o.dst (rc j).x else stR ops rc D r0 k
  | 0 => by simp [stR]
  | k + 1 => by
    have ih := oQ hj ho hlater k
    simp only [stR]
    by_cases hk : k = j
    · subst hk
      simp [a7, ih, hj, ho]
    · have : a7 D j k = D k := by simp [a7, hk]
      rw [this, ih]
      by_cases hjk : j < k
      · have hjk' : j < k + 1 := by omega
        simp only [hjk, hjk', if_true]
        cases hDk : D k with
        | false => simp
        | true =>
          simp only [if_true]
          cases hok : ops[k]? with
          | none => simp [gD]
          | some ok =>
            simp only [Option.bind_some]
            have hne := hlater k ok hjk hok hDk
            funext t
            cases hd : o.dst with
            | none => simp [gD]
            | some d =>
              cases hd' : ok.dst with
              | none => simp [gD]
              | some d' =>
                have : d' ≠ d := fun e => hne d hd (by rw [hd', e])
                simp only [gD]
                by_cases h1 : t = d' <;> by_cases h2 : t = d <;> simp [h1, h2]
                · exact absurd (h1.symm.trans h2) this
                · intro e; exact absurd e this
                · intro e; exact absurd e.symm this
      · have hjk' : ¬ j < k + 1 := by omega
        simp only [hjk, hjk', if_false]
theorem q5 {D : Nat → Bool} {j : Nat} (hj : D j = false) (hlater : ∀ i l, j < i → i < ops.size → D i = true → (rc j).u.has l → ¬ (rc i).u.has l) :
    ∀ k, k ≤ ops.size → stH rc (a7 D j) H0 k = if j < k then upd (rc j).u (stH rc D H0 k) else stH rc D H0 k
  | 0, _ => by simp [stH]
  | k + 1, hks => by
    have ih := q5 hj hlater k (by omega)
    simp only [stH]
    by_cases hk : k = j
    · subst hk
      simp [a7, ih, hj]
    · have : a7 D j k = D k := by simp [a7, hk]
      rw [this, ih]
      by_cases hjk : j < k
      · have hjk' : j < k + 1 := by omega
        simp only [hjk, hjk', if_true]
        cases hDk : D k with
        | false => simp
        | true =>
          simp only [if_true]
          funext l
          by_cases h1 : (rc j).u.has l
          · have h2 := hlater k l hjk (by omega) hDk h1
            rw [aR h2, dV (H' := upd (rc k).u (stH rc D H0 k)) h1]
          · rw [aR h1]
            by_cases h2 : (rc k).u.has l
            · exact dV h2
            · rw [aR h2, aR h1, aR h2]
      · have hjk' : ¬ j < k + 1 := by omega
        simp only [hjk, hjk', if_false]

theorem RepS.put {B : Nat} {r : nB} {H : aB} {u : Chg} {W : Lab → Prop} {ρ ρ' : aH} {R R' : Imm} {a : Act} {w w' : World} {d : Option Nat} {x : AV} {v : Value} (h : RepS n B r H ρ R a w) (hd : ∀ t, d = some t → t < n) (hF : Fut H ρ R w W ρ' R' w') (hu : ∀ l, u.has l → H l ≠ none ∨ ρ l = none) (hx : RepV ρ' R' x v) (hH : Rep (upd u H) ρ' R' w') :
    RepS n B (gD r d x) (upd u H) ρ' R' (a.put d v) w' := by
  have e := hF.ext
  cases d with
  | none => exact ⟨h.size, h.defers.fut hF hu, fun t y hy => (h.regs t y hy).mono e, hH⟩
  | some t =>
    refine ⟨by simpa [Act.put] using h.size, h.defers.fut hF hu, fun k y hy => ?_, hH⟩
    simp only [gD] at hy
    have hs := h.size
    have ht := hd t rfl
    split at hy
    · rename_i hk
      subst hk
      cases hy
      simpa [Act.put, Array.getD, hs, ht] using hx
    · rename_i hk
      have := (h.regs k y hy).mono e
      have hne : t ≠ k := fun e => hk e.symm
      simpa [Act.put, Array.getElem?_setIfInBounds_ne hne] using this

theorem RegOk.looks (h : RegOk P ops n rc r0 H0 W) {D : Nat → Bool} {j : Nat} {o : Oper} (ho : ops[j]? = some o) (hj : D j = false) (hpre : ∀ i, Anc ops i j → D i = true) (hdown : ∀ i k, D k = true → Anc ops i k → D i = true) :
    (∀ t ∈ o.looksAt ops, stR ops rc D r0 ops.size t = stR ops rc (fun _ => true) r0 j t) ∧
    (∀ l o', restr (stH rc (fun _ => true) H0 j) (rc j).foot l = some o' → stH rc D H0 ops.size l = some o') := by
  have hjs : j < ops.size := (Array.getElem?_eq_some_iff.1 ho).1
  constructor
  · intro t ht
    have hw : ∀ i (oi : Oper), i ≠ j → ops[i]? = some oi → oi.dst = some t → Anc ops i j ∨ Anc ops j i := by
      intro i oi hij hoi hdt
      by_cases h1 : Anc ops i j
      · exact .inl h1
      by_cases h2 : Anc ops j i
      · exact .inr h2
      exact absurd ht ((Oper.apart_spec (h.regs i j oi o hij hoi ho h1 h2)).1 t hdt)
    have := jT (rc := rc) (r0 := r0) (D := D) (j := j) (t := t) (ops := ops) ?_ ?_ ops.size
    · rwa [show min ops.size j = j by omega] at this
    · intro i oi hi hoi hdt
      rcases hw i oi (by omega) hoi hdt with h1 | h1
      · exact hpre i h1
      · have := h.anc_lt h1; omega
    · intro i oi hi hoi hdt
      by_cases hij : i = j
      · rw [hij]; exact hj
      rcases hw i oi hij hoi hdt with h1 | h1
      · have := h.anc_lt h1; omega
      · cases hDi : D i with
        | false => rfl
        | true => rw [hdown j i hDi h1] at hj; cases hj
  · intro l o' hl
    have hl' : stH rc (fun _ => true) H0 j l = some o' := by
      revert hl
      cases (rc j).foot with
      | none => exact id
      | some ls => simp only [restr]; split <;> simp
    have hw : ∀ i, i < ops.size → i ≠ j → (rc i).u.has l → Anc ops i j ∨ Anc ops j i := by
      intro i hi hij hu
      by_cases h1 : Anc ops i j
      · exact .inl h1
      by_cases h2 : Anc ops j i
      · exact .inr h2
      have := h.heap i j hij hi hjs h1 h2 l hu
      rw [hl] at this; cases this
    have := nP (rc := rc) (H0 := H0) (D := D) (j := j) (l := l) (ops := ops) ?_ ?_ ops.size (Nat.le_refl _)
    · rw [this, show min ops.size j = j by omega]; exact hl'
    · intro i hi hu
      rcases hw i (by omega) (by omega) hu with h1 | h1
      · exact hpre i h1
      · have := h.anc_lt h1; omega
    · intro i hi his hu
      by_cases hij : i = j
      · rw [hij]; exact hj
      rcases hw i his hij hu with h1 | h1
      · have := h.anc_lt h1; omega
      · cases hDi : D i with
        | false => rfl
        | true => rw [hdown j i hDi h1] at hj; cases hj

theorem gX {u : Chg} {H : aB} {l : Lab} {o : AO} (h : upd u H l = some o) : u.has l ∨ H l = some o := by
  by_cases hu : u.has l
  · exact .inl hu
  · rw [aR hu] at h; exact .inr h
theorem jB {D : Nat → Bool} {l : Lab} {o : AO} : ∀ k, stH rc D H0 k l = some o → H0 l ≠ none ∨ ∃ i, i < k ∧ (rc i).u.has l
  | 0, h => .inl (by simp only [stH] at h; rw [h]; simp)
  | k + 1, h => by
    simp only [stH] at h
    split at h
    · rcases gX h with h1 | h1
      · exact .inr ⟨k, by omega, h1⟩
      · rcases jB k h1 with h2 | ⟨i, hi, h2⟩
        · exact .inl h2
        · exact .inr ⟨i, by omega, h2⟩
    · rcases jB k h with h2 | ⟨i, hi, h2⟩
      · exact .inl h2
      · exact .inr ⟨i, by omega, h2⟩
/-- a label that a region changes was there, or is one of its new ones -/
theorem RegOk.lab (h : RegOk P ops n rc r0 H0 W) (i : Nat) (hi : i < ops.size) {l : Lab} (hu : (rc i).u.has l) : H0 l ≠ none ∨ W l := by
  induction i using Nat.strongRecOn with
  | _ i ih =>
    obtain ⟨o, ho⟩ : ∃ o, ops[i]? = some o := ⟨_, Array.getElem?_eq_getElem hi⟩
    cases hs : (rc i).skip with
    | true => rw [(h.skip i o ho hs).2.1] at hu; obtain ⟨p, hp, _⟩ := hu; cases hp
    | false =>
      rcases (h.run i o ho hs).1 l hu with h1 | h1
      · have : ∃ o', stH rc (fun _ => true) H0 i l = some o' := by
          revert h1
          cases (rc i).foot with
          | none => intro h1; exact Option.ne_none_iff_exists'.1 h1
          | some ls => simp only [restr]; split <;> intro h1 <;> first | exact Option.ne_none_iff_exists'.1 h1 | exact absurd rfl h1
        obtain ⟨o', ho'⟩ := this
        rcases jB i ho' with h2 | ⟨k, hk, h2⟩
        · exact .inl h2
        · exact ih k hk (by omega) h2
      · exact .inr (h.wid i hi l h1)

/-- WHATEVER ORDER IS PICKED. -/
theorem region_any {B : Nat} {rr : Option Nat} (h : RegOk P ops n rc r0 H0 W) {ρ0 : aH} {R0 : Imm} {w0 : World} (h0 : Rep H0 ρ0 R0 w0) (hf0 : ∀ l, W l → ρ0 l = none) {Q : Exit → Act → World → Prop}
    (hQ : ∀ a ρ R w, Fut H0 ρ0 R0 w0 W ρ R w → RepS n B (stR ops rc (fun _ => true) r0 ops.size) (stH rc (fun _ => true) H0 ops.size) ρ R a w → Q .normal a w) :
    ∀ (fuel : Nat) (listed : Array Bool) (a : Act) (w : World) (ρ : aH) (R : Imm), listed.size = ops.size →
      Fut H0 ρ0 R0 w0 W ρ R w → RepS n B (stR ops rc (fun i => listed.getD i false) r0 ops.size) (stH rc (fun i => listed.getD i false) H0 ops.size) ρ R a w →
      (∀ i, i < ops.size → listed.getD i false = false → ∀ l, Under (rc i).q l → ρ l = none) →
      (∀ i k, listed.getD k false = true → Anc ops i k → listed.getD i false = true) →
      (listed.toList.filter (!·)).length ≤ fuel → wpAnyIn (Fw rr) 0 P .any ops Q fuel listed a w := by
  intro fuel
  -- when nothing is ready everything is done
  have done : ∀ listed : Array Bool, listed.size = ops.size → Region.ready .any ops listed = [] → ∀ i, i < ops.size → listed.getD i false = true := by
    intro listed hsz hr i
    induction i using Nat.strongRecOn with
    | _ i ih =>
      intro hi
      cases hl : listed.getD i false with
      | true => rfl
      | false =>
        have : i ∈ Region.ready .any ops listed := by
          rw [mem_ready]
          refine ⟨?_, ops[i], Array.getElem?_eq_getElem hi, fun e he hb => ?_⟩
          · have : i < listed.size := by omega
            simp [this] at hl ⊢
            exact hl
          · have := h.back i _ e (Array.getElem?_eq_getElem hi) he hb
            exact ih e.on this (by omega)
        rw [hr] at this; cases this
  have fin : ∀ (listed : Array Bool) (a : Act) (w : World) (ρ : aH) (R : Imm), (∀ i, i < ops.size → listed.getD i false = true) → Fut H0 ρ0 R0 w0 W ρ R w →
      RepS n B (stR ops rc (fun i => listed.getD i false) r0 ops.size) (stH rc (fun i => listed.getD i false) H0 ops.size) ρ R a w → Q .normal a w := by
    intro listed a w ρ R hall hF hS
    refine hQ a ρ R w hF ?_
    have e1 : ∀ k, k ≤ ops.size → stR ops rc (fun i => listed.getD i false) r0 k = stR ops rc (fun _ => true) r0 k := by
      intro k
      induction k with
      | zero => intro _; rfl
      | succ k ih => intro hk; simp only [stR, hall k (by omega), ih (by omega)]
    have e2 : ∀ k, k ≤ ops.size → stH rc (fun i => listed.getD i false) H0 k = stH rc (fun _ => true) H0 k := by
      intro k
      induction k with
      | zero => intro _; rfl
      | succ k ih => intro hk; simp only [stH, hall k (by omega), ih (by omega)]
    rwa [e1 _ (Nat.le_refl _), e2 _ (Nat.le_refl _)] at hS
  induction fuel with
  | zero =>
    intro listed a w ρ R hsz hF hS hfr hdown hlen
    have hall : ∀ i, i < ops.size → listed.getD i false = true := by
      intro i hi
      have h0 : listed.toList.filter (!·) = [] := List.length_eq_zero_iff.1 (by omega)
      have hi' : i < listed.size := by omega
      have hm : listed[i] ∈ listed.toList := by simp
      have := List.filter_eq_nil_iff.1 h0 _ hm
      simpa [hi'] using this
    refine ⟨?_, fin listed a w ρ R hall hF hS⟩
    rw [List.eq_nil_iff_forall_not_mem]
    intro i hi
    obtain ⟨h1, o, ho, _⟩ := mem_ready.1 hi
    have hi' : i < ops.size := (Array.getElem?_eq_some_iff.1 ho).1
    have h2 := hall i hi'
    have hi'' : i < listed.size := by omega
    simp [hi''] at h1 h2
    rw [h1] at h2; cases h2
  | succ fuel ih =>
    intro listed a w ρ R hsz hF hS hfr hdown hlen
    refine ⟨fun hr => fin listed a w ρ R (done listed hsz hr) hF hS, fun j hj => ?_⟩
    obtain ⟨h1, o, ho, hpre⟩ := mem_ready.1 hj
    have hjs : j < ops.size := (Array.getElem?_eq_some_iff.1 ho).1
    have hjl : j < listed.size := by omega
    have hj0 : listed.getD j false = false := by simp [hjl] at h1 ⊢; exact h1
    -- all that it waits for is done
    have hanc : ∀ i, Anc ops i j → listed.getD i false = true := by
      intro i hi
      generalize hk : j = k at hi
      induction hi with
      | step ho' he hb => subst hk; rw [ho] at ho'; cases ho'; exact hpre _ he hb
      | trans h1 h2 _ ih2 => exact hdown _ _ (ih2 hk) h1
    obtain ⟨hlr, hlh⟩ := h.looks (D := fun i => listed.getD i false) ho hj0 hanc hdown
    have hlook : nC ops o (stR ops rc (fun _ => true) r0 j) ρ R a := fun t ht y hy => hS.regs t y (by rw [hlr t ht]; exact hy)
    -- the next done set
    have hadd : (fun i => (listed.setIfInBounds j true).getD i false) = a7 (fun i => listed.getD i false) j := by
      funext i
      simp only [a7]
      by_cases hij : i = j
      · subst hij; simp [hjl]
      · rw [getD_set_ne false (Ne.symm hij)]
        simp [hij]
    have hlaterR : ∀ i (oi : Oper), j < i → ops[i]? = some oi → listed.getD i false = true → ∀ d, o.dst = some d → oi.dst ≠ some d := by
      intro i oi hji hoi hDi d hd
      by_cases h2 : Anc ops j i
      · rw [hdown j i hDi h2] at hj0; cases hj0
      have h3 : ¬ Anc ops i j := fun e => by have := h.anc_lt e; omega
      exact fun e => (Oper.apart_spec (h.regs j i o oi (by omega) ho hoi h2 h3)).2.1 d hd e
    have hlaterH : ∀ i l, j < i → i < ops.size → listed.getD i false = true → (rc j).u.has l → ¬ (rc i).u.has l := by
      intro i l hji his hDi huj hui
      have h2 : ¬ Anc ops j i := fun e => by rw [hdown j i hDi e] at hj0; cases hj0
      have h3 : ¬ Anc ops i j := fun e => by have := h.anc_lt e; omega
      obtain ⟨oi, hoi⟩ : ∃ o, ops[i]? = some o := ⟨_, Array.getElem?_eq_getElem his⟩
      -- l is in the footprint of the one, or of the other
      cases hsj : (rc j).skip with
      | true => rw [(h.skip j o ho hsj).2.1] at huj; obtain ⟨p, hp, _⟩ := huj; cases hp
      | false =>
        cases hsi : (rc i).skip with
        | true => rw [(h.skip i oi hoi hsi).2.1] at hui; obtain ⟨p, hp, _⟩ := hui; cases hp
        | false =>
          rcases (h.run j o ho hsj).1 l huj with h4 | h4
          · exact h4 (h.heap i j (by omega) his hjs h3 h2 l hui)
          · rcases (h.run i oi hoi hsi).1 l hui with h5 | h5
            · exact h5 (h.heap j i (by omega) hjs his h2 h3 l huj)
            · exact h.win j i (by omega) hjs his l h4 h5
    have hR' := oQ (rc := rc) (r0 := r0) (D := fun i => listed.getD i false) hj0 ho hlaterR ops.size
    have hH' := q5 (rc := rc) (H0 := H0) (D := fun i => listed.getD i false) (ops := ops) hj0 hlaterH ops.size (Nat.le_refl _)
    rw [if_pos hjs] at hR' hH'
    have hsz' : (listed.setIfInBounds j true).size = ops.size := by simpa using hsz
    have hdown' : ∀ i k, (listed.setIfInBounds j true).getD k false = true → Anc ops i k → (listed.setIfInBounds j true).getD i false = true := by
      intro i k hk ha
      have e := congrFun hadd
      rw [e] at hk ⊢
      simp only [a7, Bool.or_eq_true, beq_iff_eq] at hk ⊢
      rcases hk with rfl | hk
      · exact .inr (hanc i ha)
      · exact .inr (hdown i k hk ha)
    have hlen' : ((listed.setIfInBounds j true).toList.filter (!·)).length ≤ fuel := by
      have : ∀ (l : List Bool) (j : Nat) (hj : j < l.length), l[j] = false → ((l.set j true).filter (!·)).length + 1 = (l.filter (!·)).length := by
        intro l
        induction l with
        | nil => intro j hj; simp at hj
        | cons b l ihl =>
          intro j hj hb
          cases j with
          | zero => simp at hb; subst hb; simp
          | succ j =>
            have := ihl j (by simpa using hj) (by simpa using hb)
            cases b <;> simp at this ⊢ <;> omega
      have h2 := this listed.toList j (by simpa using hjl) (by simpa [hjl] using hj0)
      have h3 : (listed.setIfInBounds j true).toList = listed.toList.set j true := by simp
      rw [h3]
      omega
    unfold wpOpIn
    simp only [ho]
    cases hsk : (rc j).skip with
    | true =>
      obtain ⟨hx, hu, hw⟩ := h.skip j o ho hsk
      rw [hw ρ R a hlook hS.size]
      simp only [Bool.false_eq_true, if_false]
      refine ⟨fun _ _ => trivial, ih _ _ w ρ R hsz' hF ?_ ?_ hdown' hlen'⟩
      · rw [hadd, hR', hH', hu, hx]
        exact hS.put (u := []) (fun t ht => h.dst j o t ho ht) (Fut.refl _ _ _ _ fun _ => False) (fun l ⟨p, hp, _⟩ => by cases hp) (.tuple [] #[] rfl (fun i x hx => by simp at hx)) hS.heap
      · intro i hi hl l
        refine hfr i hi ?_ l
        have e := congrFun hadd i
        rw [e] at hl
        simp only [a7, Bool.or_eq_false_iff] at hl
        exact hl.2
    | false =>
      obtain ⟨hlab, hrun⟩ := h.run j o ho hsk
      obtain ⟨hw, hdoes⟩ := hrun ρ R a hlook hS.size
      rw [hw]
      simp only [if_true]
      have hd2 := hdoes.frame jI hlh hlab
      refine hd2 w hS.heap (fun l h1 => hfr j hjs hj0 l h1) _ _ Q ?_
      rintro v w' ⟨ρ', R', hF', hx, hRep⟩
      refine ih _ _ w' ρ' R' hsz' (hF.trans h0 hF' ?_ (fun _ h => h) (h.wid j hjs)) ?_ ?_ hdown' hlen'
      · intro k o' hk
        rcases jB ops.size hk with h2 | ⟨i, hi, h2⟩
        · exact .inl h2
        · rcases h.lab i hi h2 with h3 | h3
          · exact .inl h3
          · exact .inr (hf0 k h3)
      · rw [hadd, hR', hH']
        refine hS.put (fun t ht => h.dst j o t ho ht) hF' (fun l hl => ?_) hx hRep
        rcases hlab l hl with h2 | h2
        · obtain ⟨ob, hob⟩ := Option.ne_none_iff_exists'.1 h2
          exact .inl (by rw [hlh l ob hob]; simp)
        · exact .inr (hfr j hjs hj0 l h2)
      · intro i hi hl l hl1
        have e := congrFun hadd i
        rw [e] at hl
        simp only [a7, Bool.or_eq_false_iff, beq_eq_false_iff_ne] at hl
        have h5 := hfr i hi hl.2 l hl1
        cases hρ : ρ' l with
        | none => rfl
        | some L =>
          rcases hF'.win l L hρ with h6 | ⟨h6, _⟩
          · rw [h5] at h6; cases h6
          · exact absurd h6 (h.win i j hl.1 hi hjs l hl1)

/-- a region that draws its order -/
theorem wp_region_am {B : Nat} {rr : Option Nat} (hm : P.follows .mixedOrders = true) (h : RegOk P ops n rc r0 H0 W) {ρ : aH} {R : Imm} {a : Act} {w : World} (hS : RepS n B r0 H0 ρ R a w) (hf : ∀ l, W l → ρ l = none) {id : Nat} {Q : Exit → Act → World → Prop}
    (hQ : ∀ a ρ' R' w', Fut H0 ρ R w W ρ' R' w' → RepS n B (stR ops rc (fun _ => true) r0 ops.size) (stH rc (fun _ => true) H0 ops.size) ρ' R' a w' → Q .normal a w') : (Code.region id ops true).wpIn (Fw rr) 0 P Q a w := by
  refine wpIn_region_any hm ?_
  have hd : Rep H0 ρ R { w with drawn := w.drawn + 1 } := ⟨hS.heap.own, hS.heap.sep, hS.heap.dis, hS.heap.imm⟩
  have hfalse : ∀ i : Nat, (Array.replicate ops.size false).getD i false = false := by
    intro i; simp [Array.getD]
  have hfun : (fun i : Nat => (Array.replicate ops.size false).getD i false) = fun _ => false := funext hfalse
  have e1 : ∀ k, stR ops rc (fun _ => false) r0 k = r0 := by intro k; induction k with | zero => rfl | succ k ih => simp [stR, ih]
  have e2 : ∀ k, stH rc (fun _ => false) H0 k = H0 := by intro k; induction k with | zero => rfl | succ k ih => simp [stH, ih]
  refine region_any (B := B) h (w0 := { w with drawn := w.drawn + 1 }) hd hf (Q := Q) ?_ ops.size (Array.replicate ops.size false) a _ ρ R (by simp) (Fut.refl _ _ _ _ _) ?_ ?_ ?_ ?_
  · intro a' ρ' R' w' hF hS'
    exact hQ a' ρ' R' w' ⟨hF.ext, hF.win, hF.new, hF.os, hF.tape, hF.output, hF.size, hF.frame⟩ hS'
  · rw [hfun, e1, e2]
    exact ⟨hS.size, hS.defers, hS.regs, hd⟩
  · intro i hi _ l h1
    exact hf l (h.wid i hi l h1)
  · intro i k hk
    rw [hfalse k] at hk; cases hk
  · simp
end
end Go.Proofs.Ytigjoggpaamodaa
/-! The abstract machine: what makes an object, what changes one, what only reads. -/
namespace Go.Proofs.Ytigjoggpaamodaa
set_option linter.unusedVariables false
set_option linter.unusedSimpArgs false

def _root_.Go.World.setB (w : World) (b : Nat) (O : Obj) : World := { w with heap := w.heap.setIfInBounds b O }
theorem g7 {w : World} {b : Nat} {O' : Obj} (h : w.heap[b]? = some O') (O : Obj) : (w.setB b O).heap[b]? = some O := by
  have := (Array.getElem?_eq_some_iff.1 h).1
  simp [World.setB, this]
theorem b6 (w : World) {b c : Nat} (O : Obj) (h : c ≠ b) : (w.setB b O).heap[c]? = w.heap[c]? := by
  simp [World.setB, Ne.symm h]
theorem nQ (w : World) (b : Nat) (O : Obj) : (w.setB b O).heap.size = w.heap.size := by simp [World.setB]
theorem alloc_at (w : World) (O : Obj) : (w.alloc O).heap[w.heap.size]? = some O := by show (w.heap.push O)[w.heap.size]? = _; simp
theorem cB (w : World) (O : Obj) {b : Nat} (h : b ≠ w.heap.size) : (w.alloc O).heap[b]? = w.heap[b]? := by
  show (w.heap.push O)[b]? = _
  simp [Array.getElem?_push, h]
theorem eQ {w : World} {b : Nat} {O : Obj} (h : w.heap[b]? = some O) : b < w.heap.size := (Array.getElem?_eq_some_iff.1 h).1

/-- a new object -/
theorem fR {H : aB} {ρ : aH} {R : Imm} {w : World} (hR : Rep H ρ R w) {W : Lab → Prop} {nx : Lab} (hfr : ρ nx = none) (hn : W nx) {O : Obj} {o : AO} {L : Loc} (hb : L.blk = w.heap.size)
    (ho : RepO ρ R L o O) : Fut H ρ R w W (fun l => if l = nx then some L else ρ l) R (w.alloc O) ∧ Rep (upd [(nx, some o)] H) (fun l => if l = nx then some L else ρ l) R (w.alloc O) := by
  have hext : Ext ρ (fun l => if l = nx then some L else ρ l) R R := ⟨fun l K hl => by
    have : l ≠ nx := fun e => by subst e; rw [hfr] at hl; cases hl
    simp [this, hl], fun _ _ h => h⟩
  constructor
  · refine ⟨hext, fun l K hl => ?_, fun _ _ h => .inl h, rfl, rfl, rfl, by simp, fun b hb' _ => cB _ _ (by omega)⟩
    split at hl
    · cases hl; rename_i e; subst e; exact .inr ⟨hn, .inl (by omega)⟩
    · exact .inl hl
  · have hHn : H nx = none := by
      cases h : H nx with
      | none => rfl
      | some o' => obtain ⟨L', O', h1, _⟩ := hR.own nx o' h; rw [hfr] at h1; cases h1
    have old : ∀ l o' K, l ≠ nx → H l = some o' → ρ l = some K → K.blk < w.heap.size := fun l o' K _ h h' => hR.lt h h'
    refine ⟨fun l o' hl => ?_, fun l l' o1 o2 L1 L2 h1 h2 h3 h4 h5 => ?_, fun l o' K hl hK => ?_, fun b O' h => ?_⟩
    · simp only [upd] at hl
      split at hl
      · cases hl; rename_i e; subst e
        exact ⟨L, O, by simp, by rw [hb]; exact alloc_at _ _, ho.mono hext⟩
      · rename_i hne
        obtain ⟨K, O', h1, h2, h3⟩ := hR.own l o' hl
        exact ⟨K, O', by simp [hne, h1], by rw [cB _ _ (Nat.ne_of_lt (eQ h2))]; exact h2, h3.mono hext⟩
    · simp only [upd] at h1 h2
      by_cases e1 : l = nx <;> by_cases e2 : l' = nx
      · rw [e1, e2]
      · simp only [e1, if_true] at h3; cases h3
        simp only [e2, if_false] at h2 h4
        have := old l' o2 L2 e2 h2 h4; omega
      · simp only [e2, if_true] at h4; cases h4
        simp only [e1, if_false] at h1 h3
        have := old l o1 L1 e1 h1 h3; omega
      · simp only [e1, e2, if_false] at h1 h2 h3 h4
        exact hR.sep l l' o1 o2 L1 L2 h1 h2 h3 h4 h5
    · simp only [upd] at hl
      by_cases e1 : l = nx
      · simp only [e1, if_true] at hK; cases hK
        cases h : R L.blk with
        | none => rfl
        | some O' => have := eQ (hR.imm _ _ h); omega
      · simp only [e1, if_false] at hl hK
        exact hR.dis l o' K hl hK
    · have h1 := hR.imm b O' h
      rw [cB _ _ (Nat.ne_of_lt (eQ h1))]; exact h1

/-- an object that changes -/
theorem k6 {H : aB} {ρ : aH} {R : Imm} {w : World} (hR : Rep H ρ R w) {l : Lab} {W : Lab → Prop} {o o' : AO} {L : Loc} {O O' : Obj} (hl : H l = some o) (hL : ρ l = some L) (hO : w.heap[L.blk]? = some O) (ho : RepO ρ R L o' O') :
    Fut H ρ R w W ρ R (w.setB L.blk O') ∧ Rep (upd [(l, some o')] H) ρ R (w.setB L.blk O') := by
  constructor
  · exact ⟨.refl _ _, fun _ _ h => .inl h, fun _ _ h => .inl h, rfl, rfl, rfl, by rw [nQ]; exact Nat.le_refl _, fun b _ hno => b6 _ _ (fun e => hno l o L hl hL e.symm)⟩
  · refine ⟨fun k o2 hk => ?_, fun k k' o1 o2 L1 L2 h1 h2 h3 h4 h5 => ?_, fun k o2 K hk hK => ?_, fun b O2 h => ?_⟩
    · simp only [upd] at hk
      split at hk
      · cases hk; rename_i e; subst e
        exact ⟨L, O', hL, g7 hO O', ho⟩
      · rename_i hne
        obtain ⟨K, O2, h1, h2, h3⟩ := hR.own k o2 hk
        refine ⟨K, O2, h1, ?_, h3⟩
        rw [b6 _ _ (fun e => hne (hR.sep k l o2 o K L hk hl h1 hL e))]; exact h2
    · have g : ∀ k o1, upd [(l, some o')] H k = some o1 → ∃ o2, H k = some o2 := by
        intro k o1 h
        simp only [upd] at h
        split at h
        · rename_i e; subst e; exact ⟨o, hl⟩
        · exact ⟨o1, h⟩
      obtain ⟨p1, q1⟩ := g k o1 h1
      obtain ⟨p2, q2⟩ := g k' o2 h2
      exact hR.sep k k' p1 p2 L1 L2 q1 q2 h3 h4 h5
    · simp only [upd] at hk
      split at hk
      · rename_i e; subst e; rw [hL] at hK; cases hK; exact hR.dis k o L hl hL
      · exact hR.dis k o2 K hk hK
    · rw [b6 _ _ (fun e => by rw [e] at h; rw [hR.dis l o L hl hL] at h; cases h)]
      exact hR.imm b O2 h

/-- a label that is let go -/
theorem Rep.drop {H G : aB} {ρ : aH} {R : Imm} {w : World} (h : Rep H ρ R w) (hG : ∀ l o, G l = some o → H l = some o) : Rep G ρ R w :=
  ⟨fun l o e => h.own l o (hG l o e), fun l l' o o' L L' e e' => h.sep l l' o o' L L' (hG l o e) (hG l' o' e'), fun l o L e => h.dis l o L (hG l o e), h.imm⟩

/-- what an operation of the abstract machine yields -/
structure Res where
  x : AV
  u : Chg
  foot : Option (List Lab)
def Res.pure (x : AV) : Res := ⟨x, [], some []⟩

/-- an operation's soundness -/
def aV (P : Program) (o : Oper) (a : Act) (ρ : aH) (R : Imm) (H : aB) (q : Lab) (r : Res) : Prop :=
  (∀ l, r.u.has l → restr H r.foot l ≠ none ∨ Under q l) ∧ Does (opC P o a) (restr H r.foot) r.u (Under q) ρ R r.x
theorem aU {P : Program} {o : Oper} {a : Act} {w w' : World} {v : Value} {K : Value → World → Prop} (h : (execOp a.eval o).run P w = .ok (.value v) w') (hK : K v w') : opC P o a w K := by
  intro r next Q hn
  refine ⟨fun _ _ => trivial, ?_⟩
  rw [Oper.semAt_eq _ _ _ (fun c hc => ?_), h]
  · exact hn v w' hK
  · simp only [execOp, hc] at h
    simp only [Sem.run_bind] at h
    generalize (resolve a.eval c o.type).run P w = z at h
    cases z <;> simp [Result.andThen] at h
theorem opC_skip {P : Program} {o : Oper} {a : Act} {w w' : World} {K : Value → World → Prop} (h : (execOp a.eval o).run P w = .ok .skip w') (hK : K undef w') : opC P o a w K := by
  intro r next Q hn
  refine ⟨fun _ _ => trivial, ?_⟩
  rw [Oper.semAt_eq _ _ _ (fun c hc => ?_), h]
  · exact hn undef w' hK
  · simp only [execOp, hc] at h
    simp only [Sem.run_bind] at h
    generalize (resolve a.eval c o.type).run P w = z at h
    cases z <;> simp [Result.andThen] at h
theorem Under.self (q : Lab) : Under q q := ⟨[], rfl⟩
theorem aF (l : Lab) : ¬ Chg.has [] l := fun ⟨p, hp, _⟩ => by cases hp
theorem bC {l k : Lab} {o : Option AO} (h : Chg.has [(k, o)] l) : l = k := by
  obtain ⟨p, hp, e⟩ := h
  simp at hp; subst hp; exact e.symm
theorem aE {P : Program} {o : Oper} {a : Act} {ρ : aH} {R : Imm} {H : aB} {q : Lab} {x : AV} {v : Value} (h : ∀ w, (execOp a.eval o).run P w = .ok (.value v) w) (hx : RepV ρ R x v) : aV P o a ρ R H q (.pure x) :=
  ⟨fun l hl => absurd hl (aF l), fun w hR _ => aU (h w) ⟨ρ, R, Fut.refl _ _ _ _ _, hx, hR⟩⟩
/-- what reads one object -/
theorem c7 {P : Program} {o : Oper} {a : Act} {ρ : aH} {R : Imm} {H : aB} {q l : Lab} {x : AV} {ob : AO} (hl : H l = some ob)
    (h : ∀ w L O, w.heap[L.blk]? = some O → ρ l = some L → RepO ρ R L ob O → ∃ v, (execOp a.eval o).run P w = .ok (.value v) w ∧ RepV ρ R x v) : aV P o a ρ R H q ⟨x, [], some [l]⟩ := by
  refine ⟨fun l hl => absurd hl (aF l), fun w hR _ => ?_⟩
  obtain ⟨L, O, h1, h2, h3⟩ := hR.own l ob (by simp [restr, hl])
  obtain ⟨v, hv, hx⟩ := h w L O h2 h1 h3
  exact aU hv ⟨ρ, R, Fut.refl _ _ _ _ _, hx, hR⟩
/-- what reads memory that nobody changes -/
theorem sound_imm {P : Program} {o : Oper} {a : Act} {ρ : aH} {R : Imm} {H : aB} {q : Lab} {x : AV}
    (h : ∀ w : World, (∀ b O, R b = some O → w.heap[b]? = some O) → ∃ v, (execOp a.eval o).run P w = .ok (.value v) w ∧ RepV ρ R x v) : aV P o a ρ R H q (.pure x) := by
  refine ⟨fun l hl => absurd hl (aF l), fun w hR _ => ?_⟩
  obtain ⟨v, hv, hx⟩ := h w hR.imm
  exact aU hv ⟨ρ, R, Fut.refl _ _ _ _ _, hx, hR⟩
/-- what makes one object -/
theorem c9 {P : Program} {o : Oper} {a : Act} {ρ : aH} {R : Imm} {H : aB} {nx : Lab} {x : AV} {ob : AO} {O : Obj} (top ext : Nat)
    (h : ∀ w, ∃ v, (execOp a.eval o).run P w = .ok (.value v) (w.alloc O) ∧ ∀ ρ', Ext ρ ρ' R R → ρ' nx = some ⟨w.heap.size, 0, top, ext⟩ → RepV ρ' R x v) (ho : ∀ b, RepO ρ R ⟨b, 0, top, ext⟩ ob O) : aV P o a ρ R H nx ⟨x, [(nx, some ob)], some []⟩ := by
  refine ⟨fun l hl => .inr (by rw [bC hl]; exact .self _), fun w hR hf => ?_⟩
  obtain ⟨v, hv, hx⟩ := h w
  obtain ⟨hF, hR'⟩ := fR hR (hf nx (Under.self _)) (Under.self nx) (O := O) (o := ob) (L := ⟨w.heap.size, 0, top, ext⟩) rfl (ho _)
  exact aU hv ⟨_, R, hF, hx _ hF.ext (by simp), hR'⟩
/-- what changes one object -/
theorem jU {P : Program} {o : Oper} {a : Act} {ρ : aH} {R : Imm} {H : aB} {q l : Lab} {ob ob' : AO} (hl : H l = some ob)
    (h : ∀ w L O, w.heap[L.blk]? = some O → ρ l = some L → RepO ρ R L ob O → ∃ O', (execOp a.eval o).run P w = .ok .skip (w.setB L.blk O') ∧ RepO ρ R L ob' O') : aV P o a ρ R H q ⟨.tuple [], [(l, some ob')], some [l]⟩ := by
  refine ⟨fun k hk => .inl (by rw [bC hk]; simp [restr, hl]), fun w hR _ => ?_⟩
  obtain ⟨L, O, h1, h2, h3⟩ := hR.own l ob (by simp [restr, hl])
  obtain ⟨O', hv, ho⟩ := h w L O h2 h1 h3
  obtain ⟨hF, hR'⟩ := k6 (W := Under q) hR (show restr H (some [l]) l = some ob by simp [restr, hl]) h1 h2 ho
  exact opC_skip hv ⟨ρ, R, hF, .tuple [] #[] rfl (fun i x hx => by simp at hx), hR'⟩

/-- cells of a row -/
def AO.cells (o : AO) (i j n : Nat) : Option (List AV) := match o with
  | .rows _e rs => match rs[i]? with
    | some r => if j + n ≤ r.length then some ((r.drop j).take n) else none
    | none => none
  | _ => none
theorem dD {e i j n : Nat} {rs : List (List AV)} {cs : List AV} (h : (AO.rows e rs).cells i j n = some cs) : cs.length = n ∧ ∀ (k : Nat) x, cs[k]? = some x → aC rs i (j + k) = some x := by
  simp only [AO.cells] at h
  split at h
  · rename_i r hr
    split at h
    · rename_i hle
      cases h
      refine ⟨by simp; omega, fun k x hk => ?_⟩
      have hkn : k < n := by
        rcases Nat.lt_or_ge k n with h1 | h1
        · exact h1
        · rw [List.getElem?_eq_none (by simp; omega)] at hk; cases hk
      rw [List.getElem?_take, if_pos hkn, List.getElem?_drop] at hk
      simp [aC, hr, hk]
    · cases h
  · cases h
theorem cO {w : World} {b : Nat} {c : Array Value} {T : TypeId} {fz : Nat × Nat} (h : w.heap[b]? = some (.cells c T fz)) (k : Nat) : w.cell? ⟨b, k, none⟩ = c[k]? := by simp [World.cell?, h]
theorem a8 (b o n : Nat) : (⟨b, o, none⟩ : Addr).add n = ⟨b, o + n, none⟩ := by
  unfold Addr.add; split <;> simp_all
/-- the cells that a row's part has in memory -/
theorem oK {ρ : aH} {R : Imm} {L : Loc} {ob : AO} {O : Obj} {i j n e : Nat} {cs : List AV} (ho : RepO ρ R L ob O) (hc : ob.cells i j n = some cs) (he : ∀ e' rs, ob = .rows e' rs → e' = e) {w : World} (hw : w.heap[L.blk]? = some O) :
    ∃ vs : List Value, vs.length = n ∧ (∀ k v, vs[k]? = some v → w.cell? ((⟨L.blk, L.off + (i * e + j), none⟩ : Addr).add k) = some v) ∧ ∀ (k : Nat) x, cs[k]? = some x → ∃ v, vs[k]? = some v ∧ RepV ρ R x v := by
  cases ob with
  | amap es bs ck => simp [AO.cells] at hc
  | bag es => simp [AO.cells] at hc
  | iter => simp [AO.cells] at hc
  | loop => simp [AO.cells] at hc
  | rows e' rs =>
    have := he e' rs rfl; subst this
    cases O <;> simp only [RepO] at ho
    rename_i c T fz
    obtain ⟨_, _, _, _, h5⟩ := ho
    obtain ⟨hlen, hget⟩ := dD hc
    refine ⟨(List.range n).map (fun k => c.getD (L.off + (i * e' + j) + k) undef), by simp, fun k v hk => ?_, fun k x hk => ?_⟩
    · have hkn : k < n := by
        rcases Nat.lt_or_ge k n with h1 | h1
        · exact h1
        · rw [List.getElem?_eq_none (by simp; omega)] at hk; cases hk
      have hx : ∃ x, cs[k]? = some x := ⟨_, List.getElem?_eq_getElem (by omega)⟩
      obtain ⟨x, hx⟩ := hx
      obtain ⟨v', hv', _⟩ := h5 i (j + k) x (hget k x hx)
      simp only [List.getElem?_map, List.getElem?_range hkn, Option.map_some, Option.some.injEq] at hk
      subst hk
      rw [a8, cO hw]
      rw [show L.off + (i * e' + j) + k = L.off + (i * e' + (j + k)) by omega]
      simp [Array.getD_eq_getD_getElem?, hv']
    · have hkn : k < n := by
        rcases Nat.lt_or_ge k n with h1 | h1
        · exact h1
        · rw [List.getElem?_eq_none (by omega)] at hk; cases hk
      obtain ⟨v', hv', hr⟩ := h5 i (j + k) x (hget k x hk)
      refine ⟨v', ?_, hr⟩
      simp only [List.getElem?_map, List.getElem?_range hkn, Option.map_some]
      rw [show L.off + (i * e' + j) + k = L.off + (i * e' + (j + k)) by omega]
      simp [Array.getD_eq_getD_getElem?, hv']
/-- the same of memory that nobody changes -/
theorem rQ {ρ : aH} {R : Imm} {b o e i j n : Nat} {rows : List (List AV)} {c : Array Value} {T : TypeId} {fz : Nat × Nat} {g : Nat → Nat → Value} {cs : List AV} (hcs : (AO.rows e rows).cells i j n = some cs)
    (hc : ∀ i j x, aC rows i j = some x → c[o + (i * e + j)]? = some (g i j)) (hr : ∀ i j x, aC rows i j = some x → RepV ρ R x (g i j)) {w : World} (hw : w.heap[b]? = some (.cells c T fz)) :
    ∃ vs : List Value, vs.length = n ∧ (∀ k v, vs[k]? = some v → w.cell? ((⟨b, o + (i * e + j), none⟩ : Addr).add k) = some v) ∧ ∀ (k : Nat) x, cs[k]? = some x → ∃ v, vs[k]? = some v ∧ RepV ρ R x v := by
  obtain ⟨hlen, hget⟩ := dD hcs
  refine ⟨(List.range n).map (fun k => g i (j + k)), by simp, fun k v hk => ?_, fun k x hk => ?_⟩
  · have hkn : k < n := by
      rcases Nat.lt_or_ge k n with h1 | h1
      · exact h1
      · rw [List.getElem?_eq_none (by simp; omega)] at hk; cases hk
    obtain ⟨x, hx⟩ : ∃ x, cs[k]? = some x := ⟨_, List.getElem?_eq_getElem (by omega)⟩
    have := hc i (j + k) x (hget k x hx)
    simp only [List.getElem?_map, List.getElem?_range hkn, Option.map_some, Option.some.injEq] at hk
    subst hk
    rw [a8, cO hw, show o + (i * e + j) + k = o + (i * e + (j + k)) by omega]
    exact this
  · have hkn : k < n := by
      rcases Nat.lt_or_ge k n with h1 | h1
      · exact h1
      · rw [List.getElem?_eq_none (by omega)] at hk; cases hk
    exact ⟨g i (j + k), by simp [List.getElem?_map, List.getElem?_range hkn], hr i (j + k) x (hget k x hk)⟩
theorem RepV.agg_list {ρ : aH} {R : Imm} {cs : List AV} {vs : List Value} (hl : vs.length = cs.length) (h : ∀ (k : Nat) x, cs[k]? = some x → ∃ v, vs[k]? = some v ∧ RepV ρ R x v) : RepV ρ R (.agg cs) (.agg vs.toArray) := by
  refine .agg cs vs.toArray (by simp [hl]) fun i x hx => ?_
  obtain ⟨v, hv, hr⟩ := h i x hx
  simpa [Array.getD_eq_getD_getElem?, hv] using hr
end Go.Proofs.Ytigjoggpaamodaa
/-! The abstract machine: its operations. -/
namespace Go.Proofs.Ytigjoggpaamodaa
set_option linter.unusedVariables false
set_option linter.unusedSimpArgs false

inductive Cls where
  | num | bool | ptr | slice | map | func
deriving DecidableEq
inductive CK where
  | int | bool | str
deriving DecidableEq
inductive AK where
  | move | pick
  | alloc (zero : List AV)
  | box
  | build (zero : List AV) (places : List (Nat × Nat))
  | buildSlice (e : Nat) (zero : List AV) (places : List (Nat × Nat))
  | load (n : Nat) (agg : Bool)
  | store (n : Nat)
  | nilCheck
  | bin (op : BinOp) (c : Cls)
  | un (op : UnOp)
  | conv (k : IntKind)
  | mkfn (f : Fn) (nf : Nat)
  | mkslice (e : Nat) (zero : List AV) (bytes : Nat)
  | slice (e : Nat) (lo hi mx : Bool)
  | fieldAddr (off : Nat)
  | field (off n : Nat) (agg : Bool)
  | indexAddr (e : Nat)
  | indexAddrA (e len : Nat)
  | extract (i : Nat)
  | len (c : Cls)
  | min | max
  | append (e bytes : Nat)
  | eqs (op : BinOp) (ks : List CK)
  | lookup (agg : Bool) (ks : List CK) (zero : AV) (ok : Bool)
  | mapUpdate (agg : Bool) (ks : List CK)
  | delete (agg : Bool) (ks : List CK)
  | mkmap
  | strAt
  | mrange | mnext | mentry
  | call
  | bad

def AV.cells : AV → List AV
  | .agg cs => cs
  | x => [x]
def putL (cs : List AV) (off : Nat) (v : List AV) : List AV := cs.take off ++ v ++ cs.drop (off + v.length)
def cA : List AV → List (Nat × Nat) → List AV → Option (List AV)
  | cs, [], [] => some cs
  | cs, (off, size) :: ps, x :: xs => if x.cells.length = size ∧ off + size ≤ cs.length then cA (putL cs off x.cells) ps xs else none
  | _, _, _ => none
def aG (agg : Bool) (cs : List AV) : Option AV := if agg then some (.agg cs) else match cs with
  | [x] => some x
  | _ => none
def inR (n : Int) : Bool := decide (-9223372036854775808 ≤ n) && decide (n ≤ 9223372036854775807)
def eU (k : IntKind) (n : Int) : Option AV := match k with
  | .i64 => if inR n then some (.int .i64 n) else none
  | k => some (.int k (k.wrap n))
def aZ (n : Nat) (agg : Bool) (x : AV) (H : aB) (_q : Lab) : Option Res := match x with
  | .ptr l e i j => match H l with
    | some (.rows e' rs) => if e = e' then ((AO.rows e' rs).cells i j n).bind fun cs => (aG agg cs).bind fun y => some ⟨y, [], some [l]⟩ else none
    | _ => none
  | .iptr e rows i j => ((AO.rows e rows).cells i j n).bind fun cs => (aG agg cs).bind fun y => some (.pure y)
  | _ => none
def dQ (n : Nat) (p x : AV) (H : aB) (_q : Lab) : Option Res := match p with
  | .ptr l e i j => match H l with
    | some (.rows e' rs) => if e = e' ∧ x.cells.length = n then match rs[i]? with
      | some r => if j + n ≤ r.length ∧ x.cells.all AV.one then some ⟨.tuple [], [(l, some (.rows e' (rs.set i (putL r j x.cells))))], some [l]⟩ else none
      | none => none
      else none
    | _ => none
  | _ => none
def kX (e : Nat) (rs : List (List AV)) (x : AV) (q : Lab) : Res := ⟨x, [(q, some (.rows e rs))], some []⟩
def bF (e : Nat) : Nat → List AV → List (List AV)
  | 0, _ => []
  | n + 1, l => l.take e :: bF e n (l.drop e)
def gW (op : BinOp) (k : IntKind) (a b : Int) : Option AV := match op with
  | .add => eU k (a + b)
  | .sub => eU k (a - b)
  | .mul => eU k (a * b)
  | .quo => if b = 0 then none else eU k (a.tdiv b)
  | .rem => if b = 0 then none else some (.int k (a.tmod b))
  | .and => some (.int k (k.wrap (BitVec.ofInt k.bits a &&& BitVec.ofInt k.bits b).toNat))
  | .or => some (.int k (k.wrap (BitVec.ofInt k.bits a ||| BitVec.ofInt k.bits b).toNat))
  | .xor => some (.int k (k.wrap (BitVec.ofInt k.bits a ^^^ BitVec.ofInt k.bits b).toNat))
  | .andNot => some (.int k (k.wrap (BitVec.ofInt k.bits a &&& ~~~ BitVec.ofInt k.bits b).toNat))
  | .eql => some (.bool (decide (a = b)))
  | .neq => some (.bool (!decide (a = b)))
  | .lss => some (.bool (decide (a < b)))
  | .leq => some (.bool (decide (a ≤ b)))
  | .gtr => some (.bool (decide (b < a)))
  | .geq => some (.bool (decide (b ≤ a)))
  | _ => none
def bQ (op : BinOp) (b : Bool) : Option AV := match op with
  | .eql => some (.bool b)
  | .neq => some (.bool (!b))
  | _ => none
def dP (op : BinOp) (c : Cls) (x y : AV) : Option AV := match x, y with
  | .int k a, .int k' b => match op with
    | .shl => if 0 ≤ b then some (.int k (k.wrap (a * 2 ^ (Nat.min b.toNat k.bits)))) else none
    | .shr => if 0 ≤ b then some (.int k (a.fdiv (2 ^ (Nat.min b.toNat k.bits)))) else none
    | op => if k = k' then gW op k a b else none
  | .str a, .str b => bQ op (a.toList == b.toList)
  | .bool a, .bool b => if c = .bool then bQ op (a == b) else none
  | .nilp, .nilp => if c = .ptr then bQ op true else none
  | .ptr .., .nilp | .nilp, .ptr .. | .iptr .., .nilp | .nilp, .iptr .. => if c = .ptr then bQ op false else none
  | .nils, .nils => if c = .slice then bQ op true else none
  | .sl .., .nils | .nils, .sl .. => if c = .slice then bQ op false else none
  | .nilm, .nilm => if c = .map then bQ op true else none
  | .map _, .nilm | .nilm, .map _ => if c = .map then bQ op false else none
  | .nilf, .nilf => if c = .func then bQ op true else none
  | .fn .., .nilf | .nilf, .fn .. => if c = .func then bQ op false else none
  | _, _ => none
def cD (e : Nat) (s i : AV) : Option AV := match s, i with
  | .sl l e' off len, .int _ n => if e = e' ∧ 0 ≤ n ∧ n < len then some (.ptr l e (off + n.toNat) 0) else none
  | .isl e' rows, .int _ n => if e = e' ∧ 0 ≤ n ∧ n < rows.length then some (.iptr e rows n.toNat 0) else none
  | _, _ => none
def gV (e len : Nat) (p i : AV) : Option AV := match p, i with
  | .ptr l e' i j, .int _ n => if 0 ≤ n ∧ n < len then some (.ptr l e' i (j + n.toNat * e)) else none
  | .iptr e' rows i j, .int _ n => if 0 ≤ n ∧ n < len then some (.iptr e' rows i (j + n.toNat * e)) else none
  | _, _ => none
def AV.len : AV → Option Nat
  | .nils | .sl0 => some 0
  | .sl _ _ _ n => some n
  | .isl _ rows => some rows.length
  | _ => none
def qM (c : Cls) (x : AV) (H : aB) (_q : Lab) : Option Res := match c, x with
  | .map, .map l => match H l with
    | some (.amap es _ _) => some ⟨.int .i64 es.length, [], some [l]⟩
    | _ => none
  | .map, .nilm => some (.pure (.int .i64 0))
  | .slice, x => x.len.map fun (n : Nat) => .pure (.int .i64 (n : Int))
  | .num, .str s => some (.pure (.int .i64 s.size))
  | _, _ => none
/-- s[lo:hi] -/
def kC (e : Nat) (s : AV) (lo hi : Int) : Option AV := match s with
  | .sl l e' off len => if e = e' ∧ 0 ≤ lo ∧ lo ≤ hi ∧ hi ≤ len then some (.sl l e (off + lo.toNat) (hi - lo).toNat) else none
  | .isl e' rows => if e = e' ∧ 0 ≤ lo ∧ lo ≤ hi ∧ hi ≤ rows.length then some (.isl e ((rows.drop lo.toNat).take (hi - lo).toNat)) else none
  | .nils => if lo = 0 ∧ hi = 0 then some .nils else none
  | .sl0 => if lo = 0 ∧ hi = 0 then some .sl0 else none
  | _ => none
def iC (s : AV) (lo hi mx : Int) : Option AV := if lo = 0 ∧ hi = 0 ∧ mx = 0 then match s with
  | .sl .. | .isl .. | .sl0 => some .sl0
  | .nils => some .nils
  | _ => none
  else none
def cY (e : Nat) (lo hi mx : Bool) (xs : List AV) : Option AV := match lo, hi, mx, xs with
  | false, false, false, [s] => s.len.bind fun (n : Nat) => kC e s 0 (n : Int)
  | true, false, false, [s, .int _ a] => s.len.bind fun (n : Nat) => kC e s a (n : Int)
  | false, true, false, [s, .int _ b] => kC e s 0 b
  | true, true, false, [s, .int _ a, .int _ b] => kC e s a b
  | true, true, true, [s, .int _ a, .int _ b, .int _ c] => iC s a b c
  | false, true, true, [s, .int _ b, .int _ c] => iC s 0 b c
  | _, _, _, _ => none
abbrev aQ := Nat → List AV → aB → Lab → Option Res
def kS (call : aQ) (xs : List AV) (H : aB) (q : Lab) : Option Res := match xs with
  | .fn (.func f) first captured :: args => call f (first ++ args ++ captured) H q
  | _ => none

def ceq : CK → AV → AV → Option Bool
  | .int, .int k a, .int k' b => if k = k' then some (decide (a = b)) else none
  | .bool, .bool a, .bool b => some (a == b)
  | .str, .str a, .str b => some (a == b)
  | _, _, _ => none
def m5 : List CK → List AV → List AV → Option Bool
  | [], _, _ => some true
  | k :: ks, x :: xs, y :: ys => (ceq k x y).bind fun b => (m5 ks xs ys).bind fun c => some (b && c)
  | _, _, _ => none
def AV.isAgg : AV → Bool
  | .agg _ => true
  | _ => false
/-- is it of that shape? -/
def bE (agg : Bool) (ks : List CK) (x : AV) : Bool := (x.isAgg == agg) && decide (x.cells.length = ks.length)
def gE (agg : Bool) (ks : List CK) (x y : AV) : Option Bool := if bE agg ks x && bE agg ks y then m5 ks x.cells y.cells else none
/-- the bR of a key: its place, and what it holds -/
def cM (agg : Bool) (ks : List CK) (k : AV) : List (AV × AV) → Nat → Option (Option (Nat × AV))
  | [], _ => some none
  | e :: es, i => (gE agg ks k e.1).bind fun b => if b then some (some (i, e.2)) else cM agg ks k es (i + 1)
/-- what stands at a key, whatever the order -/
def fY (agg : Bool) (ks : List CK) (k : AV) : List (AV × AV) → Option (List AV)
  | [] => some []
  | e :: es => (gE agg ks k e.1).bind fun b => (fY agg ks k es).map fun l => if b then e.2 :: l else l
def cJ (agg : Bool) (ks : List CK) (zero : AV) (ok : Bool) (m k : AV) (H : aB) : Option Res := if bE agg ks k then match m with
  | .nilm => some (.pure (if ok then .tuple [zero, .bool false] else zero))
  | .map l => match H l with
    | some (.amap es _bs _ck) => (cM agg ks k es 0).bind fun r => match r with
      | some (_, v) => some ⟨if ok then .tuple [v, .bool true] else v, [], some [l]⟩
      | none => some ⟨if ok then .tuple [zero, .bool false] else zero, [], some [l]⟩
    | some (.bag es) => (fY agg ks k es).bind fun r => match r with
      | [v] => some ⟨if ok then .tuple [v, .bool true] else v, [], some [l]⟩
      | [] => some ⟨if ok then .tuple [zero, .bool false] else zero, [], some [l]⟩
      | _ => none
    | _ => none
  | _ => none
  else none
def cC (agg : Bool) (ks : List CK) (m k v : AV) (H : aB) : Option Res := if bE agg ks k then match m with
  | .map l => match H l with
    | some (.amap es bs ck) => (cM agg ks k es 0).bind fun r => match r with
      | some (i, _) => some ⟨.tuple [], [(l, some (.amap (es.set i (k, v)) bs ck))], some [l]⟩
      | none => some ⟨.tuple [], [(l, some (.amap (es ++ [(k, v)]) (bs ++ [ck]) (ck + 1)))], some [l]⟩
    | _ => none
  | _ => none
  else none
def iD (agg : Bool) (ks : List CK) (m k : AV) (H : aB) : Option Res := if bE agg ks k then match m with
  | .nilm => some (.pure (.tuple []))
  | .map l => match H l with
    | some (.amap es bs ck) => (cM agg ks k es 0).bind fun r => match r with
      | some (i, _) => some ⟨.tuple [], [(l, some (.amap (es.eraseIdx i) (bs.eraseIdx i) ck))], some [l]⟩
      | none => some ⟨.tuple [], [], some [l]⟩
    | _ => none
  | _ => none
  else none
def pB (m : AV) (H : aB) (q : Lab) : Option Res := match m with
  | .nilm => some ⟨.ptr q 1 0 0, [(q, some (.iter none 0 [] 0))], some []⟩
  | .map l => match H l with
    | some (.amap _ _ ck) => some ⟨.ptr q 1 0 0, [(q, some (.iter (some l) ck [] ck))], some [l]⟩
    | _ => none
  | _ => none
def m7 (x : AV) (H : aB) : Option Res := match x with
  | .ptr r 1 0 0 => match H r with
    | some (.iter (some l) _ seen st) => match H l with
      | some (.amap es bs ck) => if ck = st then (seen.getLast?).bind fun b => (bs.idxOf? b).bind fun i => (es[i]?).map fun e => ⟨.tuple [e.1, e.2], [], some [r, l]⟩ else none
      | _ => none
    | _ => none
  | _ => none
def m6 (es : List (AV × AV)) (bs seen : List Nat) : List ((AV × AV) × Nat) := (es.zip bs).filter fun p => !seen.contains p.2
def qL (x : AV) (H : aB) : Option Res := match x with
  | .ptr r 1 0 0 => match H r with
    | some (.iter none _ _ _) => some ⟨.tuple [.bool false], [], some [r]⟩
    | some (.iter (some l) since seen st) => match H l with
      | some (.amap es bs ck) => if bs.all (fun b => decide (b < since)) = true ∧ since ≤ st then match m6 es bs seen with
          | [] => some ⟨.tuple [.bool false], [], some [r, l]⟩
          | [(e, b)] => some ⟨.tuple [.bool true, e.1, e.2], [(r, some (.iter (some l) since (seen ++ [b]) ck))], some [r, l]⟩
          | _ => none
        else none
      | _ => none
    | _ => none
  | _ => none
def AV.nonNil : AV → Bool
  | .ptr .. | .iptr .. | .fn (.func _) _ _ => true
  | _ => false
def cE (off : Nat) : AV → Option AV
  | .ptr l e i j => some (.ptr l e i (j + off))
  | .iptr e rows i j => some (.iptr e rows i (j + off))
  | _ => none
/-- what stands in a slice -/
def fF (e : Nat) (x : AV) (H : aB) : Option (List (List AV) × List Lab) := match x with
  | .nils | .sl0 => some ([], [])
  | .isl e' rows => if e = e' then some (rows, []) else none
  | .sl l e' off len => if len = 0 then some ([], []) else match H l with
    | some (.rows e2 rs) => if e = e' ∧ e' = e2 ∧ off + len ≤ rs.length then some ((rs.drop off).take len, [l]) else none
    | _ => none
  | _ => none
def dG (e bytes : Nat) (s x : AV) (H : aB) (q : Lab) : Option Res := (fF e x H).bind fun src =>
  if src.1.isEmpty then (match s with
    | .nils | .sl0 | .sl .. | .isl .. => some (.pure s)
    | _ => none)
  else match s with
    | .nils | .sl0 => if 0 < e ∧ src.1.length * bytes ≤ 140737488355328 ∧ src.1.length ≤ 4611686018427387904 then some ⟨.sl q e 0 src.1.length, [(q, some (.rows e src.1))], some src.2⟩ else none
    | .sl l e' off n => match H l with
      | some (.rows e2 rs) => if e = e' ∧ e' = e2 ∧ off + n ≤ rs.length ∧ 0 < e ∧ (n + src.1.length) * bytes ≤ 140737488355328 ∧ n + src.1.length ≤ 4611686018427387904 then
          some ⟨.sl q e 0 (n + src.1.length), [(q, some (.rows e ((rs.drop off).take n ++ src.1))), (l, none)], some (l :: src.2)⟩ else none
      | _ => none
    | _ => none
def aop (call : aQ) (k : AK) (xs : List AV) (H : aB) (q : Lab) : Option Res := match k, xs with
  | .move, [x] => some (.pure x)
  | .pick, [.bool c, a, b] => some (.pure (if c then a else b))
  | .alloc z, [] => some (kX z.length [z] (.ptr q z.length 0 0) q)
  | .box, [x] => if x.cells.all AV.one = true then some (kX x.cells.length [x.cells] (.ptr q x.cells.length 0 0) q) else none
  | .build z ps, xs => (cA z ps xs).map fun cs => .pure (.agg cs)
  | .buildSlice e z ps, xs => (cA z ps xs).bind fun cs => if e = 0 ∨ cs.length % e ≠ 0 ∨ cs.all AV.one = false then none else some (kX e (bF e (cs.length / e) cs) (.sl q e 0 (cs.length / e)) q)
  | .load n agg, [x] => aZ n agg x H q
  | .store n, [p, x] => dQ n p x H q
  | .nilCheck, [x] => if x.nonNil then some (.pure x) else none
  | .bin op c, [x, y] => (dP op c x y).map fun z => .pure z
  | .un .not, [.bool b] => some (.pure (.bool (!b)))
  | .un .neg, [.int k n] => (eU k (0 - n)).map fun z => .pure z
  | .conv k, [.int _ n] => (eU k n).map fun z => .pure z
  | .mkfn f nf, xs => if nf ≤ xs.length then some (.pure (.fn f (xs.take nf) (xs.drop nf))) else none
  | .mkslice e z bytes, [.int _ n, .int _ c] => if 0 < e ∧ 0 ≤ n ∧ n ≤ c ∧ c * bytes ≤ 281474976710656 ∧ c ≤ 9223372036854775807 then some (kX e (List.replicate c.toNat z) (.sl q e 0 n.toNat) q) else none
  | .slice e lo hi mx, xs => (cY e lo hi mx xs).map fun z => .pure z
  | .fieldAddr off, [x] => (cE off x).map fun z => .pure z
  | .field off n agg, [.agg cs] => if off + n ≤ cs.length then (aG agg ((cs.drop off).take n)).map fun z => .pure z else none
  | .indexAddr e, [s, i] => (cD e s i).map fun z => .pure z
  | .indexAddrA e len, [p, i] => (gV e len p i).map fun z => .pure z
  | .extract i, [.tuple vs] => (vs[i]?).map fun z => .pure z
  | .len c, [x] => qM c x H q
  | .min, [.int k a, .int k' b] => if k = k' then some (.pure (.int k (Min.min a b))) else none
  | .max, [.int k a, .int k' b] => if k = k' then some (.pure (.int k (Max.max a b))) else none
  | .eqs op ks, [x, y] => (gE true ks x y).bind fun b => (bQ op b).map fun z => .pure z
  | .lookup agg ks zero ok, [m, k] => cJ agg ks zero ok m k H
  | .mapUpdate agg ks, [m, k, x] => cC agg ks m k x H
  | .delete agg ks, [m, k] => iD agg ks m k H
  | .mrange, [m] => pB m H q
  | .mnext, [x] => qL x H
  | .mentry, [x] => m7 x H
  | .strAt, [.str s, .int _ n] => if 0 ≤ n then (s[n.toNat]?).map fun b => .pure (.int .u8 b.toNat) else none
  | .mkmap, [] => some ⟨.map q, [(q, some (.amap [] [] 0))], some []⟩
  | .mkmap, [.int _ _] => some ⟨.map q, [(q, some (.amap [] [] 0))], some []⟩
  | .append e bytes, [s, x] => dG e bytes s x H q
  | .call, xs => kS call xs H q
  | _, _ => none
end Go.Proofs.Ytigjoggpaamodaa
/-! The abstract machine: its operations are sound. -/
namespace Go.Proofs.Ytigjoggpaamodaa
set_option linter.unusedVariables false
set_option linter.unusedSimpArgs false
section
variable {P : Program} {o : Oper} {a : Act} {ρ : aH} {R : Imm} {H : aB} {nx : Lab} {r : Res}

theorem RepV.one {x : AV} {v : Value} (h : RepV ρ R x v) (hx : x.one = true) : v.oneCell' = true := by
  cases h <;> first | rfl | (simp [AV.one] at hx)
theorem RepV.cells_len {x : AV} {v : Value} (h : RepV ρ R x v) : v.cells.size = x.cells.length ∧ ∀ (i : Nat) y, x.cells[i]? = some y → ∃ u, v.cells[i]? = some u ∧ RepV ρ R y u := by
  cases h with
  | agg cs C hC h =>
    refine ⟨hC, fun i y hy => ?_⟩
    have hi : i < C.size := by
      have := (List.getElem?_eq_some_iff.1 hy).1
      simp only [AV.cells] at this
      omega
    refine ⟨C[i], Array.getElem?_eq_getElem hi, ?_⟩
    have := h i y hy
    simpa [Array.getD, hi] using this
  | _ =>
    refine ⟨rfl, fun i y hy => ?_⟩
    simp only [AV.cells] at hy
    cases i with
    | zero => simp at hy; subst hy; exact ⟨_, rfl, by constructor <;> assumption⟩
    | succ i => simp at hy
theorem aA {T : TypeId} {d : TypeDesc} (h : P.underlying T = some d) (w : World) : (underlying T).run P w = .ok d w := by simp [underlying, h]
theorem aJ {T : TypeId} {i : TypeInfo} (h : P.info? T = some i) (w : World) : (sizeOf T).run P w = .ok i.size w := by simp [sizeOf, typeInfo, h]
theorem cG {T : TypeId} {i : TypeInfo} {z : Value} (h : P.info? T = some i) (hz : i.zero = some z) (w : World) : (zeroValue T).run P w = .ok z w := by simp [zeroValue, typeInfo, h, hz]
def a3 : TypeDesc → Bool
  | .struct _ | .array _ _ => true
  | _ => false
theorem iV {T : TypeId} {d : TypeDesc} (h : P.underlying T = some d) (w : World) : (isAgg T).run P w = .ok (a3 d) w := by
  cases d <;> simp [isAgg, aA h, a3]

theorem lL {x : Operand} {y : AV} (ho : o.op = .move x ∨ o.op = .assign x) (hx : RepV ρ R y (a.eval x)) : aV P o a ρ R H nx (.pure y) := by
  refine aE (v := a.eval x) (fun w => ?_) hx
  rcases ho with ho | ho <;> simp [execOp, ho]
theorem sound_pick {c x y : Operand} {b : Bool} {p q : AV} (ho : o.op = .pick c x y) (hc : RepV ρ R (.bool b) (a.eval c)) (hx : RepV ρ R p (a.eval x)) (hy : RepV ρ R q (a.eval y)) : aV P o a ρ R H nx (.pure (if b then p else q)) := by
  refine aE (v := if b then a.eval x else a.eval y) (fun w => ?_) ?_
  · generalize hg : a.eval c = vc at hc
    cases hc
    simp [execOp, ho, asBool, hg]
  · cases b <;> assumption

theorem eN {T : TypeId} {d : TypeDesc} {i : TypeInfo} (hd : P.underlying T = some d) (hi : P.info? T = some i) (w : World) (ad : Addr) (vs : List Value) (hv : ∀ (k : Nat) v, vs[k]? = some v → w.cell? (ad.add k) = some v) (hn : vs.length = i.size)
    (h1 : a3 d = false → i.size = 1) : (loadVar T ad).run P w = .ok (if a3 d then .agg vs.toArray else vs.getD 0 undef) w := by
  have h2 := iV (P := P) hd w
  cases ha : a3 d with
  | true =>
    rw [ha] at h2
    have := run_loadCells_list (P := P) w ad vs hv
    rw [hn] at this
    simp [loadVar, h2, aJ hi, this]
  | false =>
    rw [ha] at h2
    have hs := h1 ha
    obtain ⟨v, rfl⟩ : ∃ v, vs = [v] := by
      match vs, hn.trans hs with
      | [v], _ => exact ⟨v, rfl⟩
    have := hv 0 v rfl
    simp only [Addr.add, if_true] at this
    simp [loadVar, h2, this]

theorem gF {agg : Bool} {cs : List AV} {y : AV} {vs : List Value} (h : aG agg cs = some y) (hl : vs.length = cs.length) (hv : ∀ (k : Nat) x, cs[k]? = some x → ∃ v, vs[k]? = some v ∧ RepV ρ R x v) : RepV ρ R y (if agg then .agg vs.toArray else vs.getD 0 undef) := by
  cases agg with
  | true =>
    simp only [aG, if_true, Option.some.injEq] at h
    subst h
    exact RepV.agg_list hl hv
  | false =>
    simp only [aG, Bool.false_eq_true, if_false] at h
    split at h
    · cases h
      obtain ⟨v, h1, h2⟩ := hv 0 _ rfl
      simpa [List.getD, h1] using h2
    · cases h

theorem sound_load {T : TypeId} {p : Operand} {x : AV} {d : TypeDesc} {i : TypeInfo} (ho : o.op = .load T p) (hd : P.underlying T = some d) (hi : P.info? T = some i) (h1 : a3 d = false → i.size = 1) (hx : RepV ρ R x (a.eval p))
    (h : aZ i.size (a3 d) x H nx = some r) : aV P o a ρ R H nx r := by
  cases x <;> simp only [aZ] at h <;> try (cases h; done)
  case ptr l e ii j =>
    cases hl : H l with
    | none => simp [hl] at h
    | some ob =>
      cases ob with
      | amap es bs ck => simp [hl] at h
      | bag es => simp [hl] at h
      | iter => simp [hl] at h
      | loop => simp [hl] at h
      | rows e' rs =>
        simp only [hl] at h
        split at h
        · rename_i he; subst he
          cases hc : (AO.rows e rs).cells ii j i.size with
          | none => simp [hc] at h
          | some cs =>
            simp only [hc, Option.bind_some] at h
            cases hw : aG (a3 d) cs with
            | none => simp [hw] at h
            | some y =>
              simp only [hw, Option.bind_some, Option.some.injEq] at h
              subst h
              refine c7 hl fun w L O hO hL hrep => ?_
              obtain ⟨vs, hvl, hvc, hvr⟩ := oK hrep hc (fun _ _ e => by cases e; rfl) hO
              refine ⟨_, ?_, gF hw (hvl.trans (dD hc).1.symm) hvr⟩
              generalize hg : a.eval p = pv at hx
              cases hx
              rename_i L' hL'
              rw [hL] at hL'; cases hL'
              simp [execOp, ho, Instr.loadAt, hg, Instr.sureAddr, eN hd hi w _ vs hvc hvl h1]
        · cases h
  case iptr e rows ii j =>
    cases hc : (AO.rows e rows).cells ii j i.size with
    | none => simp [hc] at h
    | some cs =>
      simp only [hc, Option.bind_some] at h
      cases hw : aG (a3 d) cs with
      | none => simp [hw] at h
      | some y =>
        simp only [hw, Option.bind_some, Option.some.injEq] at h
        subst h
        generalize hg : a.eval p = pv at hx
        obtain ⟨⟩ | ⟨⟩ | ⟨⟩ | ⟨⟩ | ⟨⟩ | ⟨_, _, _, _, b, o', c, T', fz, g, hb, hcc, hr⟩ := hx
        refine sound_imm fun w hR => ?_
        obtain ⟨vs, hvl, hvc, hvr⟩ := rQ hc hcc hr (hR _ _ hb)
        refine ⟨_, ?_, gF hw (hvl.trans (dD hc).1.symm) hvr⟩
        simp [execOp, ho, Instr.loadAt, hg, Instr.sureAddr, eN hd hi w _ vs hvc hvl h1]

/-- cells put into a row -/
def bH (c : Array Value) (k : Nat) : List Value → Array Value
  | [] => c
  | v :: vs => bH (c.setIfInBounds k v) (k + 1) vs
theorem bB : ∀ (vs : List Value) (c : Array Value) (k : Nat), (bH c k vs).size = c.size
  | [], _, _ => rfl
  | v :: vs, c, k => by simp [bH, bB vs]
theorem cL : ∀ (vs : List Value) (c : Array Value) (k j : Nat), (bH c k vs)[j]? = if k ≤ j ∧ j < k + vs.length ∧ j < c.size then vs[j - k]? else c[j]?
  | [], c, k, j => by simp [bH]; omega
  | v :: vs, c, k, j => by
    rw [bH, cL vs]
    simp only [Array.size_setIfInBounds, List.length_cons]
    by_cases h1 : k = j
    · subst h1
      have e : ¬ (k + 1 ≤ k ∧ k < k + 1 + vs.length ∧ k < c.size) := by omega
      rw [if_neg e]
      by_cases h2 : k < c.size
      · rw [if_pos ⟨Nat.le_refl _, by omega, h2⟩]; simp [h2]
      · rw [if_neg (by omega)]; simp [h2]
    · rw [Array.getElem?_setIfInBounds_ne h1]
      by_cases h3 : k ≤ j
      · rw [show j - k = (j - (k + 1)) + 1 by omega, List.getElem?_cons_succ]
        have e : (k + 1 ≤ j ∧ j < k + 1 + vs.length ∧ j < c.size) ↔ (k ≤ j ∧ j < k + (vs.length + 1) ∧ j < c.size) := by omega
        simp only [e]
      · rw [if_neg (by omega), if_neg (by omega)]
theorem setCell_eq {w : World} {b : Nat} {c : Array Value} {T : TypeId} {fz : Nat × Nat} (h : w.heap[b]? = some (.cells c T fz)) (k : Nat) (v : Value) : w.setCell ⟨b, k, none⟩ v = w.setB b (.cells (c.setIfInBounds k v) T fz) := by
  have hb := eQ h
  have h2 : w.heap[b] = .cells c T fz := by simpa [Array.getElem?_eq_getElem hb] using h
  unfold World.setCell World.setB
  congr 1
  apply Array.ext_getElem?
  intro i
  rw [Array.getElem?_modify, Array.getElem?_setIfInBounds]
  by_cases hi : b = i
  · subst hi; simp [hb, h2]
  · simp [hi]
theorem gZ (w : World) (b : Nat) (O O' : Obj) : (w.setB b O).setB b O' = w.setB b O' := by
  unfold World.setB
  simp
theorem oS {w : World} {b : Nat} {O : Obj} (h : w.heap[b]? = some O) : w.setB b O = w := by
  unfold World.setB
  have hb := eQ h
  have h2 : w.heap[b] = O := by simpa [Array.getElem?_eq_getElem hb] using h
  cases w
  simp at h2 ⊢
  subst h2
  apply Array.ext_getElem?
  intro i
  rw [Array.getElem?_setIfInBounds]
  by_cases hi : b = i
  · subst hi; simp at hb; simp [hb]
  · simp [hi]
theorem b7 : ∀ (vs : List Value) (w : World) (b o' i : Nat) (c : Array Value) (T : TypeId), w.heap[b]? = some (.cells c T (0, 0)) → (∀ v ∈ vs, v.oneCell' = true) → o' + i + vs.length ≤ c.size →
    (storeCells ⟨b, o', none⟩ vs i).run P w = .ok () (w.setB b (.cells (bH c (o' + i) vs) T (0, 0)))
  | [], w, b, o', i, c, T, h, _, _ => by simp [storeCells, bH, oS h]
  | v :: vs, w, b, o', i, c, T, h, hv, hle => by
    simp only [List.length_cons] at hle
    have h1 : w.cell? ⟨b, o' + i, none⟩ = some (c[o' + i]'(by omega)) := by rw [cO h]; exact Array.getElem?_eq_getElem (by omega)
    have hf : w.frozen? ⟨b, o' + i, none⟩ = false := by simp [World.frozen?, h]
    have ih := b7 vs (w.setB b (.cells (c.setIfInBounds (o' + i) v) T (0, 0))) b o' (i + 1) (c.setIfInBounds (o' + i) v) T (g7 h _) (fun u hu => hv u (by simp [hu])) (by simp; omega)
    simp only [storeCells, Sem.run_bind, a8, run_store P w _ v _ (hv v (by simp)), h1, hf, Result.andThen, setCell_eq h, Bool.false_eq_true, if_false]
    rw [ih, gZ, bH, show o' + (i + 1) = o' + i + 1 by omega]
theorem pW {cs v : List AV} {off : Nat} (h : off + v.length ≤ cs.length) (j : Nat) : (putL cs off v)[j]? = if off ≤ j ∧ j < off + v.length then v[j - off]? else cs[j]? := by
  unfold putL
  by_cases h1 : j < off
  · rw [List.append_assoc, List.getElem?_append_left (by simp; omega), List.getElem?_take, if_pos h1, if_neg (by omega)]
  · by_cases h2 : j < off + v.length
    · rw [if_pos ⟨by omega, h2⟩, List.append_assoc, List.getElem?_append_right (by simp; omega), List.getElem?_append_left (by simp; omega)]
      simp; congr 1; omega
    · rw [if_neg (by omega), List.getElem?_append_right (by simp; omega)]
      simp
      congr 1; omega
theorem lQ {cs v : List AV} {off : Nat} (h : off + v.length ≤ cs.length) : (putL cs off v).length = cs.length := by
  unfold putL; simp; omega
theorem rows_inj {e i j i' j' : Nat} (hj : j < e) (hj' : j' < e) (h : i * e + j = i' * e + j') : i = i' ∧ j = j' := by
  have h1 : (i * e + j) / e = i := by rw [Nat.mul_comm, Nat.mul_add_div (by omega), Nat.div_eq_of_lt hj]; omega
  have h2 : (i' * e + j') / e = i' := by rw [Nat.mul_comm, Nat.mul_add_div (by omega), Nat.div_eq_of_lt hj']; omega
  have : i = i' := by rw [← h1, ← h2, h]
  subst this
  exact ⟨rfl, by omega⟩
/-- a part of a row stored -/
theorem repO_store {L : Loc} {e : Nat} {rs : List (List AV)} {c : Array Value} {T : TypeId} {fz : Nat × Nat} {i j : Nat} {row : List AV} {xs : List AV} {vs : List Value} (h : RepO ρ R L (.rows e rs) (.cells c T fz)) (hr : rs[i]? = some row) (hle : j + xs.length ≤ row.length) (hone : xs.all AV.one = true)
    (hl : vs.length = xs.length) (hv : ∀ (k : Nat) x, xs[k]? = some x → ∃ v, vs[k]? = some v ∧ RepV ρ R x v) : RepO ρ R L (.rows e (rs.set i (putL row j xs))) (.cells (bH c (L.off + (i * e + j)) vs) T fz) := by
  simp only [RepO] at h ⊢
  obtain ⟨h1, h2, h3, h4, h5⟩ := h
  have hi : i < rs.length := (List.getElem?_eq_some_iff.1 hr).1
  have hrow : row.length = e := (h3 row (List.mem_of_getElem? hr)).1
  have hfit : i * e + e ≤ rs.length * e := by
    have : (i + 1) * e ≤ rs.length * e := Nat.mul_le_mul_right e hi
    rwa [Nat.add_mul, Nat.one_mul] at this
  refine ⟨h1, by rw [bB]; exact h2, fun r hr' => ?_, by simpa using h4, fun i' j' x hx => ?_⟩
  · rcases List.mem_or_eq_of_mem_set hr' with h6 | h6
    · exact h3 r h6
    · rw [h6]
      refine ⟨by rw [lQ hle, hrow], fun x hx => ?_⟩
      unfold putL at hx
      rcases List.mem_append.1 hx with h7 | h7
      · rcases List.mem_append.1 h7 with h7 | h7
        · exact (h3 row (List.mem_of_getElem? hr)).2 x (List.mem_of_mem_take h7)
        · exact List.all_eq_true.1 hone x h7
      · exact (h3 row (List.mem_of_getElem? hr)).2 x (List.mem_of_mem_drop h7)
  · rw [cL]
    simp only [aC, List.getElem?_set] at hx
    by_cases hii : i = i'
    · subst hii
      simp only [hi, if_true, Option.bind_some] at hx
      rw [pW hle] at hx
      by_cases hj : j ≤ j' ∧ j' < j + xs.length
      · rw [if_pos hj] at hx
        obtain ⟨v, hv1, hv2⟩ := hv _ x hx
        refine ⟨v, ?_, hv2⟩
        rw [if_pos ⟨by omega, by omega, by omega⟩, show L.off + (i * e + j') - (L.off + (i * e + j)) = j' - j by omega]
        exact hv1
      · rw [if_neg hj] at hx
        rw [if_neg (by omega)]
        exact h5 i j' x (by simp [aC, hr, hx])
    · simp only [hii, if_false] at hx
      have hx' : aC rs i' j' = some x := hx
      rw [if_neg]
      · exact h5 i' j' x hx'
      · rintro ⟨k1, k2, k3⟩
        obtain ⟨r', hr', hx2⟩ := Option.bind_eq_some_iff.1 hx'
        have hj' : j' < e := by
          have := (h3 r' (List.mem_of_getElem? hr')).1
          have := (List.getElem?_eq_some_iff.1 hx2).1
          omega
        have : ∃ m, m < xs.length ∧ i' * e + j' = i * e + (j + m) := ⟨i' * e + j' - (i * e + j), by omega, by omega⟩
        obtain ⟨m, hm, he⟩ := this
        exact hii (rows_inj hj' (by omega) he).1.symm
theorem sound_store {T : TypeId} {p q : Operand} {x y : AV} {i : TypeInfo} (ho : o.op = .store T p q) (hi : P.info? T = some i) (hx : RepV ρ R x (a.eval p)) (hy : RepV ρ R y (a.eval q)) (h : dQ i.size x y H nx = some r) : aV P o a ρ R H nx r := by
  cases x <;> simp only [dQ] at h <;> try (cases h; done)
  rename_i l e ii j
  cases hl : H l with
  | none => simp [hl] at h
  | some ob =>
    cases ob with
    | amap es bs ck => simp [hl] at h
    | bag es => simp [hl] at h
    | iter => simp [hl] at h
    | loop => simp [hl] at h
    | rows e' rs =>
      simp only [hl] at h
      split at h
      · rename_i he
        obtain ⟨he, hlen⟩ := he
        subst he
        cases hr : rs[ii]? with
        | none => simp [hr] at h
        | some row =>
          simp only [hr] at h
          split at h
          · rename_i hle
            obtain ⟨hle, hone⟩ := hle
            simp only [Option.some.injEq] at h
            subst h
            refine jU hl fun w L O hO hL hrep => ?_
            cases O <;> (have hrep' := hrep; simp only [RepO] at hrep')
            rename_i c T' fz
            obtain ⟨h1, h2, h3, h4, h5⟩ := hrep'
            subst h1
            obtain ⟨hc1, hc2⟩ := hy.cells_len
            have hst := repO_store (vs := (a.eval q).cells.toList) (xs := y.cells) (j := j) hrep hr (by omega) hone (by simpa using hc1) (fun k x hk => by
              obtain ⟨u, hu, hru⟩ := hc2 k x hk
              exact ⟨u, by simpa using hu, hru⟩)
            refine ⟨_, ?_, hst⟩
            have hii : ii < rs.length := (List.getElem?_eq_some_iff.1 hr).1
            have hrow : row.length = e := (h3 row (List.mem_of_getElem? hr)).1
            have hfit : ii * e + e ≤ rs.length * e := by
              have : (ii + 1) * e ≤ rs.length * e := Nat.mul_le_mul_right e hii
              rwa [Nat.add_mul, Nat.one_mul] at this
            have hall : ∀ v ∈ (a.eval q).cells.toList, v.oneCell' = true := by
              intro v hv
              obtain ⟨k, hk, rfl⟩ := List.getElem_of_mem hv
              have hk' : k < y.cells.length := by simp at hk; omega
              obtain ⟨u, hu, hru⟩ := hc2 k _ (List.getElem?_eq_getElem hk')
              have : (a.eval q).cells[k]? = some ((a.eval q).cells.toList[k]) := by simp
              rw [this] at hu
              cases hu
              refine hru.one ?_
              exact List.all_eq_true.1 hone _ (List.getElem_mem hk')
            have hrun := b7 (P := P) (a.eval q).cells.toList w L.blk (L.off + (ii * e + j)) 0 c T' hO hall (by simp; omega)
            generalize hg : a.eval p = pv at hx
            cases hx
            rename_i L' hL'
            rw [hL] at hL'; cases hL'
            have hsz : ¬ (a.eval q).cells.size ≠ i.size := by omega
            simp only [Nat.add_zero] at hrun
            simp [execOp, ho, Instr.storeAt, hg, Instr.sureAddr, storeVar, aJ hi, hsz, hrun]
          · cases h
      · cases h
end
end Go.Proofs.Ytigjoggpaamodaa
/-! The abstract machine: what makes objects, and constants. -/
namespace Go.Proofs.Ytigjoggpaamodaa
set_option linter.unusedVariables false
set_option linter.unusedSimpArgs false
section
variable {P : Program} {o : Oper} {a : Act} {ρ : aH} {R : Imm} {H : aB} {nx : Lab} {r : Res}

/-- lists of values -/
def RepL (ρ : aH) (R : Imm) (xs : List AV) (vs : List Value) : Prop := vs.length = xs.length ∧ ∀ (k : Nat) x, xs[k]? = some x → ∃ v, vs[k]? = some v ∧ RepV ρ R x v
theorem RepL.nil : RepL ρ R [] [] := ⟨rfl, fun k x h => by simp at h⟩
theorem RepL.cons {x : AV} {v : Value} {xs : List AV} {vs : List Value} (h : RepV ρ R x v) (hs : RepL ρ R xs vs) : RepL ρ R (x :: xs) (v :: vs) := by
  refine ⟨by simp [hs.1], fun k y hk => ?_⟩
  cases k with
  | zero => simp at hk; subst hk; exact ⟨v, rfl, h⟩
  | succ k => simpa using hs.2 k y (by simpa using hk)
theorem RepL.head {x : AV} {xs : List AV} {vs : List Value} (h : RepL ρ R (x :: xs) vs) : ∃ v us, vs = v :: us ∧ RepV ρ R x v ∧ RepL ρ R xs us := by
  obtain ⟨hl, hg⟩ := h
  cases vs with
  | nil => simp at hl
  | cons v us =>
    obtain ⟨u, hu, hr⟩ := hg 0 x rfl
    simp at hu; subst hu
    exact ⟨v, us, rfl, hr, by simpa using hl, fun k y hk => by simpa using hg (k + 1) y (by simpa using hk)⟩
theorem RepL.nil_inv {vs : List Value} (h : RepL ρ R [] vs) : vs = [] := List.length_eq_zero_iff.1 h.1
theorem RepL.cells {x : AV} {v : Value} (h : RepV ρ R x v) : RepL ρ R x.cells v.cells.toList := by
  obtain ⟨h1, h2⟩ := h.cells_len
  exact ⟨by simpa using h1, fun k y hk => by obtain ⟨u, hu, hr⟩ := h2 k y hk; exact ⟨u, by simpa using hu, hr⟩⟩
theorem RepL.append {xs ys : List AV} {vs us : List Value} (h : RepL ρ R xs vs) (h' : RepL ρ R ys us) : RepL ρ R (xs ++ ys) (vs ++ us) := by
  refine ⟨by simp [h.1, h'.1], fun k y hk => ?_⟩
  have := h.1
  by_cases hlt : k < xs.length
  · rw [List.getElem?_append_left hlt] at hk
    rw [List.getElem?_append_left (by omega)]
    exact h.2 k y hk
  · rw [List.getElem?_append_right (by omega)] at hk
    rw [List.getElem?_append_right (by omega), this]
    exact h'.2 _ y hk
theorem RepL.take {xs : List AV} {vs : List Value} (h : RepL ρ R xs vs) (n : Nat) : RepL ρ R (xs.take n) (vs.take n) := by
  refine ⟨by simp [h.1], fun k y hk => ?_⟩
  rw [List.getElem?_take] at hk ⊢
  split at hk
  · rename_i hlt; rw [if_pos hlt]; exact h.2 k y hk
  · cases hk
theorem RepL.drop {xs : List AV} {vs : List Value} (h : RepL ρ R xs vs) (n : Nat) : RepL ρ R (xs.drop n) (vs.drop n) := by
  refine ⟨by simp [h.1], fun k y hk => ?_⟩
  rw [List.getElem?_drop] at hk ⊢
  exact h.2 _ y hk
theorem RepL.mono {ρ' : aH} {R' : Imm} {xs : List AV} {vs : List Value} (h : RepL ρ R xs vs) (e : Ext ρ ρ' R R') : RepL ρ' R' xs vs :=
  ⟨h.1, fun k x hk => by obtain ⟨v, hv, hr⟩ := h.2 k x hk; exact ⟨v, hv, hr.mono e⟩⟩
theorem RepL.agg {xs : List AV} {vs : List Value} (h : RepL ρ R xs vs) : RepV ρ R (.agg xs) (.agg vs.toArray) := RepV.agg_list h.1 h.2
theorem RepL.fn {f : Fn} {xs ys : List AV} {vs us : List Value} (h : RepL ρ R xs vs) (h' : RepL ρ R ys us) : RepV ρ R (.fn f xs ys) (.func f vs.toArray us.toArray) := by
  refine .fn f xs ys _ _ (by simp [h.1]) (by simp [h'.1]) (fun i x hx => ?_) (fun i x hx => ?_)
  · obtain ⟨v, hv, hr⟩ := h.2 i x hx; simpa [Array.getD_eq_getD_getElem?, hv] using hr
  · obtain ⟨v, hv, hr⟩ := h'.2 i x hx; simpa [Array.getD_eq_getD_getElem?, hv] using hr
theorem RepV.agg_inv {cs : List AV} {v : Value} (h : RepV ρ R (.agg cs) v) : ∃ vs : List Value, v = .agg vs.toArray ∧ RepL ρ R cs vs := by
  cases h with
  | agg _ C hC h =>
    refine ⟨C.toList, by simp, by simpa using hC, fun k x hk => ?_⟩
    have hk' : k < C.size := by have := (List.getElem?_eq_some_iff.1 hk).1; omega
    have := h k x hk
    refine ⟨C[k], by simp [hk'], by simpa [Array.getD, hk'] using this⟩
theorem RepV.tuple_inv {cs : List AV} {v : Value} (h : RepV ρ R (.tuple cs) v) : ∃ vs : List Value, v = .tuple vs.toArray ∧ RepL ρ R cs vs := by
  cases h with
  | tuple _ C hC h =>
    refine ⟨C.toList, by simp, by simpa using hC, fun k x hk => ?_⟩
    have hk' : k < C.size := by have := (List.getElem?_eq_some_iff.1 hk).1; omega
    have := h k x hk
    refine ⟨C[k], by simp [hk'], by simpa [Array.getD, hk'] using this⟩
theorem RepL.tuple {xs : List AV} {vs : List Value} (h : RepL ρ R xs vs) : RepV ρ R (.tuple xs) (.tuple vs.toArray) := by
  refine .tuple xs _ (by simp [h.1]) fun i x hx => ?_
  obtain ⟨v, hv, hr⟩ := h.2 i x hx; simpa [Array.getD_eq_getD_getElem?, hv] using hr

/-- constants -/
def r1 : Value → Option AV
  | .bool b => some (.bool b)
  | .int k n => some (.int k n)
  | .string s => some (.str s)
  | .pointer none => some .nilp
  | .slice none 0 0 => some .nils
  | .map none => some .nilm
  | .nilFunc => some .nilf
  | _ => none
def gN : List Value → Option (List AV)
  | [] => some []
  | v :: vs => (r1 v).bind fun x => (gN vs).map fun xs => x :: xs
def ofC : Value → Option AV
  | .agg cs => (gN cs.toList).map .agg
  | .tuple cs => (gN cs.toList).map .tuple
  | v => r1 v
theorem pU {v : Value} {x : AV} (h : r1 v = some x) : RepV ρ R x v := by
  unfold r1 at h
  split at h <;> first | (cases h; constructor) | cases h
theorem eC : ∀ {vs : List Value} {xs : List AV}, gN vs = some xs → RepL ρ R xs vs
  | [], xs, h => by simp [gN] at h; subst h; exact .nil
  | v :: vs, xs, h => by
    simp only [gN, Option.bind_eq_some_iff, Option.map_eq_some_iff] at h
    obtain ⟨x, hx, ys, hys, rfl⟩ := h
    exact .cons (pU hx) (eC hys)
theorem q8 {v : Value} {x : AV} (h : ofC v = some x) : RepV ρ R x v := by
  unfold ofC at h
  split at h
  · simp only [Option.map_eq_some_iff] at h
    obtain ⟨xs, hxs, rfl⟩ := h
    exact (eC hxs).agg
  · simp only [Option.map_eq_some_iff] at h
    obtain ⟨xs, hxs, rfl⟩ := h
    exact (eC hxs).tuple
  · exact pU h

theorem ofC1_one {v : Value} {x : AV} (h : r1 v = some x) : x.one = true := by
  unfold r1 at h
  split at h <;> first | (cases h; rfl) | cases h
theorem lW : ∀ {vs : List Value} {xs : List AV}, gN vs = some xs → ∀ x ∈ xs, x.one = true
  | [], xs, h => by simp [gN] at h; subst h; simp
  | v :: vs, xs, h => by
    simp only [gN, Option.bind_eq_some_iff, Option.map_eq_some_iff] at h
    obtain ⟨x, hx, ys, hys, rfl⟩ := h
    intro y hy
    rcases List.mem_cons.1 hy with rfl | hy
    · exact ofC1_one hx
    · exact lW hys y hy
/-- a new row -/
theorem pV {cs : List AV} {vs : List Value} (h : RepL ρ R cs vs) (ho : ∀ x ∈ cs, x.one = true) (b : Nat) (T : TypeId) : RepO ρ R ⟨b, 0, vs.length, 1⟩ (.rows cs.length [cs]) (.cells vs.toArray T (0, 0)) := by
  refine ⟨rfl, by simp, fun r hr => by simp at hr; rw [hr]; exact ⟨rfl, ho⟩, ⟨rfl, by simp [h.1]⟩, fun i j x hx => ?_⟩
  cases i with
  | zero =>
    simp only [aC, List.getElem?_cons_zero, Option.bind_some] at hx
    obtain ⟨v, hv, hr⟩ := h.2 j x hx
    exact ⟨v, by simpa using hv, hr⟩
  | succ i => simp [aC] at hx
theorem kA {e : Nat} : ∀ (n : Nat) (l : List AV), (bF e n l).length = n
  | 0, _ => rfl
  | n + 1, l => by simp [bF, kA n]
theorem oH {e : Nat} : ∀ (n : Nat) (l : List AV), n * e ≤ l.length → ∀ r ∈ bF e n l, r.length = e
  | 0, _, _, r, hr => by simp [bF] at hr
  | n + 1, l, h, r, hr => by
    rw [Nat.add_mul, Nat.one_mul] at h
    simp only [bF, List.mem_cons] at hr
    rcases hr with rfl | hr
    · simp; omega
    · exact oH n (l.drop e) (by simp; omega) r hr
theorem oJ {e : Nat} : ∀ (n : Nat) (l : List AV) (i j : Nat) (x : AV), aC (bF e n l) i j = some x → j < e ∧ l[i * e + j]? = some x
  | 0, _, i, j, x, h => by simp [bF, aC] at h
  | n + 1, l, i, j, x, h => by
    cases i with
    | zero =>
      simp only [bF, aC, List.getElem?_cons_zero, Option.bind_some, List.getElem?_take] at h
      split at h
      · rename_i hj; exact ⟨hj, by simpa using h⟩
      · cases h
    | succ i =>
      have := oJ n (l.drop e) i j x (by simpa [bF, aC] using h)
      refine ⟨this.1, ?_⟩
      have h2 := this.2
      rw [List.getElem?_drop] at h2
      rw [← h2]
      congr 1
      rw [Nat.add_mul]; omega
theorem oI {e : Nat} : ∀ (n : Nat) (l : List AV), ∀ r ∈ bF e n l, ∀ x ∈ r, x ∈ l
  | 0, _, r, hr => by simp [bF] at hr
  | n + 1, l, r, hr => by
    simp only [bF, List.mem_cons] at hr
    rcases hr with rfl | hr
    · exact fun x hx => List.mem_of_mem_take hx
    · exact fun x hx => List.mem_of_mem_drop (oI n (l.drop e) r hr x hx)
theorem repO_chunk {cs : List AV} {vs : List Value} (h : RepL ρ R cs vs) (ho : ∀ x ∈ cs, x.one = true) (e n : Nat) (hn : n * e ≤ cs.length) (b : Nat) (T : TypeId) : RepO ρ R ⟨b, 0, vs.length, n⟩ (.rows e (bF e n cs)) (.cells vs.toArray T (0, 0)) := by
  refine ⟨rfl, by simp, fun r hr => ⟨oH n cs hn r hr, fun x hx => ho x (oI n cs r hr x hx)⟩, ⟨kA _ _, by rw [kA]; have := h.1; simp; omega⟩, fun i j x hx => ?_⟩
  obtain ⟨hj, hx⟩ := oJ n cs i j x hx
  obtain ⟨v, hv, hr⟩ := h.2 _ x hx
  exact ⟨v, by simpa using hv, hr⟩

theorem sound_alloc {T : TypeId} {i : TypeInfo} {z : Value} {zs : List AV} (ho : o.op = .alloc T) (hi : P.info? T = some i) (hz : i.zero = some z) (hc : gN z.cells.toList = some zs) :
    aV P o a ρ R H nx (kX zs.length [zs] (.ptr nx zs.length 0 0) nx) := by
  have hr := eC (ρ := ρ) (R := R) hc
  refine c9 (O := .cells z.cells T) z.cells.size 1 (fun w => ⟨.pointer (some ⟨w.heap.size, 0, none⟩), ?_, fun ρ' _ h => ?_⟩) (fun b => ?_)
  · simp [execOp, ho, Instr.alloc, cG hi hz, newVar, newRow]
  · have := RepV.ptr (R := R) nx zs.length 0 0 _ h
    simpa using this
  · have := pV hr (lW hc) b T
    simpa using this
theorem sound_box {T : TypeId} {p : Operand} {x : AV} (ho : o.op = .box T p) (hx : RepV ρ R x (a.eval p)) (hone : x.cells.all AV.one = true) : aV P o a ρ R H nx (kX x.cells.length [x.cells] (.ptr nx x.cells.length 0 0) nx) := by
  have hr := RepL.cells hx
  refine c9 (O := .cells (a.eval p).cells T) (a.eval p).cells.size 1 (fun w => ⟨.pointer (some ⟨w.heap.size, 0, none⟩), ?_, fun ρ' _ h => ?_⟩) (fun b => ?_)
  · simp [execOp, ho, Instr.box, newVar, newRow]
  · have := RepV.ptr (R := R) nx x.cells.length 0 0 _ h
    simpa using this
  · have := pV hr (List.all_eq_true.1 hone) b T
    simpa using this

/-- parts put into cells -/
theorem mN : ∀ (vs : List Value) (c : Array Value) (off k : Nat), (vs.zipIdx k).foldl (fun cs p => cs.setIfInBounds (off + p.2) p.1) c = bH c (off + k) vs
  | [], _, _, _ => rfl
  | v :: vs, c, off, k => by
    simp only [List.zipIdx_cons, List.foldl_cons, bH]
    rw [mN vs _ off (k + 1), show off + (k + 1) = off + k + 1 by omega]
theorem RepL.putL {xs ys : List AV} {vs us : List Value} (h : RepL ρ R xs vs) (h' : RepL ρ R ys us) (off : Nat) (hle : off + ys.length ≤ xs.length) : RepL ρ R (putL xs off ys) (bH vs.toArray off us).toList := by
  have h1 := h.1
  have h2 := h'.1
  refine ⟨by simp [bB, lQ hle, h1], fun k x hk => ?_⟩
  rw [pW hle] at hk
  simp only [Array.getElem?_toList, cL]
  by_cases hc : off ≤ k ∧ k < off + ys.length
  · rw [if_pos hc] at hk
    rw [if_pos ⟨hc.1, by omega, by simp; omega⟩]
    exact h'.2 _ x hk
  · rw [if_neg hc] at hk
    rw [if_neg (by omega)]
    simpa using h.2 k x hk
theorem o9 : ∀ (parts : List (Nat × Value)) (place : Nat → Option (Nat × Nat)) (ps : List (Nat × Nat)) (xs zs cs : List AV) (zv : List Value), cA zs ps xs = some cs → parts.length = ps.length → (∀ (k : Nat) p q, parts[k]? = some p → ps[k]? = some q → place p.1 = some q) →
    RepL ρ R xs (parts.map (·.2)) → RepL ρ R zs zv → ∃ vs : List Value, Instr.fill place zv.toArray parts = some vs.toArray ∧ RepL ρ R cs vs
  | [], place, ps, xs, zs, cs, zv, hf, hl, _, hx, hz => by
    have : ps = [] := List.length_eq_zero_iff.1 hl.symm
    subst this
    have : xs = [] := List.length_eq_zero_iff.1 (by simpa using hx.1.symm)
    subst this
    simp only [cA, Option.some.injEq] at hf
    subst hf
    exact ⟨zv, rfl, hz⟩
  | (n, v) :: parts, place, ps, xs, zs, cs, zv, hf, hl, hp, hx, hz => by
    cases ps with
    | nil => simp at hl
    | cons q ps =>
      obtain ⟨off, size⟩ := q
      cases xs with
      | nil => have := hx.1; simp at this
      | cons x xs =>
        simp only [cA] at hf
        split at hf
        · rename_i hc
          obtain ⟨u, us, he, hu, hus⟩ := RepL.head hx
          simp only [List.map_cons, List.cons.injEq] at he
          obtain ⟨rfl, rfl⟩ := he
          have h0 := hp 0 (n, v) (off, size) rfl rfl
          simp only at h0
          have hcl := RepL.cells hu
          have hput := hz.putL hcl off (by omega)
          obtain ⟨vs, h1, h2⟩ := o9 parts place ps xs _ cs _ hf (by simpa using hl) (fun k p q hk hq => hp (k + 1) p q (by simpa using hk) (by simpa using hq)) hus hput
          refine ⟨vs, ?_, h2⟩
          have e1 := hcl.1
          simp only [Array.length_toList] at e1
          have e2 := hz.1
          have hb : (v.cells.size ≠ size || decide (off + v.cells.size > zv.toArray.size)) = false := by simp; omega
          simp only [Instr.fill, h0, hb, Bool.false_eq_true, if_false]
          rw [← h1]
          congr 1
          have := mN v.cells.toList zv.toArray off 0
          simp only [Nat.add_zero] at this
          rw [← Array.foldl_toList]
          simpa using this
        · cases hf
theorem run_mapM {α β : Type} (w : World) (f : α → Sem β) (g : α → β) (xs : Array α) (h : ∀ x ∈ xs, (f x).run P w = .ok (g x) w) : (xs.mapM f).run P w = .ok (xs.map g) w := by
  have key : ∀ l : List α, (∀ x ∈ l, (f x).run P w = .ok (g x) w) → (l.mapM f).run P w = .ok (l.map g) w := by
    intro l
    induction l with
    | nil => intro _; rfl
    | cons x l ih =>
      intro hl
      simp [List.mapM_cons, hl x (by simp), ih (fun y hy => hl y (by simp [hy]))]
  rw [Array.mapM_eq_mapM_toList, Sem.run_map, key xs.toList (fun x hx => h x (by simpa using hx))]
  simp only [Result.andThen]
  congr 1
  exact Array.ext' (by simp)
theorem sound_build {T : TypeId} {parts : Array (Nat × Operand)} {fs : Array Field} {i : TypeInfo} {z : Value} {zs xs cs : List AV} {ps : List (Nat × Nat)} (ho : o.op = .build T parts) (hd : P.underlying T = some (.struct fs)) (hi : P.info? T = some i) (hz : i.zero = some z)
    (hfs : ∀ f ∈ fs, ∃ i, P.info? f.type = some i) (hc : gN z.cells.toList = some zs) (hpl : parts.size = ps.length) (hp : ∀ (k : Nat) p q, parts[k]? = some p → ps[k]? = some q → ∃ f, fs[p.1]? = some f ∧ q = (f.offset, P.cellsOf f.type))
    (hx : RepL ρ R xs ((parts.map (fun p => a.eval p.2)).toList)) (h : cA zs ps xs = some cs) : aV P o a ρ R H nx (.pure (.agg cs)) := by
  have hm : ∀ w, (fs.mapM fun (f : Field) => do pure (f.offset, ← sizeOf f.type)).run P w = .ok (fs.map fun (f : Field) => (f.offset, P.cellsOf f.type)) w := by
    intro w
    refine run_mapM w _ _ fs fun f hf => ?_
    obtain ⟨j, hj⟩ := hfs f hf
    simp [aJ hj, Program.cellsOf, hj]
  obtain ⟨vs, h1, h2⟩ := o9 (ρ := ρ) (R := R) (parts.map fun p => (p.1, a.eval p.2)).toList (fun k => (fs.map fun (f : Field) => (f.offset, P.cellsOf f.type))[k]?) ps xs zs cs z.cells.toList h (by simpa using hpl) (fun k p q hk hq => by
      simp only [Array.toList_map, List.getElem?_map, Option.map_eq_some_iff] at hk
      obtain ⟨p', hp', rfl⟩ := hk
      obtain ⟨f, hf, rfl⟩ := hp k p' q (by simpa using hp') hq
      simp [hf]) (by simpa [Function.comp_def] using hx) (eC hc)
  refine aE (v := .agg vs.toArray) (fun w => ?_) h2.agg
  simp only [Array.toArray_toList] at h1
  simp only [Array.toList_map, Array.getElem?_map] at h1
  have hm' := hm w
  simp only [bind_pure_comp] at hm'
  simp [execOp, ho, Instr.build, cG hi hz, aA hd, hm', h1]
theorem sound_buildSlice {T E : TypeId} {len : Nat} {parts : Array (Nat × Operand)} {i : TypeInfo} {z : Value} {zs xs cs : List AV} {ps : List (Nat × Nat)} (ho : o.op = .buildSlice T len parts) (hd : P.underlying T = some (.slice E)) (hi : P.info? E = some i) (hz : i.zero = some z)
    (_hsz : z.cells.size = i.size) (hpos : 0 < i.size) (hlen : len * i.size ≤ 16777216) (hc : gN ((Array.range (len * i.size)).map (z.cells[· % z.cells.size]!)).toList = some zs) (hpl : parts.size = ps.length) (hp : ∀ (k : Nat) p q, parts[k]? = some p → ps[k]? = some q → q = (p.1 * i.size, i.size))
    (hx : RepL ρ R xs ((parts.map (fun p => a.eval p.2)).toList)) (h : cA zs ps xs = some cs) (hone : cs.all AV.one = true) : aV P o a ρ R H nx (kX i.size (bF i.size (cs.length / i.size) cs) (.sl nx i.size 0 (cs.length / i.size)) nx) := by
  have hzs := eC (ρ := ρ) (R := R) hc
  obtain ⟨vs, h1, h2⟩ := o9 (ρ := ρ) (R := R) (parts.map fun p => (p.1, a.eval p.2)).toList (fun k => some (k * i.size, i.size)) ps xs zs cs _ h (by simpa using hpl) (fun k p q hk hq => by
      simp only [Array.toList_map, List.getElem?_map, Option.map_eq_some_iff] at hk
      obtain ⟨p', hp', rfl⟩ := hk
      rw [hp k p' q (by simpa using hp') hq]) (by simpa [Function.comp_def] using hx) hzs
  have hcl : cs.length = len * i.size := by
    have e : ∀ (ps : List (Nat × Nat)) (xs zs cs : List AV), cA zs ps xs = some cs → cs.length = zs.length := by
      intro ps
      induction ps with
      | nil => intro xs zs cs h; cases xs <;> simp [cA] at h; rw [h]
      | cons q ps ih =>
        intro xs zs cs h
        cases xs with
        | nil => simp [cA] at h
        | cons x xs =>
          simp only [cA] at h
          split at h
          · rename_i hc; rw [ih _ _ _ h, lQ (by omega)]
          · cases h
    rw [e ps xs zs cs h]
    have := hzs.1
    simp at this
    omega
  have hn : cs.length / i.size = len := by rw [hcl]; exact Nat.mul_div_cancel _ hpos
  rw [hn]
  refine c9 (O := .cells vs.toArray E) vs.length len (fun w => ⟨.slice (some ⟨w.heap.size, 0, none⟩) len len, ?_, fun ρ' _ h => ?_⟩) (fun b => repO_chunk h2 (List.all_eq_true.1 hone) i.size len (by omega) b E)
  · simp only [Array.toArray_toList] at h1
    simp only [Array.toList_map] at h1
    have hne : ¬ (2 ^ 24 < len * i.size) := by omega
    by_cases h0 : len * i.size = 0
    · rw [h0] at h1
      have e0 : ∀ f : Nat → Value, (Array.range 0).map f = #[] := fun f => by simp
      rw [e0] at h1
      simp [execOp, ho, Instr.buildSlice, aA hd, aJ hi, h0, e0, h1, newRow]
    · simp [execOp, ho, Instr.buildSlice, aA hd, aJ hi, hne, h0, cG hi hz, h1, newRow]
  · have h3 := h2.1
    have := RepV.sl (R := R) nx i.size 0 len len _ h (Nat.le_refl _) (by simp; omega) (by simp)
    simpa using this
end
end Go.Proofs.Ytigjoggpaamodaa
/-! The abstract machine: what only reckons. -/
namespace Go.Proofs.Ytigjoggpaamodaa
set_option linter.unusedVariables false
set_option linter.unusedSimpArgs false
section
variable {P : Program} {o : Oper} {a : Act} {ρ : aH} {R : Imm} {H : aB} {nx : Lab} {r : Res}

theorem RepV.ptr_inv {l : Lab} {e i j : Nat} {v : Value} (h : RepV ρ R (.ptr l e i j) v) : ∃ L, ρ l = some L ∧ v = .pointer (some ⟨L.blk, L.off + (i * e + j), none⟩) := by
  cases h; exact ⟨_, by assumption, rfl⟩
theorem RepV.int_inv {k : IntKind} {n : Int} {v : Value} (h : RepV ρ R (.int k n) v) : v = .int k n := by cases h; rfl
theorem RepV.bool_inv {b : Bool} {v : Value} (h : RepV ρ R (.bool b) v) : v = .bool b := by cases h; rfl
theorem RepV.str_inv {b : ByteArray} {v : Value} (h : RepV ρ R (.str b) v) : v = .string b := by cases h; rfl
theorem RepV.iptr_inv {e i j : Nat} {rows : List (List AV)} {v : Value} (h : RepV ρ R (.iptr e rows i j) v) : ∃ b o c T fz, ∃ g : Nat → Nat → Value, R b = some (.cells c T fz) ∧ (∀ i j x, aC rows i j = some x → c[o + (i * e + j)]? = some (g i j)) ∧ (∀ i j x, aC rows i j = some x → RepV ρ R x (g i j)) ∧ v = .pointer (some ⟨b, o + (i * e + j), none⟩) := by
  cases h; exact ⟨_, _, _, _, _, _, by assumption, by assumption, by assumption, rfl⟩
theorem RepV.sl_inv {l : Lab} {e off len : Nat} {v : Value} (h : RepV ρ R (.sl l e off len) v) : (∃ L cap, ρ l = some L ∧ len ≤ cap ∧ L.off + (off + cap) * e ≤ L.top ∧ L.ext ≤ off + cap ∧ v = .slice (some ⟨L.blk, L.off + off * e, none⟩) len cap) ∨ (len = 0 ∧ ∃ L ad, ρ l = some L ∧ L.ext ≤ off ∧ v = .slice (some ad) 0 0) := by
  cases h
  · exact .inl ⟨_, _, by assumption, by assumption, by assumption, by assumption, rfl⟩
  · exact .inr ⟨rfl, _, _, by assumption, by assumption, rfl⟩
theorem RepV.isl_inv {e : Nat} {rows : List (List AV)} {v : Value} (h : RepV ρ R (.isl e rows) v) : (∃ b o cap c T fz, ∃ g : Nat → Nat → Value, rows.length ≤ cap ∧ (∀ r ∈ rows, gC e r) ∧ R b = some (.cells c T fz) ∧ (∀ i j x, aC rows i j = some x → c[o + (i * e + j)]? = some (g i j)) ∧ (∀ i j x, aC rows i j = some x → RepV ρ R x (g i j)) ∧ v = .slice (some ⟨b, o, none⟩) rows.length cap) ∨
    (rows = [] ∧ ∃ ad cap, (ad = none → cap = 0) ∧ v = .slice ad 0 cap) := by
  cases h
  · exact .inr ⟨rfl, _, _, by assumption, rfl⟩
  · exact .inl ⟨_, _, _, _, _, _, _, by assumption, by assumption, by assumption, by assumption, by assumption, rfl⟩
theorem sound_nilCheck {p : Operand} {x : AV} (ho : o.op = .nilCheck p) (hx : RepV ρ R x (a.eval p)) (h : x.nonNil = true) : aV P o a ρ R H nx (.pure x) := by
  refine aE (v := a.eval p) (fun w => ?_) hx
  generalize hg : a.eval p = pv at hx
  cases hx <;> simp only [AV.nonNil] at h <;> first | (cases h; done) | skip
  · simp [execOp, ho, hg]
  · simp [execOp, ho, hg]
  · rename_i f _ _ _ _ _ _ _ _
    cases f <;> first | (cases h; done) | simp [execOp, ho, hg]
theorem d4 {k : IntKind} {n : Int} {z : AV} (h : eU k n = some z) : RepV ρ R z (.int k (k.wrap n)) := by
  unfold eU at h
  split at h
  · split at h
    · rename_i hin
      cases h
      have : IntKind.i64.wrap n = n := by
        simp only [inR, Bool.and_eq_true, decide_eq_true_eq] at hin
        have e : IntKind.i64.wrap n = if 9223372036854775808 ≤ n % 18446744073709551616 then n % 18446744073709551616 - 18446744073709551616 else n % 18446744073709551616 := by simp [IntKind.wrap, IntKind.bits, IntKind.signed]
        rw [e]
        split <;> omega
      rw [this]
      exact .int _ _
    · cases h
  · cases h; exact .int _ _

theorem run_binI {op : BinOp} {k k' : IntKind} {x y : Int} {T : TypeId} {c : Cls} {z : AV} (w : World) (h : dP op c (.int k x) (.int k' y) = some z) : ∃ v, (binOp op T (.int k x) (.int k' y)).run P w = .ok v w ∧ RepV ρ R z v := by
  simp only [dP] at h
  split at h
  · split at h
    · rename_i h0
      cases h
      refine ⟨_, ?_, .int _ _⟩
      have : ¬ y < 0 := by omega
      simp [binOp, Op.shift, this]
    · cases h
  · split at h
    · rename_i h0
      cases h
      refine ⟨_, ?_, .int _ _⟩
      have : ¬ y < 0 := by omega
      simp [binOp, Op.shift, this]
    · cases h
  · rename_i hne1 hne2
    split at h
    · rename_i hk
      subst hk
      cases op <;> simp only [gW] at h
      all_goals try (first | (exact absurd rfl hne1) | (exact absurd rfl hne2))
      · exact ⟨_, by simp [binOp, Op.intArith], d4 h⟩
      · exact ⟨_, by simp [binOp, Op.intArith], d4 h⟩
      · exact ⟨_, by simp [binOp, Op.intArith], d4 h⟩
      · split at h
        · cases h
        · rename_i h0; exact ⟨_, by simp [binOp, Op.intDiv, h0], d4 h⟩
      · split at h
        · cases h
        · rename_i h0; cases h; exact ⟨_, by simp [binOp, Op.intDiv, h0], .int _ _⟩
      · cases h; exact ⟨_, by simp [binOp, Op.intBits], .int _ _⟩
      · cases h; exact ⟨_, by simp [binOp, Op.intBits], .int _ _⟩
      · cases h; exact ⟨_, by simp [binOp, Op.intBits], .int _ _⟩
      · cases h; exact ⟨_, by simp [binOp, Op.intBits], .int _ _⟩
      · cases h; exact ⟨.bool (decide (x = y)), by simp [binOp, Op.intCmp]; rfl, .bool _⟩
      · cases h; exact ⟨.bool (!decide (x = y)), by simp [binOp, Op.intCmp, bne]; rfl, .bool _⟩
      · cases h; exact ⟨_, by simp [binOp, Op.intCmp], .bool _⟩
      · cases h; exact ⟨_, by simp [binOp, Op.intCmp], .bool _⟩
      · cases h; exact ⟨_, by simp [binOp, Op.intCmp], .bool _⟩
      · cases h; exact ⟨_, by simp [binOp, Op.intCmp], .bool _⟩
    · cases h
theorem oF {op : BinOp} {b : Bool} {z : AV} (h : bQ op b = some z) : (op = .eql ∧ z = .bool b) ∨ (op = .neq ∧ z = .bool (!b)) := by
  cases op <;> simp [bQ] at h
  · exact .inl ⟨rfl, h.symm⟩
  · exact .inr ⟨rfl, h.symm⟩
/-- equality by the type's own rule -/
theorem cR {op : BinOp} {b : Bool} {z : AV} {T : TypeId} {u v : Value} (w : World) (h : bQ op b = some z) (hb : binOp .eql T u v = (do pure (.bool (← Op.equal T u v))) ∧ binOp .neq T u v = (do pure (.bool (!(← Op.equal T u v)))))
    (he : (Op.equal T u v).run P w = .ok b w) : ∃ x, (binOp op T u v).run P w = .ok x w ∧ RepV ρ R z x := by
  rcases oF h with ⟨rfl, rfl⟩ | ⟨rfl, rfl⟩
  · rw [hb.1]; exact ⟨_, by simp [he], .bool _⟩
  · rw [hb.2]; exact ⟨_, by simp [he], .bool _⟩
def eT (P : Program) (T : TypeId) : Cls → Bool
  | .num => true
  | .bool => match P.underlying T with | some .bool => true | _ => false
  | .ptr => match P.underlying T with | some (.pointer _) => true | _ => false
  | .slice => match P.underlying T with | some (.slice _) => true | _ => false
  | .map => match P.underlying T with | some (.map _ _) => true | _ => false
  | .func => match P.underlying T with | some (.func _ _ _) => true | _ => false
theorem bV {T : TypeId} {u v : Value} {w : World} {r : Result Bool} (h : ∀ d, (Op.equalIn (d + 1) T u v).run P w = r) : (Op.equal T u v).run P w = r := h 9999
theorem cls_bool {T : TypeId} (h : eT P T .bool = true) : P.underlying T = some .bool := by
  simp only [eT] at h; split at h <;> first | assumption | cases h
theorem cls_ptr {T : TypeId} (h : eT P T .ptr = true) : ∃ E, P.underlying T = some (.pointer E) := by
  simp only [eT] at h; split at h <;> first | exact ⟨_, by assumption⟩ | cases h
theorem cls_slice {T : TypeId} (h : eT P T .slice = true) : ∃ E, P.underlying T = some (.slice E) := by
  simp only [eT] at h; split at h <;> first | exact ⟨_, by assumption⟩ | cases h
theorem cls_map {T : TypeId} (h : eT P T .map = true) : ∃ K E, P.underlying T = some (.map K E) := by
  simp only [eT] at h; split at h <;> first | exact ⟨_, _, by assumption⟩ | cases h
theorem cls_func {T : TypeId} (h : eT P T .func = true) : ∃ A B C, P.underlying T = some (.func A B C) := by
  simp only [eT] at h; split at h <;> first | exact ⟨_, _, _, by assumption⟩ | cases h
theorem eq_bool {T : TypeId} (h : P.underlying T = some .bool) (x y : Bool) (w : World) : (Op.equal T (.bool x) (.bool y)).run P w = .ok (x == y) w := bV fun d => by simp [Op.equalIn, aA h]
theorem eq_ptr {T E : TypeId} (h : P.underlying T = some (.pointer E)) (x y : Option Addr) (w : World) (hn : x = none ∨ y = none) : (Op.equal T (.pointer x) (.pointer y)).run P w = .ok (x.isNone && y.isNone) w := bV fun d => by
  cases x <;> cases y <;> simp at hn <;> simp [Op.equalIn, aA h]
theorem qC {T E : TypeId} (h : P.underlying T = some (.slice E)) (x y : Option Addr) (a b c d : Nat) (w : World) (hn : x = none ∨ y = none) : (Op.equal T (.slice x a b) (.slice y c d)).run P w = .ok (x.isNone && y.isNone) w := bV fun d => by
  cases x <;> cases y <;> simp at hn <;> simp [Op.equalIn, aA h]
theorem eq_map {T K E : TypeId} (h : P.underlying T = some (.map K E)) (x y : Option Nat) (w : World) (hn : x = none ∨ y = none) : (Op.equal T (.map x) (.map y)).run P w = .ok (x.isNone && y.isNone) w := bV fun d => by
  cases x <;> cases y <;> simp at hn <;> simp [Op.equalIn, aA h]
theorem eq_func1 {T : TypeId} {A B : Array TypeId} {C : Bool} (h : P.underlying T = some (.func A B C)) (w : World) : (Op.equal T .nilFunc .nilFunc).run P w = .ok true w := bV fun d => by simp [Op.equalIn, aA h]
theorem eq_func2 {T : TypeId} {A B : Array TypeId} {C : Bool} (h : P.underlying T = some (.func A B C)) (f : Fn) (x y : Array Value) (w : World) : (Op.equal T .nilFunc (.func f x y)).run P w = .ok false w := bV fun d => by simp [Op.equalIn, aA h]
theorem eq_func3 {T : TypeId} {A B : Array TypeId} {C : Bool} (h : P.underlying T = some (.func A B C)) (f : Fn) (x y : Array Value) (w : World) : (Op.equal T (.func f x y) .nilFunc).run P w = .ok false w := bV fun d => by simp [Op.equalIn, aA h]
def AV.kind : AV → Nat
  | .nilp => 1 | .ptr .. | .iptr .. => 2
  | .nils => 3 | .sl .. => 4
  | .nilm => 5 | .map _ => 6
  | .nilf => 7 | .fn .. => 8
  | _ => 0
theorem q7 {x : AV} {u : Value} (h : RepV ρ R x u) (hk : x.kind = 1 ∨ x.kind = 2) : ∃ ad, u = .pointer ad ∧ ad.isNone = decide (x.kind = 1) := by
  cases h <;> simp [AV.kind] at hk <;> exact ⟨_, rfl, rfl⟩
theorem nZ {x : AV} {u : Value} (h : RepV ρ R x u) (hk : x.kind = 3 ∨ x.kind = 4) : ∃ ad n c, u = .slice ad n c ∧ ad.isNone = decide (x.kind = 3) := by
  cases h <;> simp [AV.kind] at hk <;> exact ⟨_, _, _, rfl, rfl⟩
theorem q9 {x : AV} {u : Value} (h : RepV ρ R x u) (hk : x.kind = 5 ∨ x.kind = 6) : ∃ ad, u = .map ad ∧ ad.isNone = decide (x.kind = 5) := by
  cases h <;> simp [AV.kind] at hk <;> exact ⟨_, rfl, rfl⟩
theorem aBin_kinds {op : BinOp} {c : Cls} {x y z : AV} (h : dP op c x y = some z) (h0 : x.kind ≠ 0) :
    (c = .ptr ∧ (x.kind = 1 ∨ x.kind = 2) ∧ (y.kind = 1 ∨ y.kind = 2) ∧ (x.kind = 1 ∨ y.kind = 1) ∧ bQ op (decide (x.kind = 1) && decide (y.kind = 1)) = some z) ∨
    (c = .slice ∧ (x.kind = 3 ∨ x.kind = 4) ∧ (y.kind = 3 ∨ y.kind = 4) ∧ (x.kind = 3 ∨ y.kind = 3) ∧ bQ op (decide (x.kind = 3) && decide (y.kind = 3)) = some z) ∨
    (c = .map ∧ (x.kind = 5 ∨ x.kind = 6) ∧ (y.kind = 5 ∨ y.kind = 6) ∧ (x.kind = 5 ∨ y.kind = 5) ∧ bQ op (decide (x.kind = 5) && decide (y.kind = 5)) = some z) ∨
    (c = .func ∧ ((x = .nilf ∧ y = .nilf ∧ bQ op true = some z) ∨ (x = .nilf ∧ y.kind = 8 ∧ bQ op false = some z) ∨ (x.kind = 8 ∧ y = .nilf ∧ bQ op false = some z))) := by
  cases x <;> first | (exact absurd rfl h0) | skip
  all_goals cases y <;> simp only [dP] at h <;> first | (cases h; done) | (split at h <;> first | (cases h; done) | (rename_i e; subst e; simp [AV.kind, h]))
theorem run_bin {op : BinOp} {x y : AV} {u v : Value} {T : TypeId} {c : Cls} {z : AV} (w : World) (hc : eT P T c = true) (hx : RepV ρ R x u) (hy : RepV ρ R y v) (h : dP op c x y = some z) : ∃ t, (binOp op T u v).run P w = .ok t w ∧ RepV ρ R z t := by
  by_cases h0 : x.kind = 0
  · cases x <;> first | (simp [AV.kind] at h0; done) | skip
    all_goals cases y <;> simp only [dP] at h <;> try (cases h; done)
    · split at h
      · rename_i e; subst e
        rw [hx.bool_inv, hy.bool_inv]
        exact cR w h ⟨rfl, rfl⟩ (eq_bool (cls_bool hc) _ _ w)
      · cases h
    · rw [hx.int_inv, hy.int_inv]
      exact run_binI (c := c) w (by simpa only [dP] using h)
    · rw [hx.str_inv, hy.str_inv]
      rcases oF h with ⟨rfl, rfl⟩ | ⟨rfl, rfl⟩ <;> exact ⟨_, by simp [binOp, Op.stringOp], .bool _⟩
  · rcases aBin_kinds h h0 with ⟨rfl, h1, h2, h3, h4⟩ | ⟨rfl, h1, h2, h3, h4⟩ | ⟨rfl, h1, h2, h3, h4⟩ | ⟨rfl, h5⟩
    · obtain ⟨E, hu⟩ := cls_ptr hc
      obtain ⟨p, rfl, hp⟩ := q7 hx h1
      obtain ⟨q, rfl, hq⟩ := q7 hy h2
      rw [← hp, ← hq] at h4
      exact cR w h4 ⟨rfl, rfl⟩ (eq_ptr hu _ _ w (by rcases h3 with h3 | h3 <;> simp [h3] at hp hq <;> simp [*]))
    · obtain ⟨E, hu⟩ := cls_slice hc
      obtain ⟨p, _, _, rfl, hp⟩ := nZ hx h1
      obtain ⟨q, _, _, rfl, hq⟩ := nZ hy h2
      rw [← hp, ← hq] at h4
      exact cR w h4 ⟨rfl, rfl⟩ (qC hu _ _ _ _ _ _ w (by rcases h3 with h3 | h3 <;> simp [h3] at hp hq <;> simp [*]))
    · obtain ⟨K, E, hu⟩ := cls_map hc
      obtain ⟨p, rfl, hp⟩ := q9 hx h1
      obtain ⟨q, rfl, hq⟩ := q9 hy h2
      rw [← hp, ← hq] at h4
      exact cR w h4 ⟨rfl, rfl⟩ (eq_map hu _ _ w (by rcases h3 with h3 | h3 <;> simp [h3] at hp hq <;> simp [*]))
    · obtain ⟨A, B, C, hu⟩ := cls_func hc
      rcases h5 with ⟨rfl, rfl, h5⟩ | ⟨rfl, hk, h5⟩ | ⟨hk, rfl, h5⟩
      · cases hx; cases hy; exact cR w h5 ⟨rfl, rfl⟩ (eq_func1 hu w)
      · cases hx
        cases hy <;> simp [AV.kind] at hk
        exact cR w h5 ⟨rfl, rfl⟩ (eq_func2 hu _ _ _ w)
      · cases hy
        cases hx <;> simp [AV.kind] at hk
        exact cR w h5 ⟨rfl, rfl⟩ (eq_func3 hu _ _ _ w)
def AV.plain : AV → Bool
  | .agg _ | .tuple _ => false
  | _ => true
theorem aBin_plain {op : BinOp} {c : Cls} {x y z : AV} (h : dP op c x y = some z) : x.plain = true := by
  cases x <;> first | rfl | (cases y <;> simp [dP] at h)
theorem sound_bin {op : BinOp} {T T' : TypeId} {p q : Operand} {x y z : AV} {c : Cls} (ho : o.op = .binOp op T p q T') (hc : eT P T c = true) (hx : RepV ρ R x (a.eval p)) (hy : RepV ρ R y (a.eval q)) (h : dP op c x y = some z) : aV P o a ρ R H nx (.pure z) := by
  have key : ∀ w, ∃ t, (execOp a.eval o).run P w = .ok (.value t) w ∧ RepV ρ R z t := by
    intro w
    obtain ⟨t, h1, h2⟩ := run_bin (P := P) (T := T) w hc hx hy h
    refine ⟨t, ?_, h2⟩
    have hg : (eqGuard op T p q (a.eval p) (a.eval q)).run P w = .ok () w := by
      have hp := aBin_plain h
      generalize a.eval p = u at hx
      generalize a.eval q = v
      cases hx <;> first | (simp [AV.plain] at hp; done) | (cases op <;> simp [eqGuard])
    simp [execOp, ho, hg, h1]
  refine ⟨fun l hl => absurd hl (aF l), fun w hR _ => ?_⟩
  obtain ⟨t, h1, h2⟩ := key w
  exact aU h1 ⟨ρ, R, Fut.refl _ _ _ _ _, h2, hR⟩
theorem sound_not {T : TypeId} {p : Operand} {b : Bool} (ho : o.op = .unOp .not T p) (hx : RepV ρ R (.bool b) (a.eval p)) : aV P o a ρ R H nx (.pure (.bool (!b))) := by
  refine aE (v := .bool (!b)) (fun w => ?_) (.bool _)
  generalize hg : a.eval p = pv at hx
  cases hx
  simp [execOp, ho, hg, Op.unary]
theorem sound_neg {T : TypeId} {p : Operand} {k : IntKind} {n : Int} {z : AV} (ho : o.op = .unOp .neg T p) (hx : RepV ρ R (.int k n) (a.eval p)) (h : eU k (0 - n) = some z) : aV P o a ρ R H nx (.pure z) := by
  refine aE (v := .int k (k.wrap (0 - n))) (fun w => ?_) (d4 h)
  generalize hg : a.eval p = pv at hx
  cases hx
  simp [execOp, ho, hg, Op.unary, Op.intArith]
theorem sound_conv {S T : TypeId} {p : Operand} {k k' : IntKind} {n : Int} {z : AV} {d : TypeDesc} (ho : o.op = .convert S T p) (hs : P.underlying S = some d) (ht : P.underlying T = some (.int k)) (hx : RepV ρ R (.int k' n) (a.eval p)) (h : eU k n = some z) : aV P o a ρ R H nx (.pure z) := by
  refine aE (v := .int k (k.wrap n)) (fun w => ?_) (d4 h)
  generalize hg : a.eval p = pv at hx
  cases hx
  cases d <;> simp [execOp, ho, hg, convert, aA hs, aA ht, Conv.intToInt]
theorem sound_mkfn {f : Fn} {first captured : Array Operand} {xs : List AV} {nf : Nat} (ho : o.op = .makeFunc f first captured) (hn : first.size = nf) (hx : RepL ρ R xs ((first.map a.eval).toList ++ (captured.map a.eval).toList)) : aV P o a ρ R H nx (.pure (.fn f (xs.take nf) (xs.drop nf))) := by
  have h1 := hx.take nf
  have h2 := hx.drop nf
  have e1 : ((first.map a.eval).toList ++ (captured.map a.eval).toList).take nf = (first.map a.eval).toList := List.take_left' (by simp [hn])
  have e2 : ((first.map a.eval).toList ++ (captured.map a.eval).toList).drop nf = (captured.map a.eval).toList := List.drop_left' (by simp [hn])
  rw [e1] at h1
  rw [e2] at h2
  refine aE (v := .func f (first.map a.eval) (captured.map a.eval)) (fun w => ?_) (by have := h1.fn (f := f) h2; simpa only [Array.toArray_toList] using this)
  simp [execOp, ho, Instr.makeFunc]
theorem sound_fieldAddr {T : TypeId} {p : Operand} {n : Nat} {fs : Array Field} {f : Field} {i : TypeInfo} {x z : AV} (ho : o.op = .fieldAddr T p n) (hd : P.underlying T = some (.struct fs)) (hf : fs[n]? = some f) (hi : P.info? f.type = some i) (h0 : i.size ≠ 0) (hx : RepV ρ R x (a.eval p)) (h : cE f.offset x = some z) :
    aV P o a ρ R H nx (.pure z) := by
  cases x <;> simp only [cE] at h <;> try (cases h; done)
  · cases h
    rename_i l e ii j
    obtain ⟨L, hL, hg⟩ := hx.ptr_inv
    refine aE (v := .pointer (some ⟨L.blk, L.off + (ii * e + (j + f.offset)), none⟩)) (fun w => ?_) (.ptr _ _ _ _ _ hL)
    simp [execOp, ho, Instr.fieldAt, aA hd, hf, hg, Instr.sureAddr, fieldPlace, aJ hi, h0, a8, Nat.add_assoc]
  · cases h
    rename_i e rows ii j
    obtain ⟨b, o', c, T', fz, g, hb, hc, hr, hg⟩ := hx.iptr_inv
    refine aE (v := .pointer (some ⟨b, o' + (ii * e + (j + f.offset)), none⟩)) (fun w => ?_) (.iptr _ _ _ _ _ _ _ _ _ _ hb hc hr)
    simp [execOp, ho, Instr.fieldAt, aA hd, hf, hg, Instr.sureAddr, fieldPlace, aJ hi, h0, a8, Nat.add_assoc]
theorem sound_field {T : TypeId} {p : Operand} {n : Nat} {fs : Array Field} {f : Field} {i : TypeInfo} {d : TypeDesc} {cs : List AV} {z : AV} (ho : o.op = .field T p n) (hd : P.underlying T = some (.struct fs)) (hf : fs[n]? = some f) (hi : P.info? f.type = some i) (hft : P.underlying f.type = some d)
    (h1 : a3 d = false → i.size = 1) (hx : RepV ρ R (.agg cs) (a.eval p)) (hle : f.offset + i.size ≤ cs.length) (h : aG (a3 d) ((cs.drop f.offset).take i.size) = some z) : aV P o a ρ R H nx (.pure z) := by
  obtain ⟨vs, hv, hr⟩ := hx.agg_inv
  have hl := hr.1
  have hsub := (hr.drop f.offset).take i.size
  have hw := gF h hsub.1 hsub.2
  refine aE (fun w => ?_) hw
  have ha := iV (P := P) hft w
  cases hagg : a3 d with
  | true =>
    rw [hagg] at ha
    have e : vs.toArray.extract f.offset (f.offset + i.size) = ((vs.drop f.offset).take i.size).toArray := by
      apply Array.ext'
      simp [List.extract_eq_take_drop]
    simp [execOp, ho, Instr.field, aA hd, hf, hv, asAgg, part, ha, aJ hi]
  | false =>
    rw [hagg] at ha
    have hs := h1 hagg
    have hlt : f.offset < vs.length := by omega
    simp [execOp, ho, Instr.field, aA hd, hf, hv, asAgg, part, ha, hlt, hs]
theorem sound_indexAddr {T E : TypeId} {p q : Operand} {i : TypeInfo} {x y z : AV} (ho : o.op = .indexAddr T p q) (hd : P.underlying T = some (.slice E)) (hi : P.info? E = some i) (hx : RepV ρ R x (a.eval p)) (hy : RepV ρ R y (a.eval q)) (h : cD i.size x y = some z) : aV P o a ρ R H nx (.pure z) := by
  cases x <;> cases y <;> simp only [cD] at h <;> try (cases h; done)
  · rename_i l e off len k n
    split at h
    · rename_i hc
      obtain ⟨rfl, h0, h1⟩ := hc
      cases h
      have hg' := hy.int_inv
      rcases hx.sl_inv with ⟨L, cap, hL, hl, ht, _, hg⟩ | ⟨rfl, _⟩
      · refine aE (v := .pointer (some ⟨L.blk, L.off + ((off + n.toNat) * i.size + 0), none⟩)) (fun w => ?_) (.ptr _ _ _ _ _ hL)
        simp [execOp, ho, hg, hg', Instr.indexAt, asIntOf, aA hd, h0, h1, aJ hi, a8, Nat.add_mul, Nat.add_assoc]
      · omega
    · cases h
  · rename_i e rows k n
    split at h
    · rename_i hc
      obtain ⟨rfl, h0, h1⟩ := hc
      cases h
      have hg' := hy.int_inv
      rcases hx.isl_inv with ⟨b, o', cap, c, T', fz, g, hl, hw, hb, hcc, hr, hg⟩ | ⟨rfl, _⟩
      · refine aE (v := .pointer (some ⟨b, o' + (n.toNat * i.size + 0), none⟩)) (fun w => ?_) (.iptr _ _ _ _ _ _ _ _ _ _ hb hcc hr)
        simp [execOp, ho, hg, hg', Instr.indexAt, asIntOf, aA hd, h0, h1, aJ hi, a8]
      · simp at h1; omega
    · cases h
theorem sound_strAt {T : TypeId} {p q : Operand} {s : ByteArray} {k : IntKind} {n : Int} {b : UInt8} (ho : o.op = .index T p q) (hd : P.underlying T = some .string) (hx : RepV ρ R (.str s) (a.eval p)) (hy : RepV ρ R (.int k n) (a.eval q)) (h0 : 0 ≤ n) (h : s[n.toNat]? = some b) : aV P o a ρ R H nx (.pure (.int .u8 b.toNat)) := by
  have hg' := hy.int_inv
  generalize hg : a.eval p = v at hx
  cases hx
  refine aE (v := .int .u8 b.toNat) (fun w => ?_) (.int _ _)
  simp [execOp, ho, hg, hg', Instr.index, asIntOf, aA hd, h0, h]
theorem sound_indexAddrA {T E : TypeId} {len : Nat} {p q : Operand} {i : TypeInfo} {x y z : AV} (ho : o.op = .indexAddr T p q) (hd : P.underlying T = some (.array len E)) (hi : P.info? E = some i) (hx : RepV ρ R x (a.eval p)) (hy : RepV ρ R y (a.eval q)) (h : gV i.size len x y = some z) : aV P o a ρ R H nx (.pure z) := by
  cases x <;> cases y <;> simp only [gV] at h <;> try (cases h; done)
  · rename_i l e ii j k n
    split at h
    · rename_i hc
      obtain ⟨h0, h1⟩ := hc
      cases h
      have hg' := hy.int_inv
      obtain ⟨L, hL, hg⟩ := hx.ptr_inv
      refine aE (v := .pointer (some ⟨L.blk, L.off + (ii * e + (j + n.toNat * i.size)), none⟩)) (fun w => ?_) (.ptr _ _ _ _ _ hL)
      simp [execOp, ho, hg, hg', Instr.indexAt, asIntOf, aA hd, h0, h1, aJ hi, a8, Instr.sureAddr, Nat.add_assoc]
    · cases h
  · rename_i e rows ii j k n
    split at h
    · rename_i hc
      obtain ⟨h0, h1⟩ := hc
      cases h
      have hg' := hy.int_inv
      obtain ⟨b, o', c, T', fz, g, hb, hcc, hr, hg⟩ := hx.iptr_inv
      refine aE (v := .pointer (some ⟨b, o' + (ii * e + (j + n.toNat * i.size)), none⟩)) (fun w => ?_) (.iptr _ _ _ _ _ _ _ _ _ _ hb hcc hr)
      simp [execOp, ho, hg, hg', Instr.indexAt, asIntOf, aA hd, h0, h1, aJ hi, a8, Instr.sureAddr, Nat.add_assoc]
    · cases h
theorem sound_extract {p : Operand} {i : Nat} {cs : List AV} {z : AV} (ho : o.op = .extract p i) (hx : RepV ρ R (.tuple cs) (a.eval p)) (h : cs[i]? = some z) : aV P o a ρ R H nx (.pure z) := by
  obtain ⟨vs, hv, hr⟩ := hx.tuple_inv
  obtain ⟨v, h1, h2⟩ := hr.2 i z h
  refine aE (v := v) (fun w => ?_) h2
  simp [execOp, ho, Instr.extract, hv, h1]
end
end Go.Proofs.Ytigjoggpaamodaa
/-! The abstract machine: slices, lengths, calls. -/
namespace Go.Proofs.Ytigjoggpaamodaa
set_option linter.unusedVariables false
set_option linter.unusedSimpArgs false
section
variable {P : Program} {o : Oper} {a : Act} {ρ : aH} {R : Imm} {H : aB} {nx : Lab} {r : Res}

theorem sound_len_slice {T E : TypeId} {c : Call} {p : Operand} {x : AV} {n : Nat} (ho : o.op = .call c) (hc : c.callee = .builtin .len) (hargs : c.args = #[p]) (ht : c.argTypes[0]? = some T) (hd : P.underlying T = some (.slice E)) (hx : RepV ρ R x (a.eval p)) (h : x.len = some n) : aV P o a ρ R H nx (.pure (.int .i64 n)) := by
  refine aE (v := .int .i64 n) (fun w => ?_) (.int _ _)
  generalize hg : a.eval p = pv at hx
  cases hx <;> simp [AV.len] at h <;> subst h <;> simp [execOp, ho, resolve, hc, hargs, invoke, builtin, Builtin.len_, ht, aA hd, hg, goInt]
theorem sound_len_str {T : TypeId} {c : Call} {p : Operand} {s : ByteArray} (ho : o.op = .call c) (hc : c.callee = .builtin .len) (hargs : c.args = #[p]) (ht : c.argTypes[0]? = some T) (hd : P.underlying T = some .string) (hx : RepV ρ R (.str s) (a.eval p)) : aV P o a ρ R H nx (.pure (.int .i64 s.size)) := by
  refine aE (v := .int .i64 s.size) (fun w => ?_) (.int _ _)
  have hg := hx.str_inv
  simp [execOp, ho, resolve, hc, hargs, invoke, builtin, Builtin.len_, ht, aA hd, hg, goInt]
theorem sound_len_nilm {T K E : TypeId} {c : Call} {p : Operand} (ho : o.op = .call c) (hc : c.callee = .builtin .len) (hargs : c.args = #[p]) (ht : c.argTypes[0]? = some T) (hd : P.underlying T = some (.map K E)) (hx : RepV ρ R .nilm (a.eval p)) : aV P o a ρ R H nx (.pure (.int .i64 0)) := by
  refine aE (v := .int .i64 0) (fun w => ?_) (.int _ _)
  generalize hg : a.eval p = pv at hx
  cases hx
  simp [execOp, ho, resolve, hc, hargs, invoke, builtin, Builtin.len_, ht, aA hd, hg, goInt]
theorem sound_len_map {T K E : TypeId} {c : Call} {p : Operand} {l : Lab} {es : List (AV × AV)} {bs : List Nat} {ck : Nat} (ho : o.op = .call c) (hc : c.callee = .builtin .len) (hargs : c.args = #[p]) (ht : c.argTypes[0]? = some T) (hd : P.underlying T = some (.map K E)) (hx : RepV ρ R (.map l) (a.eval p)) (hl : H l = some (.amap es bs ck)) :
    aV P o a ρ R H nx ⟨.int .i64 es.length, [], some [l]⟩ := by
  refine c7 hl fun w L O hO hL hrep => ⟨.int .i64 es.length, ?_, .int _ _⟩
  cases O <;> simp only [RepO] at hrep
  rename_i ents clock
  generalize hg : a.eval p = pv at hx
  cases hx
  rename_i L' hL'
  rw [hL] at hL'; cases hL'
  have hrun : (getObj L.blk).run P w = .ok (.map ents clock) w := by simp [getObj, Sem.run, hO]
  simp [execOp, ho, resolve, hc, hargs, invoke, builtin, Builtin.len_, ht, aA hd, hg, goInt, hrun, hrep.1]
theorem sound_min {c : Call} {p q : Operand} {k : IntKind} {x y : Int} (ho : o.op = .call c) (hc : c.callee = .builtin .min) (hargs : c.args = #[p, q]) (hx : RepV ρ R (.int k x) (a.eval p)) (hy : RepV ρ R (.int k y) (a.eval q)) : aV P o a ρ R H nx (.pure (.int k (Min.min x y))) := by
  refine aE (v := .int k (Min.min x y)) (fun w => ?_) (.int _ _)
  have hg := hx.int_inv
  have hg' := hy.int_inv
  have e : (if y < x then y else x) = Min.min x y := by rw [Int.min_def]; split <;> split <;> omega
  simp [execOp, ho, resolve, hc, hargs, invoke, builtin, Builtin.min_, Builtin.min2, hg, hg', e]
theorem sound_max {c : Call} {p q : Operand} {k : IntKind} {x y : Int} (ho : o.op = .call c) (hc : c.callee = .builtin .max) (hargs : c.args = #[p, q]) (hx : RepV ρ R (.int k x) (a.eval p)) (hy : RepV ρ R (.int k y) (a.eval q)) : aV P o a ρ R H nx (.pure (.int k (Max.max x y))) := by
  refine aE (v := .int k (Max.max x y)) (fun w => ?_) (.int _ _)
  have hg := hx.int_inv
  have hg' := hy.int_inv
  have e : (if x < y then y else x) = Max.max x y := by rw [Int.max_def]; split <;> split <;> omega
  simp [execOp, ho, resolve, hc, hargs, invoke, builtin, Builtin.max_, Builtin.max2, hg, hg', e]

/-- slices of slices -/
theorem run_sliceBounds' (lo hi : Option Value) (len cap : Nat) (l h : Int) (hl : match lo with | some v => ∃ k, v = .int k l | none => l = 0) (hh : match hi with | some v => ∃ k, v = .int k h | none => h = len) (h0 : 0 ≤ l) (h1 : l ≤ h) (h2 : h ≤ cap) (w : World) :
    (Instr.sliceBounds true len cap lo hi none).run P w = .ok (l.toNat, h.toNat, cap) w := by
  have e1 : 0 ≤ h := by omega
  cases lo <;> cases hi <;> simp only at hl hh
  · subst hl; subst hh; simp [Instr.sliceBounds]
  · obtain ⟨k, rfl⟩ := hh; subst hl; simp [Instr.sliceBounds, Instr.sliceBound, asIntOf, e1, h2]
  · obtain ⟨k, rfl⟩ := hl; subst hh
    have : l ≤ (len : Int) := h1
    simp [Instr.sliceBounds, Instr.sliceBound, asIntOf, h0, this]
  · obtain ⟨k, rfl⟩ := hl; obtain ⟨k', rfl⟩ := hh
    have : l ≤ max h 0 := by omega
    simp [Instr.sliceBounds, Instr.sliceBound, asIntOf, e1, h2, h0, this]
theorem eK {T E : TypeId} {p : Operand} {lo hi : Option Operand} {i : TypeInfo} {x z : AV} {l h : Int} (ho : o.op = .slice T p lo hi none) (hd : P.underlying T = some (.slice E)) (hi' : P.info? E = some i) (hx : RepV ρ R x (a.eval p))
    (hl : match lo with | some v => ∃ k, a.eval v = .int k l | none => l = 0) (hh : match hi with | some v => ∃ k, a.eval v = .int k h | none => x.len = some h.toNat ∧ 0 ≤ h) (hz : kC i.size x l h = some z) : aV P o a ρ R H nx (.pure z) := by
  have fin : ∀ (A : Option Addr) (len cap : Nat) , a.eval p = .slice A len cap → 0 ≤ l → l ≤ h → h ≤ len → len ≤ cap → (hi = none → h = len) →
      ∀ w, (execOp a.eval o).run P w = .ok (.value (.slice (if cap = l.toNat then A else A.map (·.add (l.toNat * i.size))) (h.toNat - l.toNat) (cap - l.toNat))) w := by
    intro A len cap hg h0 h1 h2 h3 h4 w
    have hb := run_sliceBounds' (P := P) (lo.map a.eval) (hi.map a.eval) len cap l h (by cases lo <;> simpa using hl) (by
      cases hi with
      | none => simpa using h4 rfl
      | some v => simpa using hh) h0 h1 (by omega) w
    simp only [execOp, ho, Option.map_none, Instr.sliceAt, Instr.slice, Sem.run_bind, aA hd, hg, Result.andThen, hb, aJ hi', Sem.run_pure]
  cases x <;> simp only [kC] at hz <;> try (cases hz; done)
  · -- nils
    split at hz
    · rename_i hc
      obtain ⟨rfl, rfl⟩ := hc
      cases hz
      generalize hg : a.eval p = pv at hx
      cases hx
      refine aE (fun w => fin none 0 0 hg (by omega) (by omega) (by omega) (by omega) (fun _ => rfl) w) ?_
      simpa using RepV.nils
    · cases hz
  · rename_i lb e off len
    split at hz
    · rename_i hc
      obtain ⟨rfl, h0, h1, h2⟩ := hc
      cases hz
      have h4 : hi = none → h = len := fun e => by subst e; simp [AV.len] at hh; omega
      rcases hx.sl_inv with ⟨L, cap, hL, hlc, ht, hxt, hg⟩ | ⟨rfl, L, ad, hL, hxt, hg⟩
      · refine aE (fun w => fin _ len cap hg h0 h1 h2 hlc h4 w) ?_
        by_cases hcap : cap = l.toNat
        · rw [if_pos hcap]
          have e1 : (h - l).toNat = 0 := by omega
          have e2 : h.toNat - l.toNat = 0 := by omega
          have e3 : cap - l.toNat = 0 := by omega
          rw [e1, e2, e3]
          exact .slz _ _ _ _ L hL (by omega)
        · rw [if_neg hcap]
          have e2 : h.toNat - l.toNat = (h - l).toNat := by omega
          rw [e2]
          have := RepV.sl (ρ := ρ) (R := R) lb i.size (off + l.toNat) (h - l).toNat (cap - l.toNat) L hL (by omega) (by
            rw [show off + l.toNat + (cap - l.toNat) = off + cap by omega]; exact ht) (by omega)
          simpa [a8, Nat.add_mul, Nat.add_assoc] using this
      · have e0 : l = 0 := by omega
        have e1 : h = 0 := by omega
        subst e0; subst e1
        refine aE (fun w => fin _ 0 0 hg h0 h1 h2 (Nat.le_refl _) h4 w) ?_
        exact .slz _ _ _ _ L hL (by simpa using hxt)
    · cases hz
  · split at hz
    · rename_i hc
      obtain ⟨rfl, rfl⟩ := hc
      cases hz
      generalize hg : a.eval p = pv at hx
      cases hx
      refine aE (fun w => fin _ 0 0 hg (by omega) (by omega) (by omega) (by omega) (fun _ => rfl) w) ?_
      simpa using RepV.sl0 _
    · cases hz
  · rename_i e rows
    split at hz
    · rename_i hc
      obtain ⟨rfl, h0, h1, h2⟩ := hc
      cases hz
      have h4 : hi = none → h = rows.length := fun e => by subst e; simp [AV.len] at hh; omega
      have hlen : ((rows.drop l.toNat).take (h - l).toNat).length = (h - l).toNat := by simp; omega
      rcases hx.isl_inv with ⟨b, o', cap, c, T', fz, g, hlc, hw, hb, hcc, hr, hg⟩ | ⟨rfl, ad, cap, hn, hg⟩
      · refine aE (fun w => fin _ rows.length cap hg h0 h1 h2 hlc h4 w) ?_
        have e2 : h.toNat - l.toNat = (h - l).toNat := by omega
        by_cases hcap : cap = l.toNat
        · rw [if_pos hcap]
          have e1 : (h - l).toNat = 0 := by omega
          rw [e2, e1]
          simp only [List.take_zero]
          exact .isl0 _ _ _ (fun h => by cases h)
        · rw [if_neg hcap, e2]
          have hget : ∀ ii j x, aC ((rows.drop l.toNat).take (h - l).toNat) ii j = some x → aC rows (l.toNat + ii) j = some x := by
            intro ii j x hx
            simp only [aC, List.getElem?_take, List.getElem?_drop] at hx ⊢
            split at hx
            · exact hx
            · simp at hx
          have := RepV.isl (ρ := ρ) (R := R) i.size ((rows.drop l.toNat).take (h - l).toNat) b (o' + l.toNat * i.size) (cap - l.toNat) c T' fz (fun ii j => g (l.toNat + ii) j) (by omega) (fun r hr' => hw r (List.mem_of_mem_drop (List.mem_of_mem_take hr'))) hb (fun ii j x hx => by
              have := hcc _ _ _ (hget ii j x hx)
              rw [← this]; congr 1; rw [Nat.add_mul]; omega) (fun ii j x hx => hr _ _ _ (hget ii j x hx))
          rw [hlen] at this
          simpa [a8] using this
      · have e0 : l = 0 := by simp at h2; omega
        have e1 : h = 0 := by simp at h2; omega
        subst e0; subst e1
        refine aE (fun w => fin _ 0 cap hg h0 h1 h2 (Nat.zero_le _) (fun _ => by simp) w) ?_
        simp only [List.drop_nil, List.take_nil]
        by_cases hcap : cap = 0
        · subst hcap; exact .isl0 _ _ _ (fun _ => rfl)
        · cases ad with
          | none => exact absurd (hn rfl) hcap
          | some ad => simp [hcap]; exact .isl0 _ _ _ (fun h => by cases h)
    · cases hz
theorem jC {T E : TypeId} {p hi mx : Operand} {lo : Option Operand} {i : TypeInfo} {x z : AV} (ho : o.op = .slice T p lo (some hi) (some mx)) (hd : P.underlying T = some (.slice E)) (hi' : P.info? E = some i) (hx : RepV ρ R x (a.eval p))
    (hl : match lo with | some v => ∃ k, a.eval v = .int k 0 | none => True) (hh : ∃ k, a.eval hi = .int k 0) (hm : ∃ k, a.eval mx = .int k 0) (hz : iC x 0 0 0 = some z) : aV P o a ρ R H nx (.pure z) := by
  obtain ⟨k1, hh⟩ := hh
  obtain ⟨k2, hm⟩ := hm
  have fin : ∀ (A : Option Addr) (len cap : Nat) , a.eval p = .slice A len cap → ∀ w, (execOp a.eval o).run P w = .ok (.value (.slice A 0 0)) w := by
    intro A len cap hg w
    have hb : (Instr.sliceBounds true len cap (lo.map a.eval) (some (.int k1 0)) (some (.int k2 0))).run P w = .ok (0, 0, 0) w := by
      cases lo with
      | none => simp [Instr.sliceBounds, Instr.sliceBound, asIntOf]
      | some v => obtain ⟨k, hv⟩ := hl; simp [Instr.sliceBounds, Instr.sliceBound, asIntOf, hv]
    simp [execOp, ho, hh, hm, Instr.sliceAt, Instr.slice, aA hd, hg, hb, aJ hi']
  simp only [iC, and_self, if_true] at hz
  generalize hg : a.eval p = pv at hx
  cases hx <;> simp only at hz <;> try (cases hz; done)
  all_goals
    cases hz
    refine aE (fun w => fin _ _ _ hg w) ?_
    first | exact .nils | exact .sl0 _

theorem sound_mkslice {T E : TypeId} {p q : Operand} {i : TypeInfo} {z : Value} {zs : List AV} {k k' : IntKind} {n c : Int} (ho : o.op = .makeSlice T p q) (hd : P.underlying T = some (.slice E)) (hi : P.info? E = some i) (hz : i.zero = some z) (hsz : z.cells.size = i.size) (hzs : gN z.cells.toList = some zs)
    (hx : RepV ρ R (.int k n) (a.eval p)) (hy : RepV ρ R (.int k' c) (a.eval q)) (hc : 0 < i.size ∧ 0 ≤ n ∧ n ≤ c ∧ c * i.bytes ≤ 281474976710656 ∧ c ≤ 9223372036854775807) :
    aV P o a ρ R H nx (kX i.size (List.replicate c.toNat zs) (.sl nx i.size 0 n.toNat) nx) := by
  obtain ⟨hpos, h0, h1, h2, h3⟩ := hc
  have hg := hx.int_inv
  have hg' := hy.int_inv
  have hzr := eC (ρ := ρ) (R := R) hzs
  have hzl := hzr.1
  simp only [Array.length_toList] at hzl
  have wrapId : ∀ m : Int, 0 ≤ m → m ≤ 9223372036854775807 → IntKind.i64.wrap m = m := by
    intro m hm1 hm2
    have e : IntKind.i64.wrap m = if 9223372036854775808 ≤ m % 18446744073709551616 then m % 18446744073709551616 - 18446744073709551616 else m % 18446744073709551616 := by simp [IntKind.wrap, IntKind.bits, IntKind.signed]
    rw [e]; split <;> omega
  have w1 := wrapId n h0 (by omega)
  have w2 := wrapId c (by omega) h3
  refine c9 (O := .cells ((Array.range (c.toNat * i.size)).map (z.cells[· % z.cells.size]!)) E) (c.toNat * i.size) c.toNat (fun w => ⟨.slice (some ⟨w.heap.size, 0, none⟩) n.toNat c.toNat, ?_, fun ρ' _ h => ?_⟩) (fun b => ?_)
  · have g5 : ¬ (281474976710656 < (i.bytes : Int) * c) := by rw [Int.mul_comm]; omega
    have g1 : ¬ c < 0 := by omega
    have g2 : ¬ n < 0 := by omega
    have g3 : ¬ c < n := by omega
    have g4 : ¬ (2 ^ 48 < (i.bytes : Int) * c) := by
      have : (2 : Int) ^ 48 = 281474976710656 := by decide
      rw [this, Int.mul_comm]; omega
    by_cases hz0 : c.toNat * i.size = 0
    · have e0 : ∀ f : Nat → Value, (Array.range 0).map f = #[] := fun f => by simp
      simp [execOp, ho, hg, hg', Instr.makeSlice, aA hd, asInt, asIntOf, typeInfo, hi, w1, w2, g1, g2, g3, g5, aJ hi, hz0, e0, newRow]
    · simp [execOp, ho, hg, hg', Instr.makeSlice, aA hd, asInt, asIntOf, typeInfo, hi, w1, w2, g1, g2, g3, g5, aJ hi, hz0, cG hi hz, newRow]
  · have := RepV.sl (R := R) nx i.size 0 n.toNat c.toNat _ h (by omega) (by simp) (by simp)
    simpa using this
  · refine ⟨rfl, by simp, fun r hr => by rw [(List.mem_replicate.1 hr).2]; exact ⟨by omega, lW hzs⟩, by simp, fun ii j x hx => ?_⟩
    simp only [aC, List.getElem?_replicate] at hx
    split at hx
    · rename_i hii
      simp only [Option.bind_some] at hx
      have hj : j < zs.length := (List.getElem?_eq_some_iff.1 hx).1
      obtain ⟨v, hv, hr⟩ := hzr.2 j x hx
      refine ⟨v, ?_, hr⟩
      have hlt : ii * i.size + j < c.toNat * i.size := by
        have : (ii + 1) * i.size ≤ c.toNat * i.size := Nat.mul_le_mul_right _ hii
        rw [Nat.add_mul, Nat.one_mul] at this
        omega
      have hmod : (ii * i.size + j) % z.cells.size = j := by
        rw [hsz, Nat.mul_comm, Nat.mul_add_mod]
        exact Nat.mod_eq_of_lt (by omega)
      simp only [Nat.zero_add, Array.getElem?_map, Array.getElem?_range, hlt, if_true, Option.map_some, hmod]
      have hv' : z.cells[j]? = some v := by simpa using hv
      simp [getElem!_def, hv']
    · simp at hx

theorem callsIn_w {r : Option Nat} {n : Nat} {P : Program} {f : FuncId} {args : Array Value} {w : World} {R : Ending → World → Prop} : CallsIn (Fw r) n P f args w R ↔ Calls P f args w R := callsIn_wide (n := n)
/-- a call of a function -/
def dL (P : Program) (f : FuncId) (args : Array Value) (w : World) (K : Value → World → Prop) : Prop := Calls P f args w (fun e w' => ∃ v, e = .returned v ∧ K v w')
def fG (P : Program) (f : FuncId) : Prop := ∃ fn, P.funcs[f]? = some fn ∧ fn.body.isNone = false ∧ (fn.name == "runtime.NumGoroutine") = false
/-- what is asked of the calls that the abstract machine makes -/
def aY (P : Program) (call : aQ) : Prop := ∀ f xs H nx r, call f xs H nx = some r → fG P f ∧ (∀ l, r.u.has l → restr H r.foot l ≠ none ∨ Under nx l) ∧
  ∀ ρ R vs, RepL ρ R xs vs → Does (dL P f vs.toArray) (restr H r.foot) r.u (Under nx) ρ R r.x
theorem sound_call {call : aQ} (hcall : aY P call) {c : Call} {g : Operand} {xs : List AV} (ho : o.op = .call c) (hc : c.callee = .value g) (hx : RepL ρ R xs (a.eval g :: (c.args.map a.eval).toList)) (h : kS call xs H nx = some r) : aV P o a ρ R H nx r := by
  cases xs with
  | nil => simp [kS] at h
  | cons x xs =>
    obtain ⟨v, us, he, hv, hus⟩ := hx.head
    simp only [List.cons.injEq] at he
    obtain ⟨rfl, rfl⟩ := he
    cases x <;> simp only [kS] at h <;> try (cases h; done)
    rename_i f first captured
    cases f <;> simp only at h <;> try (cases h; done)
    rename_i f
    obtain ⟨⟨fn, hf, hb, hn⟩, h2, h3⟩ := hcall _ _ _ _ _ h
    refine ⟨h2, ?_⟩
    generalize hg : a.eval g = gv at hv
    cases hv with | fn _ _ _ F C hF hC hf1 hf2 => ?_
    have hrF : RepL ρ R first F.toList := ⟨by simpa using hF, fun k x hk => by
      have hk' : k < F.size := by have := (List.getElem?_eq_some_iff.1 hk).1; omega
      have := hf1 k x hk
      exact ⟨F[k], by simp [hk'], by simpa [Array.getD, hk'] using this⟩⟩
    have hrC : RepL ρ R captured C.toList := ⟨by simpa using hC, fun k x hk => by
      have hk' : k < C.size := by have := (List.getElem?_eq_some_iff.1 hk).1; omega
      have := hf2 k x hk
      exact ⟨C[k], by simp [hk'], by simpa [Array.getD, hk'] using this⟩⟩
    have hall := (hrF.append hus).append hrC
    intro w hR hfr
    have hd := h3 ρ R _ hall w hR hfr
    have e : (F.toList ++ (c.args.map a.eval).toList ++ C.toList).toArray = F ++ c.args.map a.eval ++ C := by
      apply Array.ext'; simp
    rw [e] at hd
    intro r next Q hnext
    refine ⟨fun _ _ => trivial, ?_⟩
    rw [Oper.semAt_eq _ _ _ (fun c' hc' => by rw [ho] at hc'; cases hc')]
    have hrun : (execOp a.eval o).run P w = .ok (.enter f (F ++ c.args.map a.eval ++ C)) w := by
      have hn' : ¬ fn.name = "runtime.NumGoroutine" := by simpa using hn
      have hb' : ¬ fn.body = none := by intro e; rw [e] at hb; cases hb
      simp [execOp, ho, resolve, hc, hg, Deferred.ofValue, invoke, callFunc, hf, hn', hb']
    rw [hrun]
    simp only [Oper.uponIn]
    refine ⟨fun h => by simp [Fence.wide] at h, callsIn_w.2 (Calls.mono hd ?_)⟩
    rintro e w' ⟨v, rfl, hK⟩
    exact hnext v w' hK
end
end Go.Proofs.Ytigjoggpaamodaa
/-! The abstract machine: append. -/
namespace Go.Proofs.Ytigjoggpaamodaa
set_option linter.unusedVariables false
set_option linter.unusedSimpArgs false
section
variable {P : Program} {o : Oper} {a : Act} {ρ : aH} {R : Imm} {H : aB} {q : Lab} {r : Res}

/-- rows one behind the other, and their cells -/
def RowsL (ρ : aH) (R : Imm) (e : Nat) (rs : List (List AV)) (us : List Value) : Prop := us.length = rs.length * e ∧ (∀ r ∈ rs, gC e r) ∧ ∀ i j x, aC rs i j = some x → ∃ v, us[i * e + j]? = some v ∧ RepV ρ R x v
theorem dX {rs : List (List AV)} {i j : Nat} {x : AV} (h : aC rs i j = some x) : ∃ r, rs[i]? = some r ∧ r[j]? = some x := by
  simpa [aC, Option.bind_eq_some_iff] using h
theorem RowsL.col {e : Nat} {rs : List (List AV)} {us : List Value} (h : RowsL ρ R e rs us) {i j : Nat} {x : AV} (hx : aC rs i j = some x) : i < rs.length ∧ j < e := by
  obtain ⟨r, hr, hj⟩ := dX hx
  have h1 := (List.getElem?_eq_some_iff.1 hr).1
  have h2 := (List.getElem?_eq_some_iff.1 hj).1
  have h3 := (h.2.1 r (List.mem_of_getElem? hr)).1
  omega
theorem RowsL.nil (e : Nat) : RowsL ρ R e [] [] := ⟨by simp, by simp, fun i j x h => by simp [aC] at h⟩
theorem RowsL.append {e : Nat} {rs rs' : List (List AV)} {us us' : List Value} (h : RowsL ρ R e rs us) (h' : RowsL ρ R e rs' us') : RowsL ρ R e (rs ++ rs') (us ++ us') := by
  refine ⟨by simp [h.1, h'.1, Nat.add_mul], fun r hr => ?_, fun i j x hx => ?_⟩
  · rcases List.mem_append.1 hr with h1 | h1
    · exact h.2.1 r h1
    · exact h'.2.1 r h1
  · obtain ⟨r, hr, hj⟩ := dX hx
    by_cases hi : i < rs.length
    · rw [List.getElem?_append_left hi] at hr
      have hg : aC rs i j = some x := by simp [aC, hr, hj]
      obtain ⟨v, hv, hvr⟩ := h.2.2 i j x hg
      have := h.col hg
      have hlt : i * e + j < us.length := (List.getElem?_eq_some_iff.1 hv).1
      exact ⟨v, by rw [List.getElem?_append_left hlt]; exact hv, hvr⟩
    · rw [List.getElem?_append_right (by omega)] at hr
      have hg : aC rs' (i - rs.length) j = some x := by simp [aC, hr, hj]
      obtain ⟨v, hv, hvr⟩ := h'.2.2 _ j x hg
      refine ⟨v, ?_, hvr⟩
      have e1 : i * e = (i - rs.length) * e + rs.length * e := by rw [← Nat.add_mul]; congr 1; omega
      rw [List.getElem?_append_right (by rw [h.1]; omega), h.1, e1, show (i - rs.length) * e + rs.length * e + j - rs.length * e = (i - rs.length) * e + j by omega]
      exact hv
/-- a piece of an object's rows -/
theorem dI {L : Loc} {e : Nat} {rs : List (List AV)} {c : Array Value} {T : TypeId} {fz : Nat × Nat} (h : RepO ρ R L (.rows e rs) (.cells c T fz)) {off n : Nat} (hle : off + n ≤ rs.length) :
    RowsL ρ R e ((rs.drop off).take n) ((List.range (n * e)).map fun k => c.getD (L.off + off * e + k) undef) ∧ ∀ k v, ((List.range (n * e)).map fun k => c.getD (L.off + off * e + k) undef)[k]? = some v → c[L.off + off * e + k]? = some v := by
  simp only [RepO] at h
  obtain ⟨h1, h2, h3, h4, h5⟩ := h
  have hsz : L.off + off * e + n * e ≤ c.size := by
    have : (off + n) * e ≤ rs.length * e := Nat.mul_le_mul_right _ hle
    rw [Nat.add_mul] at this
    omega
  have hmn : min n (rs.length - off) = n := by omega
  refine ⟨⟨by simp [hmn], fun r hr => h3 r (List.mem_of_mem_drop (List.mem_of_mem_take hr)), fun i j x hx => ?_⟩, fun k v hk => ?_⟩
  · obtain ⟨r, hr, hj⟩ := dX hx
    rw [List.getElem?_take] at hr
    split at hr
    · rename_i hi
      rw [List.getElem?_drop] at hr
      have hg : aC rs (off + i) j = some x := by simp [aC, hr, hj]
      obtain ⟨v, hv, hvr⟩ := h5 _ j x hg
      refine ⟨v, ?_, hvr⟩
      have hje : j < e := by
        have := (h3 r (List.mem_of_getElem? hr)).1
        have := (List.getElem?_eq_some_iff.1 hj).1
        omega
      have hlt : i * e + j < n * e := by
        have : (i + 1) * e ≤ n * e := Nat.mul_le_mul_right _ hi
        rw [Nat.add_mul, Nat.one_mul] at this
        omega
      rw [List.getElem?_map, List.getElem?_range hlt, Option.map_some]
      rw [Nat.add_mul] at hv
      rw [show L.off + off * e + (i * e + j) = L.off + (off * e + i * e + j) by omega]
      simp [Array.getD_eq_getD_getElem?, hv]
    · cases hr
  · have hkn : k < n * e := by
      rcases Nat.lt_or_ge k (n * e) with h6 | h6
      · exact h6
      · rw [List.getElem?_eq_none (by simp; omega)] at hk; cases hk
    rw [List.getElem?_map, List.getElem?_range hkn, Option.map_some, Option.some.injEq] at hk
    subst hk
    have : L.off + off * e + k < c.size := by omega
    simp [Array.getD, this]
/-- what a slice holds, read out -/
theorem nU {e : Nat} {x : AV} {v : Value} {src : List (List AV) × List Lab} {G : aB} {w : World} (h : fF e x H = some src) (hx : RepV ρ R x v) (hG : Rep G ρ R w) (hsub : ∀ l ∈ src.2, G l = H l) :
    ∃ A n c us, v = .slice A n c ∧ n ≤ c ∧ n = src.1.length ∧ RowsL ρ R e src.1 us ∧ (n = 0 ∨ ∃ ad, A = some ad ∧ ∀ k u, us[k]? = some u → w.cell? (ad.add k) = some u) := by
  cases x <;> simp only [fF] at h <;> try (cases h; done)
  · cases h; cases hx; exact ⟨none, 0, 0, [], rfl, Nat.le_refl _, rfl, .nil _, .inl rfl⟩
  · rename_i l e' off len
    split at h
    · rename_i h0
      cases h; subst h0
      rcases hx.sl_inv with ⟨L, cap, _, _, _, _, rfl⟩ | ⟨_, _, ad, _, _, rfl⟩
      · exact ⟨_, 0, cap, [], rfl, Nat.zero_le _, rfl, .nil _, .inl rfl⟩
      · exact ⟨_, 0, 0, [], rfl, Nat.zero_le _, rfl, .nil _, .inl rfl⟩
    · rename_i h0
      split at h
      · rename_i e2 rs hl
        split at h
        · rename_i hc
          obtain ⟨rfl, rfl, hle⟩ := hc
          cases h
          rcases hx.sl_inv with ⟨L, cap, hL, hcap, _, _, rfl⟩ | ⟨h1, _⟩
          · obtain ⟨L', O, h1, h2, h3⟩ := hG.own l (.rows e rs) (by rw [hsub l (by simp)]; exact hl)
            rw [hL] at h1; cases h1
            cases O <;> (have h3' := h3; simp only [RepO] at h3')
            obtain ⟨h4, h5⟩ := dI h3 hle
            refine ⟨_, len, cap, _, rfl, hcap, by simp; omega, h4, .inr ⟨_, rfl, fun k u hk => ?_⟩⟩
            rw [a8, cO h2]
            exact h5 k u hk
          · exact absurd h1 h0
        · cases h
      · cases h
  · cases h; cases hx; exact ⟨_, 0, 0, [], rfl, Nat.le_refl _, rfl, .nil _, .inl rfl⟩
  · rename_i e' rows
    split at h
    · rename_i he; subst he
      cases h
      rcases hx.isl_inv with ⟨b, o', cap, c, T', fz, g, hl, hw, hb, hcc, hr, rfl⟩ | ⟨rfl, ad, cap, hn, rfl⟩
      · have hmem := hG.imm _ _ hb
        have hcell : ∀ i j, i < rows.length → j < e → ∃ x, aC rows i j = some x := by
          intro i j hi hj
          have h1 := (hw _ (List.getElem_mem hi)).1
          refine ⟨rows[i][j]'(by omega), ?_⟩
          simp [aC, hi, show j < rows[i].length by omega]
        refine ⟨_, rows.length, cap, (List.range (rows.length * e)).map fun k => g (k / e) (k % e), rfl, hl, rfl, ⟨by simp, hw, fun i j x hx => ?_⟩, .inr ⟨_, rfl, fun k u hk => ?_⟩⟩
        · obtain ⟨r, hr', hj⟩ := dX hx
          have h1 := (List.getElem?_eq_some_iff.1 hr').1
          have h2 := (List.getElem?_eq_some_iff.1 hj).1
          have h3 := (hw r (List.mem_of_getElem? hr')).1
          have hlt : i * e + j < rows.length * e := by
            have : (i + 1) * e ≤ rows.length * e := Nat.mul_le_mul_right _ h1
            rw [Nat.add_mul, Nat.one_mul] at this
            omega
          refine ⟨g i j, ?_, hr i j x hx⟩
          have e1 : (i * e + j) / e = i := by rw [Nat.mul_comm, Nat.mul_add_div (by omega), Nat.div_eq_of_lt (by omega)]; omega
          have e2 : (i * e + j) % e = j := by rw [Nat.mul_comm, Nat.mul_add_mod]; exact Nat.mod_eq_of_lt (by omega)
          rw [List.getElem?_map, List.getElem?_range hlt, Option.map_some, e1, e2]
        · have hkn : k < rows.length * e := by
            rcases Nat.lt_or_ge k (rows.length * e) with h6 | h6
            · exact h6
            · rw [List.getElem?_eq_none (by simp; omega)] at hk; cases hk
          rw [List.getElem?_map, List.getElem?_range hkn, Option.map_some, Option.some.injEq] at hk
          subst hk
          have he : 0 < e := by rcases Nat.eq_zero_or_pos e with h | h; · subst h; simp at hkn
                                · exact h
          obtain ⟨x, hx⟩ := hcell (k / e) (k % e) ((Nat.div_lt_iff_lt_mul he).2 hkn) (Nat.mod_lt _ he)
          have h7 := hcc _ _ x hx
          rw [a8, cO hmem, ← h7]
          congr 1
          have := Nat.div_add_mod k e
          rw [Nat.mul_comm] at this
          omega
      · exact ⟨_, 0, cap, [], rfl, Nat.zero_le _, rfl, .nil _, .inl rfl⟩
    · cases h
theorem RowsL.one {e : Nat} {rs : List (List AV)} {us : List Value} (h : RowsL ρ R e rs us) (he : 0 < e) : ∀ v ∈ us, v.oneCell' = true := by
  intro v hv
  obtain ⟨k, hk, rfl⟩ := List.getElem_of_mem hv
  have hlen := h.1
  have hi : k / e < rs.length := (Nat.div_lt_iff_lt_mul he).2 (by omega)
  have hj : k % e < e := Nat.mod_lt _ he
  obtain ⟨h1, h2⟩ := h.2.1 _ (List.getElem_mem hi)
  have hg : aC rs (k / e) (k % e) = some (rs[k / e][k % e]'(by omega)) := by simp [aC, hi, show k % e < rs[k / e].length by omega]
  obtain ⟨u, hu, hr⟩ := h.2.2 _ _ _ hg
  have e1 : k / e * e + k % e = k := by have := Nat.div_add_mod k e; rw [Nat.mul_comm] at this; omega
  rw [e1, List.getElem?_eq_getElem hk] at hu
  cases hu
  exact hr.one (h2 _ (List.getElem_mem _))
theorem jX {e : Nat} {rs : List (List AV)} {us : List Value} (h : RowsL ρ R e rs us) (rest : Array Value) (b : Nat) (T : TypeId) : RepO ρ R ⟨b, 0, (us.toArray ++ rest).size, rs.length⟩ (.rows e rs) (.cells (us.toArray ++ rest) T (0, 0)) := by
  have h1 := h.1
  refine ⟨rfl, rfl, h.2.1, ⟨rfl, by simp; omega⟩, fun i j x hx => ?_⟩
  obtain ⟨v, hv, hr⟩ := h.2.2 i j x hx
  have hlt : i * e + j < us.length := (List.getElem?_eq_some_iff.1 hv).1
  exact ⟨v, by simp only [Nat.zero_add]; rw [Array.getElem?_append_left (by simpa using hlt)]; simpa using hv, hr⟩
theorem run_append_zero {T U E E' ty : TypeId} {i : TypeInfo} (hd : P.underlying T = some (.slice E)) (hd' : P.underlying U = some (.slice E')) (hi : P.info? E = some i) (A A' : Option Addr) (n c c' : Nat) (hn : n ≤ c) (w : World) :
    (Builtin.append_ #[T, U] ty #[.slice A n c, .slice A' 0 c']).run P w = .ok (.slice A n c) w := by
  have hf : (Builtin.firstCells i.size 0 (.slice A' 0 c')).run P w = .ok #[] w := by
    cases A' with
    | none => simp [Builtin.firstCells]
    | some ad => have := run_firstCells_some (P := P) w i.size 0 ad 0 c' [] (by simp) (fun j v h => by simp at h); simpa using this
  cases A with
  | none => simp [Builtin.append_, aA hd, aA hd', aJ hi, Builtin.lenOf, hn, hf]
  | some ad => simp [Builtin.append_, aA hd, aA hd', aJ hi, Builtin.lenOf, hn, hf, storeCells]
theorem d9 {T U E E' ty : TypeId} {i : TypeInfo} (hd : P.underlying T = some (.slice E)) (hd' : P.underlying U = some (.slice E')) (hi : P.info? E = some i) (b o' n m c c' : Nat) (A' : Addr) (us : List Value) (hn : n + m ≤ c) (w : World) (hlen : us.length = m * i.size)
    (hus : ∀ k u, us[k]? = some u → w.cell? (A'.add k) = some u) (hone : ∀ v ∈ us, v.oneCell' = true) (cc : Array Value) (T' : TypeId) (hb : w.heap[b]? = some (.cells cc T' (0, 0))) (hfit : o' + n * i.size + us.length ≤ cc.size) :
    (Builtin.append_ #[T, U] ty #[.slice (some ⟨b, o', none⟩) n c, .slice (some A') m c']).run P w = .ok (.slice (some ⟨b, o', none⟩) (n + m) c) (w.setB b (.cells (bH cc (o' + n * i.size) us) T' (0, 0))) := by
  have hf := run_firstCells_some (P := P) w i.size m A' m c' us hlen hus
  have hs := b7 (P := P) us w b (o' + n * i.size) 0 cc T' hb hone (by omega)
  simp only [Nat.add_zero] at hs
  simp [Builtin.append_, aA hd, aA hd', aJ hi, Builtin.lenOf, hn, hf, a8, hs]
theorem gA {T U E E' ty : TypeId} {i : TypeInfo} {z : Value} (hd : P.underlying T = some (.slice E)) (hd' : P.underlying U = some (.slice E')) (hi : P.info? E = some i) (hz : i.zero = some z) (A : Option Addr) (n m c c' : Nat) (A' : Addr) (olds us : List Value) (hn : c < n + m) (hnc : n ≤ c) (w : World)
    (hol : olds.length = n * i.size) (hold : n = 0 ∨ ∃ ad, A = some ad ∧ ∀ k u, olds[k]? = some u → w.cell? (ad.add k) = some u) (hlen : us.length = m * i.size)
    (hus : ∀ k u, us[k]? = some u → w.cell? (A'.add k) = some u) (h63 : n + m ≤ 4611686018427387904) (h48 : (n + m) * i.bytes ≤ 140737488355328) :
    ∃ nc rest, n + m ≤ nc ∧ (olds.toArray ++ us.toArray ++ rest).size = (n + m + (nc - (n + m)) * z.cells.size / i.size * 0) * i.size + rest.size ∧ rest.size = (nc - (n + m)) * z.cells.size ∧
      (Builtin.append_ #[T, U] ty #[.slice A n c, .slice (some A') m c']).run P w = .ok (.slice (some ⟨w.heap.size, 0, none⟩) (n + m) nc) (w.drew.alloc (.cells (olds.toArray ++ us.toArray ++ rest) E)) := by
  have hfit := growslice_fits (need := n + m) (old := c) hn h48
  have hf := run_firstCells_some (P := P) w.drew i.size m A' m c' us hlen (by simpa using hus)
  have hfo : (Builtin.firstCells i.size n (.slice A n c)).run P w.drew = .ok olds.toArray w.drew := by
    rcases hold with h0 | ⟨ad, rfl, h1⟩
    · subst h0
      have : olds = [] := List.length_eq_zero_iff.1 (by simpa using hol)
      subst this
      cases A with
      | none => simp [Builtin.firstCells]
      | some ad => have := run_firstCells_some (P := P) w.drew i.size 0 ad 0 c [] (by simp) (fun j v h => by simp at h); simpa using this
    · exact run_firstCells_some (P := P) w.drew i.size n ad n c olds hol (by simpa using h1)
  have hnn : ¬ (n + m ≤ c) := by omega
  have h63' : ¬ (9223372036854775807 < ((n : Int) + (m : Int))) := by omega
  have h48' : ¬ (281474976710656 < Builtin.nextslicecap (n + m) c * i.bytes) := by omega
  refine ⟨grownCap w (n + m) c E, Builtin.zeroCells z.cells (grownCap w (n + m) c E - (n + m)), ?_, ?_, ?_, ?_⟩
  · simp [grownCap, Question.cut]
  · simp [hol, hlen, Nat.add_mul]
  · simp [Builtin.zeroCells]
  · simp [Builtin.append_, aA hd, aA hd', aJ hi, typeInfo, cG hi hz, hi, Builtin.lenOf, hnn, h63', h48', Question.forced, hf, hfo, newRow, grownCap]
    congr 2
    apply Array.ext'
    simp [List.append_assoc]
/-- an object that goes over into another one, in its own block -/
theorem mK {w : World} (hR : Rep H ρ R w) {W : Lab → Prop} {l nx : Lab} (hfr : ρ nx = none) (hn : W nx) {ob ob' : AO} {L L' : Loc} {O O' : Obj} (hl : H l = some ob) (hL : ρ l = some L) (hO : w.heap[L.blk]? = some O) (hb : L'.blk = L.blk) (ho : RepO ρ R L' ob' O') :
    Fut H ρ R w W (fun k => if k = nx then some L' else ρ k) R (w.setB L.blk O') ∧ Rep (upd [(nx, some ob'), (l, none)] H) (fun k => if k = nx then some L' else ρ k) R (w.setB L.blk O') := by
  have hext : Ext ρ (fun k => if k = nx then some L' else ρ k) R R := ⟨fun k K hk => by
    have : k ≠ nx := fun e => by subst e; rw [hfr] at hk; cases hk
    simp [this, hk], fun _ _ h => h⟩
  have hne : l ≠ nx := fun e => by subst e; rw [hfr] at hL; cases hL
  have hval : ∀ k o, upd [(nx, some ob'), (l, none)] H k = some o → (k = nx ∧ o = ob') ∨ (k ≠ nx ∧ k ≠ l ∧ H k = some o) := by
    intro k o h
    simp only [upd] at h
    by_cases e1 : k = nx
    · simp [e1] at h; exact .inl ⟨e1, h.symm⟩
    · by_cases e2 : k = l
      · simp [e2, hne] at h
      · simp [e1, e2] at h; exact .inr ⟨e1, e2, h⟩
  constructor
  · refine ⟨hext, fun k K hk => ?_, fun _ _ h => .inl h, rfl, rfl, rfl, by rw [nQ]; exact Nat.le_refl _, fun b _ hno => b6 _ _ (fun e => hno l ob L hl hL e.symm)⟩
    split at hk
    · cases hk; rename_i e; subst e; exact .inr ⟨hn, .inr ⟨l, ob, L, hl, hL, hb.symm⟩⟩
    · exact .inl hk
  · have other : ∀ k o K, k ≠ l → H k = some o → ρ k = some K → K.blk ≠ L.blk := fun k o K hkl hk hK e => hkl (hR.sep k l o ob K L hk hl hK hL e)
    refine ⟨fun k o hk => ?_, fun k k' o1 o2 L1 L2 h1 h2 h3 h4 h5 => ?_, fun k o K hk hK => ?_, fun b O2 h => ?_⟩
    · rcases hval k o hk with ⟨rfl, rfl⟩ | ⟨e1, e2, hk⟩
      · exact ⟨L', O', by simp, by rw [hb]; exact g7 hO O', ho.mono hext⟩
      · obtain ⟨K, O2, h1, h2, h3⟩ := hR.own k o hk
        exact ⟨K, O2, by simp [e1, h1], by rw [b6 _ _ (other k o K e2 hk h1)]; exact h2, h3.mono hext⟩
    · rcases hval k o1 h1 with ⟨rfl, rfl⟩ | ⟨e1, e2, h1'⟩ <;> rcases hval k' o2 h2 with ⟨rfl, rfl⟩ | ⟨e3, e4, h2'⟩
      · rfl
      · simp at h3; subst h3
        simp [e3] at h4
        exact absurd (h5.symm.trans hb) (other k' o2 L2 e4 h2' h4)
      · simp at h4; subst h4
        simp [e1] at h3
        exact absurd (h5.trans hb) (other k o1 L1 e2 h1' h3)
      · simp [e1] at h3
        simp [e3] at h4
        exact hR.sep k k' o1 o2 L1 L2 h1' h2' h3 h4 h5
    · rcases hval k o hk with ⟨rfl, rfl⟩ | ⟨e1, e2, hk⟩
      · simp at hK; subst hK
        rw [hb]; exact hR.dis l ob L hl hL
      · simp [e1] at hK
        exact hR.dis k o K hk hK
    · rw [b6 _ _ (fun e => by rw [e] at h; rw [hR.dis l ob L hl hL] at h; cases h)]
      exact hR.imm b O2 h
theorem rep_drew {w : World} (h : Rep H ρ R w) : Rep H ρ R w.drew := ⟨h.own, h.sep, h.dis, h.imm⟩
theorem append_two {c : Call} {T U : TypeId} (hs : c.argTypes.size = 2) (hT : c.argTypes[0]? = some T) (hU : c.argTypes[1]? = some U) : c.argTypes = #[T, U] := by
  apply Array.ext_getElem?
  intro k
  match k with
  | 0 => simpa using hT
  | 1 => simpa using hU
  | k + 2 => rw [Array.getElem?_eq_none (by omega)]; simp
theorem nW {G : aB} {ls : List Lab} {l : Lab} (h : l ∈ ls) : restr G (some ls) l = G l := by simp [restr, h]
theorem rows_empty {e : Nat} {y : AV} {v : Value} {src : List (List AV) × List Lab} (h : fF e y H = some src) (hem : src.1 = []) (hy : RepV ρ R y v) : ∃ A' c', v = .slice A' 0 c' := by
  cases y <;> simp only [fF] at h <;> try (cases h; done)
  · cases hy; exact ⟨_, _, rfl⟩
  · rename_i l e' off len
    split at h
    · rename_i h0
      subst h0
      rcases hy.sl_inv with ⟨L, cap, _, _, _, _, rfl⟩ | ⟨_, _, ad, _, _, rfl⟩ <;> exact ⟨_, _, rfl⟩
    · rename_i h0
      split at h
      · split at h
        · rename_i hc
          cases h
          simp only at hem
          have := congrArg List.length hem
          simp at this
          omega
        · cases h
      · cases h
  · cases hy; exact ⟨_, _, rfl⟩
  · split at h
    · cases h
      simp only at hem
      subst hem
      cases hy
      · exact ⟨_, _, rfl⟩
      · exact ⟨_, _, rfl⟩
    · cases h
def AV.isS : AV → Bool
  | .nils | .sl0 | .sl .. | .isl .. => true
  | _ => false
theorem slice_val {x : AV} {v : Value} (hx : RepV ρ R x v) (hk : x.isS = true) : ∃ A n c, v = .slice A n c ∧ n ≤ c := by
  cases hx <;> simp [AV.isS] at hk <;> first | exact ⟨_, _, _, rfl, by assumption⟩ | exact ⟨_, _, _, rfl, Nat.zero_le _⟩
/-- append that makes a new block -/
theorem gU {p p' : Operand} {T U E E' : TypeId} {i : TypeInfo} {z : Value} {src : List (List AV) × List Lab} {dst : List (List AV)} {G : aB} {w : World} {olds us : List Value} {A : Option Addr} {n c c' m : Nat} {A' : Addr}
    (hrun : ∀ w : World, (execOp a.eval o).run P w = ((Builtin.append_ #[T, U] o.type #[a.eval p, a.eval p']).run P w).andThen fun v w' => .ok (.value v) w')
    (hd : P.underlying T = some (.slice E)) (hd' : P.underlying U = some (.slice E')) (hi : P.info? E = some i) (hz : i.zero = some z) (hzs : z.cells.size = i.size) (hR : Rep G ρ R w) (hfr : ρ q = none)
    (hg : a.eval p = .slice A n c) (hg' : a.eval p' = .slice (some A') m c') (hn : c < n + m) (hnc : n ≤ c) (hold : n = 0 ∨ ∃ ad, A = some ad ∧ ∀ k u, olds[k]? = some u → w.cell? (ad.add k) = some u)
    (hus : ∀ k u, us[k]? = some u → w.cell? (A'.add k) = some u) (h63 : n + m ≤ 4611686018427387904) (h48 : (n + m) * i.bytes ≤ 140737488355328) (hdr : RowsL ρ R i.size dst olds) (hsr : RowsL ρ R i.size src.1 us) (hdn : dst.length = n) (hsm : src.1.length = m) :
    ∃ v w' ρ' R', (execOp a.eval o).run P w = .ok (.value v) w' ∧ Fut G ρ R w (Under q) ρ' R' w' ∧ RepV ρ' R' (.sl q i.size 0 (n + m)) v ∧ Rep (upd [(q, some (.rows i.size (dst ++ src.1)))] G) ρ' R' w' := by
  obtain ⟨nc, rest, h1, _, h2, h3⟩ := gA (ty := o.type) (P := P) hd hd' hi hz A n m c c' A' olds us hn hnc w (by rw [hdr.1, hdn]) hold (by rw [hsr.1, hsm]) hus h63 h48
  have hrows := hdr.append hsr
  have hO : RepO ρ R ⟨w.drew.heap.size, 0, ((olds ++ us).toArray ++ rest).size, (dst ++ src.1).length⟩ (.rows i.size (dst ++ src.1)) (.cells ((olds ++ us).toArray ++ rest) E (0, 0)) := jX hrows rest _ E
  obtain ⟨hF, hRep⟩ := fR (W := Under q) (rep_drew hR) hfr (Under.self q) (O := .cells ((olds ++ us).toArray ++ rest) E) (L := ⟨w.drew.heap.size, 0, ((olds ++ us).toArray ++ rest).size, (dst ++ src.1).length⟩) rfl hO
  have e : (olds ++ us).toArray = olds.toArray ++ us.toArray := by simp
  rw [← e] at h3
  refine ⟨_, _, _, _, by rw [hrun, hg, hg', h3]; rfl, ⟨hF.ext, hF.win, hF.new, hF.os, hF.tape, hF.output, hF.size, hF.frame⟩, ?_, hRep⟩
  have := RepV.sl (ρ := fun l => if l = q then some ⟨w.drew.heap.size, 0, ((olds ++ us).toArray ++ rest).size, (dst ++ src.1).length⟩ else ρ l) (R := R) q i.size 0 (n + m) nc _ (if_pos rfl) h1 (by
    simp only [Nat.zero_add, Array.size_append, List.size_toArray, List.length_append]
    rw [hdr.1, hsr.1, hdn, hsm, h2, hzs, ← Nat.add_mul, ← Nat.add_mul]
    exact Nat.mul_le_mul_right _ (by omega)) (by simp; omega)
  simpa using this
theorem sound_append {c : Call} {p p' : Operand} {T U E E' : TypeId} {i : TypeInfo} {z : Value} {x y : AV} (ho : o.op = .call c) (hc : c.callee = .builtin .append) (hargs : c.args = #[p, p']) (hs : c.argTypes.size = 2) (hT : c.argTypes[0]? = some T) (hU : c.argTypes[1]? = some U)
    (hd : P.underlying T = some (.slice E)) (hd' : P.underlying U = some (.slice E')) (hi : P.info? E = some i) (hz : i.zero = some z) (hzs : z.cells.size = i.size) (hx : RepV ρ R x (a.eval p)) (hy : RepV ρ R y (a.eval p')) (h : dG i.size i.bytes x y H q = some r) : aV P o a ρ R H q r := by
  have hat := append_two hs hT hU
  have hrun : ∀ w : World, (execOp a.eval o).run P w = ((Builtin.append_ #[T, U] o.type #[a.eval p, a.eval p']).run P w).andThen fun v w' => .ok (.value v) w' := by
    intro w
    simp [execOp, ho, resolve, hc, hargs, invoke, builtin, hat]
  simp only [dG, Option.bind_eq_some_iff] at h
  obtain ⟨src, hsrc, h⟩ := h
  split at h
  · -- nothing to append
    rename_i hem
    have hem' : src.1 = [] := by simpa using hem
    have hrx : r = .pure x ∧ x.isS = true := by
      cases x <;> simp at h <;> exact ⟨h.symm, by simp [AV.isS]⟩
    obtain ⟨rfl, hk⟩ := hrx
    obtain ⟨A, n, cp, hg, hn⟩ := slice_val hx hk
    obtain ⟨A', c', hg'⟩ := rows_empty hsrc hem' hy
    refine aE (v := a.eval p) (fun w => ?_) hx
    rw [hrun, hg, hg', run_append_zero hd hd' hi A A' n cp c' hn w]
    rfl
  · rename_i hem
    have hpos : 0 < src.1.length := by
      cases hq : src.1 with
      | nil => rw [hq] at hem; simp at hem
      | cons a b => simp
    have hsz : ∀ {k : Nat} {l : Lab}, k = k := fun {_ _} => rfl
    -- a new slice out of none
    have fresh0 : ∀ A, a.eval p = .slice A 0 0 → 0 < i.size ∧ src.1.length * i.bytes ≤ 140737488355328 ∧ src.1.length ≤ 4611686018427387904 → ∀ ls : List Lab, (∀ l ∈ src.2, l ∈ ls) → ∀ w, Rep (restr H (some ls)) ρ R w → ρ q = none →
        ∃ v w' ρ' R', (execOp a.eval o).run P w = .ok (.value v) w' ∧ Fut (restr H (some ls)) ρ R w (Under q) ρ' R' w' ∧ RepV ρ' R' (.sl q i.size 0 src.1.length) v ∧ Rep (upd [(q, some (.rows i.size src.1))] (restr H (some ls))) ρ' R' w' := by
      intro A hg hb ls hls w hR hfr
      obtain ⟨B, m, c', us, hg', hmc, hm, hus, hread⟩ := nU hsrc hy hR (fun l hl => nW (hls l hl))
      rcases hread with h0 | ⟨ad, rfl, hread⟩
      · omega
      have := gU (P := P) (q := q) (dst := []) (olds := []) hrun hd hd' hi hz hzs hR hfr hg hg' (by omega) (Nat.le_refl _) (.inl rfl) hread (by omega) (by rw [hm, Nat.zero_add]; exact hb.2.1) (.nil _) hus rfl hm.symm
      simpa [hm] using this
    cases x <;> simp only at h <;> try (cases h; done)
    · -- nils
      split at h
      · rename_i hb
        simp only [Option.some.injEq] at h; subst h
        generalize hg : a.eval p = pv at hx
        cases hx
        refine ⟨fun l hl => .inr (by rw [bC hl]; exact .self _), fun w hR hfr => ?_⟩
        obtain ⟨v, w', ρ', R', h1, h2, h3, h4⟩ := fresh0 none hg hb src.2 (fun l hl => hl) w hR (hfr q (.self q))
        exact aU h1 ⟨ρ', R', h2, h3, h4⟩
      · cases h
    · -- sl
      rename_i l e' off n
      split at h
      · rename_i e2 rs hl
        split at h
        · rename_i hb
          obtain ⟨rfl, rfl, hle, hpe, h48, h63⟩ := hb
          simp only [Option.some.injEq] at h; subst h
          refine ⟨fun k hk => ?_, fun w hR hfr => ?_⟩
          · obtain ⟨pr, hp, rfl⟩ := hk
            simp at hp
            rcases hp with rfl | rfl
            · exact .inr (.self _)
            · exact .inl (by simp [restr, hl])
          · have hG : restr H (some (l :: src.2)) l = some (.rows i.size rs) := by simp [restr, hl]
            obtain ⟨B, m, c', us, hg', hmc, hm, hus, hread⟩ := nU hsrc hy hR (fun k hk => nW (by simp [hk]))
            rcases hread with h0 | ⟨ad, rfl, hread⟩
            · omega
            obtain ⟨L, O, hL, hO, hrep⟩ := hR.own l _ hG
            cases O <;> (have hrep' := hrep; simp only [RepO] at hrep')
            rename_i cc T' fz
            obtain ⟨rfl, hsz, hrow, htop, hcell⟩ := hrep'
            obtain ⟨hdr, hdc⟩ := dI hrep hle
            have hfin : ∀ {G' : aB}, (∃ v w' ρ' R', (execOp a.eval o).run P w = .ok (.value v) w' ∧ Fut (restr H (some (l :: src.2))) ρ R w (Under q) ρ' R' w' ∧ RepV ρ' R' (.sl q i.size 0 (n + src.1.length)) v ∧ Rep (upd [(q, some (.rows i.size ((rs.drop off).take n ++ src.1)))] (restr H (some (l :: src.2)))) ρ' R' w') →
                opC P o a w (fun v w' => ∃ ρ' R', Fut (restr H (some (l :: src.2))) ρ R w (Under q) ρ' R' w' ∧ RepV ρ' R' (.sl q i.size 0 (n + src.1.length)) v ∧ Rep (upd [(q, some (.rows i.size ((rs.drop off).take n ++ src.1))), (l, none)] (restr H (some (l :: src.2)))) ρ' R' w') := by
              intro _ ⟨v, w', ρ', R', h1, h2, h3, h4⟩
              refine aU h1 ⟨ρ', R', h2, h3, h4.drop (fun k ob hk => ?_)⟩
              simp only [upd] at hk ⊢
              split at hk
              · rename_i e; rw [if_pos e]; exact hk
              · rename_i e; rw [if_neg e]
                split at hk
                · cases hk
                · exact hk
            rcases hx.sl_inv with ⟨L2, cap, hL2, hcap, ht, hxt, hg⟩ | ⟨rfl, _, ad2, _, _, hg⟩
            · rw [hL] at hL2; cases hL2
              by_cases hfit : n + m ≤ cap
              · have hroom : L.off + off * i.size + n * i.size + us.length ≤ cc.size := by
                  rw [hus.1, ← hm, hsz]
                  have : (off + (n + m)) * i.size ≤ (off + cap) * i.size := Nat.mul_le_mul_right _ (by omega)
                  simp only [Nat.add_mul] at this ht
                  omega
                have hr := d9 (ty := o.type) (P := P) hd hd' hi L.blk (L.off + off * i.size) n m cap c' ad us hfit w (by rw [hus.1, hm]) hread (hus.one hpe) cc T' hO hroom
                have hnew : RepO ρ R ⟨L.blk, L.off + off * i.size, L.top, n + m⟩ (.rows i.size ((rs.drop off).take n ++ src.1)) (.cells (bH cc (L.off + off * i.size + n * i.size) us) T' (0, 0)) := by
                  have hall := hdr.append hus
                  refine ⟨rfl, by rw [bB]; exact hsz, hall.2.1, ?_, fun ii j xx hxx => ?_⟩
                  · have hlen : ((rs.drop off).take n ++ src.1).length = n + m := by simp; omega
                    rw [hlen]
                    refine ⟨rfl, ?_⟩
                    have : (off + (n + m)) * i.size ≤ (off + cap) * i.size := Nat.mul_le_mul_right _ (by omega)
                    simp only [Nat.add_mul] at this ht ⊢
                    omega
                  · obtain ⟨v, hv, hvr⟩ := hall.2.2 ii j xx hxx
                    refine ⟨v, ?_, hvr⟩
                    simp only
                    rw [cL]
                    have hol : ((List.range (n * i.size)).map fun k => cc.getD (L.off + off * i.size + k) undef).length = n * i.size := by simp
                    by_cases hlt : ii * i.size + j < n * i.size
                    · rw [List.getElem?_append_left (by omega)] at hv
                      rw [if_neg (by omega)]
                      exact hdc _ v hv
                    · rw [List.getElem?_append_right (by omega), hol] at hv
                      have hb2 := (List.getElem?_eq_some_iff.1 hv).1
                      rw [if_pos ⟨by omega, by omega, by omega⟩, ← hv]
                      congr 1; omega
                obtain ⟨hF, hRep⟩ := mK (W := Under q) (nx := q) hR (hfr q (.self q)) (.self q) hG hL hO (L' := ⟨L.blk, L.off + off * i.size, L.top, n + m⟩) rfl hnew
                refine aU (v := .slice (some ⟨L.blk, L.off + off * i.size, none⟩) (n + m) cap) (by rw [hrun, hg, hg', hr]; rfl) ⟨_, R, hF, ?_, hRep⟩
                rw [← hm]
                have := RepV.sl (ρ := fun k => if k = q then some ⟨L.blk, L.off + off * i.size, L.top, n + m⟩ else ρ k) (R := R) q i.size 0 (n + m) cap _ (if_pos rfl) hfit (by
                  simp only [Nat.zero_add, Nat.add_mul] at ht ⊢; omega) (by simpa using hfit)
                simpa using this
              · refine hfin (G' := H) ?_
                have := gU (P := P) (q := q) hrun hd hd' hi hz hzs hR (hfr q (.self q)) hg hg' (by omega) hcap (.inr ⟨_, rfl, fun k u hk => by rw [a8, cO hO]; exact hdc k u hk⟩) hread (by omega) (by rw [hm]; exact h48) hdr hus (by simp; omega) hm.symm
                simpa [hm] using this
            · refine hfin (G' := H) ?_
              have := gU (P := P) (q := q) (dst := (rs.drop off).take 0) (olds := []) hrun hd hd' hi hz hzs hR (hfr q (.self q)) hg hg' (by omega) (Nat.le_refl _) (.inl rfl) hread (by omega) (by rw [hm]; exact h48) (by simpa using RowsL.nil (ρ := ρ) (R := R) i.size) hus (by simp) hm.symm
              simpa [hm] using this
        · cases h
      · cases h
    · -- sl0
      split at h
      · rename_i hb
        simp only [Option.some.injEq] at h; subst h
        generalize hg : a.eval p = pv at hx
        cases hx
        refine ⟨fun l hl => .inr (by rw [bC hl]; exact .self _), fun w hR hfr => ?_⟩
        obtain ⟨v, w', ρ', R', h1, h2, h3, h4⟩ := fresh0 _ hg hb src.2 (fun l hl => hl) w hR (hfr q (.self q))
        exact aU h1 ⟨ρ', R', h2, h3, h4⟩
      · cases h
end
end Go.Proofs.Ytigjoggpaamodaa
/-! The abstract machine: equality of plain values. -/
namespace Go.Proofs.Ytigjoggpaamodaa
set_option linter.unusedVariables false
set_option linter.unusedSimpArgs false
def fO (P : Program) (g : TypeId → Option (List CK)) : List Field → Nat → Option (List CK)
  | [], _ => some []
  | f :: fs, off => if f.name = "_" ∨ f.offset ≠ off then none else (g f.type).bind fun ks => if (P.info? f.type).isSome = true ∧ P.cellsOf f.type = ks.length then (fO P g fs (off + ks.length)).bind fun l => some (ks ++ l) else none
def aM (P : Program) : Nat → TypeId → Option (List CK)
  | 0, _ => none
  | d + 1, T => match P.underlying T with
    | some .bool => some [.bool]
    | some (.int _) => some [.int]
    | some .string => some [.str]
    | some (.struct fs) => if P.stoodInHeld T then none else fO P (aM P d) fs.toList 0
    | _ => none
def nA : CK → Value → Value → Option Bool
  | .int, .int k a, .int k' b => if k = k' then some (decide (a = b)) else none
  | .bool, .bool a, .bool b => some (a == b)
  | .str, .string a, .string b => some (a == b)
  | _, _, _ => none
def cK : List CK → List Value → List Value → Option Bool
  | [], _, _ => some true
  | k :: ks, x :: xs, y :: ys => (nA k x y).bind fun b => (cK ks xs ys).bind fun c => some (b && c)
  | _, _, _ => none
section
variable {P : Program} {o : Oper} {a : Act} {ρ : aH} {R : Imm} {H : aB} {q : Lab} {r : Res}
theorem ceq_rep {k : CK} {x y : AV} {u v : Value} {b : Bool} (h : ceq k x y = some b) (hx : RepV ρ R x u) (hy : RepV ρ R y v) : nA k u v = some b := by
  cases k <;> cases x <;> simp only [ceq] at h <;> try (cases h; done)
  all_goals cases y <;> simp only at h <;> try (cases h; done)
  · rw [hx.int_inv, hy.int_inv]; exact h
  · rw [hx.bool_inv, hy.bool_inv]; exact h
  · rw [hx.str_inv, hy.str_inv]; exact h
theorem mZ : ∀ {ks : List CK} {xs ys : List AV} {us vs : List Value} {b : Bool}, m5 ks xs ys = some b → RepL ρ R xs us → RepL ρ R ys vs → cK ks us vs = some b
  | [], xs, ys, us, vs, b, h, _, _ => by simpa [m5, cK] using h
  | k :: ks, [], ys, us, vs, b, h, _, _ => by simp [m5] at h
  | k :: ks, x :: xs, [], us, vs, b, h, _, _ => by simp [m5] at h
  | k :: ks, x :: xs, y :: ys, us, vs, b, h, hx, hy => by
    simp only [m5, Option.bind_eq_some_iff, Option.some.injEq] at h
    obtain ⟨b1, h1, b2, h2, rfl⟩ := h
    obtain ⟨u, us', rfl, hu, hus⟩ := hx.head
    obtain ⟨v, vs', rfl, hv, hvs⟩ := hy.head
    simp [cK, ceq_rep h1 hu hv, mZ h2 hus hvs]
theorem kE : ∀ {ks1 ks2 : List CK} {us vs : List Value} {b : Bool}, cK (ks1 ++ ks2) us vs = some b → ∃ b1 b2, cK ks1 us vs = some b1 ∧ cK ks2 (us.drop ks1.length) (vs.drop ks1.length) = some b2 ∧ b = (b1 && b2) ∧ ks1.length ≤ us.length ∧ ks1.length ≤ vs.length
  | [], ks2, us, vs, b, h => ⟨true, b, rfl, by simpa using h, rfl, Nat.zero_le _, Nat.zero_le _⟩
  | k :: ks, ks2, [], vs, b, h => by simp [cK] at h
  | k :: ks, ks2, u :: us, [], b, h => by simp [cK] at h
  | k :: ks, ks2, u :: us, v :: vs, b, h => by
    simp only [List.cons_append, cK, Option.bind_eq_some_iff, Option.some.injEq] at h
    obtain ⟨c, hc, d, hd, rfl⟩ := h
    obtain ⟨b1, b2, h1, h2, rfl, h3, h4⟩ := kE hd
    exact ⟨c && b1, b2, by simp [cK, hc, h1], by simpa using h2, by rw [Bool.and_assoc], by simpa using h3, by simpa using h4⟩
theorem nF : ∀ {ks : List CK} {us vs : List Value} {b : Bool} (n : Nat), ks.length ≤ n → cK ks us vs = some b → cK ks (us.take n) (vs.take n) = some b
  | [], us, vs, b, n, _, h => by simpa [cK] using h
  | k :: ks, [], vs, b, n, _, h => by simp [cK] at h
  | k :: ks, u :: us, [], b, n, _, h => by simp [cK] at h
  | k :: ks, u :: us, v :: vs, b, 0, hn, h => by simp at hn
  | k :: ks, u :: us, v :: vs, b, n + 1, hn, h => by
    simp only [cK, Option.bind_eq_some_iff, Option.some.injEq] at h
    obtain ⟨c, hc, d, hd, rfl⟩ := h
    simp only [List.length_cons, Nat.add_le_add_iff_right] at hn
    simp [List.take_succ_cons, cK, hc, nF n hn hd]
/-- a value of its cells -/
def mkV (P : Program) (T : TypeId) (us : List Value) : Value := match P.underlying T with
  | some d => if a3 d then .agg us.toArray else us.getD 0 undef
  | none => undef
def EqT (P : Program) (d : Nat) (T : TypeId) (ks : List CK) : Prop := ∀ (us vs : List Value) (b : Bool) (D : Nat) (w : World), us.length = ks.length → vs.length = ks.length → cK ks us vs = some b → (Op.equalIn (d + D) T (mkV P T us) (mkV P T vs)).run P w = .ok b w
theorem lN {T : TypeId} {ks : List CK} (hi : (P.info? T).isSome = true) (hc : P.cellsOf T = ks.length) {d : TypeDesc} (hd : P.underlying T = some d) (h1 : a3 d = false → ks.length = 1) (us : Array Value) (off : Nat) (hle : off + ks.length ≤ us.size) (w : World) :
    (part T us off).run P w = .ok (mkV P T ((us.toList.drop off).take ks.length)) w := by
  obtain ⟨i, hi⟩ := Option.isSome_iff_exists.1 hi
  have hsz : i.size = ks.length := by rw [← hc]; simp [Program.cellsOf, hi]
  have h2 := iV (P := P) hd w
  unfold mkV
  simp only [hd]
  cases ha : a3 d with
  | true =>
    rw [ha] at h2
    have e : us.extract off (off + ks.length) = ((us.toList.drop off).take ks.length).toArray := by
      apply Array.ext'; simp [List.extract_eq_take_drop]
    simp only [part, Sem.run_bind, h2, Result.andThen_ok, if_true, aJ hi, hsz, Sem.run_pure, e]
  | false =>
    rw [ha] at h2
    have hl := h1 ha
    have hlt : off < us.size := by omega
    have e : ((us.toList.drop off).take ks.length).getD 0 undef = us[off] := by
      rw [hl]
      simp [List.getD_eq_getElem?_getD, hlt]
    simp only [part, Sem.run_bind, h2, Result.andThen_ok, Bool.false_eq_true, if_false, e]
    rw [Array.getElem?_eq_getElem hlt]
    rfl
theorem fC {d : Nat} {T : TypeId} {ks : List CK} {D : TypeDesc} (h : aM P d T = some ks) (hD : P.underlying T = some D) : a3 D = false → ks.length = 1 := by
  intro ha
  cases d with
  | zero => simp [aM] at h
  | succ d =>
    simp only [aM, hD] at h
    cases D <;> simp [a3] at ha h <;> simp [← h]
theorem n6 {d : Nat} {T : TypeId} {ks : List CK} (h : aM P d T = some ks) : ∃ D, P.underlying T = some D := by
  cases d with
  | zero => simp [aM] at h
  | succ d =>
    simp only [aM] at h
    cases hu : P.underlying T with
    | none => simp [hu] at h
    | some D => exact ⟨D, rfl⟩
theorem oE {d D : Nat} (ih : ∀ T ks, aM P d T = some ks → EqT P d T ks) (us vs : Array Value) (w : World) : ∀ (fs : List Field) (off : Nat) (ks : List CK) (b : Bool), fO P (aM P d) fs off = some ks → cK ks (us.toList.drop off) (vs.toList.drop off) = some b → off ≤ us.size → off ≤ vs.size →
    ((forIn fs ((none : Option Bool), ()) fun (f : Field) (_ : Option Bool × Unit) =>
            if f.name = "_" then pure (ForInStep.yield (none, ()))
            else do
              let l ← part f.type us f.offset
              let l1 ← part f.type vs f.offset
              let l2 ← Op.equalIn (d + D) f.type l l1
              if l2 = false then pure (ForInStep.done (some false, ())) else pure (ForInStep.yield (none, ())) : Sem (Option Bool × Unit))).run P w = .ok (if b then none else some false, ()) w
  | [], off, ks, b, h, hb, _, _ => by
    simp only [fO, Option.some.injEq] at h
    subst h
    simp only [cK, Option.some.injEq] at hb
    subst hb
    simp
  | f :: fs, off, ks, b, h, hb, hu, hv => by
    simp only [fO] at h
    split at h
    · cases h
    · rename_i hn
      simp only [not_or, Decidable.not_not] at hn
      obtain ⟨hn, rfl⟩ := hn
      simp only [Option.bind_eq_some_iff] at h
      obtain ⟨k1, hk1, h⟩ := h
      split at h
      · rename_i hc
        simp only [Option.bind_eq_some_iff, Option.some.injEq] at h
        obtain ⟨k2, hk2, rfl⟩ := h
        obtain ⟨b1, b2, h1, h2, rfl, h3, h4⟩ := kE hb
        simp only [List.length_drop, Array.length_toList] at h3 h4
        obtain ⟨De, hDe⟩ := n6 hk1
        have p1 := lN (P := P) hc.1 hc.2 hDe (fC hk1 hDe) us f.offset (by omega) w
        have p2 := lN (P := P) hc.1 hc.2 hDe (fC hk1 hDe) vs f.offset (by omega) w
        have p3 := ih f.type k1 hk1 ((us.toList.drop f.offset).take k1.length) ((vs.toList.drop f.offset).take k1.length) b1 D w (by simp; omega) (by simp; omega) (nF _ (Nat.le_refl _) h1)
        have p4 := oE (D := D) ih us vs w fs (f.offset + k1.length) k2 b2 hk2 (by simpa [List.drop_drop] using h2) (by omega) (by omega)
        rw [List.forIn_cons]
        simp only [hn, if_false, Sem.run_bind, p1, p2, p3, Result.andThen_ok]
        cases b1 with
        | false => simp
        | true =>
          simp only [Bool.true_eq_false, if_false, Sem.run_pure, Result.andThen_ok, Bool.true_and]
          exact p4
      · cases h
theorem qD : ∀ (d : Nat) (T : TypeId) (ks : List CK), aM P d T = some ks → EqT P d T ks
  | 0, T, ks, h => by simp [aM] at h
  | d + 1, T, ks, h => by
    have ih := fun T ks => qD d T ks
    intro us vs b D w hu hv hb
    simp only [aM] at h
    have hdd : d + 1 + D = (d + D) + 1 := by omega
    rw [hdd]
    split at h
    · rename_i hT
      cases h
      match us, vs, hu, hv with
      | [u], [v], _, _ =>
        simp only [cK, Option.bind_eq_some_iff, Option.some.injEq] at hb
        obtain ⟨b', hb', _, rfl, rfl⟩ := hb
        cases u <;> simp only [nA] at hb' <;> try (cases hb'; done)
        cases v <;> simp only at hb' <;> try (cases hb'; done)
        simp only [Option.some.injEq] at hb'; subst hb'
        simp [mkV, hT, a3, Op.equalIn, aA hT]
    · rename_i k hT
      cases h
      match us, vs, hu, hv with
      | [u], [v], _, _ =>
        simp only [cK, Option.bind_eq_some_iff, Option.some.injEq] at hb
        obtain ⟨b', hb', _, rfl, rfl⟩ := hb
        cases u <;> simp only [nA] at hb' <;> try (cases hb'; done)
        cases v <;> simp only at hb' <;> try (cases hb'; done)
        split at hb'
        · rename_i hk; subst hk
          simp only [Option.some.injEq] at hb'; subst hb'
          simp [mkV, hT, a3, Op.equalIn, aA hT]
          rfl
        · cases hb'
    · rename_i hT
      cases h
      match us, vs, hu, hv with
      | [u], [v], _, _ =>
        simp only [cK, Option.bind_eq_some_iff, Option.some.injEq] at hb
        obtain ⟨b', hb', _, rfl, rfl⟩ := hb
        cases u <;> simp only [nA] at hb' <;> try (cases hb'; done)
        cases v <;> simp only at hb' <;> try (cases hb'; done)
        simp only [Option.some.injEq] at hb'; subst hb'
        simp [mkV, hT, a3, Op.equalIn, aA hT]
    · rename_i fs hT
      split at h
      · cases h
      · rename_i hs
        have hs' : P.stoodInHeld T = false := by simpa using hs
        have := oE (P := P) (D := D) ih us.toArray vs.toArray w fs.toList 0 ks b h (by simpa using hb) (Nat.zero_le _) (Nat.zero_le _)
        have hm : ∀ xs : List Value, mkV P T xs = .agg xs.toArray := fun xs => by simp [mkV, hT, a3]
        rw [hm, hm, Op.equalIn]
        simp only [Sem.run_bind, aA hT, Result.andThen_ok]
        rw [Array.forIn_toList] at this
        simp [hs']
        rw [this]
        cases b <;> simp
    · cases h
/-- equality of two plain values of one type -/
theorem run_eq_plain {d : Nat} (hd : d ≤ 10000) {T : TypeId} {ks : List CK} (h : aM P d T = some ks) {us vs : List Value} {b : Bool} (hu : us.length = ks.length) (hv : vs.length = ks.length) (hb : cK ks us vs = some b) (w : World) : (Op.equal T (mkV P T us) (mkV P T vs)).run P w = .ok b w := by
  have := qD d T ks h us vs b (10000 - d) w hu hv hb
  rw [show d + (10000 - d) = 10000 by omega] at this
  exact this
theorem d7 {T : TypeId} {D : TypeDesc} {ks : List CK} {x : AV} {v : Value} (hD : P.underlying T = some D) (h : bE (a3 D) ks x = true) (hx : RepV ρ R x v) : v = mkV P T v.cells.toList ∧ v.cells.toList.length = ks.length := by
  simp only [bE, Bool.and_eq_true, beq_iff_eq, decide_eq_true_eq] at h
  obtain ⟨h1, h2⟩ := h
  have hl := (RepL.cells hx).1
  refine ⟨?_, by rw [hl, h2]⟩
  unfold mkV
  simp only [hD]
  rw [← h1]
  cases hx <;> simp [AV.isAgg, Value.cells]
theorem qJ {d : Nat} (hd : d ≤ 10000) {T : TypeId} {D : TypeDesc} {ks : List CK} (h : aM P d T = some ks) (hD : P.underlying T = some D) {x y : AV} {u v : Value} {b : Bool} (hb : gE (a3 D) ks x y = some b) (hx : RepV ρ R x u) (hy : RepV ρ R y v) (w : World) : (Op.equal T u v).run P w = .ok b w := by
  unfold gE at hb
  split at hb
  · rename_i hs
    simp only [Bool.and_eq_true] at hs
    obtain ⟨e1, l1⟩ := d7 (P := P) hD hs.1 hx
    obtain ⟨e2, l2⟩ := d7 (P := P) hD hs.2 hy
    rw [e1, e2]
    exact run_eq_plain hd h l1 l2 (mZ hb (RepL.cells hx) (RepL.cells hy)) w
  · cases hb
theorem sound_eqs {op : BinOp} {T T' : TypeId} {p p' : Operand} {fs : Array Field} {ks : List CK} {x y z : AV} {b : Bool} (ho : o.op = .binOp op T p p' T') (hD : P.underlying T = some (.struct fs)) (hk : aM P 20 T = some ks) (hg : P.eqGuardType P.depth T = false)
    (hx : RepV ρ R x (a.eval p)) (hy : RepV ρ R y (a.eval p')) (hb : gE true ks x y = some b) (hz : bQ op b = some z) : aV P o a ρ R H q (.pure z) := by
  have hs : bE true ks x = true ∧ bE true ks y = true := by
    unfold gE at hb
    split at hb
    · rename_i h; simpa using h
    · cases hb
  have hax : x.isAgg = true := by have := hs.1; simp only [bE, Bool.and_eq_true, beq_iff_eq] at this; exact this.1
  have hay : y.isAgg = true := by have := hs.2; simp only [bE, Bool.and_eq_true, beq_iff_eq] at this; exact this.1
  cases x <;> simp [AV.isAgg] at hax
  cases y <;> simp [AV.isAgg] at hay
  obtain ⟨us, hu, _⟩ := hx.agg_inv
  obtain ⟨vs, hv, _⟩ := hy.agg_inv
  have key : ∀ w, ∃ t, (execOp a.eval o).run P w = .ok (.value t) w ∧ RepV ρ R z t := by
    intro w
    have he := qJ (P := P) (T := T) (by omega) hk hD hb hx hy w
    obtain ⟨t, h1, h2⟩ := cR (P := P) (ρ := ρ) (R := R) (T := T) (u := a.eval p) (v := a.eval p') w hz (by rw [hu, hv]; exact ⟨rfl, rfl⟩) he
    refine ⟨t, ?_, h2⟩
    have hgu : (eqGuard op T p p' (a.eval p) (a.eval p')).run P w = .ok () w := by
      rw [hu, hv]
      cases op <;> simp [eqGuard, hg]
    simp [execOp, ho, hgu, h1]
  refine ⟨fun l hl => absurd hl (aF l), fun w hR _ => ?_⟩
  obtain ⟨t, h1, h2⟩ := key w
  exact aU h1 ⟨ρ, R, Fut.refl _ _ _ _ _, h2, hR⟩
end
end Go.Proofs.Ytigjoggpaamodaa
/-! The abstract machine: maps. -/
namespace Go.Proofs.Ytigjoggpaamodaa
set_option linter.unusedVariables false
set_option linter.unusedSimpArgs false
section
variable {P : Program} {o : Oper} {a : Act} {ρ : aH} {R : Imm} {H : aB} {q : Lab} {r : Res}

theorem jO {e : Bool} {n d : Nat} (ih : ∀ T ks, aM P d T = some ks → ∀ (us : List Value) (w : World), us.length = ks.length → (Instr.checkKey e n T (mkV P T us)).run P w = .ok () w) (us : Array Value) (w : World) : ∀ (fs : List Field) (off : Nat) (ks : List CK), fO P (aM P d) fs off = some ks → off + ks.length ≤ us.size →
    ((forIn fs PUnit.unit fun (f : Field) (_ : PUnit) => if f.name = "_" then pure (ForInStep.yield PUnit.unit) else do
        let l ← part f.type us f.offset
        (fun _ => ForInStep.yield PUnit.unit) <$> Instr.checkKey e n f.type l : Sem PUnit)).run P w = .ok PUnit.unit w
  | [], off, ks, h, hu => by simp
  | f :: fs, off, ks, h, hu => by
    simp only [fO] at h
    split at h
    · cases h
    · rename_i hn
      simp only [not_or, Decidable.not_not] at hn
      obtain ⟨hn, rfl⟩ := hn
      simp only [Option.bind_eq_some_iff] at h
      obtain ⟨k1, hk1, h⟩ := h
      split at h
      · rename_i hc
        simp only [Option.bind_eq_some_iff, Option.some.injEq] at h
        obtain ⟨k2, hk2, rfl⟩ := h
        simp only [List.length_append] at hu
        obtain ⟨De, hDe⟩ := n6 hk1
        have p1 := lN (P := P) hc.1 hc.2 hDe (fC hk1 hDe) us f.offset (by omega) w
        have p3 := ih f.type k1 hk1 ((us.toList.drop f.offset).take k1.length) w (by simp; omega)
        have p4 := jO ih us w fs (f.offset + k1.length) k2 hk2 (by omega)
        rw [List.forIn_cons]
        simp only [hn, if_false, Sem.run_bind, Sem.run_map, p1, p3, Result.andThen_ok]
        exact p4
      · cases h
theorem kO {e : Bool} : ∀ (d n : Nat) (T : TypeId) (ks : List CK), aM P d T = some ks → ∀ (us : List Value) (w : World), us.length = ks.length → (Instr.checkKey e (d + n) T (mkV P T us)).run P w = .ok () w
  | 0, n, T, ks, h => by simp [aM] at h
  | d + 1, n, T, ks, h => by
    intro us w hu
    rw [show d + 1 + n = (d + n) + 1 by omega]
    have ih := fun T ks h => kO (e := e) d n T ks h
    simp only [aM] at h
    rw [Instr.checkKey]
    split at h
    · rename_i hT; simp [aA hT]
    · rename_i k hT; simp [aA hT]
    · rename_i hT; simp [aA hT]
    · rename_i fs hT
      split at h
      · cases h
      · have := jO ih us.toArray w fs.toList 0 ks h (by simp; omega)
        have hm : mkV P T us = .agg us.toArray := by simp [mkV, hT, a3]
        rw [hm]
        rw [Array.forIn_toList] at this
        simp only [Sem.run_bind, aA hT, Result.andThen_ok]
        simp
        rw [this]
        simp
    · cases h
theorem dZ {e : Bool} {T : TypeId} {D : TypeDesc} {ks : List CK} (hk : aM P 20 T = some ks) (hD : P.underlying T = some D) {x : AV} {v : Value} (h : bE (a3 D) ks x = true) (hx : RepV ρ R x v) (w : World) : (Instr.checkKey e 10000 T v).run P w = .ok () w := by
  obtain ⟨e1, l1⟩ := d7 (P := P) hD h hx
  rw [e1]
  exact kO (e := e) 20 9980 T ks hk _ w l1
/-- the search of a key -/
def FoundOk (ρ : aH) (R : Imm) (agg : Bool) (ks : List CK) (x : AV) (es : List (AV × AV)) (ents : List MapEntry) (i : Nat) : Option (Nat × AV) → Option (Nat × Value) → Prop
  | none, none => True
  | some (j, y), some (j', u) => j = j' ∧ i ≤ j ∧ RepV ρ R y u ∧ (∃ p m, es[j - i]? = some p ∧ ents[j - i]? = some m ∧ gE agg ks x p.1 = some true)
  | _, _ => False
theorem FoundOk.cons {agg : Bool} {ks : List CK} {x : AV} {es : List (AV × AV)} {ents : List MapEntry} {i : Nat} {r : Option (Nat × AV)} {c : Option (Nat × Value)} (p : AV × AV) (m : MapEntry) (h : FoundOk ρ R agg ks x es ents (i + 1) r c) : FoundOk ρ R agg ks x (p :: es) (m :: ents) i r c := by
  cases r with
  | none => cases c with
    | none => trivial
    | some ju => exact h.elim
  | some jy => cases c with
    | none => exact h.elim
    | some ju =>
      obtain ⟨j, y⟩ := jy
      obtain ⟨j', u⟩ := ju
      obtain ⟨e1, e2, e3, p', m', e4, e5, e6⟩ := h
      refine ⟨e1, by omega, e3, p', m', ?_, ?_, e6⟩
      · rw [show j - i = (j - (i + 1)) + 1 by omega]; simpa using e4
      · rw [show j - i = (j - (i + 1)) + 1 by omega]; simpa using e5
theorem findNow_none {kd : TypeDesc} {k : Value} (h : ∀ v, Instr.sameNow kd k v = none) : ∀ (es : List MapEntry) (i : Nat), es ≠ [] → Instr.findNow kd k es i = none
  | [], _, he => absurd rfl he
  | e :: es, i, _ => by simp [Instr.findNow, h]
theorem oM {T : TypeId} {D : TypeDesc} {ks : List CK} (hk : aM P 20 T = some ks) (hD : P.underlying T = some D) {x : AV} {v : Value} (hx : RepV ρ R x v) (w : World) : ∀ (es : List (AV × AV)) (ents : List MapEntry) (i : Nat) (r : Option (Nat × AV)), cM (a3 D) ks x es i = some r → ents.length = es.length →
    (∀ (j : Nat) p m, es[j]? = some p → ents[j]? = some m → RepV ρ R p.1 m.key ∧ RepV ρ R p.2 m.val) →
    (∃ c, (Instr.findAsking T v ents i).run P w = .ok c w ∧ FoundOk ρ R (a3 D) ks x es ents i r c)
  | [], ents, i, r, h, hl, _ => by
    simp only [cM, Option.some.injEq] at h; subst h
    have : ents = [] := List.length_eq_zero_iff.1 hl
    subst this
    exact ⟨none, rfl, trivial⟩
  | p :: es, ents, i, r, h, hl, hr => by
    cases ents with
    | nil => simp at hl
    | cons m ents =>
      obtain ⟨h1, h2⟩ := hr 0 p m rfl rfl
      simp only [cM, Option.bind_eq_some_iff] at h
      obtain ⟨b, hb, h⟩ := h
      have he := qJ (P := P) (T := T) (by omega) hk hD hb hx h1 w
      cases b with
      | true =>
        simp only [if_true, Option.some.injEq] at h; subst h
        exact ⟨some (i, m.val), by simp [Instr.findAsking, he], rfl, Nat.le_refl _, h2, p, m, by simp, by simp, hb⟩
      | false =>
        simp only [Bool.false_eq_true, if_false] at h
        obtain ⟨c, hc, hm⟩ := oM hk hD hx w es ents (i + 1) r h (by simpa using hl) (fun j p m hp hm => hr (j + 1) p m (by simpa using hp) (by simpa using hm))
        refine ⟨c, by simp [Instr.findAsking, he, hc], ?_⟩
        exact hm.cons p m
theorem sameNow_plain {T : TypeId} {D : TypeDesc} {ks : List CK} (hk : aM P 20 T = some ks) (hD : P.underlying T = some D) (hagg : a3 D = false) {x y : AV} {u v : Value} {b : Bool} (hb : gE (a3 D) ks x y = some b) (hx : RepV ρ R x u) (hy : RepV ρ R y v) : Instr.sameNow D u v = some b := by
  rw [hagg] at hb
  unfold gE at hb
  split at hb
  · rename_i hs
    simp only [Bool.and_eq_true, bE, beq_iff_eq, decide_eq_true_eq] at hs
    obtain ⟨⟨hx1, hx2⟩, hy1, hy2⟩ := hs
    have hl := fC hk hD hagg
    have hcx : x.cells = [x] := by cases x <;> simp [AV.isAgg] at hx1 <;> rfl
    have hcy : y.cells = [y] := by cases y <;> simp [AV.isAgg] at hy1 <;> rfl
    rw [hcx, hcy] at hb
    match ks, hl with
    | [k], _ =>
      simp only [m5, Option.bind_eq_some_iff, Option.some.injEq] at hb
      obtain ⟨b', hb, _, rfl, rfl⟩ := hb
      simp only [aM, hD] at hk
      cases D <;> simp [a3] at hagg hk
      all_goals subst hk
      · cases x <;> simp only [ceq] at hb <;> try (cases hb; done)
        cases y <;> simp only at hb <;> try (cases hb; done)
        simp only [Option.some.injEq] at hb; subst hb
        rw [hx.bool_inv, hy.bool_inv]; simp [Instr.sameNow]
      · cases x <;> simp only [ceq] at hb <;> try (cases hb; done)
        cases y <;> simp only at hb <;> try (cases hb; done)
        split at hb
        · rename_i hkk; subst hkk
          simp only [Option.some.injEq] at hb; subst hb
          rw [hx.int_inv, hy.int_inv]; simp [Instr.sameNow]; rfl
        · cases hb
      · cases x <;> simp only [ceq] at hb <;> try (cases hb; done)
        cases y <;> simp only at hb <;> try (cases hb; done)
        simp only [Option.some.injEq] at hb; subst hb
        rw [hx.str_inv, hy.str_inv]; simp [Instr.sameNow]
  · cases hb
theorem iJ {T : TypeId} {D : TypeDesc} {ks : List CK} (hk : aM P 20 T = some ks) (hD : P.underlying T = some D) (hagg : a3 D = false) {x : AV} {v : Value} (hx : RepV ρ R x v) : ∀ (es : List (AV × AV)) (ents : List MapEntry) (i : Nat) (r : Option (Nat × AV)), cM (a3 D) ks x es i = some r → ents.length = es.length →
    (∀ (j : Nat) p m, es[j]? = some p → ents[j]? = some m → RepV ρ R p.1 m.key ∧ RepV ρ R p.2 m.val) →
    (∃ c, Instr.findNow D v ents i = some c ∧ FoundOk ρ R (a3 D) ks x es ents i r c)
  | [], ents, i, r, h, hl, _ => by
    simp only [cM, Option.some.injEq] at h; subst h
    have : ents = [] := List.length_eq_zero_iff.1 hl
    subst this
    exact ⟨none, rfl, trivial⟩
  | p :: es, ents, i, r, h, hl, hr => by
    cases ents with
    | nil => simp at hl
    | cons m ents =>
      obtain ⟨h1, h2⟩ := hr 0 p m rfl rfl
      simp only [cM, Option.bind_eq_some_iff] at h
      obtain ⟨b, hb, h⟩ := h
      have he := sameNow_plain (P := P) hk hD hagg hb hx h1
      cases b with
      | true =>
        simp only [if_true, Option.some.injEq] at h; subst h
        exact ⟨some (i, m.val), by simp [Instr.findNow, he], rfl, Nat.le_refl _, h2, p, m, by simp, by simp, hb⟩
      | false =>
        simp only [Bool.false_eq_true, if_false] at h
        obtain ⟨c, hc, hm⟩ := iJ hk hD hagg hx es ents (i + 1) r h (by simpa using hl) (fun j p m hp hm => hr (j + 1) p m (by simpa using hp) (by simpa using hm))
        refine ⟨c, by simp [Instr.findNow, he, hc], ?_⟩
        exact hm.cons p m
theorem eR {T : TypeId} {D : TypeDesc} {ks : List CK} (hk : aM P 20 T = some ks) (hD : P.underlying T = some D) {x : AV} {v : Value} (hx : RepV ρ R x v) (w : World) {es : List (AV × AV)} {ents : List MapEntry} {r : Option (Nat × AV)} (h : cM (a3 D) ks x es 0 = some r) (hl : ents.length = es.length)
    (hr : ∀ (j : Nat) p m, es[j]? = some p → ents[j]? = some m → RepV ρ R p.1 m.key ∧ RepV ρ R p.2 m.val) :
    ∃ c, (Instr.findKey T v ents).run P w = .ok c w ∧ FoundOk ρ R (a3 D) ks x es ents 0 r c := by
  cases hagg : a3 D with
  | false =>
    obtain ⟨c, hc, hm⟩ := iJ (P := P) hk hD hagg hx es ents 0 r h hl hr
    rw [hagg] at hm
    exact ⟨c, by simp [Instr.findKey, aA hD, hc], hm⟩
  | true =>
    obtain ⟨c, hc, hm⟩ := oM (P := P) hk hD hx w es ents 0 r h hl hr
    rw [hagg] at hm
    refine ⟨c, ?_, hm⟩
    have hsn : ∀ u, Instr.sameNow D v u = none := by
      intro u
      cases D <;> simp [a3] at hagg <;> (simp [Instr.sameNow])
    cases ents with
    | nil =>
      have : es = [] := List.length_eq_zero_iff.1 hl.symm
      subst this
      simp only [Instr.findAsking, Sem.run_pure, Result.ok.injEq, and_true] at hc
      subst hc
      simp [Instr.findKey, aA hD, Instr.findNow]
    | cons m ents =>
      simp [Instr.findKey, aA hD, findNow_none hsn (m :: ents) 0 (by simp), hc]
theorem bU {w : World} {b : Nat} {ents : Array MapEntry} {clock : Nat} (h : w.heap[b]? = some (.map ents clock)) : (getObj b).run P w = .ok (.map ents clock) w := by simp [getObj, Sem.run, h]
theorem fL {w : World} {b : Nat} {ents : Array MapEntry} {clock : Nat} (h : w.heap[b]? = some (.map ents clock)) (O : Obj) : (setObj b O).run P w = .ok () (w.setB b O) := by simp [setObj, Sem.run, h, World.setB]
theorem RepV.map_inv {l : Lab} {v : Value} (h : RepV ρ R (.map l) v) : ∃ L, ρ l = some L ∧ v = .map (some L.blk) := by cases h; exact ⟨_, by assumption, rfl⟩
def tV (ok : Bool) (zero : AV) : Option (Nat × AV) → AV
  | some (_, v) => if ok then .tuple [v, .bool true] else v
  | none => if ok then .tuple [zero, .bool false] else zero
/-- a map's bR at a key, in the order in which they stand -/
theorem lookup_run {T K E : TypeId} {D : TypeDesc} {p p' : Operand} {ok : Bool} {i : TypeInfo} {z : Value} {zero k : AV} {ks : List CK} {l : Lab} (ho : o.op = .lookup T p p' ok) (hT : P.underlying T = some (.map K E)) (hD : P.underlying K = some D) (hk : aM P 20 K = some ks) (hi : P.info? E = some i) (hz : i.zero = some z) (hzr : RepV ρ R zero z)
    (hm : RepV ρ R (.map l) (a.eval p)) (hkk : RepV ρ R k (a.eval p')) (hs : bE (a3 D) ks k = true) {es : List (AV × AV)} {c : Option (Nat × AV)} (hc : cM (a3 D) ks k es 0 = some c) {x : AV} (hx : x = tV ok zero c)
    (w : World) (L : Loc) (ents : Array MapEntry) (clock : Nat) (hO : w.heap[L.blk]? = some (.map ents clock)) (hL : ρ l = some L) (hl1 : ents.size = es.length) (hr : ∀ (i : Nat) p m, es[i]? = some p → ents[i]? = some m → RepV ρ R p.1 m.key ∧ RepV ρ R p.2 m.val) : ∃ v, (execOp a.eval o).run P w = .ok (.value v) w ∧ RepV ρ R x v := by
  obtain ⟨L', hL', hg⟩ := hm.map_inv
  rw [hL] at hL'; cases hL'
  obtain ⟨c', hc', hf⟩ := eR (P := P) hk hD hkk w hc (ents := ents.toList) (by simpa using hl1) (fun j p m hp hm => hr j p m hp (by simpa using hm))
  have hck := dZ (P := P) (e := ents.isEmpty) hk hD hs hkk w
  cases c with
  | none =>
    cases c' with
    | some ju => exact hf.elim
    | none =>
      subst hx
      refine ⟨if ok then .tuple #[z, .bool false] else z, ?_, ?_⟩
      · simp [execOp, ho, hg, Instr.lookup, aA hT, bU hO, hck, hc', cG hi hz]
      · cases ok
        · exact hzr
        · exact (RepL.cons hzr (.cons (.bool false) .nil)).tuple
  | some jy =>
    cases c' with
    | none => exact hf.elim
    | some ju =>
      obtain ⟨j, y⟩ := jy
      obtain ⟨j', u⟩ := ju
      obtain ⟨_, _, hyu, _⟩ := hf
      subst hx
      refine ⟨if ok then .tuple #[u, .bool true] else u, ?_, ?_⟩
      · simp [execOp, ho, hg, Instr.lookup, aA hT, bU hO, hck, hc']
      · cases ok
        · exact hyu
        · exact (RepL.cons hyu (.cons (.bool true) .nil)).tuple
theorem lY {agg : Bool} {ks : List CK} {k : AV} {es es' : List (AV × AV)} (h : es'.Perm es) : ∀ {l : List AV}, fY agg ks k es = some l → ∃ l', fY agg ks k es' = some l' ∧ l'.Perm l := by
  induction h with
  | nil => intro l hl; exact ⟨l, hl, .refl _⟩
  | cons x _ ih =>
    intro l hl
    simp only [fY, Option.bind_eq_some_iff, Option.map_eq_some_iff] at hl ⊢
    obtain ⟨b, hb, m, hm, rfl⟩ := hl
    obtain ⟨m', hm', hp⟩ := ih hm
    refine ⟨_, ⟨b, hb, m', hm', rfl⟩, ?_⟩
    cases b
    · exact hp
    · exact hp.cons _
  | swap x y es =>
    intro l hl
    simp only [fY, Option.bind_eq_some_iff, Option.map_eq_some_iff] at hl ⊢
    obtain ⟨b, hb, m, ⟨b2, hb2, m2, hm2, rfl⟩, rfl⟩ := hl
    refine ⟨_, ⟨b2, hb2, _, ⟨b, hb, m2, hm2, rfl⟩, rfl⟩, ?_⟩
    cases b <;> cases b2
    · exact .refl _
    · exact .refl _
    · exact .refl _
    · exact .swap _ _ _
  | trans _ _ ih1 ih2 =>
    intro l hl
    obtain ⟨l2, h2, p2⟩ := ih2 hl
    obtain ⟨l1, h1, p1⟩ := ih1 h2
    exact ⟨l1, h1, p1.trans p2⟩
theorem iX {agg : Bool} {ks : List CK} {k : AV} : ∀ {es : List (AV × AV)} {i : Nat} {l : List AV}, fY agg ks k es = some l → (l = [] → cM agg ks k es i = some none) ∧ (∀ v r, l = v :: r → ∃ j, cM agg ks k es i = some (some (j, v)))
  | [], i, l, h => by
    simp only [fY, Option.some.injEq] at h; subst h
    exact ⟨fun _ => rfl, fun v r e => by cases e⟩
  | e :: es, i, l, h => by
    simp only [fY, Option.bind_eq_some_iff, Option.map_eq_some_iff] at h
    obtain ⟨b, hb, m, hm, rfl⟩ := h
    have ih := iX (i := i + 1) hm
    simp only [cM, hb, Option.bind_some]
    cases b
    · simpa using ih
    · refine ⟨fun e => by simp at e, fun v r e => ?_⟩
      simp at e
      obtain ⟨rfl, rfl⟩ := e
      exact ⟨i, by simp⟩
theorem sound_lookup {T K E : TypeId} {D : TypeDesc} {p p' : Operand} {ok : Bool} {i : TypeInfo} {z : Value} {zero m k : AV} {ks : List CK} (ho : o.op = .lookup T p p' ok) (hT : P.underlying T = some (.map K E)) (hD : P.underlying K = some D) (hk : aM P 20 K = some ks) (hi : P.info? E = some i) (hz : i.zero = some z) (hzz : ofC z = some zero)
    (hm : RepV ρ R m (a.eval p)) (hkk : RepV ρ R k (a.eval p')) (h : cJ (a3 D) ks zero ok m k H = some r) : aV P o a ρ R H q r := by
  have hzr := q8 (ρ := ρ) (R := R) hzz
  unfold cJ at h
  split at h
  · rename_i hs
    split at h
    · simp only [Option.some.injEq] at h; subst h
      generalize hg : a.eval p = pv at hm
      cases hm
      refine aE (v := if ok then .tuple #[z, .bool false] else z) (fun w => ?_) ?_
      · have hck := dZ (P := P) (e := true) hk hD hs hkk w
        simp [execOp, ho, hg, Instr.lookup, aA hT, hck, Instr.findKey, aA hD, Instr.findNow, cG hi hz]
      · cases ok
        · exact hzr
        · exact (RepL.cons hzr (.cons (.bool false) .nil)).tuple
    · rename_i l
      split at h
      · rename_i es bs ck hl
        simp only [Option.bind_eq_some_iff] at h
        obtain ⟨c, hc, h⟩ := h
        have key : ∀ w L O, w.heap[L.blk]? = some O → ρ l = some L → RepO ρ R L (.amap es bs ck) O → ∃ v, (execOp a.eval o).run P w = .ok (.value v) w ∧ RepV ρ R r.x v := by
          intro w L O hO hL hrep
          cases O <;> simp only [RepO] at hrep
          rename_i ents clock
          obtain ⟨hl1, _, _, _, hr⟩ := hrep
          obtain ⟨L', hL', hg⟩ := hm.map_inv
          rw [hL] at hL'; cases hL'
          obtain ⟨c', hc', hf⟩ := eR (P := P) hk hD hkk w hc (ents := ents.toList) (by simpa using hl1) (fun j p m hp hm => hr j p m hp (by simpa using hm))
          have hck := dZ (P := P) (e := ents.isEmpty) hk hD hs hkk w
          cases c with
          | none =>
            cases c' with
            | some ju => exact hf.elim
            | none =>
              simp only [Option.some.injEq] at h; subst h
              refine ⟨if ok then .tuple #[z, .bool false] else z, ?_, ?_⟩
              · simp [execOp, ho, hg, Instr.lookup, aA hT, bU hO, hck, hc', cG hi hz]
              · cases ok
                · exact hzr
                · exact (RepL.cons hzr (.cons (.bool false) .nil)).tuple
          | some jy =>
            cases c' with
            | none => exact hf.elim
            | some ju =>
              obtain ⟨j, y⟩ := jy
              obtain ⟨j', u⟩ := ju
              obtain ⟨_, _, hyu, _⟩ := hf
              simp only [Option.some.injEq] at h; subst h
              refine ⟨if ok then .tuple #[u, .bool true] else u, ?_, ?_⟩
              · simp [execOp, ho, hg, Instr.lookup, aA hT, bU hO, hck, hc']
              · cases ok
                · exact hyu
                · exact (RepL.cons hyu (.cons (.bool true) .nil)).tuple
        have hr : ∃ x, r = ⟨x, [], some [l]⟩ := by
          cases c with
          | none => simp only [Option.some.injEq] at h; exact ⟨_, h.symm⟩
          | some jy => obtain ⟨j, y⟩ := jy; simp only [Option.some.injEq] at h; exact ⟨_, h.symm⟩
        obtain ⟨x, rfl⟩ := hr
        exact c7 hl key
      · rename_i es hl
        simp only [Option.bind_eq_some_iff] at h
        obtain ⟨c, hc, h⟩ := h
        have hr : ∃ x, r = ⟨x, [], some [l]⟩ ∧ ∀ es' : List (AV × AV), es'.Perm es → ∃ d, cM (a3 D) ks k es' 0 = some d ∧ x = tV ok zero d := by
          split at h
          · rename_i v
            cases h
            refine ⟨_, rfl, fun es' hp => ?_⟩
            obtain ⟨l', h1, h2⟩ := lY hp hc
            have e := List.perm_singleton.1 h2
            subst e
            obtain ⟨j, hj⟩ := (iX (i := 0) h1).2 v [] rfl
            exact ⟨_, hj, rfl⟩
          · cases h
            refine ⟨_, rfl, fun es' hp => ?_⟩
            obtain ⟨l', h1, h2⟩ := lY hp hc
            have e := List.perm_nil.1 h2
            subst e
            exact ⟨_, (iX (i := 0) h1).1 rfl, rfl⟩
          · cases h
        obtain ⟨x, rfl, hx⟩ := hr
        refine c7 hl (fun w L O hO hL hrep => ?_)
        cases O <;> simp only [RepO] at hrep
        rename_i ents clock
        obtain ⟨es', hp, h1, _, _, h4⟩ := hrep
        obtain ⟨d, hd, hxd⟩ := hx es' hp
        exact lookup_run ho hT hD hk hi hz hzr hm hkk hs hd hxd w L ents clock hO hL h1 h4
      · cases h
    · cases h
  · cases h
theorem d8 : ∀ {ks : List CK} {us vs : List Value} {n : Nat}, cK ks us vs = some true → us.length = ks.length → vs.length = ks.length → ((us.zip vs).all fun (x, y) => Instr.sameBits n x y) = true
  | [], us, vs, n, _, hu, hv => by
    have : us = [] := List.length_eq_zero_iff.1 (by simpa using hu)
    subst this; simp
  | k :: ks, [], vs, n, h, hu, hv => by simp at hu
  | k :: ks, u :: us, [], n, h, hu, hv => by simp at hv
  | k :: ks, u :: us, v :: vs, n, h, hu, hv => by
    simp only [cK, Option.bind_eq_some_iff, Option.some.injEq, Bool.and_eq_true] at h
    obtain ⟨b, hb, c, hc, rfl, rfl⟩ := h
    have ih := d8 (n := n) hc (by simpa using hu) (by simpa using hv)
    simp only [List.zip_cons_cons, List.all_cons, Bool.and_eq_true]
    refine ⟨?_, ih⟩
    cases k <;> cases u <;> simp only [nA] at hb <;> try (cases hb; done)
    all_goals cases v <;> simp only at hb <;> try (cases hb; done)
    · split at hb
      · rename_i hk; subst hk; simp at hb; simp [Instr.sameBits, hb]
      · cases hb
    · simp at hb; simp [Instr.sameBits, hb]
    · simp at hb; simp [Instr.sameBits, hb]
theorem beq_bytes {s t : ByteArray} (h : (s == t) = true) : (t == s) = true := by
  have e : ∀ s t : ByteArray, (s == t) = (s.data == t.data) := fun s t => rfl
  rw [e] at h ⊢
  simp at h ⊢
  exact h.symm
theorem sameBits_plain {T : TypeId} {D : TypeDesc} {ks : List CK} (hk : aM P 20 T = some ks) (hD : P.underlying T = some D) {x y : AV} {u v : Value} (hb : gE (a3 D) ks x y = some true) (hx : RepV ρ R x u) (hy : RepV ρ R y v) : Instr.sameBits 10000 v u = true := by
  unfold gE at hb
  split at hb
  · rename_i hs
    simp only [Bool.and_eq_true] at hs
    obtain ⟨e1, l1⟩ := d7 (P := P) hD hs.1 hx
    obtain ⟨e2, l2⟩ := d7 (P := P) hD hs.2 hy
    have hv := mZ hb (RepL.cells hx) (RepL.cells hy)
    have hsym : ∀ {ks : List CK} {us vs : List Value}, cK ks us vs = some true → cK ks vs us = some true := by
      intro ks
      induction ks with
      | nil => intro us vs _; rfl
      | cons k ks ih =>
        intro us vs h
        cases us with
        | nil => simp [cK] at h
        | cons u us => cases vs with
          | nil => simp [cK] at h
          | cons v vs =>
            simp only [cK, Option.bind_eq_some_iff, Option.some.injEq, Bool.and_eq_true] at h ⊢
            obtain ⟨b, hb, c, hc, rfl, rfl⟩ := h
            refine ⟨true, ?_, true, ih hc, rfl, rfl⟩
            cases k <;> cases u <;> simp only [nA] at hb <;> try (cases hb; done)
            all_goals cases v <;> simp only at hb <;> try (cases hb; done)
            · split at hb
              · rename_i hk; subst hk; simp at hb; simp [nA, hb]
              · cases hb
            · simp at hb; simp [nA, hb]
            · simp at hb; simp only [nA, Option.some.injEq]; exact beq_bytes hb
    cases hagg : a3 D with
    | true =>
      have hm : ∀ us, mkV P T us = .agg us.toArray := fun us => by simp [mkV, hD, hagg]
      have := d8 (n := 9999) (hsym hv) l2 l1
      rw [e1, e2, hm, hm]
      have e : Instr.sameBits 10000 (.agg v.cells.toList.toArray) (.agg u.cells.toList.toArray) = (v.cells.toList.toArray.size == u.cells.toList.toArray.size && (v.cells.toList.toArray.toList.zip u.cells.toList.toArray.toList).all fun (x, y) => Instr.sameBits 9999 x y) := rfl
      rw [e, Bool.and_eq_true]
      exact ⟨by simp only [beq_iff_eq, List.size_toArray]; omega, by simpa using this⟩
    | false =>
      have hone := fC hk hD hagg
      have := d8 (n := 10000) (hsym hv) l2 l1
      rw [hagg] at hs
      simp only [bE, Bool.and_eq_true, beq_iff_eq, decide_eq_true_eq] at hs
      have hu : u.cells = #[u] := by
        have h0 := hs.1.1
        clear this
        cases hx <;> simp [AV.isAgg] at h0 <;> rfl
      have hv' : v.cells = #[v] := by
        have h0 := hs.2.1
        clear this
        cases hy <;> simp [AV.isAgg] at h0 <;> rfl
      rw [hu, hv'] at this
      simpa using this
  · cases hb
theorem nodup_push {l : List Nat} {c : Nat} (h : l.Nodup) (hc : ∀ x ∈ l, x < c) : (l ++ [c]).Nodup := by
  rw [List.nodup_append]
  refine ⟨h, by simp, fun x hx y hy e => ?_⟩
  simp at hy
  have := hc x hx
  omega
theorem f0 {T K E : TypeId} {D : TypeDesc} {p p' p'' : Operand} {m k x : AV} {ks : List CK} (ho : o.op = .mapUpdate T p p' p'' ∨ o.op = .insert T p p' p'') (hT : P.underlying T = some (.map K E)) (hD : P.underlying K = some D) (hk : aM P 20 K = some ks)
    (hm : RepV ρ R m (a.eval p)) (hkk : RepV ρ R k (a.eval p')) (hx : RepV ρ R x (a.eval p'')) (h : cC (a3 D) ks m k x H = some r) : aV P o a ρ R H q r := by
  have hex : ∀ w, (execOp a.eval o).run P w = ((Instr.mapUpdate T (a.eval p) (a.eval p') (a.eval p'')).run P w).andThen fun _ w' => .ok .skip w' := by
    intro w
    rcases ho with ho | ho <;> simp [execOp, ho]
  unfold cC at h
  split at h
  · rename_i hs
    split at h
    · rename_i l
      split at h
      · rename_i es bs ck hl
        simp only [Option.bind_eq_some_iff] at h
        obtain ⟨c, hc, h⟩ := h
        have key : ∀ w L O, w.heap[L.blk]? = some O → ρ l = some L → RepO ρ R L (.amap es bs ck) O → ∃ ents clock c', O = .map ents clock ∧ FoundOk ρ R (a3 D) ks k es ents.toList 0 c c' ∧ (execOp a.eval o).run P w = .ok .skip (w.setB L.blk (match c' with
            | some (i, _) => .map (ents.modify i fun e => { e with key := a.eval p', val := a.eval p'' }) clock
            | none => .map (ents.push { key := a.eval p', val := a.eval p'', born := clock }) (clock + 1))) := by
          intro w L O hO hL hrep
          cases O <;> simp only [RepO] at hrep
          rename_i ents clock
          obtain ⟨hl1, _, _, _, hr⟩ := hrep
          obtain ⟨L', hL', hg⟩ := hm.map_inv
          rw [hL] at hL'; cases hL'
          obtain ⟨c', hc', hf⟩ := eR (P := P) hk hD hkk w hc (ents := ents.toList) (by simpa using hl1) (fun j p m hp hm => hr j p m hp (by simpa using hm))
          have hck := dZ (P := P) (e := false) hk hD hs hkk w
          refine ⟨ents, clock, c', rfl, hf, ?_⟩
          rw [hex, hg]
          cases c' with
          | none => simp [Instr.mapUpdate, aA hT, bU hO, hck, hc', fL hO]
          | some ju =>
            obtain ⟨j', u⟩ := ju
            cases c with
            | none => exact hf.elim
            | some jy =>
              obtain ⟨j, y⟩ := jy
              obtain ⟨rfl, _, _, p0, m0, hp0, hm0, hke⟩ := hf
              simp only [Nat.sub_zero, Array.getElem?_toList] at hp0 hm0
              have hsb := sameBits_plain (P := P) hk hD hke hkk (hr j p0 m0 hp0 hm0).1
              have hks : (Instr.keyThatStays (((ents[j]?).map (·.key)).getD (a.eval p')) (a.eval p')).run P w = .ok (a.eval p') w := by
                rw [hm0]
                simp only [Option.map_some, Option.getD_some, Instr.keyThatStays, hsb, if_true, Sem.run_pure]
              simp [Instr.mapUpdate, aA hT, bU hO, hck, hc', hks, fL hO]
        cases c with
        | none =>
          simp only [Option.some.injEq] at h; subst h
          refine jU hl fun w L O hO hL hrep => ?_
          obtain ⟨ents, clock, c', rfl, hf, hrun⟩ := key w L O hO hL hrep
          cases c' with
          | some ju => exact hf.elim
          | none =>
            refine ⟨_, hrun, ?_⟩
            simp only [RepO] at hrep ⊢
            obtain ⟨h1, h2, h3, h5, h4⟩ := hrep
            refine ⟨by simp [h1], ?_, fun m hm => ?_, ⟨by simp [h5.1, h5.2], by rw [h5.2]⟩, fun i p m hp hm => ?_⟩
            · simp only [Array.toList_push, List.map_append, List.map_cons, List.map_nil]
              exact nodup_push h2 (fun b hb => by
                obtain ⟨m, hm, rfl⟩ := List.mem_map.1 hb
                exact h3 m (by simpa using hm))
            · rcases Array.mem_push.1 hm with hm | rfl
              · have := h3 m hm; omega
              · simp
            · by_cases hi : i < es.length
              · rw [List.getElem?_append_left hi] at hp
                rw [Array.getElem?_push_lt (by omega)] at hm
                exact h4 i p m hp (by rw [Array.getElem?_eq_getElem (by omega)]; exact hm)
              · rw [List.getElem?_append_right (by omega)] at hp
                have hi2 : i = es.length := by
                  rcases Nat.lt_or_ge (i - es.length) 1 with h6 | h6
                  · omega
                  · rw [List.getElem?_eq_none (by simpa using h6)] at hp; cases hp
                subst hi2
                simp at hp
                rw [← h1, Array.getElem?_push_size] at hm
                cases hm; subst hp
                exact ⟨hkk, hx⟩
        | some jy =>
          obtain ⟨j, y⟩ := jy
          simp only [Option.some.injEq] at h; subst h
          refine jU hl fun w L O hO hL hrep => ?_
          obtain ⟨ents, clock, c', rfl, hf, hrun⟩ := key w L O hO hL hrep
          cases c' with
          | none => exact hf.elim
          | some ju =>
            obtain ⟨j', u⟩ := ju
            obtain ⟨rfl, _, _, p0, m0, hp0, hm0, _⟩ := hf
            refine ⟨_, hrun, ?_⟩
            simp only [RepO] at hrep ⊢
            obtain ⟨h1, h2, h3, h5, h4⟩ := hrep
            have hborn : ∀ i m, (ents.modify j fun e => { e with key := a.eval p', val := a.eval p'' })[i]? = some m → ∃ m', ents[i]? = some m' ∧ m.born = m'.born ∧ ((i = j ∧ m.key = a.eval p' ∧ m.val = a.eval p'') ∨ (i ≠ j ∧ m = m')) := by
              intro i m hm
              rw [Array.getElem?_modify] at hm
              by_cases hij : j = i
              · subst hij
                simp only [if_true, Option.map_eq_some_iff] at hm
                obtain ⟨m', hm', rfl⟩ := hm
                exact ⟨m', hm', rfl, .inl ⟨rfl, rfl, rfl⟩⟩
              · simp only [hij, if_false] at hm
                exact ⟨m, hm, rfl, .inr ⟨fun e => hij e.symm, rfl⟩⟩
            have hsame : (ents.modify j fun e => { e with key := a.eval p', val := a.eval p'' }).toList.map (·.born) = ents.toList.map (·.born) := by
              apply List.ext_getElem?
              intro i
              simp only [List.getElem?_map, Array.getElem?_toList, Array.getElem?_modify]
              split
              · rename_i e; subst e; cases ents[j]? <;> simp
              · rfl
            refine ⟨by simp [h1], ?_, fun m hm => ?_, ⟨by rw [hsame]; exact h5.1, h5.2⟩, fun i p m hp hm => ?_⟩
            · rw [hsame]; exact h2
            · obtain ⟨i, hi⟩ := Array.getElem?_of_mem hm
              obtain ⟨m', hm', hb, _⟩ := hborn i m hi
              rw [hb]; exact h3 m' (Array.mem_of_getElem? hm')
            · obtain ⟨m', hm', _, hcase⟩ := hborn i m hm
              rw [List.getElem?_set] at hp
              rcases hcase with ⟨rfl, hk1, hv1⟩ | ⟨hne, rfl⟩
              · simp only [if_true] at hp
                split at hp
                · cases hp; rw [hk1, hv1]; exact ⟨hkk, hx⟩
                · cases hp
              · rw [if_neg (fun e => hne e.symm)] at hp
                exact h4 i p m hp hm'
      · cases h
    · cases h
  · cases h
theorem sound_delete {T K E : TypeId} {D : TypeDesc} {c : Call} {p p' : Operand} {m k : AV} {ks : List CK} (ho : o.op = .call c) (hc : c.callee = .builtin .delete) (hargs : c.args = #[p, p']) (ht : c.argTypes[0]? = some T) (hT : P.underlying T = some (.map K E)) (hD : P.underlying K = some D) (hk : aM P 20 K = some ks)
    (hm : RepV ρ R m (a.eval p)) (hkk : RepV ρ R k (a.eval p')) (h : iD (a3 D) ks m k H = some r) : aV P o a ρ R H q r := by
  unfold iD at h
  split at h
  · rename_i hs
    split at h
    · simp only [Option.some.injEq] at h; subst h
      generalize hg : a.eval p = pv at hm
      cases hm
      refine aE (v := .tuple #[]) (fun w => ?_) (RepL.tuple .nil)
      have hck := dZ (P := P) (e := true) hk hD hs hkk w
      simp [execOp, ho, resolve, hc, hargs, invoke, builtin, Builtin.delete_, ht, hg, aA hT, hck]
    · rename_i l
      split at h
      · rename_i es bs ck hl
        simp only [Option.bind_eq_some_iff] at h
        obtain ⟨cc, hcc, h⟩ := h
        have key : ∀ w L O, w.heap[L.blk]? = some O → ρ l = some L → RepO ρ R L (.amap es bs ck) O → ∃ ents clock c', O = .map ents clock ∧ FoundOk ρ R (a3 D) ks k es ents.toList 0 cc c' ∧ (execOp a.eval o).run P w = .ok (.value (.tuple #[])) (w.setB L.blk (match c' with
            | some (i, _) => .map (ents.eraseIdxIfInBounds i) clock
            | none => .map ents clock)) := by
          intro w L O hO hL hrep
          cases O <;> simp only [RepO] at hrep
          rename_i ents clock
          obtain ⟨hl1, _, _, _, hr⟩ := hrep
          obtain ⟨L', hL', hg⟩ := hm.map_inv
          rw [hL] at hL'; cases hL'
          obtain ⟨c', hc', hf⟩ := eR (P := P) hk hD hkk w hcc (ents := ents.toList) (by simpa using hl1) (fun j p m hp hm => hr j p m hp (by simpa using hm))
          have hck := dZ (P := P) (e := ents.isEmpty) hk hD hs hkk w
          refine ⟨ents, clock, c', rfl, hf, ?_⟩
          cases c' with
          | none => simp [execOp, ho, resolve, hc, hargs, invoke, builtin, Builtin.delete_, ht, hg, aA hT, bU hO, hck, hc', fL hO]
          | some ju => obtain ⟨j', u⟩ := ju; simp [execOp, ho, resolve, hc, hargs, invoke, builtin, Builtin.delete_, ht, hg, aA hT, bU hO, hck, hc', fL hO]
        have hval : RepV ρ R (.tuple []) (.tuple #[]) := RepL.tuple .nil
        cases cc with
        | none =>
          simp only [Option.some.injEq] at h; subst h
          refine c7 hl fun w L O hO hL hrep => ?_
          obtain ⟨ents, clock, c', rfl, hf, hrun⟩ := key w L O hO hL hrep
          cases c' with
          | some ju => exact hf.elim
          | none => exact ⟨_, by rw [hrun]; simp only; rw [oS hO], hval⟩
        | some jy =>
          obtain ⟨j, y⟩ := jy
          simp only [Option.some.injEq] at h; subst h
          refine ⟨fun k hk => .inl (by rw [bC hk]; simp [restr, hl]), fun w hR _ => ?_⟩
          obtain ⟨L, O, h1, h2, h3⟩ := hR.own l (.amap es bs ck) (by simp [restr, hl])
          obtain ⟨ents, clock, c', rfl, hf, hrun⟩ := key w L O h2 h1 h3
          cases c' with
          | none => exact hf.elim
          | some ju =>
            obtain ⟨j', u⟩ := ju
            obtain ⟨rfl, _, _, p0, m0, hp0, hm0, _⟩ := hf
            simp only [Nat.sub_zero, Array.getElem?_toList] at hp0 hm0
            have hj : j < ents.size := (Array.getElem?_eq_some_iff.1 hm0).1
            have ho' : RepO ρ R L (.amap (es.eraseIdx j) (bs.eraseIdx j) ck) (.map (ents.eraseIdxIfInBounds j) clock) := by
              simp only [RepO] at h3 ⊢
              obtain ⟨g1, g2, g3, g5, g4⟩ := h3
              have el : (ents.eraseIdxIfInBounds j).toList = ents.toList.eraseIdx j := by
                rw [Array.eraseIdxIfInBounds_eq, dif_pos hj]; simp
              have hsz : (ents.eraseIdxIfInBounds j).size = (es.eraseIdx j).length := by
                have := congrArg List.length el
                simp only [Array.length_toList] at this
                rw [this, List.length_eraseIdx, List.length_eraseIdx]
                simp [g1]
              have em : (ents.toList.eraseIdx j).map (·.born) = (ents.toList.map (·.born)).eraseIdx j := by
                apply List.ext_getElem?
                intro i
                simp only [List.getElem?_map, List.getElem?_eraseIdx]
                split <;> rfl
              refine ⟨hsz, ?_, fun m hm => ?_, ⟨by rw [el, em, g5.1], g5.2⟩, fun i p m hp hm => ?_⟩
              · rw [el, em]
                exact g2.sublist (List.eraseIdx_sublist _ _)
              · have : m ∈ (ents.eraseIdxIfInBounds j).toList := hm.val
                rw [el] at this
                exact g3 m (by simpa using List.mem_of_mem_eraseIdx this)
              · rw [List.getElem?_eraseIdx] at hp
                have hm' : (ents.eraseIdxIfInBounds j).toList[i]? = some m := by rw [Array.getElem?_toList]; exact hm
                rw [el, List.getElem?_eraseIdx] at hm'
                split at hp
                · rename_i hij; rw [if_pos hij] at hm'; exact g4 i p m hp (by simpa using hm')
                · rename_i hij; rw [if_neg hij] at hm'; exact g4 _ p m hp (by simpa using hm')
            obtain ⟨hF, hR'⟩ := k6 (W := Under q) hR (show restr H (some [l]) l = some (.amap es bs ck) by simp [restr, hl]) h1 h2 ho'
            exact aU hrun ⟨ρ, R, hF, hval, hR'⟩
      · cases h
    · cases h
  · cases h
theorem sound_mkmap {T : TypeId} (ho : o.op = .makeMap T none) : aV P o a ρ R H q ⟨.map q, [(q, some (.amap [] [] 0))], some []⟩ := by
  refine c9 (O := .map #[] 0) 0 0 (fun w => ⟨.map (some w.heap.size), ?_, fun ρ' _ h => ?_⟩) (fun b => ?_)
  · simp [execOp, ho, Instr.makeMap]
  · have := RepV.map (R := R) q _ h
    simpa using this
  · simp only [RepO]
    exact ⟨rfl, by simp, by simp, by simp, fun i p m hp => by simp at hp⟩
theorem sound_mkmap1 {T K E : TypeId} {p : Operand} {k : IntKind} {n : Int} (ho : o.op = .makeMap T (some p)) (hT : P.underlying T = some (.map K E)) (hx : RepV ρ R (.int k n) (a.eval p)) : aV P o a ρ R H q ⟨.map q, [(q, some (.amap [] [] 0))], some []⟩ := by
  refine c9 (O := .map #[] 0) 0 0 (fun w => ⟨.map (some w.heap.size), ?_, fun ρ' _ h => ?_⟩) (fun b => ?_)
  · have hg := hx.int_inv
    simp [execOp, ho, Instr.makeMap, aA hT, asInt, asIntOf, hg]
  · have := RepV.map (R := R) q _ h
    simpa using this
  · simp only [RepO]
    exact ⟨rfl, by simp, by simp, by simp, fun i p m hp => by simp at hp⟩
end
end Go.Proofs.Ytigjoggpaamodaa
/-! The abstract machine: going through a map. -/
namespace Go.Proofs.Ytigjoggpaamodaa
set_option linter.unusedVariables false
set_option linter.unusedSimpArgs false
open Go.ChangeMaps (setBlock)
variable {P : Program} {o : Oper} {a : Act} {ρ : aH} {R : Imm} {H : aB} {q : Lab} {r : Res}
theorem sound_range_nil {T K E : TypeId} {p : Operand} (ho : o.op = .range T p) (hT : P.underlying T = some (.map K E)) (hx : RepV ρ R .nilm (a.eval p)) : aV P o a ρ R H q ⟨.ptr q 1 0 0, [(q, some (.iter none 0 [] 0))], some []⟩ := by
  generalize hg : a.eval p = pv at hx
  cases hx
  refine c9 (O := .mapIter none 0 #[] 0) 0 0 (fun w => ⟨.pointer (some ⟨w.heap.size, 0, none⟩), ?_, fun ρ' _ h => ?_⟩) (fun b => ?_)
  · simp [execOp, ho, hg, Instr.range, aA hT]
  · have := RepV.ptr (R := R) q 1 0 0 _ h
    simpa using this
  · simp [RepO]
theorem sound_range {T K E : TypeId} {p : Operand} {l : Lab} {es : List (AV × AV)} {bs : List Nat} {ck : Nat} (ho : o.op = .range T p) (hT : P.underlying T = some (.map K E)) (hx : RepV ρ R (.map l) (a.eval p)) (hl : H l = some (.amap es bs ck)) :
    aV P o a ρ R H q ⟨.ptr q 1 0 0, [(q, some (.iter (some l) ck [] ck))], some [l]⟩ := by
  refine ⟨fun k hk => .inr (by rw [bC hk]; exact .self _), fun w hR hf => ?_⟩
  obtain ⟨L, O, h1, h2, h3⟩ := hR.own l (.amap es bs ck) (by simp [restr, hl])
  cases O <;> simp only [RepO] at h3
  rename_i ents clock
  obtain ⟨_, _, _, h5, _⟩ := h3
  obtain ⟨L', hL', hg⟩ := hx.map_inv
  rw [h1] at hL'; cases hL'
  have hrun : (execOp a.eval o).run P w = .ok (.value (.pointer (some ⟨w.heap.size, 0, none⟩))) (w.alloc (.mapIter (some L.blk) ck #[] ck)) := by
    simp [execOp, ho, hg, Instr.range, aA hT, bU h2, h5.2]
  obtain ⟨hF, hR'⟩ := fR (o := .iter (some l) ck [] ck) hR (hf q (Under.self _)) (Under.self q) (O := .mapIter (some L.blk) ck #[] ck) (L := ⟨w.heap.size, 0, 0, 0⟩) rfl ⟨rfl, rfl, rfl, rfl, .inr ⟨l, L, rfl, h1, rfl⟩⟩
  refine aU hrun ⟨_, R, hF, ?_, hR'⟩
  have := RepV.ptr (R := R) (ρ := fun k => if k = q then some (⟨w.heap.size, 0, 0, 0⟩ : Loc) else ρ k) q 1 0 0 ⟨w.heap.size, 0, 0, 0⟩ (by simp)
  simpa using this
theorem idx_born {ents : Array MapEntry} {bs : List Nat} (h : ents.toList.map (·.born) = bs) {b i : Nat} (hi : bs.idxOf? b = some i) : ∃ e, ents[i]? = some e ∧ e.born = b := by
  rw [List.idxOf?, List.findIdx?_eq_some_iff_getElem] at hi
  obtain ⟨h1, h2, _⟩ := hi
  subst h
  simp only [List.length_map, Array.length_toList] at h1
  refine ⟨ents[i], by rw [Array.getElem?_eq_getElem h1], ?_⟩
  simpa using h2
theorem sound_entry {p : Operand} {x : AV} (ho : o.op = .entry p) (hx : RepV ρ R x (a.eval p)) (h : m7 x H = some r) : aV P o a ρ R H q r := by
  unfold m7 at h
  split at h
  · rename_i r' 
    split at h
    · rename_i l since seen st hr
      split at h
      · rename_i es bs ck hl
        split at h
        · rename_i hck
          simp only [Option.bind_eq_some_iff, Option.map_eq_some_iff] at h
          obtain ⟨b, hb, i, hi, e, he, rfl⟩ := h
          refine ⟨fun l hl => absurd hl (aF l), fun w hR _ => ?_⟩
          obtain ⟨L, O, h1, h2, h3⟩ := hR.own l (.amap es bs ck) (by simp [restr, hl])
          obtain ⟨L2, O2, k1, k2, k3⟩ := hR.own r' (.iter (some l) since seen st) (by simp [restr, hr])
          cases O <;> simp only [RepO] at h3
          rename_i ents clock
          cases O2 <;> simp only [RepO] at k3
          rename_i m' since' seen' st'
          obtain ⟨g1, g2, _, g5, g4⟩ := h3
          obtain ⟨j0, rfl, j2, rfl, j4⟩ := k3
          rcases j4 with ⟨j4, _⟩ | ⟨l', M, j4, j5, rfl⟩
          · cases j4
          cases j4
          rw [h1] at j5; cases j5
          obtain ⟨L', hL', hg⟩ := hx.ptr_inv
          rw [k1] at hL'; cases hL'
          rw [j0] at hg
          obtain ⟨m, hm, hmb⟩ := idx_born g5.1 hi
          have hsp : ∃ pre : Array Nat, seen' = pre.push m.born := by
            rw [← j2] at hb
            refine ⟨seen'.pop, ?_⟩
            have hne : seen' ≠ #[] := by rintro rfl; simp at hb
            rw [Array.getLast?_toList] at hb
            exact (Array.eq_push_pop_back!_of_size_ne_zero (by simpa using hne)).trans (by rw [hmb]; congr 1; rw [Array.back?] at hb; simp [Array.back!, getElem!_def, hb])
          obtain ⟨pre, rfl⟩ := hsp
          have hrun := run_entry_at (P := P) w L2.blk L.blk since' pre ents clock m (by rw [k2, g5.2, hck]) h2 (by simpa using Array.mem_of_getElem? hm) g2
          refine aU (v := .tuple #[m.key, m.val]) ?_ ⟨ρ, R, Fut.refl _ _ _ _ _, ?_, hR⟩
          · simp [execOp, ho, hg, hrun]
          · exact (RepL.cons (g4 i e m he hm).1 (.cons (g4 i e m he hm).2 .nil)).tuple
        · cases h
      · cases h
    · cases h
  · cases h
theorem Fut.heap {G : aB} {ρ' : aH} {R' : Imm} {w w' w2 : World} {W : Lab → Prop} (h : Fut G ρ R w W ρ' R' w') (h1 : w2.heap = w'.heap) (h2 : w2.os = w'.os) (h3 : w2.tape = w'.tape) (h4 : w2.output = w'.output) : Fut G ρ R w W ρ' R' w2 :=
  ⟨h.ext, h.win, h.new, h2.trans h.os, h3.trans h.tape, h4.trans h.output, by rw [h1]; exact h.size, by rw [h1]; exact h.frame⟩
theorem Rep.heap {G : aB} {w w2 : World} (h : Rep G ρ R w) (h1 : w2.heap = w.heap) : Rep G ρ R w2 :=
  ⟨by rw [h1]; exact h.own, h.sep, h.dis, by rw [h1]; exact h.imm⟩
theorem o0 {ents : Array MapEntry} {es : List (AV × AV)} {bs seen : List Nat} {seen' : Array Nat} (hs : seen'.toList = seen) (hlen : ents.size = es.length) (hb : ents.toList.map (·.born) = bs) {m : MapEntry} (hm : m ∈ (leftOf ents seen').toList) :
    ∃ (i : Nat) (e : AV × AV), ents[i]? = some m ∧ es[i]? = some e ∧ (e, m.born) ∈ m6 es bs seen := by
  simp only [leftOf, Array.toList_filter, List.mem_filter] at hm
  obtain ⟨h1, h2⟩ := hm
  obtain ⟨i, hi⟩ := List.getElem?_of_mem h1
  have hi' : ents[i]? = some m := by simpa using hi
  have hlt : i < es.length := by
    have := (Array.getElem?_eq_some_iff.1 hi').1
    omega
  refine ⟨i, es[i], hi', List.getElem?_eq_getElem hlt, ?_⟩
  simp only [m6, List.mem_filter]
  refine ⟨?_, ?_⟩
  · have : (es.zip bs)[i]? = some (es[i], m.born) := by
      rw [List.getElem?_zip_eq_some]
      refine ⟨List.getElem?_eq_getElem hlt, ?_⟩
      rw [← hb, List.getElem?_map, hi]
      rfl
    exact List.mem_of_getElem? this
  · rw [← hs]
    simpa using h2
theorem pZ {ents : Array MapEntry} {es : List (AV × AV)} {bs seen : List Nat} {seen' : Array Nat} (hs : seen'.toList = seen) (_hlen : ents.size = es.length) (hb : ents.toList.map (·.born) = bs) (h0 : (leftOf ents seen').size = 0) : m6 es bs seen = [] := by
  have h1 : leftOf ents seen' = #[] := Array.eq_empty_of_size_eq_zero h0
  simp only [m6, List.filter_eq_nil_iff]
  intro p hp
  obtain ⟨i, hi⟩ := List.getElem?_of_mem hp
  rw [List.getElem?_zip_eq_some] at hi
  obtain ⟨_, hi⟩ := hi
  rw [← hb, List.getElem?_map, Option.map_eq_some_iff] at hi
  obtain ⟨m, hm, hmb⟩ := hi
  have hm' : m ∈ ents := by
    have : m ∈ ents.toList := List.mem_of_getElem? hm
    simpa using this
  intro hc
  have : m ∈ leftOf ents seen' := by
    simp only [leftOf, Array.mem_filter]
    refine ⟨hm', ?_⟩
    rw [← hmb, ← hs] at hc
    simpa using hc
  rw [h1] at this
  simp at this
theorem sound_next {p : Operand} {x : AV} (ho : o.op = .next p false) (hx : RepV ρ R x (a.eval p)) (h : qL x H = some r) : aV P o a ρ R H q r := by
  unfold qL at h
  split at h
  · rename_i r'
    obtain ⟨L', hL', hg⟩ := hx.ptr_inv
    split at h
    · rename_i since seen st hr
      simp only [Option.some.injEq] at h; subst h
      refine c7 hr fun w L O hO hL hrep => ⟨.tuple #[.bool false], ?_, (RepL.cons (.bool false) .nil).tuple⟩
      have eL : L = L' := by rw [hL] at hL'; exact Option.some.inj hL'
      subst eL
      cases O <;> simp only [RepO] at hrep
      rename_i m' since' seen' st'
      obtain ⟨j0, _, _, _, j4⟩ := hrep
      rcases j4 with ⟨_, rfl⟩ | ⟨l', M, j4, _⟩
      · rw [j0] at hg
        have hget : (getObj L.blk).run P w = .ok (.mapIter none since' seen' st') w := by simp [getObj, Sem.run, hO]
        simp [execOp, ho, hg, Instr.next, hget]
      · cases j4
    · rename_i l since seen st hr
      split at h
      · rename_i es bs ck hl
        split at h
        · rename_i hc
          have hown : ∀ w ρ0 R0, ρ0 = ρ → R0 = R → Rep (restr H (some [r', l])) ρ0 R0 w → ∃ (L L2 : Loc) (ents : Array MapEntry) (seen' : Array Nat), ρ l = some L ∧ ρ r' = some L2 ∧ w.heap[L.blk]? = some (.map ents ck) ∧ w.heap[L2.blk]? = some (.mapIter (some L.blk) since seen' st) ∧ seen'.toList = seen ∧ L2.off = 0 ∧ RepO ρ R L (.amap es bs ck) (.map ents ck) ∧ a.eval p = .pointer (some ⟨L2.blk, 0, none⟩) := by
            rintro w _ _ rfl rfl hR
            obtain ⟨L, O, h1, h2, h3⟩ := hR.own l (.amap es bs ck) (by simp [restr, hl])
            obtain ⟨L2, O2, k1, k2, k3⟩ := hR.own r' (.iter (some l) since seen st) (by simp [restr, hr])
            have h3' := h3
            cases O <;> simp only [RepO] at h3'
            rename_i ents clock
            cases O2 <;> simp only [RepO] at k3
            rename_i m' since' seen' st'
            obtain ⟨_, _, _, g5, _⟩ := h3'
            obtain ⟨j0, rfl, j2, rfl, j4⟩ := k3
            rcases j4 with ⟨j4, _⟩ | ⟨l', M, j4, j5, rfl⟩
            · cases j4
            cases j4
            rw [h1] at j5; cases j5
            have eL : L2 = L' := by rw [k1] at hL'; exact Option.some.inj hL'
            subst eL
            rw [j0] at hg
            obtain ⟨_, rfl⟩ := g5
            exact ⟨L, L2, ents, seen', h1, k1, h2, k2, j2, j0, h3, hg⟩
          have hborn : ∀ {ents : Array MapEntry} {L : Loc}, RepO ρ R L (.amap es bs ck) (.map ents ck) → ∀ m ∈ ents.toList, m.born < since := by
            intro ents L h3 m hm
            simp only [RepO] at h3
            have : m.born ∈ bs := by rw [← h3.2.2.2.1.1]; exact List.mem_map_of_mem hm
            simpa using List.all_eq_true.1 hc.1 _ this
          split at h
          · rename_i hleft
            simp only [Option.some.injEq] at h; subst h
            refine ⟨fun l hl => absurd hl (aF l), fun w hR _ => ?_⟩
            obtain ⟨L, L2, ents, seen', h1, k1, h2, k2, j2, j0, h3, hp⟩ := hown w ρ R rfl rfl hR
            have h3' := h3
            simp only [RepO] at h3'
            rcases run_next_at (P := P) w o.type L2.blk L.blk since st seen' ents ck k2 h2 (hborn h3) hc.2 with ⟨_, hrun⟩ | ⟨m, hm, _⟩
            · refine aU (v := .tuple #[.bool false]) ?_ ⟨ρ, R, Fut.refl _ _ _ _ _, (RepL.cons (.bool false) .nil).tuple, hR⟩
              simp [execOp, ho, hp, hrun]
            · obtain ⟨i, e, _, _, hin⟩ := o0 j2 h3'.1 h3'.2.2.2.1.1 hm
              rw [hleft] at hin
              cases hin
          · rename_i e b hleft
            simp only [Option.some.injEq] at h; subst h
            refine ⟨fun k hk => .inl (by rw [bC hk]; simp [restr, hr]), fun w hR _ => ?_⟩
            obtain ⟨L, L2, ents, seen', h1, k1, h2, k2, j2, j0, h3, hp⟩ := hown w ρ R rfl rfl hR
            have h3' := h3
            simp only [RepO] at h3'
            rcases run_next_at (P := P) w o.type L2.blk L.blk since st seen' ents ck k2 h2 (hborn h3) hc.2 with ⟨h0, _⟩ | ⟨m, hm, w1, hw1, hrun⟩
            · rw [pZ j2 h3'.1 h3'.2.2.2.1.1 h0] at hleft
              cases hleft
            · obtain ⟨i, e', hmi, hei, hin⟩ := o0 j2 h3'.1 h3'.2.2.2.1.1 hm
              rw [hleft] at hin
              simp only [List.mem_singleton, Prod.mk.injEq] at hin
              obtain ⟨rfl, rfl⟩ := hin
              have ho' : RepO ρ R L2 (.iter (some l) since (seen ++ [m.born]) ck) (.mapIter (some L.blk) since (seen'.push m.born) ck) := by
                exact ⟨j0, rfl, by simp [j2], rfl, .inr ⟨l, L, rfl, h1, rfl⟩⟩
              obtain ⟨g1, g2, g3, g5, g4⟩ := h3'
              have hv : RepV ρ R (.tuple [.bool true, e'.1, e'.2]) (.tuple #[.bool true, m.key, m.val]) := (RepL.cons (.bool true) (.cons (g4 i e' m hei hmi).1 (.cons (g4 i e' m hei hmi).2 .nil))).tuple
              obtain ⟨hF, hR'⟩ := k6 (W := Under q) hR (show restr H (some [r', l]) r' = some (.iter (some l) since seen st) by simp [restr, hr]) k1 k2 ho'
              have hex : (execOp a.eval o).run P w = .ok (.value (.tuple #[.bool true, m.key, m.val])) (setBlock w1 L2.blk (.mapIter (some L.blk) since (seen'.push m.born) ck)) := by
                simp [execOp, ho, hp, hrun]
              rcases hw1 with rfl | rfl
              · exact aU hex ⟨ρ, R, hF, hv, hR'⟩
              · exact aU hex ⟨ρ, R, hF.heap rfl rfl rfl rfl, hv, hR'.heap rfl⟩
          · cases h
        · cases h
      · cases h
    · cases h
  · cases h
end Go.Proofs.Ytigjoggpaamodaa
