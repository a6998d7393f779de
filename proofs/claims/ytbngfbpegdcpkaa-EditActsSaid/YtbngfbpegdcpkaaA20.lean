/- The abstract machine: a law's arguments in its terms. -/
import Derived.Test.YtbngfbpegdcpkaaA14
import GoSem.ClaimChange
import Derived.Carry
namespace Go.Proofs.Ytbngfbpegdcpkaa
set_option linter.unusedVariables false
set_option linter.unusedSimpArgs false

def plainFs (P : Program) (g : TypeId → Bool) : List Field → Nat → Option Nat
  | [], off => some off
  | f :: fs, off => if f.offset = off ∧ g f.type = true then plainFs P g fs (off + P.cellsOf f.type) else none
/-- types of plain data: numbers, texts, slices and structs of them -/
def plainT (P : Program) : Nat → TypeId → Bool
  | 0, _ => false
  | n + 1, t => match P.underlying t with
    | some .bool | some (.int _) | some .string => P.cellsOf t == 1
    | some (.slice e) => P.cellsOf t == 1 && decide (0 < P.cellsOf e) && plainT P n e
    | some (.struct fs) => plainFs P (plainT P n) fs.toList 0 == some (P.cellsOf t)
    | _ => false
def shapeFs (P : Program) (g : TypeId → List AV → Prop) : List Field → List AV → Prop
  | [], xs => xs = []
  | f :: fs, xs => ∃ a b, xs = a ++ b ∧ a.length = P.cellsOf f.type ∧ g f.type a ∧ shapeFs P g fs b
/-- what a datum of a type is, cell by cell -/
def shapeOf (P : Program) : Nat → TypeId → List AV → Prop
  | 0, _, _ => False
  | n + 1, t, xs => match P.underlying t with
    | some .bool => ∃ b, xs = [.bool b]
    | some (.int k) => ∃ i, xs = [.int k i] ∧ k.min ≤ i ∧ i ≤ k.max
    | some .string => ∃ s, xs = [.str s] ∧ s.size ≤ maxLen
    | some (.slice e) => ∃ rows, xs = [.isl (P.cellsOf e) rows] ∧ rows.length ≤ maxLen ∧ ∀ r ∈ rows, shapeOf P n e r
    | some (.struct fs) => shapeFs P (shapeOf P n) fs.toList xs
    | _ => False
def immOf (w : World) : Imm := fun b => w.heap[b]?
section
variable {P : Program} {H : Type} {enc : TypeId × Value → H} {w : World} {ρ : Locs}
theorem shape_len : ∀ {n : Nat} {t : TypeId} {xs : List AV}, plainT P n t = true → shapeOf P n t xs → xs.length = P.cellsOf t ∧ ∀ x ∈ xs, x.one = true
  | 0, _, _, h, _ => by simp [plainT] at h
  | n + 1, t, xs, h, hs => by
    simp only [plainT] at h
    simp only [shapeOf] at hs
    cases hu : P.underlying t with
    | none => simp [hu] at h
    | some d =>
      cases d <;> simp only [hu] at h hs <;> try (cases h; done)
      · obtain ⟨b, rfl⟩ := hs; simp at h; simp [h, AV.one]
      · obtain ⟨b, rfl, _⟩ := hs; simp at h; simp [h, AV.one]
      · obtain ⟨b, rfl, _⟩ := hs; simp at h; simp [h, AV.one]
      · simp only [Bool.and_eq_true, beq_iff_eq] at h
        obtain ⟨rows, rfl, _⟩ := hs
        simp [h.1.1, AV.one]
      · rename_i fs
        simp only [beq_iff_eq] at h
        have key : ∀ (fs : List Field) (off tot : Nat) (xs : List AV), plainFs P (plainT P n) fs off = some tot → shapeFs P (shapeOf P n) fs xs → off + xs.length = tot ∧ ∀ x ∈ xs, x.one = true := by
          intro fs
          induction fs with
          | nil => intro off tot xs h hs; simp only [plainFs, Option.some.injEq] at h; simp only [shapeFs] at hs; subst hs; simp [h]
          | cons f fs ih =>
            intro off tot xs h hs
            simp only [plainFs] at h
            split at h
            · rename_i hc
              obtain ⟨a, b, rfl, hl, ha, hb⟩ := hs
              obtain ⟨h1, h2⟩ := ih _ _ _ h hb
              obtain ⟨_, h3⟩ := shape_len hc.2 ha
              refine ⟨by simp; omega, fun x hx => ?_⟩
              rcases List.mem_append.1 hx with hx | hx
              · exact h3 x hx
              · exact h2 x hx
            · cases h
        obtain ⟨h1, h2⟩ := key _ _ _ _ h hs
        exact ⟨by omega, h2⟩
theorem mapM_some {α β : Type} {f : α → Option β} : ∀ {l : List α} {ys : List β}, l.mapM f = some ys → ys.length = l.length ∧ ∀ (i : Nat) a, l[i]? = some a → ∃ y, ys[i]? = some y ∧ f a = some y
  | [], ys, h => by simp at h; subst h; exact ⟨rfl, fun i a h => by simp at h⟩
  | x :: l, ys, h => by
    rw [List.mapM_cons] at h
    simp only [Option.bind_eq_bind, Option.bind_eq_some_iff, Option.pure_def, Option.some.injEq] at h
    obtain ⟨y, hy, zs, hzs, rfl⟩ := h
    obtain ⟨h1, h2⟩ := mapM_some hzs
    refine ⟨by simp [h1], fun i a ha => ?_⟩
    cases i with
    | zero => simp at ha; subst ha; exact ⟨y, rfl, hy⟩
    | succ i => exact h2 i a (by simpa using ha)
theorem cells_some {base n : Nat} {a : Addr} {us : List Value} (h : w.cells? base a n = some us) : us.length = n ∧ ∀ k, k < n → us[k]? = w.cell? (a.add k) := by
  unfold World.cells? at h
  split at h
  · obtain ⟨h1, h2⟩ := mapM_some h
    simp only [List.length_range] at h1
    refine ⟨h1, fun k hk => ?_⟩
    obtain ⟨y, hy, hc⟩ := h2 k k (by rw [List.getElem?_range hk])
    rw [hy, hc]
  · cases h
theorem kind_wf {k : IntKind} {n : Int} (h : (Lit.int k n).wf = true) : k.min ≤ n ∧ n ≤ k.max := by
  simpa [Lit.wf] using h
/-- what reads as data is of its type's shape -/
theorem trod_shape {base : Nat} {sp : Nat → Bool} {held : Bool} : ∀ (n fuel : Nat) (t : TypeId) (cs : List Value) (x : DataW H × List MemPlace), plainT P n t = true → DataW.trod enc P w base sp held fuel t cs = some x → ∃ xs, RepL ρ (immOf w) xs cs ∧ shapeOf P n t xs
  | 0, _, _, _, _, h, _ => by simp [plainT] at h
  | n + 1, 0, _, _, _, _, h => by simp [DataW.trod] at h
  | n + 1, fuel + 1, t, cs, x, hp, h => by
    simp only [plainT] at hp
    cases hu : P.underlying t with
    | none => simp [hu] at hp
    | some d =>
      cases d <;> simp only [hu] at hp <;> try (cases hp; done)
      · -- bool
        match cs, h with
        | [], h => simp [DataW.trod, hu] at h
        | v :: u :: cs, h => simp [DataW.trod, hu] at h
        | [v], h =>
          cases v <;> simp [DataW.trod, hu] at h
          rename_i b
          exact ⟨[.bool b], .cons (.bool b) .nil, by simp [shapeOf, hu]⟩
      · -- int
        rename_i k
        match cs, h with
        | [], h => simp [DataW.trod, hu] at h
        | v :: u :: cs, h => simp [DataW.trod, hu] at h
        | [v], h =>
          cases v <;> simp [DataW.trod, hu] at h
          rename_i k' i
          obtain ⟨⟨rfl, hw⟩, _⟩ := h
          exact ⟨[.int k' i], .cons (.int k' i) .nil, by simp only [shapeOf, hu]; exact ⟨i, rfl, kind_wf hw⟩⟩
      · -- string
        match cs, h with
        | [], h => simp [DataW.trod, hu] at h
        | v :: u :: cs, h => simp [DataW.trod, hu] at h
        | [v], h =>
          cases v <;> simp [DataW.trod, hu] at h
          rename_i s
          exact ⟨[.str s], .cons (.str s) .nil, by simp only [shapeOf, hu]; exact ⟨s, rfl, h.1⟩⟩
      · -- slice
        rename_i e
        simp only [Bool.and_eq_true, beq_iff_eq, decide_eq_true_eq] at hp
        obtain ⟨⟨_, hpos⟩, hpe⟩ := hp
        match cs, h with
        | [], h => simp [DataW.trod, hu] at h
        | v :: u :: cs, h => simp [DataW.trod, hu] at h
        | [v], h =>
          cases v <;> simp only [DataW.trod, hu] at h <;> try (cases h; done)
          rename_i A len cap
          cases A with
          | none =>
            cases len <;> cases cap <;> simp at h
            exact ⟨[.isl (P.cellsOf e) []], .cons (.isl0 none _ _ (fun _ => rfl)) .nil, by simp [shapeOf, hu]⟩
          | some ad =>
            simp only at h
            split at h
            · rename_i hc
              simp only [Option.bind_eq_some_iff] at h
              obtain ⟨elems, hel, _⟩ := h
              obtain ⟨h1, h2⟩ := mapM_some hel
              simp only [List.length_range] at h1
              -- each row by itself
              have hrow : ∀ i, i < len → ∃ us xs, us.length = P.cellsOf e ∧ (∀ k, k < P.cellsOf e → us[k]? = w.cell? ((ad.add (i * P.cellsOf e)).add k)) ∧ RepL ρ (immOf w) xs us ∧ shapeOf P n e xs := by
                intro i hi
                obtain ⟨y, _, hy⟩ := h2 i i (by rw [List.getElem?_range hi])
                simp only [Option.bind_eq_some_iff] at hy
                obtain ⟨us, hus, hy⟩ := hy
                obtain ⟨g1, g2⟩ := cells_some hus
                obtain ⟨xs, g3, g4⟩ := trod_shape n fuel e us y hpe hy
                exact ⟨us, xs, g1, g2, g3, g4⟩
              rcases Nat.eq_zero_or_pos len with rfl | hlen
              · exact ⟨[.isl (P.cellsOf e) []], .cons (.isl0 _ _ _ (fun h => by cases h)) .nil, by simp only [shapeOf, hu]; exact ⟨[], rfl, Nat.zero_le _, by simp⟩⟩
              · have hch : ∀ i, ∃ xs : List AV, i < len → ∃ us : List Value, us.length = P.cellsOf e ∧ (∀ k, k < P.cellsOf e → us[k]? = w.cell? ((ad.add (i * P.cellsOf e)).add k)) ∧ RepL ρ (immOf w) xs us ∧ shapeOf P n e xs := by
                  intro i
                  by_cases hi : i < len
                  · obtain ⟨us, xs, g⟩ := hrow i hi
                    exact ⟨xs, fun _ => ⟨us, g⟩⟩
                  · exact ⟨[], fun h => absurd h hi⟩
                obtain ⟨F, hF⟩ := Classical.axiomOfChoice hch
                -- the block
                obtain ⟨us0, g1, g2, _, _⟩ := hF 0 hlen
                have hc0 : ∃ v, w.cell? ad = some v := by
                  have := g2 0 hpos
                  rw [List.getElem?_eq_getElem (by omega)] at this
                  simp only [Nat.zero_mul, Addr.add, if_true] at this
                  exact ⟨_, this.symm⟩
                obtain ⟨v0, hv0⟩ := hc0
                have hspot : ad.spot = none := by
                  unfold World.cell? at hv0
                  split at hv0
                  · cases hq : ad.spot with
                    | none => rfl
                    | some _ => simp [hq] at hv0
                  · cases hv0
                obtain ⟨b, o', sp'⟩ := ad
                simp only at hspot; subst hspot
                have hblk : ∃ c T fz, w.heap[b]? = some (.cells c T fz) := by
                  unfold World.cell? at hv0
                  split at hv0
                  · rename_i c T fz hb; exact ⟨c, T, fz, hb⟩
                  · cases hv0
                obtain ⟨c, T, fz, hb⟩ := hblk
                refine ⟨[.isl (P.cellsOf e) ((List.range len).map F)], .cons ?_ .nil, ?_⟩
                · have hget : ∀ i j x, rowsGet ((List.range len).map F) i j = some x → i < len ∧ (F i)[j]? = some x := by
                    intro i j x hx
                    simp only [rowsGet, List.getElem?_map] at hx
                    by_cases hi : i < len
                    · rw [List.getElem?_range hi] at hx; exact ⟨hi, by simpa using hx⟩
                    · rw [List.getElem?_eq_none (by simp; omega)] at hx; simp at hx
                  have hcell : ∀ i j x, rowsGet ((List.range len).map F) i j = some x → ∃ v, c[o' + (i * P.cellsOf e + j)]? = some v ∧ RepV ρ (immOf w) x v := by
                    intro i j x hx
                    obtain ⟨hi, hj⟩ := hget i j x hx
                    obtain ⟨us, k1, k2, k3, k4⟩ := hF i hi
                    obtain ⟨v, hv, hr⟩ := k3.2 j x hj
                    have hje : j < P.cellsOf e := by
                      have := (List.getElem?_eq_some_iff.1 hv).1
                      omega
                    have := k2 j hje
                    rw [hv, add_none, add_none, cell_at hb] at this
                    exact ⟨v, by rw [← Nat.add_assoc]; exact this.symm, hr⟩
                  have := RepV.isl (ρ := ρ) (R := immOf w) (P.cellsOf e) ((List.range len).map F) b o' cap c T fz (fun i j => c.getD (o' + (i * P.cellsOf e + j)) undef) (by simpa using hc.2.1) (fun r hr => ?_) hb (fun i j x hx => ?_) (fun i j x hx => ?_)
                  · simpa using this
                  · obtain ⟨i, hi, rfl⟩ := List.mem_map.1 hr
                    obtain ⟨us, k1, k2, k3, k4⟩ := hF i (by simpa using hi)
                    exact shape_len hpe k4
                  · obtain ⟨v, hv, _⟩ := hcell i j x hx
                    simp [Array.getD_eq_getD_getElem?, hv]
                  · obtain ⟨v, hv, hr⟩ := hcell i j x hx
                    simpa [Array.getD_eq_getD_getElem?, hv] using hr
                · simp only [shapeOf, hu]
                  refine ⟨_, rfl, by simp; omega, fun r hr => ?_⟩
                  obtain ⟨i, hi, rfl⟩ := List.mem_map.1 hr
                  obtain ⟨us, k1, k2, k3, k4⟩ := hF i (by simpa using hi)
                  exact k4
            · cases h
      · -- struct
        rename_i fs
        simp only [beq_iff_eq] at hp
        simp only [DataW.trod, hu] at h
        split at h
        · rename_i hlen
          simp only [Option.map_eq_some_iff] at h
          obtain ⟨ys, hys, _⟩ := h
          have key : ∀ (fs : List Field) (off tot : Nat) (ys : List (DataW H × List MemPlace)), plainFs P (plainT P n) fs off = some tot → tot ≤ cs.length → (fs.mapM fun f => DataW.trod enc P w base sp held fuel f.type ((cs.drop f.offset).take (P.cellsOf f.type))) = some ys →
              ∃ xs, RepL ρ (immOf w) xs ((cs.drop off).take (tot - off)) ∧ shapeFs P (shapeOf P n) fs xs ∧ off ≤ tot := by
            intro fs
            induction fs with
            | nil =>
              intro off tot ys hf ht hm
              simp only [plainFs, Option.some.injEq] at hf
              subst hf
              exact ⟨[], by simpa using RepL.nil, by simp [shapeFs], Nat.le_refl _⟩
            | cons f fs ih =>
              intro off tot ys hf ht hm
              simp only [plainFs] at hf
              split at hf
              · rename_i hc
                rw [List.mapM_cons] at hm
                simp only [Option.bind_eq_bind, Option.bind_eq_some_iff, Option.pure_def, Option.some.injEq] at hm
                obtain ⟨y, hy, zs, hzs, _⟩ := hm
                obtain ⟨xs2, h1, h2, h3⟩ := ih _ _ _ hf ht hzs
                rw [hc.1] at hy
                obtain ⟨xs1, h4, h5⟩ := trod_shape n fuel f.type _ y hc.2 hy
                obtain ⟨h6, _⟩ := shape_len hc.2 h5
                refine ⟨xs1 ++ xs2, ?_, ⟨xs1, xs2, rfl, h6, h5, h2⟩, by omega⟩
                have := h4.append h1
                have e : (cs.drop off).take (P.cellsOf f.type) ++ (cs.drop (off + P.cellsOf f.type)).take (tot - (off + P.cellsOf f.type)) = (cs.drop off).take (tot - off) := by
                  rw [show tot - off = P.cellsOf f.type + (tot - (off + P.cellsOf f.type)) by omega, List.take_add, List.drop_drop]
                rwa [e] at this
              · cases hf
          obtain ⟨xs, h1, h2, _⟩ := key fs.toList 0 _ ys hp (by omega) hys
          refine ⟨xs, ?_, by simp only [shapeOf, hu]; exact h2⟩
          have e : (cs.drop 0).take (P.cellsOf t - 0) = cs := by simp [← hlen]
          rwa [e] at h1
        · cases h
theorem rep_start (w : World) (_q : Lab) : Rep (fun _ => none) (fun _ => none) (immOf w) w := ⟨(fun l o h => by cases h), (fun l l' o o' L L' h => by cases h), (fun l o L h => by cases h), fun b O h => h⟩
/-- whatever a law makes leaves what was there -/
theorem below_of_fut {w w' : World} {ρ' : Locs} {R' : Imm} {W : Lab → Prop} (h : Fut (fun _ => none) (fun _ => none) (immOf w) w W ρ' R' w') : Go.RowKit.Below w.heap.size w w' :=
  ⟨h.os, h.tape, h.output, h.size, fun k hk => h.frame k hk (fun k o K h => (by cases h))⟩
/-- a value of its cells -/
theorem agg_of_cells {xs : List AV} {v : Value} (h : RepL ρ (immOf w) xs v.cells.toList) (ha : ∃ cs, v = .agg cs) : RepV ρ (immOf w) (.agg xs) v := by
  obtain ⟨cs, rfl⟩ := ha
  have := h.agg
  simpa [Value.cells] using this
end
end Go.Proofs.Ytbngfbpegdcpkaa
