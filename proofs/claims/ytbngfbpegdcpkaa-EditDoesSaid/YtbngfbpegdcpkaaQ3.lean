/- Texts of the proof, joined. -/
import Derived.Test.YtbngfbpegdcpkaaQ2
import GoSem.ClaimChange
import Derived.Carry
import Derived.Test.YtbngfbpegdcpkaaRows
import Derived.ProofKit
import Derived.OpenShut
import Derived.ChangeSame
import Derived.Test.YtbngfbpegdcpkaaProg
import Derived.KernelRfl
import Derived.Shelf.RegionOpenPlain
import Derived.WalkKit
import Derived.Lib.Walk
import Derived.Lib.SliceRun
import Derived.Lib.JoinLaws
import Derived.Lib.Overlaps
import Derived.Lib.AppendZerosOnto
import Derived.Laws.Externs
import Derived.Laws.IdiomCopy
import Derived.Shelf.Spec.SlicesInsert
/-! The abstract machine: a law's arguments in its terms. -/
namespace Go.Proofs.Ytbngfbpegdcpkaa
set_option linter.unusedVariables false
set_option linter.unusedSimpArgs false

def vM (P : Program) (g : TypeId → Bool) : List Field → Nat → Option Nat
  | [], off => some off
  | f :: fs, off => if f.offset = off ∧ g f.type = true then vM P g fs (off + P.cellsOf f.type) else none
/-- types of plain data: numbers, texts, slices and structs of them -/
def nN (P : Program) : Nat → TypeId → Bool
  | 0, _ => false
  | n + 1, t => match P.underlying t with
    | some .bool | some (.int _) | some .string => P.cellsOf t == 1
    | some (.slice e) => P.cellsOf t == 1 && decide (0 < P.cellsOf e) && nN P n e
    | some (.struct fs) => vM P (nN P n) fs.toList 0 == some (P.cellsOf t)
    | _ => false
def q5 (P : Program) (g : TypeId → List AV → Prop) : List Field → List AV → Prop
  | [], xs => xs = []
  | f :: fs, xs => ∃ a b, xs = a ++ b ∧ a.length = P.cellsOf f.type ∧ g f.type a ∧ q5 P g fs b
/-- what a datum of a type is, cell by cell -/
def a9 (P : Program) : Nat → TypeId → List AV → Prop
  | 0, _, _ => False
  | n + 1, t, xs => match P.underlying t with
    | some .bool => ∃ b, xs = [.bool b]
    | some (.int k) => ∃ i, xs = [.int k i] ∧ k.min ≤ i ∧ i ≤ k.max
    | some .string => ∃ s, xs = [.str s] ∧ s.size ≤ maxLen
    | some (.slice e) => ∃ rows, xs = [.isl (P.cellsOf e) rows] ∧ rows.length ≤ maxLen ∧ ∀ r ∈ rows, a9 P n e r
    | some (.struct fs) => q5 P (a9 P n) fs.toList xs
    | _ => False
def sX (w : World) : Imm := fun b => w.heap[b]?
section
variable {P : Program} {H : Type} {enc : TypeId × Value → H} {w : World} {ρ : bF}
theorem BU : ∀ {n : Nat} {t : TypeId} {xs : List AV}, nN P n t = true → a9 P n t xs → xs.length = P.cellsOf t ∧ ∀ x ∈ xs, x.one = true
  | 0, _, _, h, _ => by simp [nN] at h
  | n + 1, t, xs, h, hs => by
    simp only [nN] at h
    simp only [a9] at hs
    cases hu : P.underlying t with
    | none => simp [hu] at h
    | some d =>
      cases d <;> simp only [hu] at h hs <;> try (cases h; done)
      · obtain ⟨b, rfl⟩ := hs; simp at h; simp [h, AV.one]
      · obtain ⟨b, rfl, _⟩ := hs; simp at h; simp [h, AV.one]
      · obtain ⟨b, rfl, _⟩ := hs; simp at h; simp [h, AV.one]
      · simp only [Bool.and_eq_true, beq_iff_eq] at h
        obtain ⟨rows, rfl, _⟩ := hs
        simp [h.1.1, AV.one]
      · rename_i fs
        simp only [beq_iff_eq] at h
        have key : ∀ (fs : List Field) (off tot : Nat) (xs : List AV), vM P (nN P n) fs off = some tot → q5 P (a9 P n) fs xs → off + xs.length = tot ∧ ∀ x ∈ xs, x.one = true := by
          intro fs
          induction fs with
          | nil => intro off tot xs h hs; simp only [vM, Option.some.injEq] at h; simp only [q5] at hs; subst hs; simp [h]
          | cons f fs ih =>
            intro off tot xs h hs
            simp only [vM] at h
            split at h
            · rename_i hc
              obtain ⟨a, b, rfl, hl, ha, hb⟩ := hs
              obtain ⟨h1, h2⟩ := ih _ _ _ h hb
              obtain ⟨_, h3⟩ := BU hc.2 ha
              refine ⟨by simp; omega, fun x hx => ?_⟩
              rcases List.mem_append.1 hx with hx | hx
              · exact h3 x hx
              · exact h2 x hx
            · cases h
        obtain ⟨h1, h2⟩ := key _ _ _ _ h hs
        exact ⟨by omega, h2⟩
theorem FC {α β : Type} {f : α → Option β} : ∀ {l : List α} {ys : List β}, l.mapM f = some ys → ys.length = l.length ∧ ∀ (i : Nat) a, l[i]? = some a → ∃ y, ys[i]? = some y ∧ f a = some y
  | [], ys, h => by simp at h; subst h; exact ⟨rfl, fun i a h => by simp at h⟩
  | x :: l, ys, h => by
    rw [List.mapM_cons] at h
    simp only [Option.bind_eq_bind, Option.bind_eq_some_iff, Option.pure_def, Option.some.injEq] at h
    obtain ⟨y, hy, zs, hzs, rfl⟩ := h
    obtain ⟨h1, h2⟩ := FC hzs
    refine ⟨by simp [h1], fun i a ha => ?_⟩
    cases i with
    | zero => simp at ha; subst ha; exact ⟨y, rfl, hy⟩
    | succ i => exact h2 i a (by simpa using ha)
theorem cells_some {base n : Nat} {a : Addr} {us : List Value} (h : w.cells? base a n = some us) : us.length = n ∧ ∀ k, k < n → us[k]? = w.cell? (a.add k) := by
  unfold World.cells? at h
  split at h
  · obtain ⟨h1, h2⟩ := FC h
    simp only [List.length_range] at h1
    refine ⟨h1, fun k hk => ?_⟩
    obtain ⟨y, hy, hc⟩ := h2 k k (by rw [List.getElem?_range hk])
    rw [hy, hc]
  · cases h
theorem kind_wf {k : IntKind} {n : Int} (h : (Lit.int k n).wf = true) : k.min ≤ n ∧ n ≤ k.max := by
  simpa [Lit.wf] using h
/-- what reads as data is of its type's shape -/
theorem DE {base : Nat} {sp : Nat → Bool} {held : Bool} : ∀ (n fuel : Nat) (t : TypeId) (cs : List Value) (x : DataW H × List MemPlace), nN P n t = true → DataW.trod enc P w base sp held fuel t cs = some x → ∃ xs, RepL ρ (sX w) xs cs ∧ a9 P n t xs
  | 0, _, _, _, _, h, _ => by simp [nN] at h
  | n + 1, 0, _, _, _, _, h => by simp [DataW.trod] at h
  | n + 1, fuel + 1, t, cs, x, hp, h => by
    simp only [nN] at hp
    cases hu : P.underlying t with
    | none => simp [hu] at hp
    | some d =>
      cases d <;> simp only [hu] at hp <;> try (cases hp; done)
      · -- bool
        match cs, h with
        | [], h => simp [DataW.trod, hu] at h
        | v :: u :: cs, h => simp [DataW.trod, hu] at h
        | [v], h =>
          cases v <;> simp [DataW.trod, hu] at h
          rename_i b
          exact ⟨[.bool b], .cons (.bool b) .nil, by simp [a9, hu]⟩
      · -- int
        rename_i k
        match cs, h with
        | [], h => simp [DataW.trod, hu] at h
        | v :: u :: cs, h => simp [DataW.trod, hu] at h
        | [v], h =>
          cases v <;> simp [DataW.trod, hu] at h
          rename_i k' i
          obtain ⟨⟨rfl, hw⟩, _⟩ := h
          exact ⟨[.int k' i], .cons (.int k' i) .nil, by simp only [a9, hu]; exact ⟨i, rfl, kind_wf hw⟩⟩
      · -- string
        match cs, h with
        | [], h => simp [DataW.trod, hu] at h
        | v :: u :: cs, h => simp [DataW.trod, hu] at h
        | [v], h =>
          cases v <;> simp [DataW.trod, hu] at h
          rename_i s
          exact ⟨[.str s], .cons (.str s) .nil, by simp only [a9, hu]; exact ⟨s, rfl, h.1⟩⟩
      · -- slice
        rename_i e
        simp only [Bool.and_eq_true, beq_iff_eq, decide_eq_true_eq] at hp
        obtain ⟨⟨_, hpos⟩, hpe⟩ := hp
        match cs, h with
        | [], h => simp [DataW.trod, hu] at h
        | v :: u :: cs, h => simp [DataW.trod, hu] at h
        | [v], h =>
          cases v <;> simp only [DataW.trod, hu] at h <;> try (cases h; done)
          rename_i A len cap
          cases A with
          | none =>
            cases len <;> cases cap <;> simp at h
            exact ⟨[.isl (P.cellsOf e) []], .cons (.isl0 none _ _ (fun _ => rfl)) .nil, by simp [a9, hu]⟩
          | some ad =>
            simp only at h
            split at h
            · rename_i hc
              simp only [Option.bind_eq_some_iff] at h
              obtain ⟨elems, hel, _⟩ := h
              obtain ⟨h1, h2⟩ := FC hel
              simp only [List.length_range] at h1
              -- each row by itself
              have hrow : ∀ i, i < len → ∃ us xs, us.length = P.cellsOf e ∧ (∀ k, k < P.cellsOf e → us[k]? = w.cell? ((ad.add (i * P.cellsOf e)).add k)) ∧ RepL ρ (sX w) xs us ∧ a9 P n e xs := by
                intro i hi
                obtain ⟨y, _, hy⟩ := h2 i i (by rw [List.getElem?_range hi])
                simp only [Option.bind_eq_some_iff] at hy
                obtain ⟨us, hus, hy⟩ := hy
                obtain ⟨g1, g2⟩ := cells_some hus
                obtain ⟨xs, g3, g4⟩ := DE n fuel e us y hpe hy
                exact ⟨us, xs, g1, g2, g3, g4⟩
              rcases Nat.eq_zero_or_pos len with rfl | hlen
              · exact ⟨[.isl (P.cellsOf e) []], .cons (.isl0 _ _ _ (fun h => by cases h)) .nil, by simp only [a9, hu]; exact ⟨[], rfl, Nat.zero_le _, by simp⟩⟩
              · have hch : ∀ i, ∃ xs : List AV, i < len → ∃ us : List Value, us.length = P.cellsOf e ∧ (∀ k, k < P.cellsOf e → us[k]? = w.cell? ((ad.add (i * P.cellsOf e)).add k)) ∧ RepL ρ (sX w) xs us ∧ a9 P n e xs := by
                  intro i
                  by_cases hi : i < len
                  · obtain ⟨us, xs, g⟩ := hrow i hi
                    exact ⟨xs, fun _ => ⟨us, g⟩⟩
                  · exact ⟨[], fun h => absurd h hi⟩
                obtain ⟨F, hF⟩ := Classical.axiomOfChoice hch
                -- the block
                obtain ⟨us0, g1, g2, _, _⟩ := hF 0 hlen
                have hc0 : ∃ v, w.cell? ad = some v := by
                  have := g2 0 hpos
                  rw [List.getElem?_eq_getElem (by omega)] at this
                  simp only [Nat.zero_mul, Addr.add, if_true] at this
                  exact ⟨_, this.symm⟩
                obtain ⟨v0, hv0⟩ := hc0
                have hspot : ad.spot = none := by
                  unfold World.cell? at hv0
                  split at hv0
                  · cases hq : ad.spot with
                    | none => rfl
                    | some _ => simp [hq] at hv0
                  · cases hv0
                obtain ⟨b, o', sp'⟩ := ad
                simp only at hspot; subst hspot
                have hblk : ∃ c T fz, w.heap[b]? = some (.cells c T fz) := by
                  unfold World.cell? at hv0
                  split at hv0
                  · rename_i c T fz hb; exact ⟨c, T, fz, hb⟩
                  · cases hv0
                obtain ⟨c, T, fz, hb⟩ := hblk
                refine ⟨[.isl (P.cellsOf e) ((List.range len).map F)], .cons ?_ .nil, ?_⟩
                · have hget : ∀ i j x, aQ ((List.range len).map F) i j = some x → i < len ∧ (F i)[j]? = some x := by
                    intro i j x hx
                    simp only [aQ, List.getElem?_map] at hx
                    by_cases hi : i < len
                    · rw [List.getElem?_range hi] at hx; exact ⟨hi, by simpa using hx⟩
                    · rw [List.getElem?_eq_none (by simp; omega)] at hx; simp at hx
                  have hcell : ∀ i j x, aQ ((List.range len).map F) i j = some x → ∃ v, c[o' + (i * P.cellsOf e + j)]? = some v ∧ RepV ρ (sX w) x v := by
                    intro i j x hx
                    obtain ⟨hi, hj⟩ := hget i j x hx
                    obtain ⟨us, k1, k2, k3, k4⟩ := hF i hi
                    obtain ⟨v, hv, hr⟩ := k3.2 j x hj
                    have hje : j < P.cellsOf e := by
                      have := (List.getElem?_eq_some_iff.1 hv).1
                      omega
                    have := k2 j hje
                    rw [hv, iT, iT, o9 hb] at this
                    exact ⟨v, by rw [← Nat.add_assoc]; exact this.symm, hr⟩
                  have := RepV.isl (ρ := ρ) (R := sX w) (P.cellsOf e) ((List.range len).map F) b o' cap c T fz (fun i j => c.getD (o' + (i * P.cellsOf e + j)) undef) (by simpa using hc.2.1) (fun r hr => ?_) hb (fun i j x hx => ?_) (fun i j x hx => ?_)
                  · simpa using this
                  · obtain ⟨i, hi, rfl⟩ := List.mem_map.1 hr
                    obtain ⟨us, k1, k2, k3, k4⟩ := hF i (by simpa using hi)
                    exact BU hpe k4
                  · obtain ⟨v, hv, _⟩ := hcell i j x hx
                    simp [Array.getD_eq_getD_getElem?, hv]
                  · obtain ⟨v, hv, hr⟩ := hcell i j x hx
                    simpa [Array.getD_eq_getD_getElem?, hv] using hr
                · simp only [a9, hu]
                  refine ⟨_, rfl, by simp; omega, fun r hr => ?_⟩
                  obtain ⟨i, hi, rfl⟩ := List.mem_map.1 hr
                  obtain ⟨us, k1, k2, k3, k4⟩ := hF i (by simpa using hi)
                  exact k4
            · cases h
      · -- struct
        rename_i fs
        simp only [beq_iff_eq] at hp
        simp only [DataW.trod, hu] at h
        split at h
        · rename_i hlen
          simp only [Option.map_eq_some_iff] at h
          obtain ⟨ys, hys, _⟩ := h
          have key : ∀ (fs : List Field) (off tot : Nat) (ys : List (DataW H × List MemPlace)), vM P (nN P n) fs off = some tot → tot ≤ cs.length → (fs.mapM fun f => DataW.trod enc P w base sp held fuel f.type ((cs.drop f.offset).take (P.cellsOf f.type))) = some ys →
              ∃ xs, RepL ρ (sX w) xs ((cs.drop off).take (tot - off)) ∧ q5 P (a9 P n) fs xs ∧ off ≤ tot := by
            intro fs
            induction fs with
            | nil =>
              intro off tot ys hf ht hm
              simp only [vM, Option.some.injEq] at hf
              subst hf
              exact ⟨[], by simpa using RepL.nil, by simp [q5], Nat.le_refl _⟩
            | cons f fs ih =>
              intro off tot ys hf ht hm
              simp only [vM] at hf
              split at hf
              · rename_i hc
                rw [List.mapM_cons] at hm
                simp only [Option.bind_eq_bind, Option.bind_eq_some_iff, Option.pure_def, Option.some.injEq] at hm
                obtain ⟨y, hy, zs, hzs, _⟩ := hm
                obtain ⟨xs2, h1, h2, h3⟩ := ih _ _ _ hf ht hzs
                rw [hc.1] at hy
                obtain ⟨xs1, h4, h5⟩ := DE n fuel f.type _ y hc.2 hy
                obtain ⟨h6, _⟩ := BU hc.2 h5
                refine ⟨xs1 ++ xs2, ?_, ⟨xs1, xs2, rfl, h6, h5, h2⟩, by omega⟩
                have := h4.append h1
                have e : (cs.drop off).take (P.cellsOf f.type) ++ (cs.drop (off + P.cellsOf f.type)).take (tot - (off + P.cellsOf f.type)) = (cs.drop off).take (tot - off) := by
                  rw [show tot - off = P.cellsOf f.type + (tot - (off + P.cellsOf f.type)) by omega, List.take_add, List.drop_drop]
                rwa [e] at this
              · cases hf
          obtain ⟨xs, h1, h2, _⟩ := key fs.toList 0 _ ys hp (by omega) hys
          refine ⟨xs, ?_, by simp only [a9, hu]; exact h2⟩
          have e : (cs.drop 0).take (P.cellsOf t - 0) = cs := by simp [← hlen]
          rwa [e] at h1
        · cases h
theorem E7 (w : World) (_q : Lab) : Rep (fun _ => none) (fun _ => none) (sX w) w := ⟨(fun l o h => by cases h), (fun l l' o o' L L' h => by cases h), (fun l o L h => by cases h), fun b O h => h⟩
/-- whatever a law makes leaves what was there -/
theorem yI {w w' : World} {ρ' : bF} {R' : Imm} {W : Lab → Prop} (h : Fut (fun _ => none) (fun _ => none) (sX w) w W ρ' R' w') : Go.RowKit.Below w.heap.size w w' :=
  ⟨h.os, h.tape, h.output, h.size, fun k hk => h.frame k hk (fun k o K h => (by cases h))⟩
/-- a value of its cells -/
theorem agg_of_cells {xs : List AV} {v : Value} (h : RepL ρ (sX w) xs v.cells.toList) (ha : ∃ cs, v = .agg cs) : RepV ρ (sX w) (.agg xs) v := by
  obtain ⟨cs, rfl⟩ := ha
  have := h.agg
  simpa [Value.cells] using this
end
end Go.Proofs.Ytbngfbpegdcpkaa
/-! A law's shell: from the abstract machine's run to the given statement. -/
namespace Go.Proofs.Ytbngfbpegdcpkaa
set_option linter.unusedVariables false
set_option linter.unusedSimpArgs false
open Go.ChangeShapes Go.WideShapes Go.ChangeAt Go.RowKit
theorem Try.laidOut : laidOutB Try.prog = true := by kernel_rfl
theorem Try.mixed : Try.prog.follows .mixedOrders = true := by kernel_rfl
theorem Try.ownKnob : ownKnob Try.prog.godebug = none := by kernel_rfl
section
variable {H : Type} {enc : TypeId × Value → H} {P : Program}
/-- a law's end, where below the heap's old size nothing has turned -/
theorem ML {f : Func} {s : ChangeSpec} {apart fresh handsOn again : Bool} {W W' : World} {args : Array Value} {v : Value} {ds gs : List (DataW H)} {before : List MemPlace}
    (hW : DataW.Whole enc P f.params.toList s.vars apart W args.toList ds gs before)
    (hres : ∀ (b : Nat) (sp : Nat → Bool) (hd : Bool), DataW.TrodAll enc P W' b sp hd f.resultTypes.toList (v.resultList f.resultTypes.size) (s.fn H (ds ++ gs)).results [])
    (hargs : ∀ sp : Nat → Bool, (∀ p ∈ before, sp p.block = true) → DataW.TrodAll enc P W' 0 sp true f.params.toList args.toList (s.fn H (ds ++ gs)).args before)
    (hvars : ∀ sp : Nat → Bool, DataW.TrodVars enc P W' sp s.vars (s.fn H (ds ++ gs)).vars [])
    (hb : Below W.heap.size W W')
    (hok : ∀ (j : Nat) (t : TypeId) (r : Value), f.resultTypes[j]? = some t → (v.resultList f.resultTypes.size)[j]? = some r → Value.okWide P W' .any 0 t r) :
    s.post enc P f apart fresh handsOn again W args v W' := by
  have hlt : ∀ p ∈ before, p.block < W.heap.size := fun p hp => hW.lt p hp
  have hold : ∀ p ∈ before, (fun b => decide (b < W.heap.size)) p.block = true := fun p hp => by simpa using hlt p hp
  refine ⟨ds, gs, before, [], before, [], hW, hres _ _ _, hargs _ hold, hvars _, World.keptBut_mono (fun p hp => ⟨hp, .inr (.inl hp)⟩) (hb.frame (· ∈ before)), fun _ => ?_⟩
  obtain ⟨_, _, _, _, _, hz, hn⟩ := hW
  refine ⟨hok, _, _, ([] ++ before) ++ [], ⟨[] ++ before, [], trodAll_append (hargs _ (fun _ _ => rfl)) (hres _ _ _), hvars _, rfl, ?_, ?_⟩, ?_⟩
  · intro b off hp
    have hin : MemPlace.cell b off ∈ before := by simpa using hp
    rw [hb.frozen (hlt _ hin)]
    exact hz b off hin
  · intro ha
    simpa using hn ha
  · intro p hp _
    simpa using hp
end
/-- an argument's cells in the abstract machine's terms -/
theorem arg_shape {H : Type} {enc : TypeId × Value → H} {W : World} {t : TypeId} {v : Value} {d : DataW H} {ps : List MemPlace} (hp : nN Try.prog 8 t = true) (h : DataW.Trod enc Try.prog W 0 (fun _ => true) true t v d ps) :
    ∃ xs, RepL (fun _ => none) (sX W) xs v.cells.toList ∧ a9 Try.prog 8 t xs := by
  obtain ⟨fuel, h⟩ := h
  exact DE 8 fuel t _ _ hp h
/-- the law's call, out of its run -/
theorem law_calls {call : b9} (hcall : iS Try.prog call) {f : Nat} {A : AFun} (hA : FunOk Try.prog f A) {xs : List AV} (hlen : xs.length = A.np) {fuel : Nat} {os : List Bool} {asks : List (Nat × Bool)} {cons : List (Bool × Bool)} (h : OA call fuel A xs os asks = some (.bool true, cons)) (hc : ConsOk cons) {W : World} {vs : List Value} (hvs : RepL (fun _ => none) (sX W) xs vs) :
    Calls Try.prog f vs.toArray W fun e W' => e = .returned (.bool true) ∧ Below W.heap.size W W' := by
  have := B6 Try.mixed hcall hA hlen (law_awp h hc) hvs W (E7 W []) (fun l _ => rfl)
  refine Calls.mono this ?_
  rintro e W' ⟨v, rfl, x, u, ρ', R', ⟨rfl, rfl⟩, hF, hv, _⟩
  exact ⟨by rw [hv.bool_inv], yI hF⟩
end Go.Proofs.Ytbngfbpegdcpkaa
/-! A law's shell, 2: every argument at once; from a law's run to its contract. -/
namespace Go.Proofs.Ytbngfbpegdcpkaa
set_option linter.unusedVariables false
set_option linter.unusedSimpArgs false
open Go.ChangeShapes Go.WideShapes Go.ChangeAt Go.RowKit
set_option maxRecDepth 100000
/-- an argument of a type, out of its cells -/
def wY (P : Program) (t : TypeId) (xs : List AV) : AV := match P.underlying t with
  | some (.struct _) => .agg xs
  | _ => xs.headD .nilp
def FA (P : Program) : List TypeId → List AV → Prop
  | [], ys => ys = []
  | t :: ts, ys => ∃ xs zs, ys = wY P t xs :: zs ∧ a9 P 8 t xs ∧ FA P ts zs
section
variable {H : Type} {enc : TypeId × Value → H} {W W' : World}
theorem one_rep {t : TypeId} {v : Value} {d : DataW H} {ps : List MemPlace} {b : Nat} (hp : nN Try.prog 8 t = true) (hv : Value.okWide Try.prog W .any b t v) (h : DataW.Trod enc Try.prog W 0 (fun _ => true) true t v d ps) :
    ∃ xs, RepV (fun _ => none) (sX W) (wY Try.prog t xs) v ∧ a9 Try.prog 8 t xs := by
  obtain ⟨xs, h1, h2⟩ := arg_shape hp h
  refine ⟨xs, ?_, h2⟩
  have hlen := (BU hp h2).1
  unfold nN at hp
  cases hu : Try.prog.underlying t with
  | none => simp [hu] at hp
  | some u =>
    simp only [hu] at hp
    have one : ∀ {v : Value}, v.cells.toList = [v] → Try.prog.cellsOf t = 1 → RepL (fun _ => none) (sX W) xs v.cells.toList → RepV (fun _ => none) (sX W) (xs.headD .nilp) v := by
      intro v hc h3 h1
      rw [hc] at h1
      rw [h3] at hlen
      match xs, hlen with
      | [x], _ =>
        obtain ⟨w, hw, hr⟩ := h1.2 0 x rfl
        simp at hw
        subst hw
        exact hr
    cases u <;> simp only at hp <;> try (cases hp; done)
    all_goals simp only [wY, hu]
    · obtain ⟨b, rfl⟩ := okWide_bool hu hv
      exact one rfl (by simpa using hp) h1
    · obtain ⟨b, rfl⟩ := okWide_int hu hv
      exact one rfl (by simpa using hp) h1
    · obtain ⟨b, rfl⟩ := okWide_string hu hv
      exact one rfl (by simpa using hp) h1
    · obtain ⟨a, l, c, rfl⟩ := okWide_slice hu hv
      simp only [Bool.and_eq_true, beq_iff_eq] at hp
      exact one rfl hp.1.1 h1
    · obtain ⟨cs, rfl, _⟩ := okWide_struct hu hv
      exact agg_of_cells h1 ⟨_, rfl⟩
theorem IQ {b : Nat} : ∀ {ts : List TypeId} {vs : List Value} {ds : List (DataW H)} {ps : List MemPlace}, (∀ t ∈ ts, nN Try.prog 8 t = true) → (∀ (j : Nat) t v, ts[j]? = some t → vs[j]? = some v → Value.okWide Try.prog W .any b t v) →
    DataW.TrodAll enc Try.prog W 0 (fun _ => true) true ts vs ds ps → ∃ ys, RepL (fun _ => none) (sX W) ys vs ∧ FA Try.prog ts ys
  | [], vs, ds, ps, _, _, h => by
    obtain ⟨rfl, rfl, rfl⟩ := trodAll_nil h
    exact ⟨[], .nil, rfl⟩
  | t :: ts, vs, ds, ps, hp, hv, h => by
    obtain ⟨v, vs', d, ds', p, q, rfl, rfl, rfl, h1, h2⟩ := trodAll_cons h
    obtain ⟨xs, h3, h4⟩ := one_rep (hp t (by simp)) (hv 0 t v rfl rfl) h1
    obtain ⟨zs, h5, h6⟩ := IQ (fun t ht => hp t (by simp [ht])) (fun j t v ht hv' => hv (j + 1) t v (by simpa using ht) (by simpa using hv')) h2
    exact ⟨_, .cons h3 h5, xs, zs, rfl, h4, h6⟩
theorem HN {P : Program} : ∀ {ts : List TypeId} {ys : List AV}, FA P ts ys → ys.length = ts.length
  | [], ys, h => by cases h; rfl
  | t :: ts, ys, h => by
    obtain ⟨xs, zs, rfl, _, h⟩ := h
    simp [HN h]
theorem zK : ∀ {ts : List TypeId} {vs : List Value} {ds : List (DataW H)} {ps : List MemPlace}, DataW.TrodAll enc Try.prog W 0 (fun _ => true) true ts vs ds ps → ds.length = ts.length
  | [], vs, ds, ps, h => by
    obtain ⟨rfl, rfl, rfl⟩ := trodAll_nil h
    rfl
  | t :: ts, vs, ds, ps, h => by
    obtain ⟨v, vs', d, ds', p, q, rfl, rfl, rfl, h1, h2⟩ := trodAll_cons h
    simp [zK h2]
theorem wF {sp : Nat → Bool} : ∀ {ts : List TypeId} {vs : List Value} {ds : List (DataW H)} {ps : List MemPlace}, (∀ t ∈ ts, Try.prog.readableRec t = true ∧ t < Try.prog.types.size) → Below W.heap.size W W' → (∀ p ∈ ps, p.block < W.heap.size) → (∀ p ∈ ps, sp p.block = true) →
    DataW.TrodAll enc Try.prog W 0 (fun _ => true) true ts vs ds ps → DataW.TrodAll enc Try.prog W' 0 sp true ts vs ds ps
  | [], vs, ds, ps, _, _, _, _, h => by
    obtain ⟨rfl, rfl, rfl⟩ := trodAll_nil h
    exact trodAll_mk0
  | t :: ts, vs, ds, ps, ht, hb, hlt, hsp, h => by
    obtain ⟨v, vs', d, ds', p, q, rfl, rfl, rfl, h1, h2⟩ := trodAll_cons h
    exact ⟨p, q, Go.WideElems.Trod_stays Try.laidOut (ht t (by simp)).1 (ht t (by simp)).2 h1 (fun x hx => hb.same (hlt x (by simp [hx]))) (fun x hx => hsp x (by simp [hx])),
      wF (fun t h => ht t (by simp [h])) hb (fun x hx => hlt x (by simp [hx])) (fun x hx => hsp x (by simp [hx])) h2, rfl⟩
/-- a law that answers true, whatever data it is given -/
theorem law_contract {call : b9} (hcall : iS Try.prog call) {f : Nat} {fn : Func} {A : AFun} {s : ChangeSpec} (hA : FunOk Try.prog f A) (hres : fn.resultTypes = #[4]) (hvars : s.vars = []) (hnp : fn.params.toList.length = A.np)
    (hplain : fn.params.toList.all (fun t => nN Try.prog 8 t && Try.prog.readableRec t && decide (t < Try.prog.types.size)) = true)
    (hfn : ∀ ds : List (DataW H), ds.length = fn.params.toList.length → s.fn H ds = { results := [.lit (.bool true)], args := ds })
    (hlaw : ∀ ys, FA Try.prog fn.params.toList ys → awp call (fun _ => none) [] A.body (Z9 (fun _ => none) A.res (fun y u => y = .bool true ∧ u = [])) (m9 ys))
    (W : World) (base : Nat) (args : Array Value) (ds gs : List (DataW H)) (before : List MemPlace)
    (hval : ∀ (j : Nat) t v, fn.params[j]? = some t → args[j]? = some v → Value.okWide Try.prog W .any base t v)
    (hW : DataW.Whole enc Try.prog fn.params.toList s.vars false W args.toList ds gs before) :
    Calls Try.prog f args W fun e W' => ∃ v, e = .returned v ∧ s.post enc Try.prog fn false true false false W args v W' := by
  have hW' := hW
  have hlt : ∀ p ∈ before, p.block < W.heap.size := fun p hp => hW.lt p hp
  obtain ⟨p, q, hA0, hV, rfl, hfz, hnd⟩ := hW
  rw [hvars] at hV
  obtain ⟨rfl, rfl⟩ := trodVars_none hV
  have hpl : ∀ t ∈ fn.params.toList, nN Try.prog 8 t = true ∧ Try.prog.readableRec t = true ∧ t < Try.prog.types.size := by
    intro t ht
    have := List.all_eq_true.1 hplain t ht
    simp only [Bool.and_eq_true, decide_eq_true_eq] at this
    exact ⟨this.1.1, this.1.2, this.2⟩
  simp only [List.append_nil] at hW' hlt
  obtain ⟨ys, hr, ha⟩ := IQ (b := base) (fun t ht => (hpl t ht).1) (fun j t v ht hv => hval j t v (by simpa using ht) (by simpa using hv)) hA0
  have hd := zK hA0
  have := B6 Try.mixed hcall hA ((HN ha).trans hnp) (hlaw ys ha) hr W (E7 W []) (fun l _ => rfl)
  rw [Array.toArray_toList] at this
  refine Calls.mono this ?_
  rintro e W' ⟨v, rfl, x, u, ρ', R', ⟨rfl, rfl⟩, hF, hv, _⟩
  have hv' := hv.bool_inv
  subst hv'
  have hb := yI hF
  refine ⟨_, rfl, ML hW' ?_ ?_ ?_ hb ?_⟩
  · intro b sp hd'
    rw [hres, List.append_nil, hfn ds hd]
    exact trodAll_cons_mk (shut_bool Try.underlying4 _) trodAll_mk0
  · intro sp hsp
    rw [List.append_nil, hfn ds hd]
    exact wF (fun t ht => (hpl t ht).2) hb hlt hsp hA0
  · intro sp
    rw [hvars, List.append_nil, hfn ds hd]
    exact rfl
  · exact ok_one hres rfl (okWide_bool_mk Try.underlying4 _)
end
end Go.Proofs.Ytbngfbpegdcpkaa
/-! The abstract machine: what is one's own, lent to a function that only reckons; a run without arguments; a law's contract. -/
namespace Go.Proofs.Ytbngfbpegdcpkaa
set_option linter.unusedVariables false
set_option linter.unusedSimpArgs false
set_option maxRecDepth 100000
open Go.ChangeShapes Go.WideShapes Go.ChangeAt Go.RowKit
/-- plain values: of no memory -/
def AV.flat1 : AV → Bool
  | .bool _ | .int .. | .str _ | .nilp | .nils | .nilm | .nilf => true
  | _ => false
def AV.flat : AV → Bool
  | .tuple cs => cs.all AV.flat1
  | x => x.flat1
section
variable {ρ ρ' : bF} {R R' : Imm} {P : Program}
theorem KR {x : AV} {v : Value} (h : x.flat1 = true) (hv : RepV ρ R x v) : RepV ρ' R' x v := by
  cases hv <;> simp [AV.flat1] at h
  · exact .bool _
  · exact .int _ _
  · exact .str _
  · exact .nilp
  · exact .nils
  · exact .nilm
  · exact .nilf
theorem NJ {x : AV} {v : Value} (h : x.flat = true) (hv : RepV ρ R x v) : RepV ρ' R' x v := by
  by_cases h1 : x.flat1 = true
  · exact KR h1 hv
  · cases x <;> simp [AV.flat, AV.flat1] at h h1
    rename_i cs
    cases hv with
    | tuple _ C hC hc =>
      refine .tuple _ _ hC (fun i x hx => ?_)
      exact KR (h x (List.mem_of_getElem? hx)) (hc i x hx)
/-- a call that makes nothing that is kept -/
theorem lend_does {f : Nat} {xs xs' : List AV} {y : AV} {H : aB} {q : Lab} (h : lV P f xs' y) (hy : y.flat = true) (hfr : ∀ w vs, Rep H ρ R w → RepL ρ R xs vs → RepL ρ (frozenR (fun l => H l ≠ none) ρ R w) xs' vs) {vs : List Value} (hvs : RepL ρ R xs vs) : Does (sA P f vs.toArray) H [] (Under q) ρ R y := by
  intro w hR hfree
  have hext : Ext ρ ρ R (frozenR (fun l => H l ≠ none) ρ R w) := rR (fun l L hz hL => by
    obtain ⟨o, ho⟩ := Option.ne_none_iff_exists'.1 hz
    exact .inl (hR.dis l o L ho hL))
  have hR0 : Rep (fun _ => none) ρ (frozenR (fun l => H l ≠ none) ρ R w) w := tS hR (fun l o h => by cases h) hext (fun l hz L _ => hz)
  have := (h (fun _ => none) q).2.2 ρ _ vs (hfr w vs hR hvs) w (by simpa [restr] using hR0) hfree
  refine Calls.mono this ?_
  rintro e w' ⟨v, rfl, ρ', R', hF, hv, hR'⟩
  refine ⟨v, rfl, ρ, R, ⟨.refl _ _, fun l L h => .inl h, fun b O h => .inl h, hF.os, hF.tape, hF.output, hF.size, fun b hb _ => hF.frame b hb (fun k o K hk => by simp [restr] at hk)⟩, NJ hy hv, ?_⟩
  have same : ∀ b, b < w.heap.size → w'.heap[b]? = w.heap[b]? := fun b hb => hF.frame b hb (fun k o K hk => by simp [restr] at hk)
  refine ⟨fun l o hl => ?_, hR.sep, hR.dis, fun b O hb => ?_⟩
  · obtain ⟨L, O, h1, h2, h3⟩ := hR.own l o hl
    exact ⟨L, O, h1, by rw [same _ (Array.getElem?_eq_some_iff.1 h2).1]; exact h2, h3⟩
  · have := hR.imm b O hb
    rw [same _ (Array.getElem?_eq_some_iff.1 this).1]; exact this
inductive FrL (H : aB) : List AV → List AV → Prop
  | nil : FrL H [] []
  | cons {x y : AV} {xs ys : List AV} : Fr (fun l => H l ≠ none) H x y → FrL H xs ys → FrL H (x :: xs) (y :: ys)
theorem FrL.rep {H : aB} {w : World} (hR : Rep H ρ R w) : ∀ {xs ys : List AV} {vs : List Value}, FrL H xs ys → RepL ρ R xs vs → RepL ρ (frozenR (fun l => H l ≠ none) ρ R w) ys vs
  | [], _, vs, .nil, h => by
    have := h.nil_inv; subst this; exact .nil
  | x :: xs, _, vs, .cons h hs, hv => by
    obtain ⟨v, us, rfl, h1, h2⟩ := hv.head
    have hext : Ext ρ ρ R (frozenR (fun l => H l ≠ none) ρ R w) := rR (fun l L hz hL => by
      obtain ⟨o, ho⟩ := Option.ne_none_iff_exists'.1 hz
      exact .inl (hR.dis l o L ho hL))
    exact .cons (II hR hext h h1) (FrL.rep hR hs h2)
theorem oT {s : Bool} {f : Nat} {xs xs' : List AV} {y : AV} {H : aB} {q : Lab} {KK : KF} (h : lV P f xs' y) (hy : y.flat = true) (hfr : FrL H xs xs') (hk : KK y H [] none) : aN s P f xs H q KK :=
  Or.inl ⟨⟨y, [], none⟩, ⟨(h H q).1, fun l hl => absurd hl (aS l), fun ρ R vs hvs => lend_does h hy (fun w vs hR hv => hfr.rep hR hv) hvs⟩, hk⟩
/-- what a run without arguments yields -/
theorem pure_run {call : b9} (hcall : iS P call) {f : Nat} {x : AV} (hx : x.flat = true) (h : (call f [] (fun _ => none) []).map (·.x) = some x) : lV P f [] x := by
  intro H q
  simp only [Option.map_eq_some_iff] at h
  obtain ⟨⟨y, u, foot⟩, h1, rfl⟩ := h
  obtain ⟨hc, _, hd⟩ := hcall f [] _ [] _ h1
  refine ⟨hc, fun l hl => absurd hl (aS l), fun ρ R vs hvs w hR hfree => ?_⟩
  have := hvs.nil_inv; subst this
  rw [rN] at hR ⊢
  have e : restr (fun _ => (none : Option AO)) foot = fun _ => none := by cases foot <;> funext l <;> simp [restr]
  have hR0 : Rep (fun _ => none) (fun _ => none) R w := ⟨fun l o h => (by cases h), fun l l' o o' L L' h => (by cases h), fun l o L h => (by cases h), hR.imm⟩
  refine Calls.mono (hd (fun _ => none) R [] .nil w (by rw [e]; exact hR0) (fun l _ => rfl)) ?_
  rintro e' w' ⟨v, rfl, ρ', R', hF, hv, hR'⟩
  have same : ∀ b, b < w.heap.size → w'.heap[b]? = w.heap[b]? := fun b hb => hF.frame b hb (fun k o K hk => by rw [e] at hk; cases hk)
  exact ⟨v, rfl, ρ, R, ⟨.refl _ _, fun l L h => .inl h, fun b O h => .inl h, hF.os, hF.tape, hF.output, hF.size, fun b hb _ => same b hb⟩, NJ hx hv,
    ⟨fun l o h => (by simp [upd] at h), fun l l' o o' L L' h => (by simp [upd] at h), fun l o L h => (by simp [upd] at h), fun b O hb => by
      have := hR.imm b O hb
      rw [same _ (Array.getElem?_eq_some_iff.1 this).1]; exact this⟩⟩
end
section
variable {H : Type} {enc : TypeId × Value → H}
/-- a law that answers true, whatever data it is given: by its contract -/
theorem law_pure {f : Nat} {fn : Func} {A : AFun} {s : ChangeSpec} (hA : FunOk Try.prog f A) (hres : fn.resultTypes = #[4]) (hvars : s.vars = []) (hnp : fn.params.toList.length = A.np)
    (hplain : fn.params.toList.all (fun t => nN Try.prog 8 t && Try.prog.readableRec t && decide (t < Try.prog.types.size)) = true)
    (hfn : ∀ ds : List (DataW H), ds.length = fn.params.toList.length → s.fn H ds = { results := [.lit (.bool true)], args := ds })
    (hlaw : ∀ ys, FA Try.prog fn.params.toList ys → lV Try.prog f ys (.bool true))
    (W : World) (base : Nat) (args : Array Value) (ds gs : List (DataW H)) (before : List MemPlace)
    (hval : ∀ (j : Nat) t v, fn.params[j]? = some t → args[j]? = some v → Value.okWide Try.prog W .any base t v)
    (hW : DataW.Whole enc Try.prog fn.params.toList s.vars false W args.toList ds gs before) :
    Calls Try.prog f args W fun e W' => ∃ v, e = .returned v ∧ s.post enc Try.prog fn false true false false W args v W' := by
  have hW' := hW
  have hlt : ∀ p ∈ before, p.block < W.heap.size := fun p hp => hW.lt p hp
  obtain ⟨p, q, hA0, hV, rfl, hfz, hnd⟩ := hW
  rw [hvars] at hV
  obtain ⟨rfl, rfl⟩ := trodVars_none hV
  have hpl : ∀ t ∈ fn.params.toList, nN Try.prog 8 t = true ∧ Try.prog.readableRec t = true ∧ t < Try.prog.types.size := by
    intro t ht
    have := List.all_eq_true.1 hplain t ht
    simp only [Bool.and_eq_true, decide_eq_true_eq] at this
    exact ⟨this.1.1, this.1.2, this.2⟩
  simp only [List.append_nil] at hW' hlt
  obtain ⟨ys, hr, ha⟩ := IQ (b := base) (fun t ht => (hpl t ht).1) (fun j t v ht hv => hval j t v (by simpa using ht) (by simpa using hv)) hA0
  have hd := zK hA0
  have := (hlaw ys ha (fun _ => none) []).2.2 _ _ _ hr W (by rw [rN]; exact E7 W []) (fun l _ => rfl)
  rw [Array.toArray_toList] at this
  refine Calls.mono this ?_
  rintro e W' ⟨v, rfl, ρ', R', hF, hv, _⟩
  have hv' := hv.bool_inv
  subst hv'
  rw [rN] at hF
  have hb := yI hF
  refine ⟨_, rfl, ML hW' ?_ ?_ ?_ hb ?_⟩
  · intro b sp hd'
    rw [hres, List.append_nil, hfn ds hd]
    exact trodAll_cons_mk (shut_bool Try.underlying4 _) trodAll_mk0
  · intro sp hsp
    rw [List.append_nil, hfn ds hd]
    exact wF (fun t ht => (hpl t ht).2) hb hlt hsp hA0
  · intro sp
    rw [hvars, List.append_nil, hfn ds hd]
    exact rfl
  · exact ok_one hres rfl (okWide_bool_mk Try.underlying4 _)
end
end Go.Proofs.Ytbngfbpegdcpkaa
/-! The abstract machine: contracts of functions that read and change memory. -/
namespace Go.Proofs.Ytbngfbpegdcpkaa
set_option linter.unusedVariables false
set_option linter.unusedSimpArgs false
/-- a body's end: the result, frozen, and what is left of the heap; what the call has made and is not left is changed no more -/
def VR (H0 : aB) (res : List AResV) (y : AV) (u : Chg) : aA := fun e r H _ => (e = .normal ∨ e = .ret) ∧ ∃ x, j1 H r res = some x ∧ Fr (fun l => upd u H0 l = none ∧ H l ≠ none) H x y ∧ ∀ l o, upd u H0 l = some o → H l = some o
theorem nI {P : Program} (hm : P.follows .mixedOrders = true) {f : Nat} {A : AFun} (hA : FunOk P f A) {xs : List AV} (hlen : xs.length = A.np) {H : aB} {q : Lab} {y : AV} {u : Chg} {foot : Option (List Lab)} (hu : ∀ l, u.has l → restr H foot l ≠ none ∨ Under q l)
    (h : vc P q A.body (VR (restr H foot) A.res y u) (params 0 xs) (restr H foot) 0) : aZ P f xs H q ⟨y, u, foot⟩ := by
  refine xV (Z := fun l => upd u (restr H foot) l = none) hm hA hlen hu ?_
  refine oB (fun e s he => ?_) (GX (ov := []) (H0 := restr H foot) h)
  obtain ⟨he, x, hx, hf, hl⟩ := he
  exact ⟨he, x, hx, hf, fun l o hlo => ⟨(fun hn => by rw [hn.1] at hlo; cases hlo), hl l o hlo⟩⟩
theorem has_cons {l k : Lab} {o : Option AO} {u : Chg} : Chg.has ((l, o) :: u) k ↔ k = l ∨ Chg.has u k := by
  constructor
  · rintro ⟨p, hp, rfl⟩
    rcases List.mem_cons.1 hp with rfl | hp
    · exact .inl rfl
    · exact .inr ⟨p, hp, rfl⟩
  · rintro (rfl | ⟨p, hp, rfl⟩)
    · exact ⟨(k, o), by simp, rfl⟩
    · exact ⟨p, by simp [hp], rfl⟩
section
variable {P : Program} {H : aB} {p q : Lab} {KK : KF}
theorem cB {s : Bool} {f : Nat} {xs : List AV} {y : AV} {u : Chg} {foot : Option (List Lab)} (h : aZ P f xs H q ⟨y, u, foot⟩) (hk : KK y (upd u H) (u.map (·.1)) foot) : aN s P f xs H q KK := Or.inl ⟨_, h, hk⟩
/-- behind a call the labels to come are free -/
theorem Fresh.after {c : Nat} {f : Nat} {xs : List AV} {r : Res} (h : Fresh p c H) (hr : aZ P f xs H (c :: p) r) : Fresh p (c + 1) (Ytbngfbpegdcpkaa.upd r.u H) := fun k s hk => by
  by_cases hh : r.u.has (s ++ k :: p)
  · rcases hr.2.1 _ hh with h1 | ⟨t, ht⟩
    · have := h k s (by omega)
      cases hf : r.foot with
      | none => rw [hf] at h1; exact absurd this h1
      | some ls => rw [hf] at h1; simp only [restr] at h1; split at h1 <;> first | exact absurd this h1 | exact absurd rfl h1
    · exfalso
      have := qI (i := k) (j := c) (p := p) (l := s ++ k :: p) ⟨s, rfl⟩ ⟨t, ht⟩
      omega
  · rw [bQ hh]; exact h k s (by omega)
theorem nS {ls : List Lab} {l : Lab} (h : l ∈ ls) : restr H (some ls) l = H l := by simp [restr, h]
theorem tQ {ls : List Lab} {l : Lab} {o : AO} (h : restr H (some ls) l = some o) : l ∈ ls ∧ H l = some o := by
  simp only [restr] at h
  split at h
  · exact ⟨by assumption, h⟩
  · cases h
theorem Fresh.restr {c : Nat} {f : Option (List Lab)} (h : Fresh p c H) : Fresh p c (restr H f) := fun k s hk => by
  cases f with
  | none => exact h k s hk
  | some ls =>
    simp only [Ytbngfbpegdcpkaa.restr]
    split
    · exact h k s hk
    · rfl
/-! results that lie in memory -/
theorem N9 {l : Lab} {r : List AV} {e : Nat} {q' : Lab} (hl : H l = some (.rows e [r])) : oW r.length true (.ptr l e 0 0) H q' = some ⟨.agg r, [], some [l]⟩ := by
  simp [oW, hl, AO.cells, cT]
theorem Z3 {t c n e : Nat} {l : Lab} {r : List AV} {y : AV} (hl : H l = some (.rows e [r])) (hn : r.length = n) (hf : Fr (fun l => H l ≠ none) H (.agg r) y) : VP [.cell t n true] y .ret [(t, .ptr l e 0 0)] H c := by
  subst hn
  exact ⟨.inr rfl, .agg r, by simp [j1, iV, nA, bE, N9 hl], hf⟩
theorem aRes_c1 {t n e : Nat} {l : Lab} {r : List AV} (hl : H l = some (.rows e [r])) (hn : r.length = n) : j1 H [(t, .ptr l e 0 0)] [.cell t n true] = some (.agg r) := by
  subst hn
  simp [j1, iV, nA, bE, N9 hl]
theorem LU {t n e u : Nat} {l : Lab} {r : List AV} {x : AV} (hl : H l = some (.rows e [r])) (hn : r.length = n) (hu : u ≠ t) : j1 H [(t, .ptr l e 0 0), (u, x)] [.cell t n true, .tmp u] = some (.tuple [.agg r, x]) := by
  subst hn
  simp [j1, iV, nA, bE, N9 hl, hu]
inductive FrLs (Z : Lab → Prop) (H : aB) : List AV → List AV → Prop
  | nil : FrLs Z H [] []
  | cons {x y : AV} {xs ys : List AV} : Fr Z H x y → FrLs Z H xs ys → FrLs Z H (x :: xs) (y :: ys)
theorem FrLs.same {Z : Lab → Prop} {H : aB} : ∀ {xs : List AV}, FrLs Z H xs xs
  | [] => .nil
  | _ :: _ => .cons (.refl _) .same
theorem FrLs.get {Z : Lab → Prop} {H : aB} : ∀ {xs ys : List AV}, FrLs Z H xs ys → xs.length = ys.length ∧ ∀ (i : Nat) d, ys[i]? = some d → Fr Z H (xs.getD i .nilf) d ∧ xs[i]? = some (xs.getD i .nilf)
  | [], _, .nil => ⟨rfl, fun i d h => by simp at h⟩
  | x :: xs, _, .cons h hs => by
    obtain ⟨h1, h2⟩ := hs.get
    refine ⟨by simp [h1], fun i d hd => ?_⟩
    cases i with
    | zero => simp at hd; subst hd; exact ⟨by simpa using h, by simp⟩
    | succ i => simpa using h2 i d (by simpa using hd)
theorem FrLs.agg {Z : Lab → Prop} {H : aB} {xs ys : List AV} (h : FrLs Z H xs ys) : Fr Z H (.agg xs) (.agg ys) := .agg _ _ h.get.1 (fun i => xs.getD i .nilf) (fun i d hd => (h.get.2 i d hd).2) (fun i d hd => (h.get.2 i d hd).1)
theorem FrLs.tuple {Z : Lab → Prop} {H : aB} {xs ys : List AV} (h : FrLs Z H xs ys) : Fr Z H (.tuple xs) (.tuple ys) := .tuple _ _ h.get.1 (fun i => xs.getD i .nilf) (fun i d hd => (h.get.2 i d hd).2) (fun i d hd => (h.get.2 i d hd).1)
theorem Fr.rows {Z : Lab → Prop} {H : aB} {l : Lab} {e : Nat} {rows : List (List AV)} (hz : Z l) (hl : H l = some (.rows e rows)) (hr : ∀ r ∈ rows, sY e r) {n : Nat} (hn : rows.length = n) : Fr Z H (.sl l e 0 n) (.isl e rows) :=
  .own l e 0 n rows rows (fun i j => (aQ rows i j).getD .nilf) hz hl hn hr (fun i j x hx => by simp [hx]) (fun i j x hx => by simp [hx]; exact .refl _)
theorem Own.cells {x : AV} {e : Nat} {rows : List (List AV)} (h : Own H x e rows) : x.cells = [x] ∧ x.one = true := by
  rcases h with ⟨rfl, _⟩ | ⟨l, rfl, _⟩ <;> exact ⟨rfl, rfl⟩
/-- rows that came in, onto one's own -/
theorem app_isl {x : AV} {e b : Nat} {old rows : List (List AV)} (h : Own H x e old) (he : 0 < e) (h1 : (old.length + rows.length) * b ≤ 140737488355328) (h2 : old.length + rows.length ≤ 4611686018427387904) (hq : H q = none)
    (hk : ∀ x' H' l f, Own H' x' e (old ++ rows) → yM x H H' → KK x' H' l f) : aM (.append e b) [x, .isl e rows] H q KK := by
  cases rows with
  | nil =>
    refine ⟨.pure x, ?_, hk x H [] (some []) (by simpa using h) (fun k o hk _ => hk)⟩
    rcases h with ⟨rfl, rfl⟩ | ⟨l, rfl, hl⟩ <;> simp [aop, gI, lF]
  | cons r rows => exact app_own h (wT (H := H)) (by simp) he h1 h2 hq hk
/-- what reads the same without any change -/
theorem fr0_rep {H : aB} {ρ : bF} {R : Imm} {x y : AV} (h : Fr (fun _ => False) H x y) : ∀ {v : Value}, RepV ρ R x v → RepV ρ R y v := by
  induction h with
  | refl x => intro v hv; exact hv
  | own l e off n rs rows g hz => exact hz.elim
  | ptr l e i j rs rows g hz => exact hz.elim
  | nils e => intro v hv; cases hv; exact .isl0 _ _ _ (fun _ => rfl)
  | sl0 e => intro v hv; cases hv; exact .isl0 _ _ _ (fun _ => rfl)
  | agg cs ds hl g h1 h2 ih =>
    intro v hv
    cases hv with
    | agg _ C hC hc => exact .agg _ _ (by omega) (fun i d hd => ih i d hd (hc i _ (h1 i d hd)))
  | tuple cs ds hl g h1 h2 ih =>
    intro v hv
    cases hv with
    | tuple _ C hC hc => exact .tuple _ _ (by omega) (fun i d hd => ih i d hd (hc i _ (h1 i d hd)))
theorem KQ {H : aB} {ρ : bF} {R : Imm} : ∀ {xs ys : List AV} {vs : List Value}, FrLs (fun _ => False) H xs ys → RepL ρ R xs vs → RepL ρ R ys vs
  | [], _, vs, .nil, h => h
  | x :: xs, _, vs, .cons h hs, hv => by
    obtain ⟨v, us, rfl, h1, h2⟩ := hv.head
    exact .cons (fr0_rep h h1) (KQ hs h2)
/-- a function that only reckons, at arguments that read as those of its contract -/
theorem call_pure_w {s : Bool} {f : Nat} {xs xs' : List AV} {y : AV} (h : lV P f xs' y) (hw : FrLs (fun _ => False) (fun _ => none) xs xs') (hk : KK y H [] (some [])) : aN s P f xs H q KK :=
  Or.inl ⟨_, ⟨(h H q).1, (h H q).2.1, fun ρ R vs hvs => (h H q).2.2 ρ R vs (KQ hw hvs)⟩, hk⟩
end
end Go.Proofs.Ytbngfbpegdcpkaa
/-! Rewriting lemmas, in one. -/
namespace Go.Proofs.Ytbngfbpegdcpkaa
set_option linter.unusedVariables false
set_option linter.unusedSimpArgs false
set_option maxRecDepth 100000
set_option linter.unusedVariables false
theorem vsb : type_of% (And.intro (@XI) (And.intro (@XJ) (And.intro (@Q2) (And.intro (@Q3) (And.intro (@Q0) (And.intro (@Q1) (And.intro (@XA) (And.intro (@XB) (And.intro (@XC) (And.intro (@XD) (And.intro (@XF) (And.intro (@W8) (And.intro (@XH) (And.intro (@W6) (And.intro (@W7) (And.intro (@W9) (And.intro (@QV) (And.intro (@LX) (And.intro (@LY) (And.intro (@QY) (And.intro (@QX) (And.intro (@QW) (And.intro (@JE) (And.intro (@List.length_map.{0,0}) (And.intro (@G8) (And.intro (@EZ) (And.intro (@G7) (And.intro (@L4) (And.intro (@ON) (And.intro (@JB) (And.intro (@GZ) (And.intro (@L5) (And.intro (@JF) (And.intro (@WL) (And.intro (@WK) (And.intro (@QA) (And.intro (@P9) (And.intro (@P8) (And.intro (@NT) (And.intro (@G6) (And.intro (@JD) (And.intro (@rJ) (And.intro (@G9) (And.intro (@LZ) (And.intro (@PO) (And.intro (@PP) (And.intro (@JA) (And.intro (@OS) (And.intro (@aK) (And.intro (@FP) (And.intro (@a8) (And.intro (@XG) (And.intro (@XE) (And.intro (@NO) (And.intro (@WI) (And.intro (@L6) (And.intro (@JC) (And.intro (@L9) (And.intro (@MA) (And.intro (@JL) (And.intro (@JM) (And.intro (@Int.toNat_natCast) (And.intro (@aAm) (And.intro (@aAl) (And.intro (@Bool.not_true) (And.intro (@Bool.not_false) (And.intro (@Bool.false_eq_true) (And.intro (@decide_true) (And.intro (@decide_false) (And.intro (@D0) (And.intro (@CD) (And.intro (@NL) (And.intro (@KS) (And.intro (@List.length_cons.{0}) (And.intro (@List.length_nil.{0}) (And.intro (@List.take_succ_cons.{0}) (And.intro (@List.take_zero.{0}) (And.intro (@List.take_nil.{0}) (And.intro (@List.drop_succ_cons.{0}) (And.intro (@List.drop_zero.{0}) (And.intro (@List.drop_nil.{0}) (And.intro (@List.cons_append.{0}) (And.intro (@List.nil_append.{0}) (And.intro (@List.append_nil.{0}) (And.intro (@List.all_cons.{0}) (And.intro (@List.all_nil.{0}) (And.intro (@and_self) (And.intro (@and_true) (And.intro (@true_and) (And.intro (@Nat.zero_add) (And.intro (@ne_eq.{1}) (And.intro (@Nat.succ_ne_zero) (And.intro (@not_false_eq_true) (And.intro (@Bool.and_self) (@Nat.le_refl))))))))))))))))))))))))))))))))))))))))))))))))))))))))))))))))))))))))))))))))))))))))))))))) := And.intro (@XI) (And.intro (@XJ) (And.intro (@Q2) (And.intro (@Q3) (And.intro (@Q0) (And.intro (@Q1) (And.intro (@XA) (And.intro (@XB) (And.intro (@XC) (And.intro (@XD) (And.intro (@XF) (And.intro (@W8) (And.intro (@XH) (And.intro (@W6) (And.intro (@W7) (And.intro (@W9) (And.intro (@QV) (And.intro (@LX) (And.intro (@LY) (And.intro (@QY) (And.intro (@QX) (And.intro (@QW) (And.intro (@JE) (And.intro (@List.length_map.{0,0}) (And.intro (@G8) (And.intro (@EZ) (And.intro (@G7) (And.intro (@L4) (And.intro (@ON) (And.intro (@JB) (And.intro (@GZ) (And.intro (@L5) (And.intro (@JF) (And.intro (@WL) (And.intro (@WK) (And.intro (@QA) (And.intro (@P9) (And.intro (@P8) (And.intro (@NT) (And.intro (@G6) (And.intro (@JD) (And.intro (@rJ) (And.intro (@G9) (And.intro (@LZ) (And.intro (@PO) (And.intro (@PP) (And.intro (@JA) (And.intro (@OS) (And.intro (@aK) (And.intro (@FP) (And.intro (@a8) (And.intro (@XG) (And.intro (@XE) (And.intro (@NO) (And.intro (@WI) (And.intro (@L6) (And.intro (@JC) (And.intro (@L9) (And.intro (@MA) (And.intro (@JL) (And.intro (@JM) (And.intro (@Int.toNat_natCast) (And.intro (@aAm) (And.intro (@aAl) (And.intro (@Bool.not_true) (And.intro (@Bool.not_false) (And.intro (@Bool.false_eq_true) (And.intro (@decide_true) (And.intro (@decide_false) (And.intro (@D0) (And.intro (@CD) (And.intro (@NL) (And.intro (@KS) (And.intro (@List.length_cons.{0}) (And.intro (@List.length_nil.{0}) (And.intro (@List.take_succ_cons.{0}) (And.intro (@List.take_zero.{0}) (And.intro (@List.take_nil.{0}) (And.intro (@List.drop_succ_cons.{0}) (And.intro (@List.drop_zero.{0}) (And.intro (@List.drop_nil.{0}) (And.intro (@List.cons_append.{0}) (And.intro (@List.nil_append.{0}) (And.intro (@List.append_nil.{0}) (And.intro (@List.all_cons.{0}) (And.intro (@List.all_nil.{0}) (And.intro (@and_self) (And.intro (@and_true) (And.intro (@true_and) (And.intro (@Nat.zero_add) (And.intro (@ne_eq.{1}) (And.intro (@Nat.succ_ne_zero) (And.intro (@not_false_eq_true) (And.intro (@Bool.and_self) (@Nat.le_refl))))))))))))))))))))))))))))))))))))))))))))))))))))))))))))))))))))))))))))))))))))))))))))))
end Go.Proofs.Ytbngfbpegdcpkaa
/-! What is owed of functions of the program, as formulas. -/
namespace Go.Proofs.Ytbngfbpegdcpkaa
set_option maxRecDepth 100000
set_option linter.unusedVariables false
set_option linter.unusedSimpArgs false
/-- duet/edit.ways$1 -/
def c41 : AFun := ⟨1, 6, [.cell 2 2 true],
  (.seq (.region [⟨(some 2), none, (.alloc [(.int .i64 0), (.int .i64 0)]), []⟩] none [0, 2])
  (.seq (.region [⟨(some 3), none, .move, [.t 0]⟩, ⟨(some 4), none, (.conv .i64), [.t 3]⟩, ⟨(some 5), none, (.build [(.int .i64 0), (.int .i64 0)] [(0, 1), (1, 1)]), [.c (.int .i64 2), .t 4]⟩, ⟨none, none, (.store 2), [.t 2, .t 5]⟩] none [2])
  .ret))⟩
theorem ok41 : FunOk Try.prog 41 c41 := ⟨⟨Try.f41, _, Try.func41, rfl, by kernel_rfl, by kernel_rfl, by kernel_rfl, by kernel_rfl⟩, by decide⟩
theorem res41 : c41.res = [.cell 2 2 true] := rfl
def YJ (P : Program) (p : Lab) (Q : aA) (c : Nat) (v4_2 : AV) (H2 : aB) (l2 : List Lab) (f2 : Option (List Lab)) : Prop :=
  gB [(.int .i64 0), (.int .i64 0)] [(0, 1), (1, 1)] [(.int .i64 2), v4_2] fun v5_3 =>
  aM (.store 2) [(.ptr (c :: p) 2 0 0), v5_3] H2 ((c + 4) :: p) (fun v_4 H4 l4 f4 =>
  Q .ret [(2, (.ptr (c :: p) 2 0 0))] H4 (c + 5))
def V41 (P : Program) (p : Lab) (Q : aA) (x0 : AV) (H : aB) (c : Nat) : Prop :=
  (fun (H0 : aB) =>
  aM (.conv .i64) [x0] H0 ((c + 2) :: p) (YJ P p Q c)) (upd [((c :: p), some (.rows 2 [[(.int .i64 0), (.int .i64 0)]]))] H)
theorem vt41 (P : Program) (p : Lab) (Q : aA) (x0 : AV) (H : aB) (c : Nat) : vc P p c41.body Q [(0, x0)] H c = V41 P p Q x0 H c := by kernel_rfl


/-- duet/edit.ways$2 -/
def c42 : AFun := ⟨1, 6, [.cell 2 2 true],
  (.seq (.region [⟨(some 2), none, (.alloc [(.int .i64 0), (.int .i64 0)]), []⟩] none [0, 2])
  (.seq (.region [⟨(some 3), none, .move, [.t 0]⟩, ⟨(some 4), none, (.conv .i64), [.t 3]⟩, ⟨(some 5), none, (.build [(.int .i64 0), (.int .i64 0)] [(0, 1), (1, 1)]), [.c (.int .i64 3), .t 4]⟩, ⟨none, none, (.store 2), [.t 2, .t 5]⟩] none [2])
  .ret))⟩
theorem ok42 : FunOk Try.prog 42 c42 := ⟨⟨Try.f42, _, Try.func42, rfl, by kernel_rfl, by kernel_rfl, by kernel_rfl, by kernel_rfl⟩, by decide⟩
theorem res42 : c42.res = [.cell 2 2 true] := rfl
def YI (P : Program) (p : Lab) (Q : aA) (c : Nat) (v4_2 : AV) (H2 : aB) (l2 : List Lab) (f2 : Option (List Lab)) : Prop :=
  gB [(.int .i64 0), (.int .i64 0)] [(0, 1), (1, 1)] [(.int .i64 3), v4_2] fun v5_3 =>
  aM (.store 2) [(.ptr (c :: p) 2 0 0), v5_3] H2 ((c + 4) :: p) (fun v_4 H4 l4 f4 =>
  Q .ret [(2, (.ptr (c :: p) 2 0 0))] H4 (c + 5))
def V42 (P : Program) (p : Lab) (Q : aA) (x0 : AV) (H : aB) (c : Nat) : Prop :=
  (fun (H0 : aB) =>
  aM (.conv .i64) [x0] H0 ((c + 2) :: p) (YI P p Q c)) (upd [((c :: p), some (.rows 2 [[(.int .i64 0), (.int .i64 0)]]))] H)
theorem vt42 (P : Program) (p : Lab) (Q : aA) (x0 : AV) (H : aB) (c : Nat) : vc P p c42.body Q [(0, x0)] H c = V42 P p Q x0 H c := by kernel_rfl


/-- duet/edit.held -/
def c26 : AFun := ⟨2, 10, [.tmp 4],
  (.seq (.region [⟨(some 4), none, .move, [.c (.int .i64 0)]⟩] none [0, 1])
  (.seq (.region [⟨(some 5), none, .move, [.t 1]⟩, ⟨(some 6), none, .max, [.t 5, .c (.int .i64 0)]⟩, ⟨(some 7), none, .move, [.t 0]⟩, ⟨(some 8), none, (.len .slice), [.t 7]⟩, ⟨(some 9), none, .min, [.t 6, .t 8]⟩, ⟨(some 4), none, .move, [.t 9]⟩] none [4])
  .ret))⟩
theorem ok26 : FunOk Try.prog 26 c26 := ⟨⟨Try.f26, _, Try.func26, rfl, by kernel_rfl, by kernel_rfl, by kernel_rfl, by kernel_rfl⟩, by decide⟩
theorem res26 : c26.res = [.tmp 4] := rfl
def V26 (P : Program) (p : Lab) (Q : aA) (x0 x1 : AV) (H : aB) (c : Nat) : Prop :=
  LG x1 (.int .i64 0) fun v6_2 =>
  cS x0 fun v8_4 =>
  I2 v6_2 v8_4 fun v9_5 =>
  Q .ret [(4, v9_5)] H (c + 7)
theorem vt26 (P : Program) (p : Lab) (Q : aA) (x0 x1 : AV) (H : aB) (c : Nat) : vc P p c26.body Q [(0, x0), (1, x1)] H c = V26 P p Q x0 x1 H c := by kernel_rfl


/-- duet/edit.isLetter -/
def c38 : AFun := ⟨1, 27, [.tmp 2],
  (.seq (.region [⟨(some 2), none, .move, [.c (.bool false)]⟩] none [0])
  (.seq (.region [⟨(some 3), none, .move, [.t 0]⟩, ⟨(some 4), none, (.bin .geq .num), [.t 3, .c (.int .i64 48)]⟩, ⟨(some 5), none, .move, [.t 4]⟩, ⟨(some 6), (some (5, true)), .move, [.t 0]⟩, ⟨(some 7), (some (5, true)), (.bin .leq .num), [.t 6, .c (.int .i64 57)]⟩, ⟨(some 8), none, .pick, [.t 5, .t 7, .c (.bool false)]⟩, ⟨(some 9), none, .move, [.t 8]⟩, ⟨(some 10), (some (9, false)), .move, [.t 0]⟩, ⟨(some 11), (some (9, false)), (.bin .or .num), [.t 10, .c (.int .i64 32)]⟩, ⟨(some 12), (some (9, false)), (.bin .geq .num), [.t 11, .c (.int .i64 97)]⟩, ⟨(some 13), (some (9, false)), .move, [.t 12]⟩, ⟨(some 14), (some (13, true)), .move, [.t 0]⟩, ⟨(some 15), (some (13, true)), (.bin .or .num), [.t 14, .c (.int .i64 32)]⟩, ⟨(some 16), (some (13, true)), (.bin .leq .num), [.t 15, .c (.int .i64 122)]⟩, ⟨(some 17), (some (9, false)), .pick, [.t 13, .t 16, .c (.bool false)]⟩, ⟨(some 18), none, .pick, [.t 9, .c (.bool true), .t 17]⟩, ⟨(some 19), none, .move, [.t 18]⟩, ⟨(some 20), (some (19, false)), .move, [.t 0]⟩, ⟨(some 21), (some (19, false)), (.bin .eql .num), [.t 20, .c (.int .i64 95)]⟩, ⟨(some 22), none, .pick, [.t 19, .c (.bool true), .t 21]⟩, ⟨(some 23), none, .move, [.t 22]⟩, ⟨(some 24), (some (23, false)), .move, [.t 0]⟩, ⟨(some 25), (some (23, false)), (.bin .gtr .num), [.t 24, .c (.int .i64 127)]⟩, ⟨(some 26), none, .pick, [.t 23, .c (.bool true), .t 25]⟩, ⟨(some 2), none, .move, [.t 26]⟩] none [2])
  .ret))⟩
theorem ok38 : FunOk Try.prog 38 c38 := ⟨⟨Try.f38, _, Try.func38, rfl, by kernel_rfl, by kernel_rfl, by kernel_rfl, by kernel_rfl⟩, by decide⟩
theorem res38 : c38.res = [.tmp 2] := rfl
def FR (P : Program) (p : Lab) (Q : aA)  (H : aB) (c : Nat) : Prop :=
  Q .ret [(2, (.bool true))] H c
def Y7 (P : Program) (p : Lab) (Q : aA) (y0 : AV) (H : aB) (c : Nat) : Prop :=
  (FR P p Q  H (c + 6))
def Y8 (P : Program) (p : Lab) (Q : aA) (y0 : AV) (H : aB) (c : Nat) : Prop :=
  (Y7 P p Q y0 H (c + 4))
def Y6 (P : Program) (p : Lab) (Q : aA) (y0 : AV) (H : aB) (c : Nat) (_ : Unit) : Prop :=
  (Y8 P p Q y0 H (c + 10))
def Y4 (P : Program) (p : Lab) (Q : aA) (y0 : AV) (H : aB) (c : Nat) : Prop :=
  (FR P p Q  H (c + 6))
def Y3 (P : Program) (p : Lab) (Q : aA) (y0 : AV) (H : aB) (c : Nat) (_ : Unit) : Prop :=
  (Y4 P p Q y0 H (c + 4))
def Y1 (P : Program) (p : Lab) (Q : aA) (H : aB) (c : Nat) (_ : Unit) : Prop :=
  (FR P p Q  H (c + 6))
def ID (P : Program) (p : Lab) (Q : aA) (y2 : AV) (H : aB) (c : Nat) : Prop :=
  Q .ret [(2, y2)] H c
def VT (P : Program) (p : Lab) (Q : aA) (y0 : AV) (H : aB) (c : Nat) (_ : Unit) : Prop :=
  aJ .gtr .num y0 (.int .i64 127) fun v25_35 =>
  (ID P p Q v25_35 H (c + 6))
def Y2 (P : Program) (p : Lab) (Q : aA) (y0 : AV) (y21 : AV) (H : aB) (c : Nat) : Prop :=
  aL y21
  (Y1 P p Q H c)
  (VT P p Q y0 H c)
def VS (P : Program) (p : Lab) (Q : aA) (y0 : AV) (H : aB) (c : Nat) (_ : Unit) : Prop :=
  aJ .eql .num y0 (.int .i64 95) fun v21_29 =>
  (Y2 P p Q y0 v21_29 H (c + 4))
def Y5 (P : Program) (p : Lab) (Q : aA) (y0 : AV) (y17 : AV) (H : aB) (c : Nat) : Prop :=
  aL y17
  (Y3 P p Q y0 H c)
  (VS P p Q y0 H c)
def VO (P : Program) (p : Lab) (Q : aA) (y0 : AV) (H : aB) (c : Nat) (_ : Unit) : Prop :=
  aJ .or .num y0 (.int .i64 32) fun v15_19 =>
  aJ .leq .num v15_19 (.int .i64 122) fun v16_20 =>
  (Y5 P p Q y0 v16_20 H (c + 10))
def VL (P : Program) (p : Lab) (Q : aA) (H : aB) (c : Nat) (_ : Unit) : Prop :=
  (FR P p Q  H (c + 6))
def VK (P : Program) (p : Lab) (Q : aA) (y0 : AV) (H : aB) (c : Nat) (_ : Unit) : Prop :=
  aJ .gtr .num y0 (.int .i64 127) fun v25_48 =>
  (ID P p Q v25_48 H (c + 6))
def VM (P : Program) (p : Lab) (Q : aA) (y0 : AV) (y21 : AV) (H : aB) (c : Nat) : Prop :=
  aL y21
  (VL P p Q H c)
  (VK P p Q y0 H c)
def VN (P : Program) (p : Lab) (Q : aA) (y0 : AV) (H : aB) (c : Nat) : Prop :=
  aJ .eql .num y0 (.int .i64 95) fun v21_42 =>
  (VM P p Q y0 v21_42 H (c + 4))
def VJ (P : Program) (p : Lab) (Q : aA) (y0 : AV) (H : aB) (c : Nat) (_ : Unit) : Prop :=
  (VN P p Q y0 H (c + 10))
def VI (P : Program) (p : Lab) (Q : aA) (y0 : AV) (H : aB) (c : Nat) (_ : Unit) : Prop :=
  aJ .or .num y0 (.int .i64 32) fun v11_15 =>
  aJ .geq .num v11_15 (.int .i64 97) fun v12_16 =>
  aL v12_16
  (VO P p Q y0 H c)
  (VJ P p Q y0 H c)
def Y9 (P : Program) (p : Lab) (Q : aA) (y0 : AV) (y7 : AV) (H : aB) (c : Nat) : Prop :=
  aL y7
  (Y6 P p Q y0 H c)
  (VI P p Q y0 H c)
def VH (P : Program) (p : Lab) (Q : aA) (x0 : AV) (H : aB) (c : Nat) (_ : Unit) : Prop :=
  aJ .leq .num x0 (.int .i64 57) fun v7_5 =>
  (Y9 P p Q x0 v7_5 H (c + 6))
def VE (P : Program) (p : Lab) (Q : aA) (y0 : AV) (H : aB) (c : Nat) : Prop :=
  (FR P p Q  H (c + 6))
def VD (P : Program) (p : Lab) (Q : aA) (y0 : AV) (H : aB) (c : Nat) (_ : Unit) : Prop :=
  (VE P p Q y0 H (c + 4))
def VB (P : Program) (p : Lab) (Q : aA) (H : aB) (c : Nat) (_ : Unit) : Prop :=
  (FR P p Q  H (c + 6))
def VA (P : Program) (p : Lab) (Q : aA) (y0 : AV) (H : aB) (c : Nat) (_ : Unit) : Prop :=
  aJ .gtr .num y0 (.int .i64 127) fun v25_74 =>
  (ID P p Q v25_74 H (c + 6))
def VC (P : Program) (p : Lab) (Q : aA) (y0 : AV) (y21 : AV) (H : aB) (c : Nat) : Prop :=
  aL y21
  (VB P p Q H c)
  (VA P p Q y0 H c)
def U9 (P : Program) (p : Lab) (Q : aA) (y0 : AV) (H : aB) (c : Nat) (_ : Unit) : Prop :=
  aJ .eql .num y0 (.int .i64 95) fun v21_68 =>
  (VC P p Q y0 v21_68 H (c + 4))
def VF (P : Program) (p : Lab) (Q : aA) (y0 : AV) (y17 : AV) (H : aB) (c : Nat) : Prop :=
  aL y17
  (VD P p Q y0 H c)
  (U9 P p Q y0 H c)
def U8 (P : Program) (p : Lab) (Q : aA) (y0 : AV) (H : aB) (c : Nat) (_ : Unit) : Prop :=
  aJ .or .num y0 (.int .i64 32) fun v15_58 =>
  aJ .leq .num v15_58 (.int .i64 122) fun v16_59 =>
  (VF P p Q y0 v16_59 H (c + 10))
def U5 (P : Program) (p : Lab) (Q : aA) (H : aB) (c : Nat) (_ : Unit) : Prop :=
  (FR P p Q  H (c + 6))
def U4 (P : Program) (p : Lab) (Q : aA) (y0 : AV) (H : aB) (c : Nat) (_ : Unit) : Prop :=
  aJ .gtr .num y0 (.int .i64 127) fun v25_87 =>
  (ID P p Q v25_87 H (c + 6))
def U6 (P : Program) (p : Lab) (Q : aA) (y0 : AV) (y21 : AV) (H : aB) (c : Nat) : Prop :=
  aL y21
  (U5 P p Q H c)
  (U4 P p Q y0 H c)
def U7 (P : Program) (p : Lab) (Q : aA) (y0 : AV) (H : aB) (c : Nat) : Prop :=
  aJ .eql .num y0 (.int .i64 95) fun v21_81 =>
  (U6 P p Q y0 v21_81 H (c + 4))
def U3 (P : Program) (p : Lab) (Q : aA) (y0 : AV) (H : aB) (c : Nat) (_ : Unit) : Prop :=
  (U7 P p Q y0 H (c + 10))
def VG (P : Program) (p : Lab) (Q : aA) (y0 : AV) (H : aB) (c : Nat) : Prop :=
  aJ .or .num y0 (.int .i64 32) fun v11_54 =>
  aJ .geq .num v11_54 (.int .i64 97) fun v12_55 =>
  aL v12_55
  (U8 P p Q y0 H c)
  (U3 P p Q y0 H c)
def U2 (P : Program) (p : Lab) (Q : aA) (x0 : AV) (H : aB) (c : Nat) (_ : Unit) : Prop :=
  (VG P p Q x0 H (c + 6))
def V38 (P : Program) (p : Lab) (Q : aA) (x0 : AV) (H : aB) (c : Nat) : Prop :=
  aJ .geq .num x0 (.int .i64 48) fun v4_2 =>
  aL v4_2
  (VH P p Q x0 H c)
  (U2 P p Q x0 H c)
theorem vt38 (P : Program) (p : Lab) (Q : aA) (x0 : AV) (H : aB) (c : Nat) : vc P p c38.body Q [(0, x0)] H c = V38 P p Q x0 H c := by kernel_rfl


/-- duet/edit.Word$1 -/
def c37 : AFun := ⟨2, 8, [.tmp 3],
  (.seq (.region [⟨(some 3), none, .move, [.c (.bool false)]⟩] none [0, 1])
  (.seq (.region [⟨(some 4), none, .move, [.t 0]⟩, ⟨(some 5), none, .call, [.c (.fn (.func 38) [] []), .t 4]⟩, ⟨(some 6), none, (.load 1 false), [.t 1]⟩, ⟨(some 7), none, (.bin .neq .bool), [.t 5, .t 6]⟩, ⟨(some 3), none, .move, [.t 7]⟩] (some [0, 1, 0, 7, 15]) [3])
  .ret))⟩
theorem ok37 : FunOk Try.prog 37 c37 := ⟨⟨Try.f37, _, Try.func37, rfl, by kernel_rfl, by kernel_rfl, by kernel_rfl, by kernel_rfl⟩, by decide⟩
theorem XP : c37.res = [.tmp 3] := rfl
def VU (P : Program) (p : Lab) (Q : aA) (x1 : AV) (c : Nat) (v5_2 : AV) (H2 : aB) (l2 : List Lab) (f2 : Option (List Lab)) : Prop :=
  aF 1 false x1 H2 fun v6_3 f3 =>
  aJ .neq .bool v5_2 v6_3 fun v7_4 =>
  aI [0, 1, 0, 7, 15] (aH 1 l2 ((c + 2) :: p) f2 (aH 2 [] ((c + 3) :: p) f3 [])) ∧
  Q .ret [(3, v7_4)] H2 (c + 6)
def V37 (P : Program) (p : Lab) (Q : aA) (x0 x1 : AV) (H : aB) (c : Nat) : Prop :=
  aN false P 38 [x0] H ((c + 2) :: p) (VU P p Q x1 c)
theorem aAg (P : Program) (p : Lab) (Q : aA) (x0 x1 : AV) (H : aB) (c : Nat) : vc P p c37.body Q [(0, x0), (1, x1)] H c = V37 P p Q x0 x1 H c := by kernel_rfl


/-- duet/mesg.Rune -/
def c40 : AFun := ⟨1, 22, [.tmp 2],
  (.seq (.region [⟨(some 2), none, .move, [.c (.bool false)]⟩] none [0])
  (.seq (.block 0 (.seq (.seq (.region [⟨(some 4), none, .move, [.t 0]⟩, ⟨(some 5), none, (.bin .lss .num), [.t 4, .c (.int .i64 32)]⟩, ⟨(some 6), none, .move, [.t 5]⟩, ⟨(some 7), (some (6, false)), .move, [.t 0]⟩, ⟨(some 8), (some (6, false)), (.bin .gtr .num), [.t 7, .c (.int .i64 1114111)]⟩, ⟨(some 9), none, .pick, [.t 6, .c (.bool true), .t 8]⟩, ⟨(some 3), none, .move, [.t 9]⟩] none [0, 3])
  (.cond (.t 3) .skip
  (.seq (.region [⟨(some 10), none, .move, [.t 0]⟩, ⟨(some 11), none, (.bin .geq .num), [.t 10, .c (.int .i64 127)]⟩, ⟨(some 12), none, .move, [.t 11]⟩, ⟨(some 13), (some (12, true)), .move, [.t 0]⟩, ⟨(some 14), (some (12, true)), (.bin .leq .num), [.t 13, .c (.int .i64 159)]⟩, ⟨(some 15), none, .pick, [.t 12, .t 14, .c (.bool false)]⟩, ⟨(some 3), none, .move, [.t 15]⟩] none [0, 3])
  (.cond (.t 3) .skip
  (.region [⟨(some 16), none, .move, [.t 0]⟩, ⟨(some 17), none, (.bin .geq .num), [.t 16, .c (.int .i64 55296)]⟩, ⟨(some 18), none, .move, [.t 17]⟩, ⟨(some 19), (some (18, true)), .move, [.t 0]⟩, ⟨(some 20), (some (18, true)), (.bin .leq .num), [.t 19, .c (.int .i64 57343)]⟩, ⟨(some 21), none, .pick, [.t 18, .t 20, .c (.bool false)]⟩, ⟨(some 3), none, .move, [.t 21]⟩] none [3])))))
  (.cond (.t 3) (.seq (.region [⟨(some 2), none, .move, [.c (.bool false)]⟩] none [2])
  .ret)
  .skip)))
  (.seq (.region [⟨(some 2), none, .move, [.c (.bool true)]⟩] none [2])
  .ret)))⟩
theorem ok40 : FunOk Try.prog 40 c40 := ⟨⟨Try.f40, _, Try.func40, rfl, by kernel_rfl, by kernel_rfl, by kernel_rfl, by kernel_rfl⟩, by decide⟩
theorem res40 : c40.res = [.tmp 2] := rfl
def YR (P : Program) (p : Lab) (Q : aA) (y0 : AV) (H : aB) (c : Nat) : Prop :=
  Q .ret [(2, (.bool false))] H (c + 1)
def YQ (P : Program) (p : Lab) (Q : aA) (x0 : AV) (H : aB) (c : Nat) (_ : Unit) : Prop :=
  (YR P p Q x0 H (c + 8))
def SN (P : Program) (p : Lab) (Q : aA)  (H : aB) (c : Nat) : Prop :=
  Q .ret [(2, (.bool false))] H c
def YO (P : Program) (p : Lab) (Q : aA) (H : aB) (c : Nat) (_ : Unit) : Prop :=
  (SN P p Q  H (c + 1))
def YN (P : Program) (p : Lab) (Q : aA) (y0 : AV) (y3 : AV) (H : aB) (c : Nat) : Prop :=
  Q .ret [(2, (.bool true))] H (c + 1)
def YM (P : Program) (p : Lab) (Q : aA) (y0 : AV) (y3 : AV) (H : aB) (c : Nat) (_ : Unit) : Prop :=
  (YN P p Q y0 y3 H c)
def SO (P : Program) (p : Lab) (Q : aA) (y0 : AV) (y3 : AV) (H : aB) (c : Nat) : Prop :=
  aL y3
  (YO P p Q H c)
  (YM P p Q y0 y3 H c)
def YL (P : Program) (p : Lab) (Q : aA) (y0 : AV) (y3 : AV) (H : aB) (c : Nat) (_ : Unit) : Prop :=
  (SO P p Q y0 y3 H c)
def S3 (P : Program) (p : Lab) (Q : aA) (y0 : AV) (y3 : AV) (H : aB) (c : Nat) (_ : Unit) : Prop :=
  (SO P p Q y0 y3 H c)
def S1 (P : Program) (p : Lab) (Q : aA) (H : aB) (c : Nat) (_ : Unit) : Prop :=
  (SN P p Q  H (c + 1))
def S0 (P : Program) (p : Lab) (Q : aA) (y3 : AV) (H : aB) (c : Nat) : Prop :=
  Q .ret [(2, (.bool true))] H (c + 1)
def SZ (P : Program) (p : Lab) (Q : aA) (y3 : AV) (H : aB) (c : Nat) (_ : Unit) : Prop :=
  (S0 P p Q y3 H c)
def OC (P : Program) (p : Lab) (Q : aA) (y3 : AV) (H : aB) (c : Nat) : Prop :=
  aL y3
  (S1 P p Q H c)
  (SZ P p Q y3 H c)
def SY (P : Program) (p : Lab) (Q : aA) (y0 : AV) (H : aB) (c : Nat) (_ : Unit) : Prop :=
  aJ .leq .num y0 (.int .i64 57343) fun v20_24 =>
  (OC P p Q v20_24 H (c + 7))
def OB (P : Program) (p : Lab) (Q : aA)  (H : aB) (c : Nat) : Prop :=
  Q .ret [(2, (.bool true))] H (c + 1)
def SX (P : Program) (p : Lab) (Q : aA) (H : aB) (c : Nat) (_ : Unit) : Prop :=
  (OB P p Q  H (c + 7))
def S2 (P : Program) (p : Lab) (Q : aA) (y0 : AV) (y3 : AV) (H : aB) (c : Nat) : Prop :=
  aJ .geq .num y0 (.int .i64 55296) fun v17_21 =>
  aL v17_21
  (SY P p Q y0 H c)
  (SX P p Q H c)
def SW (P : Program) (p : Lab) (Q : aA) (y0 : AV) (y3 : AV) (H : aB) (c : Nat) (_ : Unit) : Prop :=
  (S2 P p Q y0 y3 H c)
def S4 (P : Program) (p : Lab) (Q : aA) (y0 : AV) (y3 : AV) (H : aB) (c : Nat) : Prop :=
  aL y3
  (S3 P p Q y0 y3 H c)
  (SW P p Q y0 y3 H c)
def SV (P : Program) (p : Lab) (Q : aA) (y0 : AV) (H : aB) (c : Nat) (_ : Unit) : Prop :=
  aJ .leq .num y0 (.int .i64 159) fun v14_17 =>
  (S4 P p Q y0 v14_17 H (c + 7))
def ST (P : Program) (p : Lab) (Q : aA) (y0 : AV) (H : aB) (c : Nat) (_ : Unit) : Prop :=
  aJ .leq .num y0 (.int .i64 57343) fun v20_38 =>
  (OC P p Q v20_38 H (c + 7))
def SS (P : Program) (p : Lab) (Q : aA) (H : aB) (c : Nat) (_ : Unit) : Prop :=
  (OB P p Q  H (c + 7))
def SU (P : Program) (p : Lab) (Q : aA) (y0 : AV) (H : aB) (c : Nat) : Prop :=
  aJ .geq .num y0 (.int .i64 55296) fun v17_35 =>
  aL v17_35
  (ST P p Q y0 H c)
  (SS P p Q H c)
def SR (P : Program) (p : Lab) (Q : aA) (y0 : AV) (H : aB) (c : Nat) (_ : Unit) : Prop :=
  (SU P p Q y0 H (c + 7))
def YK (P : Program) (p : Lab) (Q : aA) (y0 : AV) (y3 : AV) (H : aB) (c : Nat) : Prop :=
  aJ .geq .num y0 (.int .i64 127) fun v11_14 =>
  aL v11_14
  (SV P p Q y0 H c)
  (SR P p Q y0 H c)
def SQ (P : Program) (p : Lab) (Q : aA) (y0 : AV) (y3 : AV) (H : aB) (c : Nat) (_ : Unit) : Prop :=
  (YK P p Q y0 y3 H c)
def YP (P : Program) (p : Lab) (Q : aA) (y0 : AV) (y3 : AV) (H : aB) (c : Nat) : Prop :=
  aL y3
  (YL P p Q y0 y3 H c)
  (SQ P p Q y0 y3 H c)
def SP (P : Program) (p : Lab) (Q : aA) (x0 : AV) (H : aB) (c : Nat) (_ : Unit) : Prop :=
  aJ .gtr .num x0 (.int .i64 1114111) fun v8_8 =>
  (YP P p Q x0 v8_8 H (c + 8))
def V40 (P : Program) (p : Lab) (Q : aA) (x0 : AV) (H : aB) (c : Nat) : Prop :=
  aJ .lss .num x0 (.int .i64 32) fun v5_2 =>
  aL v5_2
  (YQ P p Q x0 H c)
  (SP P p Q x0 H c)
theorem vt40 (P : Program) (p : Lab) (Q : aA) (x0 : AV) (H : aB) (c : Nat) : vc P p c40.body Q [(0, x0)] H c = V40 P p Q x0 H c := by kernel_rfl


/-- duet/duetref04.Rune -/
def c57 : AFun := ⟨1, 27, [.tmp 2],
  (.seq (.region [⟨(some 2), none, .move, [.c (.bool false)]⟩] none [0])
  (.seq (.region [⟨(some 3), none, .move, [.t 0]⟩, ⟨(some 4), none, (.bin .geq .num), [.t 3, .c (.int .i64 32)]⟩, ⟨(some 5), none, .move, [.t 4]⟩, ⟨(some 6), (some (5, true)), .move, [.t 0]⟩, ⟨(some 7), (some (5, true)), (.bin .leq .num), [.t 6, .c (.int .i64 1114111)]⟩, ⟨(some 8), none, .pick, [.t 5, .t 7, .c (.bool false)]⟩, ⟨(some 9), none, .move, [.t 8]⟩, ⟨(some 10), (some (9, true)), .move, [.t 0]⟩, ⟨(some 11), (some (9, true)), (.bin .geq .num), [.t 10, .c (.int .i64 127)]⟩, ⟨(some 12), (some (9, true)), .move, [.t 11]⟩, ⟨(some 13), (some (12, true)), .move, [.t 0]⟩, ⟨(some 14), (some (12, true)), (.bin .leq .num), [.t 13, .c (.int .i64 159)]⟩, ⟨(some 15), (some (9, true)), .pick, [.t 12, .t 14, .c (.bool false)]⟩, ⟨(some 16), (some (9, true)), (.un .not), [.t 15]⟩, ⟨(some 17), none, .pick, [.t 9, .t 16, .c (.bool false)]⟩, ⟨(some 18), none, .move, [.t 17]⟩, ⟨(some 19), (some (18, true)), .move, [.t 0]⟩, ⟨(some 20), (some (18, true)), (.bin .geq .num), [.t 19, .c (.int .i64 55296)]⟩, ⟨(some 21), (some (18, true)), .move, [.t 20]⟩, ⟨(some 22), (some (21, true)), .move, [.t 0]⟩, ⟨(some 23), (some (21, true)), (.bin .leq .num), [.t 22, .c (.int .i64 57343)]⟩, ⟨(some 24), (some (18, true)), .pick, [.t 21, .t 23, .c (.bool false)]⟩, ⟨(some 25), (some (18, true)), (.un .not), [.t 24]⟩, ⟨(some 26), none, .pick, [.t 18, .t 25, .c (.bool false)]⟩, ⟨(some 2), none, .move, [.t 26]⟩] none [2])
  .ret))⟩
theorem ok57 : FunOk Try.prog 57 c57 := ⟨⟨Try.f57, _, Try.func57, rfl, by kernel_rfl, by kernel_rfl, by kernel_rfl, by kernel_rfl⟩, by decide⟩
theorem res57 : c57.res = [.tmp 2] := rfl
def MV (P : Program) (p : Lab) (Q : aA) (y2 : AV) (H : aB) (c : Nat) : Prop :=
  Q .ret [(2, y2)] H c
def YF (P : Program) (p : Lab) (Q : aA) (y0 : AV) (H : aB) (c : Nat) (_ : Unit) : Prop :=
  aJ .leq .num y0 (.int .i64 57343) fun v23_21 =>
  xU v23_21 fun v25_23 =>
  (MV P p Q v25_23 H (c + 11))
def YE (P : Program) (p : Lab) (Q : aA) (H : aB) (c : Nat) (_ : Unit) : Prop :=
  xU (.bool false) fun v25_27 =>
  (MV P p Q v25_27 H (c + 11))
def YD (P : Program) (p : Lab) (Q : aA) (y0 : AV) (H : aB) (c : Nat) (_ : Unit) : Prop :=
  aJ .geq .num y0 (.int .i64 55296) fun v20_18 =>
  aL v20_18
  (YF P p Q y0 H c)
  (YE P p Q H c)
def MU (P : Program) (p : Lab) (Q : aA)  (H : aB) (c : Nat) : Prop :=
  Q .ret [(2, (.bool false))] H c
def YC (P : Program) (p : Lab) (Q : aA) (H : aB) (c : Nat) (_ : Unit) : Prop :=
  (MU P p Q  H (c + 11))
def YG (P : Program) (p : Lab) (Q : aA) (y0 : AV) (y16 : AV) (H : aB) (c : Nat) : Prop :=
  aL y16
  (YD P p Q y0 H c)
  (YC P p Q H c)
def YB (P : Program) (p : Lab) (Q : aA) (y0 : AV) (H : aB) (c : Nat) (_ : Unit) : Prop :=
  aJ .leq .num y0 (.int .i64 159) fun v14_12 =>
  xU v14_12 fun v16_14 =>
  (YG P p Q y0 v16_14 H (c + 9))
def SD (P : Program) (p : Lab) (Q : aA) (y0 : AV) (H : aB) (c : Nat) (_ : Unit) : Prop :=
  aJ .leq .num y0 (.int .i64 57343) fun v23_40 =>
  xU v23_40 fun v25_42 =>
  (MV P p Q v25_42 H (c + 11))
def SC (P : Program) (p : Lab) (Q : aA) (H : aB) (c : Nat) (_ : Unit) : Prop :=
  xU (.bool false) fun v25_46 =>
  (MV P p Q v25_46 H (c + 11))
def SB (P : Program) (p : Lab) (Q : aA) (y0 : AV) (H : aB) (c : Nat) (_ : Unit) : Prop :=
  aJ .geq .num y0 (.int .i64 55296) fun v20_37 =>
  aL v20_37
  (SD P p Q y0 H c)
  (SC P p Q H c)
def SA (P : Program) (p : Lab) (Q : aA) (H : aB) (c : Nat) (_ : Unit) : Prop :=
  (MU P p Q  H (c + 11))
def YA (P : Program) (p : Lab) (Q : aA) (y0 : AV) (y16 : AV) (H : aB) (c : Nat) : Prop :=
  aL y16
  (SB P p Q y0 H c)
  (SA P p Q H c)
def R9 (P : Program) (p : Lab) (Q : aA) (y0 : AV) (H : aB) (c : Nat) (_ : Unit) : Prop :=
  xU (.bool false) fun v16_33 =>
  (YA P p Q y0 v16_33 H (c + 9))
def R8 (P : Program) (p : Lab) (Q : aA) (y0 : AV) (H : aB) (c : Nat) (_ : Unit) : Prop :=
  aJ .geq .num y0 (.int .i64 127) fun v11_9 =>
  aL v11_9
  (YB P p Q y0 H c)
  (R9 P p Q y0 H c)
def R7 (P : Program) (p : Lab) (Q : aA) (y0 : AV) (H : aB) (c : Nat) : Prop :=
  (MU P p Q  H (c + 11))
def R6 (P : Program) (p : Lab) (Q : aA) (y0 : AV) (H : aB) (c : Nat) (_ : Unit) : Prop :=
  (R7 P p Q y0 H (c + 9))
def YH (P : Program) (p : Lab) (Q : aA) (y0 : AV) (y7 : AV) (H : aB) (c : Nat) : Prop :=
  aL y7
  (R8 P p Q y0 H c)
  (R6 P p Q y0 H c)
def R5 (P : Program) (p : Lab) (Q : aA) (x0 : AV) (H : aB) (c : Nat) (_ : Unit) : Prop :=
  aJ .leq .num x0 (.int .i64 1114111) fun v7_5 =>
  (YH P p Q x0 v7_5 H (c + 6))
def R3 (P : Program) (p : Lab) (Q : aA) (y0 : AV) (H : aB) (c : Nat) : Prop :=
  (MU P p Q  H (c + 11))
def R4 (P : Program) (p : Lab) (Q : aA) (y0 : AV) (H : aB) (c : Nat) : Prop :=
  (R3 P p Q y0 H (c + 9))
def RZ (P : Program) (p : Lab) (Q : aA) (x0 : AV) (H : aB) (c : Nat) (_ : Unit) : Prop :=
  (R4 P p Q x0 H (c + 6))
def V57 (P : Program) (p : Lab) (Q : aA) (x0 : AV) (H : aB) (c : Nat) : Prop :=
  aJ .geq .num x0 (.int .i64 32) fun v4_2 =>
  aL v4_2
  (R5 P p Q x0 H c)
  (RZ P p Q x0 H c)
theorem vt57 (P : Program) (p : Lab) (Q : aA) (x0 : AV) (H : aB) (c : Nat) : vc P p c57.body Q [(0, x0)] H c = V57 P p Q x0 H c := by kernel_rfl


/-- duet/duetref18.letter -/
def c39 : AFun := ⟨1, 33, [.tmp 2],
  (.seq (.region [⟨(some 2), none, .move, [.c (.bool false)]⟩] none [0])
  (.seq (.region [⟨(some 3), none, .move, [.t 0]⟩, ⟨(some 4), none, (.bin .geq .num), [.t 3, .c (.int .i64 48)]⟩, ⟨(some 5), none, .move, [.t 4]⟩, ⟨(some 6), (some (5, true)), .move, [.t 0]⟩, ⟨(some 7), (some (5, true)), (.bin .leq .num), [.t 6, .c (.int .i64 57)]⟩, ⟨(some 8), none, .pick, [.t 5, .t 7, .c (.bool false)]⟩, ⟨(some 9), none, .move, [.t 8]⟩, ⟨(some 10), (some (9, false)), .move, [.t 0]⟩, ⟨(some 11), (some (9, false)), (.bin .geq .num), [.t 10, .c (.int .i64 97)]⟩, ⟨(some 12), (some (9, false)), .move, [.t 11]⟩, ⟨(some 13), (some (12, true)), .move, [.t 0]⟩, ⟨(some 14), (some (12, true)), (.bin .leq .num), [.t 13, .c (.int .i64 122)]⟩, ⟨(some 15), (some (9, false)), .pick, [.t 12, .t 14, .c (.bool false)]⟩, ⟨(some 16), none, .pick, [.t 9, .c (.bool true), .t 15]⟩, ⟨(some 17), none, .move, [.t 16]⟩, ⟨(some 18), (some (17, false)), .move, [.t 0]⟩, ⟨(some 19), (some (17, false)), (.bin .geq .num), [.t 18, .c (.int .i64 65)]⟩, ⟨(some 20), (some (17, false)), .move, [.t 19]⟩, ⟨(some 21), (some (20, true)), .move, [.t 0]⟩, ⟨(some 22), (some (20, true)), (.bin .leq .num), [.t 21, .c (.int .i64 90)]⟩, ⟨(some 23), (some (17, false)), .pick, [.t 20, .t 22, .c (.bool false)]⟩, ⟨(some 24), none, .pick, [.t 17, .c (.bool true), .t 23]⟩, ⟨(some 25), none, .move, [.t 24]⟩, ⟨(some 26), (some (25, false)), .move, [.t 0]⟩, ⟨(some 27), (some (25, false)), (.bin .eql .num), [.t 26, .c (.int .i64 95)]⟩, ⟨(some 28), none, .pick, [.t 25, .c (.bool true), .t 27]⟩, ⟨(some 29), none, .move, [.t 28]⟩, ⟨(some 30), (some (29, false)), .move, [.t 0]⟩, ⟨(some 31), (some (29, false)), (.bin .gtr .num), [.t 30, .c (.int .i64 127)]⟩, ⟨(some 32), none, .pick, [.t 29, .c (.bool true), .t 31]⟩, ⟨(some 2), none, .move, [.t 32]⟩] none [2])
  .ret))⟩
theorem ok39 : FunOk Try.prog 39 c39 := ⟨⟨Try.f39, _, Try.func39, rfl, by kernel_rfl, by kernel_rfl, by kernel_rfl, by kernel_rfl⟩, by decide⟩
theorem res39 : c39.res = [.tmp 2] := rfl
def sW (P : Program) (p : Lab) (Q : aA)  (H : aB) (c : Nat) : Prop :=
  Q .ret [(2, (.bool true))] H c
def YX (P : Program) (p : Lab) (Q : aA) (y0 : AV) (H : aB) (c : Nat) : Prop :=
  (sW P p Q  H (c + 6))
def YY (P : Program) (p : Lab) (Q : aA) (y0 : AV) (H : aB) (c : Nat) : Prop :=
  (YX P p Q y0 H (c + 4))
def YZ (P : Program) (p : Lab) (Q : aA) (y0 : AV) (H : aB) (c : Nat) : Prop :=
  (YY P p Q y0 H (c + 8))
def YW (P : Program) (p : Lab) (Q : aA) (y0 : AV) (H : aB) (c : Nat) (_ : Unit) : Prop :=
  (YZ P p Q y0 H (c + 8))
def YT (P : Program) (p : Lab) (Q : aA) (y0 : AV) (H : aB) (c : Nat) : Prop :=
  (sW P p Q  H (c + 6))
def YU (P : Program) (p : Lab) (Q : aA) (y0 : AV) (H : aB) (c : Nat) : Prop :=
  (YT P p Q y0 H (c + 4))
def YS (P : Program) (p : Lab) (Q : aA) (y0 : AV) (H : aB) (c : Nat) (_ : Unit) : Prop :=
  (YU P p Q y0 H (c + 8))
def U0 (P : Program) (p : Lab) (Q : aA) (y0 : AV) (H : aB) (c : Nat) : Prop :=
  (sW P p Q  H (c + 6))
def UZ (P : Program) (p : Lab) (Q : aA) (y0 : AV) (H : aB) (c : Nat) (_ : Unit) : Prop :=
  (U0 P p Q y0 H (c + 4))
def UX (P : Program) (p : Lab) (Q : aA) (H : aB) (c : Nat) (_ : Unit) : Prop :=
  (sW P p Q  H (c + 6))
def yD (P : Program) (p : Lab) (Q : aA) (y2 : AV) (H : aB) (c : Nat) : Prop :=
  Q .ret [(2, y2)] H c
def UW (P : Program) (p : Lab) (Q : aA) (y0 : AV) (H : aB) (c : Nat) (_ : Unit) : Prop :=
  aJ .gtr .num y0 (.int .i64 127) fun v31_49 =>
  (yD P p Q v31_49 H (c + 6))
def UY (P : Program) (p : Lab) (Q : aA) (y0 : AV) (y27 : AV) (H : aB) (c : Nat) : Prop :=
  aL y27
  (UX P p Q H c)
  (UW P p Q y0 H c)
def UV (P : Program) (p : Lab) (Q : aA) (y0 : AV) (H : aB) (c : Nat) (_ : Unit) : Prop :=
  aJ .eql .num y0 (.int .i64 95) fun v27_43 =>
  (UY P p Q y0 v27_43 H (c + 4))
def U1 (P : Program) (p : Lab) (Q : aA) (y0 : AV) (y23 : AV) (H : aB) (c : Nat) : Prop :=
  aL y23
  (UZ P p Q y0 H c)
  (UV P p Q y0 H c)
def UU (P : Program) (p : Lab) (Q : aA) (y0 : AV) (H : aB) (c : Nat) (_ : Unit) : Prop :=
  aJ .leq .num y0 (.int .i64 90) fun v22_34 =>
  (U1 P p Q y0 v22_34 H (c + 8))
def UR (P : Program) (p : Lab) (Q : aA) (H : aB) (c : Nat) (_ : Unit) : Prop :=
  (sW P p Q  H (c + 6))
def UQ (P : Program) (p : Lab) (Q : aA) (y0 : AV) (H : aB) (c : Nat) (_ : Unit) : Prop :=
  aJ .gtr .num y0 (.int .i64 127) fun v31_62 =>
  (yD P p Q v31_62 H (c + 6))
def US (P : Program) (p : Lab) (Q : aA) (y0 : AV) (y27 : AV) (H : aB) (c : Nat) : Prop :=
  aL y27
  (UR P p Q H c)
  (UQ P p Q y0 H c)
def UT (P : Program) (p : Lab) (Q : aA) (y0 : AV) (H : aB) (c : Nat) : Prop :=
  aJ .eql .num y0 (.int .i64 95) fun v27_56 =>
  (US P p Q y0 v27_56 H (c + 4))
def UP (P : Program) (p : Lab) (Q : aA) (y0 : AV) (H : aB) (c : Nat) (_ : Unit) : Prop :=
  (UT P p Q y0 H (c + 8))
def UO (P : Program) (p : Lab) (Q : aA) (y0 : AV) (H : aB) (c : Nat) (_ : Unit) : Prop :=
  aJ .geq .num y0 (.int .i64 65) fun v19_31 =>
  aL v19_31
  (UU P p Q y0 H c)
  (UP P p Q y0 H c)
def YV (P : Program) (p : Lab) (Q : aA) (y0 : AV) (y15 : AV) (H : aB) (c : Nat) : Prop :=
  aL y15
  (YS P p Q y0 H c)
  (UO P p Q y0 H c)
def UN (P : Program) (p : Lab) (Q : aA) (y0 : AV) (H : aB) (c : Nat) (_ : Unit) : Prop :=
  aJ .leq .num y0 (.int .i64 122) fun v14_20 =>
  (YV P p Q y0 v14_20 H (c + 8))
def UK (P : Program) (p : Lab) (Q : aA) (y0 : AV) (H : aB) (c : Nat) : Prop :=
  (sW P p Q  H (c + 6))
def UJ (P : Program) (p : Lab) (Q : aA) (y0 : AV) (H : aB) (c : Nat) (_ : Unit) : Prop :=
  (UK P p Q y0 H (c + 4))
def UH (P : Program) (p : Lab) (Q : aA) (H : aB) (c : Nat) (_ : Unit) : Prop :=
  (sW P p Q  H (c + 6))
def UG (P : Program) (p : Lab) (Q : aA) (y0 : AV) (H : aB) (c : Nat) (_ : Unit) : Prop :=
  aJ .gtr .num y0 (.int .i64 127) fun v31_87 =>
  (yD P p Q v31_87 H (c + 6))
def UI (P : Program) (p : Lab) (Q : aA) (y0 : AV) (y27 : AV) (H : aB) (c : Nat) : Prop :=
  aL y27
  (UH P p Q H c)
  (UG P p Q y0 H c)
def UF (P : Program) (p : Lab) (Q : aA) (y0 : AV) (H : aB) (c : Nat) (_ : Unit) : Prop :=
  aJ .eql .num y0 (.int .i64 95) fun v27_81 =>
  (UI P p Q y0 v27_81 H (c + 4))
def UL (P : Program) (p : Lab) (Q : aA) (y0 : AV) (y23 : AV) (H : aB) (c : Nat) : Prop :=
  aL y23
  (UJ P p Q y0 H c)
  (UF P p Q y0 H c)
def UE (P : Program) (p : Lab) (Q : aA) (y0 : AV) (H : aB) (c : Nat) (_ : Unit) : Prop :=
  aJ .leq .num y0 (.int .i64 90) fun v22_72 =>
  (UL P p Q y0 v22_72 H (c + 8))
def UB (P : Program) (p : Lab) (Q : aA) (H : aB) (c : Nat) (_ : Unit) : Prop :=
  (sW P p Q  H (c + 6))
def UA (P : Program) (p : Lab) (Q : aA) (y0 : AV) (H : aB) (c : Nat) (_ : Unit) : Prop :=
  aJ .gtr .num y0 (.int .i64 127) fun v31_100 =>
  (yD P p Q v31_100 H (c + 6))
def UC (P : Program) (p : Lab) (Q : aA) (y0 : AV) (y27 : AV) (H : aB) (c : Nat) : Prop :=
  aL y27
  (UB P p Q H c)
  (UA P p Q y0 H c)
def UD (P : Program) (p : Lab) (Q : aA) (y0 : AV) (H : aB) (c : Nat) : Prop :=
  aJ .eql .num y0 (.int .i64 95) fun v27_94 =>
  (UC P p Q y0 v27_94 H (c + 4))
def T9 (P : Program) (p : Lab) (Q : aA) (y0 : AV) (H : aB) (c : Nat) (_ : Unit) : Prop :=
  (UD P p Q y0 H (c + 8))
def UM (P : Program) (p : Lab) (Q : aA) (y0 : AV) (H : aB) (c : Nat) : Prop :=
  aJ .geq .num y0 (.int .i64 65) fun v19_69 =>
  aL v19_69
  (UE P p Q y0 H c)
  (T9 P p Q y0 H c)
def T8 (P : Program) (p : Lab) (Q : aA) (y0 : AV) (H : aB) (c : Nat) (_ : Unit) : Prop :=
  (UM P p Q y0 H (c + 8))
def T7 (P : Program) (p : Lab) (Q : aA) (y0 : AV) (H : aB) (c : Nat) (_ : Unit) : Prop :=
  aJ .geq .num y0 (.int .i64 97) fun v11_17 =>
  aL v11_17
  (UN P p Q y0 H c)
  (T8 P p Q y0 H c)
def Y0 (P : Program) (p : Lab) (Q : aA) (y0 : AV) (y7 : AV) (H : aB) (c : Nat) : Prop :=
  aL y7
  (YW P p Q y0 H c)
  (T7 P p Q y0 H c)
def T6 (P : Program) (p : Lab) (Q : aA) (x0 : AV) (H : aB) (c : Nat) (_ : Unit) : Prop :=
  aJ .leq .num x0 (.int .i64 57) fun v7_5 =>
  (Y0 P p Q x0 v7_5 H (c + 6))
def T1 (P : Program) (p : Lab) (Q : aA) (y0 : AV) (H : aB) (c : Nat) : Prop :=
  (sW P p Q  H (c + 6))
def T3 (P : Program) (p : Lab) (Q : aA) (y0 : AV) (H : aB) (c : Nat) : Prop :=
  (T1 P p Q y0 H (c + 4))
def T0 (P : Program) (p : Lab) (Q : aA) (y0 : AV) (H : aB) (c : Nat) (_ : Unit) : Prop :=
  (T3 P p Q y0 H (c + 8))
def TY (P : Program) (p : Lab) (Q : aA) (y0 : AV) (H : aB) (c : Nat) : Prop :=
  (sW P p Q  H (c + 6))
def TX (P : Program) (p : Lab) (Q : aA) (y0 : AV) (H : aB) (c : Nat) (_ : Unit) : Prop :=
  (TY P p Q y0 H (c + 4))
def TV (P : Program) (p : Lab) (Q : aA) (H : aB) (c : Nat) (_ : Unit) : Prop :=
  (sW P p Q  H (c + 6))
def TU (P : Program) (p : Lab) (Q : aA) (y0 : AV) (H : aB) (c : Nat) (_ : Unit) : Prop :=
  aJ .gtr .num y0 (.int .i64 127) fun v31_138 =>
  (yD P p Q v31_138 H (c + 6))
def TW (P : Program) (p : Lab) (Q : aA) (y0 : AV) (y27 : AV) (H : aB) (c : Nat) : Prop :=
  aL y27
  (TV P p Q H c)
  (TU P p Q y0 H c)
def TT (P : Program) (p : Lab) (Q : aA) (y0 : AV) (H : aB) (c : Nat) (_ : Unit) : Prop :=
  aJ .eql .num y0 (.int .i64 95) fun v27_132 =>
  (TW P p Q y0 v27_132 H (c + 4))
def TZ (P : Program) (p : Lab) (Q : aA) (y0 : AV) (y23 : AV) (H : aB) (c : Nat) : Prop :=
  aL y23
  (TX P p Q y0 H c)
  (TT P p Q y0 H c)
def TS (P : Program) (p : Lab) (Q : aA) (y0 : AV) (H : aB) (c : Nat) (_ : Unit) : Prop :=
  aJ .leq .num y0 (.int .i64 90) fun v22_123 =>
  (TZ P p Q y0 v22_123 H (c + 8))
def TP (P : Program) (p : Lab) (Q : aA) (H : aB) (c : Nat) (_ : Unit) : Prop :=
  (sW P p Q  H (c + 6))
def TO (P : Program) (p : Lab) (Q : aA) (y0 : AV) (H : aB) (c : Nat) (_ : Unit) : Prop :=
  aJ .gtr .num y0 (.int .i64 127) fun v31_151 =>
  (yD P p Q v31_151 H (c + 6))
def TQ (P : Program) (p : Lab) (Q : aA) (y0 : AV) (y27 : AV) (H : aB) (c : Nat) : Prop :=
  aL y27
  (TP P p Q H c)
  (TO P p Q y0 H c)
def TR (P : Program) (p : Lab) (Q : aA) (y0 : AV) (H : aB) (c : Nat) : Prop :=
  aJ .eql .num y0 (.int .i64 95) fun v27_145 =>
  (TQ P p Q y0 v27_145 H (c + 4))
def TN (P : Program) (p : Lab) (Q : aA) (y0 : AV) (H : aB) (c : Nat) (_ : Unit) : Prop :=
  (TR P p Q y0 H (c + 8))
def TM (P : Program) (p : Lab) (Q : aA) (y0 : AV) (H : aB) (c : Nat) (_ : Unit) : Prop :=
  aJ .geq .num y0 (.int .i64 65) fun v19_120 =>
  aL v19_120
  (TS P p Q y0 H c)
  (TN P p Q y0 H c)
def T4 (P : Program) (p : Lab) (Q : aA) (y0 : AV) (y15 : AV) (H : aB) (c : Nat) : Prop :=
  aL y15
  (T0 P p Q y0 H c)
  (TM P p Q y0 H c)
def TL (P : Program) (p : Lab) (Q : aA) (y0 : AV) (H : aB) (c : Nat) (_ : Unit) : Prop :=
  aJ .leq .num y0 (.int .i64 122) fun v14_109 =>
  (T4 P p Q y0 v14_109 H (c + 8))
def TI (P : Program) (p : Lab) (Q : aA) (y0 : AV) (H : aB) (c : Nat) : Prop :=
  (sW P p Q  H (c + 6))
def TH (P : Program) (p : Lab) (Q : aA) (y0 : AV) (H : aB) (c : Nat) (_ : Unit) : Prop :=
  (TI P p Q y0 H (c + 4))
def TF (P : Program) (p : Lab) (Q : aA) (H : aB) (c : Nat) (_ : Unit) : Prop :=
  (sW P p Q  H (c + 6))
def TE (P : Program) (p : Lab) (Q : aA) (y0 : AV) (H : aB) (c : Nat) (_ : Unit) : Prop :=
  aJ .gtr .num y0 (.int .i64 127) fun v31_176 =>
  (yD P p Q v31_176 H (c + 6))
def TG (P : Program) (p : Lab) (Q : aA) (y0 : AV) (y27 : AV) (H : aB) (c : Nat) : Prop :=
  aL y27
  (TF P p Q H c)
  (TE P p Q y0 H c)
def TD (P : Program) (p : Lab) (Q : aA) (y0 : AV) (H : aB) (c : Nat) (_ : Unit) : Prop :=
  aJ .eql .num y0 (.int .i64 95) fun v27_170 =>
  (TG P p Q y0 v27_170 H (c + 4))
def TJ (P : Program) (p : Lab) (Q : aA) (y0 : AV) (y23 : AV) (H : aB) (c : Nat) : Prop :=
  aL y23
  (TH P p Q y0 H c)
  (TD P p Q y0 H c)
def TC (P : Program) (p : Lab) (Q : aA) (y0 : AV) (H : aB) (c : Nat) (_ : Unit) : Prop :=
  aJ .leq .num y0 (.int .i64 90) fun v22_161 =>
  (TJ P p Q y0 v22_161 H (c + 8))
def S9 (P : Program) (p : Lab) (Q : aA) (H : aB) (c : Nat) (_ : Unit) : Prop :=
  (sW P p Q  H (c + 6))
def S8 (P : Program) (p : Lab) (Q : aA) (y0 : AV) (H : aB) (c : Nat) (_ : Unit) : Prop :=
  aJ .gtr .num y0 (.int .i64 127) fun v31_189 =>
  (yD P p Q v31_189 H (c + 6))
def TA (P : Program) (p : Lab) (Q : aA) (y0 : AV) (y27 : AV) (H : aB) (c : Nat) : Prop :=
  aL y27
  (S9 P p Q H c)
  (S8 P p Q y0 H c)
def TB (P : Program) (p : Lab) (Q : aA) (y0 : AV) (H : aB) (c : Nat) : Prop :=
  aJ .eql .num y0 (.int .i64 95) fun v27_183 =>
  (TA P p Q y0 v27_183 H (c + 4))
def S7 (P : Program) (p : Lab) (Q : aA) (y0 : AV) (H : aB) (c : Nat) (_ : Unit) : Prop :=
  (TB P p Q y0 H (c + 8))
def TK (P : Program) (p : Lab) (Q : aA) (y0 : AV) (H : aB) (c : Nat) : Prop :=
  aJ .geq .num y0 (.int .i64 65) fun v19_158 =>
  aL v19_158
  (TC P p Q y0 H c)
  (S7 P p Q y0 H c)
def S6 (P : Program) (p : Lab) (Q : aA) (y0 : AV) (H : aB) (c : Nat) (_ : Unit) : Prop :=
  (TK P p Q y0 H (c + 8))
def T5 (P : Program) (p : Lab) (Q : aA) (y0 : AV) (H : aB) (c : Nat) : Prop :=
  aJ .geq .num y0 (.int .i64 97) fun v11_106 =>
  aL v11_106
  (TL P p Q y0 H c)
  (S6 P p Q y0 H c)
def S5 (P : Program) (p : Lab) (Q : aA) (x0 : AV) (H : aB) (c : Nat) (_ : Unit) : Prop :=
  (T5 P p Q x0 H (c + 6))
def V39 (P : Program) (p : Lab) (Q : aA) (x0 : AV) (H : aB) (c : Nat) : Prop :=
  aJ .geq .num x0 (.int .i64 48) fun v4_2 =>
  aL v4_2
  (T6 P p Q x0 H c)
  (S5 P p Q x0 H c)
theorem vt39 (P : Program) (p : Lab) (Q : aA) (x0 : AV) (H : aB) (c : Nat) : vc P p c39.body Q [(0, x0)] H c = V39 P p Q x0 H c := by kernel_rfl


/-- duet/duetref18.held -/
def c29 : AFun := ⟨2, 10, [.tmp 4],
  (.seq (.region [⟨(some 4), none, .move, [.c (.int .i64 0)]⟩] none [0, 1])
  (.seq (.region [⟨(some 5), none, .move, [.t 1]⟩, ⟨(some 6), none, .max, [.t 5, .c (.int .i64 0)]⟩, ⟨(some 7), none, .move, [.t 0]⟩, ⟨(some 8), none, (.len .slice), [.t 7]⟩, ⟨(some 9), none, .min, [.t 6, .t 8]⟩, ⟨(some 4), none, .move, [.t 9]⟩] none [4])
  .ret))⟩
theorem ok29 : FunOk Try.prog 29 c29 := ⟨⟨Try.f29, _, Try.func29, rfl, by kernel_rfl, by kernel_rfl, by kernel_rfl, by kernel_rfl⟩, by decide⟩
theorem res29 : c29.res = [.tmp 4] := rfl
def V29 (P : Program) (p : Lab) (Q : aA) (x0 x1 : AV) (H : aB) (c : Nat) : Prop :=
  LG x1 (.int .i64 0) fun v6_2 =>
  cS x0 fun v8_4 =>
  I2 v6_2 v8_4 fun v9_5 =>
  Q .ret [(4, v9_5)] H (c + 7)
theorem vt29 (P : Program) (p : Lab) (Q : aA) (x0 x1 : AV) (H : aB) (c : Nat) : vc P p c29.body Q [(0, x0), (1, x1)] H c = V29 P p Q x0 x1 H c := by kernel_rfl


/-- duet/duetlaw18.few -/
def c10 : AFun := ⟨1, 13, [.tmp 2],
  (.seq (.region [⟨(some 1), none, .box, [.t 0]⟩, ⟨(some 2), none, .move, [.c (.bool false)]⟩] none [1])
  (.seq (.region [⟨(some 3), none, (.fieldAddr 0), [.t 1]⟩, ⟨(some 4), none, (.load 1 false), [.t 3]⟩, ⟨(some 5), none, (.len .slice), [.t 4]⟩, ⟨(some 6), none, (.bin .leq .num), [.t 5, .c (.int .i64 1100)]⟩, ⟨(some 7), none, .move, [.t 6]⟩, ⟨(some 8), (some (7, true)), (.fieldAddr 2), [.t 1]⟩, ⟨(some 9), (some (7, true)), (.load 1 false), [.t 8]⟩, ⟨(some 10), (some (7, true)), (.len .slice), [.t 9]⟩, ⟨(some 11), (some (7, true)), (.bin .leq .num), [.t 10, .c (.int .i64 1100)]⟩, ⟨(some 12), none, .pick, [.t 7, .t 11, .c (.bool false)]⟩, ⟨(some 2), none, .move, [.t 12]⟩] none [2])
  .ret))⟩
theorem ok10 : FunOk Try.prog 10 c10 := ⟨⟨Try.f10, _, Try.func10, rfl, by kernel_rfl, by kernel_rfl, by kernel_rfl, by kernel_rfl⟩, by decide⟩
theorem res10 : c10.res = [.tmp 2] := rfl
def ZD (P : Program) (p : Lab) (Q : aA) (y2 : AV) (H : aB) (c : Nat) : Prop :=
  Q .ret [(2, y2)] H c
def ZC (P : Program) (p : Lab) (Q : aA) (H0 : aB) (w0 : List AV) (c : Nat) (_ : Unit) : Prop :=
  vFA 2 (.ptr (c :: p) w0.length 0 0) fun v8_7 =>
  aF 1 false v8_7 H0 fun v9_8 _ =>
  cS v9_8 fun v10_9 =>
  aJ .leq .num v10_9 (.int .i64 1100) fun v11_10 =>
  (ZD P p Q v11_10 H0 (c + 13))
def ZB (P : Program) (p : Lab) (Q : aA)  (H : aB) (c : Nat) : Prop :=
  Q .ret [(2, (.bool false))] H c
def ZA (P : Program) (p : Lab) (Q : aA) (H0 : aB) (c : Nat) (_ : Unit) : Prop :=
  (ZB P p Q  H0 (c + 13))
def V10 (P : Program) (p : Lab) (Q : aA) (x0 : AV) (H : aB) (c : Nat) : Prop :=
  zI x0 fun w0 =>
  (fun (H0 : aB) =>
  vFA 0 (.ptr (c :: p) w0.length 0 0) fun v3_2 =>
  aF 1 false v3_2 H0 fun v4_3 _ =>
  cS v4_3 fun v5_4 =>
  aJ .leq .num v5_4 (.int .i64 1100) fun v6_5 =>
  aL v6_5
  (ZC P p Q H0 w0 c)
  (ZA P p Q H0 c)) (upd [((c :: p), some (.rows w0.length [w0]))] H)
theorem vt10 (P : Program) (p : Lab) (Q : aA) (x0 : AV) (H : aB) (c : Nat) : vc P p c10.body Q [(0, x0)] H c = V10 P p Q x0 H c := by kernel_rfl


/-- duet/duetlaw18.key -/
def c13 : AFun := ⟨1, 8, [.cell 2 2 true],
  (.seq (.region [⟨(some 1), none, .box, [.t 0]⟩, ⟨(some 2), none, (.alloc [(.int .i64 0), (.int .i64 0)]), []⟩] none [1, 2])
  (.seq (.region [⟨(some 3), none, (.fieldAddr 0), [.t 1]⟩, ⟨(some 4), none, (.load 1 false), [.t 3]⟩, ⟨(some 5), none, (.fieldAddr 1), [.t 1]⟩, ⟨(some 6), none, (.load 1 false), [.t 5]⟩, ⟨(some 7), none, (.build [(.int .i64 0), (.int .i64 0)] [(0, 1), (1, 1)]), [.t 4, .t 6]⟩, ⟨none, none, (.store 2), [.t 2, .t 7]⟩] none [2])
  .ret))⟩
theorem ok13 : FunOk Try.prog 13 c13 := ⟨⟨Try.f13, _, Try.func13, rfl, by kernel_rfl, by kernel_rfl, by kernel_rfl, by kernel_rfl⟩, by decide⟩
theorem res13 : c13.res = [.cell 2 2 true] := rfl
def V13 (P : Program) (p : Lab) (Q : aA) (x0 : AV) (H : aB) (c : Nat) : Prop :=
  zI x0 fun w0 =>
  (fun (H0 : aB) =>
  (fun (H1 : aB) =>
  vFA 0 (.ptr (c :: p) w0.length 0 0) fun v3_2 =>
  aF 1 false v3_2 H1 fun v4_3 _ =>
  vFA 1 (.ptr (c :: p) w0.length 0 0) fun v5_4 =>
  aF 1 false v5_4 H1 fun v6_5 _ =>
  gB [(.int .i64 0), (.int .i64 0)] [(0, 1), (1, 1)] [v4_3, v6_5] fun v7_6 =>
  aM (.store 2) [(.ptr ((c + 1) :: p) 2 0 0), v7_6] H1 ((c + 7) :: p) (fun v_7 H7 l7 f7 =>
  Q .ret [(2, (.ptr ((c + 1) :: p) 2 0 0))] H7 (c + 8))) (upd [(((c + 1) :: p), some (.rows 2 [[(.int .i64 0), (.int .i64 0)]]))] H0)) (upd [((c :: p), some (.rows w0.length [w0]))] H)
theorem vt13 (P : Program) (p : Lab) (Q : aA) (x0 : AV) (H : aB) (c : Nat) : vc P p c13.body Q [(0, x0)] H c = V13 P p Q x0 H c := by kernel_rfl

def ZR : ACode := (.seq (.seq (.region [⟨(some 11), none, .move, [.t 5]⟩, ⟨(some 12), none, .move, [.t 0]⟩, ⟨(some 13), none, (.len .slice), [.t 12]⟩, ⟨(some 14), none, (.bin .lss .num), [.t 11, .t 13]⟩] none [0, 1, 5, 14])
  (.cond (.t 14) .skip
  (.exit 0)))
  (.seq (.block 1 (.seq (.region [⟨(some 17), none, .move, [.t 0]⟩, ⟨(some 18), none, .move, [.t 5]⟩, ⟨(some 19), none, (.indexAddr 1), [.t 17, .t 18]⟩, ⟨(some 20), none, (.load 1 false), [.t 19]⟩, ⟨(some 21), none, .move, [.t 1]⟩, ⟨(some 22), none, .move, [.t 5]⟩, ⟨(some 23), none, (.indexAddr 1), [.t 21, .t 22]⟩, ⟨(some 24), none, (.load 1 false), [.t 23]⟩, ⟨(some 25), none, (.bin .neq .num), [.t 20, .t 24]⟩] (some [0, 0, 3, 7, 0, 0, 48, 112, 255]) [0, 1, 5, 25])
  (.cond (.t 25) (.seq (.region [⟨(some 4), none, .move, [.c (.bool false)]⟩] none [4])
  .ret)
  .skip)))
  (.region [⟨(some 15), none, .move, [.t 5]⟩, ⟨(some 16), none, (.bin .add .num), [.t 15, .c (.int .i64 1)]⟩, ⟨(some 5), none, .move, [.t 16]⟩] none [0, 1, 5])))
def X4 : ACode := .loop [0, 1, 5] ZR
def PD : ACode := (.seq (.region [⟨(some 4), none, .move, [.c (.bool true)]⟩] none [4])
  .ret)
/-- duet/duetref01.Same -/
def c21 : AFun := ⟨2, 26, [.tmp 4],
  (.seq (.region [⟨(some 4), none, .move, [.c (.bool false)]⟩] none [0, 1])
  (.seq (.seq (.region [⟨(some 6), none, .move, [.t 0]⟩, ⟨(some 7), none, (.len .slice), [.t 6]⟩, ⟨(some 8), none, .move, [.t 1]⟩, ⟨(some 9), none, (.len .slice), [.t 8]⟩, ⟨(some 10), none, (.bin .neq .num), [.t 7, .t 9]⟩] none [0, 1, 10])
  (.cond (.t 10) (.seq (.region [⟨(some 4), none, .move, [.c (.bool false)]⟩] none [4])
  .ret)
  .skip))
  (.seq (.seq (.region [⟨(some 5), none, .move, [.c (.int .i64 0)]⟩] none [0, 1, 5])
  (.block 0 X4)) PD)))⟩
theorem ok21 : FunOk Try.prog 21 c21 := ⟨⟨Try.f21, _, Try.func21, rfl, by kernel_rfl, by kernel_rfl, by kernel_rfl, by kernel_rfl⟩, by decide⟩
theorem XQ : c21.res = [.tmp 4] := rfl
def V7 (P : Program) (p : Lab) (Q : aA)  (H : aB) (c : Nat) : Prop :=
  Q .ret [(4, (.bool false))] H c
def V6 (P : Program) (p : Lab) (Q : aA) (H : aB) (c : Nat) (_ : Unit) : Prop :=
  (V7 P p Q  H (c + 7))
def RM (P : Program) (p : Lab) (Q : aA) : aA := (jO 0 (qG (vc P p PD Q) Q))
theorem JV (P : Program) (p : Lab) (Q : aA) (r : RL) (H : aB) (c : Nat) : RM P p Q .ret r H c = Q .ret r H c := rfl
def V2 (P : Program) (p : Lab) (Q : aA) (y0 : AV) (y1 : AV) (y10 : AV) (H : aB) (c : Nat) : Prop :=
  vc P p X4 (RM P p Q) [(0, y0), (1, y1), (5, (.int .i64 0))] H (c + 1)
def V1 (P : Program) (p : Lab) (Q : aA) (v10_5 : AV) (x0 : AV) (x1 : AV) (H : aB) (c : Nat) (_ : Unit) : Prop :=
  (V2 P p Q x0 x1 v10_5 H (c + 6))
def V21 (P : Program) (p : Lab) (Q : aA) (x0 x1 : AV) (H : aB) (c : Nat) : Prop :=
  cS x0 fun v7_2 =>
  cS x1 fun v9_4 =>
  aJ .neq .num v7_2 v9_4 fun v10_5 =>
  aL v10_5
  (V6 P p Q H c)
  (V1 P p Q v10_5 x0 x1 H c)
theorem aAh (P : Program) (p : Lab) (Q : aA) (x0 x1 : AV) (H : aB) (c : Nat) : vc P p c21.body Q [(0, x0), (1, x1)] H c = V21 P p Q x0 x1 H c := by kernel_rfl
def VZ (P : Program) (p : Lab) (Q : aA)  (H : aB) (c : Nat) : Prop :=
  Q .ret [(4, (.bool false))] H c
def VY (P : Program) (p : Lab) (Q : aA) (H : aB) (c : Nat) (_ : Unit) : Prop :=
  (VZ P p Q  H (c + 10))
def VX (P : Program) (p : Lab) (Q : aA) (y0 : AV) (y1 : AV) (y5 : AV) (y25 : AV) (H : aB) (c : Nat) : Prop :=
  aJ .add .num y5 (.int .i64 1) fun v16_23 =>
  Q .normal [(0, y0), (1, y1), (5, v16_23)] H (c + 3)
def VW (P : Program) (p : Lab) (Q : aA) (v25_20 : AV) (y0 : AV) (y1 : AV) (y5 : AV) (H : aB) (c : Nat) (_ : Unit) : Prop :=
  (VX P p Q y0 y1 y5 v25_20 H (c + 9))
def V0 (P : Program) (p : Lab) (Q : aA) (y0 : AV) (y1 : AV) (y5 : AV) (y14 : AV) (H : aB) (c : Nat) : Prop :=
  vIx 1 y0 y5 fun v19_14 =>
  aF 1 false v19_14 H fun v20_15 f15 =>
  vIx 1 y1 y5 fun v23_18 =>
  aF 1 false v23_18 H fun v24_19 f19 =>
  aJ .neq .num v20_15 v24_19 fun v25_20 =>
  aI [0, 0, 3, 7, 0, 0, 48, 112, 255] (aH 3 [] ((c + 3) :: p) f15 (aH 7 [] ((c + 7) :: p) f19 [])) ∧
  aL v25_20
  (VY P p Q H c)
  (VW P p Q v25_20 y0 y1 y5 H c)
def VV (P : Program) (p : Lab) (Q : aA) (v14_11 : AV) (x0 : AV) (x1 : AV) (x5 : AV) (H : aB) (c : Nat) (_ : Unit) : Prop :=
  (V0 P p Q x0 x1 x5 v14_11 H (c + 4))
def WP (P : Program) (p : Lab) (Q : aA) (x0 x1 x5 : AV) (H : aB) (c : Nat) : Prop :=
  cS x0 fun v13_10 =>
  aJ .lss .num x5 v13_10 fun v14_11 =>
  aL v14_11
  (VV P p Q v14_11 x0 x1 x5 H c)
  (fun _ =>
  Q (.exit 0) [(0, x0), (1, x1), (5, x5), (14, v14_11)] H (c + 4))
theorem QR (P : Program) (p : Lab) (Q : aA) (x0 x1 x5 : AV) (H : aB) (c : Nat) : vc P p ZR Q [(0, x0), (1, x1), (5, x5)] H c = WP P p Q x0 x1 x5 H c := by kernel_rfl
theorem MH (P : Program) (p : Lab) (Q : aA) (r : RL) (H : aB) (c : Nat) : RM P p Q (.exit 0) r H c = (vc P p PD Q r H c) := rfl
def WO (P : Program) (p : Lab) (Q : aA) (x0 x1 x5 x14 : AV) (H : aB) (c : Nat) : Prop :=
  Q .ret [(4, (.bool true))] H (c + 1)
theorem QQ (P : Program) (p : Lab) (Q : aA) (x0 x1 x5 x14 : AV) (H : aB) (c : Nat) : vc P p PD Q [(0, x0), (1, x1), (5, x5), (14, x14)] H c = WO P p Q x0 x1 x5 x14 H c := by kernel_rfl


/-- slices.Clone[[]int,int] -/
def c25 : AFun := ⟨1, 8, [.tmp 2],
  (.seq (.region [⟨(some 2), none, .move, [.c .nils]⟩] none [0])
  (.seq (.seq (.region [⟨(some 3), none, .move, [.t 0]⟩, ⟨(some 4), none, (.bin .eql .slice), [.t 3, .c .nils]⟩] none [0, 4])
  (.cond (.t 4) (.seq (.region [⟨(some 2), none, .move, [.c .nils]⟩] none [2])
  .ret)
  .skip))
  (.seq (.region [⟨(some 5), none, (.buildSlice 1 [] []), []⟩, ⟨(some 6), none, .move, [.t 0]⟩, ⟨(some 7), none, (.append 1 8), [.t 5, .t 6]⟩, ⟨(some 2), none, .move, [.t 7]⟩] none [2])
  .ret)))⟩
theorem ok25 : FunOk Try.prog 25 c25 := ⟨⟨Try.f25, _, Try.func25, rfl, by kernel_rfl, by kernel_rfl, by kernel_rfl, by kernel_rfl⟩, by decide⟩
theorem OV : c25.res = [.tmp 2] := rfl
def MZ (P : Program) (p : Lab) (Q : aA)  (H : aB) (c : Nat) : Prop :=
  Q .ret [(2, .nils)] H c
def MY (P : Program) (p : Lab) (Q : aA) (H : aB) (c : Nat) (_ : Unit) : Prop :=
  (MZ P p Q  H (c + 4))
def MX (P : Program) (p : Lab) (Q : aA) (y0 : AV) (y4 : AV) (H : aB) (c : Nat) : Prop :=
  jP 1 [] [] [] fun w4 n4 =>
  (fun (H4 : aB) =>
  aM (.append 1 8) [(.sl (c :: p) 1 0 n4), y0] H4 ((c + 2) :: p) (fun v7_6 H6 l6 f6 =>
  Q .ret [(2, v7_6)] H6 (c + 4))) (upd [((c :: p), some (.rows 1 w4))] H)
def MW (P : Program) (p : Lab) (Q : aA) (v4_2 : AV) (x0 : AV) (H : aB) (c : Nat) (_ : Unit) : Prop :=
  (MX P p Q x0 v4_2 H (c + 3))
def V25 (P : Program) (p : Lab) (Q : aA) (x0 : AV) (H : aB) (c : Nat) : Prop :=
  L7 x0 .nils fun v4_2 =>
  aL v4_2
  (MY P p Q H c)
  (MW P p Q v4_2 x0 H c)
theorem WV (P : Program) (p : Lab) (Q : aA) (x0 : AV) (H : aB) (c : Nat) : vc P p c25.body Q [(0, x0)] H c = V25 P p Q x0 H c := by kernel_rfl

def ZJ : ACode := (.seq (.seq (.region [⟨(some 7), none, .move, [.t 2]⟩, ⟨(some 8), none, .move, [.t 3]⟩, ⟨(some 9), none, (.bin .lss .num), [.t 7, .t 8]⟩] none [0, 2, 3, 9])
  (.cond (.t 9) .skip
  (.exit 0)))
  (.seq (.block 1 (.region [⟨(some 14), none, .move, [.t 0]⟩, ⟨(some 15), none, .move, [.t 2]⟩, ⟨(some 16), none, .move, [.t 0]⟩, ⟨(some 17), none, .move, [.t 3]⟩, ⟨(some 18), none, .move, [.t 0]⟩, ⟨(some 19), none, .move, [.t 3]⟩, ⟨(some 20), none, (.indexAddr 1), [.t 18, .t 19]⟩, ⟨(some 21), none, (.load 1 false), [.t 20]⟩, ⟨(some 22), none, .move, [.t 0]⟩, ⟨(some 23), none, .move, [.t 2]⟩, ⟨(some 24), none, (.indexAddr 1), [.t 22, .t 23]⟩, ⟨(some 25), none, (.load 1 false), [.t 24]⟩, ⟨(some 26), none, (.indexAddr 1), [.t 14, .t 15]⟩, ⟨none, none, (.store 1), [.t 26, .t 21]⟩, ⟨(some 27), none, (.indexAddr 1), [.t 16, .t 17]⟩, ⟨none, none, (.store 1), [.t 27, .t 25]⟩] (some [0, 0, 0, 0, 0, 0, 48, 112, 0, 0, 768, 1792, 4083, 8179, 16383, 32767]) [0, 2, 3]))
  (.region [⟨(some 10), none, .move, [.t 2]⟩, ⟨(some 11), none, (.bin .add .num), [.t 10, .c (.int .i64 1)]⟩, ⟨(some 12), none, .move, [.t 3]⟩, ⟨(some 13), none, (.bin .sub .num), [.t 12, .c (.int .i64 1)]⟩, ⟨(some 2), none, .move, [.t 11]⟩, ⟨(some 3), none, .move, [.t 13]⟩] none [0, 2, 3])))
def XY : ACode := .loop [0, 2, 3] ZJ
/-- slices.Reverse[[]int,int] -/
def c35 : AFun := ⟨1, 28, [],
  (.seq (.region [⟨(some 4), none, .move, [.t 0]⟩, ⟨(some 5), none, (.len .slice), [.t 4]⟩, ⟨(some 6), none, (.bin .sub .num), [.t 5, .c (.int .i64 1)]⟩, ⟨(some 2), none, .move, [.c (.int .i64 0)]⟩, ⟨(some 3), none, .move, [.t 6]⟩] none [0, 2, 3])
  (.block 0 XY))⟩
theorem ok35 : FunOk Try.prog 35 c35 := ⟨⟨Try.f35, _, Try.func35, rfl, by kernel_rfl, by kernel_rfl, by kernel_rfl, by kernel_rfl⟩, by decide⟩
theorem MD : c35.res = [] := rfl
def RE (P : Program) (p : Lab) (Q : aA) : aA := (jO 0 Q)
theorem wW (P : Program) (p : Lab) (Q : aA) (r : RL) (H : aB) (c : Nat) : RE P p Q .ret r H c = Q .ret r H c := rfl
def V35 (P : Program) (p : Lab) (Q : aA) (x0 : AV) (H : aB) (c : Nat) : Prop :=
  cS x0 fun v5_1 =>
  aJ .sub .num v5_1 (.int .i64 1) fun v6_2 =>
  vc P p XY (RE P p Q) [(0, x0), (2, (.int .i64 0)), (3, v6_2)] H (c + 5)
theorem QP (P : Program) (p : Lab) (Q : aA) (x0 : AV) (H : aB) (c : Nat) : vc P p c35.body Q [(0, x0)] H c = V35 P p Q x0 H c := by kernel_rfl
def KH (P : Program) (p : Lab) (Q : aA) (l21 : List Lab) (f21 : Option (List Lab)) (f19 : Option (List Lab)) (f15 : Option (List Lab)) (y0 : AV) (y2 : AV) (y3 : AV) (c : Nat) (v_23 : AV) (H23 : aB) (l23 : List Lab) (f23 : Option (List Lab)) : Prop :=
  aI [0, 0, 0, 0, 0, 0, 48, 112, 0, 0, 768, 1792, 4083, 8179, 16383, 32767] (aH 7 [] ((c + 7) :: p) f15 (aH 11 [] ((c + 11) :: p) f19 (aH 13 l21 ((c + 13) :: p) f21 (aH 15 l23 ((c + 15) :: p) f23 [])))) ∧
  aJ .add .num y2 (.int .i64 1) fun v11_25 =>
  aJ .sub .num y3 (.int .i64 1) fun v13_27 =>
  Q .normal [(0, y0), (2, v11_25), (3, v13_27)] H23 (c + 22)
def KG (P : Program) (p : Lab) (Q : aA) (v25_19 : AV) (f19 : Option (List Lab)) (f15 : Option (List Lab)) (y0 : AV) (y2 : AV) (y3 : AV) (c : Nat) (v_21 : AV) (H21 : aB) (l21 : List Lab) (f21 : Option (List Lab)) : Prop :=
  vIx 1 y0 y3 fun v27_22 =>
  aM (.store 1) [v27_22, v25_19] H21 ((c + 15) :: p) (KH P p Q l21 f21 f19 f15 y0 y2 y3 c)
def KI (P : Program) (p : Lab) (Q : aA) (y0 : AV) (y2 : AV) (y3 : AV) (y9 : AV) (H : aB) (c : Nat) : Prop :=
  vIx 1 y0 y3 fun v20_14 =>
  aF 1 false v20_14 H fun v21_15 f15 =>
  vIx 1 y0 y2 fun v24_18 =>
  aF 1 false v24_18 H fun v25_19 f19 =>
  vIx 1 y0 y2 fun v26_20 =>
  aM (.store 1) [v26_20, v21_15] H ((c + 13) :: p) (KG P p Q v25_19 f19 f15 y0 y2 y3 c)
def KE (P : Program) (p : Lab) (Q : aA) (v9_7 : AV) (x0 : AV) (x2 : AV) (x3 : AV) (H : aB) (c : Nat) (_ : Unit) : Prop :=
  (KI P p Q x0 x2 x3 v9_7 H (c + 3))
def K8 (P : Program) (p : Lab) (Q : aA) (x0 x2 x3 : AV) (H : aB) (c : Nat) : Prop :=
  aJ .lss .num x2 x3 fun v9_7 =>
  aL v9_7
  (KE P p Q v9_7 x0 x2 x3 H c)
  (fun _ =>
  Q (.exit 0) [(0, x0), (2, x2), (3, x3), (9, v9_7)] H (c + 3))
theorem GS (P : Program) (p : Lab) (Q : aA) (x0 x2 x3 : AV) (H : aB) (c : Nat) : vc P p ZJ Q [(0, x0), (2, x2), (3, x3)] H c = K8 P p Q x0 x2 x3 H c := by kernel_rfl
theorem zS (P : Program) (p : Lab) (Q : aA) (r : RL) (H : aB) (c : Nat) : RE P p Q (.exit 0) r H c = (Q .normal r H c) := rfl

def ZI : ACode := (.seq (.region [⟨(some 9), none, (.bin .lss .num), [.t 8, .t 7]⟩] none [0, 1, 7, 8, 9])
  (.seq (.cond (.t 9) .skip
  (.exit 0))
  (.seq (.block 1 (.seq (.region [⟨(some 10), none, .move, [.t 8]⟩, ⟨(some 5), none, .move, [.t 10]⟩] none [0, 1, 5, 7, 8])
  (.seq (.region [⟨(some 11), none, .move, [.t 1]⟩, ⟨(some 12), none, .move, [.t 0]⟩, ⟨(some 13), none, .move, [.t 5]⟩, ⟨(some 14), none, (.indexAddr 1), [.t 12, .t 13]⟩, ⟨(some 15), none, (.load 1 false), [.t 14]⟩, ⟨(some 16), none, .call, [.t 11, .t 15]⟩] none [0, 1, 5, 7, 8, 16])
  (.cond (.t 16) (.seq (.region [⟨(some 17), none, .move, [.t 5]⟩, ⟨(some 4), none, .move, [.t 17]⟩] none [4])
  .ret)
  .skip))))
  (.region [⟨(some 18), none, (.bin .add .num), [.t 8, .c (.int .i64 1)]⟩, ⟨(some 8), none, .move, [.t 18]⟩] none [0, 1, 7, 8]))))
def XX : ACode := .loop [0, 1, 7, 8] ZI
def O6 : ACode := (.seq (.region [⟨(some 4), none, .move, [.c (.int .i64 (-1))]⟩] none [4])
  .ret)
/-- slices.IndexFunc[[]int,int] -/
def c36 : AFun := ⟨2, 19, [.tmp 4],
  (.seq (.region [⟨(some 4), none, .move, [.c (.int .i64 0)]⟩] none [0, 1])
  (.seq (.seq (.region [⟨(some 6), none, .move, [.t 0]⟩, ⟨(some 7), none, (.len .slice), [.t 6]⟩, ⟨(some 8), none, .move, [.c (.int .i64 0)]⟩] none [0, 1, 7, 8])
  (.block 0 XX)) O6))⟩
theorem ok36 : FunOk Try.prog 36 c36 := ⟨⟨Try.f36, _, Try.func36, rfl, by kernel_rfl, by kernel_rfl, by kernel_rfl, by kernel_rfl⟩, by decide⟩
theorem MC : c36.res = [.tmp 4] := rfl
def RD (P : Program) (p : Lab) (Q : aA) : aA := (jO 0 (qG (vc P p O6 Q) Q))
theorem wV (P : Program) (p : Lab) (Q : aA) (r : RL) (H : aB) (c : Nat) : RD P p Q .ret r H c = Q .ret r H c := rfl
def V36 (P : Program) (p : Lab) (Q : aA) (x0 x1 : AV) (H : aB) (c : Nat) : Prop :=
  cS x0 fun v7_2 =>
  vc P p XX (RD P p Q) [(0, x0), (1, x1), (7, v7_2), (8, (.int .i64 0))] H (c + 4)
theorem QO (P : Program) (p : Lab) (Q : aA) (x0 x1 : AV) (H : aB) (c : Nat) : vc P p c36.body Q [(0, x0), (1, x1)] H c = V36 P p Q x0 x1 H c := by kernel_rfl
def KC (P : Program) (p : Lab) (Q : aA) (y4 : AV) (H : aB) (c : Nat) : Prop :=
  Q .ret [(4, y4)] H c
def KA (P : Program) (p : Lab) (Q : aA) (H12 : aB) (y8 : AV) (c : Nat) (_ : Unit) : Prop :=
  (KC P p Q y8 H12 (c + 10))
def J9 (P : Program) (p : Lab) (Q : aA) (y0 : AV) (y1 : AV) (y5 : AV) (y7 : AV) (y8 : AV) (y16 : AV) (H : aB) (c : Nat) : Prop :=
  aJ .add .num y8 (.int .i64 1) fun v18_15 =>
  Q .normal [(0, y0), (1, y1), (7, y7), (8, v18_15)] H (c + 2)
def J8 (P : Program) (p : Lab) (Q : aA) (v16_12 : AV) (H12 : aB) (y0 : AV) (y1 : AV) (y7 : AV) (y8 : AV) (c : Nat) (_ : Unit) : Prop :=
  (J9 P p Q y0 y1 y8 y7 y8 v16_12 H12 (c + 8))
def J7 (P : Program) (p : Lab) (Q : aA) (y0 : AV) (y1 : AV) (y7 : AV) (y8 : AV) (c : Nat) (v16_12 : AV) (H12 : aB) (l12 : List Lab) (f12 : Option (List Lab)) : Prop :=
  aL v16_12
  (KA P p Q H12 y8 c)
  (J8 P p Q v16_12 H12 y0 y1 y7 y8 c)
def KD (P : Program) (p : Lab) (Q : aA) (y0 : AV) (y1 : AV) (y7 : AV) (y8 : AV) (y9 : AV) (H : aB) (c : Nat) : Prop :=
  vIx 1 y0 y8 fun v14_10 =>
  aF 1 false v14_10 H fun v15_11 _ =>
  QH P .call [y1, v15_11] H ((c + 7) :: p) (J7 P p Q y0 y1 y7 y8 c)
def J6 (P : Program) (p : Lab) (Q : aA) (v9_4 : AV) (x0 : AV) (x1 : AV) (x7 : AV) (x8 : AV) (H : aB) (c : Nat) (_ : Unit) : Prop :=
  (KD P p Q x0 x1 x7 x8 v9_4 H (c + 1))
def K7 (P : Program) (p : Lab) (Q : aA) (x0 x1 x7 x8 : AV) (H : aB) (c : Nat) : Prop :=
  aJ .lss .num x8 x7 fun v9_4 =>
  aL v9_4
  (J6 P p Q v9_4 x0 x1 x7 x8 H c)
  (fun _ =>
  Q (.exit 0) [(0, x0), (1, x1), (7, x7), (8, x8), (9, v9_4)] H (c + 1))
theorem GR (P : Program) (p : Lab) (Q : aA) (x0 x1 x7 x8 : AV) (H : aB) (c : Nat) : vc P p ZI Q [(0, x0), (1, x1), (7, x7), (8, x8)] H c = K7 P p Q x0 x1 x7 x8 H c := by kernel_rfl
theorem zR (P : Program) (p : Lab) (Q : aA) (r : RL) (H : aB) (c : Nat) : RD P p Q (.exit 0) r H c = (vc P p O6 Q r H c) := rfl
def K6 (P : Program) (p : Lab) (Q : aA) (x0 x1 x7 x8 x9 : AV) (H : aB) (c : Nat) : Prop :=
  Q .ret [(4, (.int .i64 (-1)))] H (c + 1)
theorem GQ (P : Program) (p : Lab) (Q : aA) (x0 x1 x7 x8 x9 : AV) (H : aB) (c : Nat) : vc P p O6 Q [(0, x0), (1, x1), (7, x7), (8, x8), (9, x9)] H c = K6 P p Q x0 x1 x7 x8 x9 H c := by kernel_rfl

def ZQ : ACode := (.seq (.region [⟨(some 28), none, (.bin .lss .num), [.t 27, .t 26]⟩] none [0, 1, 25, 26, 27, 28])
  (.seq (.cond (.t 28) .skip
  (.exit 0))
  (.seq (.block 1 (.seq (.region [⟨(some 29), none, (.indexAddr 1), [.t 25, .t 27]⟩, ⟨(some 30), none, (.load 1 false), [.t 29]⟩, ⟨(some 9), none, (.alloc [(.bool false)]), []⟩, ⟨none, none, (.store 1), [.t 9, .t 30]⟩] none [0, 1, 9, 25, 26, 27])
  (.seq (.region [⟨(some 31), none, .move, [.t 0]⟩, ⟨(some 32), none, .move, [.t 1]⟩, ⟨(some 33), none, (.slice 1 true false false), [.t 31, .t 32]⟩, ⟨(some 34), none, (.mkfn (.func 37) 0), [.t 9]⟩, ⟨(some 35), none, .call, [.c (.fn (.func 36) [] []), .t 33, .t 34]⟩, ⟨(some 10), none, .move, [.t 35]⟩] none [0, 1, 10, 25, 26, 27])
  (.seq (.seq (.region [⟨(some 36), none, .move, [.t 10]⟩, ⟨(some 37), none, (.bin .lss .num), [.t 36, .c (.int .i64 0)]⟩] none [0, 1, 10, 25, 26, 27, 37])
  (.cond (.t 37) (.seq (.region [⟨(some 38), none, .move, [.t 0]⟩, ⟨(some 39), none, (.len .slice), [.t 38]⟩, ⟨(some 6), none, .move, [.t 39]⟩] none [6])
  .ret)
  .skip))
  (.region [⟨(some 40), none, .move, [.t 1]⟩, ⟨(some 41), none, .move, [.t 10]⟩, ⟨(some 42), none, (.bin .add .num), [.t 40, .t 41]⟩, ⟨(some 1), none, .move, [.t 42]⟩] none [0, 1, 25, 26, 27])))))
  (.region [⟨(some 43), none, (.bin .add .num), [.t 27, .c (.int .i64 1)]⟩, ⟨(some 27), none, .move, [.t 43]⟩] none [0, 1, 25, 26, 27]))))
def X3 : ACode := .loop [0, 1, 25, 26, 27] ZQ
def PC : ACode := (.seq (.region [⟨(some 44), none, .move, [.t 1]⟩, ⟨(some 6), none, .move, [.t 44]⟩] none [6])
  .ret)
/-- duet/edit.Word -/
def c22 : AFun := ⟨3, 45, [.tmp 6],
  (.seq (.region [⟨(some 6), none, .move, [.c (.int .i64 0)]⟩] none [0, 1, 2])
  (.seq (.region [⟨(some 11), none, .move, [.t 0]⟩, ⟨(some 12), none, .move, [.t 1]⟩, ⟨(some 13), none, .call, [.c (.fn (.func 26) [] []), .t 11, .t 12]⟩, ⟨(some 1), none, .move, [.t 13]⟩] none [0, 1, 2])
  (.seq (.seq (.region [⟨(some 14), none, .move, [.t 2]⟩] none [0, 1, 14])
  (.cond (.t 14) (.seq (.region [⟨(some 15), none, .move, [.t 0]⟩, ⟨(some 16), none, .move, [.t 1]⟩, ⟨(some 17), none, (.slice 1 false true false), [.t 15, .t 16]⟩, ⟨(some 18), none, .call, [.c (.fn (.func 25) [] []), .t 17]⟩, ⟨(some 7), none, .move, [.t 18]⟩] none [1, 7])
  (.seq (.region [⟨(some 19), none, .move, [.t 7]⟩, ⟨(some 20), none, .call, [.c (.fn (.func 35) [] []), .t 19]⟩] none [1, 7])
  (.seq (.region [⟨(some 21), none, .move, [.t 1]⟩, ⟨(some 22), none, .move, [.t 7]⟩, ⟨(some 23), none, .call, [.c (.fn (.func 22) [] []), .t 22, .c (.int .i64 0), .c (.bool false)]⟩, ⟨(some 24), none, (.bin .sub .num), [.t 21, .t 23]⟩, ⟨(some 6), none, .move, [.t 24]⟩] none [6])
  .ret)))
  .skip))
  (.seq (.seq (.region [⟨(some 25), none, (.buildSlice 1 [(.bool false), (.bool false)] [(0, 1), (1, 1)]), [.c (.bool false), .c (.bool true)]⟩, ⟨(some 26), none, (.len .slice), [.t 25]⟩, ⟨(some 27), none, .move, [.c (.int .i64 0)]⟩] none [0, 1, 25, 26, 27])
  (.block 0 X3)) PC))))⟩
theorem ok22 : FunOk Try.prog 22 c22 := ⟨⟨Try.f22, _, Try.func22, rfl, by kernel_rfl, by kernel_rfl, by kernel_rfl, by kernel_rfl⟩, by decide⟩
theorem q6 : c22.res = [.tmp 6] := rfl
def qS (P : Program) (p : Lab) (Q : aA) (v18_9 : AV) (y1 : AV) (c : Nat) (v20_12 : AV) (H12 : aB) (l12 : List Lab) (f12 : Option (List Lab)) : Prop :=
  aN true P 22 [v18_9, (.int .i64 0), (.bool false)] H12 ((c + 9) :: p) (fun v23_15 H15 l15 f15 =>
  aJ .sub .num y1 v23_15 fun v24_16 =>
  Q .ret [(6, v24_16)] H15 (c + 12))
def qR (P : Program) (p : Lab) (Q : aA) (y1 : AV) (c : Nat) (v18_9 : AV) (H9 : aB) (l9 : List Lab) (f9 : Option (List Lab)) : Prop :=
  aN true P 35 [v18_9] H9 ((c + 6) :: p) (qS P p Q v18_9 y1 c)
def qQ (P : Program) (p : Lab) (Q : aA) (y1 : AV) (c : Nat) (v17_8 : AV) (H8 : aB) (l8 : List Lab) (f8 : Option (List Lab)) : Prop :=
  aN true P 25 [v17_8] H8 ((c + 3) :: p) (qR P p Q y1 c)
def qT (P : Program) (p : Lab) (Q : aA) (y0 : AV) (y1 : AV) (H : aB) (c : Nat) : Prop :=
  aM (.slice 1 false true false) [y0, y1] H ((c + 2) :: p) (qQ P p Q y1 c)
def qP (P : Program) (p : Lab) (Q : aA) (v13_3 : AV) (H3 : aB) (x0 : AV) (c : Nat) (_ : Unit) : Prop :=
  (qT P p Q x0 v13_3 H3 (c + 6))
def RK (P : Program) (p : Lab) (Q : aA) : aA := (jO 0 (qG (vc P p PC Q) Q))
theorem cI (P : Program) (p : Lab) (Q : aA) (r : RL) (H : aB) (c : Nat) : RK P p Q .ret r H c = Q .ret r H c := rfl
def qO (P : Program) (p : Lab) (Q : aA) (y0 : AV) (y1 : AV) (y14 : AV) (H : aB) (c : Nat) : Prop :=
  jP 1 [(.bool false), (.bool false)] [(0, 1), (1, 1)] [(.bool false), (.bool true)] fun w18 n18 =>
  (fun (H18 : aB) =>
  cS (.sl (c :: p) 1 0 n18) fun v26_19 =>
  vc P p X3 (RK P p Q) [(0, y0), (1, y1), (25, (.sl (c :: p) 1 0 n18)), (26, v26_19), (27, (.int .i64 0))] H18 (c + 3)) (upd [((c :: p), some (.rows 1 w18))] H)
def qN (P : Program) (p : Lab) (Q : aA) (v13_3 : AV) (H3 : aB) (x0 : AV) (x2 : AV) (c : Nat) (_ : Unit) : Prop :=
  (qO P p Q x0 v13_3 x2 H3 (c + 6))
def qM (P : Program) (p : Lab) (Q : aA) (x0 : AV) (x2 : AV) (c : Nat) (v13_3 : AV) (H3 : aB) (l3 : List Lab) (f3 : Option (List Lab)) : Prop :=
  aL x2
  (qP P p Q v13_3 H3 x0 c)
  (qN P p Q v13_3 H3 x0 x2 c)
def V22 (P : Program) (p : Lab) (Q : aA) (x0 x1 x2 : AV) (H : aB) (c : Nat) : Prop :=
  aN true P 26 [x0, x1] H ((c + 3) :: p) (qM P p Q x0 x2 c)
theorem xS (P : Program) (p : Lab) (Q : aA) (x0 x1 x2 : AV) (H : aB) (c : Nat) : vc P p c22.body Q [(0, x0), (1, x1), (2, x2)] H c = V22 P p Q x0 x1 x2 H c := by kernel_rfl
def qK (P : Program) (p : Lab) (Q : aA) (y6 : AV) (H : aB) (c : Nat) : Prop :=
  Q .ret [(6, y6)] H c
def mU (P : Program) (p : Lab) (Q : aA) (H30 : aB) (y0 : AV) (c : Nat) (_ : Unit) : Prop :=
  cS y0 fun v39_35 =>
  (qK P p Q v39_35 H30 (c + 15))
def mT (P : Program) (p : Lab) (Q : aA) (y0 : AV) (y1 : AV) (y10 : AV) (y25 : AV) (y26 : AV) (y27 : AV) (y37 : AV) (H : aB) (c : Nat) : Prop :=
  aJ .add .num y1 y10 fun v42_39 =>
  aJ .add .num y27 (.int .i64 1) fun v43_41 =>
  Q .normal [(0, y0), (1, v42_39), (25, y25), (26, y26), (27, v43_41)] H (c + 6)
def mS (P : Program) (p : Lab) (Q : aA) (v37_33 : AV) (v35_30 : AV) (H30 : aB) (y0 : AV) (y1 : AV) (y25 : AV) (y26 : AV) (y27 : AV) (c : Nat) (_ : Unit) : Prop :=
  (mT P p Q y0 y1 v35_30 y25 y26 y27 v37_33 H30 (c + 12))
def mR (P : Program) (p : Lab) (Q : aA) (y0 : AV) (y1 : AV) (y25 : AV) (y26 : AV) (y27 : AV) (c : Nat) (v35_30 : AV) (H30 : aB) (l30 : List Lab) (f30 : Option (List Lab)) : Prop :=
  aJ .lss .num v35_30 (.int .i64 0) fun v37_33 =>
  aL v37_33
  (mU P p Q H30 y0 c)
  (mS P p Q v37_33 v35_30 H30 y0 y1 y25 y26 y27 c)
def mQ (P : Program) (p : Lab) (Q : aA) (y0 : AV) (y1 : AV) (y25 : AV) (y26 : AV) (y27 : AV) (c : Nat) (v33_28 : AV) (H28 : aB) (l28 : List Lab) (f28 : Option (List Lab)) : Prop :=
  aN true P 36 [v33_28, (.fn (.func 37) [] [(.ptr ((c + 2) :: p) 1 0 0)])] H28 ((c + 8) :: p) (mR P p Q y0 y1 y25 y26 y27 c)
def mP (P : Program) (p : Lab) (Q : aA) (y0 : AV) (y1 : AV) (y25 : AV) (y26 : AV) (y27 : AV) (c : Nat) (v_25 : AV) (H25 : aB) (l25 : List Lab) (f25 : Option (List Lab)) : Prop :=
  aM (.slice 1 true false false) [y0, y1] H25 ((c + 6) :: p) (mQ P p Q y0 y1 y25 y26 y27 c)
def qL (P : Program) (p : Lab) (Q : aA) (y0 : AV) (y1 : AV) (y25 : AV) (y26 : AV) (y27 : AV) (y28 : AV) (H : aB) (c : Nat) : Prop :=
  vIx 1 y25 y27 fun v29_22 =>
  aF 1 false v29_22 H fun v30_23 _ =>
  (fun (H24 : aB) =>
  aM (.store 1) [(.ptr ((c + 2) :: p) 1 0 0), v30_23] H24 ((c + 3) :: p) (mP P p Q y0 y1 y25 y26 y27 c)) (upd [(((c + 2) :: p), some (.rows 1 [[(.bool false)]]))] H)
def mO (P : Program) (p : Lab) (Q : aA) (v28_21 : AV) (x0 : AV) (x1 : AV) (x25 : AV) (x26 : AV) (x27 : AV) (H : aB) (c : Nat) (_ : Unit) : Prop :=
  (qL P p Q x0 x1 x25 x26 x27 v28_21 H (c + 1))
def qW (P : Program) (p : Lab) (Q : aA) (x0 x1 x25 x26 x27 : AV) (H : aB) (c : Nat) : Prop :=
  aJ .lss .num x27 x26 fun v28_21 =>
  aL v28_21
  (mO P p Q v28_21 x0 x1 x25 x26 x27 H c)
  (fun _ =>
  Q (.exit 0) [(0, x0), (1, x1), (25, x25), (26, x26), (27, x27), (28, v28_21)] H (c + 1))
theorem nC (P : Program) (p : Lab) (Q : aA) (x0 x1 x25 x26 x27 : AV) (H : aB) (c : Nat) : vc P p ZQ Q [(0, x0), (1, x1), (25, x25), (26, x26), (27, x27)] H c = qW P p Q x0 x1 x25 x26 x27 H c := by kernel_rfl
theorem gD (P : Program) (p : Lab) (Q : aA) (r : RL) (H : aB) (c : Nat) : RK P p Q (.exit 0) r H c = (vc P p PC Q r H c) := rfl
def qV (P : Program) (p : Lab) (Q : aA) (x0 x1 x25 x26 x27 x28 : AV) (H : aB) (c : Nat) : Prop :=
  Q .ret [(6, x1)] H (c + 2)
theorem nB (P : Program) (p : Lab) (Q : aA) (x0 x1 x25 x26 x27 x28 : AV) (H : aB) (c : Nat) : vc P p PC Q [(0, x0), (1, x1), (25, x25), (26, x26), (27, x27), (28, x28)] H c = qV P p Q x0 x1 x25 x26 x27 x28 H c := by kernel_rfl

def ZP : ACode := (.seq (.seq (.region [⟨(some 11), none, .move, [.t 1]⟩, ⟨(some 12), none, (.bin .gtr .num), [.t 11, .c (.int .i64 0)]⟩, ⟨(some 13), none, .move, [.t 12]⟩, ⟨(some 14), (some (13, true)), .move, [.t 0]⟩, ⟨(some 15), (some (13, true)), .move, [.t 1]⟩, ⟨(some 16), (some (13, true)), (.bin .sub .num), [.t 15, .c (.int .i64 1)]⟩, ⟨(some 17), (some (13, true)), (.indexAddr 1), [.t 14, .t 16]⟩, ⟨(some 18), (some (13, true)), (.load 1 false), [.t 17]⟩, ⟨(some 19), (some (13, true)), .call, [.c (.fn (.func 39) [] []), .t 18]⟩, ⟨(some 20), (some (13, true)), (.un .not), [.t 19]⟩, ⟨(some 21), none, .pick, [.t 13, .t 20, .c (.bool false)]⟩] none [0, 1, 21])
  (.cond (.t 21) .skip
  (.exit 0)))
  (.block 1 (.region [⟨(some 22), none, .move, [.t 1]⟩, ⟨(some 23), none, (.bin .sub .num), [.t 22, .c (.int .i64 1)]⟩, ⟨(some 1), none, .move, [.t 23]⟩] none [0, 1])))
def X2 : ACode := .loop [0, 1] ZP
def ZO : ACode := (.seq (.seq (.region [⟨(some 24), none, .move, [.t 1]⟩, ⟨(some 25), none, (.bin .gtr .num), [.t 24, .c (.int .i64 0)]⟩, ⟨(some 26), none, .move, [.t 25]⟩, ⟨(some 27), (some (26, true)), .move, [.t 0]⟩, ⟨(some 28), (some (26, true)), .move, [.t 1]⟩, ⟨(some 29), (some (26, true)), (.bin .sub .num), [.t 28, .c (.int .i64 1)]⟩, ⟨(some 30), (some (26, true)), (.indexAddr 1), [.t 27, .t 29]⟩, ⟨(some 31), (some (26, true)), (.load 1 false), [.t 30]⟩, ⟨(some 32), (some (26, true)), .call, [.c (.fn (.func 39) [] []), .t 31]⟩, ⟨(some 33), none, .pick, [.t 26, .t 32, .c (.bool false)]⟩] none [0, 1, 33])
  (.cond (.t 33) .skip
  (.exit 2)))
  (.block 3 (.region [⟨(some 34), none, .move, [.t 1]⟩, ⟨(some 35), none, (.bin .sub .num), [.t 34, .c (.int .i64 1)]⟩, ⟨(some 1), none, .move, [.t 35]⟩] none [0, 1])))
def RY : ACode := .loop [0, 1] ZO
def PA : ACode := (.seq (.region [⟨(some 36), none, .move, [.t 1]⟩, ⟨(some 6), none, .move, [.t 36]⟩] none [6])
  .ret)
def PB : ACode := (.seq (.block 2 RY) PA)
def ZN : ACode := (.seq (.seq (.region [⟨(some 37), none, .move, [.t 1]⟩, ⟨(some 38), none, .move, [.t 0]⟩, ⟨(some 39), none, (.len .slice), [.t 38]⟩, ⟨(some 40), none, (.bin .lss .num), [.t 37, .t 39]⟩, ⟨(some 41), none, .move, [.t 40]⟩, ⟨(some 42), (some (41, true)), .move, [.t 0]⟩, ⟨(some 43), (some (41, true)), .move, [.t 1]⟩, ⟨(some 44), (some (41, true)), (.indexAddr 1), [.t 42, .t 43]⟩, ⟨(some 45), (some (41, true)), (.load 1 false), [.t 44]⟩, ⟨(some 46), (some (41, true)), .call, [.c (.fn (.func 39) [] []), .t 45]⟩, ⟨(some 47), (some (41, true)), (.un .not), [.t 46]⟩, ⟨(some 48), none, .pick, [.t 41, .t 47, .c (.bool false)]⟩] none [0, 1, 48])
  (.cond (.t 48) .skip
  (.exit 4)))
  (.block 5 (.region [⟨(some 49), none, .move, [.t 1]⟩, ⟨(some 50), none, (.bin .add .num), [.t 49, .c (.int .i64 1)]⟩, ⟨(some 1), none, .move, [.t 50]⟩] none [0, 1])))
def X1 : ACode := .loop [0, 1] ZN
def ZM : ACode := (.seq (.seq (.region [⟨(some 51), none, .move, [.t 1]⟩, ⟨(some 52), none, .move, [.t 0]⟩, ⟨(some 53), none, (.len .slice), [.t 52]⟩, ⟨(some 54), none, (.bin .lss .num), [.t 51, .t 53]⟩, ⟨(some 55), none, .move, [.t 54]⟩, ⟨(some 56), (some (55, true)), .move, [.t 0]⟩, ⟨(some 57), (some (55, true)), .move, [.t 1]⟩, ⟨(some 58), (some (55, true)), (.indexAddr 1), [.t 56, .t 57]⟩, ⟨(some 59), (some (55, true)), (.load 1 false), [.t 58]⟩, ⟨(some 60), (some (55, true)), .call, [.c (.fn (.func 39) [] []), .t 59]⟩, ⟨(some 61), none, .pick, [.t 55, .t 60, .c (.bool false)]⟩] none [0, 1, 61])
  (.cond (.t 61) .skip
  (.exit 6)))
  (.block 7 (.region [⟨(some 62), none, .move, [.t 1]⟩, ⟨(some 63), none, (.bin .add .num), [.t 62, .c (.int .i64 1)]⟩, ⟨(some 1), none, .move, [.t 63]⟩] none [0, 1])))
def RX : ACode := .loop [0, 1] ZM
def O8 : ACode := (.seq (.region [⟨(some 64), none, .move, [.t 1]⟩, ⟨(some 6), none, .move, [.t 64]⟩] none [6])
  .ret)
def O9 : ACode := (.seq (.block 6 RX) O8)
def MG : ACode := (.seq (.block 4 X1) O9)
/-- duet/duetref18.Word -/
def c23 : AFun := ⟨3, 65, [.tmp 6],
  (.seq (.region [⟨(some 6), none, .move, [.c (.int .i64 0)]⟩] none [0, 1, 2])
  (.seq (.region [⟨(some 7), none, .move, [.t 0]⟩, ⟨(some 8), none, .move, [.t 1]⟩, ⟨(some 9), none, .call, [.c (.fn (.func 29) [] []), .t 7, .t 8]⟩, ⟨(some 1), none, .move, [.t 9]⟩] none [0, 1, 2])
  (.seq (.seq (.region [⟨(some 10), none, .move, [.t 2]⟩] none [0, 1, 10])
  (.cond (.t 10) (.seq (.block 0 X2) PB)
  .skip)) MG)))⟩
theorem aAk : FunOk Try.prog 23 c23 := ⟨⟨Try.f23, _, Try.func23, rfl, by kernel_rfl, by kernel_rfl, by kernel_rfl, by kernel_rfl⟩, by decide⟩
theorem oV : c23.res = [.tmp 6] := rfl
def RJ (P : Program) (p : Lab) (Q : aA) : aA := (jO 0 (qG (vc P p PB (qG (vc P p MG Q) Q)) (qG (vc P p MG Q) Q)))
theorem bP (P : Program) (p : Lab) (Q : aA) (r : RL) (H : aB) (c : Nat) : RJ P p Q .ret r H c = Q .ret r H c := rfl
def RI (P : Program) (p : Lab) (Q : aA) : aA := (jO 4 (qG (vc P p O9 Q) Q))
theorem bO (P : Program) (p : Lab) (Q : aA) (r : RL) (H : aB) (c : Nat) : RI P p Q .ret r H c = Q .ret r H c := rfl
def oA (P : Program) (p : Lab) (Q : aA) (y0 : AV) (y1 : AV) (y10 : AV) (H : aB) (c : Nat) : Prop :=
  vc P p X1 (RI P p Q) [(0, y0), (1, y1), (10, y10)] H c
def n9 (P : Program) (p : Lab) (Q : aA) (v9_3 : AV) (H3 : aB) (x0 : AV) (x2 : AV) (c : Nat) (_ : Unit) : Prop :=
  (oA P p Q x0 v9_3 x2 H3 (c + 6))
def n8 (P : Program) (p : Lab) (Q : aA) (x0 : AV) (x2 : AV) (c : Nat) (v9_3 : AV) (H3 : aB) (l3 : List Lab) (f3 : Option (List Lab)) : Prop :=
  aL x2
  (fun _ =>
  vc P p X2 (RJ P p Q) [(0, x0), (1, v9_3), (10, x2)] H3 (c + 6))
  (n9 P p Q v9_3 H3 x0 x2 c)
def V23 (P : Program) (p : Lab) (Q : aA) (x0 x1 x2 : AV) (H : aB) (c : Nat) : Prop :=
  aN true P 29 [x0, x1] H ((c + 3) :: p) (n8 P p Q x0 x2 c)
theorem sZ (P : Program) (p : Lab) (Q : aA) (x0 x1 x2 : AV) (H : aB) (c : Nat) : vc P p c23.body Q [(0, x0), (1, x1), (2, x2)] H c = V23 P p Q x0 x1 x2 H c := by kernel_rfl
def n5 (P : Program) (p : Lab) (Q : aA) (y0 : AV) (y1 : AV) (y21 : AV) (H : aB) (c : Nat) : Prop :=
  aJ .sub .num y1 (.int .i64 1) fun v23_18 =>
  Q .normal [(0, y0), (1, v23_18)] H (c + 3)
def nZ (P : Program) (p : Lab) (Q : aA) (y0 : AV) (y1 : AV) (y21 : AV) (H : aB) (c : Nat) (_ : Unit) : Prop :=
  (n5 P p Q y0 y1 y21 H c)
def n7 (P : Program) (p : Lab) (Q : aA) (y0 : AV) (y1 : AV) (y21 : AV) (H : aB) (c : Nat) : Prop :=
  aL y21
  (nZ P p Q y0 y1 y21 H c)
  (fun _ =>
  Q (.exit 0) [(0, y0), (1, y1), (21, y21)] H c)
def nY (P : Program) (p : Lab) (Q : aA) (x0 : AV) (x1 : AV) (c : Nat) (v19_14 : AV) (H14 : aB) (l14 : List Lab) (f14 : Option (List Lab)) : Prop :=
  xU v19_14 fun v20_15 =>
  (n7 P p Q x0 x1 v20_15 H14 (c + 11))
def nX (P : Program) (p : Lab) (Q : aA) (x0 : AV) (x1 : AV) (H : aB) (c : Nat) (_ : Unit) : Prop :=
  aJ .sub .num x1 (.int .i64 1) fun v16_11 =>
  vIx 1 x0 v16_11 fun v17_12 =>
  aF 1 false v17_12 H fun v18_13 _ =>
  aN false P 39 [v18_13] H ((c + 8) :: p) (nY P p Q x0 x1 c)
def nW (P : Program) (p : Lab) (Q : aA) (y0 : AV) (y1 : AV) (H : aB) (c : Nat) : Prop :=
  Q (.exit 0) [(0, y0), (1, y1), (21, (.bool false))] H c
def nV (P : Program) (p : Lab) (Q : aA) (x0 : AV) (x1 : AV) (H : aB) (c : Nat) (_ : Unit) : Prop :=
  (nW P p Q x0 x1 H (c + 11))
def oL (P : Program) (p : Lab) (Q : aA) (x0 x1 : AV) (H : aB) (c : Nat) : Prop :=
  aJ .gtr .num x1 (.int .i64 0) fun v12_7 =>
  aL v12_7
  (nX P p Q x0 x1 H c)
  (nV P p Q x0 x1 H c)
theorem lQ (P : Program) (p : Lab) (Q : aA) (x0 x1 : AV) (H : aB) (c : Nat) : vc P p ZP Q [(0, x0), (1, x1)] H c = oL P p Q x0 x1 H c := by kernel_rfl
theorem cO (P : Program) (p : Lab) (Q : aA) (r : RL) (H : aB) (c : Nat) : RJ P p Q (.exit 0) r H c = (vc P p PB (qG (vc P p MG Q) Q) r H c) := rfl
def kT (P : Program) (p : Lab) (Q : aA) (y0 : AV) (y1 : AV) (y48 : AV) (H : aB) (c : Nat) : Prop :=
  aJ .add .num y1 (.int .i64 1) fun v50_34 =>
  Q .normal [(0, y0), (1, v50_34)] H (c + 3)
def kS (P : Program) (p : Lab) (Q : aA) (y0 : AV) (y1 : AV) (y48 : AV) (H : aB) (c : Nat) (_ : Unit) : Prop :=
  (kT P p Q y0 y1 y48 H c)
def kU (P : Program) (p : Lab) (Q : aA) (y0 : AV) (y1 : AV) (y48 : AV) (H : aB) (c : Nat) : Prop :=
  aL y48
  (kS P p Q y0 y1 y48 H c)
  (fun _ =>
  Q (.exit 4) [(0, y0), (1, y1), (48, y48)] H c)
def kR (P : Program) (p : Lab) (Q : aA) (x0 : AV) (x1 : AV) (c : Nat) (v46_30 : AV) (H30 : aB) (l30 : List Lab) (f30 : Option (List Lab)) : Prop :=
  xU v46_30 fun v47_31 =>
  (kU P p Q x0 x1 v47_31 H30 (c + 12))
def kQ (P : Program) (p : Lab) (Q : aA) (x0 : AV) (x1 : AV) (H : aB) (c : Nat) (_ : Unit) : Prop :=
  vIx 1 x0 x1 fun v44_28 =>
  aF 1 false v44_28 H fun v45_29 _ =>
  aN false P 39 [v45_29] H ((c + 9) :: p) (kR P p Q x0 x1 c)
def kP (P : Program) (p : Lab) (Q : aA) (y0 : AV) (y1 : AV) (H : aB) (c : Nat) : Prop :=
  Q (.exit 4) [(0, y0), (1, y1), (48, (.bool false))] H c
def kO (P : Program) (p : Lab) (Q : aA) (x0 : AV) (x1 : AV) (H : aB) (c : Nat) (_ : Unit) : Prop :=
  (kP P p Q x0 x1 H (c + 12))
def oH (P : Program) (p : Lab) (Q : aA) (x0 x1 : AV) (H : aB) (c : Nat) : Prop :=
  cS x0 fun v39_23 =>
  aJ .lss .num x1 v39_23 fun v40_24 =>
  aL v40_24
  (kQ P p Q x0 x1 H c)
  (kO P p Q x0 x1 H c)
theorem lL (P : Program) (p : Lab) (Q : aA) (x0 x1 : AV) (H : aB) (c : Nat) : vc P p ZN Q [(0, x0), (1, x1)] H c = oH P p Q x0 x1 H c := by kernel_rfl
theorem cN (P : Program) (p : Lab) (Q : aA) (r : RL) (H : aB) (c : Nat) : RI P p Q (.exit 4) r H c = (vc P p O9 Q r H c) := rfl
def PK (P : Program) (p : Lab) (Q : aA) : aA := (jO 2 (qG (vc P p PA Q) Q))
theorem bN (P : Program) (p : Lab) (Q : aA) (r : RL) (H : aB) (c : Nat) : PK P p Q .ret r H c = Q .ret r H c := rfl
def oK (P : Program) (p : Lab) (Q : aA) (x0 x1 x21 : AV) (H : aB) (c : Nat) : Prop :=
  vc P p RY (PK P p Q) [(0, x0), (1, x1), (21, x21)] H c
theorem lP (P : Program) (p : Lab) (Q : aA) (x0 x1 x21 : AV) (H : aB) (c : Nat) : vc P p PB Q [(0, x0), (1, x1), (21, x21)] H c = oK P p Q x0 x1 x21 H c := by kernel_rfl
def PJ (P : Program) (p : Lab) (Q : aA) : aA := (jO 6 (qG (vc P p O8 Q) Q))
theorem bM (P : Program) (p : Lab) (Q : aA) (r : RL) (H : aB) (c : Nat) : PJ P p Q .ret r H c = Q .ret r H c := rfl
def oG (P : Program) (p : Lab) (Q : aA) (x0 x1 x48 : AV) (H : aB) (c : Nat) : Prop :=
  vc P p RX (PJ P p Q) [(0, x0), (1, x1), (48, x48)] H c
theorem lK (P : Program) (p : Lab) (Q : aA) (x0 x1 x48 : AV) (H : aB) (c : Nat) : vc P p O9 Q [(0, x0), (1, x1), (48, x48)] H c = oG P p Q x0 x1 x48 H c := by kernel_rfl
def kM (P : Program) (p : Lab) (Q : aA) (y0 : AV) (y1 : AV) (y33 : AV) (H : aB) (c : Nat) : Prop :=
  aJ .sub .num y1 (.int .i64 1) fun v35_48 =>
  Q .normal [(0, y0), (1, v35_48)] H (c + 3)
def kL (P : Program) (p : Lab) (Q : aA) (y0 : AV) (y1 : AV) (y33 : AV) (H : aB) (c : Nat) (_ : Unit) : Prop :=
  (kM P p Q y0 y1 y33 H c)
def kN (P : Program) (p : Lab) (Q : aA) (y0 : AV) (y1 : AV) (y33 : AV) (H : aB) (c : Nat) : Prop :=
  aL y33
  (kL P p Q y0 y1 y33 H c)
  (fun _ =>
  Q (.exit 2) [(0, y0), (1, y1), (33, y33)] H c)
def kK (P : Program) (p : Lab) (Q : aA) (x0 : AV) (x1 : AV) (c : Nat) (v32_45 : AV) (H45 : aB) (l45 : List Lab) (f45 : Option (List Lab)) : Prop :=
  (kN P p Q x0 x1 v32_45 H45 (c + 10))
def kJ (P : Program) (p : Lab) (Q : aA) (x0 : AV) (x1 : AV) (H : aB) (c : Nat) (_ : Unit) : Prop :=
  aJ .sub .num x1 (.int .i64 1) fun v29_42 =>
  vIx 1 x0 v29_42 fun v30_43 =>
  aF 1 false v30_43 H fun v31_44 _ =>
  aN false P 39 [v31_44] H ((c + 8) :: p) (kK P p Q x0 x1 c)
def kI (P : Program) (p : Lab) (Q : aA) (y0 : AV) (y1 : AV) (H : aB) (c : Nat) : Prop :=
  Q (.exit 2) [(0, y0), (1, y1), (33, (.bool false))] H c
def kH (P : Program) (p : Lab) (Q : aA) (x0 : AV) (x1 : AV) (H : aB) (c : Nat) (_ : Unit) : Prop :=
  (kI P p Q x0 x1 H (c + 10))
def oJ (P : Program) (p : Lab) (Q : aA) (x0 x1 : AV) (H : aB) (c : Nat) : Prop :=
  aJ .gtr .num x1 (.int .i64 0) fun v25_38 =>
  aL v25_38
  (kJ P p Q x0 x1 H c)
  (kH P p Q x0 x1 H c)
theorem lO (P : Program) (p : Lab) (Q : aA) (x0 x1 : AV) (H : aB) (c : Nat) : vc P p ZO Q [(0, x0), (1, x1)] H c = oJ P p Q x0 x1 H c := by kernel_rfl
theorem cM (P : Program) (p : Lab) (Q : aA) (r : RL) (H : aB) (c : Nat) : PK P p Q (.exit 2) r H c = (vc P p PA Q r H c) := rfl
def kD (P : Program) (p : Lab) (Q : aA) (y0 : AV) (y1 : AV) (y61 : AV) (H : aB) (c : Nat) : Prop :=
  aJ .add .num y1 (.int .i64 1) fun v63_63 =>
  Q .normal [(0, y0), (1, v63_63)] H (c + 3)
def kC (P : Program) (p : Lab) (Q : aA) (y0 : AV) (y1 : AV) (y61 : AV) (H : aB) (c : Nat) (_ : Unit) : Prop :=
  (kD P p Q y0 y1 y61 H c)
def kF (P : Program) (p : Lab) (Q : aA) (y0 : AV) (y1 : AV) (y61 : AV) (H : aB) (c : Nat) : Prop :=
  aL y61
  (kC P p Q y0 y1 y61 H c)
  (fun _ =>
  Q (.exit 6) [(0, y0), (1, y1), (61, y61)] H c)
def kB (P : Program) (p : Lab) (Q : aA) (x0 : AV) (x1 : AV) (c : Nat) (v60_60 : AV) (H60 : aB) (l60 : List Lab) (f60 : Option (List Lab)) : Prop :=
  (kF P p Q x0 x1 v60_60 H60 (c + 11))
def kA (P : Program) (p : Lab) (Q : aA) (x0 : AV) (x1 : AV) (H : aB) (c : Nat) (_ : Unit) : Prop :=
  vIx 1 x0 x1 fun v58_58 =>
  aF 1 false v58_58 H fun v59_59 _ =>
  aN false P 39 [v59_59] H ((c + 9) :: p) (kB P p Q x0 x1 c)
def j9 (P : Program) (p : Lab) (Q : aA) (y0 : AV) (y1 : AV) (H : aB) (c : Nat) : Prop :=
  Q (.exit 6) [(0, y0), (1, y1), (61, (.bool false))] H c
def j8 (P : Program) (p : Lab) (Q : aA) (x0 : AV) (x1 : AV) (H : aB) (c : Nat) (_ : Unit) : Prop :=
  (j9 P p Q x0 x1 H (c + 11))
def oF (P : Program) (p : Lab) (Q : aA) (x0 x1 : AV) (H : aB) (c : Nat) : Prop :=
  cS x0 fun v53_53 =>
  aJ .lss .num x1 v53_53 fun v54_54 =>
  aL v54_54
  (kA P p Q x0 x1 H c)
  (j8 P p Q x0 x1 H c)
theorem lJ (P : Program) (p : Lab) (Q : aA) (x0 x1 : AV) (H : aB) (c : Nat) : vc P p ZM Q [(0, x0), (1, x1)] H c = oF P p Q x0 x1 H c := by kernel_rfl
theorem cL (P : Program) (p : Lab) (Q : aA) (r : RL) (H : aB) (c : Nat) : PJ P p Q (.exit 6) r H c = (vc P p O8 Q r H c) := rfl
def oI (P : Program) (p : Lab) (Q : aA) (x0 x1 x33 : AV) (H : aB) (c : Nat) : Prop :=
  Q .ret [(6, x1)] H (c + 2)
theorem lN (P : Program) (p : Lab) (Q : aA) (x0 x1 x33 : AV) (H : aB) (c : Nat) : vc P p PA Q [(0, x0), (1, x1), (33, x33)] H c = oI P p Q x0 x1 x33 H c := by kernel_rfl
def oE (P : Program) (p : Lab) (Q : aA) (x0 x1 x61 : AV) (H : aB) (c : Nat) : Prop :=
  Q .ret [(6, x1)] H (c + 2)
theorem lI (P : Program) (p : Lab) (Q : aA) (x0 x1 x61 : AV) (H : aB) (c : Nat) : vc P p O8 Q [(0, x0), (1, x1), (61, x61)] H c = oE P p Q x0 x1 x61 H c := by kernel_rfl

def ZL : ACode := (.seq (.seq (.region [⟨(some 5), none, .move, [.t 4]⟩, ⟨(some 6), none, .move, [.t 0]⟩, ⟨(some 7), none, (.len .num), [.t 6]⟩, ⟨(some 8), none, (.bin .lss .num), [.t 5, .t 7]⟩] none [0, 3, 4, 8])
  (.cond (.t 8) .skip
  (.exit 0)))
  (.seq (.block 1 (.region [⟨(some 11), none, .move, [.t 3]⟩, ⟨(some 12), none, .move, [.t 0]⟩, ⟨(some 13), none, .move, [.t 4]⟩, ⟨(some 14), none, .strAt, [.t 12, .t 13]⟩, ⟨(some 15), none, (.conv .i64), [.t 14]⟩, ⟨(some 16), none, (.buildSlice 1 [(.int .i64 0)] [(0, 1)]), [.t 15]⟩, ⟨(some 17), none, (.append 1 8), [.t 11, .t 16]⟩, ⟨(some 3), none, .move, [.t 17]⟩] none [0, 3, 4]))
  (.region [⟨(some 9), none, .move, [.t 4]⟩, ⟨(some 10), none, (.bin .add .num), [.t 9, .c (.int .i64 1)]⟩, ⟨(some 4), none, .move, [.t 10]⟩] none [0, 3, 4])))
def X0 : ACode := .loop [0, 3, 4] ZL
def O7 : ACode := (.seq (.region [⟨(some 18), none, .move, [.t 3]⟩, ⟨(some 2), none, .move, [.t 18]⟩] none [2])
  .ret)
/-- duet/duetlaw18.runes -/
def c24 : AFun := ⟨1, 19, [.tmp 2],
  (.seq (.region [⟨(some 2), none, .move, [.c .nils]⟩] none [0])
  (.seq (.region [⟨(some 3), none, .move, [.c .nils]⟩] none [0, 3])
  (.seq (.seq (.region [⟨(some 4), none, .move, [.c (.int .i64 0)]⟩] none [0, 3, 4])
  (.block 0 X0)) O7)))⟩
theorem ok24 : FunOk Try.prog 24 c24 := ⟨⟨Try.f24, _, Try.func24, rfl, by kernel_rfl, by kernel_rfl, by kernel_rfl, by kernel_rfl⟩, by decide⟩
theorem res24 : c24.res = [.tmp 2] := rfl
def RH (P : Program) (p : Lab) (Q : aA) : aA := (jO 0 (qG (vc P p O7 Q) Q))
theorem q24_0_ret (P : Program) (p : Lab) (Q : aA) (r : RL) (H : aB) (c : Nat) : RH P p Q .ret r H c = Q .ret r H c := rfl
def V24 (P : Program) (p : Lab) (Q : aA) (x0 : AV) (H : aB) (c : Nat) : Prop :=
  vc P p X0 (RH P p Q) [(0, x0), (3, .nils), (4, (.int .i64 0))] H (c + 3)
theorem vt24 (P : Program) (p : Lab) (Q : aA) (x0 : AV) (H : aB) (c : Nat) : vc P p c24.body Q [(0, x0)] H c = V24 P p Q x0 H c := by kernel_rfl
def k24_1 (P : Program) (p : Lab) (Q : aA) (y0 : AV) (y3 : AV) (y4 : AV) (c : Nat) (v15_11 : AV) (H11 : aB) (l11 : List Lab) (f11 : Option (List Lab)) : Prop :=
  jP 1 [(.int .i64 0)] [(0, 1)] [v15_11] fun w12 n12 =>
  (fun (H12 : aB) =>
  aM (.append 1 8) [y3, (.sl ((c + 5) :: p) 1 0 n12)] H12 ((c + 6) :: p) (fun v17_13 H13 l13 f13 =>
  aJ .add .num y4 (.int .i64 1) fun v10_16 =>
  Q .normal [(0, y0), (3, v17_13), (4, v10_16)] H13 (c + 11))) (upd [(((c + 5) :: p), some (.rows 1 w12))] H11)
def k24_2 (P : Program) (p : Lab) (Q : aA) (y0 : AV) (y3 : AV) (y4 : AV) (c : Nat) (v14_10 : AV) (H10 : aB) (l10 : List Lab) (f10 : Option (List Lab)) : Prop :=
  aM (.conv .i64) [v14_10] H10 ((c + 4) :: p) (k24_1 P p Q y0 y3 y4 c)
def k24_0 (P : Program) (p : Lab) (Q : aA) (y0 : AV) (y3 : AV) (y4 : AV) (y8 : AV) (H : aB) (c : Nat) : Prop :=
  aM .strAt [y0, y4] H ((c + 3) :: p) (k24_2 P p Q y0 y3 y4 c)
def k24_3 (P : Program) (p : Lab) (Q : aA) (v8_6 : AV) (H5 : aB) (x0 : AV) (x3 : AV) (x4 : AV) (c : Nat) (_ : Unit) : Prop :=
  (k24_0 P p Q x0 x3 x4 v8_6 H5 (c + 4))
def k24_4 (P : Program) (p : Lab) (Q : aA) (x0 : AV) (x3 : AV) (x4 : AV) (c : Nat) (v7_5 : AV) (H5 : aB) (l5 : List Lab) (f5 : Option (List Lab)) : Prop :=
  aJ .lss .num x4 v7_5 fun v8_6 =>
  aL v8_6
  (k24_3 P p Q v8_6 H5 x0 x3 x4 c)
  (fun _ =>
  Q (.exit 0) [(0, x0), (3, x3), (4, x4), (8, v8_6)] H5 (c + 4))
def V24_1 (P : Program) (p : Lab) (Q : aA) (x0 x3 x4 : AV) (H : aB) (c : Nat) : Prop :=
  aM (.len .num) [x0] H ((c + 2) :: p) (k24_4 P p Q x0 x3 x4 c)
theorem vt24_1 (P : Program) (p : Lab) (Q : aA) (x0 x3 x4 : AV) (H : aB) (c : Nat) : vc P p ZL Q [(0, x0), (3, x3), (4, x4)] H c = V24_1 P p Q x0 x3 x4 H c := by kernel_rfl
theorem q24_0_e0 (P : Program) (p : Lab) (Q : aA) (r : RL) (H : aB) (c : Nat) : RH P p Q (.exit 0) r H c = (vc P p O7 Q r H c) := rfl
def V24_2 (P : Program) (p : Lab) (Q : aA) (x0 x3 x4 x8 : AV) (H : aB) (c : Nat) : Prop :=
  Q .ret [(2, x3)] H (c + 2)
theorem vt24_2 (P : Program) (p : Lab) (Q : aA) (x0 x3 x4 x8 : AV) (H : aB) (c : Nat) : vc P p O7 Q [(0, x0), (3, x3), (4, x4), (8, x8)] H c = V24_2 P p Q x0 x3 x4 x8 H c := by kernel_rfl



end Go.Proofs.Ytbngfbpegdcpkaa
/-! The abstract machine: maps whose keys are two numbers, on symbols. -/
namespace Go.Proofs.Ytbngfbpegdcpkaa
set_option linter.unusedVariables false
set_option linter.unusedSimpArgs false
section
variable {α : Type} (key : α → Int × Int) (enc : α → AV)
def BK (x : α) : AV × AV := (.agg [.int .i64 (key x).1, .int .i64 (key x).2], enc x)
/-- where a key stands, and with what -/
def zX (a b : Int) : List α → Nat → Option (Nat × α)
  | [], _ => none
  | x :: l, i => if (key x).1 = a ∧ (key x).2 = b then some (i, x) else zX a b l (i + 1)
variable {key enc}
theorem akeq_ii {a b c d : Int} : vH true [.int, .int] (.agg [.int .i64 a, .int .i64 b]) (.agg [.int .i64 c, .int .i64 d]) = some (decide (a = c) && decide (b = d)) := by
  simp [vH, gC, AV.isAgg, AV.cells, FM, ceq]
theorem B7 {a b : Int} : ∀ {l : List α} {i : Nat}, o8 true [.int, .int] (.agg [.int .i64 a, .int .i64 b]) (l.map (BK key enc)) i = some ((zX key a b l i).map fun p => (p.1, enc p.2))
  | [], i => rfl
  | x :: l, i => by
    simp only [List.map_cons, o8, BK, akeq_ii, Option.bind_some, zX]
    by_cases h : (key x).1 = a ∧ (key x).2 = b
    · simp [h]
    · have : (decide (a = (key x).1) && decide (b = (key x).2)) = false := by
        rw [Bool.eq_false_iff]; intro e; simp at e; exact h ⟨e.1.symm, e.2.symm⟩
      simp only [this, Bool.false_eq_true, if_false, if_neg h]
      exact B7
theorem loc_none {a b : Int} : ∀ {l : List α} {i : Nat}, zX key a b l i = none ↔ ∀ x ∈ l, ¬ ((key x).1 = a ∧ (key x).2 = b)
  | [], i => by simp [zX]
  | x :: l, i => by
    simp only [zX, List.mem_cons, forall_eq_or_imp]
    by_cases h : (key x).1 = a ∧ (key x).2 = b
    · simp [h]
    · rw [if_neg h, loc_none (l := l)]
      exact ⟨fun hx => ⟨h, hx⟩, fun hx => hx.2⟩
theorem loc_some {a b : Int} : ∀ {l : List α} {i j : Nat} {x : α}, zX key a b l i = some (j, x) → i ≤ j ∧ l[j - i]? = some x ∧ (key x).1 = a ∧ (key x).2 = b
  | [], i, j, x, h => by simp [zX] at h
  | y :: l, i, j, x, h => by
    simp only [zX] at h
    split at h
    · rename_i hc; cases h; exact ⟨Nat.le_refl _, by simp, hc.1, hc.2⟩
    · obtain ⟨h1, h2, h3, h4⟩ := loc_some h
      refine ⟨by omega, ?_, h3, h4⟩
      rw [show j - i = (j - (i + 1)) + 1 by omega]; exact h2
variable {H : aB} {q lM : Lab} {KK : KF} {L : List α} {bs : List Nat} {ck : Nat} {a b : Int}
theorem v_lookup (hl : H lM = some (.amap (L.map (BK key enc)) bs ck)) {zero : AV} {ok : Bool} : aM (.lookup true [.int, .int] zero ok) [.map lM, .agg [.int .i64 a, .int .i64 b]] H q KK =
    KK (match zX key a b L 0 with | some p => (if ok then .tuple [enc p.2, .bool true] else enc p.2) | none => (if ok then .tuple [zero, .bool false] else zero)) H [] (some [lM]) := by
  have hs : gC true [.int, .int] (.agg [.int .i64 a, .int .i64 b]) = true := by simp [gC, AV.isAgg, AV.cells]
  have : aop nU (.lookup true [.int, .int] zero ok) [.map lM, .agg [.int .i64 a, .int .i64 b]] H q = some ⟨match zX key a b L 0 with | some p => (if ok then .tuple [enc p.2, .bool true] else enc p.2) | none => (if ok then .tuple [zero, .bool false] else zero), [], some [lM]⟩ := by
    simp only [aop, yL, hs, if_true, hl, B7, Option.bind_some]
    cases zX key a b L 0 <;> simp
  simp [aM, this]; rfl
theorem v_len_m (hl : H lM = some (.amap (L.map (BK key enc)) bs ck)) : aM (.len .map) [.map lM] H q KK = KK (.int .i64 L.length) H [] (some [lM]) := by
  have : aop nU (.len .map) [.map lM] H q = some ⟨.int .i64 L.length, [], some [lM]⟩ := by simp [aop, N2, hl]
  simp [aM, this]; rfl
/-- one more, of a key that is not there -/
theorem v_update (hl : H lM = some (.amap (L.map (BK key enc)) bs ck)) {x : α} (hk : zX key (key x).1 (key x).2 L 0 = none) : aM (.mapUpdate true [.int, .int]) [.map lM, .agg [.int .i64 (key x).1, .int .i64 (key x).2], enc x] H q KK =
    KK (.tuple []) (upd [(lM, some (.amap ((L ++ [x]).map (BK key enc)) (bs ++ [ck]) (ck + 1)))] H) [lM] (some [lM]) := by
  have hs : gC true [.int, .int] (.agg [.int .i64 (key x).1, .int .i64 (key x).2]) = true := by simp [gC, AV.isAgg, AV.cells]
  have : aop nU (.mapUpdate true [.int, .int]) [.map lM, .agg [.int .i64 (key x).1, .int .i64 (key x).2], enc x] H q = some ⟨.tuple [], [(lM, some (.amap ((L ++ [x]).map (BK key enc)) (bs ++ [ck]) (ck + 1)))], some [lM]⟩ := by
    simp only [aop, oD, hs, if_true, hl, B7, hk, Option.map_none, Option.bind_some]
    simp [BK]
  simp [aM, this]
theorem erase_map {β : Type} {f : α → β} {l : List α} {i : Nat} : (l.map f).eraseIdx i = (l.eraseIdx i).map f := by
  simp [List.eraseIdx_eq_take_drop_succ, List.map_take, List.map_drop]
theorem v_delete (hl : H lM = some (.amap (L.map (BK key enc)) bs ck)) : aM (.delete true [.int, .int]) [.map lM, .agg [.int .i64 a, .int .i64 b]] H q KK =
    match zX key a b L 0 with
    | some p => KK (.tuple []) (upd [(lM, some (.amap ((L.eraseIdx p.1).map (BK key enc)) (bs.eraseIdx p.1) ck))] H) [lM] (some [lM])
    | none => KK (.tuple []) H [] (some [lM]) := by
  have hs : gC true [.int, .int] (.agg [.int .i64 a, .int .i64 b]) = true := by simp [gC, AV.isAgg, AV.cells]
  have : aop nU (.delete true [.int, .int]) [.map lM, .agg [.int .i64 a, .int .i64 b]] H q = some (match zX key a b L 0 with | some p => ⟨.tuple [], [(lM, some (.amap ((L.eraseIdx p.1).map (BK key enc)) (bs.eraseIdx p.1) ck))], some [lM]⟩ | none => ⟨.tuple [], [], some [lM]⟩) := by
    simp only [aop, B8, hs, if_true, hl, B7, Option.bind_some]
    cases zX key a b L 0 <;> simp [erase_map]
  unfold aM
  rw [this]
  cases zX key a b L 0 <;> simp <;> rfl
theorem v_mkmap : aM .mkmap [] H q KK = KK (.map q) (upd [(q, some (.amap [] [] 0))] H) [q] (some []) := by
  simp [aM, aop]
end
end Go.Proofs.Ytbngfbpegdcpkaa
/-! The abstract machine: operations in any order that do not meet: pair by pair. -/
namespace Go.Proofs.Ytbngfbpegdcpkaa
set_option linter.unusedVariables false
set_option linter.unusedSimpArgs false
def QG (φ : Nat → Tr → Prop) (ps : List (Nat × Tr)) : Prop := ∀ b ∈ ps, φ b.1 b.2
theorem cV {m : List Nat} : aI m [] := fun a ha => by cases ha
theorem bB {φ : Nat → Tr → Prop} : QG φ [] := fun a ha => by cases ha
theorem bC {φ : Nat → Tr → Prop} {j : Nat} {l : List Lab} {q : Lab} {f : Option (List Lab)} {ps : List (Nat × Tr)} (h1 : φ j ⟨l, q, f⟩) (h2 : QG φ ps) : QG φ (aH j l q f ps) := fun b hb => by
  rcases tD hb with rfl | hb
  · exact h1
  · exact h2 b hb
theorem ordered_symm {m : List Nat} {i j : Nat} : mI m i j = mI m j i := by unfold mI; rw [Bool.or_comm]
theorem cW {m : List Nat} {j : Nat} {l : List Lab} {q : Lab} {f : Option (List Lab)} {ps : List (Nat × Tr)} (h : aI m ps) (hb : QG (fun i b => mI m j i = true ∨ (a6 j i ⟨l, q, f⟩ b = false ∧ a6 i j b ⟨l, q, f⟩ = false)) ps) : aI m (aH j l q f ps) := fun a ha b hb' hne ho => by
  rcases tD ha with rfl | ha
  · rcases tD hb' with rfl | hb'
    · exact absurd rfl hne
    · rcases hb b hb' with h1 | h1
      · rw [h1] at ho; cases ho
      · exact h1.1
  · rcases tD hb' with rfl | hb'
    · rcases hb a ha with h1 | h1
      · rw [ordered_symm, h1] at ho; cases ho
      · exact h1.2
    · exact h a ha b hb' hne ho
theorem jZ {s : Bool} {P : Program} {H : aB} {p : Lab} {KK : KF} {c : Nat} {f : Nat} {xs : List AV} {y : AV} {u : Chg} {foot : Option (List Lab)} (h : aZ P f xs H (c :: p) ⟨y, u, foot⟩) (hf : Fresh p c H) (hk : ∀ H', (∀ l, H' l = upd u H l) → Fresh p (c + 1) H' → KK y H' (u.map (·.1)) foot) : aN s P f xs H (c :: p) KK :=
  cB h (hk _ (fun _ => rfl) (hf.after h))
theorem Fresh.old {H : aB} {p l : Lab} {c : Nat} {o : Option AO} (h : Fresh p c H) (hl : H l ≠ none) : Fresh p c (Ytbngfbpegdcpkaa.upd [(l, o)] H) := fun k s hk => by
  rw [aP (fun e => hl (by rw [← e]; exact h k s hk)), a8]; exact h k s hk
end Go.Proofs.Ytbngfbpegdcpkaa
/-! The abstract machine: calls that are run out, some of them by contract. -/
namespace Go.Proofs.Ytbngfbpegdcpkaa
set_option linter.unusedVariables false
set_option linter.unusedSimpArgs false
/-- calls that are run out, so deep; some by what is known of them -/
def NX (ext : b9) (tbl : Nat → Option AFun) (fuel : Nat) : Nat → b9
  | 0, _, _, _, _ => none
  | d + 1, f, xs, H, q => match ext f xs H q with
    | some r => some r
    | none => (tbl f).bind fun A => if xs.length = A.np then (nL (NX ext tbl fuel d) H q fuel A.body (m9 xs)).bind fun r => match r.1 with
      | .exit _ => none
      | .goto _ => none
      | _ => (j1 (upd r.2.ov H) r.2.regs A.res).bind fun x => if W0 H q r.2.ov then some ⟨x, r.2.ov, none⟩ else none
      else none
theorem NW {P : Program} (hm : P.follows .mixedOrders = true) {ext : b9} (he : iS P ext) {tbl : Nat → Option AFun} (ht : ∀ f A, tbl f = some A → FunOk P f A) (fuel : Nat) : ∀ d, iS P (NX ext tbl fuel d)
  | 0 => fun f xs H q r h => by simp [NX] at h
  | d + 1 => fun f xs H q r h => by
    have ih := NW hm he ht fuel d
    simp only [NX] at h
    split at h
    · rename_i r' hr'
      cases h
      exact he f xs H q _ hr'
    simp only [Option.bind_eq_some_iff] at h
    obtain ⟨A, hA, h⟩ := h
    have hF := ht f A hA
    split at h
    · rename_i hlen
      simp only [Option.bind_eq_some_iff] at h
      obtain ⟨⟨e, s⟩, he, h⟩ := h
      have hne : e = .normal ∨ e = .ret := by
        cases e with
        | normal => exact .inl rfl
        | exit k => cases h
        | ret => exact .inr rfl
        | goto k => cases h
      have h' : (j1 (upd s.ov H) s.regs A.res).bind (fun x => if W0 H q s.ov then some (⟨x, s.ov, none⟩ : Res) else none) = some r := by
        rcases hne with rfl | rfl <;> exact h
      simp only [Option.bind_eq_some_iff] at h'
      obtain ⟨x, hx, h'⟩ := h'
      split at h'
      · rename_i hov
        simp only [Option.some.injEq] at h'
        subst h'
        obtain ⟨fn, c, hf, hb, hn, _⟩ := hF.ex
        refine ⟨⟨fn, hf, by rw [hb]; rfl, hn⟩, ?_, ?_⟩
        · rintro l ⟨pr, hp, rfl⟩
          have := List.all_eq_true.1 hov pr hp
          simp only [Bool.or_eq_true] at this
          rcases this with h1 | h1
          · exact .inr (yE h1)
          · refine .inl ?_
            simp only [restr]
            intro e0; rw [e0] at h1; cases h1
        · intro ρ R vs hvs w hR hfr
          simp only [restr] at hR
          have := B6 hm ih hF hlen (K := fun y u => y = x ∧ u = s.ov) (NN he ⟨hne, x, s.ov, hx, fun l o h => h, rfl, rfl⟩) hvs w hR hfr
          refine Calls.mono this ?_
          rintro e' w' ⟨v, rfl, y, u, ρ', R', ⟨rfl, rfl⟩, hF', hv, hR'⟩
          exact ⟨v, rfl, ρ', R', hF', hv, hR'⟩
      · cases h'
    · cases h
end Go.Proofs.Ytbngfbpegdcpkaa
/-! The abstract machine: a map's literal, its entries laid in whatever order. -/
namespace Go.Proofs.Ytbngfbpegdcpkaa
set_option linter.unusedVariables false
set_option linter.unusedSimpArgs false
def OL (Q : Nat → AIns → Prop) : Nat → List AIns → Prop
  | _, [] => True
  | k, x :: l => Q k x ∧ OL Q (k + 1) l
theorem QF {Q : Nat → AIns → Prop} : ∀ {l : List AIns} {k : Nat}, OL Q k l → ∀ j i, l[j]? = some i → Q (k + j) i
  | [], _, _, j, i, h => by simp at h
  | x :: l, k, hq, j, i, h => by
    cases j with
    | zero => simp at h; subst h; exact hq.1
    | succ j =>
      have := QF hq.2 j i (by simpa using h)
      rwa [show k + 1 + j = k + (j + 1) by omega] at this
theorem QZ {H : aB} {q : Lab} {KK : KF} {k : IntKind} {n : Int} (h1 : -9223372036854775808 ≤ n) (h2 : n ≤ 9223372036854775807) : aM (.conv .i64) [.int k n] H q KK = KK (.int .i64 n) H [] (some []) := by
  have : aop nU (.conv .i64) [.int k n] H q = some (.pure (.int .i64 n)) := by simp [aop, wC, inR, h1, h2]
  simp [aM, this]; rfl
theorem N0 {agg : Bool} {ks : List CK} {k : AV} : ∀ {es : List (AV × AV)} {i : Nat}, (∀ e ∈ es, vH agg ks k e.1 = some false) → o8 agg ks k es i = some none
  | [], _, _ => rfl
  | e :: es, i, h => by
    simp only [o8, h e (by simp), Option.bind_some, Bool.false_eq_true, if_false]
    exact N0 (fun x hx => h x (by simp [hx]))
theorem GA {rl V : RL} : ∀ {xs : List AArg}, (∀ a, AArg.t a ∈ xs → bE rl a = bE V a) → nO rl xs = nO V xs
  | [], _ => rfl
  | x :: xs, h => by
    have ih := GA (xs := xs) (fun a ha => h a (by simp [ha]))
    simp only [nO, ih]
    cases x with
    | t a => simp only [zC, h a (by simp)]
    | c v => rfl
def OI (ops : List AIns) (masks base : List Nat) (j : Nat) (xs : List AArg) : Bool := xs.all fun
  | .t a => base.contains a || (List.range ops.length).any fun k => (masks.getD j 0).testBit k && ((ops[k]?).bind (·.dst)) == some a
  | .c _ => true
/-- the entries of those that are done -/
def jT (U : List (Nat × (AV × AV))) (D : Nat → Bool) : List (AV × AV) := (U.filter fun u => D u.1).map (·.2)
theorem ents_add {U : List (Nat × (AV × AV))} {D : Nat → Bool} {j : Nat} {e : AV × AV} (hn : (U.map (·.1)).Nodup) (hj : (j, e) ∈ U) (hD : D j = false) : (jT U D ++ [e]).Perm (jT U (kW D j)) := by
  induction U with
  | nil => cases hj
  | cons u U ih =>
    rw [List.map_cons, List.nodup_cons] at hn
    have rest : ∀ V : List (Nat × (AV × AV)), j ∉ V.map (·.1) → jT V (kW D j) = jT V D := by
      intro V hV
      unfold jT
      congr 1
      refine List.filter_congr fun x hx => ?_
      have : x.1 ≠ j := fun e => hV (e ▸ List.mem_map_of_mem hx)
      simp [kW, this]
    rcases List.mem_cons.1 hj with h | h
    · subst h
      have e1 : jT ((j, e) :: U) D = jT U D := by simp [jT, hD]
      have e2 : jT ((j, e) :: U) (kW D j) = e :: jT U (kW D j) := by simp [jT, kW]
      rw [e1, e2, rest U hn.1]
      exact List.perm_append_singleton _ _
    · have hne : u.1 ≠ j := fun e' => hn.1 (e' ▸ List.mem_map_of_mem (f := (·.1)) h)
      have ih := ih hn.2 h
      cases hu : D u.1
      · have e1 : jT (u :: U) D = jT U D := by simp [jT, hu]
        have e2 : jT (u :: U) (kW D j) = jT U (kW D j) := by simp [jT, kW, hu, hne]
        rw [e1, e2]; exact ih
      · have e1 : jT (u :: U) D = u.2 :: jT U D := by simp [jT, hu]
        have e2 : jT (u :: U) (kW D j) = u.2 :: jT U (kW D j) := by simp [jT, kW, hu]
        rw [e1, e2]; exact ih.cons _
section
variable (P : Program) (call : b9) (ops : List AIns) (masks base : List Nat) (V : RL) (U : List (Nat × (AV × AV))) (agg : Bool) (ks : List CK) (lM : Lab)
/-- an operation of a map's literal -/
inductive LitOp : Nat → AIns → Prop
  | mk (t : Nat) (hv : bE V t = some (.map lM)) : LitOp 0 ⟨some t, none, .mkmap, []⟩
  | upd (j : Nat) (m k v : AArg) (kv vv : AV) (hd : OI ops masks base j [m, k, v] = true) (h0 : (masks.getD j 0).testBit 0 = true) (he : nO V [m, k, v] = some [.map lM, kv, vv]) (hu : (j, (kv, vv)) ∈ U) : LitOp j ⟨none, none, .mapUpdate agg ks, [m, k, v]⟩
  | val (j t : Nat) (ak : AK) (xs : List AArg) (ys : List AV) (x : AV) (f : Option (List Lab)) (hd : OI ops masks base j xs = true) (he : nO V xs = some ys) (hr : ∀ H q, aop call ak ys H q = some ⟨x, [], f⟩) (hv : bE V t = some x) (hj : j ≠ 0) (hu : j ∉ U.map (·.1)) : LitOp j ⟨some t, none, ak, xs⟩
end
section
variable {P : Program} {call : b9} {ops : List AIns} {masks base : List Nat} {V : RL} {U : List (Nat × (AV × AV))} {agg : Bool} {ks : List CK} {H0 : aB} {p : Lab}
theorem nd_lit {s : ASt} {keep : List Nat} {Q : lH} (hb : ∀ a ∈ base, bE s.regs a = bE V a) (hops : ∀ j i, ops[j]? = some i → LitOp call ops masks base V U agg ks (s.c :: p) j i)
    (hU : (U.map (·.1)).Nodup) (hk : ∀ u ∈ U, gC agg ks u.2.1 = true ∧ ∀ u' ∈ U, u'.1 ≠ u.1 → vH agg ks u.2.1 u'.2.1 = some false) (hUo : ∀ u ∈ U, u.1 < ops.length ∧ u.1 ≠ 0) (h0 : 0 < ops.length)
    (hQ : ∀ rl ov es, (∀ (k : Nat) i t, ops[k]? = some i → i.dst = some t → bE rl t = bE V t) → upd ov H0 (s.c :: p) = some (.amap es (List.range es.length) es.length) → es.Perm (U.map (·.2)) → (∀ l, l ≠ s.c :: p → upd ov H0 l = upd s.ov H0 l) → ∃ s', Weak H0 p ⟨restrict rl keep, ov, s.c + ops.length⟩ s' ∧ Q .normal s') :
    aAr H0 p call ops masks keep Q s := by
  refine ⟨fun D rl ov => (∀ a ∈ base, bE rl a = bE V a) ∧ (∀ (k : Nat) i t, D k = true → ops[k]? = some i → i.dst = some t → bE rl t = bE V t) ∧
    (D 0 = true → ∃ es, upd ov H0 (s.c :: p) = some (.amap es (List.range es.length) es.length) ∧ es.Perm (jT U D)) ∧ (∀ u ∈ U, D u.1 = true → D 0 = true) ∧ ∀ l, l ≠ s.c :: p → upd ov H0 l = upd s.ov H0 l,
    ⟨hb, fun k i t h => (by cases h), fun h => (by cases h), fun u _ h => (by cases h), fun l _ => rfl⟩, ?_, ?_⟩
  · rintro D rl ov j i ⟨h1, h2, h3, h4, h5⟩ hi hj hm
    have deps : ∀ {xs : List AArg}, OI ops masks base j xs = true → nO rl xs = nO V xs := fun {xs} hd => GA fun a ha => by
      have := List.all_eq_true.1 hd _ ha
      simp only [Bool.or_eq_true, List.contains_iff_mem, List.any_eq_true, List.mem_range, Bool.and_eq_true, beq_iff_eq] at this
      rcases this with hb' | ⟨k, _, hk1, hk2⟩
      · exact h1 a hb'
      · cases hok : ops[k]? with
        | none => rw [hok] at hk2; cases hk2
        | some ik => rw [hok] at hk2; exact h2 k ik a (hm k hk1) hok hk2
    cases hops j i hi with
    | mk t hv =>
      have hnone : jT U D = [] := by
        unfold jT
        rw [List.map_eq_nil_iff, List.filter_eq_nil_iff]
        intro u hu hDu
        rw [h4 u hu hDu] at hj; cases hj
      refine ⟨⟨false, .map (s.c :: p), [(s.c :: p, some (.amap [] [] 0))], s.c :: p, some []⟩, by simp [cK, tO, nO, aop], fun a ha => ?_, fun k i' t' hDk hik hdt => ?_, fun _ => ⟨[], ?_, ?_⟩, fun u hu _ => by simp [kW], fun l hl => ?_⟩
      · simp only [cU, rM]
        split
        · rename_i e; rw [e, hv]
        · exact h1 a ha
      · simp only [cU, rM]
        split
        · rename_i e; rw [e, hv]
        · rename_i hne
          simp only [kW, Bool.or_eq_true, beq_iff_eq] at hDk
          rcases hDk with rfl | hDk
          · rw [hi] at hik; cases hik; simp only [Option.some.injEq] at hdt; exact absurd hdt.symm hne
          · exact h2 k i' t' hDk hik hdt
      · rw [jU]; simp [upd]
      · have e : jT U (kW D 0) = jT U D := by
          unfold jT
          congr 1
          refine List.filter_congr fun u hu => ?_
          have e := (hUo u hu).2
          simp [kW, e]
        rw [e, hnone]
      · rw [jU]
        simp only [upd]
        rw [if_neg hl]
        exact h5 l hl
    | upd _ m k v kv vv hd hm0 he hu =>
      obtain ⟨es, g1, g2⟩ := h3 (hm 0 hm0)
      have hev := (deps hd).trans he
      have hno : o8 agg ks kv es 0 = some none := N0 (fun e he' => by
        have h6 := g2.subset he'
        obtain ⟨u', hu', rfl⟩ := List.mem_map.1 h6
        obtain ⟨hu1, hu2⟩ := List.mem_filter.1 hu'
        exact (hk _ hu).2 u' hu1 (fun e => by simp only at e; rw [e, hj] at hu2; cases hu2))
      have hup : oD agg ks (.map (s.c :: p)) kv vv (upd ov H0) = some ⟨.tuple [], [(s.c :: p, some (.amap (es ++ [(kv, vv)]) (List.range es.length ++ [es.length]) (es.length + 1)))], some [s.c :: p]⟩ := by
        simp only [oD, (hk _ hu).1, if_true, g1, hno, Option.bind_some]
      have hrun : tO call H0 p ⟨none, none, .mapUpdate agg ks, [m, k, v]⟩ ⟨rl, ov, s.c + j⟩ = some ⟨false, .tuple [], [(s.c :: p, some (.amap (es ++ [(kv, vv)]) (List.range es.length ++ [es.length]) (es.length + 1)))], (s.c + j) :: p, some [s.c :: p]⟩ := by
        simp only [tO, hev, Option.bind_some, aop, hup]
      have hj0 : D 0 = true := hm 0 hm0
      refine ⟨_, by simpa only [cK] using hrun, h1, fun k' i' t' hDk hik hdt => ?_, fun _ => ⟨es ++ [(kv, vv)], ?_, ?_⟩, fun u _ _ => by simp [kW, hj0], fun l hl => ?_⟩
      · simp only [kW, Bool.or_eq_true, beq_iff_eq] at hDk
        rcases hDk with rfl | hDk
        · rw [hi] at hik; cases hik; cases hdt
        · exact h2 k' i' t' hDk hik hdt
      · rw [jU]; simp [upd, List.range_succ]
      · exact (g2.append_right _).trans (ents_add hU hu hj)
      · rw [jU]
        simp only [upd]
        rw [if_neg hl]
        exact h5 l hl
    | val _ t ak xs ys x f hd he hr hv hj0 hu =>
      have hev := (deps hd).trans he
      have hrun : tO call H0 p ⟨some t, none, ak, xs⟩ ⟨rl, ov, s.c + j⟩ = some ⟨false, x, [], (s.c + j) :: p, f⟩ := by
        simp only [tO, hev, Option.bind_some, hr]
      have hents : jT U (kW D j) = jT U D := by
        unfold jT
        congr 1
        refine List.filter_congr fun u hu' => ?_
        have e : u.1 ≠ j := fun e => hu (e ▸ List.mem_map_of_mem (f := (·.1)) hu')
        simp [kW, e]
      refine ⟨_, by simpa only [cK] using hrun, fun a ha => ?_, fun k' i' t' hDk hik hdt => ?_, fun hD0 => ?_, fun u hu' hDu => ?_, fun l hl => by rw [jU]; exact h5 l hl⟩
      · simp only [cU, rM]
        split
        · rename_i e; rw [e, hv]
        · exact h1 a ha
      · simp only [cU, rM]
        split
        · rename_i e; rw [e, hv]
        · rename_i hne
          simp only [kW, Bool.or_eq_true, beq_iff_eq] at hDk
          rcases hDk with rfl | hDk
          · rw [hi] at hik; cases hik; simp only [Option.some.injEq] at hdt; exact absurd hdt.symm hne
          · exact h2 k' i' t' hDk hik hdt
      · simp only [kW, Bool.or_eq_true, beq_iff_eq] at hD0
        rcases hD0 with e | hD0
        · exact absurd e.symm hj0
        · obtain ⟨es, g1, g2⟩ := h3 hD0
          exact ⟨es, by rw [jU]; exact g1, by rw [hents]; exact g2⟩
      · simp only [kW, Bool.or_eq_true, beq_iff_eq] at hDu ⊢
        rcases hDu with e | hDu
        · exact absurd (e ▸ List.mem_map_of_mem (f := (·.1)) hu') hu
        · exact .inr (h4 u hu' hDu)
  · rintro D rl ov hD ⟨h1, h2, h3, h4, h5⟩
    obtain ⟨es, g1, g2⟩ := h3 (hD 0 h0)
    have hall : jT U D = U.map (·.2) := by
      unfold jT
      rw [List.filter_eq_self.2 (fun u hu => hD u.1 (hUo u hu).1)]
    rw [hall] at g2
    exact hQ rl ov es (fun k i t hik hdt => h2 k i t (hD k (List.getElem?_eq_some_iff.1 hik).1) hik hdt) g1 g2 h5
end
end Go.Proofs.Ytbngfbpegdcpkaa
/-! Joined texts. -/
namespace Go.Proofs.Ytbngfbpegdcpkaa
set_option linter.unusedVariables false
set_option linter.unusedSimpArgs false
set_option maxRecDepth 100000
/-! slices.Insert, walked: what becomes of memory. -/
section
open Go.RowKit Go.Lib
theorem s0 {P : Program} {dT sT ty E : TypeId} {i : TypeInfo} (hd : P.underlying dT = some (.slice E)) (hi : P.info? E = some i) (b o dLen dCap : Nat) (a : Addr) (sLen sCap : Nat) (us : List Value) (w : World) (k : Nat) (hk : k = Nat.min sLen dLen) (hlen : us.length = k * i.size)
    (hus : ∀ j u, us[j]? = some u → w.cell? (a.add j) = some u) (hone : ∀ v ∈ us, v.oneCell' = true) (cc : Array Value) (T' : TypeId) (hb : w.heap[b]? = some (.cells cc T' (0, 0))) (hfit : o + us.length ≤ cc.size) :
    (Builtin.copy_ #[dT, sT] ty #[.slice (some ⟨b, o, none⟩) dLen dCap, .slice (some a) sLen sCap]).run P w = .ok (goInt k) (w.setB b (.cells (jY cc o us) T' (0, 0))) := by
  have hf := run_firstCells_some (P := P) w i.size k a sLen sCap us hlen hus
  have hs := nR (P := P) us w b o 0 cc T' hb hone (by omega)
  simp only [Nat.add_zero] at hs
  simp [Builtin.copy_, aD hd, a7 hi, Builtin.lenOf, ← hk, hf, iT, hs]
theorem FQ {w : World} {b : Nat} {c : Array Value} {T : TypeId} {fz : Nat × Nat} (h : w.heap[b]? = some (.cells c T fz)) : w.shape? b = some (T, c.size) := by simp [World.shape?, h]
theorem ET {w : World} {b : Nat} {c : Array Value} {T : TypeId} (h : w.heap[b]? = some (.cells c T (0, 0))) (o : Nat) (s : Option Nat) : w.frozen? ⟨b, o, s⟩ = false := by simp [World.frozen?, h]
theorem info_el : ∃ I, Try.prog.info? 3 = some I ∧ I.size = 1 ∧ I.bytes = 8 := by
  have h : (Try.prog.info? 3).map (fun i => (i.size, i.bytes)) = some (1, 8) := by kernel_rfl
  cases hq : Try.prog.info? 3 with
  | none => rw [hq] at h; cases h
  | some I => rw [hq] at h; simp only [Option.map_some, Option.some.injEq, Prod.mk.injEq] at h; exact ⟨I, rfl, h.1, h.2⟩
theorem BJ : ∃ I, Try.prog.info? 3 = some I ∧ I.zero = some (Value.int .i64 0) ∧ I.size = 1 ∧ I.bytes = 8 := info_parts (by kernel_rfl)
section
set_option maxHeartbeats 4000000
variable (b off n c i vb voff vc : Nat) (cc cv : Array Value) (T Tv : TypeId) (us vs : List Value) (w : World)
theorem overlaps_no (lb cb la ca oa ob : Nat) (hvb : vb ≠ b) (hb : w.heap[b]? = some (.cells cc T (0, 0))) (hv : w.heap[vb]? = some (.cells cv Tv (0, 0))) (h0 : cc.size ≠ 0) :
    (callFunc 60 #[.slice (some ⟨vb, oa, none⟩) la ca, .slice (some ⟨b, ob, none⟩) lb cb]).run Try.prog w = .ok (.value (.bool false)) w := by
  rw [run_callFunc_extern Try.func60 (by kernel_rfl) (by kernel_rfl) (by kernel_rfl) (e := Extern.SlicesOverlaps.overlaps #[22, 22] #[4]) (by kernel_rfl),
    Lib.run_overlaps_apart w 22 4 3 Try.underlying22 1 (fun w => by kernel_rfl) ⟨vb, oa, none⟩ ⟨b, ob, none⟩ la ca lb cb hvb Tv T cv.size cc.size (FQ hv) (FQ hb) h0 (ET hv _ _) (ET hv _ _)]
  rfl
theorem ins_shift (hi : i < n) (hroom : n + 1 ≤ c) (hn63 : n + 1 ≤ 4611686018427387904) (hvb : vb ≠ b) (hb : w.heap[b]? = some (.cells cc T (0, 0))) (hfit : off + (c) ≤ cc.size)
    (hul : us.length = (n - i)) (hus : ∀ k u, us[k]? = some u → w.cell? ⟨b, off + (i) + k, none⟩ = some u) (h1u : ∀ v ∈ us, v.oneCell' = true)
    (hv : w.heap[vb]? = some (.cells cv Tv (0, 0))) (hvl : vs.length = 1) (hvs : ∀ k u, vs[k]? = some u → w.cell? ⟨vb, voff + k, none⟩ = some u) (h1v : ∀ v ∈ vs, v.oneCell' = true) :
    Calls Try.prog 33 #[.slice (some ⟨b, off, none⟩) n c, .int .i64 i, .slice (some ⟨vb, voff, none⟩) 1 vc] w fun e w' =>
      e = .returned (.slice (some ⟨b, off, none⟩) (n + 1) c) ∧ w' = w.drew.setB b (.cells (jY (jY cc (off + (i + 1)) us) (off + (i)) vs) T (0, 0)) := by
  have hz2 : ¬ ((i : Int) = (n : Int)) := by omega
  have hw1 : IntKind.i64.wrap ((i : Int) + 1) = (i : Int) + 1 := by rw [IntKind.wrap_i64]; omega
  have hw2 : IntKind.i64.wrap ((n : Int) + 1) = (n : Int) + 1 := by rw [IntKind.wrap_i64]; omega
  have hov : ∀ lb cb, (callFunc 60 #[.slice (some ⟨vb, voff, none⟩) 1 vc, .slice (some ⟨b, off + (i + 1), none⟩) lb cb]).run Try.prog w = .ok (.value (.bool false)) w := fun lb cb => overlaps_no (b := b) (vb := vb) (cc := cc) (cv := cv) (T := T) (Tv := Tv) (w := w) _ _ _ _ _ _ hvb hb hv (by omega)
  obtain ⟨I, hinfo, hsz, hby⟩ := info_el
  have hcp1 : ∀ ty dc sc, (Builtin.copy_ #[22, 22] ty #[.slice (some ⟨b, off + (i + 1), none⟩) (n - i) dc, .slice (some ⟨b, off + (i), none⟩) (n + 1 - i) sc]).run Try.prog w.drew = .ok (goInt (n - i : Nat)) (w.drew.setB b (.cells (jY cc (off + (i + 1)) us) T (0, 0))) := fun ty dc sc =>
    s0 Try.underlying22 hinfo b _ _ dc ⟨b, off + (i), none⟩ _ sc us w.drew (n - i) (by simp only [Nat.min_def]; split <;> omega) (by rw [hul, hsz]; try omega) (fun j u hj => by rw [Addr.add_lit]; exact hus j u hj) h1u cc T hb (by rw [hul]; omega)
  have hb2 : (w.drew.setB b (.cells (jY cc (off + (i + 1)) us) T (0, 0))).heap[b]? = some (.cells (jY cc (off + (i + 1)) us) T (0, 0)) := BW (w := w.drew) hb _
  have hcp2 : ∀ (W : World), W = w.drew.setB b (.cells (jY cc (off + (i + 1)) us) T (0, 0)) → ∀ ty dc, (Builtin.copy_ #[22, 22] ty #[.slice (some ⟨b, off + (i), none⟩) (n + 1 - i) dc, .slice (some ⟨vb, voff, none⟩) 1 vc]).run Try.prog W = .ok (goInt (1 : Nat)) (W.setB b (.cells (jY (jY cc (off + (i + 1)) us) (off + (i)) vs) T (0, 0))) := fun W hW ty dc =>
    s0 Try.underlying22 hinfo b _ _ dc ⟨vb, voff, none⟩ _ vc vs W 1 (by simp only [Nat.min_def]; split <;> omega) (by rw [hvl, hsz]) (fun j u hj => by
      rw [Addr.add_lit, hW]
      have := hvs j u hj
      unfold World.cell? at this ⊢
      rw [nQ _ _ hvb]; exact this) h1v _ T (by rw [hW]; exact hb2) (by rw [jS, hvl]; omega)
  have hb1 : (0 : Int) ≤ (i : Int) + 1 := by omega
  have hin : i ≤ n := by omega
  have hci1 : ¬ (c = i + 1) := by omega
  have hci : ¬ (c = i) := by omega
  have hb3 : (i : Int) ≤ (n : Int) + 1 := by omega
  have htn : ((i : Int) + 1).toNat = i + 1 := by omega
  have mixed : Try.prog.follows .mixedOrders = true := by kernel_rfl
  go_enter Try.func33, Try.ntmps33
  go_wp2_with (simp only [hov])
  go_region_law_o (refine step_copy_runI rfl _ _ 22 22 rfl _ _ (by simp [Act.eval, Act.put]) (by simp [Act.eval, Act.put]) (hcp1 _ _ _) ?_)
  go_wp2_with (at_builtin; refine wpList_copy_runI _ rfl _ _ 22 22 rfl _ _ rfl rfl (hcp2 _ rfl _ _) ?_)
  go_ret
  exact ⟨rfl, by rw [BV]⟩
theorem alloc_setB (w : World) (O O' : Obj) : (w.alloc O).setB w.heap.size O' = w.alloc O' := by
  have h : (w.heap.push O).setIfInBounds w.heap.size O' = w.heap.push O' := by
    apply Array.ext_getElem?
    intro j
    simp only [Array.getElem?_setIfInBounds, Array.getElem?_push, Array.size_push]
    by_cases e : w.heap.size = j
    · simp [e]
    · simp [e, Ne.symm e]
  unfold World.alloc World.setB
  simp only [h]
theorem ins_row (us0 zs vs us : List Value) (rest : Array Value) (h : zs.length = vs.length + us.length) : jY (jY ((us0 ++ zs).toArray ++ rest) us0.length vs) (us0.length + vs.length) us = (us0 ++ vs ++ us).toArray ++ rest := by
  apply Array.ext_getElem?
  intro j
  rw [o7, o7, jS]
  simp only [Array.size_append, List.size_toArray, List.length_append]
  by_cases h1 : j < us0.length
  · rw [if_neg (by omega), if_neg (by omega), Array.getElem?_append_left (by simp; omega), Array.getElem?_append_left (by simp; omega)]
    simp only [List.getElem?_toArray]
    rw [List.getElem?_append_left h1, List.append_assoc, List.getElem?_append_left h1]
  · by_cases h2 : j < us0.length + vs.length
    · rw [if_neg (by omega), if_pos (by omega), Array.getElem?_append_left (by simp; omega)]
      simp only [List.getElem?_toArray]
      rw [List.getElem?_append_left (by simp; omega), List.getElem?_append_right (by omega)]
    · by_cases h3 : j < us0.length + vs.length + us.length
      · rw [if_pos (by omega), Array.getElem?_append_left (by simp; omega)]
        simp only [List.getElem?_toArray]
        rw [List.getElem?_append_right (by simp; omega)]
        congr 1
        simp
      · rw [if_neg (by omega), if_neg (by omega), Array.getElem?_append_right (by simp; omega), Array.getElem?_append_right (by simp; omega)]
        congr 1
        simp only [List.size_toArray, List.length_append]
        omega
theorem ins_grow (us0 : List Value) (hi : i < n) (hnc : n ≤ c) (hroom : c < n + 1) (hbig : (n + 1) * 8 ≤ 140737488355328) (hn63 : n + 1 ≤ 4611686018427387904) (hvb : vb ≠ b) (hb : w.heap[b]? = some (.cells cc T (0, 0)))
    (hu0 : us0.length = (i)) (hus0 : ∀ k u, us0[k]? = some u → w.cell? ⟨b, off + k, none⟩ = some u)
    (hul : us.length = (n - i)) (hus : ∀ k u, us[k]? = some u → w.cell? ⟨b, off + (i) + k, none⟩ = some u) (h1u : ∀ v ∈ us, v.oneCell' = true)
    (hv : w.heap[vb]? = some (.cells cv Tv (0, 0))) (hvl : vs.length = 1) (hvs : ∀ k u, vs[k]? = some u → w.cell? ⟨vb, voff + k, none⟩ = some u) (h1v : ∀ v ∈ vs, v.oneCell' = true) :
    ∃ (G : Nat) (rest : Array Value), n + 1 ≤ G ∧ rest.size = (G - (n + 1)) * 1 ∧ Calls Try.prog 33 #[.slice (some ⟨b, off, none⟩) n c, .int .i64 i, .slice (some ⟨vb, voff, none⟩) 1 vc] w fun e w' =>
      e = .returned (.slice (some ⟨w.heap.size, 0, none⟩) (n + 1) G) ∧ w' = w.drew.drew.alloc (.cells ((us0 ++ vs ++ us).toArray ++ rest) 3) := by
  obtain ⟨I, hinfo, hz, hsz, hby⟩ := BJ
  have hbw : b < w.heap.size := (Array.getElem?_eq_some_iff.1 hb).1
  have hvw : vb < w.heap.size := (Array.getElem?_eq_some_iff.1 hv).1
  have hz2 : ¬ ((i : Int) = (n : Int)) := by omega
  have hz3 : (c : Int) < (n : Int) + 1 := by omega
  have hkk : (n : Int) + 1 - (i : Int) = ((n + 1 - i : Nat) : Int) := by omega
  have hik : i + (n + 1 - i) = n + 1 := by omega
  have hold : (Builtin.firstCells I.size i (.slice (some ⟨b, off, none⟩) i c)).run Try.prog w.drew = .ok us0.toArray w.drew :=
    run_firstCells_some w.drew I.size i ⟨b, off, none⟩ i c us0 (by rw [hu0, hsz]; try omega) (fun j v hj => by rw [Addr.add_lit]; exact hus0 j v hj)
  have hrz : ∀ ty, (Builtin.append_ #[22, 3] ty #[.slice (some ⟨b, off, none⟩) i c, .int .i64 ((n : Int) + 1 - (i : Int))]).run Try.prog w =
      .ok (.slice (some ⟨w.heap.size, 0, none⟩) (n + 1) (grownCap w (n + 1) c 3)) (w.drew.alloc (.cells (us0.toArray ++ Builtin.zeroCells (Value.int .i64 0).cells (n + 1 - i) ++ Builtin.zeroCells (Value.int .i64 0).cells (grownCap w (n + 1) c 3 - (n + 1))) 3)) := fun ty => by
    have h := Lib.run_append_grow_zeros (P := Try.prog) w 22 3 ty 3 I _ .i64 .i64 Try.underlying22 Try.underlying3 hinfo hz (some ⟨b, off, none⟩) i c us0 hold (n + 1 - i) (by omega) (by omega) (by omega) (by omega) (by rw [hby]; omega) (by rw [hby, hik]; exact growslice_fits hroom hbig)
    rw [hik] at h
    rw [hkk]
    exact h
  obtain ⟨G, hG⟩ : ∃ G, G = grownCap w (n + 1) c 3 := ⟨_, rfl⟩
  obtain ⟨zs, hzs⟩ : ∃ zs : List Value, zs = (Builtin.zeroCells (Value.int .i64 0).cells (n + 1 - i)).toList := ⟨_, rfl⟩
  obtain ⟨rest, hrest⟩ : ∃ rest : Array Value, rest = Builtin.zeroCells (Value.int .i64 0).cells (G - (n + 1)) := ⟨_, rfl⟩
  rw [← hG, ← hrest] at hrz
  have hzl : zs.length = vs.length + us.length := by rw [hzs, hvl, hul]; simp [Builtin.zeroCells, Value.cells]; omega
  have hROW : us0.toArray ++ Builtin.zeroCells (Value.int .i64 0).cells (n + 1 - i) ++ rest = (us0 ++ zs).toArray ++ rest := by rw [hzs]; apply Array.ext'; simp
  rw [hROW] at hrz
  have hGn : n + 1 ≤ G := by rw [hG]; exact grownCap_ge w _ _ _
  refine ⟨G, rest, hGn, by rw [hrest]; simp [Builtin.zeroCells, Value.cells], ?_⟩
  obtain ⟨ROW, hR⟩ : ∃ ROW, ROW = (us0 ++ zs).toArray ++ rest := ⟨_, rfl⟩
  obtain ⟨W1, hW1⟩ : ∃ W1, W1 = w.drew.alloc (.cells ROW 3) := ⟨_, rfl⟩
  rw [← hR, ← hW1] at hrz
  have hRs : ROW.size = us0.length + zs.length + rest.size := by rw [hR]; simp
  have h1 : W1.heap[w.heap.size]? = some (.cells ROW 3 (0, 0)) := by rw [hW1]; exact Array.getElem?_push_size
  have hold1 : ∀ k, k < w.heap.size → W1.heap[k]? = w.heap[k]? := fun k hk => by rw [hW1]; show (w.heap.push _)[k]? = _; rw [Array.getElem?_push, if_neg (by omega)]
  have hcpA : ∀ (W : World), W.heap = W1.heap → ∀ ty dc, (Builtin.copy_ #[22, 22] ty #[.slice (some ⟨w.heap.size, (i), none⟩) (n + 1 - i) dc, .slice (some ⟨vb, voff, none⟩) 1 vc]).run Try.prog W = .ok (goInt (1 : Nat)) (W.setB w.heap.size (.cells (jY ROW ((i)) vs) 3 (0, 0))) := fun W hW ty dc =>
    s0 Try.underlying22 hinfo _ _ _ dc ⟨vb, voff, none⟩ _ vc vs W 1 (by simp only [Nat.min_def]; split <;> omega) (by rw [hvl, hsz]) (fun j u hj => by
      rw [Addr.add_lit]
      have := hvs j u hj
      unfold World.cell? at this ⊢
      simp only at this ⊢
      rw [hW, hold1 _ hvw]; exact this) h1v ROW _ (by rw [hW]; exact h1) (by rw [hRs, hu0, hzl, hvl]; omega)
  have hcpB : ∀ (W : World), W.heap = (W1.setB w.heap.size (.cells (jY ROW ((i)) vs) 3 (0, 0))).heap → ∀ ty dc sc, (Builtin.copy_ #[22, 22] ty #[.slice (some ⟨w.heap.size, (i + 1), none⟩) (n - i) dc, .slice (some ⟨b, off + (i), none⟩) (n - i) sc]).run Try.prog W = .ok (goInt (n - i : Nat)) (W.setB w.heap.size (.cells (jY (jY ROW ((i)) vs) ((i + 1)) us) 3 (0, 0))) := fun W hW ty dc sc =>
    s0 Try.underlying22 hinfo _ _ _ dc ⟨b, off + (i), none⟩ _ sc us W (n - i) (by simp) (by rw [hul, hsz]; try omega) (fun j u hj => by
      rw [Addr.add_lit]
      have := hus j u hj
      unfold World.cell? at this ⊢
      simp only at this ⊢
      rw [hW, nQ _ _ (by omega), hold1 _ hbw]; exact this) h1u _ _ (by rw [hW]; exact BW h1 _) (by rw [jS, hRs, hu0, hzl, hul, hvl]; omega)
  have hb1 : (0 : Int) ≤ (i : Int) + 1 := by omega
  have hin : i ≤ n := by omega
  have hci : ¬ (c = i) := by omega
  have hGi : ¬ (G = i) := by omega
  have hGi1 : ¬ (G = i + 1) := by omega
  have hb3 : (i : Int) ≤ (n : Int) + 1 := by omega
  have htn : ((i : Int) + 1).toNat = i + 1 := by omega
  have hw1 : IntKind.i64.wrap ((i : Int) + 1) = (i : Int) + 1 := by rw [IntKind.wrap_i64]; omega
  have hw2 : IntKind.i64.wrap ((n : Int) + 1) = (n : Int) + 1 := by rw [IntKind.wrap_i64]; omega
  have hw3 : IntKind.i64.wrap ((n : Int) + 1 - (i : Int)) = (n : Int) + 1 - (i : Int) := by rw [IntKind.wrap_i64]; omega
  have hfin : (((W1.setB w.heap.size (.cells (jY ROW ((i)) vs) 3 (0, 0))).drew).setB w.heap.size (.cells (jY (jY ROW ((i)) vs) ((i + 1)) us) 3 (0, 0))) = w.drew.drew.alloc (.cells ((us0 ++ vs ++ us).toArray ++ rest) 3) := by
    have e1 := ins_row us0 zs vs us rest hzl
    have e2 : us0.length + vs.length = (i + 1) := by rw [hu0, hvl]; try omega
    rw [← hR, e2, hu0] at e1
    rw [e1, hW1]
    exact (BV (w.drew.alloc (.cells ROW 3)).drew w.heap.size _ _).trans (alloc_setB w.drew.drew _ _)
  obtain ⟨CA, hCA⟩ : ∃ CA, CA = jY ROW ((i)) vs := ⟨_, rfl⟩
  obtain ⟨CB, hCB⟩ : ∃ CB, CB = jY CA ((i + 1)) us := ⟨_, rfl⟩
  rw [← hCA] at hcpA hcpB hfin
  rw [← hCB] at hcpB hfin
  clear hCA hCB hkk hik hold hROW hG hRs hR hW1 hzs hrest h1 hold1 hzl
  have mixed : Try.prog.follows .mixedOrders = true := by kernel_rfl
  go_enter Try.func33, Try.ntmps33
  go_wp2_with (first
    | (at_builtin; refine Lib.wpList_append_run _ rfl _ _ _ _ rfl _ _ rfl rfl _ _ (hrz _) ?_)
    | (at_builtin; refine wpList_copy_runI _ rfl _ _ 22 22 rfl _ _ rfl rfl (hcpA _ rfl _ _) ?_))
  go_region_law_o (refine step_copy_runI rfl _ _ 22 22 rfl (.slice (some ⟨w.heap.size, (i + 1), none⟩) (n - i) (G - (i + 1))) (.slice (some ⟨b, off + (i), none⟩) (n - i) (c - i)) (by simp [Act.eval, Act.put]) (by simp [Act.eval, Act.put]) (hcpB (W1.setB w.heap.size (.cells CA 3 (0, 0))).drew rfl 3 (G - (i + 1)) (c - i)) ?_)
  go_wp2
  go_ret
  first | exact ⟨rfl, hfin⟩ | exact ⟨rfl, by rw [List.append_assoc]; rfl⟩
theorem P2 (A : Option Addr) (hnc : n ≤ c) (hn63 : n + 1 ≤ 4611686018427387904) {r : Value} {w' : World} (hr : ∀ ty, (Builtin.append_ #[22, 22] ty #[.slice A n c, .slice (some ⟨vb, voff, none⟩) 1 vc]).run Try.prog w = .ok r w') :
    Calls Try.prog 33 #[.slice A n c, .int .i64 n, .slice (some ⟨vb, voff, none⟩) 1 vc] w fun e w2 => e = .returned r ∧ w2 = w' := by
  have mixed : Try.prog.follows .mixedOrders = true := by kernel_rfl
  go_enter Try.func33, Try.ntmps33
  go_wp2_with (at_builtin; refine Lib.wpList_append_run _ rfl _ _ _ _ rfl _ _ rfl rfl _ _ (hr _) ?_)
  all_goals (go_ret; exact ⟨rfl, rfl⟩)
end
end
/-! slices.Insert's contract: own memory. -/
section
open Go.RowKit Go.Lib

/-- a world that differs in what was drawn alone -/
structure Like (w w0 : World) : Prop where
  heap : w0.heap = w.heap
  os : w0.os = w.os
  tape : w0.tape = w.tape
  output : w0.output = w.output
theorem Like.rfl' {w : World} : Like w w := ⟨rfl, rfl, rfl, rfl⟩
theorem Like.drew {w : World} : Like w w.drew := ⟨rfl, rfl, rfl, rfl⟩
theorem Like.drew2 {w : World} : Like w w.drew.drew := ⟨rfl, rfl, rfl, rfl⟩
theorem Like.rep {w w0 : World} (h : Like w w0) {H : aB} {ρ : bF} {R : Imm} (hR : Rep H ρ R w) : Rep H ρ R w0 := ⟨fun l o e => by rw [h.heap]; exact hR.own l o e, hR.sep, hR.dis, fun b O e => by rw [h.heap]; exact hR.imm b O e⟩
theorem Like.fut {w w0 : World} (h : Like w w0) {H : aB} {ρ ρ' : bF} {R R' : Imm} {W : Lab → Prop} {w' : World} (hF : Fut H ρ R w0 W ρ' R' w') : Fut H ρ R w W ρ' R' w' :=
  ⟨hF.ext, fun l L e => by have := hF.win l L e; rw [h.heap] at this; exact this, fun b O e => by have := hF.new b O e; rw [h.heap] at this; exact this, hF.os.trans h.os, hF.tape.trans h.tape, hF.output.trans h.output, by have := hF.size; rw [h.heap] at this; exact this, fun b hb hno => by
    have := hF.frame b (by rw [h.heap]; exact hb) hno; rw [h.heap] at this; exact this⟩
section
variable (b off n c i vb voff vc : Nat) (cc cv : Array Value) (T Tv : TypeId) (us vs : List Value) (w : World)
theorem ins_fit (hi : i ≤ n) (hroom : n + 1 ≤ c) (hn63 : n + 1 ≤ 4611686018427387904) (hvb : vb ≠ b) (hb : w.heap[b]? = some (.cells cc T (0, 0))) (hfit : off + (c) ≤ cc.size)
    (hul : us.length = (n - i)) (hus : ∀ k u, us[k]? = some u → w.cell? ⟨b, off + (i) + k, none⟩ = some u) (h1u : ∀ v ∈ us, v.oneCell' = true)
    (hv : w.heap[vb]? = some (.cells cv Tv (0, 0))) (hvl : vs.length = 1) (hvs : ∀ k u, vs[k]? = some u → w.cell? ⟨vb, voff + k, none⟩ = some u) (h1v : ∀ v ∈ vs, v.oneCell' = true) :
    Calls Try.prog 33 #[.slice (some ⟨b, off, none⟩) n c, .int .i64 i, .slice (some ⟨vb, voff, none⟩) 1 vc] w fun e w' =>
      e = .returned (.slice (some ⟨b, off, none⟩) (n + 1) c) ∧ ∃ w0, Like w w0 ∧ w' = w0.setB b (.cells (jY (jY cc (off + (i + 1)) us) (off + (i)) vs) T (0, 0)) := by
  obtain ⟨I, hinfo, hz, hsz, hby⟩ := BJ
  rcases Nat.lt_or_ge i n with hlt | hge
  · refine (ins_shift b off n c i vb voff vc cc cv T Tv us vs w hlt hroom hn63 hvb hb hfit hul hus h1u hv hvl hvs h1v).mono ?_
    rintro e w' ⟨he, hw⟩
    exact ⟨he, w.drew, .drew, hw⟩
  · obtain rfl : i = n := by omega
    have hus0 : us = [] := List.length_eq_zero_iff.1 (by rw [hul]; simp)
    subst hus0
    have hr := fun ty => tM (ty := ty) (P := Try.prog) Try.underlying22 Try.underlying22 hinfo b off i 1 c vc ⟨vb, voff, none⟩ vs hroom w (by rw [hvl, hsz]) (fun k u hk => by rw [Addr.add_lit]; exact hvs k u hk) h1v cc T hb (by rw [hsz, hvl]; omega)
    rw [hsz] at hr
    refine (P2 i c vb voff vc w _ (by omega) hn63 hr).mono ?_
    rintro e w' ⟨he, hw⟩
    refine ⟨he, w, .rfl', ?_⟩
    rw [hw]; simp [jY]
theorem NF (A : Option Addr) (us0 : List Value) (hi : i ≤ n) (hnc : n ≤ c) (hroom : c < n + 1) (hbig : (n + 1) * 8 ≤ 140737488355328) (hn63 : n + 1 ≤ 4611686018427387904)
    (hA : n = 0 ∨ (A = some ⟨b, off, none⟩ ∧ vb ≠ b ∧ w.heap[b]? = some (.cells cc T (0, 0))))
    (hu0 : us0.length = (i)) (hus0 : ∀ k u, us0[k]? = some u → w.cell? ⟨b, off + k, none⟩ = some u)
    (hul : us.length = (n - i)) (hus : ∀ k u, us[k]? = some u → w.cell? ⟨b, off + (i) + k, none⟩ = some u) (h1u : ∀ v ∈ us, v.oneCell' = true)
    (hv : w.heap[vb]? = some (.cells cv Tv (0, 0))) (hvl : vs.length = 1) (hvs : ∀ k u, vs[k]? = some u → w.cell? ⟨vb, voff + k, none⟩ = some u) (h1v : ∀ v ∈ vs, v.oneCell' = true) :
    Calls Try.prog 33 #[.slice A n c, .int .i64 i, .slice (some ⟨vb, voff, none⟩) 1 vc] w fun e w' =>
      ∃ (G : Nat) (rest : Array Value) (w0 : World), n + 1 ≤ G ∧ rest.size = (G - (n + 1)) * 1 ∧ Like w w0 ∧ e = .returned (.slice (some ⟨w.heap.size, 0, none⟩) (n + 1) G) ∧ w' = w0.alloc (.cells ((us0 ++ vs ++ us).toArray ++ rest) 3 (0, 0)) := by
  obtain ⟨I, hinfo, hz, hsz, hby⟩ := BJ
  rcases Nat.lt_or_ge i n with hlt | hge
  · obtain ⟨rfl, hvb, hb⟩ := hA.resolve_left (by omega)
    obtain ⟨G, rest, h1, h2, h3⟩ := ins_grow b off n c i vb voff vc cc cv T Tv us vs w us0 hlt hnc hroom hbig hn63 hvb hb hu0 hus0 hul hus h1u hv hvl hvs h1v
    refine h3.mono ?_
    rintro e w' ⟨he, hw⟩
    exact ⟨G, rest, w.drew.drew, h1, h2, .drew2, he, hw⟩
  · obtain rfl : i = n := by omega
    have husn : us = [] := List.length_eq_zero_iff.1 (by rw [hul]; simp)
    subst husn
    have key : ∃ nc rest, i + 1 ≤ nc ∧ rest.size = (nc - (i + 1)) * 1 ∧ ∀ ty, (Builtin.append_ #[22, 22] ty #[.slice A i c, .slice (some ⟨vb, voff, none⟩) 1 vc]).run Try.prog w = .ok (.slice (some ⟨w.heap.size, 0, none⟩) (i + 1) nc) (w.drew.alloc (.cells (us0.toArray ++ vs.toArray ++ rest) 3)) := by
      have hall := fun ty => yQ (ty := ty) (P := Try.prog) Try.underlying22 Try.underlying22 hinfo hz A i 1 c vc ⟨vb, voff, none⟩ us0 vs hroom hnc w (by rw [hu0, hsz]; try omega) (by
          rcases hA with h0 | ⟨rfl, _, _⟩
          · exact .inl h0
          · exact .inr ⟨_, rfl, fun k u hk => by rw [Addr.add_lit]; exact hus0 k u hk⟩) (by rw [hvl, hsz]) (fun k u hk => by rw [Addr.add_lit]; exact hvs k u hk) hn63 (by rw [hby]; exact hbig)
      obtain ⟨nc, rest, h1, _, h3, h4⟩ := hall 0
      refine ⟨nc, rest, h1, by rw [h3]; simp [Value.cells], fun ty => ?_⟩
      unfold Builtin.append_ at h4 ⊢
      exact h4
    obtain ⟨nc, rest, h1, h2, h3⟩ := key
    refine (P2 i c vb voff vc w A hnc hn63 h3).mono ?_
    rintro e w' ⟨he, hw⟩
    refine ⟨nc, rest, w.drew, h1, h2, .drew, he, ?_⟩
    rw [hw]; simp
end
theorem shift_get (cc : Array Value) (o : Nat) (us0 vs us : List Value) (h0 : ∀ k u, us0[k]? = some u → cc[o + k]? = some u) (hfit : o + us0.length + vs.length + us.length ≤ cc.size) :
    ∀ k u, (us0 ++ vs ++ us)[k]? = some u → (jY (jY cc (o + us0.length + vs.length) us) (o + us0.length) vs)[o + k]? = some u := by
  intro k u hk
  rw [o7, o7, jS]
  have hlt := (List.getElem?_eq_some_iff.1 hk).1
  simp only [List.length_append] at hlt
  by_cases h1 : k < us0.length
  · rw [if_neg (by omega), if_neg (by omega)]
    rw [List.append_assoc, List.getElem?_append_left h1] at hk
    exact h0 k u hk
  · by_cases h2 : k < us0.length + vs.length
    · rw [if_pos (by omega), show o + k - (o + us0.length) = k - us0.length by omega]
      rw [List.getElem?_append_left (by simp; omega), List.getElem?_append_right (by omega)] at hk
      exact hk
    · rw [if_neg (by omega), if_pos (by omega), show o + k - (o + us0.length + vs.length) = k - (us0.length + vs.length) by omega]
      rw [List.getElem?_append_right (by simp; omega)] at hk
      simpa using hk
theorem zB : xO Try.prog 33 := ⟨_, Try.func33, by kernel_rfl, by kernel_rfl⟩
theorem KM {H : aB} {q l lv : Lab} {off n i : Nat} {rs : List (List AV)} {row : List AV} (hl : H l = some (.rows 1 rs)) (hn : off + n ≤ rs.length) (hv : H lv = some (.rows 1 [row])) (hne : l ≠ lv) (hi : i ≤ n) (h48 : (n + 1) * 8 ≤ 140737488355328) (h63 : n + 1 ≤ 4611686018427387904) :
    aZ Try.prog 33 [.sl l 1 off n, .int .i64 i, .sl lv 1 0 1] H q ⟨.sl q 1 0 (n + 1), [(q, some (.rows 1 ((rs.drop off).take i ++ [row] ++ (rs.drop (off + i)).take (n - i)))), (l, none)], some [l, lv]⟩ := by
  refine ⟨zB, fun k hk => ?_, fun ρ R vals hvs w hR hfr => ?_⟩
  · obtain ⟨pr, hp, rfl⟩ := hk
    simp at hp
    rcases hp with rfl | rfl
    · exact .inr (.self _)
    · exact .inl (by simp [restr, hl])
  obtain ⟨v0, vals, rfl, hx0, hvs⟩ := hvs.head
  obtain ⟨v1, vals, rfl, hx1, hvs⟩ := hvs.head
  obtain ⟨v2, vals, rfl, hx2, hvs⟩ := hvs.head
  obtain rfl : vals = [] := List.length_eq_zero_iff.1 hvs.1
  cases hx1
  have hqf : ρ q = none := hfr q (.self q)
  have hGl : restr H (some [l, lv]) l = some (.rows 1 rs) := by rw [nS (by simp)]; exact hl
  have hGv : restr H (some [l, lv]) lv = some (.rows 1 [row]) := by rw [nS (by simp)]; exact hv
  obtain ⟨Lv, Ov, hLv, hOv, hrv⟩ := hR.own lv _ hGv
  obtain ⟨L, O, hL, hO, hr⟩ := hR.own l _ hGl
  have hbn : Lv.blk ≠ L.blk := fun e => hne (hR.sep lv l _ _ Lv L hGv hGl hLv hL e).symm
  cases Ov <;> (have hrv' := hrv; simp only [RepO] at hrv')
  rename_i cv Tv fzv
  obtain ⟨rfl, hvsz, hvrow, hvtop, hvcell⟩ := hrv'
  cases O <;> (have hr' := hr; simp only [RepO] at hr')
  rename_i cc T fz
  obtain ⟨rfl, hsz, hrow, htop, hcell⟩ := hr'
  obtain ⟨hV, hVr⟩ := rZ hrv (off := 0) (n := 1) (by simp)
  generalize ((List.range (1 * 1)).map fun k => cv.getD (Lv.off + 0 * 1 + k) undef) = vs at hV hVr
  have hVl : vs.length = 1 := by rw [hV.1]; simp
  rcases hx2.sl_inv with ⟨L2, vc, hL2, _, _, _, rfl⟩ | ⟨h0, _⟩
  rotate_left
  · cases h0
  rw [hLv] at hL2; cases hL2
  obtain ⟨h0, h0r⟩ := rZ hr (off := off) (n := i) (by omega)
  obtain ⟨hU, hUr⟩ := rZ hr (off := off + i) (n := n - i) (by omega)
  generalize ((List.range (i * 1)).map fun k => cc.getD (L.off + off * 1 + k) undef) = us0 at h0 h0r
  generalize ((List.range ((n - i) * 1)).map fun k => cc.getD (L.off + (off + i) * 1 + k) undef) = us at hU hUr
  have h0l : us0.length = (i) := by rw [h0.1, List.length_take, List.length_drop]; simp; omega
  have hUl : us.length = (n - i) := by rw [hU.1, List.length_take, List.length_drop]; simp; omega
  have hall : RowsL ρ R 1 ((rs.drop off).take i ++ [row] ++ (rs.drop (off + i)).take (n - i)) (us0 ++ vs ++ us) := (h0.append (by simpa using hV)).append hU
  have hlen : ((rs.drop off).take i ++ [row] ++ (rs.drop (off + i)).take (n - i)).length = n + 1 := by simp; omega
  have hvread : ∀ k u, vs[k]? = some u → w.cell? ⟨Lv.blk, Lv.off + 0 * 1 + k, none⟩ = some u := fun k u hk => by rw [o9 hOv]; exact hVr k u hk
  have huread : ∀ k u, us[k]? = some u → w.cell? ⟨L.blk, L.off + off * 1 + (i) + k, none⟩ = some u := fun k u hk => by
    rw [o9 hO]
    have := hUr k u hk
    rw [Nat.add_mul] at this
    rw [← this]; congr 1; omega
  have h0read : ∀ k u, us0[k]? = some u → w.cell? ⟨L.blk, L.off + off * 1 + k, none⟩ = some u := fun k u hk => by rw [o9 hO]; exact h0r k u hk
  have more : ∀ (A : Option Addr) (c : Nat), n ≤ c → c < n + 1 → (n = 0 ∨ A = some ⟨L.blk, L.off + off * 1, none⟩) → sA Try.prog 33 #[.slice A n c, .int .i64 i, .slice (some ⟨Lv.blk, Lv.off + 0 * 1, none⟩) 1 vc] w fun v w' => ∃ ρ' R', Fut (restr H (some [l, lv])) ρ R w (Under q) ρ' R' w' ∧ RepV ρ' R' (.sl q 1 0 (n + 1)) v ∧ Rep (upd [(q, some (.rows 1 ((rs.drop off).take i ++ [row] ++ (rs.drop (off + i)).take (n - i)))), (l, none)] (restr H (some [l, lv]))) ρ' R' w' := by
    intro A c h1 h2 h3
    refine (NF L.blk (L.off + off * 1) n c i Lv.blk (Lv.off + 0 * 1) vc cc cv T Tv us vs w A us0 hi h1 h2 h48 h63 (h3.imp id fun e => ⟨e, hbn, hO⟩) h0l h0read hUl huread (hU.one (by decide)) hOv hVl hvread (hV.one (by decide))).mono ?_
    rintro e w' ⟨G, rest, w0, hG, hrest, hlk, rfl, rfl⟩
    have hsz0 : w0.heap.size = w.heap.size := by rw [hlk.heap]
    obtain ⟨hF, hRep⟩ := B4 (W := Under q) (hlk.rep hR) hqf (Under.self q) (O := .cells ((us0 ++ vs ++ us).toArray ++ rest) 3 (0, 0)) (L := ⟨w0.heap.size, 0, ((us0 ++ vs ++ us).toArray ++ rest).size, ((rs.drop off).take i ++ [row] ++ (rs.drop (off + i)).take (n - i)).length⟩) rfl (E8 hall rest _ _)
    refine ⟨_, rfl, _, _, hlk.fut hF, ?_, hRep.drop (fun k ob hk => ?_)⟩
    · have := RepV.sl (ρ := fun k => if k = q then some ⟨w0.heap.size, 0, ((us0 ++ vs ++ us).toArray ++ rest).size, ((rs.drop off).take i ++ [row] ++ (rs.drop (off + i)).take (n - i)).length⟩ else ρ k) (R := R) q 1 0 (n + 1) G _ (if_pos rfl) hG (by
        simp only [Nat.zero_add, Array.size_append, List.size_toArray, List.length_append]
        rw [h0l, hVl, hUl, hrest]; omega) (by rw [hlen]; simp only [Nat.zero_add]; exact hG)
      rw [hsz0] at this
      simpa [hsz0] using this
    · simp only [upd] at hk ⊢
      split at hk
      · rename_i e; rw [if_pos e]; exact hk
      · rename_i e; rw [if_neg e]
        split at hk
        · cases hk
        · exact hk
  show sA Try.prog 33 #[v0, .int .i64 i, _] w _
  rcases hx0.sl_inv with ⟨L3, cap, hL3, hcap, ht, hext, rfl⟩ | ⟨rfl, L3, ad, hL3, hext, rfl⟩
  · rw [hL] at hL3; cases hL3
    rcases Nat.lt_or_ge cap (n + 1) with hlt | hge
    · exact more _ _ hcap hlt (.inr rfl)
    · refine (ins_fit L.blk (L.off + off * 1) n cap i Lv.blk (Lv.off + 0 * 1) vc cc cv T Tv us vs w hi hge h63 hbn hO (by rw [hsz]; rw [Nat.add_mul] at ht; omega) hUl huread (hU.one (by decide)) hOv hVl hvread (hV.one (by decide))).mono ?_
      rintro e w' ⟨rfl, w0, hlk, rfl⟩
      have hroom : L.off + off * 1 + us0.length + vs.length + us.length ≤ cc.size := by rw [h0l, hVl, hUl, hsz]; rw [Nat.add_mul] at ht; omega
      have hget := shift_get cc (L.off + off * 1) us0 vs us h0r hroom
      have e1 : L.off + off * 1 + us0.length + vs.length = L.off + off * 1 + (i + 1) := by rw [h0l, hVl]; omega
      have e2 : L.off + off * 1 + us0.length = L.off + off * 1 + (i) := by rw [h0l]
      rw [e1, e2] at hget
      have hnew : RepO ρ R ⟨L.blk, L.off + off * 1, L.top, n + 1⟩ (.rows 1 ((rs.drop off).take i ++ [row] ++ (rs.drop (off + i)).take (n - i))) (.cells (jY (jY cc (L.off + off * 1 + (i + 1)) us) (L.off + off * 1 + (i)) vs) T (0, 0)) := by
        refine ⟨rfl, by rw [jS, jS]; exact hsz, hall.2.1, ⟨hlen, ?_⟩, fun ii jj xx hxx => ?_⟩
        · rw [hlen, ← hsz]; rw [h0l, hVl, hUl] at hroom; simp only; omega
        · obtain ⟨v, hv, hvr⟩ := hall.2.2 ii jj xx hxx
          exact ⟨v, hget _ _ hv, hvr⟩
      have hO0 : w0.heap[L.blk]? = some (.cells cc T (0, 0)) := by rw [hlk.heap]; exact hO
      obtain ⟨hF, hRep⟩ := IG (W := Under q) (hlk.rep hR) hqf (Under.self q) hGl hL hO0 (L' := ⟨L.blk, L.off + off * 1, L.top, n + 1⟩) rfl hnew
      refine ⟨_, rfl, _, _, hlk.fut hF, ?_, hRep⟩
      have := RepV.sl (ρ := fun k => if k = q then some ⟨L.blk, L.off + off * 1, L.top, n + 1⟩ else ρ k) (R := R) q 1 0 (n + 1) cap _ (if_pos rfl) hge (by simp only; rw [Nat.add_mul] at ht; omega) (by simp only [Nat.zero_add]; exact hge)
      simpa using this
  · exact more _ _ (Nat.le_refl _) (by omega) (.inl rfl)
theorem F7 {H : aB} {q lv : Lab} {x : AV} {row : List AV} (hxn : x = .nils ∨ x = .sl0) (hv : H lv = some (.rows 1 [row])) :
    aZ Try.prog 33 [x, .int .i64 0, .sl lv 1 0 1] H q ⟨.sl q 1 0 1, [(q, some (.rows 1 [row]))], some [lv]⟩ := by
  refine ⟨zB, fun k hk => by rw [cR hk]; exact .inr (.self _), fun ρ R vals hvs w hR hfr => ?_⟩
  obtain ⟨v0, vals, rfl, hx0, hvs⟩ := hvs.head
  obtain ⟨v1, vals, rfl, hx1, hvs⟩ := hvs.head
  obtain ⟨v2, vals, rfl, hx2, hvs⟩ := hvs.head
  obtain rfl : vals = [] := List.length_eq_zero_iff.1 hvs.1
  cases hx1
  obtain ⟨A, rfl⟩ : ∃ A, v0 = .slice A 0 0 := by
    rcases hxn with rfl | rfl <;> (cases hx0; exact ⟨_, rfl⟩)
  have hqf : ρ q = none := hfr q (.self q)
  have hGv : restr H (some [lv]) lv = some (.rows 1 [row]) := by rw [nS (by simp)]; exact hv
  obtain ⟨Lv, Ov, hLv, hOv, hrv⟩ := hR.own lv _ hGv
  cases Ov <;> (have hrv' := hrv; simp only [RepO] at hrv')
  rename_i cv Tv fzv
  obtain ⟨rfl, hvsz, hvrow, hvtop, hvcell⟩ := hrv'
  obtain ⟨hV, hVr⟩ := rZ hrv (off := 0) (n := 1) (by simp)
  generalize ((List.range (1 * 1)).map fun k => cv.getD (Lv.off + 0 * 1 + k) undef) = vs at hV hVr
  have hVl : vs.length = 1 := by rw [hV.1]; simp
  rcases hx2.sl_inv with ⟨L2, vc, hL2, _, _, _, rfl⟩ | ⟨h0, _⟩
  rotate_left
  · cases h0
  rw [hLv] at hL2; cases hL2
  have hall : RowsL ρ R 1 [row] vs := by simpa using hV
  have hvread : ∀ k u, vs[k]? = some u → w.cell? ⟨Lv.blk, Lv.off + 0 * 1 + k, none⟩ = some u := fun k u hk => by rw [o9 hOv]; exact hVr k u hk
  refine (NF 0 0 0 0 0 Lv.blk (Lv.off + 0 * 1) vc #[] cv 0 Tv [] vs w A [] (Nat.le_refl _) (Nat.le_refl _) (by decide) (by decide) (by decide) (.inl rfl) (by simp) (fun k u h => by simp at h) (by simp) (fun k u h => by simp at h) (by simp) hOv hVl hvread (hV.one (by decide))).mono ?_
  rintro e w' ⟨G, rest, w0, hG, hrest, hlk, rfl, rfl⟩
  have hsz0 : w0.heap.size = w.heap.size := by rw [hlk.heap]
  obtain ⟨hF, hRep⟩ := B4 (W := Under q) (hlk.rep hR) hqf (Under.self q) (O := .cells (vs.toArray ++ rest) 3 (0, 0)) (L := ⟨w0.heap.size, 0, (vs.toArray ++ rest).size, 1⟩) rfl (E8 hall rest _ _)
  have e0 : ([] ++ vs ++ [] : List Value) = vs := by simp
  rw [e0]
  refine ⟨_, rfl, _, _, hlk.fut hF, ?_, hRep⟩
  have := RepV.sl (ρ := fun k => if k = q then some ⟨w0.heap.size, 0, (vs.toArray ++ rest).size, 1⟩ else ρ k) (R := R) q 1 0 1 G _ (if_pos rfl) hG (by
    simp only [Nat.zero_add, Array.size_append, List.size_toArray]
    rw [hVl, hrest]; omega) (by simp only [Nat.zero_add]; exact hG)
  rw [hsz0] at this
  simpa [hsz0] using this
theorem insert_nil {H : aB} {q lv : Lab} {row : List AV} (hv : H lv = some (.rows 1 [row])) :
    aZ Try.prog 33 [.nils, .int .i64 0, .sl lv 1 0 1] H q ⟨.sl q 1 0 1, [(q, some (.rows 1 [row]))], some [lv]⟩ := F7 (.inl rfl) hv
end
/-! slices.Delete, walked; its contract: own memory. -/
section
open Go.RowKit Go.Lib
theorem run_clear_fit {P : Program} {t ty E : TypeId} {z : Value} (hd : P.underlying t = some (.slice E)) (hzv : ∀ w, (zeroValue E).run P w = .ok z w) (b o k c : Nat) (w : World) (hk : 0 < k)
    (hone : ∀ v ∈ (Builtin.zeroCells z.cells k).toList, v.oneCell' = true) (cc : Array Value) (T' : TypeId) (hb : w.heap[b]? = some (.cells cc T' (0, 0))) (hfit : o + (Builtin.zeroCells z.cells k).size ≤ cc.size) :
    (Builtin.clear_ #[t] ty #[.slice (some ⟨b, o, none⟩) k c]).run P w = .ok (.tuple #[]) (w.setB b (.cells (jY cc o (Builtin.zeroCells z.cells k).toList) T' (0, 0))) := by
  have hs := nR (P := P) (Builtin.zeroCells z.cells k).toList w b o 0 cc T' hb hone (by simpa using hfit)
  simp only [Nat.add_zero] at hs
  obtain ⟨m, rfl⟩ : ∃ m, k = m + 1 := ⟨k - 1, by omega⟩
  simp [Builtin.clear_, aD hd, hzv, hs]
theorem step_append_runI {P : Program} {ops : Array Oper} {o : Oper} {a : Act} {w : World} {K : Act → World → Prop} {Q : Exit → Act → World → Prop} {E : Prop}
    (hg : o.guard = none) (d x : Operand) (dT sT : TypeId) (hop : o.op = Op.call { callee := Callee.builtin Builtin.append, args := #[d, x], argTypes := #[dT, sT] })
    (v u : Value) (hd : a.eval d = v) (hx : a.eval x = u) {v' : Value} {w' : World} (hr : (Builtin.append_ #[dT, sT] o.type #[v, u]).run P w = .ok v' w') (hK : K (a.put o.dst v') w') :
    if Region.wanted o (yielded ops a.tmps) = true then Oper.wp P o a w K Q else E := by
  have hw : Region.wanted o (yielded ops a.tmps) = true := by simp [Region.wanted, hg]
  rw [if_pos hw]
  unfold Oper.wp
  simp [execOp, hop, resolve, invoke, builtin, hd, hx, hr, Result.andThen]
  exact hK
theorem zero_one (k : Nat) : ∀ v ∈ (Builtin.zeroCells (Value.int .i64 0).cells k).toList, v.oneCell' = true := by
  intro v hv
  have hz : ∀ m, m < (Value.int .i64 0).cells.size → ((Value.int .i64 0).cells[m]!).oneCell' = true := by decide
  simp only [Builtin.zeroCells, Array.toList_map, List.mem_map] at hv
  obtain ⟨m, _, rfl⟩ := hv
  exact hz _ (Nat.mod_lt _ (by decide))
section
set_option maxHeartbeats 4000000
variable (b off n c i j : Nat) (cc : Array Value) (T : TypeId) (us : List Value) (w : World)
theorem del_walk (hi : i < j) (hj : j ≤ n) (hc : n ≤ c) (hn63 : n ≤ 4611686018427387904) (hb : w.heap[b]? = some (.cells cc T (0, 0))) (hfit : off + (c) ≤ cc.size)
    (hul : us.length = (n - j)) (hus : ∀ k u, us[k]? = some u → w.cell? ⟨b, off + (j) + k, none⟩ = some u) (h1u : ∀ v ∈ us, v.oneCell' = true) :
    Calls Try.prog 34 #[.slice (some ⟨b, off, none⟩) n c, .int .i64 i, .int .i64 j] w fun e w' =>
      e = .returned (.slice (some ⟨b, off, none⟩) (i + (n - j)) c) ∧ ∃ zs : List Value, zs.length = (j - i) ∧ w' = w.drew.setB b (.cells (jY (jY cc (off + (i)) us) (off + (i + (n - j))) zs) T (0, 0)) := by
  obtain ⟨I, hinfo, hz, hsz, hby⟩ := BJ
  have hz2 : ¬ ((i : Int) = (j : Int)) := by omega
  obtain ⟨A, hA, hsrc⟩ : ∃ A : Addr, (if c = j then some (⟨b, off, none⟩ : Addr) else some ⟨b, off + (j), none⟩) = some A ∧ (∀ k u, us[k]? = some u → w.drew.cell? (A.add k) = some u) := by
    by_cases h : c = j
    · refine ⟨⟨b, off, none⟩, by simp [h], fun k u hu => ?_⟩
      have h0 : us = [] := List.length_eq_zero_iff.1 (by rw [hul]; omega)
      rw [h0] at hu; simp at hu
    · exact ⟨⟨b, off + (j), none⟩, by simp [h], fun k u hu => by rw [Addr.add_lit]; exact hus k u hu⟩
  obtain ⟨C1, hC1⟩ : ∃ C1, C1 = jY cc (off + (i)) us := ⟨_, rfl⟩
  have happ : ∀ ty cx, (Builtin.append_ #[22, 22] ty #[.slice (some ⟨b, off, none⟩) i c, .slice (some A) (n - j) cx]).run Try.prog w.drew = .ok (.slice (some ⟨b, off, none⟩) (i + (n - j)) c) (w.drew.setB b (.cells C1 T (0, 0))) := fun ty cx => by
    have := tM (ty := ty) (P := Try.prog) Try.underlying22 Try.underlying22 hinfo b off i (n - j) c cx A us (by omega) w.drew (by rw [hul, hsz]; try omega) hsrc h1u cc T hb (by rw [hsz, hul]; omega)
    rw [hsz] at this
    try simp only [Nat.mul_one] at this
    rw [hC1]; exact this
  obtain ⟨W1, hW1⟩ : ∃ W1, W1 = w.drew.setB b (.cells C1 T (0, 0)) := ⟨_, rfl⟩
  rw [← hW1] at happ
  have hs1 : C1.size = cc.size := by rw [hC1, jS]
  have hb1 : W1.heap[b]? = some (.cells C1 T (0, 0)) := by rw [hW1]; exact BW (w := w.drew) hb _
  have hzl : (Builtin.zeroCells (Value.int .i64 0).cells (j - i)).size = (j - i) := by simp [Builtin.zeroCells, Value.cells]
  have hcl : ∀ ty cx, (Builtin.clear_ #[22] ty #[.slice (some ⟨b, off + (i + (n - j)), none⟩) (n - (i + (n - j))) cx]).run Try.prog W1 = .ok (.tuple #[]) (W1.setB b (.cells (jY C1 (off + (i + (n - j))) (Builtin.zeroCells (Value.int .i64 0).cells (j - i)).toList) T (0, 0))) := fun ty cx => by
    have e : n - (i + (n - j)) = j - i := by omega
    rw [e]
    exact run_clear_fit Try.underlying22 (oN hinfo hz) b _ (j - i) cx W1 (by omega) (zero_one _) C1 T hb1 (by rw [hzl, hs1]; omega)
  have hic : i ≤ c := by omega
  have hjc : j ≤ c := by omega
  have hin : i ≤ n := by omega
  have hjn : (j : Int) ≤ (n : Int) := by omega
  have hij : (i : Int) ≤ (j : Int) := by omega
  have hci : ¬ (c = i) := by omega
  have hcne : ¬ (c = i + (n - j)) := by omega
  have hcl2 : (off + (i + (n - j)) + (j - i)) ≤ cc.size := by omega
  have mixed : Try.prog.follows .mixedOrders = true := by kernel_rfl
  have hfin : ∀ O, W1.setB b O = w.drew.setB b O := fun O => by rw [hW1, BV]
  rw [← hC1]
  clear hb1 hs1 hC1 hW1
  go_enter Try.func34, Try.ntmps34
  go_wp2_with fail
  go_region_law_o (refine step_append_runI rfl _ _ 22 22 rfl (.slice (some ⟨b, off, none⟩) i c) (.slice (some A) (n - j) (c - j)) (by simp [Act.eval, Act.put]) (by simp [Act.eval, Act.put]) (happ _ _) ?_)
  go_wp2
  go_ret
  refine ⟨rfl, (Builtin.zeroCells (Value.int .i64 0).cells (j - i)).toList, by simpa using hzl, ?_⟩
  first | exact hfin _ | rfl
theorem NR (A : Option Addr) (hi : i ≤ n) (hc : n ≤ c) : Calls Try.prog 34 #[.slice A n c, .int .i64 i, .int .i64 i] w fun e w' => e = .returned (.slice A n c) ∧ w' = w := by
  have hin : (i : Int) ≤ (n : Int) := by omega
  have hic : i ≤ c := by omega
  have mixed : Try.prog.follows .mixedOrders = true := by kernel_rfl
  go_enter Try.func34, Try.ntmps34
  go_wp2
  all_goals (go_ret; exact ⟨rfl, rfl⟩)
end
theorem del_get (cc : Array Value) (o : Nat) (us0 us zs : List Value) (h0 : ∀ k u, us0[k]? = some u → cc[o + k]? = some u) (hfit : o + us0.length + us.length + zs.length ≤ cc.size) :
    ∀ k u, (us0 ++ us)[k]? = some u → (jY (jY cc (o + us0.length) us) (o + us0.length + us.length) zs)[o + k]? = some u := by
  intro k u hk
  rw [o7, o7, jS]
  have hlt := (List.getElem?_eq_some_iff.1 hk).1
  simp only [List.length_append] at hlt
  rw [if_neg (by omega)]
  by_cases h1 : k < us0.length
  · rw [if_neg (by omega)]
    rw [List.getElem?_append_left h1] at hk
    exact h0 k u hk
  · rw [if_pos (by omega), show o + k - (o + us0.length) = k - us0.length by omega]
    rw [List.getElem?_append_right (by omega)] at hk
    exact hk
theorem delete_callable : xO Try.prog 34 := ⟨_, Try.func34, by kernel_rfl, by kernel_rfl⟩
theorem FF {H : aB} {q l : Lab} {off n i j : Nat} {rs : List (List AV)} (hl : H l = some (.rows 1 rs)) (hn : off + n ≤ rs.length) (hij : i ≤ j) (hj : j ≤ n) (h63 : n ≤ 4611686018427387904) :
    aZ Try.prog 34 [.sl l 1 off n, .int .i64 i, .int .i64 j] H q ⟨.sl q 1 0 (i + (n - j)), [(q, some (.rows 1 ((rs.drop off).take i ++ (rs.drop (off + j)).take (n - j)))), (l, none)], some [l]⟩ := by
  refine ⟨delete_callable, fun k hk => ?_, fun ρ R vals hvs w hR hfr => ?_⟩
  · obtain ⟨pr, hp, rfl⟩ := hk
    simp at hp
    rcases hp with rfl | rfl
    · exact .inr (.self _)
    · exact .inl (by simp [restr, hl])
  obtain ⟨v0, vals, rfl, hx0, hvs⟩ := hvs.head
  obtain ⟨v1, vals, rfl, hx1, hvs⟩ := hvs.head
  obtain ⟨v2, vals, rfl, hx2, hvs⟩ := hvs.head
  obtain rfl : vals = [] := List.length_eq_zero_iff.1 hvs.1
  cases hx1
  cases hx2
  have hqf : ρ q = none := hfr q (.self q)
  have hGl : restr H (some [l]) l = some (.rows 1 rs) := by rw [nS (by simp)]; exact hl
  obtain ⟨L, O, hL, hO, hr⟩ := hR.own l _ hGl
  cases O <;> (have hr' := hr; simp only [RepO] at hr')
  rename_i cc T fz
  obtain ⟨rfl, hsz, hrow, htop, hcell⟩ := hr'
  obtain ⟨h0, h0r⟩ := rZ hr (off := off) (n := i) (by omega)
  obtain ⟨hU, hUr⟩ := rZ hr (off := off + j) (n := n - j) (by omega)
  generalize ((List.range (i * 1)).map fun k => cc.getD (L.off + off * 1 + k) undef) = us0 at h0 h0r
  generalize ((List.range ((n - j) * 1)).map fun k => cc.getD (L.off + (off + j) * 1 + k) undef) = us at hU hUr
  have h0l : us0.length = (i) := by rw [h0.1, List.length_take, List.length_drop]; simp; omega
  have hUl : us.length = (n - j) := by rw [hU.1, List.length_take, List.length_drop]; simp; omega
  have hall : RowsL ρ R 1 ((rs.drop off).take i ++ (rs.drop (off + j)).take (n - j)) (us0 ++ us) := h0.append hU
  have hlen : ((rs.drop off).take i ++ (rs.drop (off + j)).take (n - j)).length = i + (n - j) := by simp; omega
  have huread : ∀ k u, us[k]? = some u → w.cell? ⟨L.blk, L.off + off * 1 + (j) + k, none⟩ = some u := fun k u hk => by
    rw [o9 hO]
    have := hUr k u hk
    rw [Nat.add_mul] at this
    rw [← this]; congr 1; omega
  have htop1 : L.off + off * 1 + (n) ≤ L.top := by
    have : (off + n) * 1 ≤ rs.length * 1 := Nat.mul_le_mul_right _ hn
    have := htop.2
    rw [Nat.add_mul] at *
    omega
  -- what becomes of the block
  have fin : ∀ (w0 : World) (C : Array Value), Like w w0 → C.size = cc.size → (∀ k u, (us0 ++ us)[k]? = some u → C[L.off + off * 1 + k]? = some u) →
      ∃ ρ' R', Fut (restr H (some [l])) ρ R w (Under q) ρ' R' (w0.setB L.blk (.cells C T (0, 0))) ∧ ρ' q = some ⟨L.blk, L.off + off * 1, L.top, i + (n - j)⟩ ∧ Rep (upd [(q, some (.rows 1 ((rs.drop off).take i ++ (rs.drop (off + j)).take (n - j)))), (l, none)] (restr H (some [l]))) ρ' R' (w0.setB L.blk (.cells C T (0, 0))) := by
    intro w0 C hlk hCs hget
    have hnew : RepO ρ R ⟨L.blk, L.off + off * 1, L.top, i + (n - j)⟩ (.rows 1 ((rs.drop off).take i ++ (rs.drop (off + j)).take (n - j))) (.cells C T (0, 0)) := by
      refine ⟨rfl, by rw [hCs]; exact hsz, hall.2.1, ⟨hlen, ?_⟩, fun ii jj xx hxx => ?_⟩
      · rw [hlen]; simp only; omega
      · obtain ⟨v, hv, hvr⟩ := hall.2.2 ii jj xx hxx
        exact ⟨v, hget _ _ hv, hvr⟩
    have hO0 : w0.heap[L.blk]? = some (.cells cc T (0, 0)) := by rw [hlk.heap]; exact hO
    obtain ⟨hF, hRep⟩ := IG (W := Under q) (hlk.rep hR) hqf (Under.self q) hGl hL hO0 (L' := ⟨L.blk, L.off + off * 1, L.top, i + (n - j)⟩) rfl hnew
    exact ⟨_, _, hlk.fut hF, if_pos rfl, hRep⟩
  rcases Nat.lt_or_ge i j with hlt | hge
  · show sA Try.prog 34 #[v0, .int .i64 i, .int .i64 j] w _
    rcases hx0.sl_inv with ⟨L3, cap, hL3, hcap, ht, hext, rfl⟩ | ⟨rfl, _⟩
    · rw [hL] at hL3; cases hL3
      refine (del_walk L.blk (L.off + off * 1) n cap i j cc T us w hlt hj hcap h63 hO (by rw [hsz]; rw [Nat.add_mul] at ht; omega) hUl huread (hU.one (by decide))).mono ?_
      rintro e w' ⟨rfl, zs, hzs, rfl⟩
      have hroom : L.off + off * 1 + us0.length + us.length + zs.length ≤ cc.size := by rw [h0l, hUl, hzs, hsz]; omega
      have hget := del_get cc (L.off + off * 1) us0 us zs h0r hroom
      have e1 : L.off + off * 1 + us0.length = L.off + off * 1 + (i) := by rw [h0l]
      have e2 : L.off + off * 1 + (i) + us.length = L.off + off * 1 + (i + (n - j)) := by rw [hUl]; omega
      rw [e1, e2] at hget
      obtain ⟨ρ', R', hF, hq, hRep⟩ := fin w.drew _ .drew (by rw [jS, jS]) hget
      refine ⟨_, rfl, ρ', R', hF, ?_, hRep⟩
      have := RepV.sl (ρ := ρ') (R := R') q 1 0 (i + (n - j)) cap _ hq (by omega) (by simp only; rw [Nat.add_mul] at ht; omega) (by simp only [Nat.zero_add]; omega)
      simpa using this
    · omega
  · obtain rfl : i = j := by omega
    have e5 : i + (n - i) = n := by omega
    show sA Try.prog 34 #[v0, .int .i64 i, .int .i64 i] w _
    have hid : w.setB L.blk (.cells cc T (0, 0)) = w := LJ hO
    have hget : ∀ k u, (us0 ++ us)[k]? = some u → cc[L.off + off * 1 + k]? = some u := fun k u hk => by
      by_cases h1 : k < us0.length
      · rw [List.getElem?_append_left h1] at hk; exact h0r k u hk
      · rw [List.getElem?_append_right (by omega)] at hk
        have := hUr _ _ hk
        rw [h0l] at this h1
        rw [Nat.add_mul] at this
        rw [← this]; congr 1; omega
    obtain ⟨ρ', R', hF, hq, hRep⟩ := fin w cc .rfl' rfl hget
    rw [hid] at hF hRep
    rw [e5] at hq ⊢
    rcases hx0.sl_inv with ⟨L3, cap, hL3, hcap, ht, hext, rfl⟩ | ⟨rfl, L3, ad, hL3, hext, rfl⟩
    · rw [hL] at hL3; cases hL3
      refine (NR n cap i w _ hj hcap).mono ?_
      rintro e w' ⟨rfl, rfl⟩
      refine ⟨_, rfl, ρ', R', hF, ?_, hRep⟩
      have := RepV.sl (ρ := ρ') (R := R') q 1 0 n cap _ hq hcap (by simp only; rw [Nat.add_mul] at ht; omega) (by simp only [Nat.zero_add]; omega)
      simpa using this
    · refine (NR 0 0 i w _ hj (Nat.le_refl _)).mono ?_
      rintro e w' ⟨rfl, rfl⟩
      exact ⟨_, rfl, ρ', R', hF, .slz q 1 0 ad _ hq (Nat.le_refl _), hRep⟩
end
/-! slices.Insert and slices.Delete, as calls that are run by their contracts. -/
section
def aAo (xs : List AV) (H : aB) (q : Lab) : Option Res := match xs with
  | [.nils, .int .i64 0, .sl lv 1 0 1] => match H lv with
    | some (.rows 1 [row]) => some ⟨.sl q 1 0 1, [(q, some (.rows 1 [row]))], some [lv]⟩
    | _ => none
  | [.sl l 1 off n, .int .i64 k, .sl lv 1 0 1] => match H l, H lv with
    | some (.rows 1 rs), some (.rows 1 [row]) => if off + n ≤ rs.length ∧ l ≠ lv ∧ 0 ≤ k ∧ k.toNat ≤ n ∧ (n + 1) * 8 ≤ 140737488355328 then some ⟨.sl q 1 0 (n + 1), [(q, some (.rows 1 ((rs.drop off).take k.toNat ++ [row] ++ (rs.drop (off + k.toNat)).take (n - k.toNat)))), (l, none)], some [l, lv]⟩ else none
    | _, _ => none
  | _ => none
def aAp (xs : List AV) (H : aB) (q : Lab) : Option Res := match xs with
  | [.sl l 1 off n, .int .i64 a, .int .i64 b] => match H l with
    | some (.rows 1 rs) => if off + n ≤ rs.length ∧ 0 ≤ a ∧ a ≤ b ∧ b ≤ (n : Int) ∧ n ≤ 4611686018427387904 then some ⟨.sl q 1 0 (a.toNat + (n - b.toNat)), [(q, some (.rows 1 ((rs.drop off).take a.toNat ++ (rs.drop (off + b.toNat)).take (n - b.toNat)))), (l, none)], some [l]⟩ else none
    | _ => none
  | _ => none
def Z7 : b9 := fun f xs H q => if f = 33 then aAo xs H q else if f = 34 then aAp xs H q else none
theorem extI_ok : iS Try.prog Z7 := FI fun f xs H q r h => by
  unfold Z7 at h
  split at h
  · rename_i hf; subst hf
    unfold aAo at h
    split at h
    · split at h
      · cases h; exact insert_nil (by assumption)
      · cases h
    · split at h
      · split at h
        · rename_i hl hv hc
          obtain ⟨h1, h2, h3, h4, h5⟩ := hc
          cases h
          have := KM (q := q) hl h1 hv h2 h4 h5 (by omega)
          rw [Int.toNat_of_nonneg h3] at this
          exact this
        · cases h
      · cases h
    · cases h
  · split at h
    · rename_i hf; subst hf
      unfold aAp at h
      split at h
      · split at h
        · split at h
          · rename_i hl hc
            obtain ⟨h1, h2, h3, h4, h5⟩ := hc
            cases h
            have := FF (q := q) (i := Int.toNat _) (j := Int.toNat _) hl h1 (Int.toNat_le_toNat h3) (by omega) h5
            rw [Int.toNat_of_nonneg h2, Int.toNat_of_nonneg (by omega)] at this
            exact this
          · cases h
        · cases h
      · cases h
    · cases h
end
/-! slices.Clone at nothing: no capacity is left. -/
section
open Go.RowKit Go.Lib
section
set_option maxHeartbeats 4000000
theorem clone_walk (A : Option Addr) (c : Nat) (w : World) : Calls Try.prog 25 #[.slice A 0 c] w fun e w' => ∃ B, e = .returned (.slice B 0 0) ∧ (w' = w ∨ w' = w.alloc (.cells #[] 3 (0, 0))) := by
  have mixed : Try.prog.follows .mixedOrders = true := by kernel_rfl
  obtain ⟨I, hinfo, hz, hsz, hby⟩ := BJ
  have he : ∀ (B : Option Addr) w, (binOp .eql 22 (.slice B 0 c) (.slice none 0 0)).run Try.prog w = .ok (.bool B.isNone) w := fun B w => Lib.run_eql_slice_nil w 22 3 B 0 c 0 0 Try.underlying22
  cases A with
  | none =>
    have he' := he none
    simp only [Option.isNone_none] at he'
    clear he
    go_enter Try.func25, Try.ntmps25
    go_wp2
    go_ret
    exact ⟨_, rfl, .inl rfl⟩
  | some ad =>
    have he' := he (some ad)
    simp only [Option.isNone_some] at he'
    clear he
    go_enter Try.func25, Try.ntmps25
    go_wp2
    go_ret
    exact ⟨_, rfl, .inr rfl⟩
end
theorem clone_callable : xO Try.prog 25 := ⟨_, Try.func25, by kernel_rfl, by kernel_rfl⟩
theorem BM {H : aB} {q : Lab} {x : AV} (hx0 : x = .isl 1 [] ∨ x = .nils ∨ x = .sl0) : aZ Try.prog 25 [x] H q ⟨.sl0, [], some []⟩ := by
  refine ⟨clone_callable, fun l hl => absurd hl (aS l), fun ρ R vals hvs w hR hfr => ?_⟩
  obtain ⟨v0, vals, rfl, hx, hvs⟩ := hvs.head
  obtain rfl : vals = [] := List.length_eq_zero_iff.1 hvs.1
  obtain ⟨A, c, rfl⟩ : ∃ A c, v0 = .slice A 0 c := by
    rcases hx0 with rfl | rfl | rfl
    · rcases hx.isl_inv with ⟨b, o, cap, cc, T, fz, g, _, _, _, _, _, rfl⟩ | ⟨_, ad, cap, _, rfl⟩
      · exact ⟨_, _, rfl⟩
      · exact ⟨_, _, rfl⟩
    · cases hx; exact ⟨_, _, rfl⟩
    · cases hx; exact ⟨_, _, rfl⟩
  refine (clone_walk A c w).mono ?_
  rintro e w' ⟨B, rfl, rfl | rfl⟩
  · exact ⟨_, rfl, ρ, R, Fut.refl _ _ _ _ _, .sl0 _, hR⟩
  · have hqf : ρ q = none := hfr q (.self q)
    have hO : RepO ρ R ⟨w.heap.size, 0, 0, 0⟩ (.rows 1 []) (.cells #[] 3 (0, 0)) := ⟨rfl, rfl, by simp, ⟨rfl, by simp⟩, fun i j x hx => by simp [aQ] at hx⟩
    obtain ⟨hF, hRep⟩ := B4 (W := Under q) hR hqf (Under.self q) (O := .cells #[] 3 (0, 0)) (o := .rows 1 []) (L := ⟨w.heap.size, 0, 0, 0⟩) rfl hO
    exact ⟨_, rfl, _, R, hF, .sl0 _, hRep.drop (fun l o h => by simp [restr, upd] at h)⟩
end
end Go.Proofs.Ytbngfbpegdcpkaa
/-! Joined texts. -/
namespace Go.Proofs.Ytbngfbpegdcpkaa
set_option linter.unusedVariables false
set_option linter.unusedSimpArgs false
set_option maxRecDepth 100000
/-! Words: letters, the next rune that is one, or is none. -/
section
def RV (c : Int) : Int := IntKind.i64.wrap (BitVec.ofInt 64 c ||| BitVec.ofInt 64 32).toNat
theorem v_or32 {c : Int} {K : AV → Prop} : aJ .or .num (.int .i64 c) (.int .i64 32) K = K (.int .i64 (RV c)) := rC rfl
def FD (c : Int) : Bool := (decide (48 ≤ c) && decide (c ≤ 57)) || (decide (97 ≤ RV c) && decide (RV c ≤ 122)) || decide (c = 95) || decide (127 < c)
theorem letter_pure (c : Int) : lV Try.prog 38 [.int .i64 c] (.bool (FD c)) := by
  refine cP Try.mixed ok38 rfl (fun q => ?_)
  simp only [params, Nat.zero_add, Nat.reduceAdd]
  repeat' (first | (simp (disch := omega) only [vsb, aE, reduceIte, AV.cells, putL, aC, Nat.reduceAdd, Nat.reduceDiv, Nat.reduceMod, AV.one, Nat.reduceLeDiff, Nat.reduceEqDiff, res38, vt38, V38, FR, Y7, Y8, Y6, Y4, Y3, Y1, ID, VT, Y2, VS, Y5, VO, VL, VK, VM, VN, VJ, VI, Y9, VH, VE, VD, VB, VA, VC, U9, VF, U8, U5, U4, U6, U7, U3, VG, U2, v_or32]) | (refine aY (fun _ => ?_) (fun _ => ?_)) | (refine jN (fun _ => ?_) (fun _ => ?_)) | (refine cF (fun _ => ?_) (fun _ => ?_)) | (refine bI (fun _ => ?_) (fun _ => ?_)) | (refine And.intro (aV rfl) ?_) | (refine cG (fun _ => ?_) ?_) | (exfalso; omega; done))
  all_goals (refine vp1 (congrArg AV.bool ?_); (try simp [FD, *]); (try omega))
/-- is a rune what is looked for? -/
def qY (b : Bool) (c : Int) : Bool := FD c != b
theorem W5 {a b : Bool} {K : AV → Prop} : aJ .neq .bool (.bool a) (.bool b) K = K (.bool (!(a == b))) := rC (by simp [rF, lE])
theorem ask_sound {H : aB} {q l : Lab} {b : Bool} (hl : H l = some (.rows 1 [[.bool b]])) (c : Int) : aZ Try.prog 37 [.int .i64 c, .ptr l 1 0 0] H q ⟨.bool (qY b c), [], some [l]⟩ := by
  refine nI Try.mixed ok37 rfl (fun l hl => absurd hl (aS l)) ?_
  have hs : restr H (some [l]) l = some (.rows 1 [[.bool b]]) := by rw [nS (by simp)]; exact hl
  generalize restr H (some [l]) = G at hs
  simp only [params, Nat.zero_add, Nat.reduceAdd]
  simp (disch := omega) only [vsb, aE, reduceIte, AV.cells, putL, aC, Nat.reduceAdd, Nat.reduceDiv, Nat.reduceMod, AV.one, Nat.reduceLeDiff, Nat.reduceEqDiff, XP, aAg, V37, VU, W5]
  refine aO (letter_pure c) ?_
  simp (disch := omega) only [vsb, aE, reduceIte, AV.cells, putL, aC, Nat.reduceAdd, Nat.reduceDiv, Nat.reduceMod, AV.one, Nat.reduceLeDiff, Nat.reduceEqDiff, XP, aAg, V37, VU, W5, hs]
  refine ⟨aV rfl, ?_⟩
  refine ⟨.inr rfl, .bool (qY b c), by simp [j1, iV, nA, bE, qY, bne], .refl _, fun l o h => h⟩
/-- how many ahead of the first that is asked for -/
def m7 (b : Bool) (l : List Int) : Nat := (l.takeWhile fun c => !qY b c).length
def C6 (b : Bool) (l : List Int) : Int := if m7 b l < l.length then m7 b l else -1
theorem OQ {p : Int → Bool} : ∀ {l : List Int} {i : Nat}, i < l.length → (∀ k, k < i → p (nth l k) = true) → p (nth l i) = false → (l.takeWhile p).length = i
  | [], i, h, _, _ => by simp at h
  | a :: l, 0, _, _, h => by
    have : p a = false := by simpa [nth] using h
    simp [List.takeWhile_cons, this]
  | a :: l, i + 1, h, hk, h1 => by
    have ha : p a = true := by simpa [nth] using hk 0 (by omega)
    have := OQ (l := l) (i := i) (by simpa using h) (fun k hk' => by simpa [nth] using hk (k + 1) (by omega)) (by simpa [nth] using h1)
    simp [List.takeWhile_cons, ha, this]
theorem LH {p : Int → Bool} : ∀ {l : List Int}, (∀ k, k < l.length → p (nth l k) = true) → (l.takeWhile p).length = l.length
  | [], _ => rfl
  | a :: l, hk => by
    have ha : p a = true := by simpa [nth] using hk 0 (by simp)
    have := LH (l := l) (fun k hk' => by simpa [nth] using hk (k + 1) (by simpa using hk'))
    simp [List.takeWhile_cons, ha, this]
theorem F8 {H : aB} {q l : Lab} {b : Bool} (hl : H l = some (.rows 1 [[.bool b]])) (d : List Int) (hd : d.length ≤ 1000000000) : aZ Try.prog 36 [il d, .fn (.func 37) [] [.ptr l 1 0 0]] H q ⟨.int .i64 (C6 b d), [], some [l]⟩ := by
  refine nI Try.mixed ok36 rfl (fun l hl => absurd hl (aS l)) ?_
  have hs : restr H (some [l]) l = some (.rows 1 [[.bool b]]) := by rw [nS (by simp)]; exact hl
  generalize restr H (some [l]) = G at hs
  simp only [params, Nat.zero_add, Nat.reduceAdd]
  simp (disch := omega) only [vsb, aE, reduceIte, AV.cells, putL, aC, Nat.reduceAdd, Nat.reduceDiv, Nat.reduceMod, AV.one, Nat.reduceLeDiff, Nat.reduceEqDiff, MC, wV, zR, QO, GR, GQ, V36, K7, K6, KC, KA, J9, J8, J7, KD, J6, rJ]
  refine qH (fun n r H c => ∃ i : Nat, r = [(0, il d), (1, .fn (.func 37) [] [.ptr l 1 0 0]), (7, .int .i64 d.length), (8, .int .i64 i)] ∧ H = G ∧ i ≤ d.length ∧ n = d.length - i ∧ ∀ k, k < i → qY b (nth d k) = false) d.length ⟨0, rfl, rfl, by omega, rfl, fun k hk => by omega⟩ ?_
  rintro n r H' c ⟨i, rfl, rfl, hi, rfl, hk⟩
  repeat' (first | (simp (disch := omega) only [vsb, aE, reduceIte, AV.cells, putL, aC, Nat.reduceAdd, Nat.reduceDiv, Nat.reduceMod, AV.one, Nat.reduceLeDiff, Nat.reduceEqDiff, MC, wV, zR, QO, GR, GQ, V36, K7, K6, KC, KA, J9, J8, J7, KD, J6, rJ]) | (refine aY (fun _ => ?_) (fun _ => ?_)) | (refine jN (fun _ => ?_) (fun _ => ?_)) | (refine cF (fun _ => ?_) (fun _ => ?_)) | (refine bI (fun _ => ?_) (fun _ => ?_)) | (refine And.intro (aV rfl) ?_) | (refine cG (fun _ => ?_) ?_) | (exfalso; omega; done))
  · rename_i hlt
    refine cB (ask_sound hs (nth d i)) ?_
    simp (disch := omega) only [vsb, aE, reduceIte, AV.cells, putL, aC, Nat.reduceAdd, Nat.reduceDiv, Nat.reduceMod, AV.one, Nat.reduceLeDiff, Nat.reduceEqDiff, MC, wV, zR, QO, GR, GQ, V36, K7, K6, KC, KA, J9, J8, J7, KD, J6, rJ]
    cases ha : qY b (nth d i)
    · simp (disch := omega) only [vsb, aE, reduceIte, AV.cells, putL, aC, Nat.reduceAdd, Nat.reduceDiv, Nat.reduceMod, AV.one, Nat.reduceLeDiff, Nat.reduceEqDiff, MC, wV, zR, QO, GR, GQ, V36, K7, K6, KC, KA, J9, J8, J7, KD, J6, rJ]
      refine w7 (d.length - (i + 1)) (by omega) ⟨i + 1, rfl, rfl, by omega, rfl, fun k hk' => ?_⟩
      rcases Nat.lt_or_ge k i with h1 | h1
      · exact hk k h1
      · rw [show k = i by omega]; exact ha
    · simp (disch := omega) only [vsb, aE, reduceIte, AV.cells, putL, aC, Nat.reduceAdd, Nat.reduceDiv, Nat.reduceMod, AV.one, Nat.reduceLeDiff, Nat.reduceEqDiff, MC, wV, zR, QO, GR, GQ, V36, K7, K6, KC, KA, J9, J8, J7, KD, J6, rJ]
      have hn : m7 b d = i := OQ (by omega) (fun k hk' => by simp [hk k hk']) (by simp [ha])
      have : C6 b d = i := by unfold C6; rw [hn, if_pos (by omega)]
      rw [this]
      exact ⟨.inr rfl, _, by simp [j1, iV, nA, bE], .refl _, fun l o h => h⟩
  · have hn : m7 b d = d.length := LH (fun k hk' => by simp [hk k (by omega)])
    have : C6 b d = -1 := by unfold C6; rw [hn, if_neg (by omega)]
    rw [this]
    exact ⟨.inr rfl, _, by simp [j1, iV, nA, bE], .refl _, fun l o h => h⟩
end
/-! Words: the place behind the next one; copies, and turned round. -/
section
def aR (n : Nat) (a : Int) : Nat := (Min.min (Max.max a 0) (n : Int)).toNat
theorem cA {n : Nat} {a : Int} : aR n a ≤ n := by unfold aR; omega
theorem NH {n : Nat} {a : Int} : (aR n a : Int) = Min.min (Max.max a 0) (n : Int) := by unfold aR; omega
theorem rQ (l : List Int) (a : Int) : lV Try.prog 26 [il l, .int .i64 a] (.int .i64 (aR l.length a)) := by
  refine cP Try.mixed ok26 rfl (fun q => ?_)
  simp only [params, Nat.zero_add, Nat.reduceAdd]
  repeat' (first | (simp (disch := omega) only [vsb, aE, reduceIte, AV.cells, putL, aC, Nat.reduceAdd, Nat.reduceDiv, Nat.reduceMod, AV.one, Nat.reduceLeDiff, Nat.reduceEqDiff, res26, vt26, V26]) | (refine aY (fun _ => ?_) (fun _ => ?_)) | (refine jN (fun _ => ?_) (fun _ => ?_)) | (refine cF (fun _ => ?_) (fun _ => ?_)) | (refine bI (fun _ => ?_) (fun _ => ?_)) | (refine And.intro (aV rfl) ?_) | (refine cG (fun _ => ?_) ?_) | (exfalso; omega; done))
  rw [NH]
  exact vp1 rfl
theorem j6 {H : aB} {q : Lab} {KK : KF} {l : List Int} {a : Int} (h0 : 0 ≤ a) (h1 : a ≤ l.length) : aM (.slice 1 true false false) [il l, .int .i64 a] H q KK = KK (il (l.drop a.toNat)) H [] (some []) := by
  have e : List.take ((l.length : Int) - a).toNat (List.drop a.toNat (List.map aE l)) = (l.drop a.toNat).map aE := by
    rw [List.take_of_length_le (by simp; omega), List.map_drop]
  have : aop nU (.slice 1 true false false) [il l, .int .i64 a] H q = some (.pure (il (l.drop a.toNat))) := by
    simp [aop, iU, rD, AV.len, h0, h1, e]
    rw [← List.map_drop]
  simp [aM, this]; rfl
theorem nP {H : aB} {q : Lab} {KK : KF} {l : List Int} {a : Int} (h0 : 0 ≤ a) (h1 : a ≤ l.length) : aM (.slice 1 false true false) [il l, .int .i64 a] H q KK = KK (il (l.take a.toNat)) H [] (some []) := by
  have : aop nU (.slice 1 false true false) [il l, .int .i64 a] H q = some (.pure (il (l.take a.toNat))) := by
    simp [aop, iU, rD, AV.len, h0, h1, List.map_take]
    rw [← List.map_take]
  simp [aM, this]; rfl
def cH (l : List Int) (a : Nat) : Nat := (a + m7 false (l.drop a)) + m7 true (l.drop (a + m7 false (l.drop a)))
theorem wS {b : Bool} {l : List Int} : m7 b l ≤ l.length := by unfold m7; exact List.takeWhile_sublist _ |>.length_le
theorem find_neg {b : Bool} {l : List Int} : C6 b l < 0 ↔ m7 b l = l.length := by
  have := @wS b l
  unfold C6
  split <;> omega
theorem NK {b : Bool} {l : List Int} (h : ¬ C6 b l < 0) : C6 b l = m7 b l := by
  unfold C6 at h ⊢
  by_cases h1 : m7 b l < l.length
  · rw [if_pos h1]
  · rw [if_neg h1] at h; omega
theorem tB {l : List Int} {a : Nat} (h : a ≤ l.length) : cH l a ≤ l.length := by
  unfold cH
  have h1 := @wS false (l.drop a)
  rw [List.length_drop] at h1
  have h2 := @wS true (l.drop (a + m7 false (l.drop a)))
  rw [List.length_drop] at h2
  omega
theorem zZ {n e j : Nat} {g : Bool} {r s : List AV} {l : Lab} {KL : AV → Option (List Lab) → Prop} : GI n g (some (.rows e [r, s])) l e 0 j KL = j3 n g r j fun x => KL x (some [l]) := by simp [GI]
theorem zY {n e j : Nat} {g : Bool} {r s : List AV} {l : Lab} {KL : AV → Option (List Lab) → Prop} : GI n g (some (.rows e [r, s])) l e 1 j KL = j3 n g s j fun x => KL x (some [l]) := by simp [GI]
theorem rX (l : List Int) (hl : l.length ≤ 1000000000) (a : Int) : lV Try.prog 22 [il l, .int .i64 a, .bool false] (.int .i64 (cH l (aR l.length a))) := by
  refine cP Try.mixed ok22 rfl (fun q => ?_)
  simp only [params, Nat.zero_add, Nat.reduceAdd]
  simp (disch := omega) only [vsb, aE, reduceIte, AV.cells, putL, aC, Nat.reduceAdd, Nat.reduceDiv, Nat.reduceMod, AV.one, Nat.reduceLeDiff, Nat.reduceEqDiff, q6, cI, gD, xS, nC, nB, V22, qW, qV, qS, qR, qQ, qT, qP, qO, qN, qM, qK, mU, mT, mS, mR, mQ, mP, qL, mO, j6, zZ, zY]
  refine aO (rQ l a) ?_
  have hle := @cA l.length a
  generalize aR l.length a = a0 at hle ⊢
  simp (disch := omega) only [vsb, aE, reduceIte, AV.cells, putL, aC, Nat.reduceAdd, Nat.reduceDiv, Nat.reduceMod, AV.one, Nat.reduceLeDiff, Nat.reduceEqDiff, q6, cI, gD, xS, nC, nB, V22, qW, qV, qS, qR, qQ, qT, qP, qO, qN, qM, qK, mU, mT, mS, mR, mQ, mP, qL, mO, j6, zZ, zY]
  have h1 := @wS false (l.drop a0)
  have h2 := @wS true (l.drop (a0 + m7 false (l.drop a0)))
  rw [List.length_drop] at h1 h2
  refine qH (fun n r H c => ∃ (i at' : Nat), r = [(0, il l), (1, .int .i64 at'), (25, .sl (6 :: q) 1 0 2), (26, .int .i64 (2 : Nat)), (27, .int .i64 i)] ∧ i ≤ 2 ∧ n = 2 - i ∧ 7 ≤ c ∧ H (6 :: q) = some (.rows 1 [[.bool false], [.bool true]]) ∧ (i = 0 → at' = a0) ∧ (i = 1 → at' = a0 + m7 false (l.drop a0)) ∧ (i = 2 → at' = cH l a0)) 2 ⟨0, a0, rfl, by omega, rfl, by omega, by simp [upd], fun _ => rfl, fun h => by omega, fun h => by omega⟩ ?_
  rintro n r H c ⟨i, at', rfl, hi, rfl, hc, hH, g0, g1, g2⟩
  simp (disch := omega) only [vsb, aE, reduceIte, AV.cells, putL, aC, Nat.reduceAdd, Nat.reduceDiv, Nat.reduceMod, AV.one, Nat.reduceLeDiff, Nat.reduceEqDiff, q6, cI, gD, xS, nC, nB, V22, qW, qV, qS, qR, qQ, qT, qP, qO, qN, qM, qK, mU, mT, mS, mR, mQ, mP, qL, mO, j6, zZ, zY, hH]
  refine aY (fun hlt => ?_) (fun hge => ?_)
  · have hi2 : i = 0 ∨ i = 1 := by omega
    rcases hi2 with rfl | rfl
    · obtain rfl := g0 rfl
      simp (disch := omega) only [vsb, aE, reduceIte, AV.cells, putL, aC, Nat.reduceAdd, Nat.reduceDiv, Nat.reduceMod, AV.one, Nat.reduceLeDiff, Nat.reduceEqDiff, q6, cI, gD, xS, nC, nB, V22, qW, qV, qS, qR, qQ, qT, qP, qO, qN, qM, qK, mU, mT, mS, mR, mQ, mP, qL, mO, j6, zZ, zY, hH]
      refine cB (F8 (b := false) aK _ (by rw [List.length_drop]; omega)) ?_
      have hd : (l.drop at').length = l.length - at' := List.length_drop
      simp (disch := omega) only [vsb, aE, reduceIte, AV.cells, putL, aC, Nat.reduceAdd, Nat.reduceDiv, Nat.reduceMod, AV.one, Nat.reduceLeDiff, Nat.reduceEqDiff, q6, cI, gD, xS, nC, nB, V22, qW, qV, qS, qR, qQ, qT, qP, qO, qN, qM, qK, mU, mT, mS, mR, mQ, mP, qL, mO, j6, zZ, zY]
      refine aY (fun hneg => ?_) (fun hpos => ?_)
      · have hn := find_neg.1 hneg
        rw [hd] at hn
        simp (disch := omega) only [vsb, aE, reduceIte, AV.cells, putL, aC, Nat.reduceAdd, Nat.reduceDiv, Nat.reduceMod, AV.one, Nat.reduceLeDiff, Nat.reduceEqDiff, q6, cI, gD, xS, nC, nB, V22, qW, qV, qS, qR, qQ, qT, qP, qO, qN, qM, qK, mU, mT, mS, mR, mQ, mP, qL, mO, j6, zZ, zY]
        have : cH l at' = l.length := by
          unfold cH
          rw [hn, show at' + (l.length - at') = l.length by omega, List.drop_length]
          have := @wS true []
          simp at this
          omega
        rw [this]
        exact vp1 rfl
      · have hn := NK hpos
        rw [hn]
        simp (disch := omega) only [vsb, aE, reduceIte, AV.cells, putL, aC, Nat.reduceAdd, Nat.reduceDiv, Nat.reduceMod, AV.one, Nat.reduceLeDiff, Nat.reduceEqDiff, q6, cI, gD, xS, nC, nB, V22, qW, qV, qS, qR, qQ, qT, qP, qO, qN, qM, qK, mU, mT, mS, mR, mQ, mP, qL, mO, j6, zZ, zY]
        refine w7 1 (by decide) ⟨1, at' + m7 false (l.drop at'), rfl, by omega, rfl, by omega, ?_, fun h => by omega, fun h => rfl, fun h => by omega⟩
        have n1 : (6 :: q : Lab) ≠ (c + 1 + 2) :: q := fun e => by simp at e; omega
        rw [a8, aP n1, a8, aP n1, a8]; exact hH
    · obtain rfl := g1 rfl
      generalize hat : a0 + m7 false (l.drop a0) = at' at *
      simp (disch := omega) only [vsb, aE, reduceIte, AV.cells, putL, aC, Nat.reduceAdd, Nat.reduceDiv, Nat.reduceMod, AV.one, Nat.reduceLeDiff, Nat.reduceEqDiff, q6, cI, gD, xS, nC, nB, V22, qW, qV, qS, qR, qQ, qT, qP, qO, qN, qM, qK, mU, mT, mS, mR, mQ, mP, qL, mO, j6, zZ, zY, hH]
      refine cB (F8 (b := true) aK _ (by rw [List.length_drop]; omega)) ?_
      have hd : (l.drop at').length = l.length - at' := List.length_drop
      simp (disch := omega) only [vsb, aE, reduceIte, AV.cells, putL, aC, Nat.reduceAdd, Nat.reduceDiv, Nat.reduceMod, AV.one, Nat.reduceLeDiff, Nat.reduceEqDiff, q6, cI, gD, xS, nC, nB, V22, qW, qV, qS, qR, qQ, qT, qP, qO, qN, qM, qK, mU, mT, mS, mR, mQ, mP, qL, mO, j6, zZ, zY]
      refine aY (fun hneg => ?_) (fun hpos => ?_)
      · have hn := find_neg.1 hneg
        rw [hd] at hn
        simp (disch := omega) only [vsb, aE, reduceIte, AV.cells, putL, aC, Nat.reduceAdd, Nat.reduceDiv, Nat.reduceMod, AV.one, Nat.reduceLeDiff, Nat.reduceEqDiff, q6, cI, gD, xS, nC, nB, V22, qW, qV, qS, qR, qQ, qT, qP, qO, qN, qM, qK, mU, mT, mS, mR, mQ, mP, qL, mO, j6, zZ, zY]
        have : cH l a0 = l.length := by
          unfold cH
          rw [hat, hn]
          omega
        rw [this]
        exact vp1 rfl
      · have hn := NK hpos
        rw [hn]
        simp (disch := omega) only [vsb, aE, reduceIte, AV.cells, putL, aC, Nat.reduceAdd, Nat.reduceDiv, Nat.reduceMod, AV.one, Nat.reduceLeDiff, Nat.reduceEqDiff, q6, cI, gD, xS, nC, nB, V22, qW, qV, qS, qR, qQ, qT, qP, qO, qN, qM, qK, mU, mT, mS, mR, mQ, mP, qL, mO, j6, zZ, zY]
        refine w7 0 (by decide) ⟨2, at' + m7 true (l.drop at'), rfl, by omega, rfl, by omega, ?_, fun h => by omega, fun h => by omega, fun h => by unfold cH; rw [hat]⟩
        have n1 : (6 :: q : Lab) ≠ (c + 1 + 2) :: q := fun e => by simp at e; omega
        rw [a8, aP n1, a8, aP n1, a8]; exact hH
  · have : i = 2 := by omega
    rw [g2 this]
    exact vp1 rfl
end
/-! Words, back: copies in one's own memory, and turned round. -/
section
theorem j7 {l : List Int} : ∀ r ∈ l.map aE, sY 1 r := JR fun a => ⟨rfl, by simp [aE, AV.one]⟩
theorem DZ {H : aB} {q : Lab} {KK : KF} {e e' : Nat} {rows : List (List AV)} {k k' : IntKind} : aM (.slice e false true true) [.isl e' rows, .int k 0, .int k' 0] H q KK = KK .sl0 H [] (some []) := by
  have : aop nU (.slice e false true true) [.isl e' rows, .int k 0, .int k' 0] H q = some (.pure .sl0) := by simp [aop, iU, yK]
  simp [aM, this]; rfl
/-- onto nothing -/
theorem app_new {x : AV} {H : aB} {q : Lab} {KK : KF} {b : Nat} {rows : List (List AV)} {e : Nat} (hx : x = .nils ∨ x = .sl0) (he : 0 < e) (h1 : rows.length * b ≤ 140737488355328) (h2 : rows.length ≤ 4611686018427387904)
    (h0 : rows = [] → KK x H [] (some [])) (hk : rows ≠ [] → KK (.sl q e 0 rows.length) (upd [(q, some (.rows e rows))] H) [q] (some [])) : aM (.append e b) [x, .isl e rows] H q KK := by
  cases rows with
  | nil =>
    refine ⟨.pure x, ?_, h0 rfl⟩
    rcases hx with rfl | rfl <;> simp [aop, gI, lF]
  | cons r rows =>
    refine ⟨⟨.sl q e 0 (r :: rows).length, [(q, some (.rows e (r :: rows)))], some []⟩, ?_, hk (by simp)⟩
    rcases hx with rfl | rfl <;> (simp only [List.length_cons] at h1 h2; simp [aop, gI, lF, he, h1, h2])
theorem app_on0 {H : aB} {l q : Lab} {KK : KF} {b : Nat} {rows : List (List AV)} (hl : H l = some (.rows 1 [])) (h1 : rows.length * b ≤ 140737488355328) (h2 : rows.length ≤ 4611686018427387904) (hne : rows ≠ [])
    (hk : KK (.sl q 1 0 rows.length) (upd [(q, some (.rows 1 rows)), (l, none)] H) [q, l] (some [l])) : aM (.append 1 b) [.sl l 1 0 0, .isl 1 rows] H q KK := by
  have hn : rows.isEmpty = false := by cases rows <;> simp at hne ⊢
  refine ⟨⟨.sl q 1 0 rows.length, [(q, some (.rows 1 rows)), (l, none)], some [l]⟩, ?_, hk⟩
  simp [aop, gI, lF, hn, hl, h1, h2, hne]
theorem KW {H : aB} {q : Lab} (l : List Int) (hl : l.length ≤ 1000000000) (hne : l ≠ []) : aZ Try.prog 25 [il l] H q ⟨.sl (5 :: q) 1 0 l.length, [(5 :: q, some (.rows 1 (l.map aE)))], some []⟩ := by
  refine nI Try.mixed ok25 rfl (fun l hl => by rw [cR hl]; exact .inr ⟨[5], rfl⟩) ?_
  have h0 : ∀ l, restr H (some []) l = none := fun l => by simp [restr]
  simp only [params, Nat.zero_add, Nat.reduceAdd]
  repeat' (first | (simp (disch := omega) only [vsb, aE, reduceIte, AV.cells, putL, aC, Nat.reduceAdd, Nat.reduceDiv, Nat.reduceMod, AV.one, Nat.reduceLeDiff, Nat.reduceEqDiff, OV, WV, V25, MZ, MY, MX, MW, DZ]) | (refine aY (fun _ => ?_) (fun _ => ?_)) | (refine jN (fun _ => ?_) (fun _ => ?_)) | (refine cF (fun _ => ?_) (fun _ => ?_)) | (refine bI (fun _ => ?_) (fun _ => ?_)) | (refine And.intro (aV rfl) ?_) | (refine cG (fun _ => ?_) ?_) | (exfalso; omega; done))
  · rename_i h1; exact absurd (List.map_eq_nil_iff.1 h1) hne
  · refine app_on0 (by simp [upd]) (by simp; omega) (by simp; omega) (fun h => hne (List.map_eq_nil_iff.1 h)) ?_
    simp (disch := omega) only [vsb, aE, reduceIte, AV.cells, putL, aC, Nat.reduceAdd, Nat.reduceDiv, Nat.reduceMod, AV.one, Nat.reduceLeDiff, Nat.reduceEqDiff, OV, WV, V25, MZ, MY, MX, MW, DZ]
    refine ⟨.inr rfl, _, by simp [j1, iV, nA, bE], .refl _, fun k o hk => ?_⟩
    rcases Classical.em (k = 5 :: q) with rfl | hn
    · simp only [aK] at hk ⊢; exact hk
    · rw [aP hn, a8, h0] at hk; cases hk
theorem PL {l : List Int} {i k : Nat} {x : Int} (hi : i < l.length) : nth (l.set i x) k = if k = i then x else nth l k := by
  unfold nth
  simp only [List.getD_eq_getElem?_getD, List.getElem?_set]
  by_cases h : i = k
  · subst h; simp [hi]
  · simp [h, Ne.symm h]
theorem PN {l m : List Int} (h : l.length = m.length) (hk : ∀ k, k < l.length → nth l k = nth m k) : l = m := by
  apply List.ext_getElem h
  intro k h1 h2
  have := hk k h1
  unfold nth at this
  simpa [List.getD_eq_getElem?_getD, h1, h2] using this
theorem PM {l : List Int} {k : Nat} (h : k < l.length) : nth l.reverse k = nth l (l.length - 1 - k) := by
  unfold nth
  simp only [List.getD_eq_getElem?_getD, List.getElem?_reverse h]
theorem L8 {l : List Int} {i : Nat} (hi : i < l.length) {x : Int} {lv : Lab} {H : aB} {KK : KF} : QI 1 (some (.rows 1 (l.map aE))) lv 1 i 0 (.int .i64 x) H KK = KK (.tuple []) (upd [(lv, some (.rows 1 ((l.set i x).map aE)))] H) [lv] (some [lv]) := by
  have : (l.map aE)[i]? = some [.int .i64 l[i]] := by simp [hi, aE]
  simp [QI, this, AV.cells, AV.one, putL, List.map_set, aE]
theorem reverse_own {H : aB} {q ls : Lab} (l : List Int) (hl : l.length ≤ 1000000000) (h : H ls = some (.rows 1 (l.map aE))) : aZ Try.prog 35 [.sl ls 1 0 l.length] H q ⟨.tuple [], [(ls, some (.rows 1 (l.reverse.map aE)))], some [ls]⟩ := by
  refine nI Try.mixed ok35 rfl (fun k hk => by rw [cR hk, nS (by simp), h]; exact .inl (by simp)) ?_
  have hs : restr H (some [ls]) ls = some (.rows 1 (l.map aE)) := by rw [nS (by simp)]; exact h
  have honly : ∀ k o, restr H (some [ls]) k = some o → k = ls := fun k o e => by simpa using (tQ e).1
  generalize restr H (some [ls]) = G at hs honly
  simp only [params, Nat.zero_add, Nat.reduceAdd]
  simp (disch := omega) only [vsb, aE, reduceIte, AV.cells, putL, aC, Nat.reduceAdd, Nat.reduceDiv, Nat.reduceMod, AV.one, Nat.reduceLeDiff, Nat.reduceEqDiff, MD, wW, zS, QP, GS, V35, K8, KH, KG, KI, KE]
  refine qH (fun n r H' c => ∃ (i : Nat) (m : List Int), r = [(0, .sl ls 1 0 l.length), (2, .int .i64 i), (3, .int .i64 ((l.length : Int) - 1 - i))] ∧ 2 * i ≤ l.length + 1 ∧ n = l.length + 1 - 2 * i ∧ m.length = l.length ∧ H' ls = some (.rows 1 (m.map aE)) ∧ ∀ k, k < l.length → nth m k = if k < i ∨ l.length < k + 1 + i then nth l (l.length - 1 - k) else nth l k) (l.length + 1) ⟨0, l, by simp; rfl, by omega, by omega, rfl, hs, fun k hk => by rw [if_neg (by omega)]⟩ ?_
  rintro n r H' c ⟨i, m, rfl, hi, rfl, hm, hH, hk⟩
  simp (disch := omega) only [vsb, aE, reduceIte, AV.cells, putL, aC, Nat.reduceAdd, Nat.reduceDiv, Nat.reduceMod, AV.one, Nat.reduceLeDiff, Nat.reduceEqDiff, MD, wW, zS, QP, GS, V35, K8, KH, KG, KI, KE]
  refine aY (fun hlt => ?_) (fun hge => ?_)
  · have hi1 : i < m.length := by omega
    have hj1 : ((l.length : Int) - 1 - i).toNat < m.length := by omega
    have hj2 : ((l.length : Int) - 1 - i).toNat < (m.set i (nth m ((l.length : Int) - 1 - i).toNat)).length := by rw [List.length_set]; exact hj1
    simp (disch := omega) only [vsb, aE, reduceIte, AV.cells, putL, aC, Nat.reduceAdd, Nat.reduceDiv, Nat.reduceMod, AV.one, Nat.reduceLeDiff, Nat.reduceEqDiff, MD, wW, zS, QP, GS, V35, K8, KH, KG, KI, KE, hH, L8 hi1, L8 hj2]
    refine ⟨(by (repeat' (first | exact cV | exact bB | refine cW ?_ ?_ | refine bC ?_ ?_)); all_goals (first | exact Or.inl rfl | exact Or.inl (by decide) | exact Or.inr ⟨by (simp (decide := true) [a6, hs] <;> assumption), by (simp (decide := true) [a6, hs] <;> assumption)⟩)), ?_⟩
    have ej : ((l.length : Int) - 1 - i).toNat = l.length - 1 - i := by omega
    refine w7 (l.length + 1 - 2 * (i + 1)) (by omega) ⟨i + 1, (m.set i (nth m ((l.length : Int) - 1 - i).toNat)).set ((l.length : Int) - 1 - i).toNat (nth m i), ?_, by omega, rfl, by simp [hm], aK, fun k hkl => ?_⟩
    · have e : (l.length : Int) - 1 - i - 1 = (l.length : Int) - 1 - ((i + 1 : Nat) : Int) := by omega
      rw [← e]; rfl
    · rw [PL hj2, PL hi1, ej, hk k hkl, hk i (by omega), hk (l.length - 1 - i) (by omega)]
      by_cases h1 : k = l.length - 1 - i
      · rw [if_pos h1, if_neg (by omega), if_pos (by omega), h1]; congr 1; omega
      · rw [if_neg h1]
        by_cases h2 : k = i
        · rw [if_pos h2, if_neg (by omega), if_pos (by omega), h2]
        · rw [if_neg h2]
          by_cases h3 : k < i ∨ l.length < k + 1 + i
          · rw [if_pos h3, if_pos (by omega)]
          · rw [if_neg h3, if_neg (by omega)]
  · have hrev : m = l.reverse := PN (by simp [hm]) (fun k hkl => by
      rw [hm] at hkl
      rw [PM hkl, hk k hkl]
      split
      · rfl
      · congr 1; omega)
    subst hrev
    refine ⟨.inl rfl, .tuple [], by simp [j1, iV], .refl _, fun k o h => ?_⟩
    rcases Classical.em (k = ls) with rfl | hn
    · rw [aK] at h; rw [hH]; exact h
    · rw [aP hn, a8] at h; exact absurd (honly k o h) hn
theorem reverse_none {H : aB} {q : Lab} : aZ Try.prog 35 [.sl0] H q ⟨.tuple [], [], some []⟩ := by
  refine nI Try.mixed ok35 rfl (fun l hl => absurd hl (aS l)) ?_
  simp only [params, Nat.zero_add, Nat.reduceAdd]
  simp (disch := omega) only [vsb, aE, reduceIte, AV.cells, putL, aC, Nat.reduceAdd, Nat.reduceDiv, Nat.reduceMod, AV.one, Nat.reduceLeDiff, Nat.reduceEqDiff, MD, wW, zS, QP, GS, V35, K8, KH, KG, KI, KE]
  refine qH (fun n r H' c => r = [(0, .sl0), (2, .int .i64 0), (3, .int .i64 (0 - 1))] ∧ H' = restr H (some [])) 0 ⟨rfl, rfl⟩ ?_
  rintro n r H' c ⟨rfl, rfl⟩
  simp (disch := omega) only [vsb, aE, reduceIte, AV.cells, putL, aC, Nat.reduceAdd, Nat.reduceDiv, Nat.reduceMod, AV.one, Nat.reduceLeDiff, Nat.reduceEqDiff, MD, wW, zS, QP, GS, V35, K8, KH, KG, KI, KE]
  exact ⟨.inl rfl, .tuple [], by simp [j1, iV], .refl _, fun k o h => h⟩
def bK (l : List Int) (a : Nat) : Int := (a : Int) - cH (l.take a).reverse 0
theorem wE (l : List Int) (hl : l.length ≤ 1000000000) (a : Int) : lV Try.prog 22 [il l, .int .i64 a, .bool true] (.int .i64 (bK l (aR l.length a))) := by
  refine cP Try.mixed ok22 rfl (fun q => ?_)
  simp only [params, Nat.zero_add, Nat.reduceAdd]
  simp (disch := omega) only [vsb, aE, reduceIte, AV.cells, putL, aC, Nat.reduceAdd, Nat.reduceDiv, Nat.reduceMod, AV.one, Nat.reduceLeDiff, Nat.reduceEqDiff, q6, cI, gD, xS, nC, nB, V22, qW, qV, qS, qR, qQ, qT, qP, qO, qN, qM, qK, mU, mT, mS, mR, mQ, mP, qL, mO, nP]
  refine aO (rQ l a) ?_
  have hle := @cA l.length a
  generalize aR l.length a = a0 at hle ⊢
  simp (disch := omega) only [vsb, aE, reduceIte, AV.cells, putL, aC, Nat.reduceAdd, Nat.reduceDiv, Nat.reduceMod, AV.one, Nat.reduceLeDiff, Nat.reduceEqDiff, q6, cI, gD, xS, nC, nB, V22, qW, qV, qS, qR, qQ, qT, qP, qO, qN, qM, qK, mU, mT, mS, mR, mQ, mP, qL, mO, nP]
  have hlen : (l.take a0).length = a0 := by rw [List.length_take]; omega
  by_cases h0 : a0 = 0
  · subst h0
    refine cB (BM (.inl rfl)) ?_
    simp (disch := omega) only [vsb, aE, reduceIte, AV.cells, putL, aC, Nat.reduceAdd, Nat.reduceDiv, Nat.reduceMod, AV.one, Nat.reduceLeDiff, Nat.reduceEqDiff, q6, cI, gD, xS, nC, nB, V22, qW, qV, qS, qR, qQ, qT, qP, qO, qN, qM, qK, mU, mT, mS, mR, mQ, mP, qL, mO, nP]
    refine cB reverse_none ?_
    simp (disch := omega) only [vsb, aE, reduceIte, AV.cells, putL, aC, Nat.reduceAdd, Nat.reduceDiv, Nat.reduceMod, AV.one, Nat.reduceLeDiff, Nat.reduceEqDiff, q6, cI, gD, xS, nC, nB, V22, qW, qV, qS, qR, qQ, qT, qP, qO, qN, qM, qK, mU, mT, mS, mR, mQ, mP, qL, mO, nP]
    refine call_pure_w (rX [] (by simp) 0) (.cons (.sl0 _) (.cons (.refl _) (.cons (.refl _) .nil))) ?_
    have e1 : cH [] (aR ([] : List Int).length 0) = 0 := by decide
    rw [e1]
    simp (disch := omega) only [vsb, aE, reduceIte, AV.cells, putL, aC, Nat.reduceAdd, Nat.reduceDiv, Nat.reduceMod, AV.one, Nat.reduceLeDiff, Nat.reduceEqDiff, q6, cI, gD, xS, nC, nB, V22, qW, qV, qS, qR, qQ, qT, qP, qO, qN, qM, qK, mU, mT, mS, mR, mQ, mP, qL, mO, nP]
    exact vp1 rfl
  · have hne : l.take a0 ≠ [] := fun e => by rw [e] at hlen; simp at hlen; omega
    refine cB (KW (l.take a0) (by rw [hlen]; omega) hne) ?_
    simp (disch := omega) only [vsb, aE, reduceIte, AV.cells, putL, aC, Nat.reduceAdd, Nat.reduceDiv, Nat.reduceMod, AV.one, Nat.reduceLeDiff, Nat.reduceEqDiff, q6, cI, gD, xS, nC, nB, V22, qW, qV, qS, qR, qQ, qT, qP, qO, qN, qM, qK, mU, mT, mS, mR, mQ, mP, qL, mO, nP]
    refine cB (reverse_own (l.take a0) (by rw [hlen]; omega) aK) ?_
    simp (disch := omega) only [vsb, aE, reduceIte, AV.cells, putL, aC, Nat.reduceAdd, Nat.reduceDiv, Nat.reduceMod, AV.one, Nat.reduceLeDiff, Nat.reduceEqDiff, q6, cI, gD, xS, nC, nB, V22, qW, qV, qS, qR, qQ, qT, qP, qO, qN, qM, qK, mU, mT, mS, mR, mQ, mP, qL, mO, nP]
    have hrl : (l.take a0).reverse.length = (l.take a0).length := List.length_reverse
    refine oT (rX (l.take a0).reverse (by rw [hrl, hlen]; omega) 0) rfl (.cons (.of_own (rows := (l.take a0).reverse.map aE) (.inr ⟨_, by rw [List.length_map, hrl], aK⟩) j7) (.cons (.refl _) (.cons (.refl _) .nil))) ?_
    have hh : aR (l.take a0).reverse.length 0 = 0 := by unfold aR; omega
    rw [hh]
    have hw := tB (l := (l.take a0).reverse) (a := 0) (by omega)
    rw [hrl, hlen] at hw
    simp (disch := omega) only [vsb, aE, reduceIte, AV.cells, putL, aC, Nat.reduceAdd, Nat.reduceDiv, Nat.reduceMod, AV.one, Nat.reduceLeDiff, Nat.reduceEqDiff, q6, cI, gD, xS, nC, nB, V22, qW, qV, qS, qR, qQ, qT, qP, qO, qN, qM, qK, mU, mT, mS, mR, mQ, mP, qL, mO, nP]
    exact vp1 rfl
end
end Go.Proofs.Ytbngfbpegdcpkaa
/-! The abstract machine: contracts that leave open which of its outcomes a call yields. -/
namespace Go.Proofs.Ytbngfbpegdcpkaa
set_option linter.unusedVariables false
set_option linter.unusedSimpArgs false
/-- a body's end, where what comes out is not told ahead -/
def VRE (q : Lab) (H0 : aB) (res : List AResV) (Φ : AV → Chg → Prop) : aA := fun e r H _ => (e = .normal ∨ e = .ret) ∧ ∃ x y u, j1 H r res = some x ∧ Φ y u ∧ (∀ l, u.has l → H0 l ≠ none ∨ Under q l) ∧ Fr (fun l => upd u H0 l = none ∧ H l ≠ none) H x y ∧ ∀ l o, upd u H0 l = some o → H l = some o
theorem cC {P : Program} (hm : P.follows .mixedOrders = true) {f : Nat} {A : AFun} (hA : FunOk P f A) {xs : List AV} (hlen : xs.length = A.np) {H : aB} {q : Lab} {Φ : AV → Chg → Prop}
    (h : vc P q A.body (VRE q H A.res Φ) (params 0 xs) H 0) : SoundE P f xs H q Φ := by
  refine soundE_of_gwp hm hA hlen ?_
  refine oB (fun e s he => ?_) (GX (ov := []) (H0 := H) h)
  obtain ⟨he, x, y, u, hx, hΦ, hu, hf, hl⟩ := he
  exact ⟨he, x, y, u, hx, hΦ, hu, hf, hl⟩
theorem SoundE.mono {P : Program} {f : Nat} {xs : List AV} {H : aB} {q : Lab} {Φ Ψ : AV → Chg → Prop} (h : SoundE P f xs H q Φ) (hk : ∀ x u, Φ x u → (∀ l, u.has l → H l ≠ none ∨ Under q l) → Ψ x u) : SoundE P f xs H q Ψ := by
  refine ⟨h.1, fun ρ R vs hvs w hR hfr => ?_⟩
  refine Calls.mono (h.2 ρ R vs hvs w hR hfr) ?_
  rintro e w' ⟨v, rfl, x, u, ρ', R', h1, h2, h3, h4, h5⟩
  exact ⟨v, rfl, x, u, ρ', R', hk x u h1 h2, h2, h3, h4, h5⟩
section
variable {P : Program} {H : aB} {p q : Lab} {KK : KF}
theorem call_e {f : Nat} {xs : List AV} {Φ : AV → Chg → Prop} (h : SoundE P f xs H q Φ) (hk : ∀ x u, Φ x u → KK x (upd u H) (u.map (·.1)) none) : aN true P f xs H q KK := Or.inr ⟨rfl, Φ, h, hk⟩
/-- .. and the labels to come are free -/
theorem call_e_gen {c : Nat} {f : Nat} {xs : List AV} {Φ : AV → Chg → Prop} (h : SoundE P f xs H (c :: p) Φ) (hf : Fresh p c H) (hk : ∀ x u H', Φ x u → (∀ l, H' l = upd u H l) → Fresh p (c + 1) H' → KK x H' (u.map (·.1)) none) : aN true P f xs H (c :: p) KK := by
  refine Or.inr ⟨rfl, _, h.mono (Ψ := fun x u => Φ x u ∧ ∀ l, u.has l → H l ≠ none ∨ Under (c :: p) l) (fun x u h1 h2 => ⟨h1, h2⟩), ?_⟩
  rintro x u ⟨h1, h2⟩
  refine hk x u _ h1 (fun _ => rfl) (fun k s hk => ?_)
  by_cases hh : u.has (s ++ k :: p)
  · rcases h2 _ hh with h3 | ⟨t, ht⟩
    · exact absurd (hf k s (by omega)) h3
    · exfalso
      have := qI (i := k) (j := c) (p := p) (l := s ++ k :: p) ⟨s, rfl⟩ ⟨t, ht⟩
      omega
  · rw [bQ hh]; exact hf k s (by omega)
end
end Go.Proofs.Ytbngfbpegdcpkaa
/-! The abstract machine: one's own memory given away to a function that only reckons. -/
namespace Go.Proofs.Ytbngfbpegdcpkaa
set_option linter.unusedVariables false
set_option linter.unusedSimpArgs false
theorem yH {P : Program} {f : FuncId} {args : Array Value} {w : World} {K K' : Value → World → Prop} (hk : ∀ v w', K v w' → K' v w') (h : sA P f args w K) : sA P f args w K' :=
  Calls.mono h (by rintro e w' ⟨v, rfl, h'⟩; exact ⟨v, rfl, hk _ _ h'⟩)
theorem FrLs.rep {H : aB} {Z : Lab → Prop} {ρ : bF} {R : Imm} {w : World} (hR : Rep H ρ R w) (he : Ext ρ ρ R (frozenR Z ρ R w)) : ∀ {xs ys : List AV} {vs : List Value}, FrLs Z H xs ys → RepL ρ R xs vs → RepL ρ (frozenR Z ρ R w) ys vs
  | [], _, vs, .nil, h => by
    have := h.nil_inv; subst this; exact .nil
  | x :: xs, _, vs, .cons h hs, hv => by
    obtain ⟨v, us, rfl, h1, h2⟩ := hv.head
    exact .cons (II hR he h h1) (FrLs.rep hR he hs h2)
theorem NI {P : Program} {f : Nat} {xs xs' : List AV} {y : AV} {H : aB} {q : Lab} {ls : List Lab} (h : lV P f xs' y) (hfr : FrLs (fun l => l ∈ ls ∧ H l ≠ none) H xs xs') (hls : ∀ l ∈ ls, H l ≠ none) : aZ P f xs H q ⟨y, ls.map (fun l => (l, none)), none⟩ := by
  have hhas : ∀ l, Chg.has (ls.map fun l => (l, (none : Option AO))) l → l ∈ ls := fun l ⟨p, hp, e⟩ => by
    obtain ⟨k, hk, rfl⟩ := List.mem_map.1 hp
    exact e ▸ hk
  have hnone : ∀ l o, upd (ls.map fun l => (l, (none : Option AO))) H l = some o → l ∉ ls ∧ H l = some o := fun l o hl => by
    by_cases hm : l ∈ ls
    · exfalso
      have : Chg.has (ls.map fun l => (l, (none : Option AO))) l := ⟨(l, none), List.mem_map.2 ⟨l, hm, rfl⟩, rfl⟩
      have hall : ∀ (ks : List Lab), l ∈ ks → upd (ks.map fun l => (l, (none : Option AO))) H l = none := fun ks => by
        induction ks with
        | nil => intro h; cases h
        | cons k ks ih =>
          intro h
          simp only [List.map_cons, upd]
          split
          · rfl
          · rename_i hne
            exact ih ((List.mem_cons.1 h).resolve_left hne)
      rw [hall ls hm] at hl; cases hl
    · exact ⟨hm, by rwa [bQ (fun hh => hm (hhas l hh))] at hl⟩
  refine ⟨(h H q).1, fun l hl => .inl (hls l (hhas l hl)), fun ρ R vs hvs w hR hfree => ?_⟩
  have hR : Rep H ρ R w := hR
  have hext : Ext ρ ρ R (frozenR (fun l => l ∈ ls ∧ H l ≠ none) ρ R w) := rR (fun l L hz hL => by
    obtain ⟨o, ho⟩ := Option.ne_none_iff_exists'.1 hz.2
    exact .inl (hR.dis l o L ho hL))
  have hR1 : Rep (upd (ls.map fun l => (l, (none : Option AO))) H) ρ (frozenR (fun l => l ∈ ls ∧ H l ≠ none) ρ R w) w :=
    tS hR (fun l o hl => ⟨fun hz => (hnone l o hl).1 hz.1, (hnone l o hl).2⟩) hext (fun l hz L _ => hz.2)
  have hd : Does (fun w K => sA P f vs.toArray w K) (fun _ => none) [] (Under q) ρ (frozenR (fun l => l ∈ ls ∧ H l ≠ none) ρ R w) y := by
    have := (h H q).2.2 ρ (frozenR (fun l => l ∈ ls ∧ H l ≠ none) ρ R w) vs (hfr.rep hR hext hvs)
    simp only [rN] at this
    exact this
  have hd' := Does.frame (C := fun w K => sA P f vs.toArray w K) (G := upd (ls.map fun l => (l, (none : Option AO))) H) (fun w K K' hk hc => yH hk hc) hd (fun l o (e : (none : Option AO) = some o) => by cases e) (fun l hl => absurd hl (aS l)) w hR1 hfree
  refine yH ?_ hd'
  rintro v w' ⟨ρ', R', hF, hv, hRe⟩
  refine ⟨ρ', R', ?_, hv, hRe⟩
  refine { ext := hext.trans hF.ext, win := fun l L e => ?_, new := fun b O e => ?_, os := hF.os, tape := hF.tape, output := hF.output, size := hF.size, frame := fun b hb hno => hF.frame b hb (fun k o K hk => hno k o K (hnone k o hk).2) }
  · rcases hF.win l L e with h1 | ⟨h2, h3 | ⟨k, o, K, h4, h5, h6⟩⟩
    · exact .inl h1
    · exact .inr ⟨h2, .inl h3⟩
    · exact .inr ⟨h2, .inr ⟨k, o, K, (hnone k o h4).2, h5, h6⟩⟩
  · rcases hF.new b O e with h1 | h1 | ⟨k, o, K, h4, h5, h6⟩
    · unfold frozenR at h1
      split at h1
      · rename_i hx
        obtain ⟨k, K, hk, hK, hb⟩ := hx
        obtain ⟨o', ho'⟩ := Option.ne_none_iff_exists'.1 hk.2
        exact .inr (.inr ⟨k, o', K, ho', hK, hb⟩)
      · exact .inl h1
    · exact .inr (.inl h1)
    · exact .inr (.inr ⟨k, o, K, (hnone k o h4).2, h5, h6⟩)
/-- an object that reads another one's rows, some of them frozen -/
def FrO (Z : Lab → Prop) (H : aB) (o o' : AO) : Prop := o = o' ∨ ∃ e rs rs', o = .rows e rs ∧ o' = .rows e rs' ∧ rs'.length = rs.length ∧ (∀ r ∈ rs', sY e r) ∧ ∀ i j x, aQ rs' i j = some x → ∃ g, aQ rs i j = some g ∧ Fr Z H g x
/-- a call that only reckons; memory of one's own that is changed no more is frozen, and what points to it is read so -/
theorem give_any {P : Program} {f : Nat} {xs xs' : List AV} {y : AV} {H : aB} {q : Lab} {ls : List Lab} {u : Chg} (h : lV P f xs' y) (hfr : FrLs (fun l => l ∈ ls ∧ H l ≠ none) H xs xs') (hls : ∀ l ∈ ls, H l ≠ none) (hhas : ∀ l, u.has l → H l ≠ none)
    (hu : ∀ l o', upd u H l = some o' → l ∉ ls ∧ ∃ o, H l = some o ∧ FrO (fun l => l ∈ ls ∧ H l ≠ none) H o o') : aZ P f xs H q ⟨y, u, none⟩ := by
  refine ⟨(h H q).1, fun l hl => .inl (hhas l hl), fun ρ R vs hvs w hR hfree => ?_⟩
  have hR : Rep H ρ R w := hR
  have hext : Ext ρ ρ R (frozenR (fun l => l ∈ ls ∧ H l ≠ none) ρ R w) := rR (fun l L hz hL => by
    obtain ⟨o, ho⟩ := Option.ne_none_iff_exists'.1 hz.2
    exact .inl (hR.dis l o L ho hL))
  have hold : ∀ l o', upd u H l = some o' → ∃ o, H l = some o := fun l o' hl => by
    obtain ⟨_, o, ho, _⟩ := hu l o' hl
    exact ⟨o, ho⟩
  have hR1 : Rep (upd u H) ρ (frozenR (fun l => l ∈ ls ∧ H l ≠ none) ρ R w) w := by
    have hbase : Rep (fun l => if l ∈ ls then none else H l) ρ (frozenR (fun l => l ∈ ls ∧ H l ≠ none) ρ R w) w := tS hR (fun l o hl => by
      split at hl
      · cases hl
      · rename_i hn; exact ⟨fun hz => hn hz.1, hl⟩) hext (fun l hz L _ => hz.2)
    refine ⟨fun l o' hl => ?_, fun l l' o o' L L' h1 h2 => ?_, fun l o L h1 hL => ?_, hbase.imm⟩
    · obtain ⟨hn, o, ho, hf⟩ := hu l o' hl
      obtain ⟨L, O, h1, h2, h3⟩ := hR.own l o ho
      refine ⟨L, O, h1, h2, ?_⟩
      rcases hf with rfl | ⟨e, rs, rs', rfl, rfl, g1, g2, g3⟩
      · exact h3.mono hext
      · cases O <;> simp only [RepO] at h3 ⊢
        obtain ⟨k1, k2, k3, k4, k5⟩ := h3
        refine ⟨k1, k2, g2, by rw [g1]; exact k4, fun i j x hx => ?_⟩
        obtain ⟨g, hg, hfg⟩ := g3 i j x hx
        obtain ⟨v, hv, hr⟩ := k5 i j g hg
        exact ⟨v, hv, II hR hext hfg hr⟩
    · obtain ⟨n1, p, hp, _⟩ := hu l o h1
      obtain ⟨n2, p', hp', _⟩ := hu l' o' h2
      exact hbase.sep l l' p p' L L' (by rw [if_neg n1]; exact hp) (by rw [if_neg n2]; exact hp')
    · obtain ⟨n1, p, hp, _⟩ := hu l o h1
      exact hbase.dis l p L (by rw [if_neg n1]; exact hp) hL
  have hd : Does (fun w K => sA P f vs.toArray w K) (fun _ => none) [] (Under q) ρ (frozenR (fun l => l ∈ ls ∧ H l ≠ none) ρ R w) y := by
    have := (h H q).2.2 ρ (frozenR (fun l => l ∈ ls ∧ H l ≠ none) ρ R w) vs (hfr.rep hR hext hvs)
    simp only [rN] at this
    exact this
  have hd' := Does.frame (C := fun w K => sA P f vs.toArray w K) (G := upd u H) (fun w K K' hk hc => yH hk hc) hd (fun l o (e : (none : Option AO) = some o) => by cases e) (fun l hl => absurd hl (aS l)) w hR1 hfree
  refine yH ?_ hd'
  rintro v w' ⟨ρ', R', hF, hv, hRe⟩
  refine ⟨ρ', R', ?_, hv, hRe⟩
  refine { ext := hext.trans hF.ext, win := fun l L e => ?_, new := fun b O e => ?_, os := hF.os, tape := hF.tape, output := hF.output, size := hF.size, frame := fun b hb hno => hF.frame b hb (fun k o K hk => by obtain ⟨o', ho'⟩ := hold k o hk; exact hno k o' K ho') }
  · rcases hF.win l L e with h1 | ⟨h2, h3 | ⟨k, o, K, h4, h5, h6⟩⟩
    · exact .inl h1
    · exact .inr ⟨h2, .inl h3⟩
    · obtain ⟨o', ho'⟩ := hold k o h4
      exact .inr ⟨h2, .inr ⟨k, o', K, ho', h5, h6⟩⟩
  · rcases hF.new b O e with h1 | h1 | ⟨k, o, K, h4, h5, h6⟩
    · unfold frozenR at h1
      split at h1
      · rename_i hx
        obtain ⟨k, K, hk, hK, hb⟩ := hx
        obtain ⟨o', ho'⟩ := Option.ne_none_iff_exists'.1 hk.2
        exact .inr (.inr ⟨k, o', K, ho', hK, hb⟩)
      · exact .inl h1
    · exact .inr (.inl h1)
    · obtain ⟨o', ho'⟩ := hold k o h4
      exact .inr (.inr ⟨k, o', K, ho', h5, h6⟩)
theorem res_foot {P : Program} {f : Nat} {xs : List AV} {y : AV} {H : aB} {q : Lab} {u : Chg} {F : List Lab} (h : aZ P f xs (restr H (some F)) q ⟨y, u, none⟩) : aZ P f xs H q ⟨y, u, some F⟩ := h
end Go.Proofs.Ytbngfbpegdcpkaa
/-! The abstract machine: what is left as it was, step by step. -/
namespace Go.Proofs.Ytbngfbpegdcpkaa
set_option linter.unusedVariables false
set_option linter.unusedSimpArgs false
/-- all but what stands at ls is as it was -/
def Kp (ls : List Lab) (H G : aB) : Prop := ∀ l o, H l = some o → l ∉ ls → G l = some o
section
variable {ls : List Lab} {H G G' : aB} {k : Lab} {o : Option AO}
theorem Kp.refl : Kp ls H H := fun _ _ h _ => h
theorem Kp.new (h : Kp ls H G) (hn : H k = none) : Kp ls H (upd [(k, o)] G) := fun l o' hl hm => by
  have hne : l ≠ k := fun e => by rw [e, hn] at hl; cases hl
  simp only [upd, if_neg hne]
  exact h l o' hl hm
theorem Kp.old (h : Kp ls H G) (hm : k ∈ ls) : Kp ls H (upd [(k, o)] G) := fun l o' hl hn => by
  have hne : l ≠ k := fun e => hn (e ▸ hm)
  simp only [upd, if_neg hne]
  exact h l o' hl hn
theorem Kp.then (h : Kp ls H G) (h2 : ∀ l o, H l = some o → l ∉ ls → G l = some o → G' l = some o) : Kp ls H G' := fun l o hl hm => h2 l o hl hm (h l o hl hm)
theorem Kp.mono {ls' : List Lab} (h : Kp ls H G) (hs : ∀ l ∈ ls, l ∈ ls') : Kp ls' H G := fun l o hl hm => h l o hl fun hm' => hm (hs l hm')
theorem Kp.trans {ls' : List Lab} (h : Kp ls H G) (h2 : Kp ls' G G') (hs : ∀ l ∈ ls', H l = none ∨ l ∈ ls) : Kp ls H G' := fun l o hl hm => by
  refine h2 l o (h l o hl hm) fun hm' => ?_
  rcases hs l hm' with h3 | h3
  · rw [h3] at hl; cases hl
  · exact hm h3
end
/-- the label of a slice -/
def labs : AV → List Lab
  | .sl l _ _ _ => [l]
  | _ => []
/-- changes told by where they are, and what stands there in the end -/
theorem QU {Hend H : aB} {q : Lab} {ls : List Lab} (h1 : ∀ l ∈ ls, H l ≠ none ∨ Under q l) (h2 : ∀ l o, H l = some o → l ∉ ls → Hend l = some o) :
    (∀ l, Chg.has (ls.map fun l => (l, Hend l)) l → H l ≠ none ∨ Under q l) ∧ (∀ l o, upd (ls.map fun l => (l, Hend l)) H l = some o → Hend l = some o) ∧ (∀ l o, Hend l = some o → (l ∈ ls ∨ H l = some o) → upd (ls.map fun l => (l, Hend l)) H l = some o) := by
  have hu : ∀ l, upd (ls.map fun l => (l, Hend l)) H l = if l ∈ ls then Hend l else H l := by
    intro l
    clear h1 h2
    induction ls with
    | nil => simp [upd]
    | cons k ls ih =>
      simp only [List.map_cons, upd, ih, List.mem_cons]
      by_cases e : l = k
      · simp [e]
      · simp [e]
  refine ⟨fun l ⟨p, hp, e⟩ => ?_, fun l o h => ?_, fun l o h hl => ?_⟩
  · obtain ⟨k, hk, rfl⟩ := List.mem_map.1 hp
    exact h1 l (e ▸ hk)
  · rw [hu] at h
    split at h
    · exact h
    · rename_i hn; exact h2 l o h hn
  · rw [hu]
    split
    · exact h
    · rename_i hn; exact hl.resolve_left hn
theorem Kp.push {ls : List Lab} {H G G' : aB} {x : AV} (h : Kp ls H G) (hk : yM x G G') (hx : ∀ l ∈ labs x, l ∈ ls ∨ H l = none) : Kp ls H G' := fun l o hl hm => by
  refine hk l o (h l o hl hm) fun e j n hx' => ?_
  rcases hx l (by rw [hx']; simp [labs]) with h1 | h1
  · exact hm h1
  · rw [h1] at hl; cases hl
/-- a body's end, by what is left as it was -/
theorem LF {H He : aB} {q : Lab} {ls : List Lab} {res : List AResV} {Φ : AV → Chg → Prop} {r : RL} {x y : AV} {c : Nat} {e : AEx} (he : e = .normal ∨ e = .ret) (hx : j1 He r res = some x) (h1 : ∀ l ∈ ls, H l ≠ none ∨ Under q l) (hk : Kp ls H He)
    (hy : ∀ u, (∀ l o, He l = some o → (l ∈ ls ∨ H l = some o) → upd u H l = some o) → (∀ l o, upd u H l = some o → He l = some o) → (∀ l, l ∉ ls → upd u H l = H l) → Φ y u ∧ Fr (fun l => upd u H l = none ∧ He l ≠ none) He x y) : VRE q H res Φ e r He c := by
  obtain ⟨h3, h4, h5⟩ := QU h1 hk
  obtain ⟨h6, h7⟩ := hy _ h5 h4 (fun l hl => bQ fun ⟨p, hp, e⟩ => by
    obtain ⟨k, hk, rfl⟩ := List.mem_map.1 hp
    exact hl (e ▸ hk))
  exact ⟨he, x, y, _, hx, h6, h3, h7, h4⟩
theorem Fr.own_at {Z : Lab → Prop} {H : aB} {x : AV} {e : Nat} {rows : List (List AV)} (h : Own H x e rows) (hz : ∀ l ∈ labs x, Z l) (hr : ∀ r ∈ rows, sY e r) : Fr Z H x (.isl e rows) := by
  rcases h with ⟨rfl, rfl⟩ | ⟨l, rfl, hl⟩
  · exact .nils e
  · exact .own l e 0 _ rows rows (fun i j => (aQ rows i j).getD .nilf) (hz l (by simp [labs])) hl rfl hr (fun i j x hx => by simp [hx]) (fun i j x hx => by simp [hx]; exact .refl _)
theorem Own.mono2 {H H' : aB} {x : AV} {e : Nat} {rows : List (List AV)} (h : Own H x e rows) (hk : ∀ lab ∈ labs x, H' lab = H lab) : Own H' x e rows := by
  rcases h with h | ⟨l, rfl, h⟩
  · exact .inl h
  · exact .inr ⟨l, rfl, by rw [hk l (by simp [labs])]; exact h⟩
theorem Own.keep {H H' : aB} {x : AV} {e : Nat} {rows : List (List AV)} (h : Own H x e rows) (hk : ∀ lab o, lab ∈ labs x → H lab = some o → H' lab = some o) : Own H' x e rows := by
  rcases h with h | ⟨l, rfl, h⟩
  · exact .inl h
  · exact .inr ⟨l, rfl, hk l _ (by simp [labs]) h⟩
theorem Own.lab {H : aB} {x : AV} {e : Nat} {rows : List (List AV)} (h : Own H x e rows) {k : Lab} (hk : k ∈ labs x) : H k = some (.rows e rows) := by
  rcases h with ⟨rfl, rfl⟩ | ⟨lab, rfl, h⟩
  · cases hk
  · obtain rfl := List.mem_singleton.1 hk
    exact h
theorem Own.ne {H : aB} {x : AV} {e e' : Nat} {rows rs : List (List AV)} (h : Own H x e rows) {k : Lab} (hk : H k = some (.rows e' rs)) (hne : e' ≠ e) : k ∉ labs x := fun hm => by
  rw [h.lab hm] at hk; cases hk; exact hne rfl
theorem HQ {k : Lab} {x : AV} (h : k ∉ labs x) : ∀ e i n, x ≠ .sl k e i n := fun e i n hx => h (by rw [hx]; simp [labs])
theorem Own.out {H : aB} {x : AV} {e : Nat} {rows : List (List AV)} (h : Own H x e rows) {k : Lab} (hk : H k = none) : k ∉ labs x := fun hm => by rw [h.lab hm] at hk; cases hk
theorem Own.grow {H : aB} {x : AV} {e : Nat} {rows : List (List AV)} {k : Lab} {o : Option AO} (h : Own H x e rows) (hk : H k = none) : Own (Ytbngfbpegdcpkaa.upd [(k, o)] H) x e rows := h.keep fun lab o' _ ho => by
  simp only [Ytbngfbpegdcpkaa.upd]
  rw [if_neg (fun e => by rw [e, hk] at ho; cases ho)]; exact ho
theorem Own.store {H : aB} {x : AV} {e : Nat} {rows : List (List AV)} {k : Lab} {o : Option AO} (h : Own H x e rows) (hk : k ∉ labs x) : Own (Ytbngfbpegdcpkaa.upd [(k, o)] H) x e rows := h.keep fun lab o' hl ho => by
  simp only [Ytbngfbpegdcpkaa.upd]
  rw [if_neg (fun e => hk (by rw [← e]; exact hl))]; exact ho
theorem Fresh.more {H : aB} {q : Lab} {c k : Nat} {o : Option AO} (h : Fresh q c H) (hk : k < c) : Fresh q c (Ytbngfbpegdcpkaa.upd [(k :: q, o)] H) := h.upd (Nat.le_refl _) hk
theorem Fresh.over {H : aB} {q l : Lab} {c : Nat} {o : Option AO} {o' : AO} (h : Fresh q c H) (hl : H l = some o') : Fresh q c (Ytbngfbpegdcpkaa.upd [(l, o)] H) := fun j s hj => by
  simp only [Ytbngfbpegdcpkaa.upd]
  rw [if_neg (fun e => by rw [← e, h j s hj] at hl; cases hl)]
  exact h j s hj
theorem Own.to {H H' : aB} {x : AV} {e : Nat} {rows : List (List AV)} (h : Own H x e rows) (he : H = H') : Own H' x e rows := he ▸ h
theorem Kp.to {ls : List Lab} {H G G' : aB} (h : Kp ls H G) (he : G = G') : Kp ls H G' := he ▸ h
theorem Fresh.to {H H' : aB} {q : Lab} {c : Nat} (h : Fresh q c H) (he : H = H') : Fresh q c H' := he ▸ h
/-- what stands where a change does not reach -/
theorem GE {H H' : aB} {k l : Lab} {o : Option AO} {v : Option AO} (he : upd [(k, o)] H = H') (hn : l ≠ k) (h : H l = v) : H' l = v := by
  rw [← he]; simp only [upd, if_neg hn]; exact h
theorem QB {H H' : aB} {k : Lab} {o : Option AO} (he : upd [(k, o)] H = H') : H' k = o := by
  rw [← he]; simp only [upd, if_true]
end Go.Proofs.Ytbngfbpegdcpkaa
