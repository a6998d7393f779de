/- The abstract machine: memory of a frame's own, on symbols. -/
import Derived.Test.YtbngfbpegdcpkaaA27
namespace Go.Proofs.Ytbngfbpegdcpkaa
set_option linter.unusedVariables false
set_option linter.unusedSimpArgs false
section
variable {P : Program} {p q : Lab} {H : Heap} {K : AV → Prop} {KL : AV → Option (List Lab) → Prop} {KK : KF}
def vLdH (n : Nat) (g : Bool) (o : Option AO) (l : Lab) (e i j : Nat) (KL : AV → Option (List Lab) → Prop) : Prop := match o with
  | some (.rows e' rs) => e = e' ∧ match rs[i]? with
    | some r => vCell n g r j fun x => KL x (some [l])
    | none => False
  | _ => False
theorem v_load_H {n : Nat} {g : Bool} {l : Lab} {e i j : Nat} : vLoad n g (.ptr l e i j) H KL = vLdH n g (H l) l e i j KL := by
  apply propext
  unfold vLoad vLdH
  cases ho : H l with
  | none => simp [aLoad, ho]
  | some o =>
    cases o with
    | rows e' rs =>
      simp only [aLoad, ho]
      by_cases he : e = e'
      · subst he
        simp only [if_true, AO.cells, true_and]
        cases hr : rs[i]? with
        | none => simp
        | some r =>
          simp only [vCell]
          by_cases hj : j + n ≤ r.length
          · simp only [hj, if_true, Option.bind_some, true_and, Option.bind_eq_some_iff, Option.some.injEq]
            constructor
            · rintro ⟨s, ⟨y, hy, rfl⟩, hk⟩; exact ⟨y, hy, hk⟩
            · rintro ⟨y, hy, hk⟩; exact ⟨_, ⟨y, hy, rfl⟩, hk⟩
          · simp [hj]
      · simp [he]
    | amap es bs ck => simp [aLoad, ho]
    | bag es => simp [aLoad, ho]
    | iter m s se st => simp [aLoad, ho]
theorem ldH_one {n : Nat} {g : Bool} {r : List AV} {l : Lab} {e j : Nat} : vLdH n g (some (.rows e [r])) l e 0 j KL = vCell n g r j fun x => KL x (some [l]) := by simp [vLdH]
theorem ldH_map {α : Type} [Inhabited α] {f : α → List AV} {L : List α} {n : Nat} {g : Bool} {l : Lab} {e i j : Nat} (h : i < L.length) : vLdH n g (some (.rows e (L.map f))) l e i j KL = vCell n g (f (nth L i)) j fun x => KL x (some [l]) := by simp [vLdH, nth_some h]
/-- putting cells into a row -/
def vStH (n : Nat) (o : Option AO) (l : Lab) (e i j : Nat) (x : AV) (H : Heap) (KK : KF) : Prop := match o with
  | some (.rows e' rs) => e = e' ∧ x.cells.length = n ∧ match rs[i]? with
    | some r => (j + n ≤ r.length ∧ x.cells.all AV.one = true) ∧ KK (.tuple []) (upd [(l, some (.rows e' (rs.set i (putL r j x.cells))))] H) [l] (some [l])
    | none => False
  | _ => False
theorem v_store_H {n : Nat} {x : AV} {l : Lab} {e i j : Nat} : vGen (.store n) [.ptr l e i j, x] H q KK = vStH n (H l) l e i j x H KK := by
  apply propext
  unfold vGen vStH
  cases ho : H l with
  | none => simp [aop, aStore, ho]
  | some o =>
    cases o with
    | rows e' rs =>
      simp only [aop, aStore, ho]
      by_cases he : e = e'
      · subst he
        by_cases hc : x.cells.length = n
        · cases hr : rs[i]? with
          | none => simp [hc]
          | some r =>
            by_cases hj : j + n ≤ r.length ∧ x.cells.all AV.one = true
            · simp only [hc, hj, and_self, if_true, Option.some.injEq, exists_eq_left', true_and, List.map_cons, List.map_nil]
            · simp only [hc, hj, if_true, if_false, and_self, true_and, false_and, true_and, reduceCtorEq, false_and, exists_false]
        · simp [hc]
      · simp [he]
    | amap es bs ck => simp [aop, aStore, ho]
    | bag es => simp [aop, aStore, ho]
    | iter m s se st => simp [aop, aStore, ho]
theorem stH_one {n : Nat} {r : List AV} {l : Lab} {e j : Nat} {x : AV} : vStH n (some (.rows e [r])) l e 0 j x H KK = (x.cells.length = n ∧ (j + n ≤ r.length ∧ x.cells.all AV.one = true) ∧ KK (.tuple []) (upd [(l, some (.rows e [putL r j x.cells]))] H) [l] (some [l])) := by simp [vStH]
theorem upd_cons_ne {i j : Nat} {o : Option AO} {u : Chg} (h : i ≠ j) : upd ((j :: p, o) :: u) H (i :: p) = upd u H (i :: p) := by simp [upd, h]
theorem v_box {x : AV} {KB : List AV → Prop} : vBox x KB = (x.cells.all AV.one = true ∧ KB x.cells) := rfl
theorem v_fld {o n : Nat} {g : Bool} {cs : List AV} : vFld o n g (.agg cs) K = vCell n g cs o K := rfl
theorem v_eqs_ii {k k' : IntKind} {a b c d : Int} : vGen (.eqs .eql [.int, .int]) [.agg [.int k a, .int k' b], .agg [.int k c, .int k' d]] H q KK = KK (.bool (decide (a = c) && decide (b = d))) H [] (some []) := by
  have : aop noCall (.eqs .eql [.int, .int]) [.agg [.int k a, .int k' b], .agg [.int k c, .int k' d]] H q = some (.pure (.bool (decide (a = c) && decide (b = d)))) := by
    simp [aop, akeq, shaped, AV.isAgg, AV.cells, aeqs, ceq, eqNeq]
  simp [vGen, this]; rfl
theorem v_neqs_ii {k k' : IntKind} {a b c d : Int} : vGen (.eqs .neq [.int, .int]) [.agg [.int k a, .int k' b], .agg [.int k c, .int k' d]] H q KK = KK (.bool (!(decide (a = c) && decide (b = d)))) H [] (some []) := by
  have : aop noCall (.eqs .neq [.int, .int]) [.agg [.int k a, .int k' b], .agg [.int k c, .int k' d]] H q = some (.pure (.bool (!(decide (a = c) && decide (b = d))))) := by
    simp [aop, akeq, shaped, AV.isAgg, AV.cells, aeqs, ceq, eqNeq]
  simp [vGen, this]; rfl
/-- both, split into a number each -/
theorem sel_and {φ ψ : Prop} [Decidable φ] [Decidable ψ] {A B : Unit → Prop} (ha : φ ∧ ψ → A ()) (hb : ¬ (φ ∧ ψ) → B ()) : vSel (.bool (decide φ && decide ψ)) A B := by
  by_cases h1 : φ <;> by_cases h2 : ψ <;> simp only [h1, h2, decide_true, decide_false, Bool.and_self, Bool.and_true, Bool.and_false, Bool.true_and, Bool.false_and]
  · exact ha ⟨h1, h2⟩
  · exact hb (fun h => h2 h.2)
  · exact hb (fun h => h1 h.1)
  · exact hb (fun h => h1 h.1)
theorem sel_nand {φ ψ : Prop} [Decidable φ] [Decidable ψ] {A B : Unit → Prop} (ha : ¬ (φ ∧ ψ) → A ()) (hb : φ ∧ ψ → B ()) : vSel (.bool (!(decide φ && decide ψ))) A B := by
  by_cases h1 : φ <;> by_cases h2 : ψ <;> simp only [h1, h2, decide_true, decide_false, Bool.and_self, Bool.and_true, Bool.and_false, Bool.true_and, Bool.false_and, Bool.not_true, Bool.not_false]
  · exact hb ⟨h1, h2⟩
  · exact ha (fun h => h2 h.2)
  · exact ha (fun h => h1 h.1)
  · exact ha (fun h => h1 h.1)
theorem sel_andt {φ ψ : Prop} [Decidable φ] [Decidable ψ] {A B : Unit → Prop} (h : φ ∧ ψ) : vSel (.bool (decide φ && decide ψ)) A B = A () := by simp [h.1, h.2, vSel]
theorem sel_andf {φ ψ : Prop} [Decidable φ] [Decidable ψ] {A B : Unit → Prop} (h : ¬ (φ ∧ ψ)) : vSel (.bool (decide φ && decide ψ)) A B = B () := by
  have : (decide φ && decide ψ) = false := by rw [Bool.eq_false_iff]; simpa using h
  rw [this]; rfl
theorem sel_nandt {φ ψ : Prop} [Decidable φ] [Decidable ψ] {A B : Unit → Prop} (h : ¬ (φ ∧ ψ)) : vSel (.bool (!(decide φ && decide ψ))) A B = A () := by
  have : (decide φ && decide ψ) = false := by rw [Bool.eq_false_iff]; simpa using h
  rw [this]; rfl
theorem sel_nandf {φ ψ : Prop} [Decidable φ] [Decidable ψ] {A B : Unit → Prop} (h : φ ∧ ψ) : vSel (.bool (!(decide φ && decide ψ))) A B = B () := by simp [h.1, h.2, vSel]
/-- filling a struct, field by field -/
def vFill (cs : List AV) (ps : List (Nat × Nat)) (xs : List AV) (K : List AV → Prop) : Prop := ∃ ds, fillA cs ps xs = some ds ∧ K ds
section
variable {K : AV → Prop} {KB : List AV → Prop}
theorem v_build_fill {z : List AV} {ps : List (Nat × Nat)} {xs : List AV} : vBuild z ps xs K = vFill z ps xs fun cs => K (.agg cs) := rfl
theorem fill_nil {cs : List AV} : vFill cs [] [] KB = KB cs := by simp [vFill, fillA]
theorem fill_cons {cs : List AV} {o s : Nat} {ps : List (Nat × Nat)} {x : AV} {xs : List AV} : vFill cs ((o, s) :: ps) (x :: xs) KB = ((x.cells.length = s ∧ o + s ≤ cs.length) ∧ vFill (putL cs o x.cells) ps xs KB) := by
  simp only [vFill, fillA]
  by_cases h : x.cells.length = s ∧ o + s ≤ cs.length
  · rw [if_pos h]; simp [h]
  · rw [if_neg h]; simp [h]
theorem v_buildS_fill {e : Nat} {z : List AV} {ps : List (Nat × Nat)} {xs : List AV} {K2 : List (List AV) → Nat → Prop} : vBuildS e z ps xs K2 = vFill z ps xs fun cs => (e ≠ 0 ∧ cs.length % e = 0 ∧ cs.all AV.one = true) ∧ K2 (chunk e (cs.length / e) cs) (cs.length / e) := rfl
end
theorem eqs_isl {e : Nat} {rows : List (List AV)} (ht : rows = [] → K (.bool true)) (hf : K (.bool false)) : vEqS (.isl e rows) .nils K := fun b hb => by
  cases b
  · exact hf
  · refine ht ?_
    cases rows with
    | nil => rfl
    | cons r rows => exact absurd (hb (by simp)) (by simp)
theorem eqs_nils : vEqS .nils .nils K = K (.bool true) := by simp [vEqS, vBin, aBin, eqNeq]
theorem eqs_sl {l : Lab} {e o n : Nat} : vEqS (.sl l e o n) .nils K = K (.bool false) := by simp [vEqS, vBin, aBin, eqNeq]
end
end Go.Proofs.Ytbngfbpegdcpkaa
