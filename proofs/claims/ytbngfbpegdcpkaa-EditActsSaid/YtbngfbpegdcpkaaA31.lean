/- The abstract machine: maps whose keys are two numbers, on symbols. -/
import Derived.Test.YtbngfbpegdcpkaaA30
namespace Go.Proofs.Ytbngfbpegdcpkaa
set_option linter.unusedVariables false
set_option linter.unusedSimpArgs false
section
variable {α : Type} (key : α → Int × Int) (enc : α → AV)
def encKV (x : α) : AV × AV := (.agg [.int .i64 (key x).1, .int .i64 (key x).2], enc x)
/-- where a key stands, and with what -/
def locK (a b : Int) : List α → Nat → Option (Nat × α)
  | [], _ => none
  | x :: l, i => if (key x).1 = a ∧ (key x).2 = b then some (i, x) else locK a b l (i + 1)
variable {key enc}
theorem akeq_ii {a b c d : Int} : akeq true [.int, .int] (.agg [.int .i64 a, .int .i64 b]) (.agg [.int .i64 c, .int .i64 d]) = some (decide (a = c) && decide (b = d)) := by
  simp [akeq, shaped, AV.isAgg, AV.cells, aeqs, ceq]
theorem afind_map {a b : Int} : ∀ {l : List α} {i : Nat}, afind true [.int, .int] (.agg [.int .i64 a, .int .i64 b]) (l.map (encKV key enc)) i = some ((locK key a b l i).map fun p => (p.1, enc p.2))
  | [], i => rfl
  | x :: l, i => by
    simp only [List.map_cons, afind, encKV, akeq_ii, Option.bind_some, locK]
    by_cases h : (key x).1 = a ∧ (key x).2 = b
    · simp [h]
    · have : (decide (a = (key x).1) && decide (b = (key x).2)) = false := by
        rw [Bool.eq_false_iff]; intro e; simp at e; exact h ⟨e.1.symm, e.2.symm⟩
      simp only [this, Bool.false_eq_true, if_false, if_neg h]
      exact afind_map
theorem loc_none {a b : Int} : ∀ {l : List α} {i : Nat}, locK key a b l i = none ↔ ∀ x ∈ l, ¬ ((key x).1 = a ∧ (key x).2 = b)
  | [], i => by simp [locK]
  | x :: l, i => by
    simp only [locK, List.mem_cons, forall_eq_or_imp]
    by_cases h : (key x).1 = a ∧ (key x).2 = b
    · simp [h]
    · rw [if_neg h, loc_none (l := l)]
      exact ⟨fun hx => ⟨h, hx⟩, fun hx => hx.2⟩
theorem loc_some {a b : Int} : ∀ {l : List α} {i j : Nat} {x : α}, locK key a b l i = some (j, x) → i ≤ j ∧ l[j - i]? = some x ∧ (key x).1 = a ∧ (key x).2 = b
  | [], i, j, x, h => by simp [locK] at h
  | y :: l, i, j, x, h => by
    simp only [locK] at h
    split at h
    · rename_i hc; cases h; exact ⟨Nat.le_refl _, by simp, hc.1, hc.2⟩
    · obtain ⟨h1, h2, h3, h4⟩ := loc_some h
      refine ⟨by omega, ?_, h3, h4⟩
      rw [show j - i = (j - (i + 1)) + 1 by omega]; exact h2
variable {H : Heap} {q lM : Lab} {KK : KF} {L : List α} {bs : List Nat} {ck : Nat} {a b : Int}
theorem v_lookup (hl : H lM = some (.amap (L.map (encKV key enc)) bs ck)) {zero : AV} {ok : Bool} : vGen (.lookup true [.int, .int] zero ok) [.map lM, .agg [.int .i64 a, .int .i64 b]] H q KK =
    KK (match locK key a b L 0 with | some p => (if ok then .tuple [enc p.2, .bool true] else enc p.2) | none => (if ok then .tuple [zero, .bool false] else zero)) H [] (some [lM]) := by
  have hs : shaped true [.int, .int] (.agg [.int .i64 a, .int .i64 b]) = true := by simp [shaped, AV.isAgg, AV.cells]
  have : aop noCall (.lookup true [.int, .int] zero ok) [.map lM, .agg [.int .i64 a, .int .i64 b]] H q = some ⟨match locK key a b L 0 with | some p => (if ok then .tuple [enc p.2, .bool true] else enc p.2) | none => (if ok then .tuple [zero, .bool false] else zero), [], some [lM]⟩ := by
    simp only [aop, aLookup, hs, if_true, hl, afind_map, Option.bind_some]
    cases locK key a b L 0 <;> simp
  simp [vGen, this]; rfl
theorem v_len_m (hl : H lM = some (.amap (L.map (encKV key enc)) bs ck)) : vGen (.len .map) [.map lM] H q KK = KK (.int .i64 L.length) H [] (some [lM]) := by
  have : aop noCall (.len .map) [.map lM] H q = some ⟨.int .i64 L.length, [], some [lM]⟩ := by simp [aop, aLen, hl]
  simp [vGen, this]; rfl
/-- one more, of a key that is not there -/
theorem v_update (hl : H lM = some (.amap (L.map (encKV key enc)) bs ck)) {x : α} (hk : locK key (key x).1 (key x).2 L 0 = none) : vGen (.mapUpdate true [.int, .int]) [.map lM, .agg [.int .i64 (key x).1, .int .i64 (key x).2], enc x] H q KK =
    KK (.tuple []) (upd [(lM, some (.amap ((L ++ [x]).map (encKV key enc)) (bs ++ [ck]) (ck + 1)))] H) [lM] (some [lM]) := by
  have hs : shaped true [.int, .int] (.agg [.int .i64 (key x).1, .int .i64 (key x).2]) = true := by simp [shaped, AV.isAgg, AV.cells]
  have : aop noCall (.mapUpdate true [.int, .int]) [.map lM, .agg [.int .i64 (key x).1, .int .i64 (key x).2], enc x] H q = some ⟨.tuple [], [(lM, some (.amap ((L ++ [x]).map (encKV key enc)) (bs ++ [ck]) (ck + 1)))], some [lM]⟩ := by
    simp only [aop, aMapUpdate, hs, if_true, hl, afind_map, hk, Option.map_none, Option.bind_some]
    simp [encKV]
  simp [vGen, this]
theorem erase_map {β : Type} {f : α → β} {l : List α} {i : Nat} : (l.map f).eraseIdx i = (l.eraseIdx i).map f := by
  simp [List.eraseIdx_eq_take_drop_succ, List.map_take, List.map_drop]
theorem v_delete (hl : H lM = some (.amap (L.map (encKV key enc)) bs ck)) : vGen (.delete true [.int, .int]) [.map lM, .agg [.int .i64 a, .int .i64 b]] H q KK =
    match locK key a b L 0 with
    | some p => KK (.tuple []) (upd [(lM, some (.amap ((L.eraseIdx p.1).map (encKV key enc)) (bs.eraseIdx p.1) ck))] H) [lM] (some [lM])
    | none => KK (.tuple []) H [] (some [lM]) := by
  have hs : shaped true [.int, .int] (.agg [.int .i64 a, .int .i64 b]) = true := by simp [shaped, AV.isAgg, AV.cells]
  have : aop noCall (.delete true [.int, .int]) [.map lM, .agg [.int .i64 a, .int .i64 b]] H q = some (match locK key a b L 0 with | some p => ⟨.tuple [], [(lM, some (.amap ((L.eraseIdx p.1).map (encKV key enc)) (bs.eraseIdx p.1) ck))], some [lM]⟩ | none => ⟨.tuple [], [], some [lM]⟩) := by
    simp only [aop, aDelete, hs, if_true, hl, afind_map, Option.bind_some]
    cases locK key a b L 0 <;> simp [erase_map]
  unfold vGen
  rw [this]
  cases locK key a b L 0 <;> simp <;> rfl
theorem v_mkmap : vGen .mkmap [] H q KK = KK (.map q) (upd [(q, some (.amap [] [] 0))] H) [q] (some []) := by
  simp [vGen, aop]
end
end Go.Proofs.Ytbngfbpegdcpkaa
