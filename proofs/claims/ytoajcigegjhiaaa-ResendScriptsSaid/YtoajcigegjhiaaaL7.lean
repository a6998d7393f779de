/- The law ResendScripts holds for every input. -/
import Derived.Test.YtoajcigegjhiaaaP18
import Derived.Test.YtoajcigegjhiaaaA23
import Derived.JoinedOf
import Derived.Handed
namespace Go.Proofs.Ytoajcigegjhiaaa.resendScripts
open Go.ChangeShapes Go.WideShapes Go.ChangeAt Go.RowKit
set_option maxRecDepth 100000
set_option linter.unusedVariables false
set_option linter.unusedSimpArgs false
-- params 3
theorem ask_shape {n : Nat} {xs : List AV} (h : shapeOf Try.prog (n + 2) 38 xs) : ∃ a b, xs = [.int .i64 a, .int .i64 b] := by
  unfold shapeOf at h
  simp only [Try.underlying38, shapeFs] at h
  obtain ⟨a, x, rfl, _, h1, b, y, rfl, _, h2, rfl⟩ := h
  obtain ⟨i, rfl, hi⟩ := int_shape h1
  obtain ⟨j, rfl, hj⟩ := int_shape h2
  exact ⟨i, j, rfl⟩
theorem op_shape {n : Nat} {xs : List AV} (h : shapeOf Try.prog (n + 5) 40 xs) : ∃ o : Op8, xs = o.cells := by
  unfold shapeOf at h
  simp only [Try.underlying40, shapeFs] at h
  obtain ⟨a, x, rfl, _, h1, b, y, rfl, _, h2, c, z, rfl, _, h3, d, w, rfl, _, h4, rfl⟩ := h
  obtain ⟨i1, rfl, _⟩ := int_shape h1
  obtain ⟨m, rfl, hm⟩ := msg_shape h2
  obtain ⟨k, l, rfl, g3⟩ := ints_shape h3
  obtain ⟨p, r, rfl⟩ := ask_shape h4
  obtain ⟨m1, m2, m3, m4, m5, m6, m7, m8, m9, m10, m11⟩ := m
  have hk : KnowAV m3 m4 := hm.know
  cases hk with
  | row _ _ _ =>
    cases g3 with
    | row _ _ _ => exact ⟨⟨i1, ⟨m1, m2, m4, m5, m6, m7, m8, m9, m10, m11⟩, l, p, r⟩, rfl⟩
theorem ops_rows {n : Nat} : ∀ {rows : List (List AV)}, (∀ r ∈ rows, shapeOf Try.prog (n + 5) 40 r) → ∃ l : List Op8, rows = l.map Op8.cells
  | [], _ => ⟨[], rfl⟩
  | r :: rows, h => by
    obtain ⟨o, rfl⟩ := op_shape (h r (by simp))
    obtain ⟨l, rfl⟩ := ops_rows (rows := rows) (fun r hr => h r (by simp [hr]))
    exact ⟨o :: l, rfl⟩
theorem hlaw : ∀ ys, parsOf Try.prog Try.f3.params.toList ys → Pure Try.prog 3 ys (.bool true) := by
  intro ys h
  rw [Try.params3] at h
  obtain ⟨xs, zs, rfl, hs, h⟩ := h
  obtain ⟨xs2, zs2, rfl, hs2, h⟩ := h
  obtain ⟨xs3, zs3, rfl, hs3, rfl⟩ := h
  obtain ⟨i, rfl, hi⟩ := int_shape hs
  obtain ⟨j, rfl, hj⟩ := int_shape hs2
  unfold shapeOf at hs3
  simp only [Try.underlying22] at hs3
  obtain ⟨rows, rfl, h1, h2⟩ := hs3
  obtain ⟨l, rfl⟩ := ops_rows h2
  have hc : Try.prog.cellsOf 40 = 14 := by kernel_rfl
  rw [hc]
  have e1 : parOf Try.prog 3 [AV.int .i64 i] = .int .i64 i := by simp [parOf, Try.underlying3]
  have e2 : parOf Try.prog 3 [AV.int .i64 j] = .int .i64 j := by simp [parOf, Try.underlying3]
  have e3 : parOf Try.prog 22 [AV.isl 14 (l.map Op8.cells)] = .isl 14 (l.map Op8.cells) := by simp [parOf, Try.underlying22]
  rw [e1, e2, e3]
  exact scripts_law i j l

theorem hfn {H : Type} (ds : List (DataW H)) (h : ds.length = 3) : Rows.resendScriptsSpec.fn H ds = { results := [.lit (.bool true)], args := ds } := match ds, h with
  | [_, _, _], _ => rfl
theorem lifted (os : Os) (started : os.Started) (H : Type) (enc : TypeId × Value → H) :
    ReturnsInHanded {} Try.checked os 3 .any (Rows.resendScriptsSpec.pre6 enc Try.prog Try.f3 Rows.resendScriptsRow.domain false) (Rows.resendScriptsSpec.post enc Try.prog Try.f3 false true false false) := by
  refine returnsInHanded_of_change (C := Try.checked) Try.ownKnob started (by kernel_rfl) Try.func3
    (ChangeSpec.witness6 (enc := enc) (C := Try.checked) false ⟨#[], #[.int .i64 0, .int .i64 0, .slice none 0 0], []⟩ 8 (by kernel_rfl) (by kernel_rfl) (by kernel_rfl) (by kernel_rfl)) ?_
  intro W base args ds gs before hval hW _ _
  exact law_pure ok3 rfl rfl rfl (by kernel_rfl) (fun ds h => by rw [Try.params3] at h; exact hfn ds h) hlaw W base args ds gs before hval hW
theorem ResendScriptsSaid : Rows.ResendScriptsSaid :=
  OpenClaim.holds_of_wide 3 Try.f3 rfl rfl rfl rfl rfl rfl rfl ⟨rfl, rfl, rfl, rfl, rfl⟩ rfl rfl rfl rfl rfl (by kernel_rfl) Try.func3 (by kernel_rfl)
    (of_decide_eq_true (by kernel_rfl)) (by unfold Func.isWrapper; first | (rw [if_pos (by decide +kernel)]; kernel_rfl) | (rw [if_neg (by decide +kernel)]; exact ⟨rfl, rfl⟩))
    (fun os started H enc _ => lifted os started H enc)
end Go.Proofs.Ytoajcigegjhiaaa.resendScripts
