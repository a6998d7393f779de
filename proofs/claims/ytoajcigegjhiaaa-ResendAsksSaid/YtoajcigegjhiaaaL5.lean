/- The law ResendAsks holds for every input. -/
import Derived.Test.YtoajcigegjhiaaaP5
import Derived.Test.YtoajcigegjhiaaaA23
import Derived.JoinedOf
import Derived.Handed
namespace Go.Proofs.Ytoajcigegjhiaaa.resendAsks
open Go.ChangeShapes Go.WideShapes Go.ChangeAt Go.RowKit
set_option maxRecDepth 100000
set_option linter.unusedVariables false
set_option linter.unusedSimpArgs false
-- params 3
theorem hlaw : ∀ ys, parsOf Try.prog Try.f4.params.toList ys → Pure Try.prog 4 ys (.bool true) := by
  intro ys h
  rw [Try.params4] at h
  obtain ⟨xs, zs, rfl, hs, h⟩ := h
  obtain ⟨xs2, zs2, rfl, hs2, h⟩ := h
  obtain ⟨xs3, zs3, rfl, hs3, rfl⟩ := h
  obtain ⟨k, l, rfl, hk⟩ := ints_shape hs
  obtain ⟨k2, l2, rfl, hk2⟩ := ints_shape hs2
  obtain ⟨i, rfl, hi⟩ := int_shape hs3
  cases hk with
  | row _ h1 h2 =>
    cases hk2 with
    | row _ h3 h4 =>
      have e1 : parOf Try.prog 30 [AV.isl 1 (intRows l)] = il l := by simp [parOf, Try.underlying30]; rfl
      have e2 : parOf Try.prog 30 [AV.isl 1 (intRows l2)] = il l2 := by simp [parOf, Try.underlying30]; rfl
      have e3 : parOf Try.prog 3 [AV.int .i64 i] = .int .i64 i := by simp [parOf, Try.underlying3]
      rw [e1, e2, e3]
      exact asks_law l l2 i h1 h3

theorem hfn {H : Type} (ds : List (DataW H)) (h : ds.length = 3) : Rows.resendAsksSpec.fn H ds = { results := [.lit (.bool true)], args := ds } := match ds, h with
  | [_, _, _], _ => rfl
theorem lifted (os : Os) (started : os.Started) (H : Type) (enc : TypeId × Value → H) :
    ReturnsInHanded {} Try.checked os 4 .any (Rows.resendAsksSpec.pre6 enc Try.prog Try.f4 Rows.resendAsksRow.domain false) (Rows.resendAsksSpec.post enc Try.prog Try.f4 false true false false) := by
  refine returnsInHanded_of_change (C := Try.checked) Try.ownKnob started (by kernel_rfl) Try.func4
    (ChangeSpec.witness6 (enc := enc) (C := Try.checked) false ⟨#[], #[.slice none 0 0, .slice none 0 0, .int .i64 0], []⟩ 8 (by kernel_rfl) (by kernel_rfl) (by kernel_rfl) (by kernel_rfl)) ?_
  intro W base args ds gs before hval hW _ _
  exact law_pure ok4 rfl rfl rfl (by kernel_rfl) (fun ds h => by rw [Try.params4] at h; exact hfn ds h) hlaw W base args ds gs before hval hW
theorem ResendAsksSaid : Rows.ResendAsksSaid :=
  OpenClaim.holds_of_wide 4 Try.f4 rfl rfl rfl rfl rfl rfl rfl ⟨rfl, rfl, rfl, rfl, rfl⟩ rfl rfl rfl rfl rfl (by kernel_rfl) Try.func4 (by kernel_rfl)
    (of_decide_eq_true (by kernel_rfl)) (by unfold Func.isWrapper; first | (rw [if_pos (by decide +kernel)]; kernel_rfl) | (rw [if_neg (by decide +kernel)]; exact ⟨rfl, rfl⟩))
    (fun os started H enc _ => lifted os started H enc)
end Go.Proofs.Ytoajcigegjhiaaa.resendAsks
