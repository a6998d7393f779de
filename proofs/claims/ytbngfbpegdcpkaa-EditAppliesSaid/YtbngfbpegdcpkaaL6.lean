/- The law EditApplies holds for every input. -/
import Derived.Test.YtbngfbpegdcpkaaQ7
import Derived.JoinedOf
import Derived.Handed
namespace Go.Proofs.Ytbngfbpegdcpkaa.editApplies
open Go.ChangeShapes Go.WideShapes Go.ChangeAt Go.RowKit
set_option maxRecDepth 100000
set_option linter.unusedVariables false
set_option linter.unusedSimpArgs false
-- params 1
theorem hlaw : ∀ ys, parsOf Try.prog Try.f4.params.toList ys → Pure Try.prog 4 ys (.bool true) := by
  intro ys h
  rw [Try.params4] at h
  obtain ⟨xs, zs, rfl, hs, rfl⟩ := h
  obtain ⟨l, A, a, b, rfl, hI⟩ := case_shape hs
  rw [par_case]
  exact applies_law l hI A a b

theorem hfn {H : Type} (ds : List (DataW H)) (h : ds.length = 1) : Rows.editAppliesSpec.fn H ds = { results := [.lit (.bool true)], args := ds } := match ds, h with
  | [_], _ => rfl
theorem lifted (os : Os) (started : os.Started) (H : Type) (enc : TypeId × Value → H) :
    ReturnsInHanded {} Try.checked os 4 .any (Rows.editAppliesSpec.pre6 enc Try.prog Try.f4 Rows.editAppliesRow.domain false) (Rows.editAppliesSpec.post enc Try.prog Try.f4 false true false false) := by
  refine returnsInHanded_of_change (C := Try.checked) Try.ownKnob started (by kernel_rfl) Try.func4
    (ChangeSpec.witness6 (enc := enc) (C := Try.checked) false ⟨#[], #[.agg #[.slice none 0 0, .slice none 0 0, .int .i64 0, .bool false]], []⟩ 8 (by kernel_rfl) (by kernel_rfl) (by kernel_rfl) (by kernel_rfl)) ?_
  intro W base args ds gs before hval hW _ _
  exact law_pure ok4 rfl rfl rfl (by kernel_rfl) (fun ds h => by rw [Try.params4] at h; exact hfn ds h) hlaw W base args ds gs before hval hW
theorem EditAppliesSaid : Rows.EditAppliesSaid :=
  OpenClaim.holds_of_wide 4 Try.f4 rfl rfl rfl rfl rfl rfl rfl ⟨rfl, rfl, rfl, rfl, rfl⟩ rfl rfl rfl rfl rfl (by kernel_rfl) Try.func4 (by kernel_rfl)
    (of_decide_eq_true (by kernel_rfl)) (by unfold Func.isWrapper; first | (rw [if_pos (by decide +kernel)]; kernel_rfl) | (rw [if_neg (by decide +kernel)]; exact ⟨rfl, rfl⟩))
    (fun os started H enc _ => lifted os started H enc)
end Go.Proofs.Ytbngfbpegdcpkaa.editApplies
