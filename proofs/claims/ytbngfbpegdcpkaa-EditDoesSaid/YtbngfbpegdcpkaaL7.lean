/- The law EditDoes holds for every input. -/
import Derived.Test.YtbngfbpegdcpkaaQ6
import Derived.JoinedOf
import Derived.Handed
namespace Go.Proofs.Ytbngfbpegdcpkaa.editDoes
open Go.ChangeShapes Go.WideShapes Go.ChangeAt Go.RowKit
set_option maxRecDepth 100000
set_option linter.unusedVariables false
set_option linter.unusedSimpArgs false
-- params 2
theorem hlaw : ∀ ys, FA Try.prog Try.f3.params.toList ys → lV Try.prog 3 ys (.bool true) := by
  intro ys h
  rw [Try.params3] at h
  obtain ⟨xs, zs, rfl, hs, h⟩ := h
  obtain ⟨xs2, zs2, rfl, hs2, rfl⟩ := h
  obtain ⟨l, a, kl, rfl, ha, hI⟩ := state_shapeI hs
  obtain ⟨k, r, rfl, _, _⟩ := key_shape hs2
  rw [par_state, par_key]
  exact does_law l kl hI a k r

theorem hfn {H : Type} (ds : List (DataW H)) (h : ds.length = 2) : Rows.editDoesSpec.fn H ds = { results := [.lit (.bool true)], args := ds } := match ds, h with
  | [_, _], _ => rfl
theorem lifted (os : Os) (started : os.Started) (H : Type) (enc : TypeId × Value → H) :
    ReturnsInHanded {} Try.checked os 3 .any (Rows.editDoesSpec.pre6 enc Try.prog Try.f3 Rows.editDoesRow.domain false) (Rows.editDoesSpec.post enc Try.prog Try.f3 false true false false) := by
  refine returnsInHanded_of_change (C := Try.checked) Try.ownKnob started (by kernel_rfl) Try.func3
    (ChangeSpec.witness6 (enc := enc) (C := Try.checked) false ⟨#[], #[.agg #[.slice none 0 0, .int .i64 0, .slice none 0 0], .agg #[.int .i64 0, .int .i64 0]], []⟩ 8 (by kernel_rfl) (by kernel_rfl) (by kernel_rfl) (by kernel_rfl)) ?_
  intro W base args ds gs before hval hW _ _
  exact law_pure ok3 rfl rfl rfl (by kernel_rfl) (fun ds h => by rw [Try.params3] at h; exact hfn ds h) hlaw W base args ds gs before hval hW
theorem EditDoesSaid : Rows.EditDoesSaid :=
  OpenClaim.holds_of_wide 3 Try.f3 rfl rfl rfl rfl rfl rfl rfl ⟨rfl, rfl, rfl, rfl, rfl⟩ rfl rfl rfl rfl rfl (by kernel_rfl) Try.func3 (by kernel_rfl)
    (of_decide_eq_true (by kernel_rfl)) (by unfold Func.isWrapper; first | (rw [if_pos (by decide +kernel)]; kernel_rfl) | (rw [if_neg (by decide +kernel)]; exact ⟨rfl, rfl⟩))
    (fun os started H enc _ => lifted os started H enc)
end Go.Proofs.Ytbngfbpegdcpkaa.editDoes
