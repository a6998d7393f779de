/- The law EditActs holds for every input. -/
import Derived.Test.YtbngfbpegdcpkaaE19
import Derived.Test.YtbngfbpegdcpkaaE13
import Derived.JoinedOf
import Derived.Handed
namespace Go.Proofs.Ytbngfbpegdcpkaa.editActs
open Go.ChangeShapes Go.WideShapes Go.ChangeAt Go.RowKit
set_option maxRecDepth 100000
set_option linter.unusedVariables false
set_option linter.unusedSimpArgs false
-- params 2
theorem hlaw : ∀ ys, parsOf Try.prog Try.f5.params.toList ys → Pure Try.prog 5 ys (.bool true) := by
  intro ys h
  rw [Try.params5] at h
  obtain ⟨xs, zs, rfl, hs, h⟩ := h
  obtain ⟨xs2, zs2, rfl, hs2, rfl⟩ := h
  obtain ⟨l, a, kl, rfl, ha⟩ := state_shape hs
  obtain ⟨k, r, rfl, _, _⟩ := key_shape hs2
  rw [par_state, par_key]
  exact acts_law l kl a k r

theorem hfn {H : Type} (ds : List (DataW H)) (h : ds.length = 2) : Rows.editActsSpec.fn H ds = { results := [.lit (.bool true)], args := ds } := match ds, h with
  | [_, _], _ => rfl
theorem lifted (os : Os) (started : os.Started) (H : Type) (enc : TypeId × Value → H) :
    ReturnsInHanded {} Try.checked os 5 .any (Rows.editActsSpec.pre6 enc Try.prog Try.f5 Rows.editActsRow.domain false) (Rows.editActsSpec.post enc Try.prog Try.f5 false true false false) := by
  refine returnsInHanded_of_change (C := Try.checked) Try.ownKnob started (by kernel_rfl) Try.func5
    (ChangeSpec.witness6 (enc := enc) (C := Try.checked) false ⟨#[], #[.agg #[.slice none 0 0, .int .i64 0, .slice none 0 0], .agg #[.int .i64 0, .int .i64 0]], []⟩ 8 (by kernel_rfl) (by kernel_rfl) (by kernel_rfl) (by kernel_rfl)) ?_
  intro W base args ds gs before hval hW _ _
  exact law_pure ok5 rfl rfl rfl (by kernel_rfl) (fun ds h => by rw [Try.params5] at h; exact hfn ds h) hlaw W base args ds gs before hval hW
theorem EditActsSaid : Rows.EditActsSaid :=
  OpenClaim.holds_of_wide 5 Try.f5 rfl rfl rfl rfl rfl rfl rfl ⟨rfl, rfl, rfl, rfl, rfl⟩ rfl rfl rfl rfl rfl (by kernel_rfl) Try.func5 (by kernel_rfl)
    (of_decide_eq_true (by kernel_rfl)) (by unfold Func.isWrapper; first | (rw [if_pos (by decide +kernel)]; kernel_rfl) | (rw [if_neg (by decide +kernel)]; exact ⟨rfl, rfl⟩))
    (fun os started H enc _ => lifted os started H enc)
end Go.Proofs.Ytbngfbpegdcpkaa.editActs
