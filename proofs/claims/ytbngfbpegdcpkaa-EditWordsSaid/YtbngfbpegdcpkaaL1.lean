/- The law EditWords holds for every input. -/
import Derived.Test.YtbngfbpegdcpkaaE6
import Derived.Test.YtbngfbpegdcpkaaA23i
import Derived.JoinedOf
import Derived.Handed
namespace Go.Proofs.Ytbngfbpegdcpkaa.editWords
open Go.ChangeShapes Go.WideShapes Go.ChangeAt Go.RowKit
set_option maxRecDepth 100000
set_option linter.unusedVariables false
set_option linter.unusedSimpArgs false
-- params 2
theorem hlaw : ∀ ys, parsOf Try.prog Try.f9.params.toList ys → Pure Try.prog 9 ys (.bool true) := by
  intro ys h
  rw [Try.params9] at h
  obtain ⟨xs, zs, rfl, hs, h⟩ := h
  obtain ⟨xs2, zs2, rfl, hs2, rfl⟩ := h
  obtain ⟨k, l, rfl, hk⟩ := ints_shape hs
  obtain ⟨i, rfl, hi⟩ := int_shape hs2
  cases hk with
  | row _ h1 h2 =>
    have e1 : parOf Try.prog 22 [AV.isl 1 (intRows l)] = il l := by simp [parOf, Try.underlying22]; rfl
    have e2 : parOf Try.prog 3 [AV.int .i64 i] = .int .i64 i := by simp [parOf, Try.underlying3]
    rw [e1, e2]
    exact words_law l i

theorem hfn {H : Type} (ds : List (DataW H)) (h : ds.length = 2) : Rows.editWordsSpec.fn H ds = { results := [.lit (.bool true)], args := ds } := match ds, h with
  | [_, _], _ => rfl
theorem lifted (os : Os) (started : os.Started) (H : Type) (enc : TypeId × Value → H) :
    ReturnsInHanded {} Try.checked os 9 .any (Rows.editWordsSpec.pre6 enc Try.prog Try.f9 Rows.editWordsRow.domain false) (Rows.editWordsSpec.post enc Try.prog Try.f9 false true false false) := by
  refine returnsInHanded_of_change (C := Try.checked) Try.ownKnob started (by kernel_rfl) Try.func9
    (ChangeSpec.witness6 (enc := enc) (C := Try.checked) false ⟨#[], #[.slice none 0 0, .int .i64 0], []⟩ 8 (by kernel_rfl) (by kernel_rfl) (by kernel_rfl) (by kernel_rfl)) ?_
  intro W base args ds gs before hval hW _ _
  exact law_pure ok9 rfl rfl rfl (by kernel_rfl) (fun ds h => by rw [Try.params9] at h; exact hfn ds h) hlaw W base args ds gs before hval hW
theorem EditWordsSaid : Rows.EditWordsSaid :=
  OpenClaim.holds_of_wide 9 Try.f9 rfl rfl rfl rfl rfl rfl rfl ⟨rfl, rfl, rfl, rfl, rfl⟩ rfl rfl rfl rfl rfl (by kernel_rfl) Try.func9 (by kernel_rfl)
    (of_decide_eq_true (by kernel_rfl)) (by unfold Func.isWrapper; first | (rw [if_pos (by decide +kernel)]; kernel_rfl) | (rw [if_neg (by decide +kernel)]; exact ⟨rfl, rfl⟩))
    (fun os started H enc _ => lifted os started H enc)
end Go.Proofs.Ytbngfbpegdcpkaa.editWords
