/- The law ResendKept holds for every input. -/
import Derived.Test.YtoajcigegjhiaaaP13
import Derived.Test.YtoajcigegjhiaaaA23
import Derived.JoinedOf
import Derived.Handed
namespace Go.Proofs.Ytoajcigegjhiaaa.resendKept
open Go.ChangeShapes Go.WideShapes Go.ChangeAt Go.RowKit
set_option maxRecDepth 100000
set_option linter.unusedVariables false
set_option linter.unusedSimpArgs false
-- params 1
theorem hlaw : ∀ ys, parsOf Try.prog Try.f6.params.toList ys → Pure Try.prog 6 ys (.bool true) := by
  intro ys h
  rw [Try.params6] at h
  obtain ⟨xs, zs, rfl, hs, rfl⟩ := h
  obtain ⟨m, rfl, hm⟩ := msg_shape hs
  obtain ⟨a, b, k, kl, c, e, f, g, h, i, j⟩ := m
  have hk : KnowAV k kl := hm.know
  clear hm hs
  cases hk with
  | row _ h1 h2 =>
    have e1 : parOf Try.prog 36 (MsgV.mk a b (.isl 1 (intRows kl)) kl c e f g h i j).cells = .agg (Ms.mk a b kl c e f g h i j).cells := by simp [parOf, Try.underlying36]; rfl
    rw [e1]
    exact kept_law ⟨a, b, kl, c, e, f, g, h, i, j⟩ (by unfold maxLen at h1; exact h1)

theorem hfn {H : Type} (ds : List (DataW H)) (h : ds.length = 1) : Rows.resendKeptSpec.fn H ds = { results := [.lit (.bool true)], args := ds } := match ds, h with
  | [_], _ => rfl
theorem lifted (os : Os) (started : os.Started) (H : Type) (enc : TypeId × Value → H) :
    ReturnsInHanded {} Try.checked os 6 .any (Rows.resendKeptSpec.pre6 enc Try.prog Try.f6 Rows.resendKeptRow.domain false) (Rows.resendKeptSpec.post enc Try.prog Try.f6 false true false false) := by
  refine returnsInHanded_of_change (C := Try.checked) Try.ownKnob started (by kernel_rfl) Try.func6
    (ChangeSpec.witness6 (enc := enc) (C := Try.checked) false ⟨#[], #[.agg #[.int .i64 0, .int .i64 0, .slice none 0 0, .int .i64 0, .int .i64 0, .int .i64 0, .int .i64 0, .int .i64 0, .int .i64 0, .int .i64 0]], []⟩ 8 (by kernel_rfl) (by kernel_rfl) (by kernel_rfl) (by kernel_rfl)) ?_
  intro W base args ds gs before hval hW _ _
  exact law_pure ok6 rfl rfl rfl (by kernel_rfl) (fun ds h => by rw [Try.params6] at h; exact hfn ds h) hlaw W base args ds gs before hval hW
theorem ResendKeptSaid : Rows.ResendKeptSaid :=
  OpenClaim.holds_of_wide 6 Try.f6 rfl rfl rfl rfl rfl rfl rfl ⟨rfl, rfl, rfl, rfl, rfl⟩ rfl rfl rfl rfl rfl (by kernel_rfl) Try.func6 (by kernel_rfl)
    (of_decide_eq_true (by kernel_rfl)) (by unfold Func.isWrapper; first | (rw [if_pos (by decide +kernel)]; kernel_rfl) | (rw [if_neg (by decide +kernel)]; exact ⟨rfl, rfl⟩))
    (fun os started H enc _ => lifted os started H enc)
end Go.Proofs.Ytoajcigegjhiaaa.resendKept
