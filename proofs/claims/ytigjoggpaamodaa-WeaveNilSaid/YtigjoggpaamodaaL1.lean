/- The law WeaveNil. -/
import Derived.Test.YtigjoggpaamodaaQ4
import Derived.Test.YtigjoggpaamodaaRows
import Derived.JoinedOf
import Derived.Handed
namespace Go.Proofs.Ytigjoggpaamodaa.weaveNil
open Go.ChangeShapes Go.WideShapes Go.ChangeAt Go.RowKit
set_option maxRecDepth 100000
open RunC1
theorem hcall : aY Try.prog (kQ r2 tbl 1000 20) := run_ok _ _
theorem hfn {H : Type} (ds : List (DataW H)) (h : ds.length = 1) : Rows.weaveNilSpec.fn H ds = { results := [.lit (.bool true)], args := ds } := match ds, h with
  | [_], _ => rfl
theorem run_law (d : Bool) (a b c e r : Int) : o4 (kQ r2 tbl 1000 20) 1000 c4 [.agg [.bool d, .int .i64 a, .int .i64 b, .int .i64 c, .int .i64 e, .int .i64 r]] [] = some (.bool true, []) := by kernel_rfl
theorem hlaw : ∀ ys, jZ Try.prog Try.f4.params.toList ys → awp (kQ r2 tbl 1000 20) (fun _ => none) [] c4.body (tA (fun _ => none) c4.res (fun y u => y = .bool true ∧ u = [])) (bR ys) := by
  intro ys h
  rw [Try.params4] at h
  obtain ⟨xs, zs, rfl, hs, rfl⟩ := h
  obtain ⟨o, rfl, ho⟩ := op_shape hs
  have hpe : pY Try.prog 32 o.cells = .agg o.cells := by simp [pY, Try.underlying32]
  rw [hpe]
  obtain ⟨d, a, b, c, e, r⟩ := o
  exact rH (run_law d a b c e r) (fun p hp => by simp at hp)

theorem lifted (os : Os) (started : os.Started) (H : Type) (enc : TypeId × Value → H) :
    ReturnsInHanded {} Try.checked os 4 .any (Rows.weaveNilSpec.pre6 enc Try.prog Try.f4 Rows.weaveNilRow.domain false) (Rows.weaveNilSpec.post enc Try.prog Try.f4 false true false false) := by
  refine returnsInHanded_of_change (C := Try.checked) Try.ownKnob started (by kernel_rfl) Try.func4
    (ChangeSpec.witness6 (enc := enc) (C := Try.checked) false ⟨#[], #[.agg #[.bool false, .int .i64 0, .int .i64 0, .int .i64 0, .int .i64 0, .int .i64 0]], []⟩ 8 (by kernel_rfl) (by kernel_rfl) (by kernel_rfl) (by kernel_rfl)) ?_
  intro W base args ds gs before hval hW _ _
  exact law_contract hcall ok4 rfl rfl rfl (by kernel_rfl) (fun ds h => by rw [Try.params4] at h; exact hfn ds h) hlaw W base args ds gs before hval hW
theorem WeaveNilSaid : Rows.WeaveNilSaid :=
  OpenClaim.holds_of_wide 4 Try.f4 rfl rfl rfl rfl rfl rfl rfl ⟨rfl, rfl, rfl, rfl, rfl⟩ rfl rfl rfl rfl rfl (by kernel_rfl) Try.func4 (by kernel_rfl)
    (of_decide_eq_true (by kernel_rfl)) (by unfold Func.isWrapper; first | (rw [if_pos (by decide +kernel)]; kernel_rfl) | (rw [if_neg (by decide +kernel)]; exact ⟨rfl, rfl⟩))
    (fun os started H enc _ => lifted os started H enc)
end Go.Proofs.Ytigjoggpaamodaa.weaveNil
