/- The law HoldNil. -/
import Derived.Test.YtoajcigegjhiaaaA23
import Derived.Test.YtoajcigegjhiaaaC1
import Derived.JoinedOf
import Derived.Handed
namespace Go.Proofs.Ytoajcigegjhiaaa.holdNil
open Go.ChangeShapes Go.WideShapes Go.ChangeAt Go.RowKit
set_option maxRecDepth 100000
theorem hcall : CallOk Try.prog (arun tbl 1000 20) := run_ok _ _
theorem hfn {H : Type} (ds : List (DataW H)) (h : ds.length = 1) : Rows.holdNilSpec.fn H ds = { results := [.lit (.bool true)], args := ds } := match ds, h with
  | [_], _ => rfl
theorem run_nils (a b c d e f g h i : Int) : lawOut (arun tbl 1000 20) 1000 c8 [.agg [.int .i64 a, .int .i64 b, .nils, .int .i64 c, .int .i64 d, .int .i64 e, .int .i64 f, .int .i64 g, .int .i64 h, .int .i64 i]] [] = some (.bool true, []) := by kernel_rfl
theorem run_few (a b c d e f g h i : Int) (n : Nat) (rows : List (List AV)) : lawOut (arun tbl 1000 20) 1000 c8 [.agg [.int .i64 a, .int .i64 b, .isl n rows, .int .i64 c, .int .i64 d, .int .i64 e, .int .i64 f, .int .i64 g, .int .i64 h, .int .i64 i]] [false] = some (.bool true, [(decide ((30:Int) < rows.length), false)]) := by kernel_rfl
theorem run_many (a b c d e f g h i : Int) (n : Nat) (rows : List (List AV)) : lawOut (arun tbl 1000 20) 1000 c8 [.agg [.int .i64 a, .int .i64 b, .isl n rows, .int .i64 c, .int .i64 d, .int .i64 e, .int .i64 f, .int .i64 g, .int .i64 h, .int .i64 i]] [true] = some (.bool true, [(decide ((30:Int) < rows.length), true)]) := by kernel_rfl
theorem hlaw : ∀ ys, parsOf Try.prog Try.f8.params.toList ys → awp (arun tbl 1000 20) (fun _ => none) [] c8.body (RetQ (fun _ => none) c8.res (fun y u => y = .bool true ∧ u = [])) (entry ys) := by
  intro ys h
  rw [Try.params8] at h
  obtain ⟨xs, zs, rfl, hs, rfl⟩ := h
  obtain ⟨m, rfl, hm⟩ := msg_shape hs
  have hpe : parOf Try.prog 36 m.cells = .agg m.cells := by simp [parOf, Try.underlying36]
  rw [hpe]
  obtain ⟨a, b, k, l, c, d, e, f, g, h, i⟩ := m
  have hk : KnowAV k l := hm.know
  clear hm hs
  cases hk
  · exact law_awp (run_nils a b c d e f g h i) (fun p hp => by simp at hp)
  · by_cases hn : (30:Int) < (intRows l).length
    · exact law_awp (run_many a b c d e f g h i 1 (intRows l)) (fun p hp => by simp at hp; subst hp; simpa using hn)
    · exact law_awp (run_few a b c d e f g h i 1 (intRows l)) (fun p hp => by simp at hp; subst hp; simpa using hn)

theorem lifted (os : Os) (started : os.Started) (H : Type) (enc : TypeId × Value → H) :
    ReturnsInHanded {} Try.checked os 8 .any (Rows.holdNilSpec.pre6 enc Try.prog Try.f8 Rows.holdNilRow.domain false) (Rows.holdNilSpec.post enc Try.prog Try.f8 false true false false) := by
  refine returnsInHanded_of_change (C := Try.checked) Try.ownKnob started (by kernel_rfl) Try.func8
    (ChangeSpec.witness6 (enc := enc) (C := Try.checked) false ⟨#[], #[.agg #[.int .i64 0, .int .i64 0, .slice none 0 0, .int .i64 0, .int .i64 0, .int .i64 0, .int .i64 0, .int .i64 0, .int .i64 0, .int .i64 0]], []⟩ 8 (by kernel_rfl) (by kernel_rfl) (by kernel_rfl) (by kernel_rfl)) ?_
  intro W base args ds gs before hval hW _ _
  exact law_contract hcall ok8 rfl rfl rfl (by kernel_rfl) (fun ds h => by rw [Try.params8] at h; exact hfn ds h) hlaw W base args ds gs before hval hW
theorem HoldNilSaid : Rows.HoldNilSaid :=
  OpenClaim.holds_of_wide 8 Try.f8 rfl rfl rfl rfl rfl rfl rfl ⟨rfl, rfl, rfl, rfl, rfl⟩ rfl rfl rfl rfl rfl (by kernel_rfl) Try.func8 (by kernel_rfl)
    (of_decide_eq_true (by kernel_rfl)) (by unfold Func.isWrapper; first | (rw [if_pos (by decide +kernel)]; kernel_rfl) | (rw [if_neg (by decide +kernel)]; exact ⟨rfl, rfl⟩))
    (fun os started H enc _ => lifted os started H enc)
end Go.Proofs.Ytoajcigegjhiaaa.holdNil
