/- The law ResendNil. -/
import Derived.Test.YtoajcigegjhiaaaA23
import Derived.Test.YtoajcigegjhiaaaC2
import Derived.JoinedOf
import Derived.Handed
namespace Go.Proofs.Ytoajcigegjhiaaa.resendNil
open Go.ChangeShapes Go.WideShapes Go.ChangeAt Go.RowKit
set_option maxRecDepth 100000
theorem op_shape {n : Nat} {xs : List AV} (h : shapeOf Try.prog (n + 5) 40 xs) : ∃ (d : Int) (m : MsgV) (k : AV) (l : List Int) (a b : Int), xs = .int .i64 d :: m.cells ++ [k, .int .i64 a, .int .i64 b] ∧ m.Ok ∧ KnowAV k l := by
  unfold shapeOf at h
  simp only [Try.underlying40, shapeFs] at h
  obtain ⟨a, x, rfl, _, h1, b, y, rfl, _, h2, c, z, rfl, _, h3, d, w, rfl, _, h4, rfl⟩ := h
  obtain ⟨i1, rfl, g1⟩ := int_shape h1
  obtain ⟨m, rfl, hm⟩ := msg_shape h2
  obtain ⟨k, l, rfl, g3⟩ := ints_shape h3
  unfold shapeOf at h4
  simp only [Try.underlying38, shapeFs] at h4
  obtain ⟨a, x, rfl, _, h1, b, y, rfl, _, h2, rfl⟩ := h4
  obtain ⟨i2, rfl, g1⟩ := int_shape h1
  obtain ⟨i3, rfl, g2⟩ := int_shape h2
  exact ⟨i1, m, k, l, i2, i3, by simp [MsgV.cells], hm, g3⟩
theorem hcall : CallOk Try.prog (arun tbl 1000 20) := run_ok _ _
theorem hfn {H : Type} (ds : List (DataW H)) (h : ds.length = 1) : Rows.resendNilSpec.fn H ds = { results := [.lit (.bool true)], args := ds } := match ds, h with
  | [_], _ => rfl
def argX (d a b : Int) (k v : AV) (c e f g h i j l m n o : Int) : AV := .agg [.int .i64 d, .int .i64 a, .int .i64 b, k, .int .i64 c, .int .i64 e, .int .i64 f, .int .i64 g, .int .i64 h, .int .i64 i, .int .i64 j, v, .int .i64 l, .int .i64 m]
def long (rows : List (List AV)) : Bool := decide ((30:Int) < rows.length)
section
variable (d a b c e f g h i j l m n o : Int) (p q : Nat) (rows more : List (List AV))
theorem run_nn : lawOut (arun tbl 1000 20) 1000 c5 [argX d a b .nils .nils c e f g h i j l m n o] [] [] = some (.bool true, []) := by kernel_rfl
theorem run_ni0 : lawOut (arun tbl 1000 20) 1000 c5 [argX d a b .nils (.isl q more) c e f g h i j l m n o] [] [(18, false)] = some (.bool true, [(long more, false)]) := by kernel_rfl
theorem run_ni1 : lawOut (arun tbl 1000 20) 1000 c5 [argX d a b .nils (.isl q more) c e f g h i j l m n o] [] [(18, true)] = some (.bool true, [(long more, true)]) := by kernel_rfl
theorem run_i1n : lawOut (arun tbl 1000 20) 1000 c5 [argX d a b (.isl p rows) .nils c e f g h i j l m n o] [] [(13, true)] = some (.bool true, [(long rows, true)]) := by kernel_rfl
theorem run_i1i : lawOut (arun tbl 1000 20) 1000 c5 [argX d a b (.isl p rows) (.isl q more) c e f g h i j l m n o] [] [(13, true)] = some (.bool true, [(long rows, true)]) := by kernel_rfl
theorem run_in0 : lawOut (arun tbl 1000 20) 1000 c5 [argX d a b (.isl p rows) .nils c e f g h i j l m n o] [] [(13, false)] = some (.bool true, [(long rows, false)]) := by kernel_rfl
theorem run_ii0 : lawOut (arun tbl 1000 20) 1000 c5 [argX d a b (.isl p rows) (.isl q more) c e f g h i j l m n o] [] [(13, false), (18, false)] = some (.bool true, [(long rows, false), (long more, false)]) := by kernel_rfl
theorem run_ii1 : lawOut (arun tbl 1000 20) 1000 c5 [argX d a b (.isl p rows) (.isl q more) c e f g h i j l m n o] [] [(13, false), (18, true)] = some (.bool true, [(long rows, false), (long more, true)]) := by kernel_rfl
end
theorem cons_one {x y : Bool} (h : x = y) : ConsOk [(x, y)] := fun p hp => by simp at hp; subst hp; exact h
theorem cons_two {x y z w : Bool} (h : x = y) (k : z = w) : ConsOk [(x, y), (z, w)] := fun p hp => by
  simp at hp
  rcases hp with rfl | rfl
  · exact h
  · exact k
theorem hlaw : ∀ ys, parsOf Try.prog Try.f5.params.toList ys → awp (arun tbl 1000 20) (fun _ => none) [] c5.body (RetQ (fun _ => none) c5.res (fun y u => y = .bool true ∧ u = [])) (entry ys) := by
  intro ys h
  rw [Try.params5] at h
  obtain ⟨xs, zs, rfl, hs, rfl⟩ := h
  obtain ⟨d, m, v, vl, x, y, rfl, hm, hv⟩ := op_shape hs
  obtain ⟨a, b, k, kl, c, e, f, g, h, i, j⟩ := m
  have hk : KnowAV k kl := hm.know
  clear hm hs
  have hpe : parOf Try.prog 40 (.int .i64 d :: (MsgV.mk a b k kl c e f g h i j).cells ++ [v, .int .i64 x, .int .i64 y]) = argX d a b k v c e f g h i j x y 0 0 := by simp [parOf, Try.underlying40, argX, MsgV.cells]
  rw [hpe]
  cases hk
  · cases hv
    · exact law_awp (run_nn d a b c e f g h i j x y 0 0) (fun p hp => by simp at hp)
    · cases hl : long (intRows vl)
      · exact law_awp (run_ni0 d a b c e f g h i j x y 0 0 1 (intRows vl)) (cons_one hl)
      · exact law_awp (run_ni1 d a b c e f g h i j x y 0 0 1 (intRows vl)) (cons_one hl)
  · cases hn : long (intRows kl)
    · cases hv
      · exact law_awp (run_in0 d a b c e f g h i j x y 0 0 1 (intRows kl)) (cons_one hn)
      · cases hl : long (intRows vl)
        · exact law_awp (run_ii0 d a b c e f g h i j x y 0 0 1 1 (intRows kl) (intRows vl)) (cons_two hn hl)
        · exact law_awp (run_ii1 d a b c e f g h i j x y 0 0 1 1 (intRows kl) (intRows vl)) (cons_two hn hl)
    · cases hv
      · exact law_awp (run_i1n d a b c e f g h i j x y 0 0 1 (intRows kl)) (cons_one hn)
      · exact law_awp (run_i1i d a b c e f g h i j x y 0 0 1 1 (intRows kl) (intRows vl)) (cons_one hn)

theorem lifted (os : Os) (started : os.Started) (H : Type) (enc : TypeId × Value → H) :
    ReturnsInHanded {} Try.checked os 5 .any (Rows.resendNilSpec.pre6 enc Try.prog Try.f5 Rows.resendNilRow.domain false) (Rows.resendNilSpec.post enc Try.prog Try.f5 false true false false) := by
  refine returnsInHanded_of_change (C := Try.checked) Try.ownKnob started (by kernel_rfl) Try.func5
    (ChangeSpec.witness6 (enc := enc) (C := Try.checked) false ⟨#[], #[.agg #[.int .i64 0, .int .i64 0, .int .i64 0, .slice none 0 0, .int .i64 0, .int .i64 0, .int .i64 0, .int .i64 0, .int .i64 0, .int .i64 0, .int .i64 0, .slice none 0 0, .int .i64 0, .int .i64 0]], []⟩ 8 (by kernel_rfl) (by kernel_rfl) (by kernel_rfl) (by kernel_rfl)) ?_
  intro W base args ds gs before hval hW _ _
  exact law_contract hcall ok5 rfl rfl rfl (by kernel_rfl) (fun ds h => by rw [Try.params5] at h; exact hfn ds h) hlaw W base args ds gs before hval hW
theorem ResendNilSaid : Rows.ResendNilSaid :=
  OpenClaim.holds_of_wide 5 Try.f5 rfl rfl rfl rfl rfl rfl rfl ⟨rfl, rfl, rfl, rfl, rfl⟩ rfl rfl rfl rfl rfl (by kernel_rfl) Try.func5 (by kernel_rfl)
    (of_decide_eq_true (by kernel_rfl)) (by unfold Func.isWrapper; first | (rw [if_pos (by decide +kernel)]; kernel_rfl) | (rw [if_neg (by decide +kernel)]; exact ⟨rfl, rfl⟩))
    (fun os started H enc _ => lifted os started H enc)
end Go.Proofs.Ytoajcigegjhiaaa.resendNil
