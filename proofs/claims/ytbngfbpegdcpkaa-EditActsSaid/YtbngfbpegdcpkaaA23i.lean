/- The shape of a number, and of a list of numbers. -/
import Derived.Test.YtbngfbpegdcpkaaA22
namespace Go.Proofs.Ytbngfbpegdcpkaa
set_option linter.unusedVariables false
set_option linter.unusedSimpArgs false
set_option maxRecDepth 100000
def I64 (i : Int) : Prop := -9223372036854775808 ≤ i ∧ i ≤ 9223372036854775807
/-- a list of whole numbers as rows -/
def intRows (l : List Int) : List (List AV) := l.map fun x => [.int .i64 x]
inductive KnowAV : AV → List Int → Prop
  | row (l : List Int) : l.length ≤ maxLen → (∀ x ∈ l, I64 x) → KnowAV (.isl 1 (intRows l)) l
theorem int_shape {n : Nat} {xs : List AV} (h : shapeOf Try.prog (n + 1) 3 xs) : ∃ i, xs = [.int .i64 i] ∧ I64 i := by
  simp only [shapeOf, Try.underlying3] at h
  obtain ⟨i, rfl, h1, h2⟩ := h
  exact ⟨i, rfl, by simpa [IntKind.min, IntKind.signed, IntKind.bits] using h1, by simpa [IntKind.max, IntKind.signed, IntKind.bits] using h2⟩
theorem rows_ints {n : Nat} : ∀ {rows : List (List AV)}, (∀ r ∈ rows, shapeOf Try.prog (n + 1) 3 r) → ∃ l, rows = intRows l ∧ ∀ x ∈ l, I64 x
  | [], _ => ⟨[], rfl, by simp⟩
  | r :: rows, h => by
    obtain ⟨i, rfl, hi⟩ := int_shape (h r (by simp))
    obtain ⟨l, rfl, hl⟩ := rows_ints (rows := rows) (fun r hr => h r (by simp [hr]))
    exact ⟨i :: l, rfl, by simpa using ⟨hi, hl⟩⟩
theorem ints_shape {n : Nat} {xs : List AV} (h : shapeOf Try.prog (n + 2) 22 xs) : ∃ k l, xs = [k] ∧ KnowAV k l := by
  simp only [shapeOf, Try.underlying22] at h
  obtain ⟨rows, rfl, h1, h2⟩ := h
  · obtain ⟨l, rfl, hl⟩ := rows_ints (n := n) h2
    have : Try.prog.cellsOf 3 = 1 := by kernel_rfl
    rw [this]
    exact ⟨_, l, rfl, .row l (by simpa [intRows] using h1) hl⟩
end Go.Proofs.Ytbngfbpegdcpkaa
