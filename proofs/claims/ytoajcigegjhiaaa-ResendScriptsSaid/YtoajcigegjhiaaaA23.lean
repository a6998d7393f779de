/- A message's shape, cell by cell. -/
import Derived.Test.YtoajcigegjhiaaaA22
namespace Go.Proofs.Ytoajcigegjhiaaa
set_option linter.unusedVariables false
set_option linter.unusedSimpArgs false
set_option maxRecDepth 100000
def I64 (i : Int) : Prop := -9223372036854775808 ≤ i ∧ i ≤ 9223372036854775807
/-- a list of whole numbers as rows -/
def intRows (l : List Int) : List (List AV) := l.map fun x => [.int .i64 x]
inductive KnowAV : AV → List Int → Prop
  | row (l : List Int) : l.length ≤ maxLen → (∀ x ∈ l, I64 x) → KnowAV (.isl 1 (intRows l)) l
theorem int_shape {n : Nat} {xs : List AV} (h : shapeOf Try.prog (n + 1) 3 xs) : ∃ i, xs = [.int .i64 i] ∧ I64 i := by
  simp only [shapeOf, Try.underlying3] at h
  obtain ⟨i, rfl, h1, h2⟩ := h
  exact ⟨i, rfl, by simpa [IntKind.min, IntKind.signed, IntKind.bits] using h1, by simpa [IntKind.max, IntKind.signed, IntKind.bits] using h2⟩
theorem rows_ints {n : Nat} : ∀ {rows : List (List AV)}, (∀ r ∈ rows, shapeOf Try.prog (n + 1) 3 r) → ∃ l, rows = intRows l ∧ ∀ x ∈ l, I64 x
  | [], _ => ⟨[], rfl, by simp⟩
  | r :: rows, h => by
    obtain ⟨i, rfl, hi⟩ := int_shape (h r (by simp))
    obtain ⟨l, rfl, hl⟩ := rows_ints (rows := rows) (fun r hr => h r (by simp [hr]))
    exact ⟨i :: l, rfl, by simpa using ⟨hi, hl⟩⟩
theorem ints_shape {n : Nat} {xs : List AV} (h : shapeOf Try.prog (n + 2) 30 xs) : ∃ k l, xs = [k] ∧ KnowAV k l := by
  simp only [shapeOf, Try.underlying30] at h
  obtain ⟨rows, rfl, h1, h2⟩ := h
  · obtain ⟨l, rfl, hl⟩ := rows_ints (n := n) h2
    have : Try.prog.cellsOf 3 = 1 := by kernel_rfl
    rw [this]
    exact ⟨_, l, rfl, .row l (by simpa [intRows] using h1) hl⟩
/-- a message's numbers and what it knows -/
structure MsgV where
  site : Int
  seq : Int
  k : AV
  know : List Int
  kind : Int
  epoch : Int
  idt : Int
  ids : Int
  reft : Int
  refs : Int
  rune : Int
structure MsgV.Ok (m : MsgV) : Prop where
  site : I64 m.site
  seq : I64 m.seq
  know : KnowAV m.k m.know
  kind : I64 m.kind
  epoch : I64 m.epoch
  idt : I64 m.idt
  ids : I64 m.ids
  reft : I64 m.reft
  refs : I64 m.refs
  rune : I64 m.rune
def MsgV.cells (m : MsgV) : List AV := [.int .i64 m.site, .int .i64 m.seq, m.k, .int .i64 m.kind, .int .i64 m.epoch, .int .i64 m.idt, .int .i64 m.ids, .int .i64 m.reft, .int .i64 m.refs, .int .i64 m.rune]
theorem id_shape {n : Nat} {xs : List AV} (h : shapeOf Try.prog (n + 2) 32 xs) : ∃ a b, xs = [.int .i64 a, .int .i64 b] ∧ I64 a ∧ I64 b := by
  unfold shapeOf at h
  simp only [Try.underlying32, shapeFs] at h
  obtain ⟨a, x, rfl, _, h1, b, y, rfl, _, h2, rfl⟩ := h
  obtain ⟨i, rfl, hi⟩ := int_shape h1
  obtain ⟨j, rfl, hj⟩ := int_shape h2
  exact ⟨i, j, rfl, hi, hj⟩
theorem msg_shape {n : Nat} {xs : List AV} (h : shapeOf Try.prog (n + 4) 36 xs) : ∃ m : MsgV, xs = m.cells ∧ m.Ok := by
  unfold shapeOf at h
  simp only [Try.underlying36, shapeFs] at h
  obtain ⟨a, x, rfl, _, h1, b, y, rfl, _, h2, c, z, rfl, _, h3, d, w, rfl, _, h4, rfl⟩ := h
  obtain ⟨i1, rfl, g1⟩ := int_shape h1
  obtain ⟨i2, rfl, g2⟩ := int_shape h2
  obtain ⟨k, l, rfl, g3⟩ := ints_shape h3
  unfold shapeOf at h4
  simp only [Try.underlying34, shapeFs] at h4
  obtain ⟨a, x, rfl, _, h1, b, y, rfl, _, h2, c, z, rfl, _, h3, d, w, rfl, _, h4, e, v, rfl, _, h5, rfl⟩ := h4
  obtain ⟨i3, rfl, g4⟩ := int_shape h1
  obtain ⟨i4, rfl, g5⟩ := int_shape h2
  obtain ⟨i5, i6, rfl, g6, g7⟩ := id_shape h3
  obtain ⟨i7, i8, rfl, g8, g9⟩ := id_shape h4
  obtain ⟨i9, rfl, g10⟩ := int_shape h5
  exact ⟨⟨i1, i2, k, l, i3, i4, i5, i6, i7, i8, i9⟩, rfl, ⟨g1, g2, g3, g4, g5, g6, g7, g8, g9, g10⟩⟩
end Go.Proofs.Ytoajcigegjhiaaa
