/- slices.Insert and slices.Delete, as calls that are run by their contracts. -/
import Derived.Test.YtbngfbpegdcpkaaI3
import Derived.Test.YtbngfbpegdcpkaaA33
namespace Go.Proofs.Ytbngfbpegdcpkaa
set_option linter.unusedVariables false
set_option linter.unusedSimpArgs false
set_option maxRecDepth 100000
def insF (xs : List AV) (H : Heap) (q : Lab) : Option Res := match xs with
  | [.nils, .int .i64 0, .sl lv 1 0 1] => match H lv with
    | some (.rows 1 [row]) => some ⟨.sl q 1 0 1, [(q, some (.rows 1 [row]))], some [lv]⟩
    | _ => none
  | [.sl l 1 off n, .int .i64 k, .sl lv 1 0 1] => match H l, H lv with
    | some (.rows 1 rs), some (.rows 1 [row]) => if off + n ≤ rs.length ∧ l ≠ lv ∧ 0 ≤ k ∧ k.toNat ≤ n ∧ (n + 1) * 8 ≤ 140737488355328 then some ⟨.sl q 1 0 (n + 1), [(q, some (.rows 1 ((rs.drop off).take k.toNat ++ [row] ++ (rs.drop (off + k.toNat)).take (n - k.toNat)))), (l, none)], some [l, lv]⟩ else none
    | _, _ => none
  | _ => none
def delF (xs : List AV) (H : Heap) (q : Lab) : Option Res := match xs with
  | [.sl l 1 off n, .int .i64 a, .int .i64 b] => match H l with
    | some (.rows 1 rs) => if off + n ≤ rs.length ∧ 0 ≤ a ∧ a ≤ b ∧ b ≤ (n : Int) ∧ n ≤ 4611686018427387904 then some ⟨.sl q 1 0 (a.toNat + (n - b.toNat)), [(q, some (.rows 1 ((rs.drop off).take a.toNat ++ (rs.drop (off + b.toNat)).take (n - b.toNat)))), (l, none)], some [l]⟩ else none
    | _ => none
  | _ => none
def extI : CallF := fun f xs H q => if f = 33 then insF xs H q else if f = 34 then delF xs H q else none
theorem extI_ok : CallOk Try.prog extI := callOk_of fun f xs H q r h => by
  unfold extI at h
  split at h
  · rename_i hf; subst hf
    unfold insF at h
    split at h
    · split at h
      · cases h; exact insert_nil (by assumption)
      · cases h
    · split at h
      · split at h
        · rename_i hl hv hc
          obtain ⟨h1, h2, h3, h4, h5⟩ := hc
          cases h
          have := insert_sl (q := q) hl h1 hv h2 h4 h5 (by omega)
          rw [Int.toNat_of_nonneg h3] at this
          exact this
        · cases h
      · cases h
    · cases h
  · split at h
    · rename_i hf; subst hf
      unfold delF at h
      split at h
      · split at h
        · split at h
          · rename_i hl hc
            obtain ⟨h1, h2, h3, h4, h5⟩ := hc
            cases h
            have := delete_sl (q := q) (i := Int.toNat _) (j := Int.toNat _) hl h1 (Int.toNat_le_toNat h3) (by omega) h5
            rw [Int.toNat_of_nonneg h2, Int.toNat_of_nonneg (by omega)] at this
            exact this
          · cases h
        · cases h
      · cases h
    · cases h
end Go.Proofs.Ytbngfbpegdcpkaa
