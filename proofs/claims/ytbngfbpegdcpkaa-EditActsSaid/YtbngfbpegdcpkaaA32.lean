/- The abstract machine: operations in any order that do not meet: pair by pair. -/
import Derived.Test.YtbngfbpegdcpkaaA31
namespace Go.Proofs.Ytbngfbpegdcpkaa
set_option linter.unusedVariables false
set_option linter.unusedSimpArgs false
def AllTr (φ : Nat → Tr → Prop) (ps : List (Nat × Tr)) : Prop := ∀ b ∈ ps, φ b.1 b.2
theorem cf_nil {m : List Nat} : clashFree m [] := fun a ha => by cases ha
theorem allp_nil {φ : Nat → Tr → Prop} : AllTr φ [] := fun a ha => by cases ha
theorem allp_add {φ : Nat → Tr → Prop} {j : Nat} {l : List Lab} {q : Lab} {f : Option (List Lab)} {ps : List (Nat × Tr)} (h1 : φ j ⟨l, q, f⟩) (h2 : AllTr φ ps) : AllTr φ (addTr j l q f ps) := fun b hb => by
  rcases mem_addTr hb with rfl | hb
  · exact h1
  · exact h2 b hb
theorem ordered_symm {m : List Nat} {i j : Nat} : ordered m i j = ordered m j i := by unfold ordered; rw [Bool.or_comm]
theorem cf_add {m : List Nat} {j : Nat} {l : List Lab} {q : Lab} {f : Option (List Lab)} {ps : List (Nat × Tr)} (h : clashFree m ps) (hb : AllTr (fun i b => ordered m j i = true ∨ (clash j i ⟨l, q, f⟩ b = false ∧ clash i j b ⟨l, q, f⟩ = false)) ps) : clashFree m (addTr j l q f ps) := fun a ha b hb' hne ho => by
  rcases mem_addTr ha with rfl | ha
  · rcases mem_addTr hb' with rfl | hb'
    · exact absurd rfl hne
    · rcases hb b hb' with h1 | h1
      · rw [h1] at ho; cases ho
      · exact h1.1
  · rcases mem_addTr hb' with rfl | hb'
    · rcases hb a ha with h1 | h1
      · rw [ordered_symm, h1] at ho; cases ho
      · exact h1.2
    · exact h a ha b hb' hne ho
theorem call_res_gen {s : Bool} {P : Program} {H : Heap} {p : Lab} {KK : KF} {c : Nat} {f : Nat} {xs : List AV} {y : AV} {u : Chg} {foot : Option (List Lab)} (h : SoundRes P f xs H (c :: p) ⟨y, u, foot⟩) (hf : Fresh p c H) (hk : ∀ H', (∀ l, H' l = upd u H l) → Fresh p (c + 1) H' → KK y H' (u.map (·.1)) foot) : vCall s P f xs H (c :: p) KK :=
  call_res h (hk _ (fun _ => rfl) (hf.after h))
theorem Fresh.old {H : Heap} {p l : Lab} {c : Nat} {o : Option AO} (h : Fresh p c H) (hl : H l ≠ none) : Fresh p c (Ytbngfbpegdcpkaa.upd [(l, o)] H) := fun k s hk => by
  rw [upd_ne (fun e => hl (by rw [← e]; exact h k s hk)), upd_nil]; exact h k s hk
end Go.Proofs.Ytbngfbpegdcpkaa
