/- slices.Clone at nothing: no capacity is left. -/
import Derived.Test.YtbngfbpegdcpkaaI2
namespace Go.Proofs.Ytbngfbpegdcpkaa
set_option linter.unusedVariables false
set_option linter.unusedSimpArgs false
open Go.RowKit Go.Lib
set_option maxRecDepth 100000
section
set_option maxHeartbeats 4000000
theorem clone_walk (A : Option Addr) (c : Nat) (w : World) : Calls Try.prog 25 #[.slice A 0 c] w fun e w' => ∃ B, e = .returned (.slice B 0 0) ∧ (w' = w ∨ w' = w.alloc (.cells #[] 3 (0, 0))) := by
  have mixed : Try.prog.follows .mixedOrders = true := by kernel_rfl
  obtain ⟨I, hinfo, hz, hsz, hby⟩ := info_elz
  have he : ∀ (B : Option Addr) w, (binOp .eql 22 (.slice B 0 c) (.slice none 0 0)).run Try.prog w = .ok (.bool B.isNone) w := fun B w => Lib.run_eql_slice_nil w 22 3 B 0 c 0 0 Try.underlying22
  cases A with
  | none =>
    have he' := he none
    simp only [Option.isNone_none] at he'
    clear he
    go_enter Try.func25, Try.ntmps25
    go_wp2
    go_ret
    exact ⟨_, rfl, .inl rfl⟩
  | some ad =>
    have he' := he (some ad)
    simp only [Option.isNone_some] at he'
    clear he
    go_enter Try.func25, Try.ntmps25
    go_wp2
    go_ret
    exact ⟨_, rfl, .inr rfl⟩
end
theorem clone_callable : Callable Try.prog 25 := ⟨_, Try.func25, by kernel_rfl, by kernel_rfl⟩
theorem clone_empty {H : Heap} {q : Lab} {x : AV} (hx0 : x = .isl 1 [] ∨ x = .nils ∨ x = .sl0) : SoundRes Try.prog 25 [x] H q ⟨.sl0, [], some []⟩ := by
  refine ⟨clone_callable, fun l hl => absurd hl (not_has_nil l), fun ρ R vals hvs w hR hfr => ?_⟩
  obtain ⟨v0, vals, rfl, hx, hvs⟩ := hvs.head
  obtain rfl : vals = [] := List.length_eq_zero_iff.1 hvs.1
  obtain ⟨A, c, rfl⟩ : ∃ A c, v0 = .slice A 0 c := by
    rcases hx0 with rfl | rfl | rfl
    · rcases hx.isl_inv with ⟨b, o, cap, cc, T, fz, g, _, _, _, _, _, rfl⟩ | ⟨_, ad, cap, _, rfl⟩
      · exact ⟨_, _, rfl⟩
      · exact ⟨_, _, rfl⟩
    · cases hx; exact ⟨_, _, rfl⟩
    · cases hx; exact ⟨_, _, rfl⟩
  refine (clone_walk A c w).mono ?_
  rintro e w' ⟨B, rfl, rfl | rfl⟩
  · exact ⟨_, rfl, ρ, R, Fut.refl _ _ _ _ _, .sl0 _, hR⟩
  · have hqf : ρ q = none := hfr q (.self q)
    have hO : RepO ρ R ⟨w.heap.size, 0, 0, 0⟩ (.rows 1 []) (.cells #[] 3 (0, 0)) := ⟨rfl, rfl, by simp, ⟨rfl, by simp⟩, fun i j x hx => by simp [rowsGet] at hx⟩
    obtain ⟨hF, hRep⟩ := fut_new (W := Under q) hR hqf (Under.self q) (O := .cells #[] 3 (0, 0)) (o := .rows 1 []) (L := ⟨w.heap.size, 0, 0, 0⟩) rfl hO
    exact ⟨_, rfl, _, R, hF, .sl0 _, hRep.drop (fun l o h => by simp [restr, upd] at h)⟩
end Go.Proofs.Ytbngfbpegdcpkaa
