/- What keys do: the table's contract. -/
import Derived.Test.YtbngfbpegdcpkaaT1
import Derived.Test.YtbngfbpegdcpkaaA30
import Derived.Test.YtbngfbpegdcpkaaI1
namespace Go.Proofs.Ytbngfbpegdcpkaa
set_option linter.unusedVariables false
set_option linter.unusedSimpArgs false
set_option maxRecDepth 100000
/-- the table's entries -/
def keyE : List (AV × AV) := litU.map (·.2)
theorem body_ways : RunC0.c28.body = .seq (.region [⟨some 0, none, .move, [.c .nilm]⟩] none []) (.seq (.region [⟨some 1, none, .move, [.c (.fn (.func 41) [] [])]⟩] none [1]) (.seq (.region [⟨some 2, none, .move, [.c (.fn (.func 42) [] [])]⟩] none [1, 2]) (.seq (.region litOps (some litMasks) [0]) .ret))) := by kernel_rfl
theorem ways_sound {H : Heap} {q : Lab} : SoundRes Try.prog 28 [] H q ⟨.map (3 :: q), [(3 :: q, some (.bag keyE))], some []⟩ := by
  refine sound_of_gwp (Z := fun l => upd [(3 :: q, some (.bag keyE))] (restr H (some [])) l = none) Try.mixed RunC0.ok28 rfl (fun l hl => by rw [has_one hl]; exact .inr ⟨[3], rfl⟩) ?_
  rw [body_ways, restr_nil]
  simp only [gwp]
  refine gseq_run keyF_ok (s' := ⟨[(0, .nilm)], [], 1⟩) rfl ⟨_, Weak.refl _ _ _, ?_⟩
  refine gseq_run keyF_ok (s' := ⟨[(1, .fn (.func 41) [] [])], [], 2⟩) rfl ⟨_, Weak.refl _ _ _, ?_⟩
  refine gseq_run keyF_ok (s' := ⟨[(1, .fn (.func 41) [] []), (2, .fn (.func 42) [] [])], [], 3⟩) rfl ⟨_, Weak.refl _ _ _, ?_⟩
  refine .inr ⟨keyF, keyF_ok, nd_lit (V := litV (3 :: q)) (base := litB) (U := litU) (agg := true) (ks := [.int, .int]) (fun a ha => ?_) (fun j i h => ?_) (by decide) (fun u hu => ?_) (fun u hu => ?_) (by decide) (fun rl ov es h1 h2 h3 h4 => ?_)⟩
  · simp only [litB, List.mem_cons, List.not_mem_nil, or_false] at ha
    rcases ha with rfl | rfl <;> rfl
  · have := all_idx (lit_ops (3 :: q)) j i h
    rwa [Nat.zero_add] at this
  · have hc : (litU.all fun u => shaped true [.int, .int] u.2.1 && litU.all fun u' => u'.1 == u.1 || akeq true [.int, .int] u.2.1 u'.2.1 == some false) = true := by kernel_rfl
    have h1 := List.all_eq_true.1 hc u hu
    simp only [Bool.and_eq_true, List.all_eq_true, Bool.or_eq_true, beq_iff_eq] at h1
    exact ⟨h1.1, fun u' hu' hne => (h1.2 u' hu').resolve_left hne⟩
  · have hc : (litU.all fun u => decide (u.1 < litOps.length) && decide (u.1 ≠ 0)) = true := by kernel_rfl
    have h1 := List.all_eq_true.1 hc u hu
    simpa using h1
  · have h5 : rget rl 0 = some (.map (3 :: q)) := h1 57 ⟨some 0, none, .move, [.t 39]⟩ 0 rfl rfl
    have hr : restrict rl [0] = [(0, .map (3 :: q))] := by simp [restrict, h5]
    have hov : ∀ l, l ≠ 3 :: q → upd ov (fun _ => none) l = none := fun l hl => by rw [h4 l hl]; rfl
    rw [hr]
    refine ⟨⟨[(0, .map (3 :: q))], [(3 :: q, some (.bag keyE))], 3 + litOps.length⟩, weak_bag h2 (E := keyE) h3 ?_, .inr rfl, .map (3 :: q), by simp [aRes, aResL, aRes1, rget, RunC0.c28], .refl _, fun l o hl => ⟨fun hz => (by have := hz.1.symm.trans hl; cases this), hl⟩⟩
    funext l
    by_cases e : l = 3 :: q
    · subst e; simp [upd]
    · simp only [upd, if_neg e]
      exact (hov l e).symm
def extE : CallF := fun f xs H q => if f = 28 then (match xs with | [] => some ⟨.map (3 :: q), [(3 :: q, some (.bag keyE))], some []⟩ | _ => none) else extI f xs H q
theorem extE_ok : CallOk Try.prog extE := callOk_of fun f xs H q r h => by
  unfold extE at h
  split at h
  · rename_i hf; subst hf
    split at h
    · cases h; exact ways_sound
    · cases h
  · exact extI_ok f xs H q r h
end Go.Proofs.Ytbngfbpegdcpkaa
