/- Both stores: what a call does to each. -/
import Derived.Test.YtoajcigegjhiaaaP16
namespace Go.Proofs.Ytoajcigegjhiaaa
set_option linter.unusedVariables false
set_option linter.unusedSimpArgs false
set_option maxRecDepth 100000
theorem StoreP.cong {H H' : Heap} {ls lM : Lab} {sites room : Int} {P : List (Ms × Nat)} {ck : Nat} (h : StoreP H ls lM sites room P ck) (h1 : H' ls = H ls) (h2 : H' lM = H lM) : StoreP H' ls lM sites room P ck := ⟨h1.trans h.s, h2.trans h.m, h.small, h.nd, h.bd, h.lt⟩
theorem RefI.cong {H H' : Heap} {ls lL : Lab} {x : AV} {sites room : Int} {L : List Ms} (h : RefI H ls lL x sites room L) (h1 : H' ls = H ls) (h2 : ∀ rs, H lL = some (.rows 10 rs) → H' lL = H lL) : RefI H' ls lL x sites room L := ⟨h1.trans h.s, h.own.imp id fun e => ⟨e.1, (h2 _ e.2).trans e.2⟩, h.small, h.ne⟩
theorem keepE_inv {sites room : Int} {L : List Ms} {m : Ms} (h : keepE sites room L m = 0) : locK Ms.key m.site m.seq L 0 = none ∧ ¬ room ≤ (L.length : Int) := by
  unfold keepE at h
  split at h
  · cases h
  · split at h
    · cases h
    · rename_i h1
      split at h
      · cases h
      · rename_i h2
        refine ⟨?_, h2⟩
        cases hl : locK Ms.key m.site m.seq L 0 with
        | none => rfl
        | some p => rw [gotM, hl] at h1; exact absurd rfl h1
noncomputable def keepL (sites room : Int) (L : List Ms) (m : Ms) : List Ms := if keepE sites room L m = 0 then L ++ [m] else L
theorem keep_step {H : Heap} {q ls lM : Lab} {sites room : Int} {P : List (Ms × Nat)} {ck : Nat} (h : StoreP H ls lM sites room P ck) (hf : Fresh q 0 H) (m : Ms) (hk : m.know.length ≤ 17592186044416) :
    ∃ u P' ck', SoundRes Try.prog 16 [.ptr ls 3 0 0, .agg m.cells] H q ⟨.int .i64 (keepE sites room (P.map (·.1)) m), u, some [ls, lM]⟩ ∧ StoreP (upd u H) ls lM sites room P' ck' ∧ P'.map (·.1) = keepL sites room (P.map (·.1)) m ∧ (∀ l ∈ u.map (·.1), l = lM) ∧ ∀ l, l ≠ lM → upd u H l = H l := by
  have hne : ls ≠ lM := fun e => by have := h.s; rw [e, h.m] at this; cases this
  by_cases h0 : keepE sites room (P.map (·.1)) m = 0
  · obtain ⟨hl, _⟩ := keepE_inv h0
    refine ⟨_, P ++ [(m, ck)], ck + 1, keep_sound h.i hf m hk _ (if_pos h0).symm, ⟨?_, ?_, fun p hp => ?_, ?_, ?_, fun p hp => ?_⟩, by simp [keepL, h0], fun l hl => by simpa using hl, fun l hl => by rw [upd_ne hl, upd_nil]⟩
    · rw [upd_ne hne, upd_nil]; exact h.s
    · rw [upd_same]; simp
    · rcases List.mem_append.1 hp with hp | hp
      · exact h.small p hp
      · obtain rfl : p = (m, ck) := by simpa using hp
        exact hk
    · rw [List.map_append, List.nodup_append]
      refine ⟨h.nd, by simp, fun a ha b hb e => ?_⟩
      obtain rfl : b = m.key := by simpa using hb
      obtain ⟨p, hp, rfl⟩ := List.mem_map.1 ha
      exact loc_none.1 hl p.1 (List.mem_map_of_mem (f := (·.1)) hp) ⟨congrArg Prod.fst e, congrArg Prod.snd e⟩
    · rw [List.map_append, List.nodup_append]
      refine ⟨h.bd, by simp, fun a ha b hb e => ?_⟩
      obtain rfl : b = ck := by simpa using hb
      obtain ⟨p, hp, rfl⟩ := List.mem_map.1 ha
      have := h.lt p hp
      omega
    · rcases List.mem_append.1 hp with hp | hp
      · have := h.lt p hp; omega
      · obtain rfl : p = (m, ck) := by simpa using hp
        exact Nat.lt_succ_self _
  · exact ⟨_, P, ck, keep_sound h.i hf m hk _ (if_neg h0).symm, h, by simp [keepL, h0], fun l hl => by simp at hl, fun l _ => rfl⟩
theorem rkeep_step {H : Heap} {q ls lL : Lab} {x : AV} {sites room : Int} {L : List Ms} (h : RefI H ls lL x sites room L) (hf : Fresh q 0 H) (hL : L.length ≤ 1000000) (m : Ms) (hk : m.know.length ≤ 17592186044416) :
    ∃ u lL' x', SoundRes Try.prog 17 [.ptr ls 3 0 0, .agg m.cells] H q ⟨.int .i64 (keepE sites room L m), u, some [ls, lL]⟩ ∧ RefI (upd u H) ls lL' x' sites room (keepL sites room L m) ∧ ∀ l, l ≠ ls → (∀ rs, H l ≠ some (.rows 10 rs)) → H l ≠ none → upd u H l = H l := by
  by_cases h0 : keepE sites room L m = 0
  · refine ⟨_, 47 :: q, .sl (47 :: q) 10 0 (L.length + 1), rkeep_sound h hf hL m hk _ (if_pos h0).symm, ⟨upd_same, .inr ⟨by simp [keepL, h0], ?_⟩, fun p hp => ?_, fun e => by simp [keepL, h0] at e⟩, fun l h1 h2 h3 => ?_⟩
    · rw [upd_ne (fun e => by have := h.s; rw [← e, hf.at (Nat.zero_le _)] at this; cases this), upd_same]; simp [keepL, h0]
    · rw [keepL, if_pos h0] at hp
      rcases List.mem_append.1 hp with hp | hp
      · exact h.small p hp
      · obtain rfl : p = m := by simpa using hp
        exact hk
    · rw [upd_ne h1, upd_ne (fun e => by rw [e, hf.at (Nat.zero_le _)] at h3; exact h3 rfl)]
      split
      · rfl
      · rename_i hn
        rcases h.own with ⟨_, e⟩ | ⟨_, e⟩
        · exact absurd e hn
        · rw [upd_ne (fun e' => by rw [e'] at h2; exact h2 _ e), upd_nil]
  · refine ⟨_, lL, x, rkeep_sound h hf hL m hk _ (if_neg h0).symm, ?_, fun l _ _ _ => rfl⟩
    rw [keepL, if_neg h0]; exact h
def dropOk (sites : Int) (v : List Int) : Bool := mayS v && decide ((v.length : Int) = sites)
def dropK (sites : Int) (v : List Int) (L : List Ms) : List Ms := if dropOk sites v then dropL v L else L
def dropR (sites : Int) (v : List Int) (L : List Ms) : AV := if dropOk sites v then .tuple [.int .i64 ((L.length : Int) - (dropL v L).length), .int .i64 0] else .tuple [.int .i64 0, .int .i64 1]
theorem dropP_map {v : List Int} {P : List (Ms × Nat)} : (dropP v P).map (·.1) = dropL v (P.map (·.1)) := by
  unfold dropP dropL
  rw [List.filter_map]; rfl
theorem dropOk_no {sites : Int} {v : List Int} (h : ¬ dropOk sites v = true) : mayS v = false ∨ (v.length : Int) ≠ sites := by
  unfold dropOk at h
  cases hm : mayS v
  · exact .inl rfl
  · rw [hm] at h; exact .inr (by simpa using h)
theorem drop_step {H : Heap} {q ls lM : Lab} {sites room : Int} {P : List (Ms × Nat)} {ck : Nat} (h : StoreP H ls lM sites room P ck) (hf : Fresh q 0 H) (v : List Int) (hv : v.length ≤ maxLen) (hP : P.length ≤ 1000000) :
    ∃ u P' ck', SoundRes Try.prog 18 [.ptr ls 3 0 0, il v] H q ⟨dropR sites v (P.map (·.1)), u, some [ls, lM, ls]⟩ ∧ StoreP (upd u H) ls lM sites room P' ck' ∧ P'.map (·.1) = dropK sites v (P.map (·.1)) ∧ ∀ l, l ≠ lM → upd u H l = H l := by
  have hne : ls ≠ lM := fun e => by have := h.s; rw [e, h.m] at this; cases this
  by_cases h0 : dropOk sites v = true
  · have h1 : mayS v = true ∧ (v.length : Int) = sites := by simpa [dropOk] using h0
    have hsub : (dropP v P).Sublist P := List.filter_sublist
    have hs := drop_ok h hf (lv := ls) v (.inl rfl) hv h1.1 h1.2 hP
    have e1 : dropR sites v (P.map (·.1)) = .tuple [.int .i64 (P.length - (dropP v P).length), .int .i64 0] := by
      rw [dropR, if_pos h0, ← dropP_map, List.length_map, List.length_map]
    rw [← e1] at hs
    refine ⟨_, dropP v P, ck, hs, ⟨by rw [upd_ne hne, upd_nil]; exact h.s, by rw [upd_same], fun p hp => h.small p (hsub.subset hp), h.nd.sublist (hsub.map _), h.bd.sublist (hsub.map _), fun p hp => h.lt p (hsub.subset hp)⟩, by rw [dropP_map, dropK, if_pos h0], fun l hl => by rw [upd_ne hl, upd_nil]⟩
  · have hs := drop_no h hf (lv := ls) v (.inl rfl) hv (dropOk_no h0)
    rw [show dropR sites v (P.map (·.1)) = .tuple [.int .i64 0, .int .i64 1] from if_neg h0]
    exact ⟨_, P, ck, hs, h, (if_neg h0).symm, fun l _ => rfl⟩
theorem rdrop_step {H : Heap} {q ls lL : Lab} {x : AV} {sites room : Int} {L : List Ms} (h : RefI H ls lL x sites room L) (hf : Fresh q 0 H) (hL : L.length ≤ 1000000) (v : List Int) (hv : v.length ≤ maxLen) :
    ∃ u lL' x', SoundRes Try.prog 19 [.ptr ls 3 0 0, il v] H q ⟨dropR sites v L, u, some [ls, lL]⟩ ∧ RefI (upd u H) ls lL' x' sites room (dropK sites v L) ∧ ∀ l, l ≠ ls → H l ≠ none → upd u H l = H l := by
  by_cases h0 : dropOk sites v = true
  · have h1 : mayS v = true ∧ (v.length : Int) = sites := by simpa [dropOk] using h0
    have hs := rdrop_ok h hf hL v hv h1.1 h1.2 _ rfl _ rfl
    have e1 : dropR sites v L = .tuple [.int .i64 ((L.length : Int) - (dropL v L).length), .int .i64 0] := if_pos h0
    have e2 : dropK sites v L = dropL v L := if_pos h0
    have hsub : (dropL v L).Sublist L := List.filter_sublist
    rw [← e1] at hs
    rw [e2]
    refine ⟨_, (dropC v L L.length).2 :: q, _, hs, ⟨upd_same, ?_, fun p hp => h.small p (hsub.subset hp), fun e => if_pos e⟩, fun l h1 h3 => ?_⟩
    · by_cases hn : dropL v L = []
      · exact .inl ⟨if_pos hn, hn⟩
      · refine .inr ⟨if_neg hn, ?_⟩
        rw [upd_ne (fun e => by have := h.s; rw [← e, hf.at (Nat.zero_le _)] at this; cases this), if_neg hn, upd_same]
    · rw [upd_ne h1]
      split
      · rfl
      · rw [upd_ne (fun e => by rw [e, hf.at (Nat.zero_le _)] at h3; exact h3 rfl), upd_nil]
  · have hs := rdrop_no h (q := q) v hv (dropOk_no h0)
    rw [show dropR sites v L = .tuple [.int .i64 0, .int .i64 1] from if_neg h0, show dropK sites v L = L from if_neg h0]
    exact ⟨_, lL, x, hs, h, fun l _ _ => rfl⟩
theorem keepL_len {sites room : Int} {L : List Ms} {m : Ms} : (keepL sites room L m).length ≤ L.length + 1 := by
  unfold keepL; split <;> simp
theorem dropK_len {sites : Int} {v : List Int} {L : List Ms} : (dropK sites v L).length ≤ L.length := by
  unfold dropK; split
  · exact List.filter_sublist.length_le
  · exact Nat.le_refl _
end Go.Proofs.Ytoajcigegjhiaaa
