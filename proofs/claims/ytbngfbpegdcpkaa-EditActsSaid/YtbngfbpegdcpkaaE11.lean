/- Joined texts. -/
import Derived.Test.YtbngfbpegdcpkaaE7
import Derived.Test.YtbngfbpegdcpkaaE2
namespace Go.Proofs.Ytbngfbpegdcpkaa
set_option linter.unusedVariables false
set_option linter.unusedSimpArgs false
set_option maxRecDepth 100000
/-! What keys do: Do. -/
section
/-- what is done over a part of the heap, its outcome left open -/
theorem SoundE.frame {P : Program} {f : Nat} {xs : List AV} {H G : Heap} {q : Lab} {Φ : AV → Chg → Prop} (h : SoundE P f xs H q Φ) (hsub : ∀ l o, H l = some o → G l = some o) : SoundE P f xs G q fun x u => Φ x u ∧ ∀ l, u.has l → H l ≠ none ∨ Under q l := by
  refine ⟨h.1, fun ρ R vs hvs w hG hfr => ?_⟩
  have hH : Rep H ρ R w := ⟨fun l o e => hG.own l o (hsub l o e), fun l l' o o' L L' e e' => hG.sep l l' o o' L L' (hsub l o e) (hsub l' o' e'), fun l o L e => hG.dis l o L (hsub l o e), hG.imm⟩
  refine Calls.mono (h.2 ρ R vs hvs w hH hfr) ?_
  rintro e w' ⟨v, rfl, x, u, ρ', R', hΦ, hu, hF, hx, hR⟩
  have hd : Does (fun w0 K => w0 = w → K v w') H u (Under q) ρ R x := fun w0 _ _ e => by subst e; exact ⟨ρ', R', hF, hx, hR⟩
  obtain ⟨ρ2, R2, h1, h2, h3⟩ := hd.frame (fun w0 K K' hk hc e => hk _ _ (hc e)) hsub hu w hG hfr rfl
  exact ⟨v, rfl, x, u, ρ2, R2, ⟨hΦ, hu⟩, fun l hl => (hu l hl).imp (fun h e => by
    obtain ⟨o, ho⟩ := Option.ne_none_iff_exists'.1 h
    rw [hsub l o ho] at e; cases e) id, h1, h2, h3⟩
theorem clone_det {H : Heap} {q : Lab} (l : List Int) (hl : l.length ≤ 1000000000) : ∃ y u, SoundRes Try.prog 25 [il l] H q ⟨y, u, some []⟩ ∧ ListE (upd u H) y l ∧ (∀ k, Chg.has u k → k = 5 :: q) ∧ (∀ k n, y = .sl k 1 0 n → k = 5 :: q) ∧ ((y = .sl0 ∧ u = []) ∨ (y = .sl (5 :: q) 1 0 l.length ∧ u = [(5 :: q, some (.rows 1 (l.map encI)))])) := by
  by_cases h : l = []
  · subst h
    exact ⟨.sl0, [], clone_empty (.inl rfl), .inl ⟨rfl, rfl⟩, fun k hk => absurd hk (not_has_nil k), (fun k n e => by cases e), .inl ⟨rfl, rfl⟩⟩
  · exact ⟨_, _, clone_own l hl h, .inr ⟨_, rfl, upd_same⟩, fun k hk => has_one hk, (fun k n e => by cases e; rfl), .inr ⟨rfl, rfl⟩⟩
def keyT : List (Int × Int × Nat × (Wk → Wk)) := [
  (2, 97, 43, fun w => { w with pos := 0 }),
  (2, 101, 44, fun w => { w with pos := w.line.length }),
  (2, 98, 45, fun w => { w with pos := heldN w.line.length (w.pos - 1) }),
  (2, 102, 46, fun w => { w with pos := heldN w.line.length (w.pos + 1) }),
  (2, 104, 47, fun w => cutW w (heldN w.line.length (w.pos - 1)) w.pos),
  (2, 100, 48, fun w => cutW w w.pos (heldN w.line.length (w.pos + 1))),
  (2, 107, 49, fun w => killW w w.pos w.line.length),
  (2, 117, 50, fun w => killW w 0 w.pos),
  (2, 119, 51, fun w => killW w (wordBack w.line (heldN w.line.length w.pos)).toNat w.pos),
  (2, 121, 52, fun w => yankW w w.kill),
  (2, 116, 53, swapW),
  (3, 98, 54, fun w => { w with pos := (wordBack w.line (heldN w.line.length w.pos)).toNat }),
  (3, 102, 55, fun w => { w with pos := wordOn w.line (heldN w.line.length w.pos) }),
  (3, 100, 56, fun w => killW w w.pos (wordOn w.line (heldN w.line.length w.pos))),
  (3, 127, 51, fun w => killW w (wordBack w.line (heldN w.line.length w.pos)).toNat w.pos),
  (7, 0, 45, fun w => { w with pos := heldN w.line.length (w.pos - 1) }),
  (6, 0, 46, fun w => { w with pos := heldN w.line.length (w.pos + 1) }),
  (8, 0, 43, fun w => { w with pos := 0 }),
  (9, 0, 44, fun w => { w with pos := w.line.length }),
  (10, 0, 48, fun w => cutW w w.pos (heldN w.line.length (w.pos + 1)))]
theorem keyT_eq : keyE = keyT.map fun e => (.agg [.int .i64 e.1, .int .i64 e.2.1], .fn (.func e.2.2.1) [] []) := by rfl
theorem keyT_ok : ∀ e ∈ keyT, KeyE e.2.2.1 e.2.2.2 := by
  intro e he
  simp only [keyT, List.mem_cons, List.not_mem_nil, or_false] at he
  rcases he with rfl | rfl | rfl | rfl | rfl | rfl | rfl | rfl | rfl | rfl | rfl | rfl | rfl | rfl | rfl | rfl | rfl | rfl | rfl | rfl
  · exact home_key
  · exact end_key
  · exact left_key
  · exact right_key
  · exact rub_key
  · exact del_key
  · exact killOn_key
  · exact killBack_key
  · exact killWord_key
  · exact yank_key
  · exact swap_key
  · exact wordBack_key
  · exact wordOn_key
  · exact killNext_key
  · exact killWord_key
  · exact left_key
  · exact right_key
  · exact home_key
  · exact end_key
  · exact del_key
def keyFind (k r : Int) : Option (Int × Int × Nat × (Wk → Wk)) := keyT.find? fun e => decide (e.1 = k) && decide (e.2.1 = r)
theorem match_gen (k r : Int) : ∀ (T : List (Int × Int × Nat × (Wk → Wk))), (T.map fun e => (e.1, e.2.1)).Nodup →
    amatch true [.int, .int] (.agg [.int .i64 k, .int .i64 r]) (T.map fun e => (.agg [.int .i64 e.1, .int .i64 e.2.1], .fn (.func e.2.2.1) [] [])) = some (match T.find? fun e => decide (e.1 = k) && decide (e.2.1 = r) with | some e => [.fn (.func e.2.2.1) [] []] | none => [])
  | [], _ => rfl
  | e :: T, hn => by
    simp only [List.map_cons, List.nodup_cons] at hn
    have ih := match_gen k r T hn.2
    simp only [List.map_cons, amatch, ih]
    have hk : akeq true [.int, .int] (.agg [.int .i64 k, .int .i64 r]) (.agg [.int .i64 e.1, .int .i64 e.2.1]) = some (decide (k = e.1) && (decide (r = e.2.1) && true)) := by
      simp [akeq, shaped, AV.isAgg, AV.cells, aeqs, ceq]
    rw [hk]
    by_cases h1 : e.1 = k
    · by_cases h2 : e.2.1 = r
      · have hnone : (T.find? fun e => decide (e.1 = k) && decide (e.2.1 = r)) = none := by
          rw [List.find?_eq_none]
          intro e' he' hc
          simp only [Bool.and_eq_true, decide_eq_true_eq] at hc
          exact hn.1 (List.mem_map.2 ⟨e', he', by rw [hc.1, hc.2, h1, h2]⟩)
        simp [List.find?_cons, h1, h2, hnone]
      · simp [List.find?_cons, h1, h2, Ne.symm h2]
    · simp [List.find?_cons, h1, Ne.symm h1]
theorem key_match (k r : Int) : amatch true [.int, .int] (.agg [.int .i64 k, .int .i64 r]) keyE = some (match keyFind k r with | some e => [.fn (.func e.2.2.1) [] []] | none => []) := by
  rw [keyT_eq]
  exact match_gen k r keyT (by decide)
def keyW (w : Wk) (k r : Int) : Wk := match keyFind k r with | some e => e.2.2.2 w | none => w
def doS (l : List Int) (a : Int) (kl : List Int) (k r : Int) : Wk :=
  if k = 1 then putW ⟨l, heldN l.length a, kl, []⟩ r else keyW ⟨l, heldN l.length a, kl, []⟩ k (if k = 2 ∨ k = 3 then r else 0)
def doR (w : Wk) : AV := .tuple [.agg [il w.line, .int .i64 w.pos, il w.kill], .isl 3 (w.acts.map encA)]
theorem v_lookup_key {H : Heap} {q lb : Lab} {KK : KF} {k r : Int} (h : H lb = some (.bag keyE)) : vGen (.lookup true [.int, .int] .nilf true) [.map lb, .agg [.int .i64 k, .int .i64 r]] H q KK = KK (match keyFind k r with | some e => .tuple [.fn (.func e.2.2.1) [] [], .bool true] | none => .tuple [.nilf, .bool false]) H [] (some [lb]) := by
  have : aop noCall (.lookup true [.int, .int] .nilf true) [.map lb, .agg [.int .i64 k, .int .i64 r]] H q = some ⟨(match keyFind k r with | some e => .tuple [.fn (.func e.2.2.1) [] [], .bool true] | none => .tuple [.nilf, .bool false]), [], some [lb]⟩ := by
    have hm := key_match k r
    simp only [aop, aLookup, h, hm]
    cases keyFind k r <;> simp [shaped, AV.isAgg, AV.cells]
  simp [vGen, this]; rfl
end
/-! What keys do: Do, walked. -/
section
theorem Fr.agg3 {Z : Lab → Prop} {H : Heap} {a b c a' b' c' : AV} (h1 : Fr Z H a a') (h2 : Fr Z H b b') (h3 : Fr Z H c c') : Fr Z H (.agg [a, b, c]) (.agg [a', b', c']) := by
  refine .agg _ _ rfl (fun i => match i with | 0 => a | 1 => b | _ => c) (fun i d hd => ?_) (fun i d hd => ?_)
  · match i with
    | 0 => rfl
    | 1 => rfl
    | 2 => rfl
    | i + 3 => simp at hd
  · match i with
    | 0 => cases hd; exact h1
    | 1 => cases hd; exact h2
    | 2 => cases hd; exact h3
    | i + 3 => simp at hd
theorem rowOk_acts {l : List (Int × Int × Int)} : ∀ r ∈ l.map encA, RowOk 3 r := rowOk_map fun a => ⟨rfl, by simp [encA, AV.one]⟩
theorem do_end {H : Heap} {q lw : Lab} {xl xk xa : AV} {w : Wk} (h : WorkI H lw xl xk xa w) (h2 : H (2 :: q) = some (.rows 3 [[.nils, .int .i64 0, .nils]])) (hx : xa ≠ .sl (2 :: q) 3 0 w.acts.length) {c : Nat} :
    VP [.cell 4 3 true, .tmp 5] (doR w) .ret [(4, .ptr (2 :: q) 3 0 0), (5, xa)] (upd [(2 :: q, some (.rows 3 [[xl, .int .i64 w.pos, xk]]))] H) c := by
  have hk : ∀ k rs, H k = some (.rows 1 rs) → upd [(2 :: q, some (.rows 3 [[xl, .int .i64 w.pos, xk]]))] H k = some (.rows 1 rs) := fun k rs hk => by
    rw [upd_ne (fun e => by rw [e, h2] at hk; cases hk)]; exact hk
  have hl := h.l.mono fun _ _ _ h1 => hk _ _ h1
  have hkk := h.k.mono fun _ _ _ h1 => hk _ _ h1
  have ha : Own (upd [(2 :: q, some (.rows 3 [[xl, .int .i64 w.pos, xk]]))] H) xa 3 (w.acts.map encA) := by
    rcases h.a with h1 | ⟨l, h1, h3⟩
    · exact .inl h1
    · refine .inr ⟨l, h1, ?_⟩
      rw [upd_ne (fun e => hx (by rw [h1, e, List.length_map]))]; exact h3
  refine ⟨.inr rfl, .tuple [.agg [xl, .int .i64 w.pos, xk], xa], aRes_c2 upd_same rfl (by decide), Fr.two (Fr.agg3 hl.fr (.refl _) hkk.fr) (.of_own ha rowOk_acts)⟩
theorem work_call {f : Nat} {xs : List AV} {H : Heap} {q : Lab} {xl xk : AV} {w w' : Wk} {c : Nat} {KK : KF} {Φ : Heap → AV → Chg → Prop} (hw : WorkI H (17 :: q) xl xk .nils w) (h2 : H (2 :: q) = some (.rows 3 [[.nils, .int .i64 0, .nils]])) (hF : Fresh q c H) (hc : 18 ≤ c)
    (h : ∀ H0, WorkI H0 (17 :: q) xl xk .nils w → Fresh (c :: q) 0 H0 → SoundE Try.prog f xs H0 (c :: q) (Φ H0)) (hΦ : ∀ H0 x u, Φ H0 x u → ∃ xl' xk' xa', WorkI (upd u H0) (17 :: q) xl' xk' xa' w')
    (hk : ∀ x u xl' xk' xa', WorkI (upd u H) (17 :: q) xl' xk' xa' w' → upd u H (2 :: q) = some (.rows 3 [[.nils, .int .i64 0, .nils]]) → xa' ≠ .sl (2 :: q) 3 0 w'.acts.length → KK x (upd u H) (u.map (·.1)) none) : vCall true Try.prog f xs H (c :: q) KK := by
  have hl17 := hw.s
  have hin : ∀ k o, H k = some o → k ∈ (17 :: q) :: (labs xl ++ labs xk) → restr H (some ((17 :: q) :: (labs xl ++ labs xk))) k = some o := fun k o hk hm => by rw [restr_at hm]; exact hk
  have hw0 : WorkI (restr H (some ((17 :: q) :: (labs xl ++ labs xk)))) (17 :: q) xl xk .nils w := by
    refine ⟨hin _ _ hw.s (by simp), hw.l.mono fun lab n e hk => hin _ _ hk (by simp [e, labs]), hw.k.mono fun lab n e hk => hin _ _ hk (by simp [e, labs]), ?_, hw.ne⟩
    rcases hw.a with h1 | ⟨l, h1, _⟩
    · exact .inl h1
    · cases h1
  have hs := (h _ hw0 hF.restr.callee).frame (G := H) (fun l o h => (restr_some h).2)
  refine call_e hs (fun x u hx => ?_)
  obtain ⟨xl', xk', xa', h3⟩ := hΦ _ _ _ hx.1
  have hr2 : restr H (some ((17 :: q) :: (labs xl ++ labs xk))) (2 :: q) = none := by
    cases hr : restr H (some ((17 :: q) :: (labs xl ++ labs xk))) (2 :: q) with
    | none => rfl
    | some o =>
      have hm := (restr_some hr).1
      simp only [List.mem_cons, List.mem_append] at hm
      rcases hm with hm | hm | hm
      · simp at hm
      · rcases hw.l with ⟨h5, _⟩ | ⟨lab, h5, h6⟩
        · rw [h5] at hm; cases hm
        · rw [h5] at hm
          obtain rfl := List.mem_singleton.1 hm
          rw [h2] at h6; cases h6
      · rcases hw.k with ⟨h5, _⟩ | ⟨lab, h5, h6⟩
        · rw [h5] at hm; cases hm
        · rw [h5] at hm
          obtain rfl := List.mem_singleton.1 hm
          rw [h2] at h6; cases h6
  have hn2 : ¬ u.has (2 :: q) := fun hh => by
    rcases hx.2 _ hh with h4 | ⟨s, hs⟩
    · exact h4 hr2
    · have hlen := congrArg List.length hs
      cases s with
      | nil => simp at hs; omega
      | cons a s => simp at hlen; omega
  have hm : ∀ k o, upd u (restr H (some ((17 :: q) :: (labs xl ++ labs xk)))) k = some o → upd u H k = some o := fun k o hk => by
    by_cases hh : u.has k
    · rw [upd_has (H' := restr H (some ((17 :: q) :: (labs xl ++ labs xk)))) hh]; exact hk
    · rw [upd_not hh] at hk ⊢; exact (restr_some hk).2
  refine hk x u xl' xk' xa' (h3.mono hm) (by rw [upd_not hn2]; exact h2) (fun e => ?_)
  rcases h3.a with ⟨h4, _⟩ | ⟨l, h4, h5⟩
  · rw [h4] at e; cases e
  · rw [h4] at e
    injection e with e1
    rw [e1, upd_not hn2, hr2] at h5; cases h5
theorem cells_list {H : Heap} {x : AV} {l : List Int} (h : ListE H x l) : x = .sl0 ∨ ∃ a n, x = .sl a 1 0 n := by
  rcases h with ⟨h, _⟩ | ⟨a, h, _⟩
  · exact .inl h
  · exact .inr ⟨a, _, h⟩
theorem do_way {H : Heap} {q : Lab} {xl xk : AV} {w : Wk} {k r : Int} (hw : WorkI H (17 :: q) xl xk .nils w) (hok : w.Ok) (h2 : H (2 :: q) = some (.rows 3 [[.nils, .int .i64 0, .nils]])) {c : Nat} (hF : Fresh q c H) (hc : 18 ≤ c) :
    k12_7 Try.prog q (VP [.cell 4 3 true, .tmp 5] (doR (keyW w k r))) (.ptr (2 :: q) 3 0 0) (.ptr (17 :: q) 4 0 0) (match keyFind k r with | some e => .fn (.func e.2.2.1) [] [] | none => .nilf) (.bool (keyFind k r).isSome) H c := by
  unfold keyW
  cases hkf : keyFind k r with
  | none =>
    have h6 := hw.s
    rcases cells_list hw.l with rfl | ⟨_, _, rfl⟩ <;> rcases cells_list hw.k with rfl | ⟨_, _, rfl⟩
    all_goals (simp (disch := omega) only [sel_t, sel_f, sel_dt, sel_df, sel_nt, sel_nf, v_lss, v_leq, v_gtr, v_geq, v_eql, v_neq, v_add, v_sub, v_not, v_min, v_max, v_pick_t, v_pick_f, v_ext0, v_ext1, v_ext2, v_len_isl, List.length_map, v_len_nils, v_len_sl0, v_len_sl, v_ix_map, v_ix_sl, v_nil_ptr, v_nil_iptr, v_fa_ptr, v_fa_iptr, cell_0, cell_s, cell_a2, cell_a3, cell_a7, cell_a10, v_load_map, v_load_r1, v_call_fn, v_call_fnS, v_load_H, ldH_one, ldH_map, v_store_H, stH_one, upd_same, upd_cons_ne, upd_nil, v_box, v_fld, eqs_nils, eqs_sl, v_eqs_ii, v_neqs_ii, sel_andt, sel_andf, sel_nandt, sel_nandf, encI, Int.toNat_natCast, lq_e, lq_r, Bool.not_true, Bool.not_false, Bool.false_eq_true, reduceIte, decide_true, decide_false, v_build_fill, v_buildS_fill, fill_nil, fill_cons, AV.cells, putL, chunk, List.length_cons, List.length_nil, Nat.reduceAdd, Nat.reduceDiv, Nat.reduceMod, List.take_succ_cons, List.take_zero, List.take_nil, List.drop_succ_cons, List.drop_zero, List.drop_nil, List.cons_append, List.nil_append, List.append_nil, List.all_cons, List.all_nil, AV.one, Nat.reduceLeDiff, and_self, and_true, true_and, Nat.zero_add, ne_eq, Nat.succ_ne_zero, not_false_eq_true, Bool.and_self, Nat.reduceEqDiff, Nat.le_refl, res12, vt12, V12, k12_4, k12_5, k12_3, k12_6, k12_9, k12_8, k12_10, k12_11, k12_13, k12_12, k12_14, k12_7, k12_15, k12_16, k12_17, k12_2, k12_18, k12_19, k12_21, k12_22, k12_23, k12_24, k12_20, k12_25, k12_1, k12_26, k12_28, k12_29, k12_30, k12_31, k12_27, k12_32, k12_0, k12_33, k12_34, k12_35, k12_36, k12_37, k12_38, v_lookup_key, Option.isSome_none, h2, h6]; refine ⟨(by (repeat' (first | exact cf_nil | exact allp_nil | refine cf_add ?_ ?_ | refine allp_add ?_ ?_)); all_goals (first | exact Or.inl rfl | exact Or.inl (by decide) | exact Or.inr ⟨by (simp (decide := true) [clash, h2] <;> assumption), by (simp (decide := true) [clash, h2] <;> assumption)⟩)), ?_⟩; exact do_end hw h2 (by intro e; cases e))
  | some e =>
    simp (disch := omega) only [sel_t, sel_f, sel_dt, sel_df, sel_nt, sel_nf, v_lss, v_leq, v_gtr, v_geq, v_eql, v_neq, v_add, v_sub, v_not, v_min, v_max, v_pick_t, v_pick_f, v_ext0, v_ext1, v_ext2, v_len_isl, List.length_map, v_len_nils, v_len_sl0, v_len_sl, v_ix_map, v_ix_sl, v_nil_ptr, v_nil_iptr, v_fa_ptr, v_fa_iptr, cell_0, cell_s, cell_a2, cell_a3, cell_a7, cell_a10, v_load_map, v_load_r1, v_call_fn, v_call_fnS, v_load_H, ldH_one, ldH_map, v_store_H, stH_one, upd_same, upd_cons_ne, upd_nil, v_box, v_fld, eqs_nils, eqs_sl, v_eqs_ii, v_neqs_ii, sel_andt, sel_andf, sel_nandt, sel_nandf, encI, Int.toNat_natCast, lq_e, lq_r, Bool.not_true, Bool.not_false, Bool.false_eq_true, reduceIte, decide_true, decide_false, v_build_fill, v_buildS_fill, fill_nil, fill_cons, AV.cells, putL, chunk, List.length_cons, List.length_nil, Nat.reduceAdd, Nat.reduceDiv, Nat.reduceMod, List.take_succ_cons, List.take_zero, List.take_nil, List.drop_succ_cons, List.drop_zero, List.drop_nil, List.cons_append, List.nil_append, List.append_nil, List.all_cons, List.all_nil, AV.one, Nat.reduceLeDiff, and_self, and_true, true_and, Nat.zero_add, ne_eq, Nat.succ_ne_zero, not_false_eq_true, Bool.and_self, Nat.reduceEqDiff, Nat.le_refl, res12, vt12, V12, k12_4, k12_5, k12_3, k12_6, k12_9, k12_8, k12_10, k12_11, k12_13, k12_12, k12_14, k12_7, k12_15, k12_16, k12_17, k12_2, k12_18, k12_19, k12_21, k12_22, k12_23, k12_24, k12_20, k12_25, k12_1, k12_26, k12_28, k12_29, k12_30, k12_31, k12_27, k12_32, k12_0, k12_33, k12_34, k12_35, k12_36, k12_37, k12_38, v_lookup_key, Option.isSome_some]
    have hkey : KeyE e.2.2.1 e.2.2.2 := keyT_ok e (List.mem_of_find?_eq_some hkf)
    refine work_call (Φ := fun H0 => KeyR H0 (17 :: q) (e.2.2.2 w)) hw h2 (hF.mono (by omega)) (by omega) (fun H0 h0 hf0 => hkey h0 hf0 hok) (fun H0 x u hx => hx) (fun x u xl' xk' xa' h3 h4 h5 => ?_)
    have h6 := h3.s
    rcases cells_list h3.l with rfl | ⟨_, _, rfl⟩ <;> rcases cells_list h3.k with rfl | ⟨_, _, rfl⟩
    all_goals (simp (disch := omega) only [sel_t, sel_f, sel_dt, sel_df, sel_nt, sel_nf, v_lss, v_leq, v_gtr, v_geq, v_eql, v_neq, v_add, v_sub, v_not, v_min, v_max, v_pick_t, v_pick_f, v_ext0, v_ext1, v_ext2, v_len_isl, List.length_map, v_len_nils, v_len_sl0, v_len_sl, v_ix_map, v_ix_sl, v_nil_ptr, v_nil_iptr, v_fa_ptr, v_fa_iptr, cell_0, cell_s, cell_a2, cell_a3, cell_a7, cell_a10, v_load_map, v_load_r1, v_call_fn, v_call_fnS, v_load_H, ldH_one, ldH_map, v_store_H, stH_one, upd_same, upd_cons_ne, upd_nil, v_box, v_fld, eqs_nils, eqs_sl, v_eqs_ii, v_neqs_ii, sel_andt, sel_andf, sel_nandt, sel_nandf, encI, Int.toNat_natCast, lq_e, lq_r, Bool.not_true, Bool.not_false, Bool.false_eq_true, reduceIte, decide_true, decide_false, v_build_fill, v_buildS_fill, fill_nil, fill_cons, AV.cells, putL, chunk, List.length_cons, List.length_nil, Nat.reduceAdd, Nat.reduceDiv, Nat.reduceMod, List.take_succ_cons, List.take_zero, List.take_nil, List.drop_succ_cons, List.drop_zero, List.drop_nil, List.cons_append, List.nil_append, List.append_nil, List.all_cons, List.all_nil, AV.one, Nat.reduceLeDiff, and_self, and_true, true_and, Nat.zero_add, ne_eq, Nat.succ_ne_zero, not_false_eq_true, Bool.and_self, Nat.reduceEqDiff, Nat.le_refl, res12, vt12, V12, k12_4, k12_5, k12_3, k12_6, k12_9, k12_8, k12_10, k12_11, k12_13, k12_12, k12_14, k12_7, k12_15, k12_16, k12_17, k12_2, k12_18, k12_19, k12_21, k12_22, k12_23, k12_24, k12_20, k12_25, k12_1, k12_26, k12_28, k12_29, k12_30, k12_31, k12_27, k12_32, k12_0, k12_33, k12_34, k12_35, k12_36, k12_37, k12_38, v_lookup_key, h4, h6]; refine ⟨(by (repeat' (first | exact cf_nil | exact allp_nil | refine cf_add ?_ ?_ | refine allp_add ?_ ?_)); all_goals (first | exact Or.inl rfl | exact Or.inl (by decide) | exact Or.inr ⟨by (simp (decide := true) [clash, h2] <;> assumption), by (simp (decide := true) [clash, h2] <;> assumption)⟩)), ?_⟩; exact do_end h3 h4 h5)
theorem WorkI.mono2 {H H' : Heap} {lw : Lab} {xl xk xa : AV} {w : Wk} (h : WorkI H lw xl xk xa w) (hk : ∀ k e rs, e ≠ 2 → H k = some (.rows e rs) → H' k = some (.rows e rs)) : WorkI H' lw xl xk xa w :=
  ⟨hk _ _ _ (by decide) h.s, h.l.mono fun _ _ _ h => hk _ _ _ (by decide) h, h.k.mono fun _ _ _ h => hk _ _ _ (by decide) h, h.a.mono' fun _ h => hk _ _ _ (by decide) h, h.ne⟩
theorem do_mid {H : Heap} {q : Lab} {xl xk : AV} {l kl : List Int} {a : Int} {k r : Int} (hw : WorkI H (17 :: q) xl xk .nils ⟨l, heldN l.length a, kl, []⟩) (hl : l.length ≤ 100000) (hkl : kl.length ≤ 100000) (h1 : H (1 :: q) = some (.rows 2 [[.int .i64 k, .int .i64 r]])) (h2 : H (2 :: q) = some (.rows 3 [[.nils, .int .i64 0, .nils]])) (hF : Fresh q 18 H) :
    vSel (.bool (!decide (k = 1))) (k12_33 Try.prog q (VP [.cell 4 3 true, .tmp 5] (doR (doS l a kl k r))) H [xl, .int .i64 (heldN l.length a), xk, .nils] [.int .i64 k, .int .i64 r] 0) (k12_35 Try.prog q (VP [.cell 4 3 true, .tmp 5] (doR (doS l a kl k r))) H [xl, .int .i64 (heldN l.length a), xk, .nils] [.int .i64 k, .int .i64 r] 0) := by
  have hwl : (⟨l, heldN l.length a, kl, []⟩ : Wk).Ok := ⟨heldN_le, by simp; omega, by simp; omega, by simp⟩
  refine sel_n (fun hk1 => ?_) (fun hk1 => ?_)
  · have hd : doS l a kl k r = keyW ⟨l, heldN l.length a, kl, []⟩ k (if k = 2 ∨ k = 3 then r else 0) := by rw [doS, if_neg (by omega)]
    rw [hd]
    generalize hr' : (if k = 2 ∨ k = 3 then r else 0) = r'
    simp (disch := omega) only [sel_t, sel_f, sel_dt, sel_df, sel_nt, sel_nf, v_lss, v_leq, v_gtr, v_geq, v_eql, v_neq, v_add, v_sub, v_not, v_min, v_max, v_pick_t, v_pick_f, v_ext0, v_ext1, v_ext2, v_len_isl, List.length_map, v_len_nils, v_len_sl0, v_len_sl, v_ix_map, v_ix_sl, v_nil_ptr, v_nil_iptr, v_fa_ptr, v_fa_iptr, cell_0, cell_s, cell_a2, cell_a3, cell_a7, cell_a10, v_load_map, v_load_r1, v_call_fn, v_call_fnS, v_load_H, ldH_one, ldH_map, v_store_H, stH_one, upd_same, upd_cons_ne, upd_nil, v_box, v_fld, eqs_nils, eqs_sl, v_eqs_ii, v_neqs_ii, sel_andt, sel_andf, sel_nandt, sel_nandf, encI, Int.toNat_natCast, lq_e, lq_r, Bool.not_true, Bool.not_false, Bool.false_eq_true, reduceIte, decide_true, decide_false, v_build_fill, v_buildS_fill, fill_nil, fill_cons, AV.cells, putL, chunk, List.length_cons, List.length_nil, Nat.reduceAdd, Nat.reduceDiv, Nat.reduceMod, List.take_succ_cons, List.take_zero, List.take_nil, List.drop_succ_cons, List.drop_zero, List.drop_nil, List.cons_append, List.nil_append, List.append_nil, List.all_cons, List.all_nil, AV.one, Nat.reduceLeDiff, and_self, and_true, true_and, Nat.zero_add, ne_eq, Nat.succ_ne_zero, not_false_eq_true, Bool.and_self, Nat.reduceEqDiff, Nat.le_refl, res12, vt12, V12, k12_4, k12_5, k12_3, k12_6, k12_9, k12_8, k12_10, k12_11, k12_13, k12_12, k12_14, k12_7, k12_15, k12_16, k12_17, k12_2, k12_18, k12_19, k12_21, k12_22, k12_23, k12_24, k12_20, k12_25, k12_1, k12_26, k12_28, k12_29, k12_30, k12_31, k12_27, k12_32, k12_0, k12_33, k12_34, k12_35, k12_36, k12_37, k12_38, v_lookup_key, h1]
    refine sel_n (fun hk2 => ?_) (fun hk2 => ?_)
    · simp (disch := omega) only [sel_t, sel_f, sel_dt, sel_df, sel_nt, sel_nf, v_lss, v_leq, v_gtr, v_geq, v_eql, v_neq, v_add, v_sub, v_not, v_min, v_max, v_pick_t, v_pick_f, v_ext0, v_ext1, v_ext2, v_len_isl, List.length_map, v_len_nils, v_len_sl0, v_len_sl, v_ix_map, v_ix_sl, v_nil_ptr, v_nil_iptr, v_fa_ptr, v_fa_iptr, cell_0, cell_s, cell_a2, cell_a3, cell_a7, cell_a10, v_load_map, v_load_r1, v_call_fn, v_call_fnS, v_load_H, ldH_one, ldH_map, v_store_H, stH_one, upd_same, upd_cons_ne, upd_nil, v_box, v_fld, eqs_nils, eqs_sl, v_eqs_ii, v_neqs_ii, sel_andt, sel_andf, sel_nandt, sel_nandf, encI, Int.toNat_natCast, lq_e, lq_r, Bool.not_true, Bool.not_false, Bool.false_eq_true, reduceIte, decide_true, decide_false, v_build_fill, v_buildS_fill, fill_nil, fill_cons, AV.cells, putL, chunk, List.length_cons, List.length_nil, Nat.reduceAdd, Nat.reduceDiv, Nat.reduceMod, List.take_succ_cons, List.take_zero, List.take_nil, List.drop_succ_cons, List.drop_zero, List.drop_nil, List.cons_append, List.nil_append, List.append_nil, List.all_cons, List.all_nil, AV.one, Nat.reduceLeDiff, and_self, and_true, true_and, Nat.zero_add, ne_eq, Nat.succ_ne_zero, not_false_eq_true, Bool.and_self, Nat.reduceEqDiff, Nat.le_refl, res12, vt12, V12, k12_4, k12_5, k12_3, k12_6, k12_9, k12_8, k12_10, k12_11, k12_13, k12_12, k12_14, k12_7, k12_15, k12_16, k12_17, k12_2, k12_18, k12_19, k12_21, k12_22, k12_23, k12_24, k12_20, k12_25, k12_1, k12_26, k12_28, k12_29, k12_30, k12_31, k12_27, k12_32, k12_0, k12_33, k12_34, k12_35, k12_36, k12_37, k12_38, v_lookup_key, h1]
      refine sel_n (fun hk3 => ?_) (fun hk3 => ?_)
      · rw [if_neg (by omega)] at hr'
        subst hr'
        simp (disch := omega) only [sel_t, sel_f, sel_dt, sel_df, sel_nt, sel_nf, v_lss, v_leq, v_gtr, v_geq, v_eql, v_neq, v_add, v_sub, v_not, v_min, v_max, v_pick_t, v_pick_f, v_ext0, v_ext1, v_ext2, v_len_isl, List.length_map, v_len_nils, v_len_sl0, v_len_sl, v_ix_map, v_ix_sl, v_nil_ptr, v_nil_iptr, v_fa_ptr, v_fa_iptr, cell_0, cell_s, cell_a2, cell_a3, cell_a7, cell_a10, v_load_map, v_load_r1, v_call_fn, v_call_fnS, v_load_H, ldH_one, ldH_map, v_store_H, stH_one, upd_same, upd_cons_ne, upd_nil, v_box, v_fld, eqs_nils, eqs_sl, v_eqs_ii, v_neqs_ii, sel_andt, sel_andf, sel_nandt, sel_nandf, encI, Int.toNat_natCast, lq_e, lq_r, Bool.not_true, Bool.not_false, Bool.false_eq_true, reduceIte, decide_true, decide_false, v_build_fill, v_buildS_fill, fill_nil, fill_cons, AV.cells, putL, chunk, List.length_cons, List.length_nil, Nat.reduceAdd, Nat.reduceDiv, Nat.reduceMod, List.take_succ_cons, List.take_zero, List.take_nil, List.drop_succ_cons, List.drop_zero, List.drop_nil, List.cons_append, List.nil_append, List.append_nil, List.all_cons, List.all_nil, AV.one, Nat.reduceLeDiff, and_self, and_true, true_and, Nat.zero_add, ne_eq, Nat.succ_ne_zero, not_false_eq_true, Bool.and_self, Nat.reduceEqDiff, Nat.le_refl, res12, vt12, V12, k12_4, k12_5, k12_3, k12_6, k12_9, k12_8, k12_10, k12_11, k12_13, k12_12, k12_14, k12_7, k12_15, k12_16, k12_17, k12_2, k12_18, k12_19, k12_21, k12_22, k12_23, k12_24, k12_20, k12_25, k12_1, k12_26, k12_28, k12_29, k12_30, k12_31, k12_27, k12_32, k12_0, k12_33, k12_34, k12_35, k12_36, k12_37, k12_38, v_lookup_key, h1]
        refine call_res_gen ways_sound ((hF.old (o := some (.rows 2 [[.int .i64 k, .int .i64 0]])) (l := 1 :: q) (by rw [h1]; simp)).mono (by omega)) (fun H2 hH2 hF2 => ?_)
        have hb := by have := hH2 (3 :: 37 :: q); rwa [upd_same] at this
        have h1' : H2 (1 :: q) = some (.rows 2 [[.int .i64 k, .int .i64 0]]) := by rw [hH2, upd_ne (by simp), upd_nil, upd_same]
        have hot : ∀ j o, H j = some o → j ≠ 1 :: q → H2 j = some o := fun j o h hn => by
          rw [hH2, upd_ne (fun e => by rw [e, show H (3 :: 37 :: q) = none from hF 37 [3] (by omega)] at h; cases h), upd_nil, upd_ne hn]; exact h
        clear hH2
        have way := fun (c : Nat) (hF : Fresh q c H2) (hc : 18 ≤ c) => do_way (H := H2) (k := k) (r := 0) (hw.mono2 fun j e rs he hj => hot _ _ hj (fun e' => by rw [e', h1] at hj; cases hj; exact he rfl)) hwl (hot _ _ h2 (by simp)) hF hc
        cases hkf : keyFind k 0 with
        | none =>
          rw [hkf] at way
          simp (disch := omega) only [sel_t, sel_f, sel_dt, sel_df, sel_nt, sel_nf, v_lss, v_leq, v_gtr, v_geq, v_eql, v_neq, v_add, v_sub, v_not, v_min, v_max, v_pick_t, v_pick_f, v_ext0, v_ext1, v_ext2, v_len_isl, List.length_map, v_len_nils, v_len_sl0, v_len_sl, v_ix_map, v_ix_sl, v_nil_ptr, v_nil_iptr, v_fa_ptr, v_fa_iptr, cell_0, cell_s, cell_a2, cell_a3, cell_a7, cell_a10, v_load_map, v_load_r1, v_call_fn, v_call_fnS, v_load_H, ldH_one, ldH_map, v_store_H, stH_one, upd_same, upd_cons_ne, upd_nil, v_box, v_fld, eqs_nils, eqs_sl, v_eqs_ii, v_neqs_ii, sel_andt, sel_andf, sel_nandt, sel_nandf, encI, Int.toNat_natCast, lq_e, lq_r, Bool.not_true, Bool.not_false, Bool.false_eq_true, reduceIte, decide_true, decide_false, v_build_fill, v_buildS_fill, fill_nil, fill_cons, AV.cells, putL, chunk, List.length_cons, List.length_nil, Nat.reduceAdd, Nat.reduceDiv, Nat.reduceMod, List.take_succ_cons, List.take_zero, List.take_nil, List.drop_succ_cons, List.drop_zero, List.drop_nil, List.cons_append, List.nil_append, List.append_nil, List.all_cons, List.all_nil, AV.one, Nat.reduceLeDiff, and_self, and_true, true_and, Nat.zero_add, ne_eq, Nat.succ_ne_zero, not_false_eq_true, Bool.and_self, Nat.reduceEqDiff, Nat.le_refl, res12, vt12, V12, k12_4, k12_5, k12_3, k12_6, k12_9, k12_8, k12_10, k12_11, k12_13, k12_12, k12_14, k12_7, k12_15, k12_16, k12_17, k12_2, k12_18, k12_19, k12_21, k12_22, k12_23, k12_24, k12_20, k12_25, k12_1, k12_26, k12_28, k12_29, k12_30, k12_31, k12_27, k12_32, k12_0, k12_33, k12_34, k12_35, k12_36, k12_37, k12_38, v_lookup_key, h1', hb, hkf]
          refine ⟨(by (repeat' (first | exact cf_nil | exact allp_nil | refine cf_add ?_ ?_ | refine allp_add ?_ ?_)); all_goals (first | exact Or.inl rfl | exact Or.inl (by decide) | exact Or.inr ⟨by (simp (decide := true) [clash, h2] <;> assumption), by (simp (decide := true) [clash, h2] <;> assumption)⟩)), ?_⟩
          have w := way 45 (hF2.mono (by omega)) (by decide)
          simp (disch := omega) only [sel_t, sel_f, sel_dt, sel_df, sel_nt, sel_nf, v_lss, v_leq, v_gtr, v_geq, v_eql, v_neq, v_add, v_sub, v_not, v_min, v_max, v_pick_t, v_pick_f, v_ext0, v_ext1, v_ext2, v_len_isl, List.length_map, v_len_nils, v_len_sl0, v_len_sl, v_ix_map, v_ix_sl, v_nil_ptr, v_nil_iptr, v_fa_ptr, v_fa_iptr, cell_0, cell_s, cell_a2, cell_a3, cell_a7, cell_a10, v_load_map, v_load_r1, v_call_fn, v_call_fnS, v_load_H, ldH_one, ldH_map, v_store_H, stH_one, upd_same, upd_cons_ne, upd_nil, v_box, v_fld, eqs_nils, eqs_sl, v_eqs_ii, v_neqs_ii, sel_andt, sel_andf, sel_nandt, sel_nandf, encI, Int.toNat_natCast, lq_e, lq_r, Bool.not_true, Bool.not_false, Bool.false_eq_true, reduceIte, decide_true, decide_false, v_build_fill, v_buildS_fill, fill_nil, fill_cons, AV.cells, putL, chunk, List.length_cons, List.length_nil, Nat.reduceAdd, Nat.reduceDiv, Nat.reduceMod, List.take_succ_cons, List.take_zero, List.take_nil, List.drop_succ_cons, List.drop_zero, List.drop_nil, List.cons_append, List.nil_append, List.append_nil, List.all_cons, List.all_nil, AV.one, Nat.reduceLeDiff, and_self, and_true, true_and, Nat.zero_add, ne_eq, Nat.succ_ne_zero, not_false_eq_true, Bool.and_self, Nat.reduceEqDiff, Nat.le_refl, res12, vt12, V12, k12_4, k12_5, k12_3, k12_6, k12_9, k12_8, k12_10, k12_11, k12_13, k12_12, k12_14, k12_7, k12_15, k12_16, k12_17, k12_2, k12_18, k12_19, k12_21, k12_22, k12_23, k12_24, k12_20, k12_25, k12_1, k12_26, k12_28, k12_29, k12_30, k12_31, k12_27, k12_32, k12_0, k12_33, k12_34, k12_35, k12_36, k12_37, k12_38, v_lookup_key, Option.isSome_none, Option.isSome_some] at w
          exact w
        | some e =>
          rw [hkf] at way
          simp (disch := omega) only [sel_t, sel_f, sel_dt, sel_df, sel_nt, sel_nf, v_lss, v_leq, v_gtr, v_geq, v_eql, v_neq, v_add, v_sub, v_not, v_min, v_max, v_pick_t, v_pick_f, v_ext0, v_ext1, v_ext2, v_len_isl, List.length_map, v_len_nils, v_len_sl0, v_len_sl, v_ix_map, v_ix_sl, v_nil_ptr, v_nil_iptr, v_fa_ptr, v_fa_iptr, cell_0, cell_s, cell_a2, cell_a3, cell_a7, cell_a10, v_load_map, v_load_r1, v_call_fn, v_call_fnS, v_load_H, ldH_one, ldH_map, v_store_H, stH_one, upd_same, upd_cons_ne, upd_nil, v_box, v_fld, eqs_nils, eqs_sl, v_eqs_ii, v_neqs_ii, sel_andt, sel_andf, sel_nandt, sel_nandf, encI, Int.toNat_natCast, lq_e, lq_r, Bool.not_true, Bool.not_false, Bool.false_eq_true, reduceIte, decide_true, decide_false, v_build_fill, v_buildS_fill, fill_nil, fill_cons, AV.cells, putL, chunk, List.length_cons, List.length_nil, Nat.reduceAdd, Nat.reduceDiv, Nat.reduceMod, List.take_succ_cons, List.take_zero, List.take_nil, List.drop_succ_cons, List.drop_zero, List.drop_nil, List.cons_append, List.nil_append, List.append_nil, List.all_cons, List.all_nil, AV.one, Nat.reduceLeDiff, and_self, and_true, true_and, Nat.zero_add, ne_eq, Nat.succ_ne_zero, not_false_eq_true, Bool.and_self, Nat.reduceEqDiff, Nat.le_refl, res12, vt12, V12, k12_4, k12_5, k12_3, k12_6, k12_9, k12_8, k12_10, k12_11, k12_13, k12_12, k12_14, k12_7, k12_15, k12_16, k12_17, k12_2, k12_18, k12_19, k12_21, k12_22, k12_23, k12_24, k12_20, k12_25, k12_1, k12_26, k12_28, k12_29, k12_30, k12_31, k12_27, k12_32, k12_0, k12_33, k12_34, k12_35, k12_36, k12_37, k12_38, v_lookup_key, h1', hb, hkf]
          refine ⟨(by (repeat' (first | exact cf_nil | exact allp_nil | refine cf_add ?_ ?_ | refine allp_add ?_ ?_)); all_goals (first | exact Or.inl rfl | exact Or.inl (by decide) | exact Or.inr ⟨by (simp (decide := true) [clash, h2] <;> assumption), by (simp (decide := true) [clash, h2] <;> assumption)⟩)), ?_⟩
          have w := way 45 (hF2.mono (by omega)) (by decide)
          simp (disch := omega) only [sel_t, sel_f, sel_dt, sel_df, sel_nt, sel_nf, v_lss, v_leq, v_gtr, v_geq, v_eql, v_neq, v_add, v_sub, v_not, v_min, v_max, v_pick_t, v_pick_f, v_ext0, v_ext1, v_ext2, v_len_isl, List.length_map, v_len_nils, v_len_sl0, v_len_sl, v_ix_map, v_ix_sl, v_nil_ptr, v_nil_iptr, v_fa_ptr, v_fa_iptr, cell_0, cell_s, cell_a2, cell_a3, cell_a7, cell_a10, v_load_map, v_load_r1, v_call_fn, v_call_fnS, v_load_H, ldH_one, ldH_map, v_store_H, stH_one, upd_same, upd_cons_ne, upd_nil, v_box, v_fld, eqs_nils, eqs_sl, v_eqs_ii, v_neqs_ii, sel_andt, sel_andf, sel_nandt, sel_nandf, encI, Int.toNat_natCast, lq_e, lq_r, Bool.not_true, Bool.not_false, Bool.false_eq_true, reduceIte, decide_true, decide_false, v_build_fill, v_buildS_fill, fill_nil, fill_cons, AV.cells, putL, chunk, List.length_cons, List.length_nil, Nat.reduceAdd, Nat.reduceDiv, Nat.reduceMod, List.take_succ_cons, List.take_zero, List.take_nil, List.drop_succ_cons, List.drop_zero, List.drop_nil, List.cons_append, List.nil_append, List.append_nil, List.all_cons, List.all_nil, AV.one, Nat.reduceLeDiff, and_self, and_true, true_and, Nat.zero_add, ne_eq, Nat.succ_ne_zero, not_false_eq_true, Bool.and_self, Nat.reduceEqDiff, Nat.le_refl, res12, vt12, V12, k12_4, k12_5, k12_3, k12_6, k12_9, k12_8, k12_10, k12_11, k12_13, k12_12, k12_14, k12_7, k12_15, k12_16, k12_17, k12_2, k12_18, k12_19, k12_21, k12_22, k12_23, k12_24, k12_20, k12_25, k12_1, k12_26, k12_28, k12_29, k12_30, k12_31, k12_27, k12_32, k12_0, k12_33, k12_34, k12_35, k12_36, k12_37, k12_38, v_lookup_key, Option.isSome_none, Option.isSome_some] at w
          exact w
      · rw [if_pos (by omega)] at hr'
        subst hr'
        simp (disch := omega) only [sel_t, sel_f, sel_dt, sel_df, sel_nt, sel_nf, v_lss, v_leq, v_gtr, v_geq, v_eql, v_neq, v_add, v_sub, v_not, v_min, v_max, v_pick_t, v_pick_f, v_ext0, v_ext1, v_ext2, v_len_isl, List.length_map, v_len_nils, v_len_sl0, v_len_sl, v_ix_map, v_ix_sl, v_nil_ptr, v_nil_iptr, v_fa_ptr, v_fa_iptr, cell_0, cell_s, cell_a2, cell_a3, cell_a7, cell_a10, v_load_map, v_load_r1, v_call_fn, v_call_fnS, v_load_H, ldH_one, ldH_map, v_store_H, stH_one, upd_same, upd_cons_ne, upd_nil, v_box, v_fld, eqs_nils, eqs_sl, v_eqs_ii, v_neqs_ii, sel_andt, sel_andf, sel_nandt, sel_nandf, encI, Int.toNat_natCast, lq_e, lq_r, Bool.not_true, Bool.not_false, Bool.false_eq_true, reduceIte, decide_true, decide_false, v_build_fill, v_buildS_fill, fill_nil, fill_cons, AV.cells, putL, chunk, List.length_cons, List.length_nil, Nat.reduceAdd, Nat.reduceDiv, Nat.reduceMod, List.take_succ_cons, List.take_zero, List.take_nil, List.drop_succ_cons, List.drop_zero, List.drop_nil, List.cons_append, List.nil_append, List.append_nil, List.all_cons, List.all_nil, AV.one, Nat.reduceLeDiff, and_self, and_true, true_and, Nat.zero_add, ne_eq, Nat.succ_ne_zero, not_false_eq_true, Bool.and_self, Nat.reduceEqDiff, Nat.le_refl, res12, vt12, V12, k12_4, k12_5, k12_3, k12_6, k12_9, k12_8, k12_10, k12_11, k12_13, k12_12, k12_14, k12_7, k12_15, k12_16, k12_17, k12_2, k12_18, k12_19, k12_21, k12_22, k12_23, k12_24, k12_20, k12_25, k12_1, k12_26, k12_28, k12_29, k12_30, k12_31, k12_27, k12_32, k12_0, k12_33, k12_34, k12_35, k12_36, k12_37, k12_38, v_lookup_key, h1]
        refine call_res_gen ways_sound (hF.mono (by omega)) (fun H2 hH2 hF2 => ?_)
        have hb := by have := hH2 (3 :: 35 :: q); rwa [upd_same] at this
        have hot : ∀ j o, H j = some o → H2 j = some o := fun j o h => by
          rw [hH2, upd_ne (fun e => by rw [e, show H (3 :: 35 :: q) = none from hF 35 [3] (by omega)] at h; cases h), upd_nil]; exact h
        clear hH2
        have h1' := hot _ _ h1
        have way := fun (c : Nat) (hF : Fresh q c H2) (hc : 18 ≤ c) => do_way (H := H2) (k := k) (r := r) (hw.mono2 fun j e rs he hj => hot _ _ hj) hwl (hot _ _ h2) hF hc
        cases hkf : keyFind k r with
        | none =>
          rw [hkf] at way
          simp (disch := omega) only [sel_t, sel_f, sel_dt, sel_df, sel_nt, sel_nf, v_lss, v_leq, v_gtr, v_geq, v_eql, v_neq, v_add, v_sub, v_not, v_min, v_max, v_pick_t, v_pick_f, v_ext0, v_ext1, v_ext2, v_len_isl, List.length_map, v_len_nils, v_len_sl0, v_len_sl, v_ix_map, v_ix_sl, v_nil_ptr, v_nil_iptr, v_fa_ptr, v_fa_iptr, cell_0, cell_s, cell_a2, cell_a3, cell_a7, cell_a10, v_load_map, v_load_r1, v_call_fn, v_call_fnS, v_load_H, ldH_one, ldH_map, v_store_H, stH_one, upd_same, upd_cons_ne, upd_nil, v_box, v_fld, eqs_nils, eqs_sl, v_eqs_ii, v_neqs_ii, sel_andt, sel_andf, sel_nandt, sel_nandf, encI, Int.toNat_natCast, lq_e, lq_r, Bool.not_true, Bool.not_false, Bool.false_eq_true, reduceIte, decide_true, decide_false, v_build_fill, v_buildS_fill, fill_nil, fill_cons, AV.cells, putL, chunk, List.length_cons, List.length_nil, Nat.reduceAdd, Nat.reduceDiv, Nat.reduceMod, List.take_succ_cons, List.take_zero, List.take_nil, List.drop_succ_cons, List.drop_zero, List.drop_nil, List.cons_append, List.nil_append, List.append_nil, List.all_cons, List.all_nil, AV.one, Nat.reduceLeDiff, and_self, and_true, true_and, Nat.zero_add, ne_eq, Nat.succ_ne_zero, not_false_eq_true, Bool.and_self, Nat.reduceEqDiff, Nat.le_refl, res12, vt12, V12, k12_4, k12_5, k12_3, k12_6, k12_9, k12_8, k12_10, k12_11, k12_13, k12_12, k12_14, k12_7, k12_15, k12_16, k12_17, k12_2, k12_18, k12_19, k12_21, k12_22, k12_23, k12_24, k12_20, k12_25, k12_1, k12_26, k12_28, k12_29, k12_30, k12_31, k12_27, k12_32, k12_0, k12_33, k12_34, k12_35, k12_36, k12_37, k12_38, v_lookup_key, h1', hb, hkf]
          refine ⟨(by (repeat' (first | exact cf_nil | exact allp_nil | refine cf_add ?_ ?_ | refine allp_add ?_ ?_)); all_goals (first | exact Or.inl rfl | exact Or.inl (by decide) | exact Or.inr ⟨by (simp (decide := true) [clash, h2] <;> assumption), by (simp (decide := true) [clash, h2] <;> assumption)⟩)), ?_⟩
          have w := way 43 (hF2.mono (by omega)) (by decide)
          simp (disch := omega) only [sel_t, sel_f, sel_dt, sel_df, sel_nt, sel_nf, v_lss, v_leq, v_gtr, v_geq, v_eql, v_neq, v_add, v_sub, v_not, v_min, v_max, v_pick_t, v_pick_f, v_ext0, v_ext1, v_ext2, v_len_isl, List.length_map, v_len_nils, v_len_sl0, v_len_sl, v_ix_map, v_ix_sl, v_nil_ptr, v_nil_iptr, v_fa_ptr, v_fa_iptr, cell_0, cell_s, cell_a2, cell_a3, cell_a7, cell_a10, v_load_map, v_load_r1, v_call_fn, v_call_fnS, v_load_H, ldH_one, ldH_map, v_store_H, stH_one, upd_same, upd_cons_ne, upd_nil, v_box, v_fld, eqs_nils, eqs_sl, v_eqs_ii, v_neqs_ii, sel_andt, sel_andf, sel_nandt, sel_nandf, encI, Int.toNat_natCast, lq_e, lq_r, Bool.not_true, Bool.not_false, Bool.false_eq_true, reduceIte, decide_true, decide_false, v_build_fill, v_buildS_fill, fill_nil, fill_cons, AV.cells, putL, chunk, List.length_cons, List.length_nil, Nat.reduceAdd, Nat.reduceDiv, Nat.reduceMod, List.take_succ_cons, List.take_zero, List.take_nil, List.drop_succ_cons, List.drop_zero, List.drop_nil, List.cons_append, List.nil_append, List.append_nil, List.all_cons, List.all_nil, AV.one, Nat.reduceLeDiff, and_self, and_true, true_and, Nat.zero_add, ne_eq, Nat.succ_ne_zero, not_false_eq_true, Bool.and_self, Nat.reduceEqDiff, Nat.le_refl, res12, vt12, V12, k12_4, k12_5, k12_3, k12_6, k12_9, k12_8, k12_10, k12_11, k12_13, k12_12, k12_14, k12_7, k12_15, k12_16, k12_17, k12_2, k12_18, k12_19, k12_21, k12_22, k12_23, k12_24, k12_20, k12_25, k12_1, k12_26, k12_28, k12_29, k12_30, k12_31, k12_27, k12_32, k12_0, k12_33, k12_34, k12_35, k12_36, k12_37, k12_38, v_lookup_key, Option.isSome_none, Option.isSome_some] at w
          exact w
        | some e =>
          rw [hkf] at way
          simp (disch := omega) only [sel_t, sel_f, sel_dt, sel_df, sel_nt, sel_nf, v_lss, v_leq, v_gtr, v_geq, v_eql, v_neq, v_add, v_sub, v_not, v_min, v_max, v_pick_t, v_pick_f, v_ext0, v_ext1, v_ext2, v_len_isl, List.length_map, v_len_nils, v_len_sl0, v_len_sl, v_ix_map, v_ix_sl, v_nil_ptr, v_nil_iptr, v_fa_ptr, v_fa_iptr, cell_0, cell_s, cell_a2, cell_a3, cell_a7, cell_a10, v_load_map, v_load_r1, v_call_fn, v_call_fnS, v_load_H, ldH_one, ldH_map, v_store_H, stH_one, upd_same, upd_cons_ne, upd_nil, v_box, v_fld, eqs_nils, eqs_sl, v_eqs_ii, v_neqs_ii, sel_andt, sel_andf, sel_nandt, sel_nandf, encI, Int.toNat_natCast, lq_e, lq_r, Bool.not_true, Bool.not_false, Bool.false_eq_true, reduceIte, decide_true, decide_false, v_build_fill, v_buildS_fill, fill_nil, fill_cons, AV.cells, putL, chunk, List.length_cons, List.length_nil, Nat.reduceAdd, Nat.reduceDiv, Nat.reduceMod, List.take_succ_cons, List.take_zero, List.take_nil, List.drop_succ_cons, List.drop_zero, List.drop_nil, List.cons_append, List.nil_append, List.append_nil, List.all_cons, List.all_nil, AV.one, Nat.reduceLeDiff, and_self, and_true, true_and, Nat.zero_add, ne_eq, Nat.succ_ne_zero, not_false_eq_true, Bool.and_self, Nat.reduceEqDiff, Nat.le_refl, res12, vt12, V12, k12_4, k12_5, k12_3, k12_6, k12_9, k12_8, k12_10, k12_11, k12_13, k12_12, k12_14, k12_7, k12_15, k12_16, k12_17, k12_2, k12_18, k12_19, k12_21, k12_22, k12_23, k12_24, k12_20, k12_25, k12_1, k12_26, k12_28, k12_29, k12_30, k12_31, k12_27, k12_32, k12_0, k12_33, k12_34, k12_35, k12_36, k12_37, k12_38, v_lookup_key, h1', hb, hkf]
          refine ⟨(by (repeat' (first | exact cf_nil | exact allp_nil | refine cf_add ?_ ?_ | refine allp_add ?_ ?_)); all_goals (first | exact Or.inl rfl | exact Or.inl (by decide) | exact Or.inr ⟨by (simp (decide := true) [clash, h2] <;> assumption), by (simp (decide := true) [clash, h2] <;> assumption)⟩)), ?_⟩
          have w := way 43 (hF2.mono (by omega)) (by decide)
          simp (disch := omega) only [sel_t, sel_f, sel_dt, sel_df, sel_nt, sel_nf, v_lss, v_leq, v_gtr, v_geq, v_eql, v_neq, v_add, v_sub, v_not, v_min, v_max, v_pick_t, v_pick_f, v_ext0, v_ext1, v_ext2, v_len_isl, List.length_map, v_len_nils, v_len_sl0, v_len_sl, v_ix_map, v_ix_sl, v_nil_ptr, v_nil_iptr, v_fa_ptr, v_fa_iptr, cell_0, cell_s, cell_a2, cell_a3, cell_a7, cell_a10, v_load_map, v_load_r1, v_call_fn, v_call_fnS, v_load_H, ldH_one, ldH_map, v_store_H, stH_one, upd_same, upd_cons_ne, upd_nil, v_box, v_fld, eqs_nils, eqs_sl, v_eqs_ii, v_neqs_ii, sel_andt, sel_andf, sel_nandt, sel_nandf, encI, Int.toNat_natCast, lq_e, lq_r, Bool.not_true, Bool.not_false, Bool.false_eq_true, reduceIte, decide_true, decide_false, v_build_fill, v_buildS_fill, fill_nil, fill_cons, AV.cells, putL, chunk, List.length_cons, List.length_nil, Nat.reduceAdd, Nat.reduceDiv, Nat.reduceMod, List.take_succ_cons, List.take_zero, List.take_nil, List.drop_succ_cons, List.drop_zero, List.drop_nil, List.cons_append, List.nil_append, List.append_nil, List.all_cons, List.all_nil, AV.one, Nat.reduceLeDiff, and_self, and_true, true_and, Nat.zero_add, ne_eq, Nat.succ_ne_zero, not_false_eq_true, Bool.and_self, Nat.reduceEqDiff, Nat.le_refl, res12, vt12, V12, k12_4, k12_5, k12_3, k12_6, k12_9, k12_8, k12_10, k12_11, k12_13, k12_12, k12_14, k12_7, k12_15, k12_16, k12_17, k12_2, k12_18, k12_19, k12_21, k12_22, k12_23, k12_24, k12_20, k12_25, k12_1, k12_26, k12_28, k12_29, k12_30, k12_31, k12_27, k12_32, k12_0, k12_33, k12_34, k12_35, k12_36, k12_37, k12_38, v_lookup_key, Option.isSome_none, Option.isSome_some] at w
          exact w
    · rw [if_pos (by omega)] at hr'
      subst hr'
      simp (disch := omega) only [sel_t, sel_f, sel_dt, sel_df, sel_nt, sel_nf, v_lss, v_leq, v_gtr, v_geq, v_eql, v_neq, v_add, v_sub, v_not, v_min, v_max, v_pick_t, v_pick_f, v_ext0, v_ext1, v_ext2, v_len_isl, List.length_map, v_len_nils, v_len_sl0, v_len_sl, v_ix_map, v_ix_sl, v_nil_ptr, v_nil_iptr, v_fa_ptr, v_fa_iptr, cell_0, cell_s, cell_a2, cell_a3, cell_a7, cell_a10, v_load_map, v_load_r1, v_call_fn, v_call_fnS, v_load_H, ldH_one, ldH_map, v_store_H, stH_one, upd_same, upd_cons_ne, upd_nil, v_box, v_fld, eqs_nils, eqs_sl, v_eqs_ii, v_neqs_ii, sel_andt, sel_andf, sel_nandt, sel_nandf, encI, Int.toNat_natCast, lq_e, lq_r, Bool.not_true, Bool.not_false, Bool.false_eq_true, reduceIte, decide_true, decide_false, v_build_fill, v_buildS_fill, fill_nil, fill_cons, AV.cells, putL, chunk, List.length_cons, List.length_nil, Nat.reduceAdd, Nat.reduceDiv, Nat.reduceMod, List.take_succ_cons, List.take_zero, List.take_nil, List.drop_succ_cons, List.drop_zero, List.drop_nil, List.cons_append, List.nil_append, List.append_nil, List.all_cons, List.all_nil, AV.one, Nat.reduceLeDiff, and_self, and_true, true_and, Nat.zero_add, ne_eq, Nat.succ_ne_zero, not_false_eq_true, Bool.and_self, Nat.reduceEqDiff, Nat.le_refl, res12, vt12, V12, k12_4, k12_5, k12_3, k12_6, k12_9, k12_8, k12_10, k12_11, k12_13, k12_12, k12_14, k12_7, k12_15, k12_16, k12_17, k12_2, k12_18, k12_19, k12_21, k12_22, k12_23, k12_24, k12_20, k12_25, k12_1, k12_26, k12_28, k12_29, k12_30, k12_31, k12_27, k12_32, k12_0, k12_33, k12_34, k12_35, k12_36, k12_37, k12_38, v_lookup_key, h1]
      refine call_res_gen ways_sound (hF.mono (by omega)) (fun H2 hH2 hF2 => ?_)
      have hb := by have := hH2 (3 :: 35 :: q); rwa [upd_same] at this
      have hot : ∀ j o, H j = some o → H2 j = some o := fun j o h => by
        rw [hH2, upd_ne (fun e => by rw [e, show H (3 :: 35 :: q) = none from hF 35 [3] (by omega)] at h; cases h), upd_nil]; exact h
      clear hH2
      have h1' := hot _ _ h1
      have way := fun (c : Nat) (hF : Fresh q c H2) (hc : 18 ≤ c) => do_way (H := H2) (k := k) (r := r) (hw.mono2 fun j e rs he hj => hot _ _ hj) hwl (hot _ _ h2) hF hc
      cases hkf : keyFind k r with
      | none =>
        rw [hkf] at way
        simp (disch := omega) only [sel_t, sel_f, sel_dt, sel_df, sel_nt, sel_nf, v_lss, v_leq, v_gtr, v_geq, v_eql, v_neq, v_add, v_sub, v_not, v_min, v_max, v_pick_t, v_pick_f, v_ext0, v_ext1, v_ext2, v_len_isl, List.length_map, v_len_nils, v_len_sl0, v_len_sl, v_ix_map, v_ix_sl, v_nil_ptr, v_nil_iptr, v_fa_ptr, v_fa_iptr, cell_0, cell_s, cell_a2, cell_a3, cell_a7, cell_a10, v_load_map, v_load_r1, v_call_fn, v_call_fnS, v_load_H, ldH_one, ldH_map, v_store_H, stH_one, upd_same, upd_cons_ne, upd_nil, v_box, v_fld, eqs_nils, eqs_sl, v_eqs_ii, v_neqs_ii, sel_andt, sel_andf, sel_nandt, sel_nandf, encI, Int.toNat_natCast, lq_e, lq_r, Bool.not_true, Bool.not_false, Bool.false_eq_true, reduceIte, decide_true, decide_false, v_build_fill, v_buildS_fill, fill_nil, fill_cons, AV.cells, putL, chunk, List.length_cons, List.length_nil, Nat.reduceAdd, Nat.reduceDiv, Nat.reduceMod, List.take_succ_cons, List.take_zero, List.take_nil, List.drop_succ_cons, List.drop_zero, List.drop_nil, List.cons_append, List.nil_append, List.append_nil, List.all_cons, List.all_nil, AV.one, Nat.reduceLeDiff, and_self, and_true, true_and, Nat.zero_add, ne_eq, Nat.succ_ne_zero, not_false_eq_true, Bool.and_self, Nat.reduceEqDiff, Nat.le_refl, res12, vt12, V12, k12_4, k12_5, k12_3, k12_6, k12_9, k12_8, k12_10, k12_11, k12_13, k12_12, k12_14, k12_7, k12_15, k12_16, k12_17, k12_2, k12_18, k12_19, k12_21, k12_22, k12_23, k12_24, k12_20, k12_25, k12_1, k12_26, k12_28, k12_29, k12_30, k12_31, k12_27, k12_32, k12_0, k12_33, k12_34, k12_35, k12_36, k12_37, k12_38, v_lookup_key, h1', hb, hkf]
        refine ⟨(by (repeat' (first | exact cf_nil | exact allp_nil | refine cf_add ?_ ?_ | refine allp_add ?_ ?_)); all_goals (first | exact Or.inl rfl | exact Or.inl (by decide) | exact Or.inr ⟨by (simp (decide := true) [clash, h2] <;> assumption), by (simp (decide := true) [clash, h2] <;> assumption)⟩)), ?_⟩
        have w := way 43 (hF2.mono (by omega)) (by decide)
        simp (disch := omega) only [sel_t, sel_f, sel_dt, sel_df, sel_nt, sel_nf, v_lss, v_leq, v_gtr, v_geq, v_eql, v_neq, v_add, v_sub, v_not, v_min, v_max, v_pick_t, v_pick_f, v_ext0, v_ext1, v_ext2, v_len_isl, List.length_map, v_len_nils, v_len_sl0, v_len_sl, v_ix_map, v_ix_sl, v_nil_ptr, v_nil_iptr, v_fa_ptr, v_fa_iptr, cell_0, cell_s, cell_a2, cell_a3, cell_a7, cell_a10, v_load_map, v_load_r1, v_call_fn, v_call_fnS, v_load_H, ldH_one, ldH_map, v_store_H, stH_one, upd_same, upd_cons_ne, upd_nil, v_box, v_fld, eqs_nils, eqs_sl, v_eqs_ii, v_neqs_ii, sel_andt, sel_andf, sel_nandt, sel_nandf, encI, Int.toNat_natCast, lq_e, lq_r, Bool.not_true, Bool.not_false, Bool.false_eq_true, reduceIte, decide_true, decide_false, v_build_fill, v_buildS_fill, fill_nil, fill_cons, AV.cells, putL, chunk, List.length_cons, List.length_nil, Nat.reduceAdd, Nat.reduceDiv, Nat.reduceMod, List.take_succ_cons, List.take_zero, List.take_nil, List.drop_succ_cons, List.drop_zero, List.drop_nil, List.cons_append, List.nil_append, List.append_nil, List.all_cons, List.all_nil, AV.one, Nat.reduceLeDiff, and_self, and_true, true_and, Nat.zero_add, ne_eq, Nat.succ_ne_zero, not_false_eq_true, Bool.and_self, Nat.reduceEqDiff, Nat.le_refl, res12, vt12, V12, k12_4, k12_5, k12_3, k12_6, k12_9, k12_8, k12_10, k12_11, k12_13, k12_12, k12_14, k12_7, k12_15, k12_16, k12_17, k12_2, k12_18, k12_19, k12_21, k12_22, k12_23, k12_24, k12_20, k12_25, k12_1, k12_26, k12_28, k12_29, k12_30, k12_31, k12_27, k12_32, k12_0, k12_33, k12_34, k12_35, k12_36, k12_37, k12_38, v_lookup_key, Option.isSome_none, Option.isSome_some] at w
        exact w
      | some e =>
        rw [hkf] at way
        simp (disch := omega) only [sel_t, sel_f, sel_dt, sel_df, sel_nt, sel_nf, v_lss, v_leq, v_gtr, v_geq, v_eql, v_neq, v_add, v_sub, v_not, v_min, v_max, v_pick_t, v_pick_f, v_ext0, v_ext1, v_ext2, v_len_isl, List.length_map, v_len_nils, v_len_sl0, v_len_sl, v_ix_map, v_ix_sl, v_nil_ptr, v_nil_iptr, v_fa_ptr, v_fa_iptr, cell_0, cell_s, cell_a2, cell_a3, cell_a7, cell_a10, v_load_map, v_load_r1, v_call_fn, v_call_fnS, v_load_H, ldH_one, ldH_map, v_store_H, stH_one, upd_same, upd_cons_ne, upd_nil, v_box, v_fld, eqs_nils, eqs_sl, v_eqs_ii, v_neqs_ii, sel_andt, sel_andf, sel_nandt, sel_nandf, encI, Int.toNat_natCast, lq_e, lq_r, Bool.not_true, Bool.not_false, Bool.false_eq_true, reduceIte, decide_true, decide_false, v_build_fill, v_buildS_fill, fill_nil, fill_cons, AV.cells, putL, chunk, List.length_cons, List.length_nil, Nat.reduceAdd, Nat.reduceDiv, Nat.reduceMod, List.take_succ_cons, List.take_zero, List.take_nil, List.drop_succ_cons, List.drop_zero, List.drop_nil, List.cons_append, List.nil_append, List.append_nil, List.all_cons, List.all_nil, AV.one, Nat.reduceLeDiff, and_self, and_true, true_and, Nat.zero_add, ne_eq, Nat.succ_ne_zero, not_false_eq_true, Bool.and_self, Nat.reduceEqDiff, Nat.le_refl, res12, vt12, V12, k12_4, k12_5, k12_3, k12_6, k12_9, k12_8, k12_10, k12_11, k12_13, k12_12, k12_14, k12_7, k12_15, k12_16, k12_17, k12_2, k12_18, k12_19, k12_21, k12_22, k12_23, k12_24, k12_20, k12_25, k12_1, k12_26, k12_28, k12_29, k12_30, k12_31, k12_27, k12_32, k12_0, k12_33, k12_34, k12_35, k12_36, k12_37, k12_38, v_lookup_key, h1', hb, hkf]
        refine ⟨(by (repeat' (first | exact cf_nil | exact allp_nil | refine cf_add ?_ ?_ | refine allp_add ?_ ?_)); all_goals (first | exact Or.inl rfl | exact Or.inl (by decide) | exact Or.inr ⟨by (simp (decide := true) [clash, h2] <;> assumption), by (simp (decide := true) [clash, h2] <;> assumption)⟩)), ?_⟩
        have w := way 43 (hF2.mono (by omega)) (by decide)
        simp (disch := omega) only [sel_t, sel_f, sel_dt, sel_df, sel_nt, sel_nf, v_lss, v_leq, v_gtr, v_geq, v_eql, v_neq, v_add, v_sub, v_not, v_min, v_max, v_pick_t, v_pick_f, v_ext0, v_ext1, v_ext2, v_len_isl, List.length_map, v_len_nils, v_len_sl0, v_len_sl, v_ix_map, v_ix_sl, v_nil_ptr, v_nil_iptr, v_fa_ptr, v_fa_iptr, cell_0, cell_s, cell_a2, cell_a3, cell_a7, cell_a10, v_load_map, v_load_r1, v_call_fn, v_call_fnS, v_load_H, ldH_one, ldH_map, v_store_H, stH_one, upd_same, upd_cons_ne, upd_nil, v_box, v_fld, eqs_nils, eqs_sl, v_eqs_ii, v_neqs_ii, sel_andt, sel_andf, sel_nandt, sel_nandf, encI, Int.toNat_natCast, lq_e, lq_r, Bool.not_true, Bool.not_false, Bool.false_eq_true, reduceIte, decide_true, decide_false, v_build_fill, v_buildS_fill, fill_nil, fill_cons, AV.cells, putL, chunk, List.length_cons, List.length_nil, Nat.reduceAdd, Nat.reduceDiv, Nat.reduceMod, List.take_succ_cons, List.take_zero, List.take_nil, List.drop_succ_cons, List.drop_zero, List.drop_nil, List.cons_append, List.nil_append, List.append_nil, List.all_cons, List.all_nil, AV.one, Nat.reduceLeDiff, and_self, and_true, true_and, Nat.zero_add, ne_eq, Nat.succ_ne_zero, not_false_eq_true, Bool.and_self, Nat.reduceEqDiff, Nat.le_refl, res12, vt12, V12, k12_4, k12_5, k12_3, k12_6, k12_9, k12_8, k12_10, k12_11, k12_13, k12_12, k12_14, k12_7, k12_15, k12_16, k12_17, k12_2, k12_18, k12_19, k12_21, k12_22, k12_23, k12_24, k12_20, k12_25, k12_1, k12_26, k12_28, k12_29, k12_30, k12_31, k12_27, k12_32, k12_0, k12_33, k12_34, k12_35, k12_36, k12_37, k12_38, v_lookup_key, Option.isSome_none, Option.isSome_some] at w
        exact w
  · have hd : doS l a kl k r = putW ⟨l, heldN l.length a, kl, []⟩ r := by rw [doS, if_pos (by omega)]
    rw [hd]
    simp (disch := omega) only [sel_t, sel_f, sel_dt, sel_df, sel_nt, sel_nf, v_lss, v_leq, v_gtr, v_geq, v_eql, v_neq, v_add, v_sub, v_not, v_min, v_max, v_pick_t, v_pick_f, v_ext0, v_ext1, v_ext2, v_len_isl, List.length_map, v_len_nils, v_len_sl0, v_len_sl, v_ix_map, v_ix_sl, v_nil_ptr, v_nil_iptr, v_fa_ptr, v_fa_iptr, cell_0, cell_s, cell_a2, cell_a3, cell_a7, cell_a10, v_load_map, v_load_r1, v_call_fn, v_call_fnS, v_load_H, ldH_one, ldH_map, v_store_H, stH_one, upd_same, upd_cons_ne, upd_nil, v_box, v_fld, eqs_nils, eqs_sl, v_eqs_ii, v_neqs_ii, sel_andt, sel_andf, sel_nandt, sel_nandf, encI, Int.toNat_natCast, lq_e, lq_r, Bool.not_true, Bool.not_false, Bool.false_eq_true, reduceIte, decide_true, decide_false, v_build_fill, v_buildS_fill, fill_nil, fill_cons, AV.cells, putL, chunk, List.length_cons, List.length_nil, Nat.reduceAdd, Nat.reduceDiv, Nat.reduceMod, List.take_succ_cons, List.take_zero, List.take_nil, List.drop_succ_cons, List.drop_zero, List.drop_nil, List.cons_append, List.nil_append, List.append_nil, List.all_cons, List.all_nil, AV.one, Nat.reduceLeDiff, and_self, and_true, true_and, Nat.zero_add, ne_eq, Nat.succ_ne_zero, not_false_eq_true, Bool.and_self, Nat.reduceEqDiff, Nat.le_refl, res12, vt12, V12, k12_4, k12_5, k12_3, k12_6, k12_9, k12_8, k12_10, k12_11, k12_13, k12_12, k12_14, k12_7, k12_15, k12_16, k12_17, k12_2, k12_18, k12_19, k12_21, k12_22, k12_23, k12_24, k12_20, k12_25, k12_1, k12_26, k12_28, k12_29, k12_30, k12_31, k12_27, k12_32, k12_0, k12_33, k12_34, k12_35, k12_36, k12_37, k12_38, v_lookup_key, h1]
    refine work_call (Φ := fun H0 y u => y = .bool (putB ⟨l, heldN l.length a, kl, []⟩ r) ∧ ∃ xl' xa', WorkI (upd u H0) (17 :: q) xl' xk xa' (putW ⟨l, heldN l.length a, kl, []⟩ r)) hw h2 (hF.mono (by omega)) (by omega) (fun H0 h0 hf0 => put_sound h0 hf0 heldN_le (by simp) r) (fun H0 x u hx => by obtain ⟨_, xl', xa', h⟩ := hx; exact ⟨xl', xk, xa', h⟩) (fun x u xl' xk' xa' h3 h4 h5 => ?_)
    have h6 := h3.s
    rcases cells_list h3.l with rfl | ⟨_, _, rfl⟩ <;> rcases cells_list h3.k with rfl | ⟨_, _, rfl⟩
    all_goals (simp (disch := omega) only [sel_t, sel_f, sel_dt, sel_df, sel_nt, sel_nf, v_lss, v_leq, v_gtr, v_geq, v_eql, v_neq, v_add, v_sub, v_not, v_min, v_max, v_pick_t, v_pick_f, v_ext0, v_ext1, v_ext2, v_len_isl, List.length_map, v_len_nils, v_len_sl0, v_len_sl, v_ix_map, v_ix_sl, v_nil_ptr, v_nil_iptr, v_fa_ptr, v_fa_iptr, cell_0, cell_s, cell_a2, cell_a3, cell_a7, cell_a10, v_load_map, v_load_r1, v_call_fn, v_call_fnS, v_load_H, ldH_one, ldH_map, v_store_H, stH_one, upd_same, upd_cons_ne, upd_nil, v_box, v_fld, eqs_nils, eqs_sl, v_eqs_ii, v_neqs_ii, sel_andt, sel_andf, sel_nandt, sel_nandf, encI, Int.toNat_natCast, lq_e, lq_r, Bool.not_true, Bool.not_false, Bool.false_eq_true, reduceIte, decide_true, decide_false, v_build_fill, v_buildS_fill, fill_nil, fill_cons, AV.cells, putL, chunk, List.length_cons, List.length_nil, Nat.reduceAdd, Nat.reduceDiv, Nat.reduceMod, List.take_succ_cons, List.take_zero, List.take_nil, List.drop_succ_cons, List.drop_zero, List.drop_nil, List.cons_append, List.nil_append, List.append_nil, List.all_cons, List.all_nil, AV.one, Nat.reduceLeDiff, and_self, and_true, true_and, Nat.zero_add, ne_eq, Nat.succ_ne_zero, not_false_eq_true, Bool.and_self, Nat.reduceEqDiff, Nat.le_refl, res12, vt12, V12, k12_4, k12_5, k12_3, k12_6, k12_9, k12_8, k12_10, k12_11, k12_13, k12_12, k12_14, k12_7, k12_15, k12_16, k12_17, k12_2, k12_18, k12_19, k12_21, k12_22, k12_23, k12_24, k12_20, k12_25, k12_1, k12_26, k12_28, k12_29, k12_30, k12_31, k12_27, k12_32, k12_0, k12_33, k12_34, k12_35, k12_36, k12_37, k12_38, v_lookup_key, h4, h6]; refine ⟨(by (repeat' (first | exact cf_nil | exact allp_nil | refine cf_add ?_ ?_ | refine allp_add ?_ ?_)); all_goals (first | exact Or.inl rfl | exact Or.inl (by decide) | exact Or.inr ⟨by (simp (decide := true) [clash, h2] <;> assumption), by (simp (decide := true) [clash, h2] <;> assumption)⟩)), ?_⟩; exact do_end h3 h4 h5)
theorem do_pure (l : List Int) (hl : l.length ≤ 100000) (a : Int) (kl : List Int) (hkl : kl.length ≤ 100000) (k r : Int) : Pure Try.prog 12 [.agg [il l, .int .i64 a, il kl], .agg [.int .i64 k, .int .i64 r]] (doR (doS l a kl k r)) := by
  refine pure_vc Try.mixed ok12 rfl (fun q => ?_)
  simp only [params, Nat.zero_add, Nat.reduceAdd]
  simp (disch := omega) only [sel_t, sel_f, sel_dt, sel_df, sel_nt, sel_nf, v_lss, v_leq, v_gtr, v_geq, v_eql, v_neq, v_add, v_sub, v_not, v_min, v_max, v_pick_t, v_pick_f, v_ext0, v_ext1, v_ext2, v_len_isl, List.length_map, v_len_nils, v_len_sl0, v_len_sl, v_ix_map, v_ix_sl, v_nil_ptr, v_nil_iptr, v_fa_ptr, v_fa_iptr, cell_0, cell_s, cell_a2, cell_a3, cell_a7, cell_a10, v_load_map, v_load_r1, v_call_fn, v_call_fnS, v_load_H, ldH_one, ldH_map, v_store_H, stH_one, upd_same, upd_cons_ne, upd_nil, v_box, v_fld, eqs_nils, eqs_sl, v_eqs_ii, v_neqs_ii, sel_andt, sel_andf, sel_nandt, sel_nandf, encI, Int.toNat_natCast, lq_e, lq_r, Bool.not_true, Bool.not_false, Bool.false_eq_true, reduceIte, decide_true, decide_false, v_build_fill, v_buildS_fill, fill_nil, fill_cons, AV.cells, putL, chunk, List.length_cons, List.length_nil, Nat.reduceAdd, Nat.reduceDiv, Nat.reduceMod, List.take_succ_cons, List.take_zero, List.take_nil, List.drop_succ_cons, List.drop_zero, List.drop_nil, List.cons_append, List.nil_append, List.append_nil, List.all_cons, List.all_nil, AV.one, Nat.reduceLeDiff, and_self, and_true, true_and, Nat.zero_add, ne_eq, Nat.succ_ne_zero, not_false_eq_true, Bool.and_self, Nat.reduceEqDiff, Nat.le_refl, res12, vt12, V12, k12_4, k12_5, k12_3, k12_6, k12_9, k12_8, k12_10, k12_11, k12_13, k12_12, k12_14, k12_7, k12_15, k12_16, k12_17, k12_2, k12_18, k12_19, k12_21, k12_22, k12_23, k12_24, k12_20, k12_25, k12_1, k12_26, k12_28, k12_29, k12_30, k12_31, k12_27, k12_32, k12_0, k12_33, k12_34, k12_35, k12_36, k12_37, k12_38, v_lookup_key]
  have hF : Fresh q 6 (upd [(2 :: q, some (.rows 3 [[.nils, .int .i64 0, .nils]]))] (upd [(1 :: q, some (.rows 2 [[.int .i64 k, .int .i64 r]]))] (upd [(0 :: q, some (.rows 3 [[il l, .int .i64 a, il kl]]))] fun x => none))) :=
    (((Fresh.empty (c := 0)).upd (k := 0) (d := 1) (by omega) (by omega)).upd (k := 1) (d := 2) (by omega) (by omega)).upd (k := 2) (d := 6) (by omega) (by omega)
  generalize hH : upd [(2 :: q, some (.rows 3 [[.nils, .int .i64 0, .nils]]))] (upd [(1 :: q, some (.rows 2 [[.int .i64 k, .int .i64 r]]))] (upd [(0 :: q, some (.rows 3 [[il l, .int .i64 a, il kl]]))] fun x => none)) = H at hF ⊢
  have h0 : H (0 :: q) = some (.rows 3 [[il l, .int .i64 a, il kl]]) := by rw [← hH, upd_ne (by simp), upd_nil, upd_ne (by simp), upd_nil, upd_same]
  have h1 : H (1 :: q) = some (.rows 2 [[.int .i64 k, .int .i64 r]]) := by rw [← hH, upd_ne (by simp), upd_nil, upd_same]
  have h2 : H (2 :: q) = some (.rows 3 [[.nils, .int .i64 0, .nils]]) := by rw [← hH, upd_same]
  clear hH
  obtain ⟨xl, u1, hc1, hy1, hu1, hx1, hs1⟩ := clone_det (H := H) (q := 6 :: q) l (by omega)
  refine call_res_gen hc1 hF (fun H2 hH2 hF2 => ?_)
  have hk1 : ∀ j, H2 (j :: q) = H (j :: q) := fun j => by
    rw [hH2, upd_not (fun h => by have := hu1 _ h; simp at this)]
  rw [← hk1] at h0 h1 h2
  obtain rfl : H2 = upd u1 H := funext hH2
  clear hH2 hk1
  simp (disch := omega) only [sel_t, sel_f, sel_dt, sel_df, sel_nt, sel_nf, v_lss, v_leq, v_gtr, v_geq, v_eql, v_neq, v_add, v_sub, v_not, v_min, v_max, v_pick_t, v_pick_f, v_ext0, v_ext1, v_ext2, v_len_isl, List.length_map, v_len_nils, v_len_sl0, v_len_sl, v_ix_map, v_ix_sl, v_nil_ptr, v_nil_iptr, v_fa_ptr, v_fa_iptr, cell_0, cell_s, cell_a2, cell_a3, cell_a7, cell_a10, v_load_map, v_load_r1, v_call_fn, v_call_fnS, v_load_H, ldH_one, ldH_map, v_store_H, stH_one, upd_same, upd_cons_ne, upd_nil, v_box, v_fld, eqs_nils, eqs_sl, v_eqs_ii, v_neqs_ii, sel_andt, sel_andf, sel_nandt, sel_nandf, encI, Int.toNat_natCast, lq_e, lq_r, Bool.not_true, Bool.not_false, Bool.false_eq_true, reduceIte, decide_true, decide_false, v_build_fill, v_buildS_fill, fill_nil, fill_cons, AV.cells, putL, chunk, List.length_cons, List.length_nil, Nat.reduceAdd, Nat.reduceDiv, Nat.reduceMod, List.take_succ_cons, List.take_zero, List.take_nil, List.drop_succ_cons, List.drop_zero, List.drop_nil, List.cons_append, List.nil_append, List.append_nil, List.all_cons, List.all_nil, AV.one, Nat.reduceLeDiff, and_self, and_true, true_and, Nat.zero_add, ne_eq, Nat.succ_ne_zero, not_false_eq_true, Bool.and_self, Nat.reduceEqDiff, Nat.le_refl, res12, vt12, V12, k12_4, k12_5, k12_3, k12_6, k12_9, k12_8, k12_10, k12_11, k12_13, k12_12, k12_14, k12_7, k12_15, k12_16, k12_17, k12_2, k12_18, k12_19, k12_21, k12_22, k12_23, k12_24, k12_20, k12_25, k12_1, k12_26, k12_28, k12_29, k12_30, k12_31, k12_27, k12_32, k12_0, k12_33, k12_34, k12_35, k12_36, k12_37, k12_38, v_lookup_key, h0, h1, h2]
  refine call_pure (held_pure l a) ?_
  simp (disch := omega) only [sel_t, sel_f, sel_dt, sel_df, sel_nt, sel_nf, v_lss, v_leq, v_gtr, v_geq, v_eql, v_neq, v_add, v_sub, v_not, v_min, v_max, v_pick_t, v_pick_f, v_ext0, v_ext1, v_ext2, v_len_isl, List.length_map, v_len_nils, v_len_sl0, v_len_sl, v_ix_map, v_ix_sl, v_nil_ptr, v_nil_iptr, v_fa_ptr, v_fa_iptr, cell_0, cell_s, cell_a2, cell_a3, cell_a7, cell_a10, v_load_map, v_load_r1, v_call_fn, v_call_fnS, v_load_H, ldH_one, ldH_map, v_store_H, stH_one, upd_same, upd_cons_ne, upd_nil, v_box, v_fld, eqs_nils, eqs_sl, v_eqs_ii, v_neqs_ii, sel_andt, sel_andf, sel_nandt, sel_nandf, encI, Int.toNat_natCast, lq_e, lq_r, Bool.not_true, Bool.not_false, Bool.false_eq_true, reduceIte, decide_true, decide_false, v_build_fill, v_buildS_fill, fill_nil, fill_cons, AV.cells, putL, chunk, List.length_cons, List.length_nil, Nat.reduceAdd, Nat.reduceDiv, Nat.reduceMod, List.take_succ_cons, List.take_zero, List.take_nil, List.drop_succ_cons, List.drop_zero, List.drop_nil, List.cons_append, List.nil_append, List.append_nil, List.all_cons, List.all_nil, AV.one, Nat.reduceLeDiff, and_self, and_true, true_and, Nat.zero_add, ne_eq, Nat.succ_ne_zero, not_false_eq_true, Bool.and_self, Nat.reduceEqDiff, Nat.le_refl, res12, vt12, V12, k12_4, k12_5, k12_3, k12_6, k12_9, k12_8, k12_10, k12_11, k12_13, k12_12, k12_14, k12_7, k12_15, k12_16, k12_17, k12_2, k12_18, k12_19, k12_21, k12_22, k12_23, k12_24, k12_20, k12_25, k12_1, k12_26, k12_28, k12_29, k12_30, k12_31, k12_27, k12_32, k12_0, k12_33, k12_34, k12_35, k12_36, k12_37, k12_38, v_lookup_key, h0, h1, h2]
  obtain ⟨xk, u2, hc2, hy2, hu2, hx2, hs2⟩ := clone_det (H := upd u1 H) (q := 14 :: q) kl (by omega)
  refine call_res_gen hc2 (hF2.mono (by omega)) (fun H3 hH3 hF3 => ?_)
  have hk2 : ∀ j, H3 (j :: q) = upd u1 H (j :: q) := fun j => by
    rw [hH3, upd_not (fun h => by have := hu2 _ h; simp at this)]
  rw [← hk2] at h0 h1 h2
  have hl3 : ListE H3 xl l := hy1.mono fun lab n e hk => by
    obtain rfl := hx1 _ _ e
    rw [hH3, upd_not (fun h => by have := hu2 _ h; simp at this)]; exact hk
  obtain rfl : H3 = upd u2 (upd u1 H) := funext hH3
  have hk3 : ∀ o, upd [(17 :: q, some o)] (upd u2 (upd u1 H)) (1 :: q) = some (.rows 2 [[.int .i64 k, .int .i64 r]]) ∧ upd [(17 :: q, some o)] (upd u2 (upd u1 H)) (2 :: q) = some (.rows 3 [[.nils, .int .i64 0, .nils]]) := fun o => ⟨by rw [upd_ne (by simp)]; exact h1, by rw [upd_ne (by simp)]; exact h2⟩
  have hF4 : ∀ o, Fresh q 18 (upd [(17 :: q, o)] (upd u2 (upd u1 H))) := fun o => hF3.upd (by omega) (by omega)
  have hw : WorkI (upd [(17 :: q, some (.rows 4 [[xl, .int .i64 (heldN l.length a), xk, .nils]]))] (upd u2 (upd u1 H))) (17 :: q) xl xk .nils ⟨l, heldN l.length a, kl, []⟩ := by
    have hn : ∀ {j o}, upd u2 (upd u1 H) j = some o → upd [(17 :: q, some (.rows 4 [[xl, .int .i64 (heldN l.length a), xk, .nils]]))] (upd u2 (upd u1 H)) j = some o := fun {j o} h => by
      rw [upd_ne (fun e => by rw [e, hF3.at (by omega)] at h; cases h)]; exact h
    refine ⟨upd_same, hl3.mono fun _ _ _ h => hn h, hy2.mono fun _ _ _ h => hn h, .inl ⟨rfl, rfl⟩, fun lab n m e e' => ?_⟩
    have e1 := hx1 _ _ e
    have e2 := hx2 _ _ e'
    rw [e1] at e2
    simp at e2
  have hmid := do_mid (k := k) (r := r) hw hl hkl (hk3 _).1 (hk3 _).2 (hF4 _)
  rcases hs1 with ⟨rfl, rfl⟩ | ⟨rfl, rfl⟩ <;> rcases hs2 with ⟨rfl, rfl⟩ | ⟨rfl, rfl⟩
  all_goals (simp (disch := omega) only [sel_t, sel_f, sel_dt, sel_df, sel_nt, sel_nf, v_lss, v_leq, v_gtr, v_geq, v_eql, v_neq, v_add, v_sub, v_not, v_min, v_max, v_pick_t, v_pick_f, v_ext0, v_ext1, v_ext2, v_len_isl, List.length_map, v_len_nils, v_len_sl0, v_len_sl, v_ix_map, v_ix_sl, v_nil_ptr, v_nil_iptr, v_fa_ptr, v_fa_iptr, cell_0, cell_s, cell_a2, cell_a3, cell_a7, cell_a10, v_load_map, v_load_r1, v_call_fn, v_call_fnS, v_load_H, ldH_one, ldH_map, v_store_H, stH_one, upd_same, upd_cons_ne, upd_nil, v_box, v_fld, eqs_nils, eqs_sl, v_eqs_ii, v_neqs_ii, sel_andt, sel_andf, sel_nandt, sel_nandf, encI, Int.toNat_natCast, lq_e, lq_r, Bool.not_true, Bool.not_false, Bool.false_eq_true, reduceIte, decide_true, decide_false, v_build_fill, v_buildS_fill, fill_nil, fill_cons, AV.cells, putL, chunk, List.length_cons, List.length_nil, Nat.reduceAdd, Nat.reduceDiv, Nat.reduceMod, List.take_succ_cons, List.take_zero, List.take_nil, List.drop_succ_cons, List.drop_zero, List.drop_nil, List.cons_append, List.nil_append, List.append_nil, List.all_cons, List.all_nil, AV.one, Nat.reduceLeDiff, and_self, and_true, true_and, Nat.zero_add, ne_eq, Nat.succ_ne_zero, not_false_eq_true, Bool.and_self, Nat.reduceEqDiff, Nat.le_refl, res12, vt12, V12, k12_4, k12_5, k12_3, k12_6, k12_9, k12_8, k12_10, k12_11, k12_13, k12_12, k12_14, k12_7, k12_15, k12_16, k12_17, k12_2, k12_18, k12_19, k12_21, k12_22, k12_23, k12_24, k12_20, k12_25, k12_1, k12_26, k12_28, k12_29, k12_30, k12_31, k12_27, k12_32, k12_0, k12_33, k12_34, k12_35, k12_36, k12_37, k12_38, v_lookup_key, h0, h1, h2]; refine ⟨(by (repeat' (first | exact cf_nil | exact allp_nil | refine cf_add ?_ ?_ | refine allp_add ?_ ?_)); all_goals (first | exact Or.inl rfl | exact Or.inl (by decide) | exact Or.inr ⟨by (simp (decide := true) [clash, h2] <;> assumption), by (simp (decide := true) [clash, h2] <;> assumption)⟩)), ?_⟩)
  all_goals exact hmid
end
end Go.Proofs.Ytbngfbpegdcpkaa
