/- What keys do is what their acts do to the line. -/
import Derived.Test.YtbngfbpegdcpkaaE18
namespace Go.Proofs.Ytbngfbpegdcpkaa
set_option linter.unusedVariables false
set_option linter.unusedSimpArgs false
set_option maxRecDepth 100000
theorem applyL_app {B : List ActV} : ∀ {A : List ActV} {l : List Int}, applyL l (A ++ B) = (applyL l A).bind fun l' => applyL l' B
  | [], l => rfl
  | a :: A, l => by
    simp only [List.cons_append, applyL]
    cases actL l a with
    | none => rfl
    | some l' => exact applyL_app
theorem delI_take {l : List Int} {f : Nat} (h : f < l.length) : (delI l f).take f = l.take f := by
  have hl : (l.take f).length = f := by simp; omega
  rw [delI]; exact List.take_left' hl
theorem delI_drop {l : List Int} {f n : Nat} (h : f < l.length) : (delI l f).drop (f + n) = l.drop (f + n + 1) := by
  have hl : (l.take f).length = f := by simp; omega
  rw [delI, ← List.drop_drop, List.drop_left' hl, List.drop_drop]
  congr 1; omega
theorem apply_cut {f : Nat} : ∀ {g l : List Int}, f + g.length ≤ l.length → applyL l (g.map fun c => (2, (f : Int), c)) = some (l.take f ++ l.drop (f + g.length))
  | [], l, h => by simp [applyL]
  | c :: g, l, h => by
    simp only [List.length_cons] at h
    have ha : actL l (2, (f : Int), c) = some (delI l f) := by
      have h1 : ¬ ((f : Int) < 0 ∨ (l.length : Int) < f) := by omega
      have h2 : (f : Int) < l.length := by omega
      simp only [actL, if_neg h1]
      rw [if_neg (by decide), if_pos ⟨trivial, h2⟩, Int.toNat_natCast]
    have hd := delI_len (l := l) (i := f) (by omega)
    simp only [List.map_cons, applyL, ha, Option.bind_some]
    rw [apply_cut (by rw [hd]; omega), delI_take (by omega), delI_drop (by omega)]
    simp [Nat.add_assoc]
structure Good (l0 : List Int) (w : Wk) : Prop where
  a : applyL l0 w.acts = some w.line
  p : w.pos ≤ w.line.length
  n : w.line.length ≤ max 1000 l0.length
theorem Good.at {l0 : List Int} {w : Wk} (h : Good l0 w) {n : Nat} (hn : n ≤ w.line.length) : Good l0 { w with pos := n } := ⟨h.a, hn, h.n⟩
theorem Good.put {l0 : List Int} {w : Wk} (h : Good l0 w) {c : Int} : Good l0 (putW w c) := by
  unfold putW
  split
  · rename_i hb
    have hp := h.p
    have hl : w.line.length < 1000 := by simp [putB] at hb; exact hb.1
    have hi := insI_len (c := c) hp
    refine ⟨?_, by simp only [hi]; omega, by simp only [hi]; omega⟩
    have ha : actL w.line (1, (w.pos : Int), c) = some (insI w.line w.pos c) := by
      have h1 : ¬ ((w.pos : Int) < 0 ∨ (w.line.length : Int) < w.pos) := by omega
      simp only [actL, if_neg h1]
      rw [if_pos trivial, Int.toNat_natCast]
    simp only [applyL_app, h.a, Option.bind_some, applyL, ha]
  · exact h
theorem Good.cut {l0 : List Int} {w : Wk} (h : Good l0 w) {f t : Nat} (ht : t ≤ w.line.length) : Good l0 (cutW w f t) := by
  unfold cutW
  split
  · rename_i hlt
    have hg : (cutG w f t).length = t - f := cutG_len (by omega) ht
    refine ⟨?_, by simp; omega, by have := h.n; simp; omega⟩
    simp only [applyL_app, h.a, Option.bind_some]
    rw [apply_cut (by rw [hg]; omega), hg, show f + (t - f) = t by omega]
  · exact h
theorem Good.kill {l0 : List Int} {w : Wk} (h : Good l0 w) {f t : Nat} (ht : t ≤ w.line.length) : Good l0 (killW w f t) := by
  unfold killW
  split
  · have := h.cut (f := f) ht
    exact ⟨this.a, this.p, this.n⟩
  · exact h
theorem Good.yank {l0 : List Int} : ∀ {g : List Int} {w : Wk}, Good l0 w → Good l0 (yankW w g)
  | [], w, h => h
  | c :: g, w, h => by
    unfold yankW
    split
    · exact Good.yank h.put
    · exact h
theorem Good.swap {l0 : List Int} {w : Wk} (h : Good l0 w) : Good l0 (swapW w) := by
  unfold swapW
  split
  · exact h
  · rename_i h1
    split
    · exact h
    · refine ((h.cut (f := _) (t := _) (by omega)).at ?_).put
      have : (Min.min w.pos (w.line.length - 1) - 1) < Min.min w.pos (w.line.length - 1) := by omega
      simp only [cutW, if_pos this]
      simp
      omega
theorem keyT_good {l0 : List Int} : ∀ e ∈ keyT, ∀ w, Good l0 w → Good l0 (e.2.2.2 w) := by
  intro e he w h
  simp only [keyT, List.mem_cons, List.not_mem_nil, or_false] at he
  have hp := h.p
  rcases he with rfl | rfl | rfl | rfl | rfl | rfl | rfl | rfl | rfl | rfl | rfl | rfl | rfl | rfl | rfl | rfl | rfl | rfl | rfl | rfl
  · exact h.at (Nat.zero_le _)
  · exact h.at (Nat.le_refl _)
  · exact h.at heldN_le
  · exact h.at heldN_le
  · exact h.cut hp
  · exact h.cut heldN_le
  · exact h.kill (Nat.le_refl _)
  · exact h.kill hp
  · exact h.kill hp
  · exact h.yank
  · exact h.swap
  · exact h.at (Nat.le_trans (wordBack_nat heldN_le).2 heldN_le)
  · exact h.at (wordOn_le heldN_le)
  · exact h.kill (wordOn_le heldN_le)
  · exact h.kill hp
  · exact h.at heldN_le
  · exact h.at heldN_le
  · exact h.at (Nat.zero_le _)
  · exact h.at (Nat.le_refl _)
  · exact h.cut heldN_le
theorem do_good (l : List Int) (a : Int) (kl : List Int) (k r : Int) : Good l (doS l a kl k r) := by
  have h0 : Good l ⟨l, heldN l.length a, kl, []⟩ := ⟨rfl, heldN_le, by simp only; omega⟩
  unfold doS
  split
  · exact h0.put
  · unfold keyW
    split
    · rename_i e he
      exact keyT_good e (List.mem_of_find?_eq_some he) _ h0
    · exact h0
/-- how many acts -/
def More (w w' : Wk) : Prop := w'.acts.length ≤ w.acts.length + w.line.length + w.kill.length + 2
theorem more_put {w : Wk} {c : Int} : (putW w c).acts.length ≤ w.acts.length + 1 := putW_acts
theorem more_cut {w : Wk} {f t : Nat} : (cutW w f t).acts.length ≤ w.acts.length + w.line.length := by
  unfold cutW
  split
  · simp [cutG]; omega
  · omega
theorem more_kill {w : Wk} {f t : Nat} : (killW w f t).acts.length ≤ w.acts.length + w.line.length := by
  unfold killW
  split
  · exact more_cut
  · omega
theorem more_yank : ∀ {g : List Int} {w : Wk}, (yankW w g).acts.length ≤ w.acts.length + g.length
  | [], w => by simp [yankW]
  | c :: g, w => by
    unfold yankW
    split
    · have h1 := more_yank (g := g) (w := putW w c)
      have h2 := @putW_acts w c
      simp only [List.length_cons]; omega
    · simp only [List.length_cons]; omega
theorem more_swap {w : Wk} : (swapW w).acts.length ≤ w.acts.length + w.line.length + 1 := by
  unfold swapW
  split
  · omega
  · split
    · omega
    · refine Nat.le_trans putW_acts ?_
      have := @more_cut w (Min.min w.pos (w.line.length - 1) - 1) (Min.min w.pos (w.line.length - 1))
      simp only
      omega
theorem keyT_more : ∀ e ∈ keyT, ∀ w, More w (e.2.2.2 w) := by
  intro e he w
  simp only [keyT, List.mem_cons, List.not_mem_nil, or_false] at he
  unfold More
  rcases he with rfl | rfl | rfl | rfl | rfl | rfl | rfl | rfl | rfl | rfl | rfl | rfl | rfl | rfl | rfl | rfl | rfl | rfl | rfl | rfl
  · simp only; omega
  · simp only; omega
  · simp only; omega
  · simp only; omega
  · have := @more_cut w (heldN w.line.length (w.pos - 1)) w.pos; simp only; omega
  · have := @more_cut w w.pos (heldN w.line.length (w.pos + 1)); simp only; omega
  · have := @more_kill w w.pos w.line.length; simp only; omega
  · have := @more_kill w 0 w.pos; simp only; omega
  · have := @more_kill w (wordBack w.line (heldN w.line.length w.pos)).toNat w.pos; simp only; omega
  · have := @more_yank w.kill w; simp only; omega
  · have := @more_swap w; simp only; omega
  · simp only; omega
  · simp only; omega
  · have := @more_kill w w.pos (wordOn w.line (heldN w.line.length w.pos)); simp only; omega
  · have := @more_kill w (wordBack w.line (heldN w.line.length w.pos)).toNat w.pos; simp only; omega
  · simp only; omega
  · simp only; omega
  · simp only; omega
  · simp only; omega
  · have := @more_cut w w.pos (heldN w.line.length (w.pos + 1)); simp only; omega
theorem do_more (l : List Int) (a : Int) (kl : List Int) (k r : Int) : (doS l a kl k r).acts.length ≤ l.length + kl.length + 2 := by
  unfold doS
  split
  · have := @putW_acts ⟨l, heldN l.length a, kl, []⟩ r
    simp only [List.length_nil] at this
    omega
  · unfold keyW
    split
    · rename_i e he
      have := keyT_more e (List.mem_of_find?_eq_some he) ⟨l, heldN l.length a, kl, []⟩
      unfold More at this
      simp only [List.length_nil] at this
      omega
    · simp
theorem acts_law (l kl : List Int) (a k r : Int) : Pure Try.prog 5 [.agg [il l, .int .i64 a, il kl], .agg [.int .i64 k, .int .i64 r]] (.bool true) := by
  refine pure_vc Try.mixed ok5 rfl (fun q => ?_)
  simp only [params, Nat.zero_add, Nat.reduceAdd]
  simp (disch := omega) only [sel_t, sel_f, sel_dt, sel_df, sel_nt, sel_nf, v_lss, v_leq, v_gtr, v_geq, v_eql, v_neq, v_add, v_sub, v_not, v_min, v_max, v_pick_t, v_pick_f, v_ext0, v_ext1, v_ext2, v_len_isl, List.length_map, v_len_nils, v_len_sl0, v_len_sl, v_ix_map, v_ix_sl, v_nil_ptr, v_nil_iptr, v_fa_ptr, v_fa_iptr, cell_0, cell_s, cell_a2, cell_a3, cell_a7, cell_a10, v_load_map, v_load_r1, v_call_fn, v_call_fnS, v_load_H, ldH_one, ldH_map, v_store_H, stH_one, upd_same, upd_cons_ne, upd_nil, v_box, v_fld, eqs_nils, eqs_sl, v_eqs_ii, v_neqs_ii, sel_andt, sel_andf, sel_nandt, sel_nandf, encI, Int.toNat_natCast, lq_e, lq_r, Bool.not_true, Bool.not_false, Bool.false_eq_true, reduceIte, decide_true, decide_false, v_build_fill, v_buildS_fill, fill_nil, fill_cons, AV.cells, putL, chunk, List.length_cons, List.length_nil, Nat.reduceAdd, Nat.reduceDiv, Nat.reduceMod, List.take_succ_cons, List.take_zero, List.take_nil, List.drop_succ_cons, List.drop_zero, List.drop_nil, List.cons_append, List.nil_append, List.append_nil, List.all_cons, List.all_nil, AV.one, Nat.reduceLeDiff, and_self, and_true, true_and, Nat.zero_add, ne_eq, Nat.succ_ne_zero, not_false_eq_true, Bool.and_self, Nat.reduceEqDiff, Nat.le_refl, res5, vt5, V5, k5_0, k5_1, k5_2, k5_8, k5_9, k5_10, k5_11, k5_12, k5_7, k5_13, k5_14, k5_15, k5_6, k5_16, k5_18, k5_17, k5_19, k5_5, k5_20, k5_23, k5_22, k5_21, k5_24, k5_4, k5_25, k5_26, k5_30, k5_29, k5_28, k5_27, k5_31, k5_32, k5_33, k5_34, k5_35, k5_3, k5_36, k5_37]
  refine call_pure (few_pure l kl a) ?_
  cases hfew : fewB l kl
  · (try simp (disch := omega) only [sel_t, sel_f, sel_dt, sel_df, sel_nt, sel_nf, v_lss, v_leq, v_gtr, v_geq, v_eql, v_neq, v_add, v_sub, v_not, v_min, v_max, v_pick_t, v_pick_f, v_ext0, v_ext1, v_ext2, v_len_isl, List.length_map, v_len_nils, v_len_sl0, v_len_sl, v_ix_map, v_ix_sl, v_nil_ptr, v_nil_iptr, v_fa_ptr, v_fa_iptr, cell_0, cell_s, cell_a2, cell_a3, cell_a7, cell_a10, v_load_map, v_load_r1, v_call_fn, v_call_fnS, v_load_H, ldH_one, ldH_map, v_store_H, stH_one, upd_same, upd_cons_ne, upd_nil, v_box, v_fld, eqs_nils, eqs_sl, v_eqs_ii, v_neqs_ii, sel_andt, sel_andf, sel_nandt, sel_nandf, encI, Int.toNat_natCast, lq_e, lq_r, Bool.not_true, Bool.not_false, Bool.false_eq_true, reduceIte, decide_true, decide_false, v_build_fill, v_buildS_fill, fill_nil, fill_cons, AV.cells, putL, chunk, List.length_cons, List.length_nil, Nat.reduceAdd, Nat.reduceDiv, Nat.reduceMod, List.take_succ_cons, List.take_zero, List.take_nil, List.drop_succ_cons, List.drop_zero, List.drop_nil, List.cons_append, List.nil_append, List.append_nil, List.all_cons, List.all_nil, AV.one, Nat.reduceLeDiff, and_self, and_true, true_and, Nat.zero_add, ne_eq, Nat.succ_ne_zero, not_false_eq_true, Bool.and_self, Nat.reduceEqDiff, Nat.le_refl, res5, vt5, V5, k5_0, k5_1, k5_2, k5_8, k5_9, k5_10, k5_11, k5_12, k5_7, k5_13, k5_14, k5_15, k5_6, k5_16, k5_18, k5_17, k5_19, k5_5, k5_20, k5_23, k5_22, k5_21, k5_24, k5_4, k5_25, k5_26, k5_30, k5_29, k5_28, k5_27, k5_31, k5_32, k5_33, k5_34, k5_35, k5_3, k5_36, k5_37]); refine call_pure live18 ?_; (try simp (disch := omega) only [sel_t, sel_f, sel_dt, sel_df, sel_nt, sel_nf, v_lss, v_leq, v_gtr, v_geq, v_eql, v_neq, v_add, v_sub, v_not, v_min, v_max, v_pick_t, v_pick_f, v_ext0, v_ext1, v_ext2, v_len_isl, List.length_map, v_len_nils, v_len_sl0, v_len_sl, v_ix_map, v_ix_sl, v_nil_ptr, v_nil_iptr, v_fa_ptr, v_fa_iptr, cell_0, cell_s, cell_a2, cell_a3, cell_a7, cell_a10, v_load_map, v_load_r1, v_call_fn, v_call_fnS, v_load_H, ldH_one, ldH_map, v_store_H, stH_one, upd_same, upd_cons_ne, upd_nil, v_box, v_fld, eqs_nils, eqs_sl, v_eqs_ii, v_neqs_ii, sel_andt, sel_andf, sel_nandt, sel_nandf, encI, Int.toNat_natCast, lq_e, lq_r, Bool.not_true, Bool.not_false, Bool.false_eq_true, reduceIte, decide_true, decide_false, v_build_fill, v_buildS_fill, fill_nil, fill_cons, AV.cells, putL, chunk, List.length_cons, List.length_nil, Nat.reduceAdd, Nat.reduceDiv, Nat.reduceMod, List.take_succ_cons, List.take_zero, List.take_nil, List.drop_succ_cons, List.drop_zero, List.drop_nil, List.cons_append, List.nil_append, List.append_nil, List.all_cons, List.all_nil, AV.one, Nat.reduceLeDiff, and_self, and_true, true_and, Nat.zero_add, ne_eq, Nat.succ_ne_zero, not_false_eq_true, Bool.and_self, Nat.reduceEqDiff, Nat.le_refl, res5, vt5, V5, k5_0, k5_1, k5_2, k5_8, k5_9, k5_10, k5_11, k5_12, k5_7, k5_13, k5_14, k5_15, k5_6, k5_16, k5_18, k5_17, k5_19, k5_5, k5_20, k5_23, k5_22, k5_21, k5_24, k5_4, k5_25, k5_26, k5_30, k5_29, k5_28, k5_27, k5_31, k5_32, k5_33, k5_34, k5_35, k5_3, k5_36, k5_37]); exact vp1 rfl
  simp only [fewB, Bool.and_eq_true, decide_eq_true_eq] at hfew
  obtain ⟨hl, hkl⟩ := hfew
  simp (disch := omega) only [sel_t, sel_f, sel_dt, sel_df, sel_nt, sel_nf, v_lss, v_leq, v_gtr, v_geq, v_eql, v_neq, v_add, v_sub, v_not, v_min, v_max, v_pick_t, v_pick_f, v_ext0, v_ext1, v_ext2, v_len_isl, List.length_map, v_len_nils, v_len_sl0, v_len_sl, v_ix_map, v_ix_sl, v_nil_ptr, v_nil_iptr, v_fa_ptr, v_fa_iptr, cell_0, cell_s, cell_a2, cell_a3, cell_a7, cell_a10, v_load_map, v_load_r1, v_call_fn, v_call_fnS, v_load_H, ldH_one, ldH_map, v_store_H, stH_one, upd_same, upd_cons_ne, upd_nil, v_box, v_fld, eqs_nils, eqs_sl, v_eqs_ii, v_neqs_ii, sel_andt, sel_andf, sel_nandt, sel_nandf, encI, Int.toNat_natCast, lq_e, lq_r, Bool.not_true, Bool.not_false, Bool.false_eq_true, reduceIte, decide_true, decide_false, v_build_fill, v_buildS_fill, fill_nil, fill_cons, AV.cells, putL, chunk, List.length_cons, List.length_nil, Nat.reduceAdd, Nat.reduceDiv, Nat.reduceMod, List.take_succ_cons, List.take_zero, List.take_nil, List.drop_succ_cons, List.drop_zero, List.drop_nil, List.cons_append, List.nil_append, List.append_nil, List.all_cons, List.all_nil, AV.one, Nat.reduceLeDiff, and_self, and_true, true_and, Nat.zero_add, ne_eq, Nat.succ_ne_zero, not_false_eq_true, Bool.and_self, Nat.reduceEqDiff, Nat.le_refl, res5, vt5, V5, k5_0, k5_1, k5_2, k5_8, k5_9, k5_10, k5_11, k5_12, k5_7, k5_13, k5_14, k5_15, k5_6, k5_16, k5_18, k5_17, k5_19, k5_5, k5_20, k5_23, k5_22, k5_21, k5_24, k5_4, k5_25, k5_26, k5_30, k5_29, k5_28, k5_27, k5_31, k5_32, k5_33, k5_34, k5_35, k5_3, k5_36, k5_37]
  refine call_pure (key_pure k r) ?_
  simp (disch := omega) only [sel_t, sel_f, sel_dt, sel_df, sel_nt, sel_nf, v_lss, v_leq, v_gtr, v_geq, v_eql, v_neq, v_add, v_sub, v_not, v_min, v_max, v_pick_t, v_pick_f, v_ext0, v_ext1, v_ext2, v_len_isl, List.length_map, v_len_nils, v_len_sl0, v_len_sl, v_ix_map, v_ix_sl, v_nil_ptr, v_nil_iptr, v_fa_ptr, v_fa_iptr, cell_0, cell_s, cell_a2, cell_a3, cell_a7, cell_a10, v_load_map, v_load_r1, v_call_fn, v_call_fnS, v_load_H, ldH_one, ldH_map, v_store_H, stH_one, upd_same, upd_cons_ne, upd_nil, v_box, v_fld, eqs_nils, eqs_sl, v_eqs_ii, v_neqs_ii, sel_andt, sel_andf, sel_nandt, sel_nandf, encI, Int.toNat_natCast, lq_e, lq_r, Bool.not_true, Bool.not_false, Bool.false_eq_true, reduceIte, decide_true, decide_false, v_build_fill, v_buildS_fill, fill_nil, fill_cons, AV.cells, putL, chunk, List.length_cons, List.length_nil, Nat.reduceAdd, Nat.reduceDiv, Nat.reduceMod, List.take_succ_cons, List.take_zero, List.take_nil, List.drop_succ_cons, List.drop_zero, List.drop_nil, List.cons_append, List.nil_append, List.append_nil, List.all_cons, List.all_nil, AV.one, Nat.reduceLeDiff, and_self, and_true, true_and, Nat.zero_add, ne_eq, Nat.succ_ne_zero, not_false_eq_true, Bool.and_self, Nat.reduceEqDiff, Nat.le_refl, res5, vt5, V5, k5_0, k5_1, k5_2, k5_8, k5_9, k5_10, k5_11, k5_12, k5_7, k5_13, k5_14, k5_15, k5_6, k5_16, k5_18, k5_17, k5_19, k5_5, k5_20, k5_23, k5_22, k5_21, k5_24, k5_4, k5_25, k5_26, k5_30, k5_29, k5_28, k5_27, k5_31, k5_32, k5_33, k5_34, k5_35, k5_3, k5_36, k5_37]
  refine call_pure (do_pure l (by omega) a kl (by omega) k r) ?_
  have hgood := do_good l a kl k r
  have hmore := do_more l a kl k r
  generalize doS l a kl k r = w at hgood hmore ⊢
  obtain ⟨li, p, ki, A⟩ := w
  obtain ⟨g1, g2, g3⟩ := hgood
  simp only at g1 g2 g3 hmore
  rw [doR_mk]
  simp (disch := omega) only [sel_t, sel_f, sel_dt, sel_df, sel_nt, sel_nf, v_lss, v_leq, v_gtr, v_geq, v_eql, v_neq, v_add, v_sub, v_not, v_min, v_max, v_pick_t, v_pick_f, v_ext0, v_ext1, v_ext2, v_len_isl, List.length_map, v_len_nils, v_len_sl0, v_len_sl, v_ix_map, v_ix_sl, v_nil_ptr, v_nil_iptr, v_fa_ptr, v_fa_iptr, cell_0, cell_s, cell_a2, cell_a3, cell_a7, cell_a10, v_load_map, v_load_r1, v_call_fn, v_call_fnS, v_load_H, ldH_one, ldH_map, v_store_H, stH_one, upd_same, upd_cons_ne, upd_nil, v_box, v_fld, eqs_nils, eqs_sl, v_eqs_ii, v_neqs_ii, sel_andt, sel_andf, sel_nandt, sel_nandf, encI, Int.toNat_natCast, lq_e, lq_r, Bool.not_true, Bool.not_false, Bool.false_eq_true, reduceIte, decide_true, decide_false, v_build_fill, v_buildS_fill, fill_nil, fill_cons, AV.cells, putL, chunk, List.length_cons, List.length_nil, Nat.reduceAdd, Nat.reduceDiv, Nat.reduceMod, List.take_succ_cons, List.take_zero, List.take_nil, List.drop_succ_cons, List.drop_zero, List.drop_nil, List.cons_append, List.nil_append, List.append_nil, List.all_cons, List.all_nil, AV.one, Nat.reduceLeDiff, and_self, and_true, true_and, Nat.zero_add, ne_eq, Nat.succ_ne_zero, not_false_eq_true, Bool.and_self, Nat.reduceEqDiff, Nat.le_refl, res5, vt5, V5, k5_0, k5_1, k5_2, k5_8, k5_9, k5_10, k5_11, k5_12, k5_7, k5_13, k5_14, k5_15, k5_6, k5_16, k5_18, k5_17, k5_19, k5_5, k5_20, k5_23, k5_22, k5_21, k5_24, k5_4, k5_25, k5_26, k5_30, k5_29, k5_28, k5_27, k5_31, k5_32, k5_33, k5_34, k5_35, k5_3, k5_36, k5_37]
  refine ⟨(by (repeat' (first | exact cf_nil | exact allp_nil | refine cf_add ?_ ?_ | refine allp_add ?_ ?_)); all_goals (first | exact Or.inl rfl | exact Or.inl (by decide) | exact Or.inr ⟨by (simp (decide := true) [clash, ne_eq] <;> assumption), by (simp (decide := true) [clash, ne_eq] <;> assumption)⟩)), ?_⟩
  have p2 := apply_pure l A (by omega) (by omega)
  rw [g1, appR] at p2
  refine call_pure p2 ?_
  simp (disch := omega) only [sel_t, sel_f, sel_dt, sel_df, sel_nt, sel_nf, v_lss, v_leq, v_gtr, v_geq, v_eql, v_neq, v_add, v_sub, v_not, v_min, v_max, v_pick_t, v_pick_f, v_ext0, v_ext1, v_ext2, v_len_isl, List.length_map, v_len_nils, v_len_sl0, v_len_sl, v_ix_map, v_ix_sl, v_nil_ptr, v_nil_iptr, v_fa_ptr, v_fa_iptr, cell_0, cell_s, cell_a2, cell_a3, cell_a7, cell_a10, v_load_map, v_load_r1, v_call_fn, v_call_fnS, v_load_H, ldH_one, ldH_map, v_store_H, stH_one, upd_same, upd_cons_ne, upd_nil, v_box, v_fld, eqs_nils, eqs_sl, v_eqs_ii, v_neqs_ii, sel_andt, sel_andf, sel_nandt, sel_nandf, encI, Int.toNat_natCast, lq_e, lq_r, Bool.not_true, Bool.not_false, Bool.false_eq_true, reduceIte, decide_true, decide_false, v_build_fill, v_buildS_fill, fill_nil, fill_cons, AV.cells, putL, chunk, List.length_cons, List.length_nil, Nat.reduceAdd, Nat.reduceDiv, Nat.reduceMod, List.take_succ_cons, List.take_zero, List.take_nil, List.drop_succ_cons, List.drop_zero, List.drop_nil, List.cons_append, List.nil_append, List.append_nil, List.all_cons, List.all_nil, AV.one, Nat.reduceLeDiff, and_self, and_true, true_and, Nat.zero_add, ne_eq, Nat.succ_ne_zero, not_false_eq_true, Bool.and_self, Nat.reduceEqDiff, Nat.le_refl, res5, vt5, V5, k5_0, k5_1, k5_2, k5_8, k5_9, k5_10, k5_11, k5_12, k5_7, k5_13, k5_14, k5_15, k5_6, k5_16, k5_18, k5_17, k5_19, k5_5, k5_20, k5_23, k5_22, k5_21, k5_24, k5_4, k5_25, k5_26, k5_30, k5_29, k5_28, k5_27, k5_31, k5_32, k5_33, k5_34, k5_35, k5_3, k5_36, k5_37]
  refine call_pure (same_refl li (by omega)) ?_
  simp (disch := omega) only [sel_t, sel_f, sel_dt, sel_df, sel_nt, sel_nf, v_lss, v_leq, v_gtr, v_geq, v_eql, v_neq, v_add, v_sub, v_not, v_min, v_max, v_pick_t, v_pick_f, v_ext0, v_ext1, v_ext2, v_len_isl, List.length_map, v_len_nils, v_len_sl0, v_len_sl, v_ix_map, v_ix_sl, v_nil_ptr, v_nil_iptr, v_fa_ptr, v_fa_iptr, cell_0, cell_s, cell_a2, cell_a3, cell_a7, cell_a10, v_load_map, v_load_r1, v_call_fn, v_call_fnS, v_load_H, ldH_one, ldH_map, v_store_H, stH_one, upd_same, upd_cons_ne, upd_nil, v_box, v_fld, eqs_nils, eqs_sl, v_eqs_ii, v_neqs_ii, sel_andt, sel_andf, sel_nandt, sel_nandf, encI, Int.toNat_natCast, lq_e, lq_r, Bool.not_true, Bool.not_false, Bool.false_eq_true, reduceIte, decide_true, decide_false, v_build_fill, v_buildS_fill, fill_nil, fill_cons, AV.cells, putL, chunk, List.length_cons, List.length_nil, Nat.reduceAdd, Nat.reduceDiv, Nat.reduceMod, List.take_succ_cons, List.take_zero, List.take_nil, List.drop_succ_cons, List.drop_zero, List.drop_nil, List.cons_append, List.nil_append, List.append_nil, List.all_cons, List.all_nil, AV.one, Nat.reduceLeDiff, and_self, and_true, true_and, Nat.zero_add, ne_eq, Nat.succ_ne_zero, not_false_eq_true, Bool.and_self, Nat.reduceEqDiff, Nat.le_refl, res5, vt5, V5, k5_0, k5_1, k5_2, k5_8, k5_9, k5_10, k5_11, k5_12, k5_7, k5_13, k5_14, k5_15, k5_6, k5_16, k5_18, k5_17, k5_19, k5_5, k5_20, k5_23, k5_22, k5_21, k5_24, k5_4, k5_25, k5_26, k5_30, k5_29, k5_28, k5_27, k5_31, k5_32, k5_33, k5_34, k5_35, k5_3, k5_36, k5_37, v_max]
  (try simp (disch := omega) only [sel_t, sel_f, sel_dt, sel_df, sel_nt, sel_nf, v_lss, v_leq, v_gtr, v_geq, v_eql, v_neq, v_add, v_sub, v_not, v_min, v_max, v_pick_t, v_pick_f, v_ext0, v_ext1, v_ext2, v_len_isl, List.length_map, v_len_nils, v_len_sl0, v_len_sl, v_ix_map, v_ix_sl, v_nil_ptr, v_nil_iptr, v_fa_ptr, v_fa_iptr, cell_0, cell_s, cell_a2, cell_a3, cell_a7, cell_a10, v_load_map, v_load_r1, v_call_fn, v_call_fnS, v_load_H, ldH_one, ldH_map, v_store_H, stH_one, upd_same, upd_cons_ne, upd_nil, v_box, v_fld, eqs_nils, eqs_sl, v_eqs_ii, v_neqs_ii, sel_andt, sel_andf, sel_nandt, sel_nandf, encI, Int.toNat_natCast, lq_e, lq_r, Bool.not_true, Bool.not_false, Bool.false_eq_true, reduceIte, decide_true, decide_false, v_build_fill, v_buildS_fill, fill_nil, fill_cons, AV.cells, putL, chunk, List.length_cons, List.length_nil, Nat.reduceAdd, Nat.reduceDiv, Nat.reduceMod, List.take_succ_cons, List.take_zero, List.take_nil, List.drop_succ_cons, List.drop_zero, List.drop_nil, List.cons_append, List.nil_append, List.append_nil, List.all_cons, List.all_nil, AV.one, Nat.reduceLeDiff, and_self, and_true, true_and, Nat.zero_add, ne_eq, Nat.succ_ne_zero, not_false_eq_true, Bool.and_self, Nat.reduceEqDiff, Nat.le_refl, res5, vt5, V5, k5_0, k5_1, k5_2, k5_8, k5_9, k5_10, k5_11, k5_12, k5_7, k5_13, k5_14, k5_15, k5_6, k5_16, k5_18, k5_17, k5_19, k5_5, k5_20, k5_23, k5_22, k5_21, k5_24, k5_4, k5_25, k5_26, k5_30, k5_29, k5_28, k5_27, k5_31, k5_32, k5_33, k5_34, k5_35, k5_3, k5_36, k5_37]); refine call_pure live18 ?_; (try simp (disch := omega) only [sel_t, sel_f, sel_dt, sel_df, sel_nt, sel_nf, v_lss, v_leq, v_gtr, v_geq, v_eql, v_neq, v_add, v_sub, v_not, v_min, v_max, v_pick_t, v_pick_f, v_ext0, v_ext1, v_ext2, v_len_isl, List.length_map, v_len_nils, v_len_sl0, v_len_sl, v_ix_map, v_ix_sl, v_nil_ptr, v_nil_iptr, v_fa_ptr, v_fa_iptr, cell_0, cell_s, cell_a2, cell_a3, cell_a7, cell_a10, v_load_map, v_load_r1, v_call_fn, v_call_fnS, v_load_H, ldH_one, ldH_map, v_store_H, stH_one, upd_same, upd_cons_ne, upd_nil, v_box, v_fld, eqs_nils, eqs_sl, v_eqs_ii, v_neqs_ii, sel_andt, sel_andf, sel_nandt, sel_nandf, encI, Int.toNat_natCast, lq_e, lq_r, Bool.not_true, Bool.not_false, Bool.false_eq_true, reduceIte, decide_true, decide_false, v_build_fill, v_buildS_fill, fill_nil, fill_cons, AV.cells, putL, chunk, List.length_cons, List.length_nil, Nat.reduceAdd, Nat.reduceDiv, Nat.reduceMod, List.take_succ_cons, List.take_zero, List.take_nil, List.drop_succ_cons, List.drop_zero, List.drop_nil, List.cons_append, List.nil_append, List.append_nil, List.all_cons, List.all_nil, AV.one, Nat.reduceLeDiff, and_self, and_true, true_and, Nat.zero_add, ne_eq, Nat.succ_ne_zero, not_false_eq_true, Bool.and_self, Nat.reduceEqDiff, Nat.le_refl, res5, vt5, V5, k5_0, k5_1, k5_2, k5_8, k5_9, k5_10, k5_11, k5_12, k5_7, k5_13, k5_14, k5_15, k5_6, k5_16, k5_18, k5_17, k5_19, k5_5, k5_20, k5_23, k5_22, k5_21, k5_24, k5_4, k5_25, k5_26, k5_30, k5_29, k5_28, k5_27, k5_31, k5_32, k5_33, k5_34, k5_35, k5_3, k5_36, k5_37]); exact vp1 rfl
end Go.Proofs.Ytbngfbpegdcpkaa
