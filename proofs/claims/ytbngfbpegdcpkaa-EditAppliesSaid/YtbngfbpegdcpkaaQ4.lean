/- Texts of the proof, joined. -/
import Derived.Test.YtbngfbpegdcpkaaQ3
import Derived.Test.YtbngfbpegdcpkaaProg
import Derived.KernelRfl
/-! Joined texts. -/
namespace Go.Proofs.Ytbngfbpegdcpkaa
set_option linter.unusedVariables false
set_option linter.unusedSimpArgs false
set_option maxRecDepth 100000
/-! Words: letters, the next rune that is one, or is none. -/
section
def or32 (c : Int) : Int := IntKind.i64.wrap (BitVec.ofInt 64 c ||| BitVec.ofInt 64 32).toNat
theorem v_or32 {c : Int} {K : AV → Prop} : vBin .or .num (.int .i64 c) (.int .i64 32) K = K (.int .i64 (or32 c)) := bin_of rfl
def letB (c : Int) : Bool := (decide (48 ≤ c) && decide (c ≤ 57)) || (decide (97 ≤ or32 c) && decide (or32 c ≤ 122)) || decide (c = 95) || decide (127 < c)
theorem letter_pure (c : Int) : Pure Try.prog 38 [.int .i64 c] (.bool (letB c)) := by
  refine pure_vc Try.mixed ok38 rfl (fun q => ?_)
  simp only [params, Nat.zero_add, Nat.reduceAdd]
  repeat' (first | (simp (disch := omega) only [sel_t, sel_f, sel_dt, sel_df, sel_nt, sel_nf, v_lss, v_leq, v_gtr, v_geq, v_eql, v_neq, v_add, v_sub, v_not, v_min, v_max, v_pick_t, v_pick_f, v_ext0, v_ext1, v_ext2, v_len_isl, List.length_map, v_len_nils, v_len_sl0, v_len_sl, v_ix_map, v_ix_sl, v_nil_ptr, v_nil_iptr, v_fa_ptr, v_fa_iptr, cell_0, cell_s, cell_a2, cell_a3, cell_a7, cell_a10, v_load_map, v_load_r1, v_call_fn, v_call_fnS, v_load_H, ldH_one, ldH_map, v_store_H, stH_one, upd_same, upd_cons_ne, upd_nil, v_box, v_fld, eqs_nils, eqs_sl, v_eqs_ii, v_neqs_ii, sel_andt, sel_andf, sel_nandt, sel_nandf, encI, Int.toNat_natCast, lq_e, lq_r, Bool.not_true, Bool.not_false, Bool.false_eq_true, reduceIte, decide_true, decide_false, v_build_fill, v_buildS_fill, fill_nil, fill_cons, AV.cells, putL, chunk, List.length_cons, List.length_nil, Nat.reduceAdd, Nat.reduceDiv, Nat.reduceMod, List.take_succ_cons, List.take_zero, List.take_nil, List.drop_succ_cons, List.drop_zero, List.drop_nil, List.cons_append, List.nil_append, List.append_nil, List.all_cons, List.all_nil, AV.one, Nat.reduceLeDiff, and_self, and_true, true_and, Nat.zero_add, ne_eq, Nat.succ_ne_zero, not_false_eq_true, Bool.and_self, Nat.reduceEqDiff, Nat.le_refl, res38, vt38, V38, k38_3, k38_2, k38_1, k38_4, k38_6, k38_7, k38_9, k38_10, k38_11, k38_8, k38_12, k38_5, k38_13, k38_16, k38_17, k38_15, k38_14, k38_18, k38_19, k38_0, k38_20, k38_23, k38_24, k38_26, k38_27, k38_25, k38_28, k38_22, k38_29, k38_32, k38_33, k38_31, k38_30, k38_34, k38_21, k38_35, v_or32]) | (refine sel_d (fun _ => ?_) (fun _ => ?_)) | (refine sel_n (fun _ => ?_) (fun _ => ?_)) | (refine sel_and (fun _ => ?_) (fun _ => ?_)) | (refine sel_nand (fun _ => ?_) (fun _ => ?_)) | (refine And.intro (clash_quiet rfl) ?_) | (refine eqs_isl (fun _ => ?_) ?_) | (exfalso; omega; done))
  all_goals (refine vp1 (congrArg AV.bool ?_); (try simp [letB, *]); (try omega))
/-- is a rune what is looked for? -/
def askB (b : Bool) (c : Int) : Bool := letB c != b
theorem vn_bb {a b : Bool} {K : AV → Prop} : vBin .neq .bool (.bool a) (.bool b) K = K (.bool (!(a == b))) := bin_of (by simp [aBin, eqNeq])
theorem ask_sound {H : Heap} {q l : Lab} {b : Bool} (hl : H l = some (.rows 1 [[.bool b]])) (c : Int) : SoundRes Try.prog 37 [.int .i64 c, .ptr l 1 0 0] H q ⟨.bool (askB b c), [], some [l]⟩ := by
  refine sound_vc Try.mixed ok37 rfl (fun l hl => absurd hl (not_has_nil l)) ?_
  have hs : restr H (some [l]) l = some (.rows 1 [[.bool b]]) := by rw [restr_at (by simp)]; exact hl
  generalize restr H (some [l]) = G at hs
  simp only [params, Nat.zero_add, Nat.reduceAdd]
  simp (disch := omega) only [sel_t, sel_f, sel_dt, sel_df, sel_nt, sel_nf, v_lss, v_leq, v_gtr, v_geq, v_eql, v_neq, v_add, v_sub, v_not, v_min, v_max, v_pick_t, v_pick_f, v_ext0, v_ext1, v_ext2, v_len_isl, List.length_map, v_len_nils, v_len_sl0, v_len_sl, v_ix_map, v_ix_sl, v_nil_ptr, v_nil_iptr, v_fa_ptr, v_fa_iptr, cell_0, cell_s, cell_a2, cell_a3, cell_a7, cell_a10, v_load_map, v_load_r1, v_call_fn, v_call_fnS, v_load_H, ldH_one, ldH_map, v_store_H, stH_one, upd_same, upd_cons_ne, upd_nil, v_box, v_fld, eqs_nils, eqs_sl, v_eqs_ii, v_neqs_ii, sel_andt, sel_andf, sel_nandt, sel_nandf, encI, Int.toNat_natCast, lq_e, lq_r, Bool.not_true, Bool.not_false, Bool.false_eq_true, reduceIte, decide_true, decide_false, v_build_fill, v_buildS_fill, fill_nil, fill_cons, AV.cells, putL, chunk, List.length_cons, List.length_nil, Nat.reduceAdd, Nat.reduceDiv, Nat.reduceMod, List.take_succ_cons, List.take_zero, List.take_nil, List.drop_succ_cons, List.drop_zero, List.drop_nil, List.cons_append, List.nil_append, List.append_nil, List.all_cons, List.all_nil, AV.one, Nat.reduceLeDiff, and_self, and_true, true_and, Nat.zero_add, ne_eq, Nat.succ_ne_zero, not_false_eq_true, Bool.and_self, Nat.reduceEqDiff, Nat.le_refl, res37, vt37, V37, k37_0, vn_bb]
  refine call_pure (letter_pure c) ?_
  simp (disch := omega) only [sel_t, sel_f, sel_dt, sel_df, sel_nt, sel_nf, v_lss, v_leq, v_gtr, v_geq, v_eql, v_neq, v_add, v_sub, v_not, v_min, v_max, v_pick_t, v_pick_f, v_ext0, v_ext1, v_ext2, v_len_isl, List.length_map, v_len_nils, v_len_sl0, v_len_sl, v_ix_map, v_ix_sl, v_nil_ptr, v_nil_iptr, v_fa_ptr, v_fa_iptr, cell_0, cell_s, cell_a2, cell_a3, cell_a7, cell_a10, v_load_map, v_load_r1, v_call_fn, v_call_fnS, v_load_H, ldH_one, ldH_map, v_store_H, stH_one, upd_same, upd_cons_ne, upd_nil, v_box, v_fld, eqs_nils, eqs_sl, v_eqs_ii, v_neqs_ii, sel_andt, sel_andf, sel_nandt, sel_nandf, encI, Int.toNat_natCast, lq_e, lq_r, Bool.not_true, Bool.not_false, Bool.false_eq_true, reduceIte, decide_true, decide_false, v_build_fill, v_buildS_fill, fill_nil, fill_cons, AV.cells, putL, chunk, List.length_cons, List.length_nil, Nat.reduceAdd, Nat.reduceDiv, Nat.reduceMod, List.take_succ_cons, List.take_zero, List.take_nil, List.drop_succ_cons, List.drop_zero, List.drop_nil, List.cons_append, List.nil_append, List.append_nil, List.all_cons, List.all_nil, AV.one, Nat.reduceLeDiff, and_self, and_true, true_and, Nat.zero_add, ne_eq, Nat.succ_ne_zero, not_false_eq_true, Bool.and_self, Nat.reduceEqDiff, Nat.le_refl, res37, vt37, V37, k37_0, vn_bb, hs]
  refine ⟨clash_quiet rfl, ?_⟩
  refine ⟨.inr rfl, .bool (askB b c), by simp [aRes, aResL, aRes1, rget, askB, bne], .refl _, fun l o h => h⟩
/-- how many ahead of the first that is asked for -/
def skipN (b : Bool) (l : List Int) : Nat := (l.takeWhile fun c => !askB b c).length
def findI (b : Bool) (l : List Int) : Int := if skipN b l < l.length then skipN b l else -1
theorem tw_at {p : Int → Bool} : ∀ {l : List Int} {i : Nat}, i < l.length → (∀ k, k < i → p (nth l k) = true) → p (nth l i) = false → (l.takeWhile p).length = i
  | [], i, h, _, _ => by simp at h
  | a :: l, 0, _, _, h => by
    have : p a = false := by simpa [nth] using h
    simp [List.takeWhile_cons, this]
  | a :: l, i + 1, h, hk, h1 => by
    have ha : p a = true := by simpa [nth] using hk 0 (by omega)
    have := tw_at (l := l) (i := i) (by simpa using h) (fun k hk' => by simpa [nth] using hk (k + 1) (by omega)) (by simpa [nth] using h1)
    simp [List.takeWhile_cons, ha, this]
theorem tw_all {p : Int → Bool} : ∀ {l : List Int}, (∀ k, k < l.length → p (nth l k) = true) → (l.takeWhile p).length = l.length
  | [], _ => rfl
  | a :: l, hk => by
    have ha : p a = true := by simpa [nth] using hk 0 (by simp)
    have := tw_all (l := l) (fun k hk' => by simpa [nth] using hk (k + 1) (by simpa using hk'))
    simp [List.takeWhile_cons, ha, this]
theorem index_sound {H : Heap} {q l : Lab} {b : Bool} (hl : H l = some (.rows 1 [[.bool b]])) (d : List Int) (hd : d.length ≤ 1000000000) : SoundRes Try.prog 36 [il d, .fn (.func 37) [] [.ptr l 1 0 0]] H q ⟨.int .i64 (findI b d), [], some [l]⟩ := by
  refine sound_vc Try.mixed ok36 rfl (fun l hl => absurd hl (not_has_nil l)) ?_
  have hs : restr H (some [l]) l = some (.rows 1 [[.bool b]]) := by rw [restr_at (by simp)]; exact hl
  generalize restr H (some [l]) = G at hs
  simp only [params, Nat.zero_add, Nat.reduceAdd]
  simp (disch := omega) only [sel_t, sel_f, sel_dt, sel_df, sel_nt, sel_nf, v_lss, v_leq, v_gtr, v_geq, v_eql, v_neq, v_add, v_sub, v_not, v_min, v_max, v_pick_t, v_pick_f, v_ext0, v_ext1, v_ext2, v_len_isl, List.length_map, v_len_nils, v_len_sl0, v_len_sl, v_ix_map, v_ix_sl, v_nil_ptr, v_nil_iptr, v_fa_ptr, v_fa_iptr, cell_0, cell_s, cell_a2, cell_a3, cell_a7, cell_a10, v_load_map, v_load_r1, v_call_fn, v_call_fnS, v_load_H, ldH_one, ldH_map, v_store_H, stH_one, upd_same, upd_cons_ne, upd_nil, v_box, v_fld, eqs_nils, eqs_sl, v_eqs_ii, v_neqs_ii, sel_andt, sel_andf, sel_nandt, sel_nandf, encI, Int.toNat_natCast, lq_e, lq_r, Bool.not_true, Bool.not_false, Bool.false_eq_true, reduceIte, decide_true, decide_false, v_build_fill, v_buildS_fill, fill_nil, fill_cons, AV.cells, putL, chunk, List.length_cons, List.length_nil, Nat.reduceAdd, Nat.reduceDiv, Nat.reduceMod, List.take_succ_cons, List.take_zero, List.take_nil, List.drop_succ_cons, List.drop_zero, List.drop_nil, List.cons_append, List.nil_append, List.append_nil, List.all_cons, List.all_nil, AV.one, Nat.reduceLeDiff, and_self, and_true, true_and, Nat.zero_add, ne_eq, Nat.succ_ne_zero, not_false_eq_true, Bool.and_self, Nat.reduceEqDiff, Nat.le_refl, res36, q36_0_ret, q36_0_e0, vt36, vt36_1, vt36_2, V36, V36_1, V36_2, k36_1, k36_2, k36_3, k36_4, k36_5, k36_0, k36_6, v_call_fn]
  refine vloop (fun n r H c => ∃ i : Nat, r = [(0, il d), (1, .fn (.func 37) [] [.ptr l 1 0 0]), (7, .int .i64 d.length), (8, .int .i64 i)] ∧ H = G ∧ i ≤ d.length ∧ n = d.length - i ∧ ∀ k, k < i → askB b (nth d k) = false) d.length ⟨0, rfl, rfl, by omega, rfl, fun k hk => by omega⟩ ?_
  rintro n r H' c ⟨i, rfl, rfl, hi, rfl, hk⟩
  repeat' (first | (simp (disch := omega) only [sel_t, sel_f, sel_dt, sel_df, sel_nt, sel_nf, v_lss, v_leq, v_gtr, v_geq, v_eql, v_neq, v_add, v_sub, v_not, v_min, v_max, v_pick_t, v_pick_f, v_ext0, v_ext1, v_ext2, v_len_isl, List.length_map, v_len_nils, v_len_sl0, v_len_sl, v_ix_map, v_ix_sl, v_nil_ptr, v_nil_iptr, v_fa_ptr, v_fa_iptr, cell_0, cell_s, cell_a2, cell_a3, cell_a7, cell_a10, v_load_map, v_load_r1, v_call_fn, v_call_fnS, v_load_H, ldH_one, ldH_map, v_store_H, stH_one, upd_same, upd_cons_ne, upd_nil, v_box, v_fld, eqs_nils, eqs_sl, v_eqs_ii, v_neqs_ii, sel_andt, sel_andf, sel_nandt, sel_nandf, encI, Int.toNat_natCast, lq_e, lq_r, Bool.not_true, Bool.not_false, Bool.false_eq_true, reduceIte, decide_true, decide_false, v_build_fill, v_buildS_fill, fill_nil, fill_cons, AV.cells, putL, chunk, List.length_cons, List.length_nil, Nat.reduceAdd, Nat.reduceDiv, Nat.reduceMod, List.take_succ_cons, List.take_zero, List.take_nil, List.drop_succ_cons, List.drop_zero, List.drop_nil, List.cons_append, List.nil_append, List.append_nil, List.all_cons, List.all_nil, AV.one, Nat.reduceLeDiff, and_self, and_true, true_and, Nat.zero_add, ne_eq, Nat.succ_ne_zero, not_false_eq_true, Bool.and_self, Nat.reduceEqDiff, Nat.le_refl, res36, q36_0_ret, q36_0_e0, vt36, vt36_1, vt36_2, V36, V36_1, V36_2, k36_1, k36_2, k36_3, k36_4, k36_5, k36_0, k36_6, v_call_fn]) | (refine sel_d (fun _ => ?_) (fun _ => ?_)) | (refine sel_n (fun _ => ?_) (fun _ => ?_)) | (refine sel_and (fun _ => ?_) (fun _ => ?_)) | (refine sel_nand (fun _ => ?_) (fun _ => ?_)) | (refine And.intro (clash_quiet rfl) ?_) | (refine eqs_isl (fun _ => ?_) ?_) | (exfalso; omega; done))
  · rename_i hlt
    refine call_res (ask_sound hs (nth d i)) ?_
    simp (disch := omega) only [sel_t, sel_f, sel_dt, sel_df, sel_nt, sel_nf, v_lss, v_leq, v_gtr, v_geq, v_eql, v_neq, v_add, v_sub, v_not, v_min, v_max, v_pick_t, v_pick_f, v_ext0, v_ext1, v_ext2, v_len_isl, List.length_map, v_len_nils, v_len_sl0, v_len_sl, v_ix_map, v_ix_sl, v_nil_ptr, v_nil_iptr, v_fa_ptr, v_fa_iptr, cell_0, cell_s, cell_a2, cell_a3, cell_a7, cell_a10, v_load_map, v_load_r1, v_call_fn, v_call_fnS, v_load_H, ldH_one, ldH_map, v_store_H, stH_one, upd_same, upd_cons_ne, upd_nil, v_box, v_fld, eqs_nils, eqs_sl, v_eqs_ii, v_neqs_ii, sel_andt, sel_andf, sel_nandt, sel_nandf, encI, Int.toNat_natCast, lq_e, lq_r, Bool.not_true, Bool.not_false, Bool.false_eq_true, reduceIte, decide_true, decide_false, v_build_fill, v_buildS_fill, fill_nil, fill_cons, AV.cells, putL, chunk, List.length_cons, List.length_nil, Nat.reduceAdd, Nat.reduceDiv, Nat.reduceMod, List.take_succ_cons, List.take_zero, List.take_nil, List.drop_succ_cons, List.drop_zero, List.drop_nil, List.cons_append, List.nil_append, List.append_nil, List.all_cons, List.all_nil, AV.one, Nat.reduceLeDiff, and_self, and_true, true_and, Nat.zero_add, ne_eq, Nat.succ_ne_zero, not_false_eq_true, Bool.and_self, Nat.reduceEqDiff, Nat.le_refl, res36, q36_0_ret, q36_0_e0, vt36, vt36_1, vt36_2, V36, V36_1, V36_2, k36_1, k36_2, k36_3, k36_4, k36_5, k36_0, k36_6, v_call_fn]
    cases ha : askB b (nth d i)
    · simp (disch := omega) only [sel_t, sel_f, sel_dt, sel_df, sel_nt, sel_nf, v_lss, v_leq, v_gtr, v_geq, v_eql, v_neq, v_add, v_sub, v_not, v_min, v_max, v_pick_t, v_pick_f, v_ext0, v_ext1, v_ext2, v_len_isl, List.length_map, v_len_nils, v_len_sl0, v_len_sl, v_ix_map, v_ix_sl, v_nil_ptr, v_nil_iptr, v_fa_ptr, v_fa_iptr, cell_0, cell_s, cell_a2, cell_a3, cell_a7, cell_a10, v_load_map, v_load_r1, v_call_fn, v_call_fnS, v_load_H, ldH_one, ldH_map, v_store_H, stH_one, upd_same, upd_cons_ne, upd_nil, v_box, v_fld, eqs_nils, eqs_sl, v_eqs_ii, v_neqs_ii, sel_andt, sel_andf, sel_nandt, sel_nandf, encI, Int.toNat_natCast, lq_e, lq_r, Bool.not_true, Bool.not_false, Bool.false_eq_true, reduceIte, decide_true, decide_false, v_build_fill, v_buildS_fill, fill_nil, fill_cons, AV.cells, putL, chunk, List.length_cons, List.length_nil, Nat.reduceAdd, Nat.reduceDiv, Nat.reduceMod, List.take_succ_cons, List.take_zero, List.take_nil, List.drop_succ_cons, List.drop_zero, List.drop_nil, List.cons_append, List.nil_append, List.append_nil, List.all_cons, List.all_nil, AV.one, Nat.reduceLeDiff, and_self, and_true, true_and, Nat.zero_add, ne_eq, Nat.succ_ne_zero, not_false_eq_true, Bool.and_self, Nat.reduceEqDiff, Nat.le_refl, res36, q36_0_ret, q36_0_e0, vt36, vt36_1, vt36_2, V36, V36_1, V36_2, k36_1, k36_2, k36_3, k36_4, k36_5, k36_0, k36_6, v_call_fn]
      refine lq_n (d.length - (i + 1)) (by omega) ⟨i + 1, rfl, rfl, by omega, rfl, fun k hk' => ?_⟩
      rcases Nat.lt_or_ge k i with h1 | h1
      · exact hk k h1
      · rw [show k = i by omega]; exact ha
    · simp (disch := omega) only [sel_t, sel_f, sel_dt, sel_df, sel_nt, sel_nf, v_lss, v_leq, v_gtr, v_geq, v_eql, v_neq, v_add, v_sub, v_not, v_min, v_max, v_pick_t, v_pick_f, v_ext0, v_ext1, v_ext2, v_len_isl, List.length_map, v_len_nils, v_len_sl0, v_len_sl, v_ix_map, v_ix_sl, v_nil_ptr, v_nil_iptr, v_fa_ptr, v_fa_iptr, cell_0, cell_s, cell_a2, cell_a3, cell_a7, cell_a10, v_load_map, v_load_r1, v_call_fn, v_call_fnS, v_load_H, ldH_one, ldH_map, v_store_H, stH_one, upd_same, upd_cons_ne, upd_nil, v_box, v_fld, eqs_nils, eqs_sl, v_eqs_ii, v_neqs_ii, sel_andt, sel_andf, sel_nandt, sel_nandf, encI, Int.toNat_natCast, lq_e, lq_r, Bool.not_true, Bool.not_false, Bool.false_eq_true, reduceIte, decide_true, decide_false, v_build_fill, v_buildS_fill, fill_nil, fill_cons, AV.cells, putL, chunk, List.length_cons, List.length_nil, Nat.reduceAdd, Nat.reduceDiv, Nat.reduceMod, List.take_succ_cons, List.take_zero, List.take_nil, List.drop_succ_cons, List.drop_zero, List.drop_nil, List.cons_append, List.nil_append, List.append_nil, List.all_cons, List.all_nil, AV.one, Nat.reduceLeDiff, and_self, and_true, true_and, Nat.zero_add, ne_eq, Nat.succ_ne_zero, not_false_eq_true, Bool.and_self, Nat.reduceEqDiff, Nat.le_refl, res36, q36_0_ret, q36_0_e0, vt36, vt36_1, vt36_2, V36, V36_1, V36_2, k36_1, k36_2, k36_3, k36_4, k36_5, k36_0, k36_6, v_call_fn]
      have hn : skipN b d = i := tw_at (by omega) (fun k hk' => by simp [hk k hk']) (by simp [ha])
      have : findI b d = i := by unfold findI; rw [hn, if_pos (by omega)]
      rw [this]
      exact ⟨.inr rfl, _, by simp [aRes, aResL, aRes1, rget], .refl _, fun l o h => h⟩
  · have hn : skipN b d = d.length := tw_all (fun k hk' => by simp [hk k (by omega)])
    have : findI b d = -1 := by unfold findI; rw [hn, if_neg (by omega)]
    rw [this]
    exact ⟨.inr rfl, _, by simp [aRes, aResL, aRes1, rget], .refl _, fun l o h => h⟩
end
/-! Words: the place behind the next one; copies, and turned round. -/
section
def heldN (n : Nat) (a : Int) : Nat := (Min.min (Max.max a 0) (n : Int)).toNat
theorem heldN_le {n : Nat} {a : Int} : heldN n a ≤ n := by unfold heldN; omega
theorem heldN_eq {n : Nat} {a : Int} : (heldN n a : Int) = Min.min (Max.max a 0) (n : Int) := by unfold heldN; omega
theorem held_pure (l : List Int) (a : Int) : Pure Try.prog 26 [il l, .int .i64 a] (.int .i64 (heldN l.length a)) := by
  refine pure_vc Try.mixed ok26 rfl (fun q => ?_)
  simp only [params, Nat.zero_add, Nat.reduceAdd]
  repeat' (first | (simp (disch := omega) only [sel_t, sel_f, sel_dt, sel_df, sel_nt, sel_nf, v_lss, v_leq, v_gtr, v_geq, v_eql, v_neq, v_add, v_sub, v_not, v_min, v_max, v_pick_t, v_pick_f, v_ext0, v_ext1, v_ext2, v_len_isl, List.length_map, v_len_nils, v_len_sl0, v_len_sl, v_ix_map, v_ix_sl, v_nil_ptr, v_nil_iptr, v_fa_ptr, v_fa_iptr, cell_0, cell_s, cell_a2, cell_a3, cell_a7, cell_a10, v_load_map, v_load_r1, v_call_fn, v_call_fnS, v_load_H, ldH_one, ldH_map, v_store_H, stH_one, upd_same, upd_cons_ne, upd_nil, v_box, v_fld, eqs_nils, eqs_sl, v_eqs_ii, v_neqs_ii, sel_andt, sel_andf, sel_nandt, sel_nandf, encI, Int.toNat_natCast, lq_e, lq_r, Bool.not_true, Bool.not_false, Bool.false_eq_true, reduceIte, decide_true, decide_false, v_build_fill, v_buildS_fill, fill_nil, fill_cons, AV.cells, putL, chunk, List.length_cons, List.length_nil, Nat.reduceAdd, Nat.reduceDiv, Nat.reduceMod, List.take_succ_cons, List.take_zero, List.take_nil, List.drop_succ_cons, List.drop_zero, List.drop_nil, List.cons_append, List.nil_append, List.append_nil, List.all_cons, List.all_nil, AV.one, Nat.reduceLeDiff, and_self, and_true, true_and, Nat.zero_add, ne_eq, Nat.succ_ne_zero, not_false_eq_true, Bool.and_self, Nat.reduceEqDiff, Nat.le_refl, res26, vt26, V26]) | (refine sel_d (fun _ => ?_) (fun _ => ?_)) | (refine sel_n (fun _ => ?_) (fun _ => ?_)) | (refine sel_and (fun _ => ?_) (fun _ => ?_)) | (refine sel_nand (fun _ => ?_) (fun _ => ?_)) | (refine And.intro (clash_quiet rfl) ?_) | (refine eqs_isl (fun _ => ?_) ?_) | (exfalso; omega; done))
  rw [heldN_eq]
  exact vp1 rfl
theorem v_slice_lo {H : Heap} {q : Lab} {KK : KF} {l : List Int} {a : Int} (h0 : 0 ≤ a) (h1 : a ≤ l.length) : vGen (.slice 1 true false false) [il l, .int .i64 a] H q KK = KK (il (l.drop a.toNat)) H [] (some []) := by
  have e : List.take ((l.length : Int) - a).toNat (List.drop a.toNat (List.map encI l)) = (l.drop a.toNat).map encI := by
    rw [List.take_of_length_le (by simp; omega), List.map_drop]
  have : aop noCall (.slice 1 true false false) [il l, .int .i64 a] H q = some (.pure (il (l.drop a.toNat))) := by
    simp [aop, aSliceOp, aSlice, AV.len, h0, h1, e]
    rw [← List.map_drop]
  simp [vGen, this]; rfl
theorem v_slice_hi {H : Heap} {q : Lab} {KK : KF} {l : List Int} {a : Int} (h0 : 0 ≤ a) (h1 : a ≤ l.length) : vGen (.slice 1 false true false) [il l, .int .i64 a] H q KK = KK (il (l.take a.toNat)) H [] (some []) := by
  have : aop noCall (.slice 1 false true false) [il l, .int .i64 a] H q = some (.pure (il (l.take a.toNat))) := by
    simp [aop, aSliceOp, aSlice, AV.len, h0, h1, List.map_take]
    rw [← List.map_take]
  simp [vGen, this]; rfl
def wordOn (l : List Int) (a : Nat) : Nat := (a + skipN false (l.drop a)) + skipN true (l.drop (a + skipN false (l.drop a)))
theorem skipN_le {b : Bool} {l : List Int} : skipN b l ≤ l.length := by unfold skipN; exact List.takeWhile_sublist _ |>.length_le
theorem find_neg {b : Bool} {l : List Int} : findI b l < 0 ↔ skipN b l = l.length := by
  have := @skipN_le b l
  unfold findI
  split <;> omega
theorem find_pos {b : Bool} {l : List Int} (h : ¬ findI b l < 0) : findI b l = skipN b l := by
  unfold findI at h ⊢
  by_cases h1 : skipN b l < l.length
  · rw [if_pos h1]
  · rw [if_neg h1] at h; omega
theorem wordOn_le {l : List Int} {a : Nat} (h : a ≤ l.length) : wordOn l a ≤ l.length := by
  unfold wordOn
  have h1 := @skipN_le false (l.drop a)
  rw [List.length_drop] at h1
  have h2 := @skipN_le true (l.drop (a + skipN false (l.drop a)))
  rw [List.length_drop] at h2
  omega
theorem ld2_0 {n e j : Nat} {g : Bool} {r s : List AV} {l : Lab} {KL : AV → Option (List Lab) → Prop} : vLdH n g (some (.rows e [r, s])) l e 0 j KL = vCell n g r j fun x => KL x (some [l]) := by simp [vLdH]
theorem ld2_1 {n e j : Nat} {g : Bool} {r s : List AV} {l : Lab} {KL : AV → Option (List Lab) → Prop} : vLdH n g (some (.rows e [r, s])) l e 1 j KL = vCell n g s j fun x => KL x (some [l]) := by simp [vLdH]
theorem wordOn_pure (l : List Int) (hl : l.length ≤ 1000000000) (a : Int) : Pure Try.prog 22 [il l, .int .i64 a, .bool false] (.int .i64 (wordOn l (heldN l.length a))) := by
  refine pure_vc Try.mixed ok22 rfl (fun q => ?_)
  simp only [params, Nat.zero_add, Nat.reduceAdd]
  simp (disch := omega) only [sel_t, sel_f, sel_dt, sel_df, sel_nt, sel_nf, v_lss, v_leq, v_gtr, v_geq, v_eql, v_neq, v_add, v_sub, v_not, v_min, v_max, v_pick_t, v_pick_f, v_ext0, v_ext1, v_ext2, v_len_isl, List.length_map, v_len_nils, v_len_sl0, v_len_sl, v_ix_map, v_ix_sl, v_nil_ptr, v_nil_iptr, v_fa_ptr, v_fa_iptr, cell_0, cell_s, cell_a2, cell_a3, cell_a7, cell_a10, v_load_map, v_load_r1, v_call_fn, v_call_fnS, v_load_H, ldH_one, ldH_map, v_store_H, stH_one, upd_same, upd_cons_ne, upd_nil, v_box, v_fld, eqs_nils, eqs_sl, v_eqs_ii, v_neqs_ii, sel_andt, sel_andf, sel_nandt, sel_nandf, encI, Int.toNat_natCast, lq_e, lq_r, Bool.not_true, Bool.not_false, Bool.false_eq_true, reduceIte, decide_true, decide_false, v_build_fill, v_buildS_fill, fill_nil, fill_cons, AV.cells, putL, chunk, List.length_cons, List.length_nil, Nat.reduceAdd, Nat.reduceDiv, Nat.reduceMod, List.take_succ_cons, List.take_zero, List.take_nil, List.drop_succ_cons, List.drop_zero, List.drop_nil, List.cons_append, List.nil_append, List.append_nil, List.all_cons, List.all_nil, AV.one, Nat.reduceLeDiff, and_self, and_true, true_and, Nat.zero_add, ne_eq, Nat.succ_ne_zero, not_false_eq_true, Bool.and_self, Nat.reduceEqDiff, Nat.le_refl, res22, q22_0_ret, q22_0_e0, vt22, vt22_1, vt22_2, V22, V22_1, V22_2, k22_1, k22_2, k22_3, k22_0, k22_4, k22_5, k22_6, k22_7, k22_9, k22_10, k22_11, k22_12, k22_13, k22_14, k22_15, k22_8, k22_16, v_slice_lo, ld2_0, ld2_1]
  refine call_pure (held_pure l a) ?_
  have hle := @heldN_le l.length a
  generalize heldN l.length a = a0 at hle ⊢
  simp (disch := omega) only [sel_t, sel_f, sel_dt, sel_df, sel_nt, sel_nf, v_lss, v_leq, v_gtr, v_geq, v_eql, v_neq, v_add, v_sub, v_not, v_min, v_max, v_pick_t, v_pick_f, v_ext0, v_ext1, v_ext2, v_len_isl, List.length_map, v_len_nils, v_len_sl0, v_len_sl, v_ix_map, v_ix_sl, v_nil_ptr, v_nil_iptr, v_fa_ptr, v_fa_iptr, cell_0, cell_s, cell_a2, cell_a3, cell_a7, cell_a10, v_load_map, v_load_r1, v_call_fn, v_call_fnS, v_load_H, ldH_one, ldH_map, v_store_H, stH_one, upd_same, upd_cons_ne, upd_nil, v_box, v_fld, eqs_nils, eqs_sl, v_eqs_ii, v_neqs_ii, sel_andt, sel_andf, sel_nandt, sel_nandf, encI, Int.toNat_natCast, lq_e, lq_r, Bool.not_true, Bool.not_false, Bool.false_eq_true, reduceIte, decide_true, decide_false, v_build_fill, v_buildS_fill, fill_nil, fill_cons, AV.cells, putL, chunk, List.length_cons, List.length_nil, Nat.reduceAdd, Nat.reduceDiv, Nat.reduceMod, List.take_succ_cons, List.take_zero, List.take_nil, List.drop_succ_cons, List.drop_zero, List.drop_nil, List.cons_append, List.nil_append, List.append_nil, List.all_cons, List.all_nil, AV.one, Nat.reduceLeDiff, and_self, and_true, true_and, Nat.zero_add, ne_eq, Nat.succ_ne_zero, not_false_eq_true, Bool.and_self, Nat.reduceEqDiff, Nat.le_refl, res22, q22_0_ret, q22_0_e0, vt22, vt22_1, vt22_2, V22, V22_1, V22_2, k22_1, k22_2, k22_3, k22_0, k22_4, k22_5, k22_6, k22_7, k22_9, k22_10, k22_11, k22_12, k22_13, k22_14, k22_15, k22_8, k22_16, v_slice_lo, ld2_0, ld2_1]
  have h1 := @skipN_le false (l.drop a0)
  have h2 := @skipN_le true (l.drop (a0 + skipN false (l.drop a0)))
  rw [List.length_drop] at h1 h2
  refine vloop (fun n r H c => ∃ (i at' : Nat), r = [(0, il l), (1, .int .i64 at'), (25, .sl (6 :: q) 1 0 2), (26, .int .i64 (2 : Nat)), (27, .int .i64 i)] ∧ i ≤ 2 ∧ n = 2 - i ∧ 7 ≤ c ∧ H (6 :: q) = some (.rows 1 [[.bool false], [.bool true]]) ∧ (i = 0 → at' = a0) ∧ (i = 1 → at' = a0 + skipN false (l.drop a0)) ∧ (i = 2 → at' = wordOn l a0)) 2 ⟨0, a0, rfl, by omega, rfl, by omega, by simp [upd], fun _ => rfl, fun h => by omega, fun h => by omega⟩ ?_
  rintro n r H c ⟨i, at', rfl, hi, rfl, hc, hH, g0, g1, g2⟩
  simp (disch := omega) only [sel_t, sel_f, sel_dt, sel_df, sel_nt, sel_nf, v_lss, v_leq, v_gtr, v_geq, v_eql, v_neq, v_add, v_sub, v_not, v_min, v_max, v_pick_t, v_pick_f, v_ext0, v_ext1, v_ext2, v_len_isl, List.length_map, v_len_nils, v_len_sl0, v_len_sl, v_ix_map, v_ix_sl, v_nil_ptr, v_nil_iptr, v_fa_ptr, v_fa_iptr, cell_0, cell_s, cell_a2, cell_a3, cell_a7, cell_a10, v_load_map, v_load_r1, v_call_fn, v_call_fnS, v_load_H, ldH_one, ldH_map, v_store_H, stH_one, upd_same, upd_cons_ne, upd_nil, v_box, v_fld, eqs_nils, eqs_sl, v_eqs_ii, v_neqs_ii, sel_andt, sel_andf, sel_nandt, sel_nandf, encI, Int.toNat_natCast, lq_e, lq_r, Bool.not_true, Bool.not_false, Bool.false_eq_true, reduceIte, decide_true, decide_false, v_build_fill, v_buildS_fill, fill_nil, fill_cons, AV.cells, putL, chunk, List.length_cons, List.length_nil, Nat.reduceAdd, Nat.reduceDiv, Nat.reduceMod, List.take_succ_cons, List.take_zero, List.take_nil, List.drop_succ_cons, List.drop_zero, List.drop_nil, List.cons_append, List.nil_append, List.append_nil, List.all_cons, List.all_nil, AV.one, Nat.reduceLeDiff, and_self, and_true, true_and, Nat.zero_add, ne_eq, Nat.succ_ne_zero, not_false_eq_true, Bool.and_self, Nat.reduceEqDiff, Nat.le_refl, res22, q22_0_ret, q22_0_e0, vt22, vt22_1, vt22_2, V22, V22_1, V22_2, k22_1, k22_2, k22_3, k22_0, k22_4, k22_5, k22_6, k22_7, k22_9, k22_10, k22_11, k22_12, k22_13, k22_14, k22_15, k22_8, k22_16, v_slice_lo, ld2_0, ld2_1, hH]
  refine sel_d (fun hlt => ?_) (fun hge => ?_)
  · have hi2 : i = 0 ∨ i = 1 := by omega
    rcases hi2 with rfl | rfl
    · obtain rfl := g0 rfl
      simp (disch := omega) only [sel_t, sel_f, sel_dt, sel_df, sel_nt, sel_nf, v_lss, v_leq, v_gtr, v_geq, v_eql, v_neq, v_add, v_sub, v_not, v_min, v_max, v_pick_t, v_pick_f, v_ext0, v_ext1, v_ext2, v_len_isl, List.length_map, v_len_nils, v_len_sl0, v_len_sl, v_ix_map, v_ix_sl, v_nil_ptr, v_nil_iptr, v_fa_ptr, v_fa_iptr, cell_0, cell_s, cell_a2, cell_a3, cell_a7, cell_a10, v_load_map, v_load_r1, v_call_fn, v_call_fnS, v_load_H, ldH_one, ldH_map, v_store_H, stH_one, upd_same, upd_cons_ne, upd_nil, v_box, v_fld, eqs_nils, eqs_sl, v_eqs_ii, v_neqs_ii, sel_andt, sel_andf, sel_nandt, sel_nandf, encI, Int.toNat_natCast, lq_e, lq_r, Bool.not_true, Bool.not_false, Bool.false_eq_true, reduceIte, decide_true, decide_false, v_build_fill, v_buildS_fill, fill_nil, fill_cons, AV.cells, putL, chunk, List.length_cons, List.length_nil, Nat.reduceAdd, Nat.reduceDiv, Nat.reduceMod, List.take_succ_cons, List.take_zero, List.take_nil, List.drop_succ_cons, List.drop_zero, List.drop_nil, List.cons_append, List.nil_append, List.append_nil, List.all_cons, List.all_nil, AV.one, Nat.reduceLeDiff, and_self, and_true, true_and, Nat.zero_add, ne_eq, Nat.succ_ne_zero, not_false_eq_true, Bool.and_self, Nat.reduceEqDiff, Nat.le_refl, res22, q22_0_ret, q22_0_e0, vt22, vt22_1, vt22_2, V22, V22_1, V22_2, k22_1, k22_2, k22_3, k22_0, k22_4, k22_5, k22_6, k22_7, k22_9, k22_10, k22_11, k22_12, k22_13, k22_14, k22_15, k22_8, k22_16, v_slice_lo, ld2_0, ld2_1, hH]
      refine call_res (index_sound (b := false) upd_same _ (by rw [List.length_drop]; omega)) ?_
      have hd : (l.drop at').length = l.length - at' := List.length_drop
      simp (disch := omega) only [sel_t, sel_f, sel_dt, sel_df, sel_nt, sel_nf, v_lss, v_leq, v_gtr, v_geq, v_eql, v_neq, v_add, v_sub, v_not, v_min, v_max, v_pick_t, v_pick_f, v_ext0, v_ext1, v_ext2, v_len_isl, List.length_map, v_len_nils, v_len_sl0, v_len_sl, v_ix_map, v_ix_sl, v_nil_ptr, v_nil_iptr, v_fa_ptr, v_fa_iptr, cell_0, cell_s, cell_a2, cell_a3, cell_a7, cell_a10, v_load_map, v_load_r1, v_call_fn, v_call_fnS, v_load_H, ldH_one, ldH_map, v_store_H, stH_one, upd_same, upd_cons_ne, upd_nil, v_box, v_fld, eqs_nils, eqs_sl, v_eqs_ii, v_neqs_ii, sel_andt, sel_andf, sel_nandt, sel_nandf, encI, Int.toNat_natCast, lq_e, lq_r, Bool.not_true, Bool.not_false, Bool.false_eq_true, reduceIte, decide_true, decide_false, v_build_fill, v_buildS_fill, fill_nil, fill_cons, AV.cells, putL, chunk, List.length_cons, List.length_nil, Nat.reduceAdd, Nat.reduceDiv, Nat.reduceMod, List.take_succ_cons, List.take_zero, List.take_nil, List.drop_succ_cons, List.drop_zero, List.drop_nil, List.cons_append, List.nil_append, List.append_nil, List.all_cons, List.all_nil, AV.one, Nat.reduceLeDiff, and_self, and_true, true_and, Nat.zero_add, ne_eq, Nat.succ_ne_zero, not_false_eq_true, Bool.and_self, Nat.reduceEqDiff, Nat.le_refl, res22, q22_0_ret, q22_0_e0, vt22, vt22_1, vt22_2, V22, V22_1, V22_2, k22_1, k22_2, k22_3, k22_0, k22_4, k22_5, k22_6, k22_7, k22_9, k22_10, k22_11, k22_12, k22_13, k22_14, k22_15, k22_8, k22_16, v_slice_lo, ld2_0, ld2_1]
      refine sel_d (fun hneg => ?_) (fun hpos => ?_)
      · have hn := find_neg.1 hneg
        rw [hd] at hn
        simp (disch := omega) only [sel_t, sel_f, sel_dt, sel_df, sel_nt, sel_nf, v_lss, v_leq, v_gtr, v_geq, v_eql, v_neq, v_add, v_sub, v_not, v_min, v_max, v_pick_t, v_pick_f, v_ext0, v_ext1, v_ext2, v_len_isl, List.length_map, v_len_nils, v_len_sl0, v_len_sl, v_ix_map, v_ix_sl, v_nil_ptr, v_nil_iptr, v_fa_ptr, v_fa_iptr, cell_0, cell_s, cell_a2, cell_a3, cell_a7, cell_a10, v_load_map, v_load_r1, v_call_fn, v_call_fnS, v_load_H, ldH_one, ldH_map, v_store_H, stH_one, upd_same, upd_cons_ne, upd_nil, v_box, v_fld, eqs_nils, eqs_sl, v_eqs_ii, v_neqs_ii, sel_andt, sel_andf, sel_nandt, sel_nandf, encI, Int.toNat_natCast, lq_e, lq_r, Bool.not_true, Bool.not_false, Bool.false_eq_true, reduceIte, decide_true, decide_false, v_build_fill, v_buildS_fill, fill_nil, fill_cons, AV.cells, putL, chunk, List.length_cons, List.length_nil, Nat.reduceAdd, Nat.reduceDiv, Nat.reduceMod, List.take_succ_cons, List.take_zero, List.take_nil, List.drop_succ_cons, List.drop_zero, List.drop_nil, List.cons_append, List.nil_append, List.append_nil, List.all_cons, List.all_nil, AV.one, Nat.reduceLeDiff, and_self, and_true, true_and, Nat.zero_add, ne_eq, Nat.succ_ne_zero, not_false_eq_true, Bool.and_self, Nat.reduceEqDiff, Nat.le_refl, res22, q22_0_ret, q22_0_e0, vt22, vt22_1, vt22_2, V22, V22_1, V22_2, k22_1, k22_2, k22_3, k22_0, k22_4, k22_5, k22_6, k22_7, k22_9, k22_10, k22_11, k22_12, k22_13, k22_14, k22_15, k22_8, k22_16, v_slice_lo, ld2_0, ld2_1]
        have : wordOn l at' = l.length := by
          unfold wordOn
          rw [hn, show at' + (l.length - at') = l.length by omega, List.drop_length]
          have := @skipN_le true []
          simp at this
          omega
        rw [this]
        exact vp1 rfl
      · have hn := find_pos hpos
        rw [hn]
        simp (disch := omega) only [sel_t, sel_f, sel_dt, sel_df, sel_nt, sel_nf, v_lss, v_leq, v_gtr, v_geq, v_eql, v_neq, v_add, v_sub, v_not, v_min, v_max, v_pick_t, v_pick_f, v_ext0, v_ext1, v_ext2, v_len_isl, List.length_map, v_len_nils, v_len_sl0, v_len_sl, v_ix_map, v_ix_sl, v_nil_ptr, v_nil_iptr, v_fa_ptr, v_fa_iptr, cell_0, cell_s, cell_a2, cell_a3, cell_a7, cell_a10, v_load_map, v_load_r1, v_call_fn, v_call_fnS, v_load_H, ldH_one, ldH_map, v_store_H, stH_one, upd_same, upd_cons_ne, upd_nil, v_box, v_fld, eqs_nils, eqs_sl, v_eqs_ii, v_neqs_ii, sel_andt, sel_andf, sel_nandt, sel_nandf, encI, Int.toNat_natCast, lq_e, lq_r, Bool.not_true, Bool.not_false, Bool.false_eq_true, reduceIte, decide_true, decide_false, v_build_fill, v_buildS_fill, fill_nil, fill_cons, AV.cells, putL, chunk, List.length_cons, List.length_nil, Nat.reduceAdd, Nat.reduceDiv, Nat.reduceMod, List.take_succ_cons, List.take_zero, List.take_nil, List.drop_succ_cons, List.drop_zero, List.drop_nil, List.cons_append, List.nil_append, List.append_nil, List.all_cons, List.all_nil, AV.one, Nat.reduceLeDiff, and_self, and_true, true_and, Nat.zero_add, ne_eq, Nat.succ_ne_zero, not_false_eq_true, Bool.and_self, Nat.reduceEqDiff, Nat.le_refl, res22, q22_0_ret, q22_0_e0, vt22, vt22_1, vt22_2, V22, V22_1, V22_2, k22_1, k22_2, k22_3, k22_0, k22_4, k22_5, k22_6, k22_7, k22_9, k22_10, k22_11, k22_12, k22_13, k22_14, k22_15, k22_8, k22_16, v_slice_lo, ld2_0, ld2_1]
        refine lq_n 1 (by decide) ⟨1, at' + skipN false (l.drop at'), rfl, by omega, rfl, by omega, ?_, fun h => by omega, fun h => rfl, fun h => by omega⟩
        have n1 : (6 :: q : Lab) ≠ (c + 1 + 2) :: q := fun e => by simp at e; omega
        rw [upd_nil, upd_ne n1, upd_nil, upd_ne n1, upd_nil]; exact hH
    · obtain rfl := g1 rfl
      generalize hat : a0 + skipN false (l.drop a0) = at' at *
      simp (disch := omega) only [sel_t, sel_f, sel_dt, sel_df, sel_nt, sel_nf, v_lss, v_leq, v_gtr, v_geq, v_eql, v_neq, v_add, v_sub, v_not, v_min, v_max, v_pick_t, v_pick_f, v_ext0, v_ext1, v_ext2, v_len_isl, List.length_map, v_len_nils, v_len_sl0, v_len_sl, v_ix_map, v_ix_sl, v_nil_ptr, v_nil_iptr, v_fa_ptr, v_fa_iptr, cell_0, cell_s, cell_a2, cell_a3, cell_a7, cell_a10, v_load_map, v_load_r1, v_call_fn, v_call_fnS, v_load_H, ldH_one, ldH_map, v_store_H, stH_one, upd_same, upd_cons_ne, upd_nil, v_box, v_fld, eqs_nils, eqs_sl, v_eqs_ii, v_neqs_ii, sel_andt, sel_andf, sel_nandt, sel_nandf, encI, Int.toNat_natCast, lq_e, lq_r, Bool.not_true, Bool.not_false, Bool.false_eq_true, reduceIte, decide_true, decide_false, v_build_fill, v_buildS_fill, fill_nil, fill_cons, AV.cells, putL, chunk, List.length_cons, List.length_nil, Nat.reduceAdd, Nat.reduceDiv, Nat.reduceMod, List.take_succ_cons, List.take_zero, List.take_nil, List.drop_succ_cons, List.drop_zero, List.drop_nil, List.cons_append, List.nil_append, List.append_nil, List.all_cons, List.all_nil, AV.one, Nat.reduceLeDiff, and_self, and_true, true_and, Nat.zero_add, ne_eq, Nat.succ_ne_zero, not_false_eq_true, Bool.and_self, Nat.reduceEqDiff, Nat.le_refl, res22, q22_0_ret, q22_0_e0, vt22, vt22_1, vt22_2, V22, V22_1, V22_2, k22_1, k22_2, k22_3, k22_0, k22_4, k22_5, k22_6, k22_7, k22_9, k22_10, k22_11, k22_12, k22_13, k22_14, k22_15, k22_8, k22_16, v_slice_lo, ld2_0, ld2_1, hH]
      refine call_res (index_sound (b := true) upd_same _ (by rw [List.length_drop]; omega)) ?_
      have hd : (l.drop at').length = l.length - at' := List.length_drop
      simp (disch := omega) only [sel_t, sel_f, sel_dt, sel_df, sel_nt, sel_nf, v_lss, v_leq, v_gtr, v_geq, v_eql, v_neq, v_add, v_sub, v_not, v_min, v_max, v_pick_t, v_pick_f, v_ext0, v_ext1, v_ext2, v_len_isl, List.length_map, v_len_nils, v_len_sl0, v_len_sl, v_ix_map, v_ix_sl, v_nil_ptr, v_nil_iptr, v_fa_ptr, v_fa_iptr, cell_0, cell_s, cell_a2, cell_a3, cell_a7, cell_a10, v_load_map, v_load_r1, v_call_fn, v_call_fnS, v_load_H, ldH_one, ldH_map, v_store_H, stH_one, upd_same, upd_cons_ne, upd_nil, v_box, v_fld, eqs_nils, eqs_sl, v_eqs_ii, v_neqs_ii, sel_andt, sel_andf, sel_nandt, sel_nandf, encI, Int.toNat_natCast, lq_e, lq_r, Bool.not_true, Bool.not_false, Bool.false_eq_true, reduceIte, decide_true, decide_false, v_build_fill, v_buildS_fill, fill_nil, fill_cons, AV.cells, putL, chunk, List.length_cons, List.length_nil, Nat.reduceAdd, Nat.reduceDiv, Nat.reduceMod, List.take_succ_cons, List.take_zero, List.take_nil, List.drop_succ_cons, List.drop_zero, List.drop_nil, List.cons_append, List.nil_append, List.append_nil, List.all_cons, List.all_nil, AV.one, Nat.reduceLeDiff, and_self, and_true, true_and, Nat.zero_add, ne_eq, Nat.succ_ne_zero, not_false_eq_true, Bool.and_self, Nat.reduceEqDiff, Nat.le_refl, res22, q22_0_ret, q22_0_e0, vt22, vt22_1, vt22_2, V22, V22_1, V22_2, k22_1, k22_2, k22_3, k22_0, k22_4, k22_5, k22_6, k22_7, k22_9, k22_10, k22_11, k22_12, k22_13, k22_14, k22_15, k22_8, k22_16, v_slice_lo, ld2_0, ld2_1]
      refine sel_d (fun hneg => ?_) (fun hpos => ?_)
      · have hn := find_neg.1 hneg
        rw [hd] at hn
        simp (disch := omega) only [sel_t, sel_f, sel_dt, sel_df, sel_nt, sel_nf, v_lss, v_leq, v_gtr, v_geq, v_eql, v_neq, v_add, v_sub, v_not, v_min, v_max, v_pick_t, v_pick_f, v_ext0, v_ext1, v_ext2, v_len_isl, List.length_map, v_len_nils, v_len_sl0, v_len_sl, v_ix_map, v_ix_sl, v_nil_ptr, v_nil_iptr, v_fa_ptr, v_fa_iptr, cell_0, cell_s, cell_a2, cell_a3, cell_a7, cell_a10, v_load_map, v_load_r1, v_call_fn, v_call_fnS, v_load_H, ldH_one, ldH_map, v_store_H, stH_one, upd_same, upd_cons_ne, upd_nil, v_box, v_fld, eqs_nils, eqs_sl, v_eqs_ii, v_neqs_ii, sel_andt, sel_andf, sel_nandt, sel_nandf, encI, Int.toNat_natCast, lq_e, lq_r, Bool.not_true, Bool.not_false, Bool.false_eq_true, reduceIte, decide_true, decide_false, v_build_fill, v_buildS_fill, fill_nil, fill_cons, AV.cells, putL, chunk, List.length_cons, List.length_nil, Nat.reduceAdd, Nat.reduceDiv, Nat.reduceMod, List.take_succ_cons, List.take_zero, List.take_nil, List.drop_succ_cons, List.drop_zero, List.drop_nil, List.cons_append, List.nil_append, List.append_nil, List.all_cons, List.all_nil, AV.one, Nat.reduceLeDiff, and_self, and_true, true_and, Nat.zero_add, ne_eq, Nat.succ_ne_zero, not_false_eq_true, Bool.and_self, Nat.reduceEqDiff, Nat.le_refl, res22, q22_0_ret, q22_0_e0, vt22, vt22_1, vt22_2, V22, V22_1, V22_2, k22_1, k22_2, k22_3, k22_0, k22_4, k22_5, k22_6, k22_7, k22_9, k22_10, k22_11, k22_12, k22_13, k22_14, k22_15, k22_8, k22_16, v_slice_lo, ld2_0, ld2_1]
        have : wordOn l a0 = l.length := by
          unfold wordOn
          rw [hat, hn]
          omega
        rw [this]
        exact vp1 rfl
      · have hn := find_pos hpos
        rw [hn]
        simp (disch := omega) only [sel_t, sel_f, sel_dt, sel_df, sel_nt, sel_nf, v_lss, v_leq, v_gtr, v_geq, v_eql, v_neq, v_add, v_sub, v_not, v_min, v_max, v_pick_t, v_pick_f, v_ext0, v_ext1, v_ext2, v_len_isl, List.length_map, v_len_nils, v_len_sl0, v_len_sl, v_ix_map, v_ix_sl, v_nil_ptr, v_nil_iptr, v_fa_ptr, v_fa_iptr, cell_0, cell_s, cell_a2, cell_a3, cell_a7, cell_a10, v_load_map, v_load_r1, v_call_fn, v_call_fnS, v_load_H, ldH_one, ldH_map, v_store_H, stH_one, upd_same, upd_cons_ne, upd_nil, v_box, v_fld, eqs_nils, eqs_sl, v_eqs_ii, v_neqs_ii, sel_andt, sel_andf, sel_nandt, sel_nandf, encI, Int.toNat_natCast, lq_e, lq_r, Bool.not_true, Bool.not_false, Bool.false_eq_true, reduceIte, decide_true, decide_false, v_build_fill, v_buildS_fill, fill_nil, fill_cons, AV.cells, putL, chunk, List.length_cons, List.length_nil, Nat.reduceAdd, Nat.reduceDiv, Nat.reduceMod, List.take_succ_cons, List.take_zero, List.take_nil, List.drop_succ_cons, List.drop_zero, List.drop_nil, List.cons_append, List.nil_append, List.append_nil, List.all_cons, List.all_nil, AV.one, Nat.reduceLeDiff, and_self, and_true, true_and, Nat.zero_add, ne_eq, Nat.succ_ne_zero, not_false_eq_true, Bool.and_self, Nat.reduceEqDiff, Nat.le_refl, res22, q22_0_ret, q22_0_e0, vt22, vt22_1, vt22_2, V22, V22_1, V22_2, k22_1, k22_2, k22_3, k22_0, k22_4, k22_5, k22_6, k22_7, k22_9, k22_10, k22_11, k22_12, k22_13, k22_14, k22_15, k22_8, k22_16, v_slice_lo, ld2_0, ld2_1]
        refine lq_n 0 (by decide) ⟨2, at' + skipN true (l.drop at'), rfl, by omega, rfl, by omega, ?_, fun h => by omega, fun h => by omega, fun h => by unfold wordOn; rw [hat]⟩
        have n1 : (6 :: q : Lab) ≠ (c + 1 + 2) :: q := fun e => by simp at e; omega
        rw [upd_nil, upd_ne n1, upd_nil, upd_ne n1, upd_nil]; exact hH
  · have : i = 2 := by omega
    rw [g2 this]
    exact vp1 rfl
end
/-! Words, back: copies in one's own memory, and turned round. -/
section
theorem rowOk_ints {l : List Int} : ∀ r ∈ l.map encI, RowOk 1 r := rowOk_map fun a => ⟨rfl, by simp [encI, AV.one]⟩
theorem v_slice3 {H : Heap} {q : Lab} {KK : KF} {e e' : Nat} {rows : List (List AV)} {k k' : IntKind} : vGen (.slice e false true true) [.isl e' rows, .int k 0, .int k' 0] H q KK = KK .sl0 H [] (some []) := by
  have : aop noCall (.slice e false true true) [.isl e' rows, .int k 0, .int k' 0] H q = some (.pure .sl0) := by simp [aop, aSliceOp, aSlice3]
  simp [vGen, this]; rfl
/-- onto nothing -/
theorem app_new {x : AV} {H : Heap} {q : Lab} {KK : KF} {b : Nat} {rows : List (List AV)} {e : Nat} (hx : x = .nils ∨ x = .sl0) (he : 0 < e) (h1 : rows.length * b ≤ 140737488355328) (h2 : rows.length ≤ 4611686018427387904)
    (h0 : rows = [] → KK x H [] (some [])) (hk : rows ≠ [] → KK (.sl q e 0 rows.length) (upd [(q, some (.rows e rows))] H) [q] (some [])) : vGen (.append e b) [x, .isl e rows] H q KK := by
  cases rows with
  | nil =>
    refine ⟨.pure x, ?_, h0 rfl⟩
    rcases hx with rfl | rfl <;> simp [aop, aAppend, aRows]
  | cons r rows =>
    refine ⟨⟨.sl q e 0 (r :: rows).length, [(q, some (.rows e (r :: rows)))], some []⟩, ?_, hk (by simp)⟩
    rcases hx with rfl | rfl <;> (simp only [List.length_cons] at h1 h2; simp [aop, aAppend, aRows, he, h1, h2])
theorem app_on0 {H : Heap} {l q : Lab} {KK : KF} {b : Nat} {rows : List (List AV)} (hl : H l = some (.rows 1 [])) (h1 : rows.length * b ≤ 140737488355328) (h2 : rows.length ≤ 4611686018427387904) (hne : rows ≠ [])
    (hk : KK (.sl q 1 0 rows.length) (upd [(q, some (.rows 1 rows)), (l, none)] H) [q, l] (some [l])) : vGen (.append 1 b) [.sl l 1 0 0, .isl 1 rows] H q KK := by
  have hn : rows.isEmpty = false := by cases rows <;> simp at hne ⊢
  refine ⟨⟨.sl q 1 0 rows.length, [(q, some (.rows 1 rows)), (l, none)], some [l]⟩, ?_, hk⟩
  simp [aop, aAppend, aRows, hn, hl, h1, h2, hne]
theorem clone_own {H : Heap} {q : Lab} (l : List Int) (hl : l.length ≤ 1000000000) (hne : l ≠ []) : SoundRes Try.prog 25 [il l] H q ⟨.sl (5 :: q) 1 0 l.length, [(5 :: q, some (.rows 1 (l.map encI)))], some []⟩ := by
  refine sound_vc Try.mixed ok25 rfl (fun l hl => by rw [has_one hl]; exact .inr ⟨[5], rfl⟩) ?_
  have h0 : ∀ l, restr H (some []) l = none := fun l => by simp [restr]
  simp only [params, Nat.zero_add, Nat.reduceAdd]
  repeat' (first | (simp (disch := omega) only [sel_t, sel_f, sel_dt, sel_df, sel_nt, sel_nf, v_lss, v_leq, v_gtr, v_geq, v_eql, v_neq, v_add, v_sub, v_not, v_min, v_max, v_pick_t, v_pick_f, v_ext0, v_ext1, v_ext2, v_len_isl, List.length_map, v_len_nils, v_len_sl0, v_len_sl, v_ix_map, v_ix_sl, v_nil_ptr, v_nil_iptr, v_fa_ptr, v_fa_iptr, cell_0, cell_s, cell_a2, cell_a3, cell_a7, cell_a10, v_load_map, v_load_r1, v_call_fn, v_call_fnS, v_load_H, ldH_one, ldH_map, v_store_H, stH_one, upd_same, upd_cons_ne, upd_nil, v_box, v_fld, eqs_nils, eqs_sl, v_eqs_ii, v_neqs_ii, sel_andt, sel_andf, sel_nandt, sel_nandf, encI, Int.toNat_natCast, lq_e, lq_r, Bool.not_true, Bool.not_false, Bool.false_eq_true, reduceIte, decide_true, decide_false, v_build_fill, v_buildS_fill, fill_nil, fill_cons, AV.cells, putL, chunk, List.length_cons, List.length_nil, Nat.reduceAdd, Nat.reduceDiv, Nat.reduceMod, List.take_succ_cons, List.take_zero, List.take_nil, List.drop_succ_cons, List.drop_zero, List.drop_nil, List.cons_append, List.nil_append, List.append_nil, List.all_cons, List.all_nil, AV.one, Nat.reduceLeDiff, and_self, and_true, true_and, Nat.zero_add, ne_eq, Nat.succ_ne_zero, not_false_eq_true, Bool.and_self, Nat.reduceEqDiff, Nat.le_refl, res25, vt25, V25, k25_0, k25_1, k25_2, k25_3, v_slice3]) | (refine sel_d (fun _ => ?_) (fun _ => ?_)) | (refine sel_n (fun _ => ?_) (fun _ => ?_)) | (refine sel_and (fun _ => ?_) (fun _ => ?_)) | (refine sel_nand (fun _ => ?_) (fun _ => ?_)) | (refine And.intro (clash_quiet rfl) ?_) | (refine eqs_isl (fun _ => ?_) ?_) | (exfalso; omega; done))
  · rename_i h1; exact absurd (List.map_eq_nil_iff.1 h1) hne
  · refine app_on0 (by simp [upd]) (by simp; omega) (by simp; omega) (fun h => hne (List.map_eq_nil_iff.1 h)) ?_
    simp (disch := omega) only [sel_t, sel_f, sel_dt, sel_df, sel_nt, sel_nf, v_lss, v_leq, v_gtr, v_geq, v_eql, v_neq, v_add, v_sub, v_not, v_min, v_max, v_pick_t, v_pick_f, v_ext0, v_ext1, v_ext2, v_len_isl, List.length_map, v_len_nils, v_len_sl0, v_len_sl, v_ix_map, v_ix_sl, v_nil_ptr, v_nil_iptr, v_fa_ptr, v_fa_iptr, cell_0, cell_s, cell_a2, cell_a3, cell_a7, cell_a10, v_load_map, v_load_r1, v_call_fn, v_call_fnS, v_load_H, ldH_one, ldH_map, v_store_H, stH_one, upd_same, upd_cons_ne, upd_nil, v_box, v_fld, eqs_nils, eqs_sl, v_eqs_ii, v_neqs_ii, sel_andt, sel_andf, sel_nandt, sel_nandf, encI, Int.toNat_natCast, lq_e, lq_r, Bool.not_true, Bool.not_false, Bool.false_eq_true, reduceIte, decide_true, decide_false, v_build_fill, v_buildS_fill, fill_nil, fill_cons, AV.cells, putL, chunk, List.length_cons, List.length_nil, Nat.reduceAdd, Nat.reduceDiv, Nat.reduceMod, List.take_succ_cons, List.take_zero, List.take_nil, List.drop_succ_cons, List.drop_zero, List.drop_nil, List.cons_append, List.nil_append, List.append_nil, List.all_cons, List.all_nil, AV.one, Nat.reduceLeDiff, and_self, and_true, true_and, Nat.zero_add, ne_eq, Nat.succ_ne_zero, not_false_eq_true, Bool.and_self, Nat.reduceEqDiff, Nat.le_refl, res25, vt25, V25, k25_0, k25_1, k25_2, k25_3, v_slice3]
    refine ⟨.inr rfl, _, by simp [aRes, aResL, aRes1, rget], .refl _, fun k o hk => ?_⟩
    rcases Classical.em (k = 5 :: q) with rfl | hn
    · simp only [upd_same] at hk ⊢; exact hk
    · rw [upd_ne hn, upd_nil, h0] at hk; cases hk
theorem nth_set {l : List Int} {i k : Nat} {x : Int} (hi : i < l.length) : nth (l.set i x) k = if k = i then x else nth l k := by
  unfold nth
  simp only [List.getD_eq_getElem?_getD, List.getElem?_set]
  by_cases h : i = k
  · subst h; simp [hi]
  · simp [h, Ne.symm h]
theorem nth_ext {l m : List Int} (h : l.length = m.length) (hk : ∀ k, k < l.length → nth l k = nth m k) : l = m := by
  apply List.ext_getElem h
  intro k h1 h2
  have := hk k h1
  unfold nth at this
  simpa [List.getD_eq_getElem?_getD, h1, h2] using this
theorem nth_rev {l : List Int} {k : Nat} (h : k < l.length) : nth l.reverse k = nth l (l.length - 1 - k) := by
  unfold nth
  simp only [List.getD_eq_getElem?_getD, List.getElem?_reverse h]
theorem stH_ints {l : List Int} {i : Nat} (hi : i < l.length) {x : Int} {lv : Lab} {H : Heap} {KK : KF} : vStH 1 (some (.rows 1 (l.map encI))) lv 1 i 0 (.int .i64 x) H KK = KK (.tuple []) (upd [(lv, some (.rows 1 ((l.set i x).map encI)))] H) [lv] (some [lv]) := by
  have : (l.map encI)[i]? = some [.int .i64 l[i]] := by simp [hi, encI]
  simp [vStH, this, AV.cells, AV.one, putL, List.map_set, encI]
theorem reverse_own {H : Heap} {q ls : Lab} (l : List Int) (hl : l.length ≤ 1000000000) (h : H ls = some (.rows 1 (l.map encI))) : SoundRes Try.prog 35 [.sl ls 1 0 l.length] H q ⟨.tuple [], [(ls, some (.rows 1 (l.reverse.map encI)))], some [ls]⟩ := by
  refine sound_vc Try.mixed ok35 rfl (fun k hk => by rw [has_one hk, restr_at (by simp), h]; exact .inl (by simp)) ?_
  have hs : restr H (some [ls]) ls = some (.rows 1 (l.map encI)) := by rw [restr_at (by simp)]; exact h
  have honly : ∀ k o, restr H (some [ls]) k = some o → k = ls := fun k o e => by simpa using (restr_some e).1
  generalize restr H (some [ls]) = G at hs honly
  simp only [params, Nat.zero_add, Nat.reduceAdd]
  simp (disch := omega) only [sel_t, sel_f, sel_dt, sel_df, sel_nt, sel_nf, v_lss, v_leq, v_gtr, v_geq, v_eql, v_neq, v_add, v_sub, v_not, v_min, v_max, v_pick_t, v_pick_f, v_ext0, v_ext1, v_ext2, v_len_isl, List.length_map, v_len_nils, v_len_sl0, v_len_sl, v_ix_map, v_ix_sl, v_nil_ptr, v_nil_iptr, v_fa_ptr, v_fa_iptr, cell_0, cell_s, cell_a2, cell_a3, cell_a7, cell_a10, v_load_map, v_load_r1, v_call_fn, v_call_fnS, v_load_H, ldH_one, ldH_map, v_store_H, stH_one, upd_same, upd_cons_ne, upd_nil, v_box, v_fld, eqs_nils, eqs_sl, v_eqs_ii, v_neqs_ii, sel_andt, sel_andf, sel_nandt, sel_nandf, encI, Int.toNat_natCast, lq_e, lq_r, Bool.not_true, Bool.not_false, Bool.false_eq_true, reduceIte, decide_true, decide_false, v_build_fill, v_buildS_fill, fill_nil, fill_cons, AV.cells, putL, chunk, List.length_cons, List.length_nil, Nat.reduceAdd, Nat.reduceDiv, Nat.reduceMod, List.take_succ_cons, List.take_zero, List.take_nil, List.drop_succ_cons, List.drop_zero, List.drop_nil, List.cons_append, List.nil_append, List.append_nil, List.all_cons, List.all_nil, AV.one, Nat.reduceLeDiff, and_self, and_true, true_and, Nat.zero_add, ne_eq, Nat.succ_ne_zero, not_false_eq_true, Bool.and_self, Nat.reduceEqDiff, Nat.le_refl, res35, q35_0_ret, q35_0_e0, vt35, vt35_1, V35, V35_1, k35_1, k35_2, k35_0, k35_3]
  refine vloop (fun n r H' c => ∃ (i : Nat) (m : List Int), r = [(0, .sl ls 1 0 l.length), (2, .int .i64 i), (3, .int .i64 ((l.length : Int) - 1 - i))] ∧ 2 * i ≤ l.length + 1 ∧ n = l.length + 1 - 2 * i ∧ m.length = l.length ∧ H' ls = some (.rows 1 (m.map encI)) ∧ ∀ k, k < l.length → nth m k = if k < i ∨ l.length < k + 1 + i then nth l (l.length - 1 - k) else nth l k) (l.length + 1) ⟨0, l, by simp; rfl, by omega, by omega, rfl, hs, fun k hk => by rw [if_neg (by omega)]⟩ ?_
  rintro n r H' c ⟨i, m, rfl, hi, rfl, hm, hH, hk⟩
  simp (disch := omega) only [sel_t, sel_f, sel_dt, sel_df, sel_nt, sel_nf, v_lss, v_leq, v_gtr, v_geq, v_eql, v_neq, v_add, v_sub, v_not, v_min, v_max, v_pick_t, v_pick_f, v_ext0, v_ext1, v_ext2, v_len_isl, List.length_map, v_len_nils, v_len_sl0, v_len_sl, v_ix_map, v_ix_sl, v_nil_ptr, v_nil_iptr, v_fa_ptr, v_fa_iptr, cell_0, cell_s, cell_a2, cell_a3, cell_a7, cell_a10, v_load_map, v_load_r1, v_call_fn, v_call_fnS, v_load_H, ldH_one, ldH_map, v_store_H, stH_one, upd_same, upd_cons_ne, upd_nil, v_box, v_fld, eqs_nils, eqs_sl, v_eqs_ii, v_neqs_ii, sel_andt, sel_andf, sel_nandt, sel_nandf, encI, Int.toNat_natCast, lq_e, lq_r, Bool.not_true, Bool.not_false, Bool.false_eq_true, reduceIte, decide_true, decide_false, v_build_fill, v_buildS_fill, fill_nil, fill_cons, AV.cells, putL, chunk, List.length_cons, List.length_nil, Nat.reduceAdd, Nat.reduceDiv, Nat.reduceMod, List.take_succ_cons, List.take_zero, List.take_nil, List.drop_succ_cons, List.drop_zero, List.drop_nil, List.cons_append, List.nil_append, List.append_nil, List.all_cons, List.all_nil, AV.one, Nat.reduceLeDiff, and_self, and_true, true_and, Nat.zero_add, ne_eq, Nat.succ_ne_zero, not_false_eq_true, Bool.and_self, Nat.reduceEqDiff, Nat.le_refl, res35, q35_0_ret, q35_0_e0, vt35, vt35_1, V35, V35_1, k35_1, k35_2, k35_0, k35_3]
  refine sel_d (fun hlt => ?_) (fun hge => ?_)
  · have hi1 : i < m.length := by omega
    have hj1 : ((l.length : Int) - 1 - i).toNat < m.length := by omega
    have hj2 : ((l.length : Int) - 1 - i).toNat < (m.set i (nth m ((l.length : Int) - 1 - i).toNat)).length := by rw [List.length_set]; exact hj1
    simp (disch := omega) only [sel_t, sel_f, sel_dt, sel_df, sel_nt, sel_nf, v_lss, v_leq, v_gtr, v_geq, v_eql, v_neq, v_add, v_sub, v_not, v_min, v_max, v_pick_t, v_pick_f, v_ext0, v_ext1, v_ext2, v_len_isl, List.length_map, v_len_nils, v_len_sl0, v_len_sl, v_ix_map, v_ix_sl, v_nil_ptr, v_nil_iptr, v_fa_ptr, v_fa_iptr, cell_0, cell_s, cell_a2, cell_a3, cell_a7, cell_a10, v_load_map, v_load_r1, v_call_fn, v_call_fnS, v_load_H, ldH_one, ldH_map, v_store_H, stH_one, upd_same, upd_cons_ne, upd_nil, v_box, v_fld, eqs_nils, eqs_sl, v_eqs_ii, v_neqs_ii, sel_andt, sel_andf, sel_nandt, sel_nandf, encI, Int.toNat_natCast, lq_e, lq_r, Bool.not_true, Bool.not_false, Bool.false_eq_true, reduceIte, decide_true, decide_false, v_build_fill, v_buildS_fill, fill_nil, fill_cons, AV.cells, putL, chunk, List.length_cons, List.length_nil, Nat.reduceAdd, Nat.reduceDiv, Nat.reduceMod, List.take_succ_cons, List.take_zero, List.take_nil, List.drop_succ_cons, List.drop_zero, List.drop_nil, List.cons_append, List.nil_append, List.append_nil, List.all_cons, List.all_nil, AV.one, Nat.reduceLeDiff, and_self, and_true, true_and, Nat.zero_add, ne_eq, Nat.succ_ne_zero, not_false_eq_true, Bool.and_self, Nat.reduceEqDiff, Nat.le_refl, res35, q35_0_ret, q35_0_e0, vt35, vt35_1, V35, V35_1, k35_1, k35_2, k35_0, k35_3, hH, stH_ints hi1, stH_ints hj2]
    refine ⟨(by (repeat' (first | exact cf_nil | exact allp_nil | refine cf_add ?_ ?_ | refine allp_add ?_ ?_)); all_goals (first | exact Or.inl rfl | exact Or.inl (by decide) | exact Or.inr ⟨by (simp (decide := true) [clash, hs] <;> assumption), by (simp (decide := true) [clash, hs] <;> assumption)⟩)), ?_⟩
    have ej : ((l.length : Int) - 1 - i).toNat = l.length - 1 - i := by omega
    refine lq_n (l.length + 1 - 2 * (i + 1)) (by omega) ⟨i + 1, (m.set i (nth m ((l.length : Int) - 1 - i).toNat)).set ((l.length : Int) - 1 - i).toNat (nth m i), ?_, by omega, rfl, by simp [hm], upd_same, fun k hkl => ?_⟩
    · have e : (l.length : Int) - 1 - i - 1 = (l.length : Int) - 1 - ((i + 1 : Nat) : Int) := by omega
      rw [← e]; rfl
    · rw [nth_set hj2, nth_set hi1, ej, hk k hkl, hk i (by omega), hk (l.length - 1 - i) (by omega)]
      by_cases h1 : k = l.length - 1 - i
      · rw [if_pos h1, if_neg (by omega), if_pos (by omega), h1]; congr 1; omega
      · rw [if_neg h1]
        by_cases h2 : k = i
        · rw [if_pos h2, if_neg (by omega), if_pos (by omega), h2]
        · rw [if_neg h2]
          by_cases h3 : k < i ∨ l.length < k + 1 + i
          · rw [if_pos h3, if_pos (by omega)]
          · rw [if_neg h3, if_neg (by omega)]
  · have hrev : m = l.reverse := nth_ext (by simp [hm]) (fun k hkl => by
      rw [hm] at hkl
      rw [nth_rev hkl, hk k hkl]
      split
      · rfl
      · congr 1; omega)
    subst hrev
    refine ⟨.inl rfl, .tuple [], by simp [aRes, aResL], .refl _, fun k o h => ?_⟩
    rcases Classical.em (k = ls) with rfl | hn
    · rw [upd_same] at h; rw [hH]; exact h
    · rw [upd_ne hn, upd_nil] at h; exact absurd (honly k o h) hn
theorem reverse_none {H : Heap} {q : Lab} : SoundRes Try.prog 35 [.sl0] H q ⟨.tuple [], [], some []⟩ := by
  refine sound_vc Try.mixed ok35 rfl (fun l hl => absurd hl (not_has_nil l)) ?_
  simp only [params, Nat.zero_add, Nat.reduceAdd]
  simp (disch := omega) only [sel_t, sel_f, sel_dt, sel_df, sel_nt, sel_nf, v_lss, v_leq, v_gtr, v_geq, v_eql, v_neq, v_add, v_sub, v_not, v_min, v_max, v_pick_t, v_pick_f, v_ext0, v_ext1, v_ext2, v_len_isl, List.length_map, v_len_nils, v_len_sl0, v_len_sl, v_ix_map, v_ix_sl, v_nil_ptr, v_nil_iptr, v_fa_ptr, v_fa_iptr, cell_0, cell_s, cell_a2, cell_a3, cell_a7, cell_a10, v_load_map, v_load_r1, v_call_fn, v_call_fnS, v_load_H, ldH_one, ldH_map, v_store_H, stH_one, upd_same, upd_cons_ne, upd_nil, v_box, v_fld, eqs_nils, eqs_sl, v_eqs_ii, v_neqs_ii, sel_andt, sel_andf, sel_nandt, sel_nandf, encI, Int.toNat_natCast, lq_e, lq_r, Bool.not_true, Bool.not_false, Bool.false_eq_true, reduceIte, decide_true, decide_false, v_build_fill, v_buildS_fill, fill_nil, fill_cons, AV.cells, putL, chunk, List.length_cons, List.length_nil, Nat.reduceAdd, Nat.reduceDiv, Nat.reduceMod, List.take_succ_cons, List.take_zero, List.take_nil, List.drop_succ_cons, List.drop_zero, List.drop_nil, List.cons_append, List.nil_append, List.append_nil, List.all_cons, List.all_nil, AV.one, Nat.reduceLeDiff, and_self, and_true, true_and, Nat.zero_add, ne_eq, Nat.succ_ne_zero, not_false_eq_true, Bool.and_self, Nat.reduceEqDiff, Nat.le_refl, res35, q35_0_ret, q35_0_e0, vt35, vt35_1, V35, V35_1, k35_1, k35_2, k35_0, k35_3]
  refine vloop (fun n r H' c => r = [(0, .sl0), (2, .int .i64 0), (3, .int .i64 (0 - 1))] ∧ H' = restr H (some [])) 0 ⟨rfl, rfl⟩ ?_
  rintro n r H' c ⟨rfl, rfl⟩
  simp (disch := omega) only [sel_t, sel_f, sel_dt, sel_df, sel_nt, sel_nf, v_lss, v_leq, v_gtr, v_geq, v_eql, v_neq, v_add, v_sub, v_not, v_min, v_max, v_pick_t, v_pick_f, v_ext0, v_ext1, v_ext2, v_len_isl, List.length_map, v_len_nils, v_len_sl0, v_len_sl, v_ix_map, v_ix_sl, v_nil_ptr, v_nil_iptr, v_fa_ptr, v_fa_iptr, cell_0, cell_s, cell_a2, cell_a3, cell_a7, cell_a10, v_load_map, v_load_r1, v_call_fn, v_call_fnS, v_load_H, ldH_one, ldH_map, v_store_H, stH_one, upd_same, upd_cons_ne, upd_nil, v_box, v_fld, eqs_nils, eqs_sl, v_eqs_ii, v_neqs_ii, sel_andt, sel_andf, sel_nandt, sel_nandf, encI, Int.toNat_natCast, lq_e, lq_r, Bool.not_true, Bool.not_false, Bool.false_eq_true, reduceIte, decide_true, decide_false, v_build_fill, v_buildS_fill, fill_nil, fill_cons, AV.cells, putL, chunk, List.length_cons, List.length_nil, Nat.reduceAdd, Nat.reduceDiv, Nat.reduceMod, List.take_succ_cons, List.take_zero, List.take_nil, List.drop_succ_cons, List.drop_zero, List.drop_nil, List.cons_append, List.nil_append, List.append_nil, List.all_cons, List.all_nil, AV.one, Nat.reduceLeDiff, and_self, and_true, true_and, Nat.zero_add, ne_eq, Nat.succ_ne_zero, not_false_eq_true, Bool.and_self, Nat.reduceEqDiff, Nat.le_refl, res35, q35_0_ret, q35_0_e0, vt35, vt35_1, V35, V35_1, k35_1, k35_2, k35_0, k35_3]
  exact ⟨.inl rfl, .tuple [], by simp [aRes, aResL], .refl _, fun k o h => h⟩
def wordBack (l : List Int) (a : Nat) : Int := (a : Int) - wordOn (l.take a).reverse 0
theorem wordBack_pure (l : List Int) (hl : l.length ≤ 1000000000) (a : Int) : Pure Try.prog 22 [il l, .int .i64 a, .bool true] (.int .i64 (wordBack l (heldN l.length a))) := by
  refine pure_vc Try.mixed ok22 rfl (fun q => ?_)
  simp only [params, Nat.zero_add, Nat.reduceAdd]
  simp (disch := omega) only [sel_t, sel_f, sel_dt, sel_df, sel_nt, sel_nf, v_lss, v_leq, v_gtr, v_geq, v_eql, v_neq, v_add, v_sub, v_not, v_min, v_max, v_pick_t, v_pick_f, v_ext0, v_ext1, v_ext2, v_len_isl, List.length_map, v_len_nils, v_len_sl0, v_len_sl, v_ix_map, v_ix_sl, v_nil_ptr, v_nil_iptr, v_fa_ptr, v_fa_iptr, cell_0, cell_s, cell_a2, cell_a3, cell_a7, cell_a10, v_load_map, v_load_r1, v_call_fn, v_call_fnS, v_load_H, ldH_one, ldH_map, v_store_H, stH_one, upd_same, upd_cons_ne, upd_nil, v_box, v_fld, eqs_nils, eqs_sl, v_eqs_ii, v_neqs_ii, sel_andt, sel_andf, sel_nandt, sel_nandf, encI, Int.toNat_natCast, lq_e, lq_r, Bool.not_true, Bool.not_false, Bool.false_eq_true, reduceIte, decide_true, decide_false, v_build_fill, v_buildS_fill, fill_nil, fill_cons, AV.cells, putL, chunk, List.length_cons, List.length_nil, Nat.reduceAdd, Nat.reduceDiv, Nat.reduceMod, List.take_succ_cons, List.take_zero, List.take_nil, List.drop_succ_cons, List.drop_zero, List.drop_nil, List.cons_append, List.nil_append, List.append_nil, List.all_cons, List.all_nil, AV.one, Nat.reduceLeDiff, and_self, and_true, true_and, Nat.zero_add, ne_eq, Nat.succ_ne_zero, not_false_eq_true, Bool.and_self, Nat.reduceEqDiff, Nat.le_refl, res22, q22_0_ret, q22_0_e0, vt22, vt22_1, vt22_2, V22, V22_1, V22_2, k22_1, k22_2, k22_3, k22_0, k22_4, k22_5, k22_6, k22_7, k22_9, k22_10, k22_11, k22_12, k22_13, k22_14, k22_15, k22_8, k22_16, v_slice_hi]
  refine call_pure (held_pure l a) ?_
  have hle := @heldN_le l.length a
  generalize heldN l.length a = a0 at hle ⊢
  simp (disch := omega) only [sel_t, sel_f, sel_dt, sel_df, sel_nt, sel_nf, v_lss, v_leq, v_gtr, v_geq, v_eql, v_neq, v_add, v_sub, v_not, v_min, v_max, v_pick_t, v_pick_f, v_ext0, v_ext1, v_ext2, v_len_isl, List.length_map, v_len_nils, v_len_sl0, v_len_sl, v_ix_map, v_ix_sl, v_nil_ptr, v_nil_iptr, v_fa_ptr, v_fa_iptr, cell_0, cell_s, cell_a2, cell_a3, cell_a7, cell_a10, v_load_map, v_load_r1, v_call_fn, v_call_fnS, v_load_H, ldH_one, ldH_map, v_store_H, stH_one, upd_same, upd_cons_ne, upd_nil, v_box, v_fld, eqs_nils, eqs_sl, v_eqs_ii, v_neqs_ii, sel_andt, sel_andf, sel_nandt, sel_nandf, encI, Int.toNat_natCast, lq_e, lq_r, Bool.not_true, Bool.not_false, Bool.false_eq_true, reduceIte, decide_true, decide_false, v_build_fill, v_buildS_fill, fill_nil, fill_cons, AV.cells, putL, chunk, List.length_cons, List.length_nil, Nat.reduceAdd, Nat.reduceDiv, Nat.reduceMod, List.take_succ_cons, List.take_zero, List.take_nil, List.drop_succ_cons, List.drop_zero, List.drop_nil, List.cons_append, List.nil_append, List.append_nil, List.all_cons, List.all_nil, AV.one, Nat.reduceLeDiff, and_self, and_true, true_and, Nat.zero_add, ne_eq, Nat.succ_ne_zero, not_false_eq_true, Bool.and_self, Nat.reduceEqDiff, Nat.le_refl, res22, q22_0_ret, q22_0_e0, vt22, vt22_1, vt22_2, V22, V22_1, V22_2, k22_1, k22_2, k22_3, k22_0, k22_4, k22_5, k22_6, k22_7, k22_9, k22_10, k22_11, k22_12, k22_13, k22_14, k22_15, k22_8, k22_16, v_slice_hi]
  have hlen : (l.take a0).length = a0 := by rw [List.length_take]; omega
  by_cases h0 : a0 = 0
  · subst h0
    refine call_res (clone_empty (.inl rfl)) ?_
    simp (disch := omega) only [sel_t, sel_f, sel_dt, sel_df, sel_nt, sel_nf, v_lss, v_leq, v_gtr, v_geq, v_eql, v_neq, v_add, v_sub, v_not, v_min, v_max, v_pick_t, v_pick_f, v_ext0, v_ext1, v_ext2, v_len_isl, List.length_map, v_len_nils, v_len_sl0, v_len_sl, v_ix_map, v_ix_sl, v_nil_ptr, v_nil_iptr, v_fa_ptr, v_fa_iptr, cell_0, cell_s, cell_a2, cell_a3, cell_a7, cell_a10, v_load_map, v_load_r1, v_call_fn, v_call_fnS, v_load_H, ldH_one, ldH_map, v_store_H, stH_one, upd_same, upd_cons_ne, upd_nil, v_box, v_fld, eqs_nils, eqs_sl, v_eqs_ii, v_neqs_ii, sel_andt, sel_andf, sel_nandt, sel_nandf, encI, Int.toNat_natCast, lq_e, lq_r, Bool.not_true, Bool.not_false, Bool.false_eq_true, reduceIte, decide_true, decide_false, v_build_fill, v_buildS_fill, fill_nil, fill_cons, AV.cells, putL, chunk, List.length_cons, List.length_nil, Nat.reduceAdd, Nat.reduceDiv, Nat.reduceMod, List.take_succ_cons, List.take_zero, List.take_nil, List.drop_succ_cons, List.drop_zero, List.drop_nil, List.cons_append, List.nil_append, List.append_nil, List.all_cons, List.all_nil, AV.one, Nat.reduceLeDiff, and_self, and_true, true_and, Nat.zero_add, ne_eq, Nat.succ_ne_zero, not_false_eq_true, Bool.and_self, Nat.reduceEqDiff, Nat.le_refl, res22, q22_0_ret, q22_0_e0, vt22, vt22_1, vt22_2, V22, V22_1, V22_2, k22_1, k22_2, k22_3, k22_0, k22_4, k22_5, k22_6, k22_7, k22_9, k22_10, k22_11, k22_12, k22_13, k22_14, k22_15, k22_8, k22_16, v_slice_hi]
    refine call_res reverse_none ?_
    simp (disch := omega) only [sel_t, sel_f, sel_dt, sel_df, sel_nt, sel_nf, v_lss, v_leq, v_gtr, v_geq, v_eql, v_neq, v_add, v_sub, v_not, v_min, v_max, v_pick_t, v_pick_f, v_ext0, v_ext1, v_ext2, v_len_isl, List.length_map, v_len_nils, v_len_sl0, v_len_sl, v_ix_map, v_ix_sl, v_nil_ptr, v_nil_iptr, v_fa_ptr, v_fa_iptr, cell_0, cell_s, cell_a2, cell_a3, cell_a7, cell_a10, v_load_map, v_load_r1, v_call_fn, v_call_fnS, v_load_H, ldH_one, ldH_map, v_store_H, stH_one, upd_same, upd_cons_ne, upd_nil, v_box, v_fld, eqs_nils, eqs_sl, v_eqs_ii, v_neqs_ii, sel_andt, sel_andf, sel_nandt, sel_nandf, encI, Int.toNat_natCast, lq_e, lq_r, Bool.not_true, Bool.not_false, Bool.false_eq_true, reduceIte, decide_true, decide_false, v_build_fill, v_buildS_fill, fill_nil, fill_cons, AV.cells, putL, chunk, List.length_cons, List.length_nil, Nat.reduceAdd, Nat.reduceDiv, Nat.reduceMod, List.take_succ_cons, List.take_zero, List.take_nil, List.drop_succ_cons, List.drop_zero, List.drop_nil, List.cons_append, List.nil_append, List.append_nil, List.all_cons, List.all_nil, AV.one, Nat.reduceLeDiff, and_self, and_true, true_and, Nat.zero_add, ne_eq, Nat.succ_ne_zero, not_false_eq_true, Bool.and_self, Nat.reduceEqDiff, Nat.le_refl, res22, q22_0_ret, q22_0_e0, vt22, vt22_1, vt22_2, V22, V22_1, V22_2, k22_1, k22_2, k22_3, k22_0, k22_4, k22_5, k22_6, k22_7, k22_9, k22_10, k22_11, k22_12, k22_13, k22_14, k22_15, k22_8, k22_16, v_slice_hi]
    refine call_pure_w (wordOn_pure [] (by simp) 0) (.cons (.sl0 _) (.cons (.refl _) (.cons (.refl _) .nil))) ?_
    have e1 : wordOn [] (heldN ([] : List Int).length 0) = 0 := by decide
    rw [e1]
    simp (disch := omega) only [sel_t, sel_f, sel_dt, sel_df, sel_nt, sel_nf, v_lss, v_leq, v_gtr, v_geq, v_eql, v_neq, v_add, v_sub, v_not, v_min, v_max, v_pick_t, v_pick_f, v_ext0, v_ext1, v_ext2, v_len_isl, List.length_map, v_len_nils, v_len_sl0, v_len_sl, v_ix_map, v_ix_sl, v_nil_ptr, v_nil_iptr, v_fa_ptr, v_fa_iptr, cell_0, cell_s, cell_a2, cell_a3, cell_a7, cell_a10, v_load_map, v_load_r1, v_call_fn, v_call_fnS, v_load_H, ldH_one, ldH_map, v_store_H, stH_one, upd_same, upd_cons_ne, upd_nil, v_box, v_fld, eqs_nils, eqs_sl, v_eqs_ii, v_neqs_ii, sel_andt, sel_andf, sel_nandt, sel_nandf, encI, Int.toNat_natCast, lq_e, lq_r, Bool.not_true, Bool.not_false, Bool.false_eq_true, reduceIte, decide_true, decide_false, v_build_fill, v_buildS_fill, fill_nil, fill_cons, AV.cells, putL, chunk, List.length_cons, List.length_nil, Nat.reduceAdd, Nat.reduceDiv, Nat.reduceMod, List.take_succ_cons, List.take_zero, List.take_nil, List.drop_succ_cons, List.drop_zero, List.drop_nil, List.cons_append, List.nil_append, List.append_nil, List.all_cons, List.all_nil, AV.one, Nat.reduceLeDiff, and_self, and_true, true_and, Nat.zero_add, ne_eq, Nat.succ_ne_zero, not_false_eq_true, Bool.and_self, Nat.reduceEqDiff, Nat.le_refl, res22, q22_0_ret, q22_0_e0, vt22, vt22_1, vt22_2, V22, V22_1, V22_2, k22_1, k22_2, k22_3, k22_0, k22_4, k22_5, k22_6, k22_7, k22_9, k22_10, k22_11, k22_12, k22_13, k22_14, k22_15, k22_8, k22_16, v_slice_hi]
    exact vp1 rfl
  · have hne : l.take a0 ≠ [] := fun e => by rw [e] at hlen; simp at hlen; omega
    refine call_res (clone_own (l.take a0) (by rw [hlen]; omega) hne) ?_
    simp (disch := omega) only [sel_t, sel_f, sel_dt, sel_df, sel_nt, sel_nf, v_lss, v_leq, v_gtr, v_geq, v_eql, v_neq, v_add, v_sub, v_not, v_min, v_max, v_pick_t, v_pick_f, v_ext0, v_ext1, v_ext2, v_len_isl, List.length_map, v_len_nils, v_len_sl0, v_len_sl, v_ix_map, v_ix_sl, v_nil_ptr, v_nil_iptr, v_fa_ptr, v_fa_iptr, cell_0, cell_s, cell_a2, cell_a3, cell_a7, cell_a10, v_load_map, v_load_r1, v_call_fn, v_call_fnS, v_load_H, ldH_one, ldH_map, v_store_H, stH_one, upd_same, upd_cons_ne, upd_nil, v_box, v_fld, eqs_nils, eqs_sl, v_eqs_ii, v_neqs_ii, sel_andt, sel_andf, sel_nandt, sel_nandf, encI, Int.toNat_natCast, lq_e, lq_r, Bool.not_true, Bool.not_false, Bool.false_eq_true, reduceIte, decide_true, decide_false, v_build_fill, v_buildS_fill, fill_nil, fill_cons, AV.cells, putL, chunk, List.length_cons, List.length_nil, Nat.reduceAdd, Nat.reduceDiv, Nat.reduceMod, List.take_succ_cons, List.take_zero, List.take_nil, List.drop_succ_cons, List.drop_zero, List.drop_nil, List.cons_append, List.nil_append, List.append_nil, List.all_cons, List.all_nil, AV.one, Nat.reduceLeDiff, and_self, and_true, true_and, Nat.zero_add, ne_eq, Nat.succ_ne_zero, not_false_eq_true, Bool.and_self, Nat.reduceEqDiff, Nat.le_refl, res22, q22_0_ret, q22_0_e0, vt22, vt22_1, vt22_2, V22, V22_1, V22_2, k22_1, k22_2, k22_3, k22_0, k22_4, k22_5, k22_6, k22_7, k22_9, k22_10, k22_11, k22_12, k22_13, k22_14, k22_15, k22_8, k22_16, v_slice_hi]
    refine call_res (reverse_own (l.take a0) (by rw [hlen]; omega) upd_same) ?_
    simp (disch := omega) only [sel_t, sel_f, sel_dt, sel_df, sel_nt, sel_nf, v_lss, v_leq, v_gtr, v_geq, v_eql, v_neq, v_add, v_sub, v_not, v_min, v_max, v_pick_t, v_pick_f, v_ext0, v_ext1, v_ext2, v_len_isl, List.length_map, v_len_nils, v_len_sl0, v_len_sl, v_ix_map, v_ix_sl, v_nil_ptr, v_nil_iptr, v_fa_ptr, v_fa_iptr, cell_0, cell_s, cell_a2, cell_a3, cell_a7, cell_a10, v_load_map, v_load_r1, v_call_fn, v_call_fnS, v_load_H, ldH_one, ldH_map, v_store_H, stH_one, upd_same, upd_cons_ne, upd_nil, v_box, v_fld, eqs_nils, eqs_sl, v_eqs_ii, v_neqs_ii, sel_andt, sel_andf, sel_nandt, sel_nandf, encI, Int.toNat_natCast, lq_e, lq_r, Bool.not_true, Bool.not_false, Bool.false_eq_true, reduceIte, decide_true, decide_false, v_build_fill, v_buildS_fill, fill_nil, fill_cons, AV.cells, putL, chunk, List.length_cons, List.length_nil, Nat.reduceAdd, Nat.reduceDiv, Nat.reduceMod, List.take_succ_cons, List.take_zero, List.take_nil, List.drop_succ_cons, List.drop_zero, List.drop_nil, List.cons_append, List.nil_append, List.append_nil, List.all_cons, List.all_nil, AV.one, Nat.reduceLeDiff, and_self, and_true, true_and, Nat.zero_add, ne_eq, Nat.succ_ne_zero, not_false_eq_true, Bool.and_self, Nat.reduceEqDiff, Nat.le_refl, res22, q22_0_ret, q22_0_e0, vt22, vt22_1, vt22_2, V22, V22_1, V22_2, k22_1, k22_2, k22_3, k22_0, k22_4, k22_5, k22_6, k22_7, k22_9, k22_10, k22_11, k22_12, k22_13, k22_14, k22_15, k22_8, k22_16, v_slice_hi]
    have hrl : (l.take a0).reverse.length = (l.take a0).length := List.length_reverse
    refine call_lend (wordOn_pure (l.take a0).reverse (by rw [hrl, hlen]; omega) 0) rfl (.cons (.of_own (rows := (l.take a0).reverse.map encI) (.inr ⟨_, by rw [List.length_map, hrl], upd_same⟩) rowOk_ints) (.cons (.refl _) (.cons (.refl _) .nil))) ?_
    have hh : heldN (l.take a0).reverse.length 0 = 0 := by unfold heldN; omega
    rw [hh]
    have hw := wordOn_le (l := (l.take a0).reverse) (a := 0) (by omega)
    rw [hrl, hlen] at hw
    simp (disch := omega) only [sel_t, sel_f, sel_dt, sel_df, sel_nt, sel_nf, v_lss, v_leq, v_gtr, v_geq, v_eql, v_neq, v_add, v_sub, v_not, v_min, v_max, v_pick_t, v_pick_f, v_ext0, v_ext1, v_ext2, v_len_isl, List.length_map, v_len_nils, v_len_sl0, v_len_sl, v_ix_map, v_ix_sl, v_nil_ptr, v_nil_iptr, v_fa_ptr, v_fa_iptr, cell_0, cell_s, cell_a2, cell_a3, cell_a7, cell_a10, v_load_map, v_load_r1, v_call_fn, v_call_fnS, v_load_H, ldH_one, ldH_map, v_store_H, stH_one, upd_same, upd_cons_ne, upd_nil, v_box, v_fld, eqs_nils, eqs_sl, v_eqs_ii, v_neqs_ii, sel_andt, sel_andf, sel_nandt, sel_nandf, encI, Int.toNat_natCast, lq_e, lq_r, Bool.not_true, Bool.not_false, Bool.false_eq_true, reduceIte, decide_true, decide_false, v_build_fill, v_buildS_fill, fill_nil, fill_cons, AV.cells, putL, chunk, List.length_cons, List.length_nil, Nat.reduceAdd, Nat.reduceDiv, Nat.reduceMod, List.take_succ_cons, List.take_zero, List.take_nil, List.drop_succ_cons, List.drop_zero, List.drop_nil, List.cons_append, List.nil_append, List.append_nil, List.all_cons, List.all_nil, AV.one, Nat.reduceLeDiff, and_self, and_true, true_and, Nat.zero_add, ne_eq, Nat.succ_ne_zero, not_false_eq_true, Bool.and_self, Nat.reduceEqDiff, Nat.le_refl, res22, q22_0_ret, q22_0_e0, vt22, vt22_1, vt22_2, V22, V22_1, V22_2, k22_1, k22_2, k22_3, k22_0, k22_4, k22_5, k22_6, k22_7, k22_9, k22_10, k22_11, k22_12, k22_13, k22_14, k22_15, k22_8, k22_16, v_slice_hi]
    exact vp1 rfl
end
end Go.Proofs.Ytbngfbpegdcpkaa
/-! The abstract machine: contracts that leave open which of its outcomes a call yields. -/
namespace Go.Proofs.Ytbngfbpegdcpkaa
set_option linter.unusedVariables false
set_option linter.unusedSimpArgs false
/-- a body's end, where what comes out is not told ahead -/
def VRE (q : Lab) (H0 : Heap) (res : List AResV) (Φ : AV → Chg → Prop) : VPost := fun e r H _ => (e = .normal ∨ e = .ret) ∧ ∃ x y u, aRes H r res = some x ∧ Φ y u ∧ (∀ l, u.has l → H0 l ≠ none ∨ Under q l) ∧ Fr (fun l => upd u H0 l = none ∧ H l ≠ none) H x y ∧ ∀ l o, upd u H0 l = some o → H l = some o
theorem soundE_vc {P : Program} (hm : P.follows .mixedOrders = true) {f : Nat} {A : AFun} (hA : FunOk P f A) {xs : List AV} (hlen : xs.length = A.np) {H : Heap} {q : Lab} {Φ : AV → Chg → Prop}
    (h : vc P q A.body (VRE q H A.res Φ) (params 0 xs) H 0) : SoundE P f xs H q Φ := by
  refine soundE_of_gwp hm hA hlen ?_
  refine gwp_mono (fun e s he => ?_) (vc_sound (ov := []) (H0 := H) h)
  obtain ⟨he, x, y, u, hx, hΦ, hu, hf, hl⟩ := he
  exact ⟨he, x, y, u, hx, hΦ, hu, hf, hl⟩
theorem SoundE.mono {P : Program} {f : Nat} {xs : List AV} {H : Heap} {q : Lab} {Φ Ψ : AV → Chg → Prop} (h : SoundE P f xs H q Φ) (hk : ∀ x u, Φ x u → (∀ l, u.has l → H l ≠ none ∨ Under q l) → Ψ x u) : SoundE P f xs H q Ψ := by
  refine ⟨h.1, fun ρ R vs hvs w hR hfr => ?_⟩
  refine Calls.mono (h.2 ρ R vs hvs w hR hfr) ?_
  rintro e w' ⟨v, rfl, x, u, ρ', R', h1, h2, h3, h4, h5⟩
  exact ⟨v, rfl, x, u, ρ', R', hk x u h1 h2, h2, h3, h4, h5⟩
section
variable {P : Program} {H : Heap} {p q : Lab} {KK : KF}
theorem call_e {f : Nat} {xs : List AV} {Φ : AV → Chg → Prop} (h : SoundE P f xs H q Φ) (hk : ∀ x u, Φ x u → KK x (upd u H) (u.map (·.1)) none) : vCall true P f xs H q KK := Or.inr ⟨rfl, Φ, h, hk⟩
/-- .. and the labels to come are free -/
theorem call_e_gen {c : Nat} {f : Nat} {xs : List AV} {Φ : AV → Chg → Prop} (h : SoundE P f xs H (c :: p) Φ) (hf : Fresh p c H) (hk : ∀ x u H', Φ x u → (∀ l, H' l = upd u H l) → Fresh p (c + 1) H' → KK x H' (u.map (·.1)) none) : vCall true P f xs H (c :: p) KK := by
  refine Or.inr ⟨rfl, _, h.mono (Ψ := fun x u => Φ x u ∧ ∀ l, u.has l → H l ≠ none ∨ Under (c :: p) l) (fun x u h1 h2 => ⟨h1, h2⟩), ?_⟩
  rintro x u ⟨h1, h2⟩
  refine hk x u _ h1 (fun _ => rfl) (fun k s hk => ?_)
  by_cases hh : u.has (s ++ k :: p)
  · rcases h2 _ hh with h3 | ⟨t, ht⟩
    · exact absurd (hf k s (by omega)) h3
    · exfalso
      have := under_inj (i := k) (j := c) (p := p) (l := s ++ k :: p) ⟨s, rfl⟩ ⟨t, ht⟩
      omega
  · rw [upd_not hh]; exact hf k s (by omega)
end
end Go.Proofs.Ytbngfbpegdcpkaa
/-! What is owed of functions of the program, as formulas. -/
namespace Go.Proofs.Ytbngfbpegdcpkaa
set_option maxRecDepth 100000
set_option linter.unusedVariables false
set_option linter.unusedSimpArgs false
/-- duet/edit.Do -/
def c12 : AFun := ⟨2, 62, [.cell 4 3 true, .tmp 5],
  (.seq (.region [⟨(some 2), none, .box, [.t 0]⟩, ⟨(some 3), none, .box, [.t 1]⟩, ⟨(some 4), none, (.alloc [.nils, (.int .i64 0), .nils]), []⟩, ⟨(some 5), none, .move, [.c .nils]⟩] none [2, 3, 4])
  (.seq (.region [⟨(some 9), none, (.fieldAddr 0), [.t 2]⟩, ⟨(some 10), none, (.load 1 false), [.t 9]⟩, ⟨(some 11), none, .call, [.c (.fn (.func 25) [] []), .t 10]⟩, ⟨(some 12), none, (.fieldAddr 0), [.t 2]⟩, ⟨(some 13), none, (.load 1 false), [.t 12]⟩, ⟨(some 14), none, (.fieldAddr 1), [.t 2]⟩, ⟨(some 15), none, (.load 1 false), [.t 14]⟩, ⟨(some 16), none, .call, [.c (.fn (.func 26) [] []), .t 13, .t 15]⟩, ⟨(some 17), none, (.fieldAddr 2), [.t 2]⟩, ⟨(some 18), none, (.load 1 false), [.t 17]⟩, ⟨(some 19), none, .call, [.c (.fn (.func 25) [] []), .t 18]⟩, ⟨(some 20), none, (.build [.nils, (.int .i64 0), .nils] [(0, 1), (1, 1), (2, 1)]), [.t 11, .t 16, .t 19]⟩, ⟨(some 21), none, (.build [.nils, (.int .i64 0), .nils, .nils] [(0, 3)]), [.t 20]⟩, ⟨(some 22), none, .box, [.t 21]⟩, ⟨(some 6), none, .move, [.t 22]⟩] (some [0, 1, 3, 0, 8, 0, 32, 127, 0, 256, 1023, 2047, 4095, 8191, 16383]) [3, 4, 6])
  (.seq (.seq (.region [⟨(some 23), none, (.fieldAddr 0), [.t 3]⟩, ⟨(some 24), none, (.load 1 false), [.t 23]⟩, ⟨(some 25), none, (.bin .neq .num), [.t 24, .c (.int .i64 1)]⟩, ⟨(some 26), none, .move, [.t 25]⟩, ⟨(some 27), (some (26, true)), (.fieldAddr 0), [.t 3]⟩, ⟨(some 28), (some (26, true)), (.load 1 false), [.t 27]⟩, ⟨(some 29), (some (26, true)), (.bin .neq .num), [.t 28, .c (.int .i64 2)]⟩, ⟨(some 30), none, .pick, [.t 26, .t 29, .c (.bool false)]⟩, ⟨(some 31), none, .move, [.t 30]⟩, ⟨(some 32), (some (31, true)), (.fieldAddr 0), [.t 3]⟩, ⟨(some 33), (some (31, true)), (.load 1 false), [.t 32]⟩, ⟨(some 34), (some (31, true)), (.bin .neq .num), [.t 33, .c (.int .i64 3)]⟩, ⟨(some 35), none, .pick, [.t 31, .t 34, .c (.bool false)]⟩] none [3, 4, 6, 35])
  (.cond (.t 35) (.region [⟨(some 36), none, (.fieldAddr 1), [.t 3]⟩, ⟨none, none, (.store 1), [.t 36, .c (.int .i64 0)]⟩] none [3, 4, 6])
  .skip))
  (.seq (.seq (.region [⟨(some 37), none, (.fieldAddr 0), [.t 3]⟩, ⟨(some 38), none, (.load 1 false), [.t 37]⟩, ⟨(some 39), none, (.bin .eql .num), [.t 38, .c (.int .i64 1)]⟩] none [3, 4, 6, 39])
  (.cond (.t 39) (.region [⟨(some 40), none, .move, [.t 6]⟩, ⟨(some 41), none, (.fieldAddr 1), [.t 3]⟩, ⟨(some 42), none, (.load 1 false), [.t 41]⟩, ⟨(some 43), none, .call, [.c (.fn (.func 27) [] []), .t 40, .t 42]⟩] none [4, 6])
  (.seq (.region [⟨(some 45), none, .call, [.c (.fn (.func 28) [] [])]⟩, ⟨(some 46), none, (.load 2 true), [.t 3]⟩, ⟨(some 47), none, (.lookup true [.int, .int] .nilf true), [.t 45, .t 46]⟩, ⟨(some 44), none, .move, [.t 47]⟩, ⟨(some 48), none, (.extract 0), [.t 44]⟩, ⟨(some 49), none, (.extract 1), [.t 44]⟩, ⟨(some 7), none, .move, [.t 48]⟩, ⟨(some 8), none, .move, [.t 49]⟩] (some [0, 0, 3, 7, 15, 15, 31, 127]) [4, 6, 7, 8])
  (.seq (.region [⟨(some 50), none, .move, [.t 8]⟩] none [4, 6, 7, 50])
  (.cond (.t 50) (.region [⟨(some 51), none, .move, [.t 7]⟩, ⟨(some 52), none, .move, [.t 6]⟩, ⟨(some 53), none, .call, [.t 51, .t 52]⟩] none [4, 6])
  .skip)))))
  (.seq (.region [⟨(some 54), none, .move, [.t 6]⟩, ⟨(some 55), none, .nilCheck, [.t 54]⟩, ⟨(some 56), none, (.fieldAddr 0), [.t 55]⟩, ⟨(some 57), none, (.load 3 true), [.t 56]⟩, ⟨(some 58), none, .move, [.t 6]⟩, ⟨(some 59), none, .nilCheck, [.t 58]⟩, ⟨(some 60), none, (.fieldAddr 3), [.t 59]⟩, ⟨(some 61), none, (.load 1 false), [.t 60]⟩, ⟨none, none, (.store 3), [.t 4, .t 57]⟩, ⟨(some 5), none, .move, [.t 61]⟩] (some [0, 1, 3, 7, 0, 16, 48, 112, 15, 511]) [4, 5])
  .ret)))))⟩
theorem ok12 : FunOk Try.prog 12 c12 := ⟨⟨Try.f12, _, Try.func12, rfl, by kernel_rfl, by kernel_rfl, by kernel_rfl, by kernel_rfl⟩, by decide⟩
theorem res12 : c12.res = [.cell 4 3 true, .tmp 5] := rfl
def k12_4 (P : Program) (p : Lab) (Q : VPost) (v61_48 : AV) (f48 : Option (List Lab)) (f44 : Option (List Lab)) (y4 : AV) (c : Nat) (v_49 : AV) (H49 : Heap) (l49 : List Lab) (f49 : Option (List Lab)) : Prop :=
  clashFree [0, 1, 3, 7, 0, 16, 48, 112, 15, 511] (addTr 3 [] ((c + 7) :: p) f44 (addTr 7 [] ((c + 11) :: p) f48 (addTr 8 l49 ((c + 12) :: p) f49 []))) ∧
  Q .ret [(4, y4), (5, v61_48)] H49 (c + 14)
def k12_5 (P : Program) (p : Lab) (Q : VPost) (y4 : AV) (y6 : AV) (c : Nat) (v43_40 : AV) (H40 : Heap) (l40 : List Lab) (f40 : Option (List Lab)) : Prop :=
  vNil y6 fun v55_42 =>
  vFA 0 v55_42 fun v56_43 =>
  vLoad 3 true v56_43 H40 fun v57_44 f44 =>
  vNil y6 fun v59_46 =>
  vFA 3 v59_46 fun v60_47 =>
  vLoad 1 false v60_47 H40 fun v61_48 f48 =>
  vGen (.store 3) [y4, v57_44] H40 ((c + 12) :: p) (k12_4 P p Q v61_48 f48 f44 y4 c)
def k12_3 (P : Program) (p : Lab) (Q : VPost) (y3 : AV) (y4 : AV) (y6 : AV) (H : Heap) (c : Nat) : Prop :=
  vFA 1 y3 fun v41_38 =>
  vLoad 1 false v41_38 H fun v42_39 _ =>
  vCall true P 27 [y6, v42_39] H ((c + 3) :: p) (k12_5 P p Q y4 y6 c)
def k12_6 (P : Program) (p : Lab) (Q : VPost) (y3 : AV) (y4 : AV) (y6 : AV) (H : Heap) (c : Nat) (_ : Unit) : Prop :=
  (k12_3 P p Q y3 y4 y6 H (c + 3))
def k12_9 (P : Program) (p : Lab) (Q : VPost) (v61_70 : AV) (f70 : Option (List Lab)) (f66 : Option (List Lab)) (y4 : AV) (c : Nat) (v_71 : AV) (H71 : Heap) (l71 : List Lab) (f71 : Option (List Lab)) : Prop :=
  clashFree [0, 1, 3, 7, 0, 16, 48, 112, 15, 511] (addTr 3 [] ((c + 3) :: p) f66 (addTr 7 [] ((c + 7) :: p) f70 (addTr 8 l71 ((c + 8) :: p) f71 []))) ∧
  Q .ret [(4, y4), (5, v61_70)] H71 (c + 10)
def k12_8 (P : Program) (p : Lab) (Q : VPost) (y4 : AV) (y6 : AV) (H : Heap) (c : Nat) : Prop :=
  vNil y6 fun v55_64 =>
  vFA 0 v55_64 fun v56_65 =>
  vLoad 3 true v56_65 H fun v57_66 f66 =>
  vNil y6 fun v59_68 =>
  vFA 3 v59_68 fun v60_69 =>
  vLoad 1 false v60_69 H fun v61_70 f70 =>
  vGen (.store 3) [y4, v57_66] H ((c + 8) :: p) (k12_9 P p Q v61_70 f70 f66 y4 c)
def k12_10 (P : Program) (p : Lab) (Q : VPost) (y4 : AV) (y6 : AV) (c : Nat) (v53_62 : AV) (H62 : Heap) (l62 : List Lab) (f62 : Option (List Lab)) : Prop :=
  (k12_8 P p Q y4 y6 H62 (c + 4))
def k12_11 (P : Program) (p : Lab) (Q : VPost) (y4 : AV) (y6 : AV) (y7 : AV) (H : Heap) (c : Nat) (_ : Unit) : Prop :=
  vopS P .call [y7, y6] H ((c + 3) :: p) (k12_10 P p Q y4 y6 c)
def k12_13 (P : Program) (p : Lab) (Q : VPost) (v61_80 : AV) (f80 : Option (List Lab)) (f76 : Option (List Lab)) (y4 : AV) (c : Nat) (v_81 : AV) (H81 : Heap) (l81 : List Lab) (f81 : Option (List Lab)) : Prop :=
  clashFree [0, 1, 3, 7, 0, 16, 48, 112, 15, 511] (addTr 3 [] ((c + 3) :: p) f76 (addTr 7 [] ((c + 7) :: p) f80 (addTr 8 l81 ((c + 8) :: p) f81 []))) ∧
  Q .ret [(4, y4), (5, v61_80)] H81 (c + 10)
def k12_12 (P : Program) (p : Lab) (Q : VPost) (y4 : AV) (y6 : AV) (y7 : AV) (y50 : AV) (H : Heap) (c : Nat) : Prop :=
  vNil y6 fun v55_74 =>
  vFA 0 v55_74 fun v56_75 =>
  vLoad 3 true v56_75 H fun v57_76 f76 =>
  vNil y6 fun v59_78 =>
  vFA 3 v59_78 fun v60_79 =>
  vLoad 1 false v60_79 H fun v61_80 f80 =>
  vGen (.store 3) [y4, v57_76] H ((c + 8) :: p) (k12_13 P p Q v61_80 f80 f76 y4 c)
def k12_14 (P : Program) (p : Lab) (Q : VPost) (y4 : AV) (y6 : AV) (y7 : AV) (y8 : AV) (H : Heap) (c : Nat) (_ : Unit) : Prop :=
  (k12_12 P p Q y4 y6 y7 y8 H (c + 1))
def k12_7 (P : Program) (p : Lab) (Q : VPost) (y4 : AV) (y6 : AV) (y7 : AV) (y8 : AV) (H : Heap) (c : Nat) : Prop :=
  vSel y8
  (k12_11 P p Q y4 y6 y7 H c)
  (k12_14 P p Q y4 y6 y7 y8 H c)
def k12_15 (P : Program) (p : Lab) (Q : VPost) (f52 : Option (List Lab)) (l51 : List Lab) (f51 : Option (List Lab)) (y4 : AV) (y6 : AV) (c : Nat) (v47_53 : AV) (H53 : Heap) (l53 : List Lab) (f53 : Option (List Lab)) : Prop :=
  vExt 0 v47_53 fun v48_55 =>
  vExt 1 v47_53 fun v49_56 =>
  clashFree [0, 0, 3, 7, 15, 15, 31, 127] (addTr 0 l51 ((c + 3) :: p) f51 (addTr 1 [] ((c + 4) :: p) f52 (addTr 2 l53 ((c + 5) :: p) f53 []))) ∧
  (k12_7 P p Q y4 y6 v48_55 v49_56 H53 (c + 11))
def k12_16 (P : Program) (p : Lab) (Q : VPost) (y3 : AV) (y4 : AV) (y6 : AV) (c : Nat) (v45_51 : AV) (H51 : Heap) (l51 : List Lab) (f51 : Option (List Lab)) : Prop :=
  vLoad 2 true y3 H51 fun v46_52 f52 =>
  vGen (.lookup true [.int, .int] .nilf true) [v45_51, v46_52] H51 ((c + 5) :: p) (k12_15 P p Q f52 l51 f51 y4 y6 c)
def k12_17 (P : Program) (p : Lab) (Q : VPost) (y3 : AV) (y4 : AV) (y6 : AV) (H : Heap) (c : Nat) (_ : Unit) : Prop :=
  vCall false P 28 [] H ((c + 3) :: p) (k12_16 P p Q y3 y4 y6 c)
def k12_2 (P : Program) (p : Lab) (Q : VPost) (y3 : AV) (y4 : AV) (y6 : AV) (H : Heap) (c : Nat) : Prop :=
  vFA 0 y3 fun v37_34 =>
  vLoad 1 false v37_34 H fun v38_35 _ =>
  vBin .eql .num v38_35 (.int .i64 1) fun v39_36 =>
  vSel v39_36
  (k12_6 P p Q y3 y4 y6 H c)
  (k12_17 P p Q y3 y4 y6 H c)
def k12_18 (P : Program) (p : Lab) (Q : VPost) (y3 : AV) (y4 : AV) (y6 : AV) (c : Nat) (v_33 : AV) (H33 : Heap) (l33 : List Lab) (f33 : Option (List Lab)) : Prop :=
  (k12_2 P p Q y3 y4 y6 H33 (c + 2))
def k12_19 (P : Program) (p : Lab) (Q : VPost) (y3 : AV) (y4 : AV) (y6 : AV) (H : Heap) (c : Nat) (_ : Unit) : Prop :=
  vFA 1 y3 fun v36_32 =>
  vGen (.store 1) [v36_32, (.int .i64 0)] H ((c + 1) :: p) (k12_18 P p Q y3 y4 y6 c)
def k12_21 (P : Program) (p : Lab) (Q : VPost) (y3 : AV) (y4 : AV) (y6 : AV) (H : Heap) (c : Nat) (_ : Unit) : Prop :=
  (k12_3 P p Q y3 y4 y6 H (c + 3))
def k12_22 (P : Program) (p : Lab) (Q : VPost) (f87 : Option (List Lab)) (l86 : List Lab) (f86 : Option (List Lab)) (y4 : AV) (y6 : AV) (c : Nat) (v47_88 : AV) (H88 : Heap) (l88 : List Lab) (f88 : Option (List Lab)) : Prop :=
  vExt 0 v47_88 fun v48_90 =>
  vExt 1 v47_88 fun v49_91 =>
  clashFree [0, 0, 3, 7, 15, 15, 31, 127] (addTr 0 l86 ((c + 3) :: p) f86 (addTr 1 [] ((c + 4) :: p) f87 (addTr 2 l88 ((c + 5) :: p) f88 []))) ∧
  (k12_7 P p Q y4 y6 v48_90 v49_91 H88 (c + 11))
def k12_23 (P : Program) (p : Lab) (Q : VPost) (y3 : AV) (y4 : AV) (y6 : AV) (c : Nat) (v45_86 : AV) (H86 : Heap) (l86 : List Lab) (f86 : Option (List Lab)) : Prop :=
  vLoad 2 true y3 H86 fun v46_87 f87 =>
  vGen (.lookup true [.int, .int] .nilf true) [v45_86, v46_87] H86 ((c + 5) :: p) (k12_22 P p Q f87 l86 f86 y4 y6 c)
def k12_24 (P : Program) (p : Lab) (Q : VPost) (y3 : AV) (y4 : AV) (y6 : AV) (H : Heap) (c : Nat) (_ : Unit) : Prop :=
  vCall false P 28 [] H ((c + 3) :: p) (k12_23 P p Q y3 y4 y6 c)
def k12_20 (P : Program) (p : Lab) (Q : VPost) (y3 : AV) (y4 : AV) (y6 : AV) (y35 : AV) (H : Heap) (c : Nat) : Prop :=
  vFA 0 y3 fun v37_83 =>
  vLoad 1 false v37_83 H fun v38_84 _ =>
  vBin .eql .num v38_84 (.int .i64 1) fun v39_85 =>
  vSel v39_85
  (k12_21 P p Q y3 y4 y6 H c)
  (k12_24 P p Q y3 y4 y6 H c)
def k12_25 (P : Program) (p : Lab) (Q : VPost) (y3 : AV) (y4 : AV) (y6 : AV) (y35 : AV) (H : Heap) (c : Nat) (_ : Unit) : Prop :=
  (k12_20 P p Q y3 y4 y6 y35 H c)
def k12_1 (P : Program) (p : Lab) (Q : VPost) (y3 : AV) (y4 : AV) (y6 : AV) (y35 : AV) (H : Heap) (c : Nat) : Prop :=
  vSel y35
  (k12_19 P p Q y3 y4 y6 H c)
  (k12_25 P p Q y3 y4 y6 y35 H c)
def k12_26 (P : Program) (p : Lab) (Q : VPost) (y3 : AV) (y4 : AV) (y6 : AV) (H : Heap) (c : Nat) (_ : Unit) : Prop :=
  vFA 0 y3 fun v32_28 =>
  vLoad 1 false v32_28 H fun v33_29 _ =>
  vBin .neq .num v33_29 (.int .i64 3) fun v34_30 =>
  (k12_1 P p Q y3 y4 y6 v34_30 H (c + 6))
def k12_28 (P : Program) (p : Lab) (Q : VPost) (y3 : AV) (y4 : AV) (y6 : AV) (H : Heap) (c : Nat) (_ : Unit) : Prop :=
  (k12_3 P p Q y3 y4 y6 H (c + 3))
def k12_29 (P : Program) (p : Lab) (Q : VPost) (f99 : Option (List Lab)) (l98 : List Lab) (f98 : Option (List Lab)) (y4 : AV) (y6 : AV) (c : Nat) (v47_100 : AV) (H100 : Heap) (l100 : List Lab) (f100 : Option (List Lab)) : Prop :=
  vExt 0 v47_100 fun v48_102 =>
  vExt 1 v47_100 fun v49_103 =>
  clashFree [0, 0, 3, 7, 15, 15, 31, 127] (addTr 0 l98 ((c + 3) :: p) f98 (addTr 1 [] ((c + 4) :: p) f99 (addTr 2 l100 ((c + 5) :: p) f100 []))) ∧
  (k12_7 P p Q y4 y6 v48_102 v49_103 H100 (c + 11))
def k12_30 (P : Program) (p : Lab) (Q : VPost) (y3 : AV) (y4 : AV) (y6 : AV) (c : Nat) (v45_98 : AV) (H98 : Heap) (l98 : List Lab) (f98 : Option (List Lab)) : Prop :=
  vLoad 2 true y3 H98 fun v46_99 f99 =>
  vGen (.lookup true [.int, .int] .nilf true) [v45_98, v46_99] H98 ((c + 5) :: p) (k12_29 P p Q f99 l98 f98 y4 y6 c)
def k12_31 (P : Program) (p : Lab) (Q : VPost) (y3 : AV) (y4 : AV) (y6 : AV) (H : Heap) (c : Nat) (_ : Unit) : Prop :=
  vCall false P 28 [] H ((c + 3) :: p) (k12_30 P p Q y3 y4 y6 c)
def k12_27 (P : Program) (p : Lab) (Q : VPost) (y3 : AV) (y4 : AV) (y6 : AV) (H : Heap) (c : Nat) : Prop :=
  vFA 0 y3 fun v37_95 =>
  vLoad 1 false v37_95 H fun v38_96 _ =>
  vBin .eql .num v38_96 (.int .i64 1) fun v39_97 =>
  vSel v39_97
  (k12_28 P p Q y3 y4 y6 H c)
  (k12_31 P p Q y3 y4 y6 H c)
def k12_32 (P : Program) (p : Lab) (Q : VPost) (y3 : AV) (y4 : AV) (y6 : AV) (H : Heap) (c : Nat) (_ : Unit) : Prop :=
  (k12_27 P p Q y3 y4 y6 H (c + 6))
def k12_0 (P : Program) (p : Lab) (Q : VPost) (y3 : AV) (y4 : AV) (y6 : AV) (y29 : AV) (H : Heap) (c : Nat) : Prop :=
  vSel y29
  (k12_26 P p Q y3 y4 y6 H c)
  (k12_32 P p Q y3 y4 y6 H c)
def k12_33 (P : Program) (p : Lab) (Q : VPost) (H17 : Heap) (w17 : List AV) (w1 : List AV) (c : Nat) (_ : Unit) : Prop :=
  vFA 0 (.ptr ((c + 1) :: p) w1.length 0 0) fun v27_23 =>
  vLoad 1 false v27_23 H17 fun v28_24 _ =>
  vBin .neq .num v28_24 (.int .i64 2) fun v29_25 =>
  (k12_0 P p Q (.ptr ((c + 1) :: p) w1.length 0 0) (.ptr ((c + 2) :: p) 3 0 0) (.ptr ((c + 17) :: p) w17.length 0 0) v29_25 H17 (c + 26))
def k12_34 (P : Program) (p : Lab) (Q : VPost) (y3 : AV) (y4 : AV) (y6 : AV) (H : Heap) (c : Nat) : Prop :=
  (k12_27 P p Q y3 y4 y6 H (c + 6))
def k12_35 (P : Program) (p : Lab) (Q : VPost) (H17 : Heap) (w17 : List AV) (w1 : List AV) (c : Nat) (_ : Unit) : Prop :=
  (k12_34 P p Q (.ptr ((c + 1) :: p) w1.length 0 0) (.ptr ((c + 2) :: p) 3 0 0) (.ptr ((c + 17) :: p) w17.length 0 0) H17 (c + 26))
def k12_36 (P : Program) (p : Lab) (Q : VPost) (f13 : Option (List Lab)) (v16_11 : AV) (l11 : List Lab) (f11 : Option (List Lab)) (f10 : Option (List Lab)) (f8 : Option (List Lab)) (v11_6 : AV) (l6 : List Lab) (f6 : Option (List Lab)) (f5 : Option (List Lab)) (w1 : List AV) (c : Nat) (v19_14 : AV) (H14 : Heap) (l14 : List Lab) (f14 : Option (List Lab)) : Prop :=
  vBuild [.nils, (.int .i64 0), .nils] [(0, 1), (1, 1), (2, 1)] [v11_6, v16_11, v19_14] fun v20_15 =>
  vBuild [.nils, (.int .i64 0), .nils, .nils] [(0, 3)] [v20_15] fun v21_16 =>
  vBox v21_16 fun w17 =>
  (fun (H17 : Heap) =>
  clashFree [0, 1, 3, 0, 8, 0, 32, 127, 0, 256, 1023, 2047, 4095, 8191, 16383] (addTr 1 [] ((c + 5) :: p) f5 (addTr 2 l6 ((c + 6) :: p) f6 (addTr 4 [] ((c + 8) :: p) f8 (addTr 6 [] ((c + 10) :: p) f10 (addTr 7 l11 ((c + 11) :: p) f11 (addTr 9 [] ((c + 13) :: p) f13 (addTr 10 l14 ((c + 14) :: p) f14 (addTr 13 [((c + 17) :: p)] ((c + 17) :: p) (some []) [])))))))) ∧
  vFA 0 (.ptr ((c + 1) :: p) w1.length 0 0) fun v23_19 =>
  vLoad 1 false v23_19 H17 fun v24_20 _ =>
  vBin .neq .num v24_20 (.int .i64 1) fun v25_21 =>
  vSel v25_21
  (k12_33 P p Q H17 w17 w1 c)
  (k12_35 P p Q H17 w17 w1 c)) (upd [(((c + 17) :: p), some (.rows w17.length [w17]))] H14)
def k12_37 (P : Program) (p : Lab) (Q : VPost) (f10 : Option (List Lab)) (f8 : Option (List Lab)) (v11_6 : AV) (l6 : List Lab) (f6 : Option (List Lab)) (f5 : Option (List Lab)) (w1 : List AV) (w0 : List AV) (c : Nat) (v16_11 : AV) (H11 : Heap) (l11 : List Lab) (f11 : Option (List Lab)) : Prop :=
  vFA 2 (.ptr (c :: p) w0.length 0 0) fun v17_12 =>
  vLoad 1 false v17_12 H11 fun v18_13 f13 =>
  vCall false P 25 [v18_13] H11 ((c + 14) :: p) (k12_36 P p Q f13 v16_11 l11 f11 f10 f8 v11_6 l6 f6 f5 w1 c)
def k12_38 (P : Program) (p : Lab) (Q : VPost) (f5 : Option (List Lab)) (w1 : List AV) (w0 : List AV) (c : Nat) (v11_6 : AV) (H6 : Heap) (l6 : List Lab) (f6 : Option (List Lab)) : Prop :=
  vFA 0 (.ptr (c :: p) w0.length 0 0) fun v12_7 =>
  vLoad 1 false v12_7 H6 fun v13_8 f8 =>
  vFA 1 (.ptr (c :: p) w0.length 0 0) fun v14_9 =>
  vLoad 1 false v14_9 H6 fun v15_10 f10 =>
  vCall false P 26 [v13_8, v15_10] H6 ((c + 11) :: p) (k12_37 P p Q f10 f8 v11_6 l6 f6 f5 w1 w0 c)
def V12 (P : Program) (p : Lab) (Q : VPost) (x0 x1 : AV) (H : Heap) (c : Nat) : Prop :=
  vBox x0 fun w0 =>
  (fun (H0 : Heap) =>
  vBox x1 fun w1 =>
  (fun (H1 : Heap) =>
  (fun (H2 : Heap) =>
  vFA 0 (.ptr (c :: p) w0.length 0 0) fun v9_4 =>
  vLoad 1 false v9_4 H2 fun v10_5 f5 =>
  vCall false P 25 [v10_5] H2 ((c + 6) :: p) (k12_38 P p Q f5 w1 w0 c)) (upd [(((c + 2) :: p), some (.rows 3 [[.nils, (.int .i64 0), .nils]]))] H1)) (upd [(((c + 1) :: p), some (.rows w1.length [w1]))] H0)) (upd [((c :: p), some (.rows w0.length [w0]))] H)
theorem vt12 (P : Program) (p : Lab) (Q : VPost) (x0 x1 : AV) (H : Heap) (c : Nat) : vc P p c12.body Q [(0, x0), (1, x1)] H c = V12 P p Q x0 x1 H c := by kernel_rfl


/-- (*duet/edit.work).put -/
def c27 : AFun := ⟨2, 59, [.tmp 4],
  (.seq (.region [⟨(some 4), none, .move, [.c (.bool false)]⟩] none [0, 1])
  (.seq (.seq (.region [⟨(some 5), none, .move, [.t 0]⟩, ⟨(some 6), none, .nilCheck, [.t 5]⟩, ⟨(some 7), none, (.fieldAddr 0), [.t 6]⟩, ⟨(some 8), none, (.fieldAddr 0), [.t 7]⟩, ⟨(some 9), none, (.load 1 false), [.t 8]⟩, ⟨(some 10), none, (.len .slice), [.t 9]⟩, ⟨(some 11), none, (.bin .geq .num), [.t 10, .c (.int .i64 1000)]⟩, ⟨(some 12), none, .move, [.t 11]⟩, ⟨(some 13), (some (12, false)), .move, [.t 1]⟩, ⟨(some 14), (some (12, false)), .call, [.c (.fn (.func 40) [] []), .t 13]⟩, ⟨(some 15), (some (12, false)), (.un .not), [.t 14]⟩, ⟨(some 16), none, .pick, [.t 12, .c (.bool true), .t 15]⟩] none [0, 1, 16])
  (.cond (.t 16) (.seq (.region [⟨(some 4), none, .move, [.c (.bool false)]⟩] none [4])
  .ret)
  .skip))
  (.seq (.region [⟨(some 17), none, .move, [.t 0]⟩, ⟨(some 18), none, .move, [.t 0]⟩, ⟨(some 19), none, .nilCheck, [.t 18]⟩, ⟨(some 20), none, (.fieldAddr 3), [.t 19]⟩, ⟨(some 21), none, (.load 1 false), [.t 20]⟩, ⟨(some 22), none, .move, [.t 0]⟩, ⟨(some 23), none, .nilCheck, [.t 22]⟩, ⟨(some 24), none, (.fieldAddr 0), [.t 23]⟩, ⟨(some 25), none, (.fieldAddr 1), [.t 24]⟩, ⟨(some 26), none, (.load 1 false), [.t 25]⟩, ⟨(some 27), none, .move, [.t 1]⟩, ⟨(some 28), none, (.build [(.int .i64 0), (.int .i64 0), (.int .i64 0)] [(0, 1), (1, 1), (2, 1)]), [.c (.int .i64 1), .t 26, .t 27]⟩, ⟨(some 29), none, (.buildSlice 3 [(.int .i64 0), (.int .i64 0), (.int .i64 0)] [(0, 3)]), [.t 28]⟩, ⟨(some 30), none, (.append 3 24), [.t 21, .t 29]⟩, ⟨(some 31), none, .nilCheck, [.t 17]⟩, ⟨(some 32), none, (.fieldAddr 3), [.t 31]⟩, ⟨none, none, (.store 1), [.t 32, .t 30]⟩] (some [0, 0, 2, 6, 14, 0, 32, 96, 224, 480, 0, 2016, 4064, 8190, 16383, 32767, 65535]) [0, 1])
  (.seq (.region [⟨(some 33), none, .move, [.t 0]⟩, ⟨(some 34), none, .move, [.t 0]⟩, ⟨(some 35), none, .nilCheck, [.t 34]⟩, ⟨(some 36), none, (.fieldAddr 0), [.t 35]⟩, ⟨(some 37), none, (.fieldAddr 0), [.t 36]⟩, ⟨(some 38), none, (.load 1 false), [.t 37]⟩, ⟨(some 39), none, .move, [.t 0]⟩, ⟨(some 40), none, .nilCheck, [.t 39]⟩, ⟨(some 41), none, (.fieldAddr 0), [.t 40]⟩, ⟨(some 42), none, (.fieldAddr 1), [.t 41]⟩, ⟨(some 43), none, (.load 1 false), [.t 42]⟩, ⟨(some 44), none, .move, [.t 1]⟩, ⟨(some 45), none, (.buildSlice 1 [(.int .i64 0)] [(0, 1)]), [.t 44]⟩, ⟨(some 46), none, .call, [.c (.fn (.func 33) [] []), .t 38, .t 43, .t 45]⟩, ⟨(some 47), none, .nilCheck, [.t 33]⟩, ⟨(some 48), none, (.fieldAddr 0), [.t 47]⟩, ⟨(some 49), none, (.fieldAddr 0), [.t 48]⟩, ⟨none, none, (.store 1), [.t 49, .t 46]⟩] (some [0, 0, 2, 6, 14, 30, 0, 64, 192, 448, 960, 0, 2048, 8190, 16383, 32767, 65535, 131071]) [0])
  (.seq (.region [⟨(some 50), none, .move, [.t 0]⟩, ⟨(some 51), none, .nilCheck, [.t 50]⟩, ⟨(some 52), none, (.fieldAddr 0), [.t 51]⟩, ⟨(some 53), none, (.fieldAddr 1), [.t 52]⟩, ⟨(some 54), none, (.load 1 false), [.t 53]⟩, ⟨(some 55), none, (.bin .add .num), [.t 54, .c (.int .i64 1)]⟩, ⟨(some 56), none, .nilCheck, [.t 50]⟩, ⟨(some 57), none, (.fieldAddr 0), [.t 56]⟩, ⟨(some 58), none, (.fieldAddr 1), [.t 57]⟩, ⟨none, none, (.store 1), [.t 58, .t 55]⟩] none [])
  (.seq (.region [⟨(some 4), none, .move, [.c (.bool true)]⟩] none [4])
  .ret))))))⟩
theorem ok27 : FunOk Try.prog 27 c27 := ⟨⟨Try.f27, _, Try.func27, rfl, by kernel_rfl, by kernel_rfl, by kernel_rfl, by kernel_rfl⟩, by decide⟩
theorem res27 : c27.res = [.tmp 4] := rfl
def k27_0 (P : Program) (p : Lab) (Q : VPost) (y0 : AV) (y1 : AV) (H : Heap) (c : Nat) : Prop :=
  Q .ret [(4, (.bool false))] H (c + 1)
def k27_1 (P : Program) (p : Lab) (Q : VPost) (x0 : AV) (x1 : AV) (H : Heap) (c : Nat) (_ : Unit) : Prop :=
  (k27_0 P p Q x0 x1 H (c + 13))
def k27_3 (P : Program) (p : Lab) (Q : VPost)  (H : Heap) (c : Nat) : Prop :=
  Q .ret [(4, (.bool false))] H c
def k27_4 (P : Program) (p : Lab) (Q : VPost) (H : Heap) (c : Nat) (_ : Unit) : Prop :=
  (k27_3 P p Q  H (c + 1))
def k27_6 (P : Program) (p : Lab) (Q : VPost) (l46 : List Lab) (f46 : Option (List Lab)) (f43 : Option (List Lab)) (f38 : Option (List Lab)) (y0 : AV) (c : Nat) (v_50 : AV) (H50 : Heap) (l50 : List Lab) (f50 : Option (List Lab)) : Prop :=
  clashFree [0, 0, 2, 6, 14, 30, 0, 64, 192, 448, 960, 0, 2048, 8190, 16383, 32767, 65535, 131071] (addTr 5 [] ((c + 22) :: p) f38 (addTr 10 [] ((c + 27) :: p) f43 (addTr 12 [((c + 29) :: p)] ((c + 29) :: p) (some []) (addTr 13 l46 ((c + 30) :: p) f46 (addTr 17 l50 ((c + 34) :: p) f50 []))))) ∧
  vNil y0 fun v51_52 =>
  vFA 0 v51_52 fun v52_53 =>
  vFA 1 v52_53 fun v53_54 =>
  vLoad 1 false v53_54 H50 fun v54_55 _ =>
  vBin .add .num v54_55 (.int .i64 1) fun v55_56 =>
  vNil y0 fun v56_57 =>
  vFA 0 v56_57 fun v57_58 =>
  vFA 1 v57_58 fun v58_59 =>
  vGen (.store 1) [v58_59, v55_56] H50 ((c + 44) :: p) (fun v_60 H60 l60 f60 =>
  Q .ret [(4, (.bool true))] H60 (c + 46))
def k27_7 (P : Program) (p : Lab) (Q : VPost) (f43 : Option (List Lab)) (f38 : Option (List Lab)) (y0 : AV) (c : Nat) (v46_46 : AV) (H46 : Heap) (l46 : List Lab) (f46 : Option (List Lab)) : Prop :=
  vNil y0 fun v47_47 =>
  vFA 0 v47_47 fun v48_48 =>
  vFA 0 v48_48 fun v49_49 =>
  vGen (.store 1) [v49_49, v46_46] H46 ((c + 34) :: p) (k27_6 P p Q l46 f46 f43 f38 y0 c)
def k27_8 (P : Program) (p : Lab) (Q : VPost) (l29 : List Lab) (f29 : Option (List Lab)) (f25 : Option (List Lab)) (f20 : Option (List Lab)) (y0 : AV) (y1 : AV) (c : Nat) (v_32 : AV) (H32 : Heap) (l32 : List Lab) (f32 : Option (List Lab)) : Prop :=
  clashFree [0, 0, 2, 6, 14, 0, 32, 96, 224, 480, 0, 2016, 4064, 8190, 16383, 32767, 65535] (addTr 4 [] ((c + 4) :: p) f20 (addTr 9 [] ((c + 9) :: p) f25 (addTr 12 [((c + 12) :: p)] ((c + 12) :: p) (some []) (addTr 13 l29 ((c + 13) :: p) f29 (addTr 16 l32 ((c + 16) :: p) f32 []))))) ∧
  vNil y0 fun v35_35 =>
  vFA 0 v35_35 fun v36_36 =>
  vFA 0 v36_36 fun v37_37 =>
  vLoad 1 false v37_37 H32 fun v38_38 f38 =>
  vNil y0 fun v40_40 =>
  vFA 0 v40_40 fun v41_41 =>
  vFA 1 v41_41 fun v42_42 =>
  vLoad 1 false v42_42 H32 fun v43_43 f43 =>
  vBuildS 1 [(.int .i64 0)] [(0, 1)] [y1] fun w45 n45 =>
  (fun (H45 : Heap) =>
  vCall false P 33 [v38_38, v43_43, (.sl ((c + 29) :: p) 1 0 n45)] H45 ((c + 30) :: p) (k27_7 P p Q f43 f38 y0 c)) (upd [(((c + 29) :: p), some (.rows 1 w45))] H32)
def k27_9 (P : Program) (p : Lab) (Q : VPost) (f25 : Option (List Lab)) (f20 : Option (List Lab)) (y0 : AV) (y1 : AV) (c : Nat) (v30_29 : AV) (H29 : Heap) (l29 : List Lab) (f29 : Option (List Lab)) : Prop :=
  vNil y0 fun v31_30 =>
  vFA 3 v31_30 fun v32_31 =>
  vGen (.store 1) [v32_31, v30_29] H29 ((c + 16) :: p) (k27_8 P p Q l29 f29 f25 f20 y0 y1 c)
def k27_5 (P : Program) (p : Lab) (Q : VPost) (y0 : AV) (y1 : AV) (y16 : AV) (H : Heap) (c : Nat) : Prop :=
  vNil y0 fun v19_18 =>
  vFA 3 v19_18 fun v20_19 =>
  vLoad 1 false v20_19 H fun v21_20 f20 =>
  vNil y0 fun v23_22 =>
  vFA 0 v23_22 fun v24_23 =>
  vFA 1 v24_23 fun v25_24 =>
  vLoad 1 false v25_24 H fun v26_25 f25 =>
  vBuild [(.int .i64 0), (.int .i64 0), (.int .i64 0)] [(0, 1), (1, 1), (2, 1)] [(.int .i64 1), v26_25, y1] fun v28_27 =>
  vBuildS 3 [(.int .i64 0), (.int .i64 0), (.int .i64 0)] [(0, 3)] [v28_27] fun w28 n28 =>
  (fun (H28 : Heap) =>
  vGen (.append 3 24) [v21_20, (.sl ((c + 12) :: p) 3 0 n28)] H28 ((c + 13) :: p) (k27_9 P p Q f25 f20 y0 y1 c)) (upd [(((c + 12) :: p), some (.rows 3 w28))] H)
def k27_10 (P : Program) (p : Lab) (Q : VPost) (y0 : AV) (y1 : AV) (y16 : AV) (H : Heap) (c : Nat) (_ : Unit) : Prop :=
  (k27_5 P p Q y0 y1 y16 H c)
def k27_2 (P : Program) (p : Lab) (Q : VPost) (y0 : AV) (y1 : AV) (y16 : AV) (H : Heap) (c : Nat) : Prop :=
  vSel y16
  (k27_4 P p Q H c)
  (k27_10 P p Q y0 y1 y16 H c)
def k27_11 (P : Program) (p : Lab) (Q : VPost) (x0 : AV) (x1 : AV) (c : Nat) (v14_12 : AV) (H12 : Heap) (l12 : List Lab) (f12 : Option (List Lab)) : Prop :=
  vNot v14_12 fun v15_13 =>
  (k27_2 P p Q x0 x1 v15_13 H12 (c + 13))
def k27_12 (P : Program) (p : Lab) (Q : VPost) (x0 : AV) (x1 : AV) (H : Heap) (c : Nat) (_ : Unit) : Prop :=
  vCall false P 40 [x1] H ((c + 10) :: p) (k27_11 P p Q x0 x1 c)
def V27 (P : Program) (p : Lab) (Q : VPost) (x0 x1 : AV) (H : Heap) (c : Nat) : Prop :=
  vNil x0 fun v6_2 =>
  vFA 0 v6_2 fun v7_3 =>
  vFA 0 v7_3 fun v8_4 =>
  vLoad 1 false v8_4 H fun v9_5 _ =>
  vLen v9_5 fun v10_6 =>
  vBin .geq .num v10_6 (.int .i64 1000) fun v11_7 =>
  vSel v11_7
  (k27_1 P p Q x0 x1 H c)
  (k27_12 P p Q x0 x1 H c)
theorem vt27 (P : Program) (p : Lab) (Q : VPost) (x0 x1 : AV) (H : Heap) (c : Nat) : vc P p c27.body Q [(0, x0), (1, x1)] H c = V27 P p Q x0 x1 H c := by kernel_rfl


/-- (*duet/edit.work).home -/
def c43 : AFun := ⟨1, 6, [],
  (.region [⟨(some 2), none, .move, [.t 0]⟩, ⟨(some 3), none, .nilCheck, [.t 2]⟩, ⟨(some 4), none, (.fieldAddr 0), [.t 3]⟩, ⟨(some 5), none, (.fieldAddr 1), [.t 4]⟩, ⟨none, none, (.store 1), [.t 5, .c (.int .i64 0)]⟩] none [])⟩
theorem ok43 : FunOk Try.prog 43 c43 := ⟨⟨Try.f43, _, Try.func43, rfl, by kernel_rfl, by kernel_rfl, by kernel_rfl, by kernel_rfl⟩, by decide⟩
theorem res43 : c43.res = [] := rfl
def V43 (P : Program) (p : Lab) (Q : VPost) (x0 : AV) (H : Heap) (c : Nat) : Prop :=
  vNil x0 fun v3_1 =>
  vFA 0 v3_1 fun v4_2 =>
  vFA 1 v4_2 fun v5_3 =>
  vGen (.store 1) [v5_3, (.int .i64 0)] H ((c + 4) :: p) (fun v_4 H4 l4 f4 =>
  Q .normal [] H4 (c + 5))
theorem vt43 (P : Program) (p : Lab) (Q : VPost) (x0 : AV) (H : Heap) (c : Nat) : vc P p c43.body Q [(0, x0)] H c = V43 P p Q x0 H c := by kernel_rfl


/-- (*duet/edit.work).end -/
def c44 : AFun := ⟨1, 12, [],
  (.region [⟨(some 2), none, .move, [.t 0]⟩, ⟨(some 3), none, .move, [.t 0]⟩, ⟨(some 4), none, .nilCheck, [.t 3]⟩, ⟨(some 5), none, (.fieldAddr 0), [.t 4]⟩, ⟨(some 6), none, (.fieldAddr 0), [.t 5]⟩, ⟨(some 7), none, (.load 1 false), [.t 6]⟩, ⟨(some 8), none, (.len .slice), [.t 7]⟩, ⟨(some 9), none, .nilCheck, [.t 2]⟩, ⟨(some 10), none, (.fieldAddr 0), [.t 9]⟩, ⟨(some 11), none, (.fieldAddr 1), [.t 10]⟩, ⟨none, none, (.store 1), [.t 11, .t 8]⟩] none [])⟩
theorem ok44 : FunOk Try.prog 44 c44 := ⟨⟨Try.f44, _, Try.func44, rfl, by kernel_rfl, by kernel_rfl, by kernel_rfl, by kernel_rfl⟩, by decide⟩
theorem res44 : c44.res = [] := rfl
def V44 (P : Program) (p : Lab) (Q : VPost) (x0 : AV) (H : Heap) (c : Nat) : Prop :=
  vNil x0 fun v4_2 =>
  vFA 0 v4_2 fun v5_3 =>
  vFA 0 v5_3 fun v6_4 =>
  vLoad 1 false v6_4 H fun v7_5 _ =>
  vLen v7_5 fun v8_6 =>
  vNil x0 fun v9_7 =>
  vFA 0 v9_7 fun v10_8 =>
  vFA 1 v10_8 fun v11_9 =>
  vGen (.store 1) [v11_9, v8_6] H ((c + 10) :: p) (fun v_10 H10 l10 f10 =>
  Q .normal [] H10 (c + 11))
theorem vt44 (P : Program) (p : Lab) (Q : VPost) (x0 : AV) (H : Heap) (c : Nat) : vc P p c44.body Q [(0, x0)] H c = V44 P p Q x0 H c := by kernel_rfl


/-- (*duet/edit.work).left -/
def c45 : AFun := ⟨1, 18, [],
  (.region [⟨(some 2), none, .move, [.t 0]⟩, ⟨(some 3), none, .move, [.t 0]⟩, ⟨(some 4), none, .nilCheck, [.t 3]⟩, ⟨(some 5), none, (.fieldAddr 0), [.t 4]⟩, ⟨(some 6), none, (.fieldAddr 0), [.t 5]⟩, ⟨(some 7), none, (.load 1 false), [.t 6]⟩, ⟨(some 8), none, .move, [.t 0]⟩, ⟨(some 9), none, .nilCheck, [.t 8]⟩, ⟨(some 10), none, (.fieldAddr 0), [.t 9]⟩, ⟨(some 11), none, (.fieldAddr 1), [.t 10]⟩, ⟨(some 12), none, (.load 1 false), [.t 11]⟩, ⟨(some 13), none, (.bin .sub .num), [.t 12, .c (.int .i64 1)]⟩, ⟨(some 14), none, .call, [.c (.fn (.func 26) [] []), .t 7, .t 13]⟩, ⟨(some 15), none, .nilCheck, [.t 2]⟩, ⟨(some 16), none, (.fieldAddr 0), [.t 15]⟩, ⟨(some 17), none, (.fieldAddr 1), [.t 16]⟩, ⟨none, none, (.store 1), [.t 17, .t 14]⟩] (some [0, 0, 2, 6, 14, 30, 0, 64, 192, 448, 960, 1984, 4094, 8191, 16383, 32767, 65535]) [])⟩
theorem ok45 : FunOk Try.prog 45 c45 := ⟨⟨Try.f45, _, Try.func45, rfl, by kernel_rfl, by kernel_rfl, by kernel_rfl, by kernel_rfl⟩, by decide⟩
theorem res45 : c45.res = [] := rfl
def k45_0 (P : Program) (p : Lab) (Q : VPost) (l12 : List Lab) (f12 : Option (List Lab)) (f10 : Option (List Lab)) (f5 : Option (List Lab)) (c : Nat) (v_16 : AV) (H16 : Heap) (l16 : List Lab) (f16 : Option (List Lab)) : Prop :=
  clashFree [0, 0, 2, 6, 14, 30, 0, 64, 192, 448, 960, 1984, 4094, 8191, 16383, 32767, 65535] (addTr 5 [] ((c + 5) :: p) f5 (addTr 10 [] ((c + 10) :: p) f10 (addTr 12 l12 ((c + 12) :: p) f12 (addTr 16 l16 ((c + 16) :: p) f16 [])))) ∧
  Q .normal [] H16 (c + 17)
def k45_1 (P : Program) (p : Lab) (Q : VPost) (f10 : Option (List Lab)) (f5 : Option (List Lab)) (x0 : AV) (c : Nat) (v14_12 : AV) (H12 : Heap) (l12 : List Lab) (f12 : Option (List Lab)) : Prop :=
  vNil x0 fun v15_13 =>
  vFA 0 v15_13 fun v16_14 =>
  vFA 1 v16_14 fun v17_15 =>
  vGen (.store 1) [v17_15, v14_12] H12 ((c + 16) :: p) (k45_0 P p Q l12 f12 f10 f5 c)
def V45 (P : Program) (p : Lab) (Q : VPost) (x0 : AV) (H : Heap) (c : Nat) : Prop :=
  vNil x0 fun v4_2 =>
  vFA 0 v4_2 fun v5_3 =>
  vFA 0 v5_3 fun v6_4 =>
  vLoad 1 false v6_4 H fun v7_5 f5 =>
  vNil x0 fun v9_7 =>
  vFA 0 v9_7 fun v10_8 =>
  vFA 1 v10_8 fun v11_9 =>
  vLoad 1 false v11_9 H fun v12_10 f10 =>
  vBin .sub .num v12_10 (.int .i64 1) fun v13_11 =>
  vCall false P 26 [v7_5, v13_11] H ((c + 12) :: p) (k45_1 P p Q f10 f5 x0 c)
theorem vt45 (P : Program) (p : Lab) (Q : VPost) (x0 : AV) (H : Heap) (c : Nat) : vc P p c45.body Q [(0, x0)] H c = V45 P p Q x0 H c := by kernel_rfl


/-- (*duet/edit.work).right -/
def c46 : AFun := ⟨1, 18, [],
  (.region [⟨(some 2), none, .move, [.t 0]⟩, ⟨(some 3), none, .move, [.t 0]⟩, ⟨(some 4), none, .nilCheck, [.t 3]⟩, ⟨(some 5), none, (.fieldAddr 0), [.t 4]⟩, ⟨(some 6), none, (.fieldAddr 0), [.t 5]⟩, ⟨(some 7), none, (.load 1 false), [.t 6]⟩, ⟨(some 8), none, .move, [.t 0]⟩, ⟨(some 9), none, .nilCheck, [.t 8]⟩, ⟨(some 10), none, (.fieldAddr 0), [.t 9]⟩, ⟨(some 11), none, (.fieldAddr 1), [.t 10]⟩, ⟨(some 12), none, (.load 1 false), [.t 11]⟩, ⟨(some 13), none, (.bin .add .num), [.t 12, .c (.int .i64 1)]⟩, ⟨(some 14), none, .call, [.c (.fn (.func 26) [] []), .t 7, .t 13]⟩, ⟨(some 15), none, .nilCheck, [.t 2]⟩, ⟨(some 16), none, (.fieldAddr 0), [.t 15]⟩, ⟨(some 17), none, (.fieldAddr 1), [.t 16]⟩, ⟨none, none, (.store 1), [.t 17, .t 14]⟩] (some [0, 0, 2, 6, 14, 30, 0, 64, 192, 448, 960, 1984, 4094, 8191, 16383, 32767, 65535]) [])⟩
theorem ok46 : FunOk Try.prog 46 c46 := ⟨⟨Try.f46, _, Try.func46, rfl, by kernel_rfl, by kernel_rfl, by kernel_rfl, by kernel_rfl⟩, by decide⟩
theorem res46 : c46.res = [] := rfl
def k46_0 (P : Program) (p : Lab) (Q : VPost) (l12 : List Lab) (f12 : Option (List Lab)) (f10 : Option (List Lab)) (f5 : Option (List Lab)) (c : Nat) (v_16 : AV) (H16 : Heap) (l16 : List Lab) (f16 : Option (List Lab)) : Prop :=
  clashFree [0, 0, 2, 6, 14, 30, 0, 64, 192, 448, 960, 1984, 4094, 8191, 16383, 32767, 65535] (addTr 5 [] ((c + 5) :: p) f5 (addTr 10 [] ((c + 10) :: p) f10 (addTr 12 l12 ((c + 12) :: p) f12 (addTr 16 l16 ((c + 16) :: p) f16 [])))) ∧
  Q .normal [] H16 (c + 17)
def k46_1 (P : Program) (p : Lab) (Q : VPost) (f10 : Option (List Lab)) (f5 : Option (List Lab)) (x0 : AV) (c : Nat) (v14_12 : AV) (H12 : Heap) (l12 : List Lab) (f12 : Option (List Lab)) : Prop :=
  vNil x0 fun v15_13 =>
  vFA 0 v15_13 fun v16_14 =>
  vFA 1 v16_14 fun v17_15 =>
  vGen (.store 1) [v17_15, v14_12] H12 ((c + 16) :: p) (k46_0 P p Q l12 f12 f10 f5 c)
def V46 (P : Program) (p : Lab) (Q : VPost) (x0 : AV) (H : Heap) (c : Nat) : Prop :=
  vNil x0 fun v4_2 =>
  vFA 0 v4_2 fun v5_3 =>
  vFA 0 v5_3 fun v6_4 =>
  vLoad 1 false v6_4 H fun v7_5 f5 =>
  vNil x0 fun v9_7 =>
  vFA 0 v9_7 fun v10_8 =>
  vFA 1 v10_8 fun v11_9 =>
  vLoad 1 false v11_9 H fun v12_10 f10 =>
  vBin .add .num v12_10 (.int .i64 1) fun v13_11 =>
  vCall false P 26 [v7_5, v13_11] H ((c + 12) :: p) (k46_1 P p Q f10 f5 x0 c)
theorem vt46 (P : Program) (p : Lab) (Q : VPost) (x0 : AV) (H : Heap) (c : Nat) : vc P p c46.body Q [(0, x0)] H c = V46 P p Q x0 H c := by kernel_rfl


/-- (*duet/edit.work).rub -/
def c47 : AFun := ⟨1, 21, [],
  (.region [⟨(some 2), none, .move, [.t 0]⟩, ⟨(some 3), none, .move, [.t 0]⟩, ⟨(some 4), none, .nilCheck, [.t 3]⟩, ⟨(some 5), none, (.fieldAddr 0), [.t 4]⟩, ⟨(some 6), none, (.fieldAddr 0), [.t 5]⟩, ⟨(some 7), none, (.load 1 false), [.t 6]⟩, ⟨(some 8), none, .move, [.t 0]⟩, ⟨(some 9), none, .nilCheck, [.t 8]⟩, ⟨(some 10), none, (.fieldAddr 0), [.t 9]⟩, ⟨(some 11), none, (.fieldAddr 1), [.t 10]⟩, ⟨(some 12), none, (.load 1 false), [.t 11]⟩, ⟨(some 13), none, (.bin .sub .num), [.t 12, .c (.int .i64 1)]⟩, ⟨(some 14), none, .call, [.c (.fn (.func 26) [] []), .t 7, .t 13]⟩, ⟨(some 15), none, .move, [.t 0]⟩, ⟨(some 16), none, .nilCheck, [.t 15]⟩, ⟨(some 17), none, (.fieldAddr 0), [.t 16]⟩, ⟨(some 18), none, (.fieldAddr 1), [.t 17]⟩, ⟨(some 19), none, (.load 1 false), [.t 18]⟩, ⟨(some 20), none, .call, [.c (.fn (.func 62) [] []), .t 2, .t 14, .t 19]⟩] (some [0, 0, 2, 6, 14, 30, 0, 64, 192, 448, 960, 1984, 4094, 0, 8192, 24576, 57344, 122880, 262143]) [])⟩
theorem ok47 : FunOk Try.prog 47 c47 := ⟨⟨Try.f47, _, Try.func47, rfl, by kernel_rfl, by kernel_rfl, by kernel_rfl, by kernel_rfl⟩, by decide⟩
theorem res47 : c47.res = [] := rfl
def k47_0 (P : Program) (p : Lab) (Q : VPost) (f17 : Option (List Lab)) (l12 : List Lab) (f12 : Option (List Lab)) (f10 : Option (List Lab)) (f5 : Option (List Lab)) (c : Nat) (v20_18 : AV) (H18 : Heap) (l18 : List Lab) (f18 : Option (List Lab)) : Prop :=
  clashFree [0, 0, 2, 6, 14, 30, 0, 64, 192, 448, 960, 1984, 4094, 0, 8192, 24576, 57344, 122880, 262143] (addTr 5 [] ((c + 5) :: p) f5 (addTr 10 [] ((c + 10) :: p) f10 (addTr 12 l12 ((c + 12) :: p) f12 (addTr 17 [] ((c + 17) :: p) f17 (addTr 18 l18 ((c + 18) :: p) f18 []))))) ∧
  Q .normal [] H18 (c + 19)
def k47_1 (P : Program) (p : Lab) (Q : VPost) (f10 : Option (List Lab)) (f5 : Option (List Lab)) (x0 : AV) (c : Nat) (v14_12 : AV) (H12 : Heap) (l12 : List Lab) (f12 : Option (List Lab)) : Prop :=
  vNil x0 fun v16_14 =>
  vFA 0 v16_14 fun v17_15 =>
  vFA 1 v17_15 fun v18_16 =>
  vLoad 1 false v18_16 H12 fun v19_17 f17 =>
  vCall false P 62 [x0, v14_12, v19_17] H12 ((c + 18) :: p) (k47_0 P p Q f17 l12 f12 f10 f5 c)
def V47 (P : Program) (p : Lab) (Q : VPost) (x0 : AV) (H : Heap) (c : Nat) : Prop :=
  vNil x0 fun v4_2 =>
  vFA 0 v4_2 fun v5_3 =>
  vFA 0 v5_3 fun v6_4 =>
  vLoad 1 false v6_4 H fun v7_5 f5 =>
  vNil x0 fun v9_7 =>
  vFA 0 v9_7 fun v10_8 =>
  vFA 1 v10_8 fun v11_9 =>
  vLoad 1 false v11_9 H fun v12_10 f10 =>
  vBin .sub .num v12_10 (.int .i64 1) fun v13_11 =>
  vCall false P 26 [v7_5, v13_11] H ((c + 12) :: p) (k47_1 P p Q f10 f5 x0 c)
theorem vt47 (P : Program) (p : Lab) (Q : VPost) (x0 : AV) (H : Heap) (c : Nat) : vc P p c47.body Q [(0, x0)] H c = V47 P p Q x0 H c := by kernel_rfl


/-- (*duet/edit.work).del -/
def c48 : AFun := ⟨1, 21, [],
  (.region [⟨(some 2), none, .move, [.t 0]⟩, ⟨(some 3), none, .move, [.t 0]⟩, ⟨(some 4), none, .nilCheck, [.t 3]⟩, ⟨(some 5), none, (.fieldAddr 0), [.t 4]⟩, ⟨(some 6), none, (.fieldAddr 1), [.t 5]⟩, ⟨(some 7), none, (.load 1 false), [.t 6]⟩, ⟨(some 8), none, .move, [.t 0]⟩, ⟨(some 9), none, .nilCheck, [.t 8]⟩, ⟨(some 10), none, (.fieldAddr 0), [.t 9]⟩, ⟨(some 11), none, (.fieldAddr 0), [.t 10]⟩, ⟨(some 12), none, (.load 1 false), [.t 11]⟩, ⟨(some 13), none, .move, [.t 0]⟩, ⟨(some 14), none, .nilCheck, [.t 13]⟩, ⟨(some 15), none, (.fieldAddr 0), [.t 14]⟩, ⟨(some 16), none, (.fieldAddr 1), [.t 15]⟩, ⟨(some 17), none, (.load 1 false), [.t 16]⟩, ⟨(some 18), none, (.bin .add .num), [.t 17, .c (.int .i64 1)]⟩, ⟨(some 19), none, .call, [.c (.fn (.func 26) [] []), .t 12, .t 18]⟩, ⟨(some 20), none, .call, [.c (.fn (.func 62) [] []), .t 2, .t 7, .t 19]⟩] (some [0, 0, 2, 6, 14, 30, 0, 64, 192, 448, 960, 0, 2048, 6144, 14336, 30720, 63488, 131008, 262143]) [])⟩
theorem ok48 : FunOk Try.prog 48 c48 := ⟨⟨Try.f48, _, Try.func48, rfl, by kernel_rfl, by kernel_rfl, by kernel_rfl, by kernel_rfl⟩, by decide⟩
theorem res48 : c48.res = [] := rfl
def k48_0 (P : Program) (p : Lab) (Q : VPost) (l17 : List Lab) (f17 : Option (List Lab)) (f15 : Option (List Lab)) (f10 : Option (List Lab)) (f5 : Option (List Lab)) (c : Nat) (v20_18 : AV) (H18 : Heap) (l18 : List Lab) (f18 : Option (List Lab)) : Prop :=
  clashFree [0, 0, 2, 6, 14, 30, 0, 64, 192, 448, 960, 0, 2048, 6144, 14336, 30720, 63488, 131008, 262143] (addTr 5 [] ((c + 5) :: p) f5 (addTr 10 [] ((c + 10) :: p) f10 (addTr 15 [] ((c + 15) :: p) f15 (addTr 17 l17 ((c + 17) :: p) f17 (addTr 18 l18 ((c + 18) :: p) f18 []))))) ∧
  Q .normal [] H18 (c + 19)
def k48_1 (P : Program) (p : Lab) (Q : VPost) (f15 : Option (List Lab)) (f10 : Option (List Lab)) (v7_5 : AV) (f5 : Option (List Lab)) (x0 : AV) (c : Nat) (v19_17 : AV) (H17 : Heap) (l17 : List Lab) (f17 : Option (List Lab)) : Prop :=
  vCall false P 62 [x0, v7_5, v19_17] H17 ((c + 18) :: p) (k48_0 P p Q l17 f17 f15 f10 f5 c)
def V48 (P : Program) (p : Lab) (Q : VPost) (x0 : AV) (H : Heap) (c : Nat) : Prop :=
  vNil x0 fun v4_2 =>
  vFA 0 v4_2 fun v5_3 =>
  vFA 1 v5_3 fun v6_4 =>
  vLoad 1 false v6_4 H fun v7_5 f5 =>
  vNil x0 fun v9_7 =>
  vFA 0 v9_7 fun v10_8 =>
  vFA 0 v10_8 fun v11_9 =>
  vLoad 1 false v11_9 H fun v12_10 f10 =>
  vNil x0 fun v14_12 =>
  vFA 0 v14_12 fun v15_13 =>
  vFA 1 v15_13 fun v16_14 =>
  vLoad 1 false v16_14 H fun v17_15 f15 =>
  vBin .add .num v17_15 (.int .i64 1) fun v18_16 =>
  vCall false P 26 [v12_10, v18_16] H ((c + 17) :: p) (k48_1 P p Q f15 f10 v7_5 f5 x0 c)
theorem vt48 (P : Program) (p : Lab) (Q : VPost) (x0 : AV) (H : Heap) (c : Nat) : vc P p c48.body Q [(0, x0)] H c = V48 P p Q x0 H c := by kernel_rfl


/-- (*duet/edit.work).killOn -/
def c49 : AFun := ⟨1, 15, [],
  (.region [⟨(some 2), none, .move, [.t 0]⟩, ⟨(some 3), none, .move, [.t 0]⟩, ⟨(some 4), none, .nilCheck, [.t 3]⟩, ⟨(some 5), none, (.fieldAddr 0), [.t 4]⟩, ⟨(some 6), none, (.fieldAddr 1), [.t 5]⟩, ⟨(some 7), none, (.load 1 false), [.t 6]⟩, ⟨(some 8), none, .move, [.t 0]⟩, ⟨(some 9), none, .nilCheck, [.t 8]⟩, ⟨(some 10), none, (.fieldAddr 0), [.t 9]⟩, ⟨(some 11), none, (.fieldAddr 0), [.t 10]⟩, ⟨(some 12), none, (.load 1 false), [.t 11]⟩, ⟨(some 13), none, (.len .slice), [.t 12]⟩, ⟨(some 14), none, .call, [.c (.fn (.func 63) [] []), .t 2, .t 7, .t 13]⟩] (some [0, 0, 2, 6, 14, 30, 0, 64, 192, 448, 960, 1984, 4095]) [])⟩
theorem ok49 : FunOk Try.prog 49 c49 := ⟨⟨Try.f49, _, Try.func49, rfl, by kernel_rfl, by kernel_rfl, by kernel_rfl, by kernel_rfl⟩, by decide⟩
theorem res49 : c49.res = [] := rfl
def k49_0 (P : Program) (p : Lab) (Q : VPost) (f10 : Option (List Lab)) (f5 : Option (List Lab)) (c : Nat) (v14_12 : AV) (H12 : Heap) (l12 : List Lab) (f12 : Option (List Lab)) : Prop :=
  clashFree [0, 0, 2, 6, 14, 30, 0, 64, 192, 448, 960, 1984, 4095] (addTr 5 [] ((c + 5) :: p) f5 (addTr 10 [] ((c + 10) :: p) f10 (addTr 12 l12 ((c + 12) :: p) f12 []))) ∧
  Q .normal [] H12 (c + 13)
def V49 (P : Program) (p : Lab) (Q : VPost) (x0 : AV) (H : Heap) (c : Nat) : Prop :=
  vNil x0 fun v4_2 =>
  vFA 0 v4_2 fun v5_3 =>
  vFA 1 v5_3 fun v6_4 =>
  vLoad 1 false v6_4 H fun v7_5 f5 =>
  vNil x0 fun v9_7 =>
  vFA 0 v9_7 fun v10_8 =>
  vFA 0 v10_8 fun v11_9 =>
  vLoad 1 false v11_9 H fun v12_10 f10 =>
  vLen v12_10 fun v13_11 =>
  vCall false P 63 [x0, v7_5, v13_11] H ((c + 12) :: p) (k49_0 P p Q f10 f5 c)
theorem vt49 (P : Program) (p : Lab) (Q : VPost) (x0 : AV) (H : Heap) (c : Nat) : vc P p c49.body Q [(0, x0)] H c = V49 P p Q x0 H c := by kernel_rfl


/-- (*duet/edit.work).killBack -/
def c50 : AFun := ⟨1, 9, [],
  (.region [⟨(some 2), none, .move, [.t 0]⟩, ⟨(some 3), none, .move, [.t 0]⟩, ⟨(some 4), none, .nilCheck, [.t 3]⟩, ⟨(some 5), none, (.fieldAddr 0), [.t 4]⟩, ⟨(some 6), none, (.fieldAddr 1), [.t 5]⟩, ⟨(some 7), none, (.load 1 false), [.t 6]⟩, ⟨(some 8), none, .call, [.c (.fn (.func 63) [] []), .t 2, .c (.int .i64 0), .t 7]⟩] none [])⟩
theorem ok50 : FunOk Try.prog 50 c50 := ⟨⟨Try.f50, _, Try.func50, rfl, by kernel_rfl, by kernel_rfl, by kernel_rfl, by kernel_rfl⟩, by decide⟩
theorem res50 : c50.res = [] := rfl
def V50 (P : Program) (p : Lab) (Q : VPost) (x0 : AV) (H : Heap) (c : Nat) : Prop :=
  vNil x0 fun v4_2 =>
  vFA 0 v4_2 fun v5_3 =>
  vFA 1 v5_3 fun v6_4 =>
  vLoad 1 false v6_4 H fun v7_5 _ =>
  vCall true P 63 [x0, (.int .i64 0), v7_5] H ((c + 6) :: p) (fun v8_6 H6 l6 f6 =>
  Q .normal [] H6 (c + 7))
theorem vt50 (P : Program) (p : Lab) (Q : VPost) (x0 : AV) (H : Heap) (c : Nat) : vc P p c50.body Q [(0, x0)] H c = V50 P p Q x0 H c := by kernel_rfl


/-- (*duet/edit.work).killWord -/
def c51 : AFun := ⟨1, 20, [],
  (.region [⟨(some 2), none, .move, [.t 0]⟩, ⟨(some 3), none, .move, [.t 0]⟩, ⟨(some 4), none, .nilCheck, [.t 3]⟩, ⟨(some 5), none, (.fieldAddr 0), [.t 4]⟩, ⟨(some 6), none, (.fieldAddr 0), [.t 5]⟩, ⟨(some 7), none, (.load 1 false), [.t 6]⟩, ⟨(some 8), none, .move, [.t 0]⟩, ⟨(some 9), none, .nilCheck, [.t 8]⟩, ⟨(some 10), none, (.fieldAddr 0), [.t 9]⟩, ⟨(some 11), none, (.fieldAddr 1), [.t 10]⟩, ⟨(some 12), none, (.load 1 false), [.t 11]⟩, ⟨(some 13), none, .call, [.c (.fn (.func 22) [] []), .t 7, .t 12, .c (.bool true)]⟩, ⟨(some 14), none, .move, [.t 0]⟩, ⟨(some 15), none, .nilCheck, [.t 14]⟩, ⟨(some 16), none, (.fieldAddr 0), [.t 15]⟩, ⟨(some 17), none, (.fieldAddr 1), [.t 16]⟩, ⟨(some 18), none, (.load 1 false), [.t 17]⟩, ⟨(some 19), none, .call, [.c (.fn (.func 63) [] []), .t 2, .t 13, .t 18]⟩] (some [0, 0, 2, 6, 14, 30, 0, 64, 192, 448, 960, 2046, 0, 4096, 12288, 28672, 61440, 131071]) [])⟩
theorem ok51 : FunOk Try.prog 51 c51 := ⟨⟨Try.f51, _, Try.func51, rfl, by kernel_rfl, by kernel_rfl, by kernel_rfl, by kernel_rfl⟩, by decide⟩
theorem res51 : c51.res = [] := rfl
def k51_0 (P : Program) (p : Lab) (Q : VPost) (f16 : Option (List Lab)) (l11 : List Lab) (f11 : Option (List Lab)) (f10 : Option (List Lab)) (f5 : Option (List Lab)) (c : Nat) (v19_17 : AV) (H17 : Heap) (l17 : List Lab) (f17 : Option (List Lab)) : Prop :=
  clashFree [0, 0, 2, 6, 14, 30, 0, 64, 192, 448, 960, 2046, 0, 4096, 12288, 28672, 61440, 131071] (addTr 5 [] ((c + 5) :: p) f5 (addTr 10 [] ((c + 10) :: p) f10 (addTr 11 l11 ((c + 11) :: p) f11 (addTr 16 [] ((c + 16) :: p) f16 (addTr 17 l17 ((c + 17) :: p) f17 []))))) ∧
  Q .normal [] H17 (c + 18)
def k51_1 (P : Program) (p : Lab) (Q : VPost) (f10 : Option (List Lab)) (f5 : Option (List Lab)) (x0 : AV) (c : Nat) (v13_11 : AV) (H11 : Heap) (l11 : List Lab) (f11 : Option (List Lab)) : Prop :=
  vNil x0 fun v15_13 =>
  vFA 0 v15_13 fun v16_14 =>
  vFA 1 v16_14 fun v17_15 =>
  vLoad 1 false v17_15 H11 fun v18_16 f16 =>
  vCall false P 63 [x0, v13_11, v18_16] H11 ((c + 17) :: p) (k51_0 P p Q f16 l11 f11 f10 f5 c)
def V51 (P : Program) (p : Lab) (Q : VPost) (x0 : AV) (H : Heap) (c : Nat) : Prop :=
  vNil x0 fun v4_2 =>
  vFA 0 v4_2 fun v5_3 =>
  vFA 0 v5_3 fun v6_4 =>
  vLoad 1 false v6_4 H fun v7_5 f5 =>
  vNil x0 fun v9_7 =>
  vFA 0 v9_7 fun v10_8 =>
  vFA 1 v10_8 fun v11_9 =>
  vLoad 1 false v11_9 H fun v12_10 f10 =>
  vCall false P 22 [v7_5, v12_10, (.bool true)] H ((c + 11) :: p) (k51_1 P p Q f10 f5 x0 c)
theorem vt51 (P : Program) (p : Lab) (Q : VPost) (x0 : AV) (H : Heap) (c : Nat) : vc P p c51.body Q [(0, x0)] H c = V51 P p Q x0 H c := by kernel_rfl

def b52_1 : ACode := (.seq (.region [⟨(some 11), none, (.bin .lss .num), [.t 10, .t 9]⟩] none [0, 8, 9, 10, 11])
  (.seq (.cond (.t 11) .skip
  (.exit 0))
  (.seq (.block 1 (.seq (.region [⟨(some 12), none, (.indexAddr 1), [.t 8, .t 10]⟩, ⟨(some 13), none, (.load 1 false), [.t 12]⟩, ⟨(some 3), none, .move, [.t 13]⟩] none [0, 3, 8, 9, 10])
  (.seq (.region [⟨(some 14), none, .move, [.t 0]⟩, ⟨(some 15), none, .move, [.t 3]⟩, ⟨(some 16), none, .call, [.c (.fn (.func 27) [] []), .t 14, .t 15]⟩, ⟨(some 17), none, (.un .not), [.t 16]⟩] none [0, 8, 9, 10, 17])
  (.cond (.t 17) (.exit 0)
  .skip))))
  (.region [⟨(some 18), none, (.bin .add .num), [.t 10, .c (.int .i64 1)]⟩, ⟨(some 10), none, .move, [.t 18]⟩] none [0, 8, 9, 10]))))
def l52_1 : ACode := .loop [0, 8, 9, 10] b52_1
/-- (*duet/edit.work).yank -/
def c52 : AFun := ⟨1, 19, [],
  (.seq (.region [⟨(some 4), none, .move, [.t 0]⟩, ⟨(some 5), none, .nilCheck, [.t 4]⟩, ⟨(some 6), none, (.fieldAddr 0), [.t 5]⟩, ⟨(some 7), none, (.fieldAddr 2), [.t 6]⟩, ⟨(some 8), none, (.load 1 false), [.t 7]⟩, ⟨(some 9), none, (.len .slice), [.t 8]⟩, ⟨(some 10), none, .move, [.c (.int .i64 0)]⟩] none [0, 8, 9, 10])
  (.block 0 l52_1))⟩
theorem ok52 : FunOk Try.prog 52 c52 := ⟨⟨Try.f52, _, Try.func52, rfl, by kernel_rfl, by kernel_rfl, by kernel_rfl, by kernel_rfl⟩, by decide⟩
theorem res52 : c52.res = [] := rfl
def q52_0 (P : Program) (p : Lab) (Q : VPost) : VPost := (vblockQ 0 Q)
theorem q52_0_ret (P : Program) (p : Lab) (Q : VPost) (r : RL) (H : Heap) (c : Nat) : q52_0 P p Q .ret r H c = Q .ret r H c := rfl
def V52 (P : Program) (p : Lab) (Q : VPost) (x0 : AV) (H : Heap) (c : Nat) : Prop :=
  vNil x0 fun v5_1 =>
  vFA 0 v5_1 fun v6_2 =>
  vFA 2 v6_2 fun v7_3 =>
  vLoad 1 false v7_3 H fun v8_4 _ =>
  vLen v8_4 fun v9_5 =>
  vc P p l52_1 (q52_0 P p Q) [(0, x0), (8, v8_4), (9, v9_5), (10, (.int .i64 0))] H (c + 7)
theorem vt52 (P : Program) (p : Lab) (Q : VPost) (x0 : AV) (H : Heap) (c : Nat) : vc P p c52.body Q [(0, x0)] H c = V52 P p Q x0 H c := by kernel_rfl
def k52_1 (P : Program) (p : Lab) (Q : VPost) (y0 : AV) (y8 : AV) (y9 : AV) (y10 : AV) (y17 : AV) (H : Heap) (c : Nat) : Prop :=
  vBin .add .num y10 (.int .i64 1) fun v18_15 =>
  Q .normal [(0, y0), (8, y8), (9, y9), (10, v18_15)] H (c + 2)
def k52_2 (P : Program) (p : Lab) (Q : VPost) (v17_14 : AV) (H13 : Heap) (y0 : AV) (y8 : AV) (y9 : AV) (y10 : AV) (c : Nat) (_ : Unit) : Prop :=
  (k52_1 P p Q y0 y8 y9 y10 v17_14 H13 (c + 7))
def k52_3 (P : Program) (p : Lab) (Q : VPost) (y0 : AV) (y8 : AV) (y9 : AV) (y10 : AV) (c : Nat) (v16_13 : AV) (H13 : Heap) (l13 : List Lab) (f13 : Option (List Lab)) : Prop :=
  vNot v16_13 fun v17_14 =>
  vSel v17_14
  (fun _ =>
  Q (.exit 0) [(0, y0), (8, y8), (9, y9), (10, y10), (17, v17_14)] H13 (c + 7))
  (k52_2 P p Q v17_14 H13 y0 y8 y9 y10 c)
def k52_0 (P : Program) (p : Lab) (Q : VPost) (y0 : AV) (y8 : AV) (y9 : AV) (y10 : AV) (y11 : AV) (H : Heap) (c : Nat) : Prop :=
  vIx 1 y8 y10 fun v12_8 =>
  vLoad 1 false v12_8 H fun v13_9 _ =>
  vCall true P 27 [y0, v13_9] H ((c + 5) :: p) (k52_3 P p Q y0 y8 y9 y10 c)
def k52_4 (P : Program) (p : Lab) (Q : VPost) (v11_7 : AV) (x0 : AV) (x8 : AV) (x9 : AV) (x10 : AV) (H : Heap) (c : Nat) (_ : Unit) : Prop :=
  (k52_0 P p Q x0 x8 x9 x10 v11_7 H (c + 1))
def V52_1 (P : Program) (p : Lab) (Q : VPost) (x0 x8 x9 x10 : AV) (H : Heap) (c : Nat) : Prop :=
  vBin .lss .num x10 x9 fun v11_7 =>
  vSel v11_7
  (k52_4 P p Q v11_7 x0 x8 x9 x10 H c)
  (fun _ =>
  Q (.exit 0) [(0, x0), (8, x8), (9, x9), (10, x10), (11, v11_7)] H (c + 1))
theorem vt52_1 (P : Program) (p : Lab) (Q : VPost) (x0 x8 x9 x10 : AV) (H : Heap) (c : Nat) : vc P p b52_1 Q [(0, x0), (8, x8), (9, x9), (10, x10)] H c = V52_1 P p Q x0 x8 x9 x10 H c := by kernel_rfl
theorem q52_0_e0 (P : Program) (p : Lab) (Q : VPost) (r : RL) (H : Heap) (c : Nat) : q52_0 P p Q (.exit 0) r H c = (Q .normal r H c) := rfl


/-- (*duet/edit.work).swap -/
def c53 : AFun := ⟨1, 67, [],
  (.seq (.seq (.region [⟨(some 4), none, .move, [.t 0]⟩, ⟨(some 5), none, .nilCheck, [.t 4]⟩, ⟨(some 6), none, (.fieldAddr 0), [.t 5]⟩, ⟨(some 7), none, (.fieldAddr 0), [.t 6]⟩, ⟨(some 8), none, (.load 1 false), [.t 7]⟩, ⟨(some 9), none, (.len .slice), [.t 8]⟩, ⟨(some 10), none, (.bin .lss .num), [.t 9, .c (.int .i64 2)]⟩, ⟨(some 11), none, .move, [.t 10]⟩, ⟨(some 12), (some (11, false)), .move, [.t 0]⟩, ⟨(some 13), (some (11, false)), .nilCheck, [.t 12]⟩, ⟨(some 14), (some (11, false)), (.fieldAddr 0), [.t 13]⟩, ⟨(some 15), (some (11, false)), (.fieldAddr 1), [.t 14]⟩, ⟨(some 16), (some (11, false)), (.load 1 false), [.t 15]⟩, ⟨(some 17), (some (11, false)), (.bin .eql .num), [.t 16, .c (.int .i64 0)]⟩, ⟨(some 18), none, .pick, [.t 11, .c (.bool true), .t 17]⟩] none [0, 18])
  (.cond (.t 18) .ret
  .skip))
  (.seq (.region [⟨(some 19), none, .move, [.t 0]⟩, ⟨(some 20), none, .nilCheck, [.t 19]⟩, ⟨(some 21), none, (.fieldAddr 0), [.t 20]⟩, ⟨(some 22), none, (.fieldAddr 1), [.t 21]⟩, ⟨(some 23), none, (.load 1 false), [.t 22]⟩, ⟨(some 24), none, .move, [.t 0]⟩, ⟨(some 25), none, .nilCheck, [.t 24]⟩, ⟨(some 26), none, (.fieldAddr 0), [.t 25]⟩, ⟨(some 27), none, (.fieldAddr 0), [.t 26]⟩, ⟨(some 28), none, (.load 1 false), [.t 27]⟩, ⟨(some 29), none, (.len .slice), [.t 28]⟩, ⟨(some 30), none, (.bin .sub .num), [.t 29, .c (.int .i64 1)]⟩, ⟨(some 31), none, .min, [.t 23, .t 30]⟩, ⟨(some 2), none, .move, [.t 31]⟩] (some [0, 1, 3, 7, 15, 0, 32, 96, 224, 480, 992, 2016, 4095, 8191]) [0, 2])
  (.seq (.seq (.region [⟨(some 32), none, .move, [.t 0]⟩, ⟨(some 33), none, .nilCheck, [.t 32]⟩, ⟨(some 34), none, (.fieldAddr 0), [.t 33]⟩, ⟨(some 35), none, (.fieldAddr 0), [.t 34]⟩, ⟨(some 36), none, (.load 1 false), [.t 35]⟩, ⟨(some 37), none, (.len .slice), [.t 36]⟩, ⟨(some 38), none, (.bin .gtr .num), [.t 37, .c (.int .i64 1000)]⟩, ⟨(some 39), none, .move, [.t 38]⟩, ⟨(some 40), (some (39, false)), .move, [.t 0]⟩, ⟨(some 41), (some (39, false)), .nilCheck, [.t 40]⟩, ⟨(some 42), (some (39, false)), (.fieldAddr 0), [.t 41]⟩, ⟨(some 43), (some (39, false)), (.fieldAddr 0), [.t 42]⟩, ⟨(some 44), (some (39, false)), (.load 1 false), [.t 43]⟩, ⟨(some 45), (some (39, false)), .move, [.t 2]⟩, ⟨(some 46), (some (39, false)), (.bin .sub .num), [.t 45, .c (.int .i64 1)]⟩, ⟨(some 47), (some (39, false)), (.indexAddr 1), [.t 44, .t 46]⟩, ⟨(some 48), (some (39, false)), (.load 1 false), [.t 47]⟩, ⟨(some 49), (some (39, false)), .call, [.c (.fn (.func 40) [] []), .t 48]⟩, ⟨(some 50), (some (39, false)), (.un .not), [.t 49]⟩, ⟨(some 51), none, .pick, [.t 39, .c (.bool true), .t 50]⟩] none [0, 2, 51])
  (.cond (.t 51) .ret
  .skip))
  (.seq (.region [⟨(some 52), none, .move, [.t 0]⟩, ⟨(some 53), none, .move, [.t 2]⟩, ⟨(some 54), none, (.bin .sub .num), [.t 53, .c (.int .i64 1)]⟩, ⟨(some 55), none, .move, [.t 2]⟩, ⟨(some 56), none, .call, [.c (.fn (.func 62) [] []), .t 52, .t 54, .t 55]⟩, ⟨(some 3), none, .move, [.t 56]⟩] none [0, 2, 3])
  (.seq (.region [⟨(some 57), none, .move, [.t 0]⟩, ⟨(some 58), none, .move, [.t 2]⟩, ⟨(some 59), none, .nilCheck, [.t 57]⟩, ⟨(some 60), none, (.fieldAddr 0), [.t 59]⟩, ⟨(some 61), none, (.fieldAddr 1), [.t 60]⟩, ⟨none, none, (.store 1), [.t 61, .t 58]⟩] none [0, 3])
  (.region [⟨(some 62), none, .move, [.t 0]⟩, ⟨(some 63), none, .move, [.t 3]⟩, ⟨(some 64), none, (.indexAddr 1), [.t 63, .c (.int .i64 0)]⟩, ⟨(some 65), none, (.load 1 false), [.t 64]⟩, ⟨(some 66), none, .call, [.c (.fn (.func 27) [] []), .t 62, .t 65]⟩] none []))))))⟩
theorem ok53 : FunOk Try.prog 53 c53 := ⟨⟨Try.f53, _, Try.func53, rfl, by kernel_rfl, by kernel_rfl, by kernel_rfl, by kernel_rfl⟩, by decide⟩
theorem res53 : c53.res = [] := rfl
def k53_0 (P : Program) (p : Lab) (Q : VPost) (y0 : AV) (H : Heap) (c : Nat) : Prop :=
  Q .ret [(0, y0), (18, (.bool true))] H c
def k53_1 (P : Program) (p : Lab) (Q : VPost) (x0 : AV) (H : Heap) (c : Nat) (_ : Unit) : Prop :=
  (k53_0 P p Q x0 H (c + 15))
def k53_4 (P : Program) (p : Lab) (Q : VPost) (y0 : AV) (y2 : AV) (H : Heap) (c : Nat) : Prop :=
  Q .ret [(0, y0), (2, y2), (51, (.bool true))] H c
def k53_5 (P : Program) (p : Lab) (Q : VPost) (v31_28 : AV) (y0 : AV) (H : Heap) (c : Nat) (_ : Unit) : Prop :=
  (k53_4 P p Q y0 v31_28 H (c + 34))
def k53_8 (P : Program) (p : Lab) (Q : VPost) (v56_55 : AV) (y0 : AV) (c : Nat) (v_62 : AV) (H62 : Heap) (l62 : List Lab) (f62 : Option (List Lab)) : Prop :=
  vIx 1 v56_55 (.int .i64 0) fun v64_65 =>
  vLoad 1 false v64_65 H62 fun v65_66 _ =>
  vCall true P 27 [y0, v65_66] H62 ((c + 16) :: p) (fun v66_67 H67 l67 f67 =>
  Q .normal [] H67 (c + 17))
def k53_9 (P : Program) (p : Lab) (Q : VPost) (y0 : AV) (y2 : AV) (c : Nat) (v56_55 : AV) (H55 : Heap) (l55 : List Lab) (f55 : Option (List Lab)) : Prop :=
  vNil y0 fun v59_59 =>
  vFA 0 v59_59 fun v60_60 =>
  vFA 1 v60_60 fun v61_61 =>
  vGen (.store 1) [v61_61, y2] H55 ((c + 11) :: p) (k53_8 P p Q v56_55 y0 c)
def k53_7 (P : Program) (p : Lab) (Q : VPost) (y0 : AV) (y2 : AV) (y51 : AV) (H : Heap) (c : Nat) : Prop :=
  vBin .sub .num y2 (.int .i64 1) fun v54_53 =>
  vCall true P 62 [y0, v54_53, y2] H ((c + 4) :: p) (k53_9 P p Q y0 y2 c)
def k53_10 (P : Program) (p : Lab) (Q : VPost) (y0 : AV) (y2 : AV) (y51 : AV) (H : Heap) (c : Nat) (_ : Unit) : Prop :=
  (k53_7 P p Q y0 y2 y51 H c)
def k53_6 (P : Program) (p : Lab) (Q : VPost) (y0 : AV) (y2 : AV) (y51 : AV) (H : Heap) (c : Nat) : Prop :=
  vSel y51
  (fun _ =>
  Q .ret [(0, y0), (2, y2), (51, y51)] H c)
  (k53_10 P p Q y0 y2 y51 H c)
def k53_11 (P : Program) (p : Lab) (Q : VPost) (v31_28 : AV) (y0 : AV) (c : Nat) (v49_48 : AV) (H48 : Heap) (l48 : List Lab) (f48 : Option (List Lab)) : Prop :=
  vNot v49_48 fun v50_49 =>
  (k53_6 P p Q y0 v31_28 v50_49 H48 (c + 34))
def k53_12 (P : Program) (p : Lab) (Q : VPost) (v31_28 : AV) (y0 : AV) (H : Heap) (c : Nat) (_ : Unit) : Prop :=
  vNil y0 fun v41_40 =>
  vFA 0 v41_40 fun v42_41 =>
  vFA 0 v42_41 fun v43_42 =>
  vLoad 1 false v43_42 H fun v44_43 _ =>
  vBin .sub .num v31_28 (.int .i64 1) fun v46_45 =>
  vIx 1 v44_43 v46_45 fun v47_46 =>
  vLoad 1 false v47_46 H fun v48_47 _ =>
  vCall false P 40 [v48_47] H ((c + 31) :: p) (k53_11 P p Q v31_28 y0 c)
def k53_3 (P : Program) (p : Lab) (Q : VPost) (y0 : AV) (y18 : AV) (H : Heap) (c : Nat) : Prop :=
  vNil y0 fun v20_17 =>
  vFA 0 v20_17 fun v21_18 =>
  vFA 1 v21_18 fun v22_19 =>
  vLoad 1 false v22_19 H fun v23_20 f20 =>
  vNil y0 fun v25_22 =>
  vFA 0 v25_22 fun v26_23 =>
  vFA 0 v26_23 fun v27_24 =>
  vLoad 1 false v27_24 H fun v28_25 f25 =>
  vLen v28_25 fun v29_26 =>
  vBin .sub .num v29_26 (.int .i64 1) fun v30_27 =>
  vMin v23_20 v30_27 fun v31_28 =>
  clashFree [0, 1, 3, 7, 15, 0, 32, 96, 224, 480, 992, 2016, 4095, 8191] (addTr 4 [] ((c + 4) :: p) f20 (addTr 9 [] ((c + 9) :: p) f25 [])) ∧
  vNil y0 fun v33_31 =>
  vFA 0 v33_31 fun v34_32 =>
  vFA 0 v34_32 fun v35_33 =>
  vLoad 1 false v35_33 H fun v36_34 _ =>
  vLen v36_34 fun v37_35 =>
  vBin .gtr .num v37_35 (.int .i64 1000) fun v38_36 =>
  vSel v38_36
  (k53_5 P p Q v31_28 y0 H c)
  (k53_12 P p Q v31_28 y0 H c)
def k53_13 (P : Program) (p : Lab) (Q : VPost) (y0 : AV) (y18 : AV) (H : Heap) (c : Nat) (_ : Unit) : Prop :=
  (k53_3 P p Q y0 y18 H c)
def k53_2 (P : Program) (p : Lab) (Q : VPost) (y0 : AV) (y18 : AV) (H : Heap) (c : Nat) : Prop :=
  vSel y18
  (fun _ =>
  Q .ret [(0, y0), (18, y18)] H c)
  (k53_13 P p Q y0 y18 H c)
def k53_14 (P : Program) (p : Lab) (Q : VPost) (x0 : AV) (H : Heap) (c : Nat) (_ : Unit) : Prop :=
  vNil x0 fun v13_10 =>
  vFA 0 v13_10 fun v14_11 =>
  vFA 1 v14_11 fun v15_12 =>
  vLoad 1 false v15_12 H fun v16_13 _ =>
  vBin .eql .num v16_13 (.int .i64 0) fun v17_14 =>
  (k53_2 P p Q x0 v17_14 H (c + 15))
def V53 (P : Program) (p : Lab) (Q : VPost) (x0 : AV) (H : Heap) (c : Nat) : Prop :=
  vNil x0 fun v5_1 =>
  vFA 0 v5_1 fun v6_2 =>
  vFA 0 v6_2 fun v7_3 =>
  vLoad 1 false v7_3 H fun v8_4 _ =>
  vLen v8_4 fun v9_5 =>
  vBin .lss .num v9_5 (.int .i64 2) fun v10_6 =>
  vSel v10_6
  (k53_1 P p Q x0 H c)
  (k53_14 P p Q x0 H c)
theorem vt53 (P : Program) (p : Lab) (Q : VPost) (x0 : AV) (H : Heap) (c : Nat) : vc P p c53.body Q [(0, x0)] H c = V53 P p Q x0 H c := by kernel_rfl


/-- (*duet/edit.work).wordBack -/
def c54 : AFun := ⟨1, 17, [],
  (.region [⟨(some 2), none, .move, [.t 0]⟩, ⟨(some 3), none, .move, [.t 0]⟩, ⟨(some 4), none, .nilCheck, [.t 3]⟩, ⟨(some 5), none, (.fieldAddr 0), [.t 4]⟩, ⟨(some 6), none, (.fieldAddr 0), [.t 5]⟩, ⟨(some 7), none, (.load 1 false), [.t 6]⟩, ⟨(some 8), none, .move, [.t 0]⟩, ⟨(some 9), none, .nilCheck, [.t 8]⟩, ⟨(some 10), none, (.fieldAddr 0), [.t 9]⟩, ⟨(some 11), none, (.fieldAddr 1), [.t 10]⟩, ⟨(some 12), none, (.load 1 false), [.t 11]⟩, ⟨(some 13), none, .call, [.c (.fn (.func 22) [] []), .t 7, .t 12, .c (.bool true)]⟩, ⟨(some 14), none, .nilCheck, [.t 2]⟩, ⟨(some 15), none, (.fieldAddr 0), [.t 14]⟩, ⟨(some 16), none, (.fieldAddr 1), [.t 15]⟩, ⟨none, none, (.store 1), [.t 16, .t 13]⟩] (some [0, 0, 2, 6, 14, 30, 0, 64, 192, 448, 960, 2046, 4095, 8191, 16383, 32767]) [])⟩
theorem ok54 : FunOk Try.prog 54 c54 := ⟨⟨Try.f54, _, Try.func54, rfl, by kernel_rfl, by kernel_rfl, by kernel_rfl, by kernel_rfl⟩, by decide⟩
theorem res54 : c54.res = [] := rfl
def k54_0 (P : Program) (p : Lab) (Q : VPost) (l11 : List Lab) (f11 : Option (List Lab)) (f10 : Option (List Lab)) (f5 : Option (List Lab)) (c : Nat) (v_15 : AV) (H15 : Heap) (l15 : List Lab) (f15 : Option (List Lab)) : Prop :=
  clashFree [0, 0, 2, 6, 14, 30, 0, 64, 192, 448, 960, 2046, 4095, 8191, 16383, 32767] (addTr 5 [] ((c + 5) :: p) f5 (addTr 10 [] ((c + 10) :: p) f10 (addTr 11 l11 ((c + 11) :: p) f11 (addTr 15 l15 ((c + 15) :: p) f15 [])))) ∧
  Q .normal [] H15 (c + 16)
def k54_1 (P : Program) (p : Lab) (Q : VPost) (f10 : Option (List Lab)) (f5 : Option (List Lab)) (x0 : AV) (c : Nat) (v13_11 : AV) (H11 : Heap) (l11 : List Lab) (f11 : Option (List Lab)) : Prop :=
  vNil x0 fun v14_12 =>
  vFA 0 v14_12 fun v15_13 =>
  vFA 1 v15_13 fun v16_14 =>
  vGen (.store 1) [v16_14, v13_11] H11 ((c + 15) :: p) (k54_0 P p Q l11 f11 f10 f5 c)
def V54 (P : Program) (p : Lab) (Q : VPost) (x0 : AV) (H : Heap) (c : Nat) : Prop :=
  vNil x0 fun v4_2 =>
  vFA 0 v4_2 fun v5_3 =>
  vFA 0 v5_3 fun v6_4 =>
  vLoad 1 false v6_4 H fun v7_5 f5 =>
  vNil x0 fun v9_7 =>
  vFA 0 v9_7 fun v10_8 =>
  vFA 1 v10_8 fun v11_9 =>
  vLoad 1 false v11_9 H fun v12_10 f10 =>
  vCall false P 22 [v7_5, v12_10, (.bool true)] H ((c + 11) :: p) (k54_1 P p Q f10 f5 x0 c)
theorem vt54 (P : Program) (p : Lab) (Q : VPost) (x0 : AV) (H : Heap) (c : Nat) : vc P p c54.body Q [(0, x0)] H c = V54 P p Q x0 H c := by kernel_rfl


/-- (*duet/edit.work).wordOn -/
def c55 : AFun := ⟨1, 17, [],
  (.region [⟨(some 2), none, .move, [.t 0]⟩, ⟨(some 3), none, .move, [.t 0]⟩, ⟨(some 4), none, .nilCheck, [.t 3]⟩, ⟨(some 5), none, (.fieldAddr 0), [.t 4]⟩, ⟨(some 6), none, (.fieldAddr 0), [.t 5]⟩, ⟨(some 7), none, (.load 1 false), [.t 6]⟩, ⟨(some 8), none, .move, [.t 0]⟩, ⟨(some 9), none, .nilCheck, [.t 8]⟩, ⟨(some 10), none, (.fieldAddr 0), [.t 9]⟩, ⟨(some 11), none, (.fieldAddr 1), [.t 10]⟩, ⟨(some 12), none, (.load 1 false), [.t 11]⟩, ⟨(some 13), none, .call, [.c (.fn (.func 22) [] []), .t 7, .t 12, .c (.bool false)]⟩, ⟨(some 14), none, .nilCheck, [.t 2]⟩, ⟨(some 15), none, (.fieldAddr 0), [.t 14]⟩, ⟨(some 16), none, (.fieldAddr 1), [.t 15]⟩, ⟨none, none, (.store 1), [.t 16, .t 13]⟩] (some [0, 0, 2, 6, 14, 30, 0, 64, 192, 448, 960, 2046, 4095, 8191, 16383, 32767]) [])⟩
theorem ok55 : FunOk Try.prog 55 c55 := ⟨⟨Try.f55, _, Try.func55, rfl, by kernel_rfl, by kernel_rfl, by kernel_rfl, by kernel_rfl⟩, by decide⟩
theorem res55 : c55.res = [] := rfl
def k55_0 (P : Program) (p : Lab) (Q : VPost) (l11 : List Lab) (f11 : Option (List Lab)) (f10 : Option (List Lab)) (f5 : Option (List Lab)) (c : Nat) (v_15 : AV) (H15 : Heap) (l15 : List Lab) (f15 : Option (List Lab)) : Prop :=
  clashFree [0, 0, 2, 6, 14, 30, 0, 64, 192, 448, 960, 2046, 4095, 8191, 16383, 32767] (addTr 5 [] ((c + 5) :: p) f5 (addTr 10 [] ((c + 10) :: p) f10 (addTr 11 l11 ((c + 11) :: p) f11 (addTr 15 l15 ((c + 15) :: p) f15 [])))) ∧
  Q .normal [] H15 (c + 16)
def k55_1 (P : Program) (p : Lab) (Q : VPost) (f10 : Option (List Lab)) (f5 : Option (List Lab)) (x0 : AV) (c : Nat) (v13_11 : AV) (H11 : Heap) (l11 : List Lab) (f11 : Option (List Lab)) : Prop :=
  vNil x0 fun v14_12 =>
  vFA 0 v14_12 fun v15_13 =>
  vFA 1 v15_13 fun v16_14 =>
  vGen (.store 1) [v16_14, v13_11] H11 ((c + 15) :: p) (k55_0 P p Q l11 f11 f10 f5 c)
def V55 (P : Program) (p : Lab) (Q : VPost) (x0 : AV) (H : Heap) (c : Nat) : Prop :=
  vNil x0 fun v4_2 =>
  vFA 0 v4_2 fun v5_3 =>
  vFA 0 v5_3 fun v6_4 =>
  vLoad 1 false v6_4 H fun v7_5 f5 =>
  vNil x0 fun v9_7 =>
  vFA 0 v9_7 fun v10_8 =>
  vFA 1 v10_8 fun v11_9 =>
  vLoad 1 false v11_9 H fun v12_10 f10 =>
  vCall false P 22 [v7_5, v12_10, (.bool false)] H ((c + 11) :: p) (k55_1 P p Q f10 f5 x0 c)
theorem vt55 (P : Program) (p : Lab) (Q : VPost) (x0 : AV) (H : Heap) (c : Nat) : vc P p c55.body Q [(0, x0)] H c = V55 P p Q x0 H c := by kernel_rfl


/-- (*duet/edit.work).killNext -/
def c56 : AFun := ⟨1, 20, [],
  (.region [⟨(some 2), none, .move, [.t 0]⟩, ⟨(some 3), none, .move, [.t 0]⟩, ⟨(some 4), none, .nilCheck, [.t 3]⟩, ⟨(some 5), none, (.fieldAddr 0), [.t 4]⟩, ⟨(some 6), none, (.fieldAddr 1), [.t 5]⟩, ⟨(some 7), none, (.load 1 false), [.t 6]⟩, ⟨(some 8), none, .move, [.t 0]⟩, ⟨(some 9), none, .nilCheck, [.t 8]⟩, ⟨(some 10), none, (.fieldAddr 0), [.t 9]⟩, ⟨(some 11), none, (.fieldAddr 0), [.t 10]⟩, ⟨(some 12), none, (.load 1 false), [.t 11]⟩, ⟨(some 13), none, .move, [.t 0]⟩, ⟨(some 14), none, .nilCheck, [.t 13]⟩, ⟨(some 15), none, (.fieldAddr 0), [.t 14]⟩, ⟨(some 16), none, (.fieldAddr 1), [.t 15]⟩, ⟨(some 17), none, (.load 1 false), [.t 16]⟩, ⟨(some 18), none, .call, [.c (.fn (.func 22) [] []), .t 12, .t 17, .c (.bool false)]⟩, ⟨(some 19), none, .call, [.c (.fn (.func 63) [] []), .t 2, .t 7, .t 18]⟩] (some [0, 0, 2, 6, 14, 30, 0, 64, 192, 448, 960, 0, 2048, 6144, 14336, 30720, 65472, 131071]) [])⟩
theorem ok56 : FunOk Try.prog 56 c56 := ⟨⟨Try.f56, _, Try.func56, rfl, by kernel_rfl, by kernel_rfl, by kernel_rfl, by kernel_rfl⟩, by decide⟩
theorem res56 : c56.res = [] := rfl
def k56_0 (P : Program) (p : Lab) (Q : VPost) (l16 : List Lab) (f16 : Option (List Lab)) (f15 : Option (List Lab)) (f10 : Option (List Lab)) (f5 : Option (List Lab)) (c : Nat) (v19_17 : AV) (H17 : Heap) (l17 : List Lab) (f17 : Option (List Lab)) : Prop :=
  clashFree [0, 0, 2, 6, 14, 30, 0, 64, 192, 448, 960, 0, 2048, 6144, 14336, 30720, 65472, 131071] (addTr 5 [] ((c + 5) :: p) f5 (addTr 10 [] ((c + 10) :: p) f10 (addTr 15 [] ((c + 15) :: p) f15 (addTr 16 l16 ((c + 16) :: p) f16 (addTr 17 l17 ((c + 17) :: p) f17 []))))) ∧
  Q .normal [] H17 (c + 18)
def k56_1 (P : Program) (p : Lab) (Q : VPost) (f15 : Option (List Lab)) (f10 : Option (List Lab)) (v7_5 : AV) (f5 : Option (List Lab)) (x0 : AV) (c : Nat) (v18_16 : AV) (H16 : Heap) (l16 : List Lab) (f16 : Option (List Lab)) : Prop :=
  vCall false P 63 [x0, v7_5, v18_16] H16 ((c + 17) :: p) (k56_0 P p Q l16 f16 f15 f10 f5 c)
def V56 (P : Program) (p : Lab) (Q : VPost) (x0 : AV) (H : Heap) (c : Nat) : Prop :=
  vNil x0 fun v4_2 =>
  vFA 0 v4_2 fun v5_3 =>
  vFA 1 v5_3 fun v6_4 =>
  vLoad 1 false v6_4 H fun v7_5 f5 =>
  vNil x0 fun v9_7 =>
  vFA 0 v9_7 fun v10_8 =>
  vFA 0 v10_8 fun v11_9 =>
  vLoad 1 false v11_9 H fun v12_10 f10 =>
  vNil x0 fun v14_12 =>
  vFA 0 v14_12 fun v15_13 =>
  vFA 1 v15_13 fun v16_14 =>
  vLoad 1 false v16_14 H fun v17_15 f15 =>
  vCall false P 22 [v12_10, v17_15, (.bool false)] H ((c + 16) :: p) (k56_1 P p Q f15 f10 v7_5 f5 x0 c)
theorem vt56 (P : Program) (p : Lab) (Q : VPost) (x0 : AV) (H : Heap) (c : Nat) : vc P p c56.body Q [(0, x0)] H c = V56 P p Q x0 H c := by kernel_rfl

def b62_1 : ACode := (.seq (.region [⟨(some 22), none, (.bin .lss .num), [.t 21, .t 20]⟩] none [0, 1, 2, 7, 19, 20, 21, 22])
  (.seq (.cond (.t 22) .skip
  (.exit 0))
  (.seq (.block 1 (.seq (.region [⟨(some 23), none, (.indexAddr 1), [.t 19, .t 21]⟩, ⟨(some 24), none, (.load 1 false), [.t 23]⟩, ⟨(some 9), none, .move, [.t 24]⟩] none [0, 1, 2, 7, 9, 19, 20, 21])
  (.region [⟨(some 25), none, .move, [.t 0]⟩, ⟨(some 26), none, .move, [.t 0]⟩, ⟨(some 27), none, .nilCheck, [.t 26]⟩, ⟨(some 28), none, (.fieldAddr 3), [.t 27]⟩, ⟨(some 29), none, (.load 1 false), [.t 28]⟩, ⟨(some 30), none, .move, [.t 1]⟩, ⟨(some 31), none, .move, [.t 9]⟩, ⟨(some 32), none, (.build [(.int .i64 0), (.int .i64 0), (.int .i64 0)] [(0, 1), (1, 1), (2, 1)]), [.c (.int .i64 2), .t 30, .t 31]⟩, ⟨(some 33), none, (.buildSlice 3 [(.int .i64 0), (.int .i64 0), (.int .i64 0)] [(0, 3)]), [.t 32]⟩, ⟨(some 34), none, (.append 3 24), [.t 29, .t 33]⟩, ⟨(some 35), none, .nilCheck, [.t 25]⟩, ⟨(some 36), none, (.fieldAddr 3), [.t 35]⟩, ⟨none, none, (.store 1), [.t 36, .t 34]⟩] none [0, 1, 2, 7, 19, 20, 21])))
  (.region [⟨(some 37), none, (.bin .add .num), [.t 21, .c (.int .i64 1)]⟩, ⟨(some 21), none, .move, [.t 37]⟩] none [0, 1, 2, 7, 19, 20, 21]))))
def l62_1 : ACode := .loop [0, 1, 2, 7, 19, 20, 21] b62_1
def r62_2 : ACode := (.seq (.seq (.region [⟨(some 38), none, .move, [.t 7]⟩, ⟨(some 39), none, (.len .slice), [.t 38]⟩, ⟨(some 40), none, (.bin .gtr .num), [.t 39, .c (.int .i64 0)]⟩] none [0, 1, 2, 7, 40])
  (.cond (.t 40) (.seq (.region [⟨(some 41), none, .move, [.t 0]⟩, ⟨(some 42), none, .move, [.t 0]⟩, ⟨(some 43), none, .nilCheck, [.t 42]⟩, ⟨(some 44), none, (.fieldAddr 0), [.t 43]⟩, ⟨(some 45), none, (.fieldAddr 0), [.t 44]⟩, ⟨(some 46), none, (.load 1 false), [.t 45]⟩, ⟨(some 47), none, .move, [.t 1]⟩, ⟨(some 48), none, .move, [.t 2]⟩, ⟨(some 49), none, .call, [.c (.fn (.func 34) [] []), .t 46, .t 47, .t 48]⟩, ⟨(some 50), none, .nilCheck, [.t 41]⟩, ⟨(some 51), none, (.fieldAddr 0), [.t 50]⟩, ⟨(some 52), none, (.fieldAddr 0), [.t 51]⟩, ⟨none, none, (.store 1), [.t 52, .t 49]⟩] none [0, 1, 7])
  (.region [⟨(some 53), none, .move, [.t 0]⟩, ⟨(some 54), none, .move, [.t 1]⟩, ⟨(some 55), none, .nilCheck, [.t 53]⟩, ⟨(some 56), none, (.fieldAddr 0), [.t 55]⟩, ⟨(some 57), none, (.fieldAddr 1), [.t 56]⟩, ⟨none, none, (.store 1), [.t 57, .t 54]⟩] none [7]))
  .skip))
  (.seq (.region [⟨(some 58), none, .move, [.t 7]⟩, ⟨(some 6), none, .move, [.t 58]⟩] none [6])
  .ret))
/-- (*duet/edit.work).cut -/
def c62 : AFun := ⟨3, 59, [.tmp 6],
  (.seq (.region [⟨(some 6), none, .move, [.c .nils]⟩] none [0, 1, 2])
  (.seq (.region [⟨(some 10), none, .move, [.t 0]⟩, ⟨(some 11), none, .nilCheck, [.t 10]⟩, ⟨(some 12), none, (.fieldAddr 0), [.t 11]⟩, ⟨(some 13), none, (.fieldAddr 0), [.t 12]⟩, ⟨(some 14), none, (.load 1 false), [.t 13]⟩, ⟨(some 15), none, .move, [.t 1]⟩, ⟨(some 16), none, .move, [.t 2]⟩, ⟨(some 17), none, (.slice 1 true true false), [.t 14, .t 15, .t 16]⟩, ⟨(some 18), none, .call, [.c (.fn (.func 25) [] []), .t 17]⟩, ⟨(some 7), none, .move, [.t 18]⟩] none [0, 1, 2, 7])
  (.seq (.seq (.region [⟨(some 19), none, .move, [.t 7]⟩, ⟨(some 20), none, (.len .slice), [.t 19]⟩, ⟨(some 21), none, .move, [.c (.int .i64 0)]⟩] none [0, 1, 2, 7, 19, 20, 21])
  (.block 0 l62_1)) r62_2)))⟩
theorem ok62 : FunOk Try.prog 62 c62 := ⟨⟨Try.f62, _, Try.func62, rfl, by kernel_rfl, by kernel_rfl, by kernel_rfl, by kernel_rfl⟩, by decide⟩
theorem res62 : c62.res = [.tmp 6] := rfl
def q62_0 (P : Program) (p : Lab) (Q : VPost) : VPost := (vblockQ 0 (vseqQ (vc P p r62_2 Q) Q))
theorem q62_0_ret (P : Program) (p : Lab) (Q : VPost) (r : RL) (H : Heap) (c : Nat) : q62_0 P p Q .ret r H c = Q .ret r H c := rfl
def k62_0 (P : Program) (p : Lab) (Q : VPost) (x0 : AV) (x1 : AV) (x2 : AV) (c : Nat) (v18_9 : AV) (H9 : Heap) (l9 : List Lab) (f9 : Option (List Lab)) : Prop :=
  vLen v18_9 fun v20_12 =>
  vc P p l62_1 (q62_0 P p Q) [(0, x0), (1, x1), (2, x2), (7, v18_9), (19, v18_9), (20, v20_12), (21, (.int .i64 0))] H9 (c + 14)
def k62_1 (P : Program) (p : Lab) (Q : VPost) (x0 : AV) (x1 : AV) (x2 : AV) (c : Nat) (v17_8 : AV) (H8 : Heap) (l8 : List Lab) (f8 : Option (List Lab)) : Prop :=
  vCall true P 25 [v17_8] H8 ((c + 9) :: p) (k62_0 P p Q x0 x1 x2 c)
def V62 (P : Program) (p : Lab) (Q : VPost) (x0 x1 x2 : AV) (H : Heap) (c : Nat) : Prop :=
  vNil x0 fun v11_2 =>
  vFA 0 v11_2 fun v12_3 =>
  vFA 0 v12_3 fun v13_4 =>
  vLoad 1 false v13_4 H fun v14_5 _ =>
  vGen (.slice 1 true true false) [v14_5, x1, x2] H ((c + 8) :: p) (k62_1 P p Q x0 x1 x2 c)
theorem vt62 (P : Program) (p : Lab) (Q : VPost) (x0 x1 x2 : AV) (H : Heap) (c : Nat) : vc P p c62.body Q [(0, x0), (1, x1), (2, x2)] H c = V62 P p Q x0 x1 x2 H c := by kernel_rfl
def k62_3 (P : Program) (p : Lab) (Q : VPost) (y0 : AV) (y1 : AV) (y2 : AV) (y7 : AV) (y19 : AV) (y20 : AV) (y21 : AV) (c : Nat) (v_30 : AV) (H30 : Heap) (l30 : List Lab) (f30 : Option (List Lab)) : Prop :=
  vBin .add .num y21 (.int .i64 1) fun v37_31 =>
  Q .normal [(0, y0), (1, y1), (2, y2), (7, y7), (19, y19), (20, y20), (21, v37_31)] H30 (c + 18)
def k62_4 (P : Program) (p : Lab) (Q : VPost) (y0 : AV) (y1 : AV) (y2 : AV) (y7 : AV) (y19 : AV) (y20 : AV) (y21 : AV) (c : Nat) (v34_27 : AV) (H27 : Heap) (l27 : List Lab) (f27 : Option (List Lab)) : Prop :=
  vNil y0 fun v35_28 =>
  vFA 3 v35_28 fun v36_29 =>
  vGen (.store 1) [v36_29, v34_27] H27 ((c + 15) :: p) (k62_3 P p Q y0 y1 y2 y7 y19 y20 y21 c)
def k62_2 (P : Program) (p : Lab) (Q : VPost) (y0 : AV) (y1 : AV) (y2 : AV) (y7 : AV) (y19 : AV) (y20 : AV) (y21 : AV) (y22 : AV) (H : Heap) (c : Nat) : Prop :=
  vIx 1 y19 y21 fun v23_15 =>
  vLoad 1 false v23_15 H fun v24_16 _ =>
  vNil y0 fun v27_20 =>
  vFA 3 v27_20 fun v28_21 =>
  vLoad 1 false v28_21 H fun v29_22 _ =>
  vBuild [(.int .i64 0), (.int .i64 0), (.int .i64 0)] [(0, 1), (1, 1), (2, 1)] [(.int .i64 2), y1, v24_16] fun v32_25 =>
  vBuildS 3 [(.int .i64 0), (.int .i64 0), (.int .i64 0)] [(0, 3)] [v32_25] fun w26 n26 =>
  (fun (H26 : Heap) =>
  vGen (.append 3 24) [v29_22, (.sl ((c + 11) :: p) 3 0 n26)] H26 ((c + 12) :: p) (k62_4 P p Q y0 y1 y2 y7 y19 y20 y21 c)) (upd [(((c + 11) :: p), some (.rows 3 w26))] H)
def k62_5 (P : Program) (p : Lab) (Q : VPost) (v22_14 : AV) (x0 : AV) (x1 : AV) (x2 : AV) (x7 : AV) (x19 : AV) (x20 : AV) (x21 : AV) (H : Heap) (c : Nat) (_ : Unit) : Prop :=
  (k62_2 P p Q x0 x1 x2 x7 x19 x20 x21 v22_14 H (c + 1))
def V62_1 (P : Program) (p : Lab) (Q : VPost) (x0 x1 x2 x7 x19 x20 x21 : AV) (H : Heap) (c : Nat) : Prop :=
  vBin .lss .num x21 x20 fun v22_14 =>
  vSel v22_14
  (k62_5 P p Q v22_14 x0 x1 x2 x7 x19 x20 x21 H c)
  (fun _ =>
  Q (.exit 0) [(0, x0), (1, x1), (2, x2), (7, x7), (19, x19), (20, x20), (21, x21), (22, v22_14)] H (c + 1))
theorem vt62_1 (P : Program) (p : Lab) (Q : VPost) (x0 x1 x2 x7 x19 x20 x21 : AV) (H : Heap) (c : Nat) : vc P p b62_1 Q [(0, x0), (1, x1), (2, x2), (7, x7), (19, x19), (20, x20), (21, x21)] H c = V62_1 P p Q x0 x1 x2 x7 x19 x20 x21 H c := by kernel_rfl
theorem q62_0_e0 (P : Program) (p : Lab) (Q : VPost) (r : RL) (H : Heap) (c : Nat) : q62_0 P p Q (.exit 0) r H c = (vc P p r62_2 Q r H c) := rfl
def k62_7 (P : Program) (p : Lab) (Q : VPost) (y0 : AV) (y1 : AV) (y7 : AV) (c : Nat) (v_48 : AV) (H48 : Heap) (l48 : List Lab) (f48 : Option (List Lab)) : Prop :=
  vNil y0 fun v55_51 =>
  vFA 0 v55_51 fun v56_52 =>
  vFA 1 v56_52 fun v57_53 =>
  vGen (.store 1) [v57_53, y1] H48 ((c + 18) :: p) (fun v_54 H54 l54 f54 =>
  Q .ret [(6, y7)] H54 (c + 21))
def k62_8 (P : Program) (p : Lab) (Q : VPost) (y0 : AV) (y1 : AV) (y7 : AV) (c : Nat) (v49_44 : AV) (H44 : Heap) (l44 : List Lab) (f44 : Option (List Lab)) : Prop :=
  vNil y0 fun v50_45 =>
  vFA 0 v50_45 fun v51_46 =>
  vFA 0 v51_46 fun v52_47 =>
  vGen (.store 1) [v52_47, v49_44] H44 ((c + 12) :: p) (k62_7 P p Q y0 y1 y7 c)
def k62_6 (P : Program) (p : Lab) (Q : VPost) (y0 : AV) (y1 : AV) (y2 : AV) (y7 : AV) (H : Heap) (c : Nat) : Prop :=
  vNil y0 fun v43_38 =>
  vFA 0 v43_38 fun v44_39 =>
  vFA 0 v44_39 fun v45_40 =>
  vLoad 1 false v45_40 H fun v46_41 _ =>
  vCall true P 34 [v46_41, y1, y2] H ((c + 8) :: p) (k62_8 P p Q y0 y1 y7 c)
def k62_9 (P : Program) (p : Lab) (Q : VPost) (x0 : AV) (x1 : AV) (x2 : AV) (x7 : AV) (H : Heap) (c : Nat) (_ : Unit) : Prop :=
  (k62_6 P p Q x0 x1 x2 x7 H (c + 3))
def k62_10 (P : Program) (p : Lab) (Q : VPost) (y0 : AV) (y1 : AV) (y2 : AV) (y7 : AV) (y40 : AV) (H : Heap) (c : Nat) : Prop :=
  Q .ret [(6, y7)] H (c + 2)
def k62_11 (P : Program) (p : Lab) (Q : VPost) (v40_35 : AV) (x0 : AV) (x1 : AV) (x2 : AV) (x7 : AV) (H : Heap) (c : Nat) (_ : Unit) : Prop :=
  (k62_10 P p Q x0 x1 x2 x7 v40_35 H (c + 3))
def V62_2 (P : Program) (p : Lab) (Q : VPost) (x0 x1 x2 x7 x19 x20 x21 x22 : AV) (H : Heap) (c : Nat) : Prop :=
  vLen x7 fun v39_34 =>
  vBin .gtr .num v39_34 (.int .i64 0) fun v40_35 =>
  vSel v40_35
  (k62_9 P p Q x0 x1 x2 x7 H c)
  (k62_11 P p Q v40_35 x0 x1 x2 x7 H c)
theorem vt62_2 (P : Program) (p : Lab) (Q : VPost) (x0 x1 x2 x7 x19 x20 x21 x22 : AV) (H : Heap) (c : Nat) : vc P p r62_2 Q [(0, x0), (1, x1), (2, x2), (7, x7), (19, x19), (20, x20), (21, x21), (22, x22)] H c = V62_2 P p Q x0 x1 x2 x7 x19 x20 x21 x22 H c := by kernel_rfl


/-- (*duet/edit.work).kill -/
def c63 : AFun := ⟨3, 19, [],
  (.seq (.region [⟨(some 7), none, .move, [.t 0]⟩, ⟨(some 8), none, .move, [.t 1]⟩, ⟨(some 9), none, .move, [.t 2]⟩, ⟨(some 10), none, .call, [.c (.fn (.func 62) [] []), .t 7, .t 8, .t 9]⟩, ⟨(some 6), none, .move, [.t 10]⟩] none [0, 6])
  (.seq (.region [⟨(some 11), none, .move, [.t 6]⟩, ⟨(some 12), none, (.len .slice), [.t 11]⟩, ⟨(some 13), none, (.bin .gtr .num), [.t 12, .c (.int .i64 0)]⟩] none [0, 6, 13])
  (.cond (.t 13) (.region [⟨(some 14), none, .move, [.t 0]⟩, ⟨(some 15), none, .move, [.t 6]⟩, ⟨(some 16), none, .nilCheck, [.t 14]⟩, ⟨(some 17), none, (.fieldAddr 0), [.t 16]⟩, ⟨(some 18), none, (.fieldAddr 2), [.t 17]⟩, ⟨none, none, (.store 1), [.t 18, .t 15]⟩] none [])
  .skip)))⟩
theorem ok63 : FunOk Try.prog 63 c63 := ⟨⟨Try.f63, _, Try.func63, rfl, by kernel_rfl, by kernel_rfl, by kernel_rfl, by kernel_rfl⟩, by decide⟩
theorem res63 : c63.res = [] := rfl
def k63_0 (P : Program) (p : Lab) (Q : VPost) (y0 : AV) (y6 : AV) (H : Heap) (c : Nat) : Prop :=
  vNil y0 fun v16_10 =>
  vFA 0 v16_10 fun v17_11 =>
  vFA 2 v17_11 fun v18_12 =>
  vGen (.store 1) [v18_12, y6] H ((c + 5) :: p) (fun v_13 H13 l13 f13 =>
  Q .normal [] H13 (c + 6))
def k63_1 (P : Program) (p : Lab) (Q : VPost) (v10_3 : AV) (H3 : Heap) (x0 : AV) (c : Nat) (_ : Unit) : Prop :=
  (k63_0 P p Q x0 v10_3 H3 (c + 8))
def k63_2 (P : Program) (p : Lab) (Q : VPost) (x0 : AV) (c : Nat) (v10_3 : AV) (H3 : Heap) (l3 : List Lab) (f3 : Option (List Lab)) : Prop :=
  vLen v10_3 fun v12_6 =>
  vBin .gtr .num v12_6 (.int .i64 0) fun v13_7 =>
  vSel v13_7
  (k63_1 P p Q v10_3 H3 x0 c)
  (fun _ =>
  Q .normal [(0, x0), (6, v10_3), (13, v13_7)] H3 (c + 8))
def V63 (P : Program) (p : Lab) (Q : VPost) (x0 x1 x2 : AV) (H : Heap) (c : Nat) : Prop :=
  vCall true P 62 [x0, x1, x2] H ((c + 3) :: p) (k63_2 P p Q x0 c)
theorem vt63 (P : Program) (p : Lab) (Q : VPost) (x0 x1 x2 : AV) (H : Heap) (c : Nat) : vc P p c63.body Q [(0, x0), (1, x1), (2, x2)] H c = V63 P p Q x0 x1 x2 H c := by kernel_rfl



end Go.Proofs.Ytbngfbpegdcpkaa
