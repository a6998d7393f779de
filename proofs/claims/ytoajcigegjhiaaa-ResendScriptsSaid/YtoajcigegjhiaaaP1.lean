/- What small functions on rows of numbers come to. -/
import Derived.Test.YtoajcigegjhiaaaA23
import Derived.Test.YtoajcigegjhiaaaA27
import Derived.Test.YtoajcigegjhiaaaA29
import Derived.Test.YtoajcigegjhiaaaW1
namespace Go.Proofs.Ytoajcigegjhiaaa
set_option linter.unusedVariables false
set_option linter.unusedSimpArgs false
set_option maxRecDepth 100000
def mayOk (x : Int) : Bool := decide (0 ≤ x) && decide (x ≤ 4294967295)
def mayS (l : List Int) : Bool := l.all mayOk && decide (1 ≤ l.length) && decide (l.length ≤ 16)
theorem all_step {l : List Int} {f : Int → Bool} {i : Nat} (h : i < l.length) (ha : (l.take i).all f = true) (hx : f (nth l i) = true) : (l.take (i + 1)).all f = true := by
  rw [List.take_add_one, List.all_append, ha, nth_some h]; simp [hx]
theorem all_not {l : List Int} {f : Int → Bool} {i : Nat} (h : i < l.length) (hx : f (nth l i) = false) : l.all f = false := by
  rw [List.all_eq_false]; exact ⟨nth l i, List.mem_of_getElem? (nth_some h), by simp [hx]⟩
theorem may_pure (l : List Int) (hl : l.length ≤ maxLen) : Pure Try.prog 48 [il l] (.bool (mayS l)) := by
  refine pure_vc Try.mixed ok48 rfl (fun q => ?_)
  unfold maxLen at hl
  simp only [params, Nat.zero_add, Nat.reduceAdd]
  simp (disch := omega) only [sel_t, sel_f, sel_dt, sel_df, sel_nt, sel_nf, v_lss, v_leq, v_gtr, v_geq, v_eql, v_neq, v_add, v_sub, v_not, v_min, v_max, v_pick_t, v_pick_f, v_ext0, v_ext1, v_ext2, v_len_isl, List.length_map, v_len_nils, v_len_sl0, v_len_sl, v_ix_map, v_ix_sl, v_nil_ptr, v_nil_iptr, v_fa_ptr, v_fa_iptr, cell_0, cell_s, cell_a2, cell_a3, cell_a7, cell_a10, v_load_map, v_load_r1, v_call_fn, v_load_H, ldH_one, ldH_map, v_store_H, stH_one, upd_same, upd_cons_ne, upd_nil, v_box, v_fld, eqs_nils, eqs_sl, v_eqs_ii, v_neqs_ii, sel_andt, sel_andf, sel_nandt, sel_nandf, encI, Int.toNat_natCast, lq_e, lq_r, Bool.not_true, Bool.not_false, Bool.false_eq_true, reduceIte, decide_true, decide_false, v_build_fill, v_buildS_fill, fill_nil, fill_cons, AV.cells, putL, chunk, List.length_cons, List.length_nil, Nat.reduceAdd, Nat.reduceDiv, Nat.reduceMod, List.take_succ_cons, List.take_zero, List.take_nil, List.drop_succ_cons, List.drop_zero, List.drop_nil, List.cons_append, List.nil_append, List.append_nil, List.all_cons, List.all_nil, AV.one, Nat.reduceLeDiff, and_self, and_true, true_and, Nat.zero_add, ne_eq, Nat.succ_ne_zero, not_false_eq_true, Bool.and_self, Nat.reduceEqDiff, Nat.le_refl, res48, q48_0_ret, q48_0_e0, vt48, vt48_1, vt48_2, V48, V48_1, V48_2, k48_1, k48_2, k48_4, k48_5, k48_6, k48_7, k48_3, k48_8, k48_0, k48_9, k48_10, k48_11, k48_12, k48_13]
  refine vloop (fun n r H c => ∃ i : Nat, r = [(0, il l), (3, .int .i64 i)] ∧ i ≤ l.length ∧ n = l.length - i ∧ (l.take i).all mayOk = true) l.length ⟨0, rfl, Nat.zero_le _, rfl, rfl⟩ ?_
  rintro n r H c ⟨i, rfl, hi, rfl, hall⟩
  repeat' (first | (simp (disch := omega) only [sel_t, sel_f, sel_dt, sel_df, sel_nt, sel_nf, v_lss, v_leq, v_gtr, v_geq, v_eql, v_neq, v_add, v_sub, v_not, v_min, v_max, v_pick_t, v_pick_f, v_ext0, v_ext1, v_ext2, v_len_isl, List.length_map, v_len_nils, v_len_sl0, v_len_sl, v_ix_map, v_ix_sl, v_nil_ptr, v_nil_iptr, v_fa_ptr, v_fa_iptr, cell_0, cell_s, cell_a2, cell_a3, cell_a7, cell_a10, v_load_map, v_load_r1, v_call_fn, v_load_H, ldH_one, ldH_map, v_store_H, stH_one, upd_same, upd_cons_ne, upd_nil, v_box, v_fld, eqs_nils, eqs_sl, v_eqs_ii, v_neqs_ii, sel_andt, sel_andf, sel_nandt, sel_nandf, encI, Int.toNat_natCast, lq_e, lq_r, Bool.not_true, Bool.not_false, Bool.false_eq_true, reduceIte, decide_true, decide_false, v_build_fill, v_buildS_fill, fill_nil, fill_cons, AV.cells, putL, chunk, List.length_cons, List.length_nil, Nat.reduceAdd, Nat.reduceDiv, Nat.reduceMod, List.take_succ_cons, List.take_zero, List.take_nil, List.drop_succ_cons, List.drop_zero, List.drop_nil, List.cons_append, List.nil_append, List.append_nil, List.all_cons, List.all_nil, AV.one, Nat.reduceLeDiff, and_self, and_true, true_and, Nat.zero_add, ne_eq, Nat.succ_ne_zero, not_false_eq_true, Bool.and_self, Nat.reduceEqDiff, Nat.le_refl, res48, q48_0_ret, q48_0_e0, vt48, vt48_1, vt48_2, V48, V48_1, V48_2, k48_1, k48_2, k48_4, k48_5, k48_6, k48_7, k48_3, k48_8, k48_0, k48_9, k48_10, k48_11, k48_12, k48_13]) | (refine sel_d (fun _ => ?_) (fun _ => ?_)) | (refine sel_n (fun _ => ?_) (fun _ => ?_)) | (refine sel_and (fun _ => ?_) (fun _ => ?_)) | (refine sel_nand (fun _ => ?_) (fun _ => ?_)) | (refine And.intro (clash_quiet rfl) ?_) | (refine eqs_isl (fun _ => ?_) ?_) | (exfalso; omega; done))
  · refine vp1 ?_
    simp [mayS, all_not (f := mayOk) (l := l) (i := i) (by omega) (by simp [mayOk]; omega)]
  · refine vp1 ?_
    simp [mayS, all_not (f := mayOk) (l := l) (i := i) (by omega) (by simp [mayOk]; omega)]
  · exact lq_n (l.length - (i + 1)) (by omega) ⟨i + 1, rfl, by omega, rfl, all_step (by omega) hall (by simp [mayOk]; omega)⟩
  · refine vp1 ?_
    have : i = l.length := by omega
    subst this
    rw [List.take_length] at hall
    congr 1
    rw [Bool.eq_iff_iff]
    simp only [mayS, hall, Bool.true_and, Bool.and_eq_true, decide_eq_true_eq]; omega
  · refine vp1 ?_
    congr 1
    rw [Bool.eq_iff_iff]
    simp only [mayS, Bool.and_eq_true, decide_eq_true_eq]
    exact ⟨fun h => (by cases h), fun h => (by omega)⟩
end Go.Proofs.Ytoajcigegjhiaaa
