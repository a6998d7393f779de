/- What keys do: the table. -/
import Derived.Test.YtbngfbpegdcpkaaA35
import Derived.Test.YtbngfbpegdcpkaaC0
import Derived.Test.YtbngfbpegdcpkaaW1
namespace Go.Proofs.Ytbngfbpegdcpkaa
set_option linter.unusedVariables false
set_option linter.unusedSimpArgs false
set_option maxRecDepth 100000
theorem ctrl_pure (c : Int) (h : 0 ≤ c ∧ c ≤ 1000) : Pure Try.prog 41 [.int .i32 c] (.agg [.int .i64 2, .int .i64 c]) := by
  refine pure_vc Try.mixed ok41 rfl (fun q => ?_)
  simp only [params, Nat.zero_add, Nat.reduceAdd]
  repeat' (first | (simp (disch := omega) only [sel_t, sel_f, sel_dt, sel_df, sel_nt, sel_nf, v_lss, v_leq, v_gtr, v_geq, v_eql, v_neq, v_add, v_sub, v_not, v_min, v_max, v_pick_t, v_pick_f, v_ext0, v_ext1, v_ext2, v_len_isl, List.length_map, v_len_nils, v_len_sl0, v_len_sl, v_ix_map, v_ix_sl, v_nil_ptr, v_nil_iptr, v_fa_ptr, v_fa_iptr, cell_0, cell_s, cell_a2, cell_a3, cell_a7, cell_a10, v_load_map, v_load_r1, v_call_fn, v_call_fnS, v_load_H, ldH_one, ldH_map, v_store_H, stH_one, upd_same, upd_cons_ne, upd_nil, v_box, v_fld, eqs_nils, eqs_sl, v_eqs_ii, v_neqs_ii, sel_andt, sel_andf, sel_nandt, sel_nandf, encI, Int.toNat_natCast, lq_e, lq_r, Bool.not_true, Bool.not_false, Bool.false_eq_true, reduceIte, decide_true, decide_false, v_build_fill, v_buildS_fill, fill_nil, fill_cons, AV.cells, putL, chunk, List.length_cons, List.length_nil, Nat.reduceAdd, Nat.reduceDiv, Nat.reduceMod, List.take_succ_cons, List.take_zero, List.take_nil, List.drop_succ_cons, List.drop_zero, List.drop_nil, List.cons_append, List.nil_append, List.append_nil, List.all_cons, List.all_nil, AV.one, Nat.reduceLeDiff, and_self, and_true, true_and, Nat.zero_add, ne_eq, Nat.succ_ne_zero, not_false_eq_true, Bool.and_self, Nat.reduceEqDiff, Nat.le_refl, res41, vt41, V41, k41_0, v_conv]) | (refine sel_d (fun _ => ?_) (fun _ => ?_)) | (refine sel_n (fun _ => ?_) (fun _ => ?_)) | (refine sel_and (fun _ => ?_) (fun _ => ?_)) | (refine sel_nand (fun _ => ?_) (fun _ => ?_)) | (refine And.intro (clash_quiet rfl) ?_) | (refine eqs_isl (fun _ => ?_) ?_) | (exfalso; omega; done))
  exact vpc1 (by simp [upd]) rfl (.refl _)
theorem meta_pure (c : Int) (h : 0 ≤ c ∧ c ≤ 1000) : Pure Try.prog 42 [.int .i32 c] (.agg [.int .i64 3, .int .i64 c]) := by
  refine pure_vc Try.mixed ok42 rfl (fun q => ?_)
  simp only [params, Nat.zero_add, Nat.reduceAdd]
  repeat' (first | (simp (disch := omega) only [sel_t, sel_f, sel_dt, sel_df, sel_nt, sel_nf, v_lss, v_leq, v_gtr, v_geq, v_eql, v_neq, v_add, v_sub, v_not, v_min, v_max, v_pick_t, v_pick_f, v_ext0, v_ext1, v_ext2, v_len_isl, List.length_map, v_len_nils, v_len_sl0, v_len_sl, v_ix_map, v_ix_sl, v_nil_ptr, v_nil_iptr, v_fa_ptr, v_fa_iptr, cell_0, cell_s, cell_a2, cell_a3, cell_a7, cell_a10, v_load_map, v_load_r1, v_call_fn, v_call_fnS, v_load_H, ldH_one, ldH_map, v_store_H, stH_one, upd_same, upd_cons_ne, upd_nil, v_box, v_fld, eqs_nils, eqs_sl, v_eqs_ii, v_neqs_ii, sel_andt, sel_andf, sel_nandt, sel_nandf, encI, Int.toNat_natCast, lq_e, lq_r, Bool.not_true, Bool.not_false, Bool.false_eq_true, reduceIte, decide_true, decide_false, v_build_fill, v_buildS_fill, fill_nil, fill_cons, AV.cells, putL, chunk, List.length_cons, List.length_nil, Nat.reduceAdd, Nat.reduceDiv, Nat.reduceMod, List.take_succ_cons, List.take_zero, List.take_nil, List.drop_succ_cons, List.drop_zero, List.drop_nil, List.cons_append, List.nil_append, List.append_nil, List.all_cons, List.all_nil, AV.one, Nat.reduceLeDiff, and_self, and_true, true_and, Nat.zero_add, ne_eq, Nat.succ_ne_zero, not_false_eq_true, Bool.and_self, Nat.reduceEqDiff, Nat.le_refl, res42, vt42, V42, k42_0, v_conv]) | (refine sel_d (fun _ => ?_) (fun _ => ?_)) | (refine sel_n (fun _ => ?_) (fun _ => ?_)) | (refine sel_and (fun _ => ?_) (fun _ => ?_)) | (refine sel_nand (fun _ => ?_) (fun _ => ?_)) | (refine And.intro (clash_quiet rfl) ?_) | (refine eqs_isl (fun _ => ?_) ?_) | (exfalso; omega; done))
  exact vpc1 (by simp [upd]) rfl (.refl _)
def keyF : CallF := fun f xs _ _ => match xs with
  | [.int .i32 c] => if 0 ≤ c ∧ c ≤ 1000 then (if f = 41 then some (.pure (.agg [.int .i64 2, .int .i64 c])) else if f = 42 then some (.pure (.agg [.int .i64 3, .int .i64 c])) else none) else none
  | _ => none
theorem keyF_ok : CallOk Try.prog keyF := callOk_of fun f xs H q r h => by
  unfold keyF at h
  split at h
  · split at h
    · rename_i hc
      split at h
      · rename_i hf; subst hf; cases h; exact ctrl_pure _ hc H q
      · split at h
        · rename_i hf; subst hf; cases h; exact meta_pure _ hc H q
        · cases h
    · cases h
  · cases h
end Go.Proofs.Ytbngfbpegdcpkaa
