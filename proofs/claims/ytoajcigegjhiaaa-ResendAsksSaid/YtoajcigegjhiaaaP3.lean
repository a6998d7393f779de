/- What is to be asked for. -/
import Derived.Test.YtoajcigegjhiaaaP2
namespace Go.Proofs.Ytoajcigegjhiaaa
set_option linter.unusedVariables false
set_option linter.unusedSimpArgs false
set_option maxRecDepth 100000
def encP (a : Int × Int) : List AV := [.int .i64 a.1, .int .i64 a.2]
/-- those of one site: n, behind one that is told -/
def segS (s : Nat) (h : Int) (n : Nat) : List (Int × Int) := (List.range n).map fun (j : Nat) => ((s : Int), h + 1 + (j : Int))
theorem seg_succ {s : Nat} {h : Int} {n : Nat} : segS s h (n + 1) = segS s h n ++ [((s : Int), h + 1 + (n : Int))] := by simp [segS, List.range_succ]
theorem seg_len {s : Nat} {h : Int} {n : Nat} : (segS s h n).length = n := by simp [segS]
/-- how many of a site's, where so many may still be asked for -/
def cntS (has knows : List Int) (most : Int) (i len : Nat) : Nat := (Min.min (Max.max (nth knows i - nth has i) 0) (most - len)).toNat
def asksUp (has knows : List Int) (most : Int) : Nat → List (Int × Int)
  | 0 => []
  | i + 1 => asksUp has knows most i ++ segS i (nth has i) (cntS has knows most i (asksUp has knows most i).length)
theorem asks_len {has knows : List Int} {most : Int} (hm : 0 ≤ most) : ∀ i, ((asksUp has knows most i).length : Int) ≤ most
  | 0 => by simpa [asksUp] using hm
  | i + 1 => by
    have := asks_len (has := has) (knows := knows) hm i
    simp only [asksUp, List.length_append, seg_len, cntS]
    omega
theorem asks_pure (has knows : List Int) (most : Int) (ha : has.length ≤ maxLen) (hb : knows.length ≤ maxLen) (h : goesS has knows = true) (hm : 0 ≤ most ∧ most ≤ 1000) : Pure Try.prog 24 [il has, il knows, .int .i64 most] (.tuple [.isl 2 ((asksUp has knows most has.length).map encP), .int .i64 0]) := by
  have hl := (goes_len h).1
  have hall : ∀ i, i < has.length → (0 ≤ nth has i ∧ nth has i ≤ 4294967295) ∧ (0 ≤ nth knows i ∧ nth knows i ≤ 4294967295) := by
    intro i hi
    have key : ∀ l : List Int, mayS l = true → i < l.length → 0 ≤ nth l i ∧ nth l i ≤ 4294967295 := fun l hl hi => by
      simp only [mayS, Bool.and_eq_true, List.all_eq_true, mayOk, decide_eq_true_eq] at hl
      exact hl.1.1 _ (List.mem_of_getElem? (nth_some hi))
    exact ⟨key _ (goes_len h).2.1 hi, key _ (goes_len h).2.2 (by omega)⟩
  refine pure_vc Try.mixed ok24 rfl (fun q => ?_)
  simp only [params, Nat.zero_add, Nat.reduceAdd]
  simp (disch := omega) only [sel_t, sel_f, sel_dt, sel_df, sel_nt, sel_nf, v_lss, v_leq, v_gtr, v_geq, v_eql, v_neq, v_add, v_sub, v_not, v_min, v_max, v_pick_t, v_pick_f, v_ext0, v_ext1, v_ext2, v_len_isl, List.length_map, v_len_nils, v_len_sl0, v_len_sl, v_ix_map, v_ix_sl, v_nil_ptr, v_nil_iptr, v_fa_ptr, v_fa_iptr, cell_0, cell_s, cell_a2, cell_a3, cell_a10, v_load_map, v_load_ptr, v_load_one, encI, Int.toNat_natCast, lq_e, lq_r, Bool.not_true, Bool.not_false, Bool.false_eq_true, reduceIte, decide_true, decide_false, v_build_eq, v_buildS_eq, fillA, AV.cells, putL, chunk, List.length_cons, List.length_nil, Nat.reduceAdd, Nat.reduceDiv, Nat.reduceMod, List.take_succ_cons, List.take_zero, List.take_nil, List.drop_succ_cons, List.drop_zero, List.drop_nil, List.cons_append, List.nil_append, List.append_nil, List.all_cons, List.all_nil, AV.one, Nat.reduceLeDiff, and_self, and_true, true_and, Nat.zero_add, ne_eq, Nat.succ_ne_zero, not_false_eq_true, Bool.and_self, Nat.reduceEqDiff, Nat.le_refl, res24, q24_0_ret, q24_1_ret, q24_0_e0, q24_1_e2, vt24, vt24_1, vt24_2, vt24_4, vt24_3, V24, V24_1, V24_2, V24_4, V24_3]
  refine call_pure (compare_ok has knows ha hb h) ?_
  obtain ⟨hm0, hm1⟩ := hm
  unfold maxLen at ha hb
  repeat' (first | (simp (disch := omega) only [sel_t, sel_f, sel_dt, sel_df, sel_nt, sel_nf, v_lss, v_leq, v_gtr, v_geq, v_eql, v_neq, v_add, v_sub, v_not, v_min, v_max, v_pick_t, v_pick_f, v_ext0, v_ext1, v_ext2, v_len_isl, List.length_map, v_len_nils, v_len_sl0, v_len_sl, v_ix_map, v_ix_sl, v_nil_ptr, v_nil_iptr, v_fa_ptr, v_fa_iptr, cell_0, cell_s, cell_a2, cell_a3, cell_a10, v_load_map, v_load_ptr, v_load_one, encI, Int.toNat_natCast, lq_e, lq_r, Bool.not_true, Bool.not_false, Bool.false_eq_true, reduceIte, decide_true, decide_false, v_build_eq, v_buildS_eq, fillA, AV.cells, putL, chunk, List.length_cons, List.length_nil, Nat.reduceAdd, Nat.reduceDiv, Nat.reduceMod, List.take_succ_cons, List.take_zero, List.take_nil, List.drop_succ_cons, List.drop_zero, List.drop_nil, List.cons_append, List.nil_append, List.append_nil, List.all_cons, List.all_nil, AV.one, Nat.reduceLeDiff, and_self, and_true, true_and, Nat.zero_add, ne_eq, Nat.succ_ne_zero, not_false_eq_true, Bool.and_self, Nat.reduceEqDiff, Nat.le_refl, res24, q24_0_ret, q24_1_ret, q24_0_e0, q24_1_e2, vt24, vt24_1, vt24_2, vt24_4, vt24_3, V24, V24_1, V24_2, V24_4, V24_3]) | (refine sel_d (fun _ => ?_) (fun _ => ?_)) | (refine sel_n (fun _ => ?_) (fun _ => ?_)) | (refine And.intro (show clashFree _ _ from rfl) ?_) | (exfalso; omega; done))
  refine vloop (fun n r H c => ∃ (i : Nat) (x : AV), r = [(1, il knows), (2, .int .i64 most), (10, x), (30, il has), (31, .int .i64 has.length), (32, .int .i64 i)] ∧ i ≤ has.length ∧ n = has.length - i ∧ Own H x 2 ((asksUp has knows most i).map encP) ∧ Fresh q c H) has.length ⟨0, .nils, rfl, Nat.zero_le _, rfl, .nils, .empty⟩ ?_
  rintro n r H c ⟨i, x, rfl, hi, rfl, ho, hf⟩
  have hlen := asks_len (has := has) (knows := knows) hm0 i
  by_cases hlt : i < has.length
  · obtain ⟨⟨g1, g2⟩, g3, g4⟩ := hall i hlt
    simp (disch := omega) only [sel_t, sel_f, sel_dt, sel_df, sel_nt, sel_nf, v_lss, v_leq, v_gtr, v_geq, v_eql, v_neq, v_add, v_sub, v_not, v_min, v_max, v_pick_t, v_pick_f, v_ext0, v_ext1, v_ext2, v_len_isl, List.length_map, v_len_nils, v_len_sl0, v_len_sl, v_ix_map, v_ix_sl, v_nil_ptr, v_nil_iptr, v_fa_ptr, v_fa_iptr, cell_0, cell_s, cell_a2, cell_a3, cell_a10, v_load_map, v_load_ptr, v_load_one, encI, Int.toNat_natCast, lq_e, lq_r, Bool.not_true, Bool.not_false, Bool.false_eq_true, reduceIte, decide_true, decide_false, v_build_eq, v_buildS_eq, fillA, AV.cells, putL, chunk, List.length_cons, List.length_nil, Nat.reduceAdd, Nat.reduceDiv, Nat.reduceMod, List.take_succ_cons, List.take_zero, List.take_nil, List.drop_succ_cons, List.drop_zero, List.drop_nil, List.cons_append, List.nil_append, List.append_nil, List.all_cons, List.all_nil, AV.one, Nat.reduceLeDiff, and_self, and_true, true_and, Nat.zero_add, ne_eq, Nat.succ_ne_zero, not_false_eq_true, Bool.and_self, Nat.reduceEqDiff, Nat.le_refl, res24, q24_0_ret, q24_1_ret, q24_0_e0, q24_1_e2, vt24, vt24_1, vt24_2, vt24_4, vt24_3, V24, V24_1, V24_2, V24_4, V24_3, v_len_own ho]
    have hn : Min.min (Max.max (nth knows i - nth has i) 0) (most - ((asksUp has knows most i).length : Int)) = (cntS has knows most i (asksUp has knows most i).length : Nat) := by
      simp only [cntS]; omega
    have hc1 : cntS has knows most i (asksUp has knows most i).length ≤ 4294967295 := by simp only [cntS]; omega
    have hc2 : ((asksUp has knows most i).length : Int) + (cntS has knows most i (asksUp has knows most i).length : Nat) ≤ most := by simp only [cntS]; omega
    rw [hn]
    generalize hcn : cntS has knows most i (asksUp has knows most i).length = N at hc1 hc2
    refine vloop (fun n r H c => ∃ (j : Nat) (x : AV), r = [(1, il knows), (2, .int .i64 most), (10, x), (11, .int .i64 i), (12, .int .i64 (nth has i)), (30, il has), (31, .int .i64 has.length), (32, .int .i64 i), (48, .int .i64 N), (49, .int .i64 j)] ∧ j ≤ N ∧ n = N - j ∧ Own H x 2 ((asksUp has knows most i ++ segS i (nth has i) j).map encP) ∧ Fresh q c H) N ⟨0, x, rfl, Nat.zero_le _, rfl, by simpa [segS] using ho, hf.mono (by omega)⟩ ?_
    clear ho hf
    rintro n r H c ⟨j, x, rfl, hj, rfl, ho, hf⟩
    repeat' (first | (simp (disch := omega) only [sel_t, sel_f, sel_dt, sel_df, sel_nt, sel_nf, v_lss, v_leq, v_gtr, v_geq, v_eql, v_neq, v_add, v_sub, v_not, v_min, v_max, v_pick_t, v_pick_f, v_ext0, v_ext1, v_ext2, v_len_isl, List.length_map, v_len_nils, v_len_sl0, v_len_sl, v_ix_map, v_ix_sl, v_nil_ptr, v_nil_iptr, v_fa_ptr, v_fa_iptr, cell_0, cell_s, cell_a2, cell_a3, cell_a10, v_load_map, v_load_ptr, v_load_one, encI, Int.toNat_natCast, lq_e, lq_r, Bool.not_true, Bool.not_false, Bool.false_eq_true, reduceIte, decide_true, decide_false, v_build_eq, v_buildS_eq, fillA, AV.cells, putL, chunk, List.length_cons, List.length_nil, Nat.reduceAdd, Nat.reduceDiv, Nat.reduceMod, List.take_succ_cons, List.take_zero, List.take_nil, List.drop_succ_cons, List.drop_zero, List.drop_nil, List.cons_append, List.nil_append, List.append_nil, List.all_cons, List.all_nil, AV.one, Nat.reduceLeDiff, and_self, and_true, true_and, Nat.zero_add, ne_eq, Nat.succ_ne_zero, not_false_eq_true, Bool.and_self, Nat.reduceEqDiff, Nat.le_refl, res24, q24_0_ret, q24_1_ret, q24_0_e0, q24_1_e2, vt24, vt24_1, vt24_2, vt24_4, vt24_3, V24, V24_1, V24_2, V24_4, V24_3]) | (refine sel_d (fun _ => ?_) (fun _ => ?_)) | (refine sel_n (fun _ => ?_) (fun _ => ?_)) | (refine And.intro (show clashFree _ _ from rfl) ?_) | (exfalso; omega; done))
    · refine push_own ho hf (by omega) (by omega) (by decide) ?_ ?_ (fun x' H' l f ho' hf' _ => ?_)
      · simp only [List.length_map, List.length_append, seg_len]; omega
      · simp only [List.length_map, List.length_append, seg_len]; omega
      repeat' (first | (simp (disch := omega) only [sel_t, sel_f, sel_dt, sel_df, sel_nt, sel_nf, v_lss, v_leq, v_gtr, v_geq, v_eql, v_neq, v_add, v_sub, v_not, v_min, v_max, v_pick_t, v_pick_f, v_ext0, v_ext1, v_ext2, v_len_isl, List.length_map, v_len_nils, v_len_sl0, v_len_sl, v_ix_map, v_ix_sl, v_nil_ptr, v_nil_iptr, v_fa_ptr, v_fa_iptr, cell_0, cell_s, cell_a2, cell_a3, cell_a10, v_load_map, v_load_ptr, v_load_one, encI, Int.toNat_natCast, lq_e, lq_r, Bool.not_true, Bool.not_false, Bool.false_eq_true, reduceIte, decide_true, decide_false, v_build_eq, v_buildS_eq, fillA, AV.cells, putL, chunk, List.length_cons, List.length_nil, Nat.reduceAdd, Nat.reduceDiv, Nat.reduceMod, List.take_succ_cons, List.take_zero, List.take_nil, List.drop_succ_cons, List.drop_zero, List.drop_nil, List.cons_append, List.nil_append, List.append_nil, List.all_cons, List.all_nil, AV.one, Nat.reduceLeDiff, and_self, and_true, true_and, Nat.zero_add, ne_eq, Nat.succ_ne_zero, not_false_eq_true, Bool.and_self, Nat.reduceEqDiff, Nat.le_refl, res24, q24_0_ret, q24_1_ret, q24_0_e0, q24_1_e2, vt24, vt24_1, vt24_2, vt24_4, vt24_3, V24, V24_1, V24_2, V24_4, V24_3]) | (refine sel_d (fun _ => ?_) (fun _ => ?_)) | (refine sel_n (fun _ => ?_) (fun _ => ?_)) | (refine And.intro (show clashFree _ _ from rfl) ?_) | (exfalso; omega; done))
      refine lq_n (N - (j + 1)) (by omega) ⟨j + 1, x', rfl, by omega, rfl, ?_, hf'.mono (by omega)⟩
      rw [seg_succ, ← List.append_assoc, List.map_append]
      exact ho'
    · refine lq_n (has.length - (i + 1)) (by omega) ⟨i + 1, x, rfl, by omega, rfl, ?_, hf.mono (by omega)⟩
      have : j = N := by omega
      subst this
      simp only [asksUp, hcn]; exact ho
  · repeat' (first | (simp (disch := omega) only [sel_t, sel_f, sel_dt, sel_df, sel_nt, sel_nf, v_lss, v_leq, v_gtr, v_geq, v_eql, v_neq, v_add, v_sub, v_not, v_min, v_max, v_pick_t, v_pick_f, v_ext0, v_ext1, v_ext2, v_len_isl, List.length_map, v_len_nils, v_len_sl0, v_len_sl, v_ix_map, v_ix_sl, v_nil_ptr, v_nil_iptr, v_fa_ptr, v_fa_iptr, cell_0, cell_s, cell_a2, cell_a3, cell_a10, v_load_map, v_load_ptr, v_load_one, encI, Int.toNat_natCast, lq_e, lq_r, Bool.not_true, Bool.not_false, Bool.false_eq_true, reduceIte, decide_true, decide_false, v_build_eq, v_buildS_eq, fillA, AV.cells, putL, chunk, List.length_cons, List.length_nil, Nat.reduceAdd, Nat.reduceDiv, Nat.reduceMod, List.take_succ_cons, List.take_zero, List.take_nil, List.drop_succ_cons, List.drop_zero, List.drop_nil, List.cons_append, List.nil_append, List.append_nil, List.all_cons, List.all_nil, AV.one, Nat.reduceLeDiff, and_self, and_true, true_and, Nat.zero_add, ne_eq, Nat.succ_ne_zero, not_false_eq_true, Bool.and_self, Nat.reduceEqDiff, Nat.le_refl, res24, q24_0_ret, q24_1_ret, q24_0_e0, q24_1_e2, vt24, vt24_1, vt24_2, vt24_4, vt24_3, V24, V24_1, V24_2, V24_4, V24_3]) | (refine sel_d (fun _ => ?_) (fun _ => ?_)) | (refine sel_n (fun _ => ?_) (fun _ => ?_)) | (refine And.intro (show clashFree _ _ from rfl) ?_) | (exfalso; omega; done))
    have : i = has.length := by omega
    subst this
    exact vp2 (.of_own ho (rowOk_map fun a => ⟨rfl, by simp [encP, AV.one]⟩)) (.refl _) (by decide)
end Go.Proofs.Ytoajcigegjhiaaa
