/- Joined texts. -/
import Derived.Test.YtbngfbpegdcpkaaE11
import Derived.Test.YtbngfbpegdcpkaaE1
import Derived.Test.YtbngfbpegdcpkaaA23i
import Derived.Test.YtbngfbpegdcpkaaA28
namespace Go.Proofs.Ytbngfbpegdcpkaa
set_option linter.unusedVariables false
set_option linter.unusedSimpArgs false
set_option maxRecDepth 100000
/-! The laws of layer 18: are two lists the same; is a state small; a key. -/
section
theorem same_pure (a b : List Int) (ha : a.length ≤ 1000000000) : Pure Try.prog 21 [il a, il b] (.bool (decide (a = b))) := by
  refine pure_vc Try.mixed ok21 rfl (fun q => ?_)
  simp only [params, Nat.zero_add, Nat.reduceAdd]
  repeat' (first | (simp (disch := omega) only [sel_t, sel_f, sel_dt, sel_df, sel_nt, sel_nf, v_lss, v_leq, v_gtr, v_geq, v_eql, v_neq, v_add, v_sub, v_not, v_min, v_max, v_pick_t, v_pick_f, v_ext0, v_ext1, v_ext2, v_len_isl, List.length_map, v_len_nils, v_len_sl0, v_len_sl, v_ix_map, v_ix_sl, v_nil_ptr, v_nil_iptr, v_fa_ptr, v_fa_iptr, cell_0, cell_s, cell_a2, cell_a3, cell_a7, cell_a10, v_load_map, v_load_r1, v_call_fn, v_call_fnS, v_load_H, ldH_one, ldH_map, v_store_H, stH_one, upd_same, upd_cons_ne, upd_nil, v_box, v_fld, eqs_nils, eqs_sl, v_eqs_ii, v_neqs_ii, sel_andt, sel_andf, sel_nandt, sel_nandf, encI, Int.toNat_natCast, lq_e, lq_r, Bool.not_true, Bool.not_false, Bool.false_eq_true, reduceIte, decide_true, decide_false, v_build_fill, v_buildS_fill, fill_nil, fill_cons, AV.cells, putL, chunk, List.length_cons, List.length_nil, Nat.reduceAdd, Nat.reduceDiv, Nat.reduceMod, List.take_succ_cons, List.take_zero, List.take_nil, List.drop_succ_cons, List.drop_zero, List.drop_nil, List.cons_append, List.nil_append, List.append_nil, List.all_cons, List.all_nil, AV.one, Nat.reduceLeDiff, and_self, and_true, true_and, Nat.zero_add, ne_eq, Nat.succ_ne_zero, not_false_eq_true, Bool.and_self, Nat.reduceEqDiff, Nat.le_refl, res21, q21_0_ret, q21_0_e0, vt21, vt21_1, vt21_2, V21, V21_1, V21_2, k21_0, k21_1, k21_2, k21_3, k21_5, k21_6, k21_7, k21_8, k21_4, k21_9]) | (refine sel_d (fun _ => ?_) (fun _ => ?_)) | (refine sel_n (fun _ => ?_) (fun _ => ?_)) | (refine sel_and (fun _ => ?_) (fun _ => ?_)) | (refine sel_nand (fun _ => ?_) (fun _ => ?_)) | (refine And.intro (clash_quiet rfl) ?_) | (refine eqs_isl (fun _ => ?_) ?_) | (exfalso; omega; done))
  · rename_i hlen
    refine vp1 (congrArg AV.bool ?_)
    have : a ≠ b := fun e => hlen (by rw [e])
    simp [this]
  · rename_i hlen
    refine vloop (fun n r H c => ∃ i : Nat, r = [(0, il a), (1, il b), (5, .int .i64 i)] ∧ H = (fun _ => none) ∧ i ≤ a.length ∧ n = a.length - i ∧ ∀ k, k < i → nth a k = nth b k) a.length ⟨0, rfl, rfl, by omega, rfl, fun k hk => by omega⟩ ?_
    rintro n r H c ⟨i, rfl, rfl, hi, rfl, hk⟩
    repeat' (first | (simp (disch := omega) only [sel_t, sel_f, sel_dt, sel_df, sel_nt, sel_nf, v_lss, v_leq, v_gtr, v_geq, v_eql, v_neq, v_add, v_sub, v_not, v_min, v_max, v_pick_t, v_pick_f, v_ext0, v_ext1, v_ext2, v_len_isl, List.length_map, v_len_nils, v_len_sl0, v_len_sl, v_ix_map, v_ix_sl, v_nil_ptr, v_nil_iptr, v_fa_ptr, v_fa_iptr, cell_0, cell_s, cell_a2, cell_a3, cell_a7, cell_a10, v_load_map, v_load_r1, v_call_fn, v_call_fnS, v_load_H, ldH_one, ldH_map, v_store_H, stH_one, upd_same, upd_cons_ne, upd_nil, v_box, v_fld, eqs_nils, eqs_sl, v_eqs_ii, v_neqs_ii, sel_andt, sel_andf, sel_nandt, sel_nandf, encI, Int.toNat_natCast, lq_e, lq_r, Bool.not_true, Bool.not_false, Bool.false_eq_true, reduceIte, decide_true, decide_false, v_build_fill, v_buildS_fill, fill_nil, fill_cons, AV.cells, putL, chunk, List.length_cons, List.length_nil, Nat.reduceAdd, Nat.reduceDiv, Nat.reduceMod, List.take_succ_cons, List.take_zero, List.take_nil, List.drop_succ_cons, List.drop_zero, List.drop_nil, List.cons_append, List.nil_append, List.append_nil, List.all_cons, List.all_nil, AV.one, Nat.reduceLeDiff, and_self, and_true, true_and, Nat.zero_add, ne_eq, Nat.succ_ne_zero, not_false_eq_true, Bool.and_self, Nat.reduceEqDiff, Nat.le_refl, res21, q21_0_ret, q21_0_e0, vt21, vt21_1, vt21_2, V21, V21_1, V21_2, k21_0, k21_1, k21_2, k21_3, k21_5, k21_6, k21_7, k21_8, k21_4, k21_9]) | (refine sel_d (fun _ => ?_) (fun _ => ?_)) | (refine sel_n (fun _ => ?_) (fun _ => ?_)) | (refine sel_and (fun _ => ?_) (fun _ => ?_)) | (refine sel_nand (fun _ => ?_) (fun _ => ?_)) | (refine And.intro (clash_quiet rfl) ?_) | (refine eqs_isl (fun _ => ?_) ?_) | (exfalso; omega; done))
    · rename_i h1 h2
      refine vp1 (congrArg AV.bool ?_)
      have : a ≠ b := fun e => by rw [e] at h2; exact h2 rfl
      simp [this]
    · rename_i h1 h2
      refine lq_n (a.length - (i + 1)) (by omega) ⟨i + 1, rfl, rfl, by omega, rfl, fun k hk' => ?_⟩
      rcases Nat.lt_or_ge k i with h3 | h3
      · exact hk k h3
      · rw [show k = i by omega]; exact h2
    · have : a = b := nth_ext (by omega) (fun k hkl => hk k (by omega))
      subst this
      exact vp1 (by simp)
theorem same_refl (a : List Int) (ha : a.length ≤ 1000000000) : Pure Try.prog 21 [il a, il a] (.bool true) := by
  have h := same_pure a a ha
  rwa [decide_eq_true rfl] at h
def fewB (l kl : List Int) : Bool := decide (l.length ≤ 1100) && decide (kl.length ≤ 1100)
theorem few_pure (l kl : List Int) (a : Int) : Pure Try.prog 10 [.agg [il l, .int .i64 a, il kl]] (.bool (fewB l kl)) := by
  refine pure_vc Try.mixed ok10 rfl (fun q => ?_)
  simp only [params, Nat.zero_add, Nat.reduceAdd]
  repeat' (first | (simp (disch := omega) only [sel_t, sel_f, sel_dt, sel_df, sel_nt, sel_nf, v_lss, v_leq, v_gtr, v_geq, v_eql, v_neq, v_add, v_sub, v_not, v_min, v_max, v_pick_t, v_pick_f, v_ext0, v_ext1, v_ext2, v_len_isl, List.length_map, v_len_nils, v_len_sl0, v_len_sl, v_ix_map, v_ix_sl, v_nil_ptr, v_nil_iptr, v_fa_ptr, v_fa_iptr, cell_0, cell_s, cell_a2, cell_a3, cell_a7, cell_a10, v_load_map, v_load_r1, v_call_fn, v_call_fnS, v_load_H, ldH_one, ldH_map, v_store_H, stH_one, upd_same, upd_cons_ne, upd_nil, v_box, v_fld, eqs_nils, eqs_sl, v_eqs_ii, v_neqs_ii, sel_andt, sel_andf, sel_nandt, sel_nandf, encI, Int.toNat_natCast, lq_e, lq_r, Bool.not_true, Bool.not_false, Bool.false_eq_true, reduceIte, decide_true, decide_false, v_build_fill, v_buildS_fill, fill_nil, fill_cons, AV.cells, putL, chunk, List.length_cons, List.length_nil, Nat.reduceAdd, Nat.reduceDiv, Nat.reduceMod, List.take_succ_cons, List.take_zero, List.take_nil, List.drop_succ_cons, List.drop_zero, List.drop_nil, List.cons_append, List.nil_append, List.append_nil, List.all_cons, List.all_nil, AV.one, Nat.reduceLeDiff, and_self, and_true, true_and, Nat.zero_add, ne_eq, Nat.succ_ne_zero, not_false_eq_true, Bool.and_self, Nat.reduceEqDiff, Nat.le_refl, res10, vt10, V10, k10_0, k10_1, k10_2, k10_3]) | (refine sel_d (fun _ => ?_) (fun _ => ?_)) | (refine sel_n (fun _ => ?_) (fun _ => ?_)) | (refine sel_and (fun _ => ?_) (fun _ => ?_)) | (refine sel_nand (fun _ => ?_) (fun _ => ?_)) | (refine And.intro (clash_quiet rfl) ?_) | (refine eqs_isl (fun _ => ?_) ?_) | (exfalso; omega; done))
  · refine vp1 (congrArg AV.bool ?_)
    rename_i h
    have h' : l.length ≤ 1100 := by omega
    simp [fewB, h']
    omega
  · refine vp1 (congrArg AV.bool ?_)
    rename_i h
    have h' : ¬ l.length ≤ 1100 := by omega
    simp [fewB, h']
theorem key_pure (k r : Int) : Pure Try.prog 13 [.agg [.int .i64 k, .int .i64 r]] (.agg [.int .i64 k, .int .i64 r]) := by
  refine pure_vc Try.mixed ok13 rfl (fun q => ?_)
  simp only [params, Nat.zero_add, Nat.reduceAdd]
  repeat' (first | (simp (disch := omega) only [sel_t, sel_f, sel_dt, sel_df, sel_nt, sel_nf, v_lss, v_leq, v_gtr, v_geq, v_eql, v_neq, v_add, v_sub, v_not, v_min, v_max, v_pick_t, v_pick_f, v_ext0, v_ext1, v_ext2, v_len_isl, List.length_map, v_len_nils, v_len_sl0, v_len_sl, v_ix_map, v_ix_sl, v_nil_ptr, v_nil_iptr, v_fa_ptr, v_fa_iptr, cell_0, cell_s, cell_a2, cell_a3, cell_a7, cell_a10, v_load_map, v_load_r1, v_call_fn, v_call_fnS, v_load_H, ldH_one, ldH_map, v_store_H, stH_one, upd_same, upd_cons_ne, upd_nil, v_box, v_fld, eqs_nils, eqs_sl, v_eqs_ii, v_neqs_ii, sel_andt, sel_andf, sel_nandt, sel_nandf, encI, Int.toNat_natCast, lq_e, lq_r, Bool.not_true, Bool.not_false, Bool.false_eq_true, reduceIte, decide_true, decide_false, v_build_fill, v_buildS_fill, fill_nil, fill_cons, AV.cells, putL, chunk, List.length_cons, List.length_nil, Nat.reduceAdd, Nat.reduceDiv, Nat.reduceMod, List.take_succ_cons, List.take_zero, List.take_nil, List.drop_succ_cons, List.drop_zero, List.drop_nil, List.cons_append, List.nil_append, List.append_nil, List.all_cons, List.all_nil, AV.one, Nat.reduceLeDiff, and_self, and_true, true_and, Nat.zero_add, ne_eq, Nat.succ_ne_zero, not_false_eq_true, Bool.and_self, Nat.reduceEqDiff, Nat.le_refl, res13, vt13, V13]) | (refine sel_d (fun _ => ?_) (fun _ => ?_)) | (refine sel_n (fun _ => ?_) (fun _ => ?_)) | (refine sel_and (fun _ => ?_) (fun _ => ?_)) | (refine sel_nand (fun _ => ?_) (fun _ => ?_)) | (refine And.intro (clash_quiet rfl) ?_) | (refine eqs_isl (fun _ => ?_) ?_) | (exfalso; omega; done))
  exact vpc1 upd_same rfl (.refl _)
theorem ldH_at {n e j i : Nat} {g : Bool} {rows : List (List AV)} {r : List AV} {l : Lab} {KL : AV → Option (List Lab) → Prop} (h : rows[i]? = some r) : vLdH n g (some (.rows e rows)) l e i j KL = vCell n g r j fun x => KL x (some [l]) := by simp [vLdH, h]
theorem fr_none {Z : Lab → Prop} {H : Heap} {x y : AV} : Fr Z H (.agg [x, y, .nils]) (.agg [x, y, il []]) := Fr.agg3 (.refl _) (.refl _) (.nils 1)
theorem doR_mk {l kl : List Int} {p : Nat} {A : List (Int × Int × Int)} : doR ⟨l, p, kl, A⟩ = .tuple [.agg [il l, .int .i64 p, il kl], .isl 3 (A.map encA)] := rfl
theorem do_left (l kl : List Int) (a : Int) : doS l a kl 7 0 = ⟨l, heldN l.length (heldN l.length a - 1), kl, []⟩ := rfl
theorem do_right (l kl : List Int) (a : Int) : doS l a kl 6 0 = ⟨l, heldN l.length (heldN l.length a + 1), kl, []⟩ := rfl
theorem do_home (l kl : List Int) (a : Int) : doS l a kl 8 0 = ⟨l, 0, kl, []⟩ := rfl
theorem do_endk (l kl : List Int) (a : Int) : doS l a kl 9 0 = ⟨l, l.length, kl, []⟩ := rfl
theorem do_wback (l kl : List Int) (a : Int) : doS l a kl 3 98 = ⟨l, (wordBack l (heldN l.length (heldN l.length a : Nat))).toNat, kl, []⟩ := rfl
theorem do_won (l kl : List Int) (a : Int) : doS l a kl 3 102 = ⟨l, wordOn l (heldN l.length (heldN l.length a : Nat)), kl, []⟩ := rfl
end
/-! The shapes of a state and of a key. -/
section
theorem bool_shape {n : Nat} {xs : List AV} (h : shapeOf Try.prog (n + 1) 4 xs) : ∃ b, xs = [.bool b] := by
  simp only [shapeOf, Try.underlying4] at h
  exact h
theorem state_shape {n : Nat} {xs : List AV} (h : shapeOf Try.prog (n + 3) 24 xs) : ∃ l a kl, xs = [.isl 1 (intRows l), .int .i64 a, .isl 1 (intRows kl)] ∧ I64 a := by
  unfold shapeOf at h
  simp only [Try.underlying24, shapeFs] at h
  obtain ⟨a, x, rfl, _, h1, b, y, rfl, _, h2, c, z, rfl, _, h3, rfl⟩ := h
  obtain ⟨k, l, rfl, g1⟩ := ints_shape h1
  obtain ⟨i, rfl, g2⟩ := int_shape h2
  obtain ⟨k2, l2, rfl, g3⟩ := ints_shape h3
  cases g1
  cases g3
  exact ⟨_, i, _, rfl, g2⟩
theorem key_shape {n : Nat} {xs : List AV} (h : shapeOf Try.prog (n + 2) 26 xs) : ∃ k r, xs = [.int .i64 k, .int .i64 r] ∧ I64 k ∧ I64 r := by
  unfold shapeOf at h
  simp only [Try.underlying26, shapeFs] at h
  obtain ⟨a, x, rfl, _, h1, b, y, rfl, _, h2, rfl⟩ := h
  obtain ⟨i, rfl, hi⟩ := int_shape h1
  obtain ⟨j, rfl, hj⟩ := int_shape h2
  exact ⟨i, j, rfl, hi, hj⟩
theorem il_intRows {l : List Int} : AV.isl 1 (intRows l) = il l := rfl
theorem par_state {x y z : AV} : parOf Try.prog 24 [x, y, z] = .agg [x, y, z] := by simp [parOf, Try.underlying24]
theorem par_key {x y : AV} : parOf Try.prog 26 [x, y] = .agg [x, y] := by simp [parOf, Try.underlying26]
theorem par_int {x : AV} : parOf Try.prog 3 [x] = x := by simp [parOf, Try.underlying3]
theorem par_ints {x : AV} : parOf Try.prog 22 [x] = x := by simp [parOf, Try.underlying22]
end
/-- onto one's own, what another row holds; the labels to come stay free -/
theorem app_own_f {H : Heap} {p : Lab} {KK : KF} {x y : AV} {e b c k : Nat} {rows src : List (List AV)} {ls : List Lab} (h : Own H x e rows) (hs : aRows e y H = some (src, ls)) (hf : Fresh p c H) (hc : c ≤ k) (he : 0 < e) (h1 : (rows.length + src.length) * b ≤ 140737488355328) (h2 : rows.length + src.length ≤ 4611686018427387904)
    (hk : ∀ x' H' l f, Own H' x' e (rows ++ src) → Fresh p (k + 1) H' → KeepBut x H H' → KK x' H' l f) : vGen (.append e b) [x, y] H (k :: p) KK := by
  have hq : H (k :: p) = none := hf.at hc
  have hfn : ∀ o, Fresh p (k + 1) (upd [(k :: p, o)] H) := fun o j s hj => by
    simp only [Ytbngfbpegdcpkaa.upd, if_neg (app_ne (p := p) (s := s) (show j ≠ k by omega))]
    exact hf j s (by omega)
  by_cases hne : src = []
  · subst hne
    refine ⟨.pure x, ?_, hk x H [] (some []) (by simpa using h) (hf.mono (by omega)) (fun k o hk _ => hk)⟩
    rcases h with ⟨rfl, rfl⟩ | ⟨l, rfl, hl⟩ <;> simp [aop, aAppend, hs]
  · have hn : src.isEmpty = false := by cases src <;> simp at hne ⊢
    rcases h with ⟨rfl, rfl⟩ | ⟨l, rfl, hl⟩
    · refine ⟨⟨.sl (k :: p) e 0 src.length, [(k :: p, some (.rows e src))], some ls⟩, ?_, hk _ _ _ _ (.inr ⟨k :: p, by simp, by simp [upd]⟩) (hfn _) (fun j o hk' _ => ?_)⟩
      · simp only [List.length_nil, Nat.zero_add] at h1 h2
        simp [aop, aAppend, hs, hn, he, h1, h2]
        exact fun h => absurd h hne
      · simp only [upd]
        rw [if_neg (fun e => by rw [e, hq] at hk'; cases hk')]; exact hk'
    · refine ⟨⟨.sl (k :: p) e 0 (rows.length + src.length), [(k :: p, some (.rows e (rows ++ src))), (l, none)], some (l :: ls)⟩, ?_, hk _ _ _ _ (.inr ⟨k :: p, by simp, by simp [upd]⟩) (fun j s hj => ?_) (fun j o hk' hx => ?_)⟩
      · simp [aop, aAppend, hs, hn, hl, he, h1, h2]
        exact fun h => absurd h hne
      · simp only [upd, if_neg (app_ne (p := p) (s := s) (show j ≠ k by omega))]
        rw [hf j s (by omega)]; split <;> rfl
      · simp only [upd]
        rw [if_neg (fun e => by rw [e, hq] at hk'; cases hk'), if_neg (fun e' => hx e 0 rows.length (by rw [e']))]; exact hk'
end Go.Proofs.Ytbngfbpegdcpkaa
