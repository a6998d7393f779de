/- The document's store: Keep. -/
import Derived.Test.YtoajcigegjhiaaaP14
import Derived.Test.YtoajcigegjhiaaaA32
namespace Go.Proofs.Ytoajcigegjhiaaa
set_option linter.unusedVariables false
set_option linter.unusedSimpArgs false
set_option maxRecDepth 100000
theorem RefI.own' {H : Heap} {ls lL : Lab} {x : AV} {sites room : Int} {L : List Ms} (h : RefI H ls lL x sites room L) : Own H x 10 (L.map Ms.cells) := by
  rcases h.own with ⟨rfl, rfl⟩ | ⟨rfl, hl⟩
  · exact .nils
  · exact .inr ⟨lL, by simp, hl⟩
theorem RefI.len {H : Heap} {ls lL : Lab} {x : AV} {sites room : Int} {L : List Ms} (h : RefI H ls lL x sites room L) {K : AV → Prop} : vLen x K = K (.int .i64 L.length) := by
  rcases h.own with ⟨rfl, rfl⟩ | ⟨rfl, hl⟩
  · exact v_len_nils
  · exact v_len_sl
theorem rkeep_sound {H : Heap} {q ls lL : Lab} {x : AV} {sites room : Int} {L : List Ms} (h : RefI H ls lL x sites room L) (hf : Fresh q 0 H) (hL : L.length ≤ 1000000) (m : Ms) (hk : m.know.length ≤ 17592186044416) (u : Chg)
    (hu : u = if keepE sites room L m = 0 then (ls, some (.rows 3 [[.int .i64 sites, .int .i64 room, .sl (47 :: q) 10 0 (L.length + 1)]])) :: (47 :: q, some (.rows 10 ((L ++ [m]).map Ms.cells))) :: (if L = [] then [] else [(lL, none)]) else []) :
    SoundRes Try.prog 17 [.ptr ls 3 0 0, .agg m.cells] H q ⟨.int .i64 (keepE sites room L m), u, some [ls, lL]⟩ := by
  have hus : ∀ l, u.has l → l = ls ∨ l = 47 :: q ∨ (l = lL ∧ L ≠ []) := fun l hl => by
    rw [hu] at hl
    split at hl
    · rcases has_cons.1 hl with rfl | hl
      · exact .inl rfl
      · rcases has_cons.1 hl with rfl | hl
        · exact .inr (.inl rfl)
        · split at hl
          · exact absurd hl (not_has_nil l)
          · rename_i hn; exact .inr (.inr ⟨has_one hl, hn⟩)
    · exact absurd hl (not_has_nil l)
  refine sound_vc Try.mixed ok17 rfl (fun l hl => ?_) ?_
  · rcases hus l hl with rfl | rfl | ⟨rfl, hn⟩
    · exact .inl (by rw [restr_at (by simp), h.s]; simp)
    · exact .inr ⟨[47], rfl⟩
    · rcases h.own with ⟨_, rfl⟩ | ⟨_, hl⟩
      · exact absurd rfl hn
      · exact .inl (by rw [restr_at (by simp), hl]; simp)
  have hR : RefI (restr H (some [ls, lL])) ls lL x sites room L := ⟨by rw [restr_at (by simp)]; exact h.s, h.own.imp id fun e => ⟨e.1, by rw [restr_at (by simp)]; exact e.2⟩, h.small, h.ne⟩
  have hf' : Fresh q 0 (restr H (some [ls, lL])) := hf.restr
  have honly : ∀ l o, restr H (some [ls, lL]) l = some o → l = ls ∨ l = lL := fun l o e => by
    have := (restr_some e).1
    simpa using this
  generalize restr H (some [ls, lL]) = G at hR hf' honly
  have hs := hR.s
  have hlen : ∀ {K : AV → Prop}, vLen x K = K (.int .i64 L.length) := hR.len
  have e1 : ∀ k, ls ≠ k :: q := fun k e => by rw [e, hf'.at (Nat.zero_le k)] at hs; cases hs
  have u1 : ∀ {k : Nat} {o : Option AO} {u : Chg} {H : Heap}, upd ((k :: q, o) :: u) H ls = upd u H ls := fun {k _ _ _} => upd_ne (e1 k)
  have e1' : ∀ k, k :: q ≠ ls := fun k => (e1 k).symm
  have keep : ∀ {l : Lab} {o : AO}, G l = some o → ∀ {k : Nat} {o : Option AO} {u : Chg} {H : Heap}, upd ((k :: q, o) :: u) H l = upd u H l := fun {l o} hl {k _ _ _} => upd_ne (fun e => by rw [e, hf'.at (Nat.zero_le k)] at hl; cases hl)
  have out : ∀ {n : Int} {H' : Heap} {c : Nat}, keepE sites room L m = n → n ≠ 0 → (∀ l o, G l = some o → H' l = some o) → VR G [.tmp 4] (.int .i64 (keepE sites room L m)) u .ret [(4, .int .i64 n)] H' c := fun {n H' c} he hn hH => by
    have hu' : u = [] := by rw [hu, if_neg (by rw [he]; exact hn)]
    subst hu'
    rw [he]
    exact ⟨.inr rfl, _, by simp [aRes, aResL, aRes1, rget], .refl _, hH⟩
  unfold Ms.cells msgCells
  simp only [params, Nat.zero_add, Nat.reduceAdd]
  by_cases hIs : m.Is
  · simp (disch := omega) only [sel_t, sel_f, sel_dt, sel_df, sel_nt, sel_nf, v_lss, v_leq, v_gtr, v_geq, v_eql, v_neq, v_add, v_sub, v_not, v_min, v_max, v_pick_t, v_pick_f, v_ext0, v_ext1, v_ext2, v_len_isl, List.length_map, v_len_nils, v_len_sl0, v_len_sl, v_ix_map, v_ix_sl, v_nil_ptr, v_nil_iptr, v_fa_ptr, v_fa_iptr, cell_0, cell_s, cell_a2, cell_a3, cell_a7, cell_a10, v_load_map, v_load_r1, v_call_fn, v_load_H, ldH_one, ldH_map, v_store_H, stH_one, upd_same, upd_cons_ne, upd_nil, v_box, v_fld, eqs_nils, eqs_sl, v_eqs_ii, v_neqs_ii, sel_andt, sel_andf, sel_nandt, sel_nandf, encI, Int.toNat_natCast, lq_e, lq_r, Bool.not_true, Bool.not_false, Bool.false_eq_true, reduceIte, decide_true, decide_false, v_build_fill, v_buildS_fill, fill_nil, fill_cons, AV.cells, putL, chunk, List.length_cons, List.length_nil, Nat.reduceAdd, Nat.reduceDiv, Nat.reduceMod, List.take_succ_cons, List.take_zero, List.take_nil, List.drop_succ_cons, List.drop_zero, List.drop_nil, List.cons_append, List.nil_append, List.append_nil, List.all_cons, List.all_nil, AV.one, Nat.reduceLeDiff, and_self, and_true, true_and, Nat.zero_add, ne_eq, Nat.succ_ne_zero, not_false_eq_true, Bool.and_self, Nat.reduceEqDiff, Nat.le_refl, res17, vt17, V17, k17_0, k17_1, k17_3, k17_4, k17_6, k17_7, k17_9, k17_10, k17_12, k17_13, k17_14, k17_11, k17_15, k17_8, k17_16, k17_17, k17_18, k17_5, k17_19, k17_2, k17_20, k17_21, u1, hs, hlen]
    refine call_pure (rcheck_pure m.site m.seq m.know m.kind m.epoch m.idt m.ids m.reft m.refs m.rune (by unfold maxLen; omega)) ?_
    have hz : errI (MsgI m.site m.seq m.know m.kind m.epoch m.idt m.ids m.reft m.refs m.rune) = 0 := (errI_yes hIs).symm
    rw [hz]
    simp (disch := omega) only [sel_t, sel_f, sel_dt, sel_df, sel_nt, sel_nf, v_lss, v_leq, v_gtr, v_geq, v_eql, v_neq, v_add, v_sub, v_not, v_min, v_max, v_pick_t, v_pick_f, v_ext0, v_ext1, v_ext2, v_len_isl, List.length_map, v_len_nils, v_len_sl0, v_len_sl, v_ix_map, v_ix_sl, v_nil_ptr, v_nil_iptr, v_fa_ptr, v_fa_iptr, cell_0, cell_s, cell_a2, cell_a3, cell_a7, cell_a10, v_load_map, v_load_r1, v_call_fn, v_load_H, ldH_one, ldH_map, v_store_H, stH_one, upd_same, upd_cons_ne, upd_nil, v_box, v_fld, eqs_nils, eqs_sl, v_eqs_ii, v_neqs_ii, sel_andt, sel_andf, sel_nandt, sel_nandf, encI, Int.toNat_natCast, lq_e, lq_r, Bool.not_true, Bool.not_false, Bool.false_eq_true, reduceIte, decide_true, decide_false, v_build_fill, v_buildS_fill, fill_nil, fill_cons, AV.cells, putL, chunk, List.length_cons, List.length_nil, Nat.reduceAdd, Nat.reduceDiv, Nat.reduceMod, List.take_succ_cons, List.take_zero, List.take_nil, List.drop_succ_cons, List.drop_zero, List.drop_nil, List.cons_append, List.nil_append, List.append_nil, List.all_cons, List.all_nil, AV.one, Nat.reduceLeDiff, and_self, and_true, true_and, Nat.zero_add, ne_eq, Nat.succ_ne_zero, not_false_eq_true, Bool.and_self, Nat.reduceEqDiff, Nat.le_refl, res17, vt17, V17, k17_0, k17_1, k17_3, k17_4, k17_6, k17_7, k17_9, k17_10, k17_12, k17_13, k17_14, k17_11, k17_15, k17_8, k17_16, k17_17, k17_18, k17_5, k17_19, k17_2, k17_20, k17_21, u1, hs, hlen]
    refine ⟨(by simp (decide := true) [clashFree, addTr, clash]), ?_⟩
    refine sel_n (fun hne => ?_) (fun heq => ?_)
    · simp (disch := omega) only [sel_t, sel_f, sel_dt, sel_df, sel_nt, sel_nf, v_lss, v_leq, v_gtr, v_geq, v_eql, v_neq, v_add, v_sub, v_not, v_min, v_max, v_pick_t, v_pick_f, v_ext0, v_ext1, v_ext2, v_len_isl, List.length_map, v_len_nils, v_len_sl0, v_len_sl, v_ix_map, v_ix_sl, v_nil_ptr, v_nil_iptr, v_fa_ptr, v_fa_iptr, cell_0, cell_s, cell_a2, cell_a3, cell_a7, cell_a10, v_load_map, v_load_r1, v_call_fn, v_load_H, ldH_one, ldH_map, v_store_H, stH_one, upd_same, upd_cons_ne, upd_nil, v_box, v_fld, eqs_nils, eqs_sl, v_eqs_ii, v_neqs_ii, sel_andt, sel_andf, sel_nandt, sel_nandf, encI, Int.toNat_natCast, lq_e, lq_r, Bool.not_true, Bool.not_false, Bool.false_eq_true, reduceIte, decide_true, decide_false, v_build_fill, v_buildS_fill, fill_nil, fill_cons, AV.cells, putL, chunk, List.length_cons, List.length_nil, Nat.reduceAdd, Nat.reduceDiv, Nat.reduceMod, List.take_succ_cons, List.take_zero, List.take_nil, List.drop_succ_cons, List.drop_zero, List.drop_nil, List.cons_append, List.nil_append, List.append_nil, List.all_cons, List.all_nil, AV.one, Nat.reduceLeDiff, and_self, and_true, true_and, Nat.zero_add, ne_eq, Nat.succ_ne_zero, not_false_eq_true, Bool.and_self, Nat.reduceEqDiff, Nat.le_refl, res17, vt17, V17, k17_0, k17_1, k17_3, k17_4, k17_6, k17_7, k17_9, k17_10, k17_12, k17_13, k17_14, k17_11, k17_15, k17_8, k17_16, k17_17, k17_18, k17_5, k17_19, k17_2, k17_20, k17_21, u1, hs, hlen]
      exact out (keepE_len hne) (by decide) (fun l o hl => by simp only [keep hl, upd_nil]; exact hl)
    · simp (disch := omega) only [sel_t, sel_f, sel_dt, sel_df, sel_nt, sel_nf, v_lss, v_leq, v_gtr, v_geq, v_eql, v_neq, v_add, v_sub, v_not, v_min, v_max, v_pick_t, v_pick_f, v_ext0, v_ext1, v_ext2, v_len_isl, List.length_map, v_len_nils, v_len_sl0, v_len_sl, v_ix_map, v_ix_sl, v_nil_ptr, v_nil_iptr, v_fa_ptr, v_fa_iptr, cell_0, cell_s, cell_a2, cell_a3, cell_a7, cell_a10, v_load_map, v_load_r1, v_call_fn, v_load_H, ldH_one, ldH_map, v_store_H, stH_one, upd_same, upd_cons_ne, upd_nil, v_box, v_fld, eqs_nils, eqs_sl, v_eqs_ii, v_neqs_ii, sel_andt, sel_andf, sel_nandt, sel_nandf, encI, Int.toNat_natCast, lq_e, lq_r, Bool.not_true, Bool.not_false, Bool.false_eq_true, reduceIte, decide_true, decide_false, v_build_fill, v_buildS_fill, fill_nil, fill_cons, AV.cells, putL, chunk, List.length_cons, List.length_nil, Nat.reduceAdd, Nat.reduceDiv, Nat.reduceMod, List.take_succ_cons, List.take_zero, List.take_nil, List.drop_succ_cons, List.drop_zero, List.drop_nil, List.cons_append, List.nil_append, List.append_nil, List.all_cons, List.all_nil, AV.one, Nat.reduceLeDiff, and_self, and_true, true_and, Nat.zero_add, ne_eq, Nat.succ_ne_zero, not_false_eq_true, Bool.and_self, Nat.reduceEqDiff, Nat.le_refl, res17, vt17, V17, k17_0, k17_1, k17_3, k17_4, k17_6, k17_7, k17_9, k17_10, k17_12, k17_13, k17_14, k17_11, k17_15, k17_8, k17_16, k17_17, k17_18, k17_5, k17_19, k17_2, k17_20, k17_21, u1, hs, hlen]
      refine call_res_gen (rget_sound (ls := ls) (lL := lL) (x := x) (L := L) (sites := sites) (room := room) ⟨by rw [u1, upd_nil]; exact hs, hR.own.imp id fun e => ⟨e.1, by rw [keep e.2, upd_nil]; exact e.2⟩, hR.small, hR.ne⟩ (Fresh.callee ?_) hL m.site m.seq) ?_ (fun H1 hH1 hF1 => ?_)
      iterate 2
        (repeat refine Fresh.upd ?_ (Nat.le_refl _) (by omega))
        exact hf'.mono (by omega)
      have hs1 : H1 ls = some (.rows 3 [[.int .i64 sites, .int .i64 room, x]]) := by rw [hH1, upd_nil, u1, upd_nil]; exact hs
      have hk1 : ∀ l o, G l = some o → H1 l = some o := fun l o e => by rw [hH1, upd_nil, keep e, upd_nil]; exact e
      have h01 : H1 (0 :: q) = some (.rows 10 [m.cells]) := by rw [hH1]; simp [upd]; rfl
      clear hH1
      cases hloc : locK Ms.key m.site m.seq L 0 with
      | some pr =>
        have hg : (gotM L m.site m.seq) = some pr.2 := by rw [gotM, hloc]; rfl
        rw [hg]
        simp (disch := omega) only [sel_t, sel_f, sel_dt, sel_df, sel_nt, sel_nf, v_lss, v_leq, v_gtr, v_geq, v_eql, v_neq, v_add, v_sub, v_not, v_min, v_max, v_pick_t, v_pick_f, v_ext0, v_ext1, v_ext2, v_len_isl, List.length_map, v_len_nils, v_len_sl0, v_len_sl, v_ix_map, v_ix_sl, v_nil_ptr, v_nil_iptr, v_fa_ptr, v_fa_iptr, cell_0, cell_s, cell_a2, cell_a3, cell_a7, cell_a10, v_load_map, v_load_r1, v_call_fn, v_load_H, ldH_one, ldH_map, v_store_H, stH_one, upd_same, upd_cons_ne, upd_nil, v_box, v_fld, eqs_nils, eqs_sl, v_eqs_ii, v_neqs_ii, sel_andt, sel_andf, sel_nandt, sel_nandf, encI, Int.toNat_natCast, lq_e, lq_r, Bool.not_true, Bool.not_false, Bool.false_eq_true, reduceIte, decide_true, decide_false, v_build_fill, v_buildS_fill, fill_nil, fill_cons, AV.cells, putL, chunk, List.length_cons, List.length_nil, Nat.reduceAdd, Nat.reduceDiv, Nat.reduceMod, List.take_succ_cons, List.take_zero, List.take_nil, List.drop_succ_cons, List.drop_zero, List.drop_nil, List.cons_append, List.nil_append, List.append_nil, List.all_cons, List.all_nil, AV.one, Nat.reduceLeDiff, and_self, and_true, true_and, Nat.zero_add, ne_eq, Nat.succ_ne_zero, not_false_eq_true, Bool.and_self, Nat.reduceEqDiff, Nat.le_refl, res17, vt17, V17, k17_0, k17_1, k17_3, k17_4, k17_6, k17_7, k17_9, k17_10, k17_12, k17_13, k17_14, k17_11, k17_15, k17_8, k17_16, k17_17, k17_18, k17_5, k17_19, k17_2, k17_20, k17_21, u1, hs, hlen, Option.isSome_some, Option.getD_some, hs1, Ms.cells, msgCells]
        exact out (keepE_has hIs heq hloc) (by decide) (fun l o hl => by simp only [keep hl, upd_nil]; exact hk1 l o hl)
      | none =>
        have hg : (gotM L m.site m.seq) = none := by rw [gotM, hloc]; rfl
        rw [hg]
        simp (disch := omega) only [sel_t, sel_f, sel_dt, sel_df, sel_nt, sel_nf, v_lss, v_leq, v_gtr, v_geq, v_eql, v_neq, v_add, v_sub, v_not, v_min, v_max, v_pick_t, v_pick_f, v_ext0, v_ext1, v_ext2, v_len_isl, List.length_map, v_len_nils, v_len_sl0, v_len_sl, v_ix_map, v_ix_sl, v_nil_ptr, v_nil_iptr, v_fa_ptr, v_fa_iptr, cell_0, cell_s, cell_a2, cell_a3, cell_a7, cell_a10, v_load_map, v_load_r1, v_call_fn, v_load_H, ldH_one, ldH_map, v_store_H, stH_one, upd_same, upd_cons_ne, upd_nil, v_box, v_fld, eqs_nils, eqs_sl, v_eqs_ii, v_neqs_ii, sel_andt, sel_andf, sel_nandt, sel_nandf, encI, Int.toNat_natCast, lq_e, lq_r, Bool.not_true, Bool.not_false, Bool.false_eq_true, reduceIte, decide_true, decide_false, v_build_fill, v_buildS_fill, fill_nil, fill_cons, AV.cells, putL, chunk, List.length_cons, List.length_nil, Nat.reduceAdd, Nat.reduceDiv, Nat.reduceMod, List.take_succ_cons, List.take_zero, List.take_nil, List.drop_succ_cons, List.drop_zero, List.drop_nil, List.cons_append, List.nil_append, List.append_nil, List.all_cons, List.all_nil, AV.one, Nat.reduceLeDiff, and_self, and_true, true_and, Nat.zero_add, ne_eq, Nat.succ_ne_zero, not_false_eq_true, Bool.and_self, Nat.reduceEqDiff, Nat.le_refl, res17, vt17, V17, k17_0, k17_1, k17_3, k17_4, k17_6, k17_7, k17_9, k17_10, k17_12, k17_13, k17_14, k17_11, k17_15, k17_8, k17_16, k17_17, k17_18, k17_5, k17_19, k17_2, k17_20, k17_21, u1, hs, hlen, Option.isSome_none, Option.getD_none, hs1, h01, Ms.zero, Ms.cells, msgCells]
        refine ⟨(by simp (decide := true) [clashFree, addTr, clash]), ?_⟩
        refine sel_d (fun hfull => ?_) (fun hok => ?_)
        · simp (disch := omega) only [sel_t, sel_f, sel_dt, sel_df, sel_nt, sel_nf, v_lss, v_leq, v_gtr, v_geq, v_eql, v_neq, v_add, v_sub, v_not, v_min, v_max, v_pick_t, v_pick_f, v_ext0, v_ext1, v_ext2, v_len_isl, List.length_map, v_len_nils, v_len_sl0, v_len_sl, v_ix_map, v_ix_sl, v_nil_ptr, v_nil_iptr, v_fa_ptr, v_fa_iptr, cell_0, cell_s, cell_a2, cell_a3, cell_a7, cell_a10, v_load_map, v_load_r1, v_call_fn, v_load_H, ldH_one, ldH_map, v_store_H, stH_one, upd_same, upd_cons_ne, upd_nil, v_box, v_fld, eqs_nils, eqs_sl, v_eqs_ii, v_neqs_ii, sel_andt, sel_andf, sel_nandt, sel_nandf, encI, Int.toNat_natCast, lq_e, lq_r, Bool.not_true, Bool.not_false, Bool.false_eq_true, reduceIte, decide_true, decide_false, v_build_fill, v_buildS_fill, fill_nil, fill_cons, AV.cells, putL, chunk, List.length_cons, List.length_nil, Nat.reduceAdd, Nat.reduceDiv, Nat.reduceMod, List.take_succ_cons, List.take_zero, List.take_nil, List.drop_succ_cons, List.drop_zero, List.drop_nil, List.cons_append, List.nil_append, List.append_nil, List.all_cons, List.all_nil, AV.one, Nat.reduceLeDiff, and_self, and_true, true_and, Nat.zero_add, ne_eq, Nat.succ_ne_zero, not_false_eq_true, Bool.and_self, Nat.reduceEqDiff, Nat.le_refl, res17, vt17, V17, k17_0, k17_1, k17_3, k17_4, k17_6, k17_7, k17_9, k17_10, k17_12, k17_13, k17_14, k17_11, k17_15, k17_8, k17_16, k17_17, k17_18, k17_5, k17_19, k17_2, k17_20, k17_21, u1, hs, hlen]
          exact out (keepE_full hIs heq hloc hfull) (by decide) (fun l o hl => by simp only [keep hl, upd_nil]; exact hk1 l o hl)
        · have h02 := h01
          unfold Ms.cells msgCells at h02
          simp (disch := omega) only [sel_t, sel_f, sel_dt, sel_df, sel_nt, sel_nf, v_lss, v_leq, v_gtr, v_geq, v_eql, v_neq, v_add, v_sub, v_not, v_min, v_max, v_pick_t, v_pick_f, v_ext0, v_ext1, v_ext2, v_len_isl, List.length_map, v_len_nils, v_len_sl0, v_len_sl, v_ix_map, v_ix_sl, v_nil_ptr, v_nil_iptr, v_fa_ptr, v_fa_iptr, cell_0, cell_s, cell_a2, cell_a3, cell_a7, cell_a10, v_load_map, v_load_r1, v_call_fn, v_load_H, ldH_one, ldH_map, v_store_H, stH_one, upd_same, upd_cons_ne, upd_nil, v_box, v_fld, eqs_nils, eqs_sl, v_eqs_ii, v_neqs_ii, sel_andt, sel_andf, sel_nandt, sel_nandf, encI, Int.toNat_natCast, lq_e, lq_r, Bool.not_true, Bool.not_false, Bool.false_eq_true, reduceIte, decide_true, decide_false, v_build_fill, v_buildS_fill, fill_nil, fill_cons, AV.cells, putL, chunk, List.length_cons, List.length_nil, Nat.reduceAdd, Nat.reduceDiv, Nat.reduceMod, List.take_succ_cons, List.take_zero, List.take_nil, List.drop_succ_cons, List.drop_zero, List.drop_nil, List.cons_append, List.nil_append, List.append_nil, List.all_cons, List.all_nil, AV.one, Nat.reduceLeDiff, and_self, and_true, true_and, Nat.zero_add, ne_eq, Nat.succ_ne_zero, not_false_eq_true, Bool.and_self, Nat.reduceEqDiff, Nat.le_refl, res17, vt17, V17, k17_0, k17_1, k17_3, k17_4, k17_6, k17_7, k17_9, k17_10, k17_12, k17_13, k17_14, k17_11, k17_15, k17_8, k17_16, k17_17, k17_18, k17_5, k17_19, k17_2, k17_20, k17_21, u1, hs, hlen, hs1, h02]
          refine call_pure (rcopy_pure m.site m.seq m.know m.kind m.epoch m.idt m.ids m.reft m.refs m.rune hk) ?_
          simp (disch := omega) only [sel_t, sel_f, sel_dt, sel_df, sel_nt, sel_nf, v_lss, v_leq, v_gtr, v_geq, v_eql, v_neq, v_add, v_sub, v_not, v_min, v_max, v_pick_t, v_pick_f, v_ext0, v_ext1, v_ext2, v_len_isl, List.length_map, v_len_nils, v_len_sl0, v_len_sl, v_ix_map, v_ix_sl, v_nil_ptr, v_nil_iptr, v_fa_ptr, v_fa_iptr, cell_0, cell_s, cell_a2, cell_a3, cell_a7, cell_a10, v_load_map, v_load_r1, v_call_fn, v_load_H, ldH_one, ldH_map, v_store_H, stH_one, upd_same, upd_cons_ne, upd_nil, v_box, v_fld, eqs_nils, eqs_sl, v_eqs_ii, v_neqs_ii, sel_andt, sel_andf, sel_nandt, sel_nandf, encI, Int.toNat_natCast, lq_e, lq_r, Bool.not_true, Bool.not_false, Bool.false_eq_true, reduceIte, decide_true, decide_false, v_build_fill, v_buildS_fill, fill_nil, fill_cons, AV.cells, putL, chunk, List.length_cons, List.length_nil, Nat.reduceAdd, Nat.reduceDiv, Nat.reduceMod, List.take_succ_cons, List.take_zero, List.take_nil, List.drop_succ_cons, List.drop_zero, List.drop_nil, List.cons_append, List.nil_append, List.append_nil, List.all_cons, List.all_nil, AV.one, Nat.reduceLeDiff, and_self, and_true, true_and, Nat.zero_add, ne_eq, Nat.succ_ne_zero, not_false_eq_true, Bool.and_self, Nat.reduceEqDiff, Nat.le_refl, res17, vt17, V17, k17_0, k17_1, k17_3, k17_4, k17_6, k17_7, k17_9, k17_10, k17_12, k17_13, k17_14, k17_11, k17_15, k17_8, k17_16, k17_17, k17_18, k17_5, k17_19, k17_2, k17_20, k17_21, u1, hs, hlen, hs1, h02, msgCells]
          rw [keepE_ok hIs heq hloc hok, if_pos rfl] at hu
          rw [keepE_ok hIs heq hloc hok]
          subst hu
          refine push_lab (rows := L.map Ms.cells) (p := q) (c := 46) ?_ ?_ (Nat.le_refl _) (by omega) (by decide) (by rw [List.length_map]; omega) (by rw [List.length_map]; omega) (fun x' H2 l2 f2 hx2 ho2 hf2 hkb => ?_)
          · rcases hR.own' with ⟨e, e'⟩ | ⟨l, e, e'⟩
            · exact .inl ⟨e, e'⟩
            · exact .inr ⟨l, e, by simp only [keep e', upd_nil]; exact hk1 _ _ e'⟩
          · (repeat refine Fresh.upd ?_ (Nat.le_refl _) (by omega))
            exact hF1.mono (by omega)
          obtain ⟨l3, h3, h4⟩ : ∃ l3, x' = .sl l3 10 0 (L.length + 1) ∧ H2 l3 = some (.rows 10 (L.map Ms.cells ++ [m.cells])) := by
            rcases ho2 with ⟨_, e⟩ | ⟨l, e, e'⟩
            · simp at e
            · exact ⟨l, by rw [e]; simp, e'⟩
          rw [hx2, List.length_map] at h3
          obtain rfl : (47 :: q : Lab) = l3 := by injection h3
          rw [List.length_map] at hx2
          subst hx2
          have hs2 : H2 ls = some (.rows 3 [[.int .i64 sites, .int .i64 room, x]]) := hkb ls _ (by simp only [u1, upd_nil]; exact hs1) (fun e n k hx => by
            rcases hR.own with ⟨hx', _⟩ | ⟨hx', h5⟩
            · rw [hx'] at hx; cases hx
            · rw [hx'] at hx; injection hx with hx _ _ _; rw [hx, hs] at h5; cases h5)
          simp (disch := omega) only [sel_t, sel_f, sel_dt, sel_df, sel_nt, sel_nf, v_lss, v_leq, v_gtr, v_geq, v_eql, v_neq, v_add, v_sub, v_not, v_min, v_max, v_pick_t, v_pick_f, v_ext0, v_ext1, v_ext2, v_len_isl, List.length_map, v_len_nils, v_len_sl0, v_len_sl, v_ix_map, v_ix_sl, v_nil_ptr, v_nil_iptr, v_fa_ptr, v_fa_iptr, cell_0, cell_s, cell_a2, cell_a3, cell_a7, cell_a10, v_load_map, v_load_r1, v_call_fn, v_load_H, ldH_one, ldH_map, v_store_H, stH_one, upd_same, upd_cons_ne, upd_nil, v_box, v_fld, eqs_nils, eqs_sl, v_eqs_ii, v_neqs_ii, sel_andt, sel_andf, sel_nandt, sel_nandf, encI, Int.toNat_natCast, lq_e, lq_r, Bool.not_true, Bool.not_false, Bool.false_eq_true, reduceIte, decide_true, decide_false, v_build_fill, v_buildS_fill, fill_nil, fill_cons, AV.cells, putL, chunk, List.length_cons, List.length_nil, Nat.reduceAdd, Nat.reduceDiv, Nat.reduceMod, List.take_succ_cons, List.take_zero, List.take_nil, List.drop_succ_cons, List.drop_zero, List.drop_nil, List.cons_append, List.nil_append, List.append_nil, List.all_cons, List.all_nil, AV.one, Nat.reduceLeDiff, and_self, and_true, true_and, Nat.zero_add, ne_eq, Nat.succ_ne_zero, not_false_eq_true, Bool.and_self, Nat.reduceEqDiff, Nat.le_refl, res17, vt17, V17, k17_0, k17_1, k17_3, k17_4, k17_6, k17_7, k17_9, k17_10, k17_12, k17_13, k17_14, k17_11, k17_15, k17_8, k17_16, k17_17, k17_18, k17_5, k17_19, k17_2, k17_20, k17_21, u1, hs, hlen, hs2]
          refine ⟨(by (repeat' (first | exact cf_nil | exact allp_nil | refine cf_add ?_ ?_ | refine allp_add ?_ ?_)); all_goals (first | exact Or.inl rfl | exact Or.inl (by decide) | refine Or.inr ⟨by simp (decide := true) [clash, e1, e1'], by simp (decide := true) [clash, e1, e1']⟩)), ?_⟩
          refine ⟨.inr rfl, _, by simp [aRes, aResL, aRes1, rget], .refl _, fun l o hl => ?_⟩
          rcases Classical.em (l = ls) with rfl | hne
          · simp only [upd_same] at hl ⊢; exact hl
          · rw [upd_ne hne] at hl ⊢
            rcases Classical.em (l = 47 :: q) with rfl | hne2
            · simp only [upd_same] at hl
              rw [upd_nil, h4, ← hl]; simp
            · rw [upd_ne hne2] at hl
              rw [upd_nil]
              by_cases hL0 : L = []
              · rw [if_pos hL0, upd_nil] at hl
                refine hkb l o (by simp only [keep hl, upd_nil]; exact hk1 l o hl) (fun e n k hx => ?_)
                rcases hR.own with ⟨hx', _⟩ | ⟨hx', h5⟩
                · rw [hx'] at hx; cases hx
                · rw [hR.ne hL0] at hx'; cases hx'
              · rw [if_neg hL0] at hl
                exfalso
                rcases Classical.em (l = lL) with rfl | hne3
                · rw [upd_same] at hl; cases hl
                · rw [upd_ne hne3, upd_nil] at hl
                  rcases honly l o hl with e | e
                  · exact hne e
                  · exact hne3 e
  · simp (disch := omega) only [sel_t, sel_f, sel_dt, sel_df, sel_nt, sel_nf, v_lss, v_leq, v_gtr, v_geq, v_eql, v_neq, v_add, v_sub, v_not, v_min, v_max, v_pick_t, v_pick_f, v_ext0, v_ext1, v_ext2, v_len_isl, List.length_map, v_len_nils, v_len_sl0, v_len_sl, v_ix_map, v_ix_sl, v_nil_ptr, v_nil_iptr, v_fa_ptr, v_fa_iptr, cell_0, cell_s, cell_a2, cell_a3, cell_a7, cell_a10, v_load_map, v_load_r1, v_call_fn, v_load_H, ldH_one, ldH_map, v_store_H, stH_one, upd_same, upd_cons_ne, upd_nil, v_box, v_fld, eqs_nils, eqs_sl, v_eqs_ii, v_neqs_ii, sel_andt, sel_andf, sel_nandt, sel_nandf, encI, Int.toNat_natCast, lq_e, lq_r, Bool.not_true, Bool.not_false, Bool.false_eq_true, reduceIte, decide_true, decide_false, v_build_fill, v_buildS_fill, fill_nil, fill_cons, AV.cells, putL, chunk, List.length_cons, List.length_nil, Nat.reduceAdd, Nat.reduceDiv, Nat.reduceMod, List.take_succ_cons, List.take_zero, List.take_nil, List.drop_succ_cons, List.drop_zero, List.drop_nil, List.cons_append, List.nil_append, List.append_nil, List.all_cons, List.all_nil, AV.one, Nat.reduceLeDiff, and_self, and_true, true_and, Nat.zero_add, ne_eq, Nat.succ_ne_zero, not_false_eq_true, Bool.and_self, Nat.reduceEqDiff, Nat.le_refl, res17, vt17, V17, k17_0, k17_1, k17_3, k17_4, k17_6, k17_7, k17_9, k17_10, k17_12, k17_13, k17_14, k17_11, k17_15, k17_8, k17_16, k17_17, k17_18, k17_5, k17_19, k17_2, k17_20, k17_21, u1, hs, hlen]
    refine call_pure (rcheck_pure m.site m.seq m.know m.kind m.epoch m.idt m.ids m.reft m.refs m.rune (by unfold maxLen; omega)) ?_
    have hz : errI (MsgI m.site m.seq m.know m.kind m.epoch m.idt m.ids m.reft m.refs m.rune) = 1 := (errI_no hIs).symm
    rw [hz]
    simp (disch := omega) only [sel_t, sel_f, sel_dt, sel_df, sel_nt, sel_nf, v_lss, v_leq, v_gtr, v_geq, v_eql, v_neq, v_add, v_sub, v_not, v_min, v_max, v_pick_t, v_pick_f, v_ext0, v_ext1, v_ext2, v_len_isl, List.length_map, v_len_nils, v_len_sl0, v_len_sl, v_ix_map, v_ix_sl, v_nil_ptr, v_nil_iptr, v_fa_ptr, v_fa_iptr, cell_0, cell_s, cell_a2, cell_a3, cell_a7, cell_a10, v_load_map, v_load_r1, v_call_fn, v_load_H, ldH_one, ldH_map, v_store_H, stH_one, upd_same, upd_cons_ne, upd_nil, v_box, v_fld, eqs_nils, eqs_sl, v_eqs_ii, v_neqs_ii, sel_andt, sel_andf, sel_nandt, sel_nandf, encI, Int.toNat_natCast, lq_e, lq_r, Bool.not_true, Bool.not_false, Bool.false_eq_true, reduceIte, decide_true, decide_false, v_build_fill, v_buildS_fill, fill_nil, fill_cons, AV.cells, putL, chunk, List.length_cons, List.length_nil, Nat.reduceAdd, Nat.reduceDiv, Nat.reduceMod, List.take_succ_cons, List.take_zero, List.take_nil, List.drop_succ_cons, List.drop_zero, List.drop_nil, List.cons_append, List.nil_append, List.append_nil, List.all_cons, List.all_nil, AV.one, Nat.reduceLeDiff, and_self, and_true, true_and, Nat.zero_add, ne_eq, Nat.succ_ne_zero, not_false_eq_true, Bool.and_self, Nat.reduceEqDiff, Nat.le_refl, res17, vt17, V17, k17_0, k17_1, k17_3, k17_4, k17_6, k17_7, k17_9, k17_10, k17_12, k17_13, k17_14, k17_11, k17_15, k17_8, k17_16, k17_17, k17_18, k17_5, k17_19, k17_2, k17_20, k17_21, u1, hs, hlen]
    refine ⟨(by simp (decide := true) [clashFree, addTr, clash]), ?_⟩
    exact out (keepE_no hIs) (by decide) (fun l o hl => by simp only [keep hl, upd_nil]; exact hl)
end Go.Proofs.Ytoajcigegjhiaaa
