/- A store of messages: Drop. -/
import Derived.Test.YtoajcigegjhiaaaP11
namespace Go.Proofs.Ytoajcigegjhiaaa
set_option linter.unusedVariables false
set_option linter.unusedSimpArgs false
set_option maxRecDepth 100000
theorem erase_filter {α β : Type} [DecidableEq β] {f : α → β} : ∀ {l : List α} {i : Nat} {x : α}, (l.map f).Nodup → l[i]? = some x → l.eraseIdx i = l.filter fun y => decide (f y ≠ f x)
  | [], _, _, _, h => by simp at h
  | a :: l, 0, x, hn, h => by
    obtain rfl : a = x := by simpa using h
    rw [List.map_cons, List.nodup_cons] at hn
    rw [List.eraseIdx_cons_zero, List.filter_cons_of_neg (by simp)]
    symm
    refine List.filter_eq_self.2 fun y hy => ?_
    simp only [decide_eq_true_eq]
    exact fun e => hn.1 (e ▸ List.mem_map_of_mem hy)
  | a :: l, i + 1, x, hn, h => by
    rw [List.map_cons, List.nodup_cons] at hn
    have h' : l[i]? = some x := by simpa using h
    rw [List.eraseIdx_cons_succ, erase_filter hn.2 h', List.filter_cons_of_pos]
    simp only [decide_eq_true_eq]
    exact fun e => hn.1 (e ▸ List.mem_map_of_mem (List.mem_of_getElem? h'))
theorem nodup_at {α β : Type} {f : α → β} {l : List α} (hn : (l.map f).Nodup) {i j : Nat} {x y : α} (hi : l[i]? = some x) (hj : l[j]? = some y) (he : f x = f y) : i = j := by
  have h1 : (l.map f)[i]? = some (f x) := by rw [List.getElem?_map, hi]; rfl
  have h2 : (l.map f)[j]? = some (f x) := by rw [List.getElem?_map, hj, he]; rfl
  obtain ⟨h3, h4⟩ := List.getElem?_eq_some_iff.1 h1
  obtain ⟨h5, h6⟩ := List.getElem?_eq_some_iff.1 h2
  have h7 := h4.trans h6.symm
  rcases Nat.lt_trichotomy i j with hlt | heq | hgt
  · exact absurd h7 (List.pairwise_iff_getElem.1 hn i j h3 h5 hlt)
  · exact heq
  · exact absurd h7.symm (List.pairwise_iff_getElem.1 hn j i h5 h3 hgt)
theorem filter_lt {α : Type} {p p' : α → Bool} (hp : ∀ x, p' x = true → p x = true) : ∀ {l : List α} {x : α}, x ∈ l → p x = true → p' x = false → (l.filter p').length < (l.filter p).length
  | [], _, h, _, _ => by simp at h
  | a :: l, x, h, h1, h2 => by
    have hle : ∀ l : List α, (l.filter p').length ≤ (l.filter p).length := fun l => by
      induction l with
      | nil => simp
      | cons b l ih =>
        by_cases hb : p' b = true
        · rw [List.filter_cons_of_pos hb, List.filter_cons_of_pos (hp b hb)]; simpa using ih
        · rw [List.filter_cons_of_neg hb]
          refine Nat.le_trans ih ?_
          by_cases hb' : p b = true
          · rw [List.filter_cons_of_pos hb']; simp
          · rw [List.filter_cons_of_neg hb']; exact Nat.le_refl _
    rcases List.mem_cons.1 h with rfl | h
    · rw [List.filter_cons_of_pos h1, List.filter_cons_of_neg (by simp [h2])]
      exact Nat.lt_succ_of_le (hle l)
    · have ih := filter_lt hp h h1 h2
      by_cases hb : p' a = true
      · rw [List.filter_cons_of_pos hb, List.filter_cons_of_pos (hp a hb)]; simpa using ih
      · rw [List.filter_cons_of_neg hb]
        refine Nat.lt_of_lt_of_le ih ?_
        by_cases hb' : p a = true
        · rw [List.filter_cons_of_pos hb']; simp
        · rw [List.filter_cons_of_neg hb']; exact Nat.le_refl _
/-- a store's memory, its messages with their births -/
structure StoreP (H : Heap) (ls lM : Lab) (sites room : Int) (P : List (Ms × Nat)) (ck : Nat) : Prop where
  s : H ls = some (.rows 3 [[.int .i64 sites, .int .i64 room, .map lM]])
  m : H lM = some (.amap ((P.map (·.1)).map (encKV Ms.key Ms.enc)) (P.map (·.2)) ck)
  small : ∀ p ∈ P, p.1.know.length ≤ 17592186044416
  nd : (P.map (·.1.key)).Nodup
  bd : (P.map (·.2)).Nodup
  lt : ∀ p ∈ P, p.2 < ck
theorem StoreP.i {H : Heap} {ls lM : Lab} {sites room : Int} {P : List (Ms × Nat)} {ck : Nat} (h : StoreP H ls lM sites room P ck) : StoreI H ls lM sites room (P.map (·.1)) (P.map (·.2)) ck :=
  ⟨h.s, h.m, fun m hm => by obtain ⟨p, hp, rfl⟩ := List.mem_map.1 hm; exact h.small p hp⟩
theorem left_map {P : List (Ms × Nat)} {seen : List Nat} : aLeft ((P.map (·.1)).map (encKV Ms.key Ms.enc)) (P.map (·.2)) seen = (P.filter fun p => !seen.contains p.2).map fun p => (encKV Ms.key Ms.enc p.1, p.2) := by
  unfold aLeft
  rw [List.map_map, List.zip_map']
  rw [List.filter_map]
  rfl
theorem idx_of {P : List (Ms × Nat)} (hb : (P.map (·.2)).Nodup) {p : Ms × Nat} (hp : p ∈ P) : ∃ i : Nat, (P.map (·.2)).idxOf? p.2 = some i ∧ P[i]? = some p := by
  cases h : (P.map (·.2)).idxOf? p.2 with
  | none => exact absurd (List.mem_map_of_mem (f := (·.2)) hp) (List.idxOf?_eq_none_iff.1 h)
  | some i =>
    refine ⟨i, rfl, ?_⟩
    have h1 := List.findIdx?_eq_some_iff_getElem.1 (show (P.map (·.2)).findIdx? (· == p.2) = some i from h)
    obtain ⟨hi, h2, _⟩ := h1
    obtain ⟨j, hj⟩ := List.mem_iff_getElem?.1 hp
    have hi' : i < P.length := by simpa using hi
    have h3 : P[i]? = some P[i] := List.getElem?_eq_getElem hi'
    have h4 : P[i].2 = p.2 := by simpa using h2
    have := nodup_at hb h3 hj h4
    rw [this]; exact hj
def leftP (v : List Int) (seen : List Nat) (P : List (Ms × Nat)) : List (Ms × Nat) := P.filter fun p => !(covB v p.1.site p.1.seq && seen.contains p.2)
def dropP (v : List Int) (P : List (Ms × Nat)) : List (Ms × Nat) := P.filter fun p => !covB v p.1.site p.1.seq
theorem leftP_sub {v : List Int} {seen : List Nat} {P : List (Ms × Nat)} : (leftP v seen P).Sublist P := List.filter_sublist
theorem step_no {v : List Int} {seen : List Nat} {P : List (Ms × Nat)} (hb : (P.map (·.2)).Nodup) {p : Ms × Nat} (hp : p ∈ P) (hc : covB v p.1.site p.1.seq = false) : leftP v (seen ++ [p.2]) P = leftP v seen P := by
  unfold leftP
  refine List.filter_congr fun x hx => ?_
  by_cases he : x.2 = p.2
  · obtain ⟨i, hi⟩ := List.mem_iff_getElem?.1 hx
    obtain ⟨j, hj⟩ := List.mem_iff_getElem?.1 hp
    obtain rfl := nodup_at hb hi hj he
    obtain rfl : x = p := by rw [hi] at hj; exact Option.some.inj hj
    simp [hc]
  · have : (seen ++ [p.2]).contains x.2 = seen.contains x.2 := by simp [he]
    rw [this]
theorem step_yes {v : List Int} {seen : List Nat} {P : List (Ms × Nat)} (hb : (P.map (·.2)).Nodup) {p : Ms × Nat} (hp : p ∈ P) (hc : covB v p.1.site p.1.seq = true) : leftP v (seen ++ [p.2]) P = (leftP v seen P).filter fun y => decide (y.2 ≠ p.2) := by
  unfold leftP
  rw [List.filter_filter]
  refine List.filter_congr fun x hx => ?_
  by_cases he : x.2 = p.2
  · obtain ⟨i, hi⟩ := List.mem_iff_getElem?.1 hx
    obtain ⟨j, hj⟩ := List.mem_iff_getElem?.1 hp
    obtain rfl := nodup_at hb hi hj he
    obtain rfl : x = p := by rw [hi] at hj; exact Option.some.inj hj
    simp [hc]
  · have : (seen ++ [p.2]).contains x.2 = seen.contains x.2 := by simp [he]
    rw [this]
    simp [he]
theorem loc_at {P : List (Ms × Nat)} (hn : (P.map (·.1.key)).Nodup) {p : Ms × Nat} (hp : p ∈ P) : ∃ i : Nat, locK Ms.key p.1.site p.1.seq (P.map (·.1)) 0 = some (i, p.1) ∧ P[i]? = some p := by
  obtain ⟨i, hi⟩ := List.mem_iff_getElem?.1 hp
  cases h : locK Ms.key p.1.site p.1.seq (P.map (·.1)) 0 with
  | none => exact absurd ⟨rfl, rfl⟩ (loc_none.1 h p.1 (List.mem_map_of_mem (f := (·.1)) hp))
  | some r =>
    obtain ⟨j, m⟩ := r
    obtain ⟨_, h2, h3, h4⟩ := loc_some h
    rw [Nat.sub_zero, List.getElem?_map] at h2
    cases hx : P[j]? with
    | none => rw [hx] at h2; cases h2
    | some x =>
      rw [hx] at h2
      obtain rfl : x.1 = m := Option.some.inj h2
      have : j = i := nodup_at (f := (·.1.key)) hn hx hi (Prod.ext h3 h4)
      subst this
      obtain rfl : x = p := by rw [hx] at hi; exact Option.some.inj hi
      exact ⟨j, rfl, hi⟩
/-- a list of numbers: one that came in, or one's own -/
def Lent (H : Heap) (lv : Lab) (x : AV) (v : List Int) : Prop := x = il v ∨ (x = .sl lv 1 0 v.length ∧ H lv = some (.rows 1 (v.map encI)))
theorem Lent.fr {H : Heap} {lv : Lab} {x : AV} {v : List Int} (h : Lent H lv x v) : Fr (fun l => H l ≠ none) H x (il v) := by
  rcases h with rfl | ⟨rfl, h⟩
  · exact .refl _
  · have : Own H (.sl lv 1 0 v.length) 1 (v.map encI) := .inr ⟨lv, by simp, h⟩
    exact .of_own this rowOk_ints
theorem Lent.len {H : Heap} {lv : Lab} {x : AV} {v : List Int} (h : Lent H lv x v) {K : AV → Prop} : vLen x K = K (.int .i64 v.length) := by
  rcases h with rfl | ⟨rfl, h⟩
  · exact v_len_map
  · exact v_len_sl
theorem Lent.mono {H H' : Heap} {lv : Lab} {x : AV} {v : List Int} (h : Lent H lv x v) (hH : H lv = some (.rows 1 (v.map encI)) → H' lv = some (.rows 1 (v.map encI))) : Lent H' lv x v := h.imp id fun h => ⟨h.1, hH h.2⟩
theorem drop_no {H : Heap} {q ls lM lv : Lab} {x : AV} {sites room : Int} {P : List (Ms × Nat)} {ck : Nat} (h : StoreP H ls lM sites room P ck) (hf : Fresh q 0 H) (v : List Int) (hx : Lent H lv x v) (hv : v.length ≤ maxLen) (hno : mayS v = false ∨ (v.length : Int) ≠ sites) :
    SoundRes Try.prog 18 [.ptr ls 3 0 0, x] H q ⟨.tuple [.int .i64 0, .int .i64 1], [], some [ls, lM, lv]⟩ := by
  refine sound_vc Try.mixed ok18 rfl (fun l hl => absurd hl (not_has_nil l)) ?_
  have hs : restr H (some [ls, lM, lv]) ls = some (.rows 3 [[.int .i64 sites, .int .i64 room, .map lM]]) := by rw [restr_at (by simp)]; exact h.s
  have hx : Lent (restr H (some [ls, lM, lv])) lv x v := hx.mono (fun e => by rw [restr_at (by simp)]; exact e)
  generalize restr H (some [ls, lM, lv]) = G at hs hx
  have hlen : ∀ K : AV → Prop, vLen x K = K (.int .i64 v.length) := fun K => hx.len
  simp only [params, Nat.zero_add, Nat.reduceAdd]
  repeat' (first | (simp (disch := omega) only [sel_t, sel_f, sel_dt, sel_df, sel_nt, sel_nf, v_lss, v_leq, v_gtr, v_geq, v_eql, v_neq, v_add, v_sub, v_not, v_min, v_max, v_pick_t, v_pick_f, v_ext0, v_ext1, v_ext2, v_len_isl, List.length_map, v_len_nils, v_len_sl0, v_len_sl, v_ix_map, v_ix_sl, v_nil_ptr, v_nil_iptr, v_fa_ptr, v_fa_iptr, cell_0, cell_s, cell_a2, cell_a3, cell_a7, cell_a10, v_load_map, v_load_r1, v_call_fn, v_load_H, ldH_one, ldH_map, v_store_H, stH_one, upd_same, upd_cons_ne, upd_nil, v_box, v_fld, eqs_nils, eqs_sl, v_eqs_ii, v_neqs_ii, sel_andt, sel_andf, sel_nandt, sel_nandf, encI, Int.toNat_natCast, lq_e, lq_r, Bool.not_true, Bool.not_false, Bool.false_eq_true, reduceIte, decide_true, decide_false, v_build_fill, v_buildS_fill, fill_nil, fill_cons, AV.cells, putL, chunk, List.length_cons, List.length_nil, Nat.reduceAdd, Nat.reduceDiv, Nat.reduceMod, List.take_succ_cons, List.take_zero, List.take_nil, List.drop_succ_cons, List.drop_zero, List.drop_nil, List.cons_append, List.nil_append, List.append_nil, List.all_cons, List.all_nil, AV.one, Nat.reduceLeDiff, and_self, and_true, true_and, Nat.zero_add, ne_eq, Nat.succ_ne_zero, not_false_eq_true, Bool.and_self, Nat.reduceEqDiff, Nat.le_refl, res18, q18_0_ret, q18_0_e0, vt18, vt18_1, vt18_2, V18, V18_1, V18_2, k18_1, k18_0, k18_2, k18_4, k18_6, k18_7, k18_9, k18_8, k18_10, k18_5, k18_11, k18_3, k18_12, k18_13, k18_15, k18_16, k18_17, k18_18, k18_19, k18_14, k18_20, k18_21, vb_nilp, hs, hlen]) | (refine sel_d (fun _ => ?_) (fun _ => ?_)) | (refine sel_n (fun _ => ?_) (fun _ => ?_)) | (refine sel_and (fun _ => ?_) (fun _ => ?_)) | (refine sel_nand (fun _ => ?_) (fun _ => ?_)) | (refine And.intro (clash_quiet rfl) ?_) | (refine eqs_isl (fun _ => ?_) ?_) | (exfalso; omega; done))
  cases hm : mayS v
  · refine call_lend (y := .int .i64 1) (by have := check_pure v hv; rw [hm] at this; exact this) rfl (.cons hx.fr .nil) ?_
    repeat' (first | (simp (disch := omega) only [sel_t, sel_f, sel_dt, sel_df, sel_nt, sel_nf, v_lss, v_leq, v_gtr, v_geq, v_eql, v_neq, v_add, v_sub, v_not, v_min, v_max, v_pick_t, v_pick_f, v_ext0, v_ext1, v_ext2, v_len_isl, List.length_map, v_len_nils, v_len_sl0, v_len_sl, v_ix_map, v_ix_sl, v_nil_ptr, v_nil_iptr, v_fa_ptr, v_fa_iptr, cell_0, cell_s, cell_a2, cell_a3, cell_a7, cell_a10, v_load_map, v_load_r1, v_call_fn, v_load_H, ldH_one, ldH_map, v_store_H, stH_one, upd_same, upd_cons_ne, upd_nil, v_box, v_fld, eqs_nils, eqs_sl, v_eqs_ii, v_neqs_ii, sel_andt, sel_andf, sel_nandt, sel_nandf, encI, Int.toNat_natCast, lq_e, lq_r, Bool.not_true, Bool.not_false, Bool.false_eq_true, reduceIte, decide_true, decide_false, v_build_fill, v_buildS_fill, fill_nil, fill_cons, AV.cells, putL, chunk, List.length_cons, List.length_nil, Nat.reduceAdd, Nat.reduceDiv, Nat.reduceMod, List.take_succ_cons, List.take_zero, List.take_nil, List.drop_succ_cons, List.drop_zero, List.drop_nil, List.cons_append, List.nil_append, List.append_nil, List.all_cons, List.all_nil, AV.one, Nat.reduceLeDiff, and_self, and_true, true_and, Nat.zero_add, ne_eq, Nat.succ_ne_zero, not_false_eq_true, Bool.and_self, Nat.reduceEqDiff, Nat.le_refl, res18, q18_0_ret, q18_0_e0, vt18, vt18_1, vt18_2, V18, V18_1, V18_2, k18_1, k18_0, k18_2, k18_4, k18_6, k18_7, k18_9, k18_8, k18_10, k18_5, k18_11, k18_3, k18_12, k18_13, k18_15, k18_16, k18_17, k18_18, k18_19, k18_14, k18_20, k18_21, vb_nilp, hs, hlen]) | (refine sel_d (fun _ => ?_) (fun _ => ?_)) | (refine sel_n (fun _ => ?_) (fun _ => ?_)) | (refine sel_and (fun _ => ?_) (fun _ => ?_)) | (refine sel_nand (fun _ => ?_) (fun _ => ?_)) | (refine And.intro (clash_quiet rfl) ?_) | (refine eqs_isl (fun _ => ?_) ?_) | (exfalso; omega; done))
    exact ⟨.inr rfl, _, by simp [aRes, aResL, aRes1, rget], .refl _, fun l o hl => by simpa only [upd_nil] using hl⟩
  · rw [hm] at hno
    have hne : (v.length : Int) ≠ sites := by rcases hno with h | h; exact absurd h (by decide); exact h
    refine call_lend (y := .int .i64 0) (by have := check_pure v hv; rw [hm] at this; exact this) rfl (.cons hx.fr .nil) ?_
    repeat' (first | (simp (disch := omega) only [sel_t, sel_f, sel_dt, sel_df, sel_nt, sel_nf, v_lss, v_leq, v_gtr, v_geq, v_eql, v_neq, v_add, v_sub, v_not, v_min, v_max, v_pick_t, v_pick_f, v_ext0, v_ext1, v_ext2, v_len_isl, List.length_map, v_len_nils, v_len_sl0, v_len_sl, v_ix_map, v_ix_sl, v_nil_ptr, v_nil_iptr, v_fa_ptr, v_fa_iptr, cell_0, cell_s, cell_a2, cell_a3, cell_a7, cell_a10, v_load_map, v_load_r1, v_call_fn, v_load_H, ldH_one, ldH_map, v_store_H, stH_one, upd_same, upd_cons_ne, upd_nil, v_box, v_fld, eqs_nils, eqs_sl, v_eqs_ii, v_neqs_ii, sel_andt, sel_andf, sel_nandt, sel_nandf, encI, Int.toNat_natCast, lq_e, lq_r, Bool.not_true, Bool.not_false, Bool.false_eq_true, reduceIte, decide_true, decide_false, v_build_fill, v_buildS_fill, fill_nil, fill_cons, AV.cells, putL, chunk, List.length_cons, List.length_nil, Nat.reduceAdd, Nat.reduceDiv, Nat.reduceMod, List.take_succ_cons, List.take_zero, List.take_nil, List.drop_succ_cons, List.drop_zero, List.drop_nil, List.cons_append, List.nil_append, List.append_nil, List.all_cons, List.all_nil, AV.one, Nat.reduceLeDiff, and_self, and_true, true_and, Nat.zero_add, ne_eq, Nat.succ_ne_zero, not_false_eq_true, Bool.and_self, Nat.reduceEqDiff, Nat.le_refl, res18, q18_0_ret, q18_0_e0, vt18, vt18_1, vt18_2, V18, V18_1, V18_2, k18_1, k18_0, k18_2, k18_4, k18_6, k18_7, k18_9, k18_8, k18_10, k18_5, k18_11, k18_3, k18_12, k18_13, k18_15, k18_16, k18_17, k18_18, k18_19, k18_14, k18_20, k18_21, vb_nilp, hs, hlen]) | (refine sel_d (fun _ => ?_) (fun _ => ?_)) | (refine sel_n (fun _ => ?_) (fun _ => ?_)) | (refine sel_and (fun _ => ?_) (fun _ => ?_)) | (refine sel_nand (fun _ => ?_) (fun _ => ?_)) | (refine And.intro (clash_quiet rfl) ?_) | (refine eqs_isl (fun _ => ?_) ?_) | (exfalso; omega; done))
    exact ⟨.inr rfl, _, by simp [aRes, aResL, aRes1, rget], .refl _, fun l o hl => by simpa only [upd_nil] using hl⟩
theorem v_mrange {H : Heap} {lM q : Lab} {KK : KF} {es : List (AV × AV)} {bs : List Nat} {ck : Nat} (hl : H lM = some (.amap es bs ck)) : vGen .mrange [.map lM] H q KK = KK (.ptr q 1 0 0) (upd [(q, some (.iter (some lM) ck [] ck))] H) [q] (some [lM]) := by
  have : aop noCall .mrange [.map lM] H q = some ⟨.ptr q 1 0 0, [(q, some (.iter (some lM) ck [] ck))], some [lM]⟩ := by simp [aop, aRange, hl]
  simp [vGen, this]
theorem v_mentry {H : Heap} {lM q r : Lab} {KK : KF} {P : List (Ms × Nat)} {ck since : Nat} {seen : List Nat} {p : Ms × Nat} (hl : H lM = some (.amap ((P.map (·.1)).map (encKV Ms.key Ms.enc)) (P.map (·.2)) ck)) (hr : H r = some (.iter (some lM) since (seen ++ [p.2]) ck)) (hb : (P.map (·.2)).Nodup) (hp : p ∈ P) :
    vGen .mentry [.ptr r 1 0 0] H q KK = KK (.tuple [.agg [.int .i64 p.1.site, .int .i64 p.1.seq], .agg p.1.cells]) H [] (some [r, lM]) := by
  obtain ⟨i, hi, hpi⟩ := idx_of hb hp
  have : aop noCall .mentry [.ptr r 1 0 0] H q = some ⟨.tuple [.agg [.int .i64 p.1.site, .int .i64 p.1.seq], .agg p.1.cells], [], some [r, lM]⟩ := by
    simp only [aop, aEntry, hr, hl, if_true, List.getLast?_concat, Option.bind_some, hi, List.getElem?_map, hpi, Option.map_some]
    rfl
  simp [vGen, this]
  rfl
theorem drop_ok {H : Heap} {q ls lM lv : Lab} {x : AV} {sites room : Int} {P : List (Ms × Nat)} {ck : Nat} (h : StoreP H ls lM sites room P ck) (hf : Fresh q 0 H) (v : List Int) (hx : Lent H lv x v) (hv : v.length ≤ maxLen) (hm : mayS v = true) (hl : (v.length : Int) = sites) (hP : P.length ≤ 1000000) :
    SoundRes Try.prog 18 [.ptr ls 3 0 0, x] H q ⟨.tuple [.int .i64 (P.length - (dropP v P).length), .int .i64 0], [(lM, some (.amap (((dropP v P).map (·.1)).map (encKV Ms.key Ms.enc)) ((dropP v P).map (·.2)) ck))], some [ls, lM, lv]⟩ := by
  refine sound_vc Try.mixed ok18 rfl (fun l hl => .inl (by rw [has_one hl, restr_at (by simp), h.m]; simp)) ?_
  have hs : restr H (some [ls, lM, lv]) ls = some (.rows 3 [[.int .i64 sites, .int .i64 room, .map lM]]) := by rw [restr_at (by simp)]; exact h.s
  have hmm : restr H (some [ls, lM, lv]) lM = some (.amap ((P.map (·.1)).map (encKV Ms.key Ms.enc)) (P.map (·.2)) ck) := by rw [restr_at (by simp)]; exact h.m
  have hf' : Fresh q 0 (restr H (some [ls, lM, lv])) := hf.restr
  have hx : Lent (restr H (some [ls, lM, lv])) lv x v := hx.mono (fun e => by rw [restr_at (by simp)]; exact e)
  generalize restr H (some [ls, lM, lv]) = G at hs hmm hf' hx
  have hlen : ∀ K : AV → Prop, vLen x K = K (.int .i64 v.length) := fun K => hx.len
  have hsm : ls ≠ lM := fun e => by rw [e, hmm] at hs; cases hs
  simp only [params, Nat.zero_add, Nat.reduceAdd]
  simp (disch := omega) only [sel_t, sel_f, sel_dt, sel_df, sel_nt, sel_nf, v_lss, v_leq, v_gtr, v_geq, v_eql, v_neq, v_add, v_sub, v_not, v_min, v_max, v_pick_t, v_pick_f, v_ext0, v_ext1, v_ext2, v_len_isl, List.length_map, v_len_nils, v_len_sl0, v_len_sl, v_ix_map, v_ix_sl, v_nil_ptr, v_nil_iptr, v_fa_ptr, v_fa_iptr, cell_0, cell_s, cell_a2, cell_a3, cell_a7, cell_a10, v_load_map, v_load_r1, v_call_fn, v_load_H, ldH_one, ldH_map, v_store_H, stH_one, upd_same, upd_cons_ne, upd_nil, v_box, v_fld, eqs_nils, eqs_sl, v_eqs_ii, v_neqs_ii, sel_andt, sel_andf, sel_nandt, sel_nandf, encI, Int.toNat_natCast, lq_e, lq_r, Bool.not_true, Bool.not_false, Bool.false_eq_true, reduceIte, decide_true, decide_false, v_build_fill, v_buildS_fill, fill_nil, fill_cons, AV.cells, putL, chunk, List.length_cons, List.length_nil, Nat.reduceAdd, Nat.reduceDiv, Nat.reduceMod, List.take_succ_cons, List.take_zero, List.take_nil, List.drop_succ_cons, List.drop_zero, List.drop_nil, List.cons_append, List.nil_append, List.append_nil, List.all_cons, List.all_nil, AV.one, Nat.reduceLeDiff, and_self, and_true, true_and, Nat.zero_add, ne_eq, Nat.succ_ne_zero, not_false_eq_true, Bool.and_self, Nat.reduceEqDiff, Nat.le_refl, res18, q18_0_ret, q18_0_e0, vt18, vt18_1, vt18_2, V18, V18_1, V18_2, k18_1, k18_0, k18_2, k18_4, k18_6, k18_7, k18_9, k18_8, k18_10, k18_5, k18_11, k18_3, k18_12, k18_13, k18_15, k18_16, k18_17, k18_18, k18_19, k18_14, k18_20, k18_21, vb_nilp]
  refine call_lend (y := .int .i64 0) (by have := check_pure v hv; rw [hm] at this; exact this) rfl (.cons hx.fr .nil) ?_
  simp (disch := omega) only [sel_t, sel_f, sel_dt, sel_df, sel_nt, sel_nf, v_lss, v_leq, v_gtr, v_geq, v_eql, v_neq, v_add, v_sub, v_not, v_min, v_max, v_pick_t, v_pick_f, v_ext0, v_ext1, v_ext2, v_len_isl, List.length_map, v_len_nils, v_len_sl0, v_len_sl, v_ix_map, v_ix_sl, v_nil_ptr, v_nil_iptr, v_fa_ptr, v_fa_iptr, cell_0, cell_s, cell_a2, cell_a3, cell_a7, cell_a10, v_load_map, v_load_r1, v_call_fn, v_load_H, ldH_one, ldH_map, v_store_H, stH_one, upd_same, upd_cons_ne, upd_nil, v_box, v_fld, eqs_nils, eqs_sl, v_eqs_ii, v_neqs_ii, sel_andt, sel_andf, sel_nandt, sel_nandf, encI, Int.toNat_natCast, lq_e, lq_r, Bool.not_true, Bool.not_false, Bool.false_eq_true, reduceIte, decide_true, decide_false, v_build_fill, v_buildS_fill, fill_nil, fill_cons, AV.cells, putL, chunk, List.length_cons, List.length_nil, Nat.reduceAdd, Nat.reduceDiv, Nat.reduceMod, List.take_succ_cons, List.take_zero, List.take_nil, List.drop_succ_cons, List.drop_zero, List.drop_nil, List.cons_append, List.nil_append, List.append_nil, List.all_cons, List.all_nil, AV.one, Nat.reduceLeDiff, and_self, and_true, true_and, Nat.zero_add, ne_eq, Nat.succ_ne_zero, not_false_eq_true, Bool.and_self, Nat.reduceEqDiff, Nat.le_refl, res18, q18_0_ret, q18_0_e0, vt18, vt18_1, vt18_2, V18, V18_1, V18_2, k18_1, k18_0, k18_2, k18_4, k18_6, k18_7, k18_9, k18_8, k18_10, k18_5, k18_11, k18_3, k18_12, k18_13, k18_15, k18_16, k18_17, k18_18, k18_19, k18_14, k18_20, k18_21, vb_nilp, hs, hlen]
  rw [v_len_m (L := P.map (·.1)) (key := Ms.key) (enc := Ms.enc) (bs := P.map (·.2)) (ck := ck) hmm]
  simp (disch := omega) only [sel_t, sel_f, sel_dt, sel_df, sel_nt, sel_nf, v_lss, v_leq, v_gtr, v_geq, v_eql, v_neq, v_add, v_sub, v_not, v_min, v_max, v_pick_t, v_pick_f, v_ext0, v_ext1, v_ext2, v_len_isl, List.length_map, v_len_nils, v_len_sl0, v_len_sl, v_ix_map, v_ix_sl, v_nil_ptr, v_nil_iptr, v_fa_ptr, v_fa_iptr, cell_0, cell_s, cell_a2, cell_a3, cell_a7, cell_a10, v_load_map, v_load_r1, v_call_fn, v_load_H, ldH_one, ldH_map, v_store_H, stH_one, upd_same, upd_cons_ne, upd_nil, v_box, v_fld, eqs_nils, eqs_sl, v_eqs_ii, v_neqs_ii, sel_andt, sel_andf, sel_nandt, sel_nandf, encI, Int.toNat_natCast, lq_e, lq_r, Bool.not_true, Bool.not_false, Bool.false_eq_true, reduceIte, decide_true, decide_false, v_build_fill, v_buildS_fill, fill_nil, fill_cons, AV.cells, putL, chunk, List.length_cons, List.length_nil, Nat.reduceAdd, Nat.reduceDiv, Nat.reduceMod, List.take_succ_cons, List.take_zero, List.take_nil, List.drop_succ_cons, List.drop_zero, List.drop_nil, List.cons_append, List.nil_append, List.append_nil, List.all_cons, List.all_nil, AV.one, Nat.reduceLeDiff, and_self, and_true, true_and, Nat.zero_add, ne_eq, Nat.succ_ne_zero, not_false_eq_true, Bool.and_self, Nat.reduceEqDiff, Nat.le_refl, res18, q18_0_ret, q18_0_e0, vt18, vt18_1, vt18_2, V18, V18_1, V18_2, k18_1, k18_0, k18_2, k18_4, k18_6, k18_7, k18_9, k18_8, k18_10, k18_5, k18_11, k18_3, k18_12, k18_13, k18_15, k18_16, k18_17, k18_18, k18_19, k18_14, k18_20, k18_21, vb_nilp, hs, hlen]
  rw [v_mrange hmm]
  have fin : ∀ {seen : List Nat}, (∀ p ∈ leftP v seen P, p.2 ∈ seen) → leftP v seen P = dropP v P := fun {seen} ha => by
    unfold dropP
    unfold leftP at ha ⊢
    refine List.filter_congr fun p hp => ?_
    cases hc : covB v p.1.site p.1.seq
    · rfl
    · have : p.2 ∈ seen := Classical.byContradiction fun hn => hn (ha p (List.mem_filter.2 ⟨hp, by simp [hn]⟩))
      simp [this]
  have l0 : leftP v [] P = P := List.filter_eq_self.2 fun p _ => by simp
  have s0 : ls ≠ 28 :: q := fun e => by rw [e, hf'.at (Nat.zero_le _)] at hs; cases hs
  have m0 : lM ≠ 28 :: q := fun e => by rw [e, hf'.at (Nat.zero_le _)] at hmm; cases hmm
  refine vloop (fun n r H c => ∃ (seen : List Nat) (k : Nat), r = [(0, .ptr ls 3 0 0), (1, x), (6, .int .i64 P.length), (33, .ptr (k :: q) 1 0 0)] ∧ H ls = some (.rows 3 [[.int .i64 sites, .int .i64 room, .map lM]]) ∧
    H lM = some (.amap (((leftP v seen P).map (·.1)).map (encKV Ms.key Ms.enc)) ((leftP v seen P).map (·.2)) ck) ∧ H (k :: q) = some (.iter (some lM) ck seen ck) ∧ Fresh q c H ∧ k < c ∧ Lent H lv x v ∧ n = (P.filter fun p => !seen.contains p.2).length ∧ ∀ l o, G l = some o → l ≠ lM → H l = some o) P.length ⟨[], 28, rfl, ?_, ?_, ?_, ?_, ?_, ?_, ?_, ?_⟩ ?_
  · rw [upd_ne s0, upd_nil]; exact hs
  · rw [upd_ne m0, upd_nil, l0]; exact hmm
  · rw [upd_same]
  · exact hf'.upd (by omega) (by omega)
  · omega
  · exact hx.mono fun e => by rw [upd_ne (fun e' => by rw [e', hf'.at (Nat.zero_le _)] at e; cases e), upd_nil]; exact e
  · rw [List.filter_eq_self.2 fun p _ => by simp]
  · intro l o h1 h2
    rw [upd_ne (fun e => by rw [e, hf'.at (Nat.zero_le _)] at h1; cases h1), upd_nil]; exact h1
  rintro n r H' c ⟨seen, k, rfl, hs', hm', hit, hf2, hk, hx2, rfl, hrest⟩
  have hbd : ((leftP v seen P).map (·.2)).Nodup := h.bd.sublist (leftP_sub.map _)
  have hnd : ((leftP v seen P).map (·.1.key)).Nodup := h.nd.sublist (leftP_sub.map _)
  have s1 : ls ≠ k :: q := fun e => by rw [e, hit] at hs'; cases hs'
  have m1 : lM ≠ k :: q := fun e => by rw [e, hit] at hm'; cases hm'
  simp (disch := omega) only [sel_t, sel_f, sel_dt, sel_df, sel_nt, sel_nf, v_lss, v_leq, v_gtr, v_geq, v_eql, v_neq, v_add, v_sub, v_not, v_min, v_max, v_pick_t, v_pick_f, v_ext0, v_ext1, v_ext2, v_len_isl, List.length_map, v_len_nils, v_len_sl0, v_len_sl, v_ix_map, v_ix_sl, v_nil_ptr, v_nil_iptr, v_fa_ptr, v_fa_iptr, cell_0, cell_s, cell_a2, cell_a3, cell_a7, cell_a10, v_load_map, v_load_r1, v_call_fn, v_load_H, ldH_one, ldH_map, v_store_H, stH_one, upd_same, upd_cons_ne, upd_nil, v_box, v_fld, eqs_nils, eqs_sl, v_eqs_ii, v_neqs_ii, sel_andt, sel_andf, sel_nandt, sel_nandf, encI, Int.toNat_natCast, lq_e, lq_r, Bool.not_true, Bool.not_false, Bool.false_eq_true, reduceIte, decide_true, decide_false, v_build_fill, v_buildS_fill, fill_nil, fill_cons, AV.cells, putL, chunk, List.length_cons, List.length_nil, Nat.reduceAdd, Nat.reduceDiv, Nat.reduceMod, List.take_succ_cons, List.take_zero, List.take_nil, List.drop_succ_cons, List.drop_zero, List.drop_nil, List.cons_append, List.nil_append, List.append_nil, List.all_cons, List.all_nil, AV.one, Nat.reduceLeDiff, and_self, and_true, true_and, Nat.zero_add, ne_eq, Nat.succ_ne_zero, not_false_eq_true, Bool.and_self, Nat.reduceEqDiff, Nat.le_refl, res18, q18_0_ret, q18_0_e0, vt18, vt18_1, vt18_2, V18, V18_1, V18_2, k18_1, k18_0, k18_2, k18_4, k18_6, k18_7, k18_9, k18_8, k18_10, k18_5, k18_11, k18_3, k18_12, k18_13, k18_15, k18_16, k18_17, k18_18, k18_19, k18_14, k18_20, k18_21, vb_nilp]
  refine .inl ⟨lM, ck, seen, ck, _, _, ck, hit, hm', ⟨?_, Nat.le_refl _⟩, fun hnil => ?_, fun e b hmem => ?_⟩
  · rw [List.all_eq_true]
    intro b hb
    obtain ⟨p, hp, rfl⟩ := List.mem_map.1 hb
    exact decide_eq_true (h.lt p (leftP_sub.subset hp))
  · simp (disch := omega) only [sel_t, sel_f, sel_dt, sel_df, sel_nt, sel_nf, v_lss, v_leq, v_gtr, v_geq, v_eql, v_neq, v_add, v_sub, v_not, v_min, v_max, v_pick_t, v_pick_f, v_ext0, v_ext1, v_ext2, v_len_isl, List.length_map, v_len_nils, v_len_sl0, v_len_sl, v_ix_map, v_ix_sl, v_nil_ptr, v_nil_iptr, v_fa_ptr, v_fa_iptr, cell_0, cell_s, cell_a2, cell_a3, cell_a7, cell_a10, v_load_map, v_load_r1, v_call_fn, v_load_H, ldH_one, ldH_map, v_store_H, stH_one, upd_same, upd_cons_ne, upd_nil, v_box, v_fld, eqs_nils, eqs_sl, v_eqs_ii, v_neqs_ii, sel_andt, sel_andf, sel_nandt, sel_nandf, encI, Int.toNat_natCast, lq_e, lq_r, Bool.not_true, Bool.not_false, Bool.false_eq_true, reduceIte, decide_true, decide_false, v_build_fill, v_buildS_fill, fill_nil, fill_cons, AV.cells, putL, chunk, List.length_cons, List.length_nil, Nat.reduceAdd, Nat.reduceDiv, Nat.reduceMod, List.take_succ_cons, List.take_zero, List.take_nil, List.drop_succ_cons, List.drop_zero, List.drop_nil, List.cons_append, List.nil_append, List.append_nil, List.all_cons, List.all_nil, AV.one, Nat.reduceLeDiff, and_self, and_true, true_and, Nat.zero_add, ne_eq, Nat.succ_ne_zero, not_false_eq_true, Bool.and_self, Nat.reduceEqDiff, Nat.le_refl, res18, q18_0_ret, q18_0_e0, vt18, vt18_1, vt18_2, V18, V18_1, V18_2, k18_1, k18_0, k18_2, k18_4, k18_6, k18_7, k18_9, k18_8, k18_10, k18_5, k18_11, k18_3, k18_12, k18_13, k18_15, k18_16, k18_17, k18_18, k18_19, k18_14, k18_20, k18_21, vb_nilp, hs', upd_nil]
    rw [left_map, List.map_eq_nil_iff, List.filter_eq_nil_iff] at hnil
    rw [fin fun p hp => by simpa using hnil p hp] at hm'
    rw [show upd [] H' = H' from rfl]
    rw [v_len_m (L := (dropP v P).map (·.1)) (key := Ms.key) (enc := Ms.enc) (bs := (dropP v P).map (·.2)) (ck := ck) hm']
    have : (dropP v P).length ≤ P.length := List.filter_sublist.length_le
    simp (disch := omega) only [sel_t, sel_f, sel_dt, sel_df, sel_nt, sel_nf, v_lss, v_leq, v_gtr, v_geq, v_eql, v_neq, v_add, v_sub, v_not, v_min, v_max, v_pick_t, v_pick_f, v_ext0, v_ext1, v_ext2, v_len_isl, List.length_map, v_len_nils, v_len_sl0, v_len_sl, v_ix_map, v_ix_sl, v_nil_ptr, v_nil_iptr, v_fa_ptr, v_fa_iptr, cell_0, cell_s, cell_a2, cell_a3, cell_a7, cell_a10, v_load_map, v_load_r1, v_call_fn, v_load_H, ldH_one, ldH_map, v_store_H, stH_one, upd_same, upd_cons_ne, upd_nil, v_box, v_fld, eqs_nils, eqs_sl, v_eqs_ii, v_neqs_ii, sel_andt, sel_andf, sel_nandt, sel_nandf, encI, Int.toNat_natCast, lq_e, lq_r, Bool.not_true, Bool.not_false, Bool.false_eq_true, reduceIte, decide_true, decide_false, v_build_fill, v_buildS_fill, fill_nil, fill_cons, AV.cells, putL, chunk, List.length_cons, List.length_nil, Nat.reduceAdd, Nat.reduceDiv, Nat.reduceMod, List.take_succ_cons, List.take_zero, List.take_nil, List.drop_succ_cons, List.drop_zero, List.drop_nil, List.cons_append, List.nil_append, List.append_nil, List.all_cons, List.all_nil, AV.one, Nat.reduceLeDiff, and_self, and_true, true_and, Nat.zero_add, ne_eq, Nat.succ_ne_zero, not_false_eq_true, Bool.and_self, Nat.reduceEqDiff, Nat.le_refl, res18, q18_0_ret, q18_0_e0, vt18, vt18_1, vt18_2, V18, V18_1, V18_2, k18_1, k18_0, k18_2, k18_4, k18_6, k18_7, k18_9, k18_8, k18_10, k18_5, k18_11, k18_3, k18_12, k18_13, k18_15, k18_16, k18_17, k18_18, k18_19, k18_14, k18_20, k18_21, vb_nilp, hs', upd_nil, List.length_map]
    refine ⟨.inr rfl, _, by simp [aRes, aResL, aRes1, rget], .refl _, fun l o hl => ?_⟩
    rcases Classical.em (l = lM) with rfl | hne
    · simp only [upd_same] at hl; rw [hm']; exact hl
    · rw [upd_ne hne, upd_nil] at hl; exact hrest l o hl hne
  · rw [left_map] at hmem
    obtain ⟨p, hp, he⟩ := List.mem_map.1 hmem
    obtain ⟨hp1, hp2⟩ := List.mem_filter.1 hp
    obtain ⟨rfl, rfl⟩ := Prod.mk.inj he
    have hpP : p ∈ P := leftP_sub.subset hp1
    have e1 : ∀ j, c ≤ j → ls ≠ j :: q := fun j hj e => by rw [e, hf2.at hj] at hs'; cases hs'
    have e2 : ∀ j, c ≤ j → lM ≠ j :: q := fun j hj e => by rw [e, hf2.at hj] at hm'; cases hm'
    simp (disch := omega) only [sel_t, sel_f, sel_dt, sel_df, sel_nt, sel_nf, v_lss, v_leq, v_gtr, v_geq, v_eql, v_neq, v_add, v_sub, v_not, v_min, v_max, v_pick_t, v_pick_f, v_ext0, v_ext1, v_ext2, v_len_isl, List.length_map, v_len_nils, v_len_sl0, v_len_sl, v_ix_map, v_ix_sl, v_nil_ptr, v_nil_iptr, v_fa_ptr, v_fa_iptr, cell_0, cell_s, cell_a2, cell_a3, cell_a7, cell_a10, v_load_map, v_load_r1, v_call_fn, v_load_H, ldH_one, ldH_map, v_store_H, stH_one, upd_same, upd_cons_ne, upd_nil, v_box, v_fld, eqs_nils, eqs_sl, v_eqs_ii, v_neqs_ii, sel_andt, sel_andf, sel_nandt, sel_nandf, encI, Int.toNat_natCast, lq_e, lq_r, Bool.not_true, Bool.not_false, Bool.false_eq_true, reduceIte, decide_true, decide_false, v_build_fill, v_buildS_fill, fill_nil, fill_cons, AV.cells, putL, chunk, List.length_cons, List.length_nil, Nat.reduceAdd, Nat.reduceDiv, Nat.reduceMod, List.take_succ_cons, List.take_zero, List.take_nil, List.drop_succ_cons, List.drop_zero, List.drop_nil, List.cons_append, List.nil_append, List.append_nil, List.all_cons, List.all_nil, AV.one, Nat.reduceLeDiff, and_self, and_true, true_and, Nat.zero_add, ne_eq, Nat.succ_ne_zero, not_false_eq_true, Bool.and_self, Nat.reduceEqDiff, Nat.le_refl, res18, q18_0_ret, q18_0_e0, vt18, vt18_1, vt18_2, V18, V18_1, V18_2, k18_1, k18_0, k18_2, k18_4, k18_6, k18_7, k18_9, k18_8, k18_10, k18_5, k18_11, k18_3, k18_12, k18_13, k18_15, k18_16, k18_17, k18_18, k18_19, k18_14, k18_20, k18_21, vb_nilp]
    rw [v_mentry (P := leftP v seen P) (p := p) (ck := ck) (since := ck) (seen := seen) (lM := lM) (by rw [upd_ne m1, upd_nil]; exact hm') (by rw [upd_same]) hbd hp1]
    simp (disch := omega) only [sel_t, sel_f, sel_dt, sel_df, sel_nt, sel_nf, v_lss, v_leq, v_gtr, v_geq, v_eql, v_neq, v_add, v_sub, v_not, v_min, v_max, v_pick_t, v_pick_f, v_ext0, v_ext1, v_ext2, v_len_isl, List.length_map, v_len_nils, v_len_sl0, v_len_sl, v_ix_map, v_ix_sl, v_nil_ptr, v_nil_iptr, v_fa_ptr, v_fa_iptr, cell_0, cell_s, cell_a2, cell_a3, cell_a7, cell_a10, v_load_map, v_load_r1, v_call_fn, v_load_H, ldH_one, ldH_map, v_store_H, stH_one, upd_same, upd_cons_ne, upd_nil, v_box, v_fld, eqs_nils, eqs_sl, v_eqs_ii, v_neqs_ii, sel_andt, sel_andf, sel_nandt, sel_nandf, encI, Int.toNat_natCast, lq_e, lq_r, Bool.not_true, Bool.not_false, Bool.false_eq_true, reduceIte, decide_true, decide_false, v_build_fill, v_buildS_fill, fill_nil, fill_cons, AV.cells, putL, chunk, List.length_cons, List.length_nil, Nat.reduceAdd, Nat.reduceDiv, Nat.reduceMod, List.take_succ_cons, List.take_zero, List.take_nil, List.drop_succ_cons, List.drop_zero, List.drop_nil, List.cons_append, List.nil_append, List.append_nil, List.all_cons, List.all_nil, AV.one, Nat.reduceLeDiff, and_self, and_true, true_and, Nat.zero_add, ne_eq, Nat.succ_ne_zero, not_false_eq_true, Bool.and_self, Nat.reduceEqDiff, Nat.le_refl, res18, q18_0_ret, q18_0_e0, vt18, vt18_1, vt18_2, V18, V18_1, V18_2, k18_1, k18_0, k18_2, k18_4, k18_6, k18_7, k18_9, k18_8, k18_10, k18_5, k18_11, k18_3, k18_12, k18_13, k18_15, k18_16, k18_17, k18_18, k18_19, k18_14, k18_20, k18_21, vb_nilp]
    have e5 : ∀ {j : Nat}, c ≤ j → H' lv = some (.rows 1 (v.map encI)) → lv ≠ j :: q := fun {j} hj e e' => by rw [e', hf2.at hj] at e; cases e
    have hxa : H' lv = some (.rows 1 (v.map encI)) → upd [((c + 2 + 2) :: q, some (AO.rows 2 [[AV.int IntKind.i64 p.1.site, AV.int IntKind.i64 p.1.seq]]))]
      (upd [((c + 2 + 2) :: q, some (AO.rows 2 [[AV.int IntKind.i64 0, AV.int IntKind.i64 0]]))]
        (upd [(k :: q, some (AO.iter (some lM) ck (seen ++ [p.2]) ck))] H')) lv = some (.rows 1 (v.map encI)) := fun e => by
      rw [upd_ne (e5 (by omega) e), upd_nil, upd_ne (e5 (by omega) e), upd_nil, upd_ne (fun e' => by rw [e', hit] at e; cases e), upd_nil]; exact e
    refine call_lend (covers_pure v p.1.site p.1.seq hv) rfl (.cons (Lent.fr (hx2.mono hxa)) (.cons (.refl _) (.cons (.refl _) .nil))) ?_
    have hlt : (P.filter fun x => !(seen ++ [p.2]).contains x.2).length < (P.filter fun x => !seen.contains x.2).length := filter_lt (p := fun x => !seen.contains x.2) (p' := fun x => !(seen ++ [p.2]).contains x.2) (fun x hx => by simp at hx ⊢; exact hx.1) hpP hp2 (by simp)
    have e3 : ∀ j, c ≤ j → k :: q ≠ j :: q := fun j hj e => by simp at e; omega
    have e4 : (c + 2 + 2) :: q ≠ k :: q := fun e => by simp at e; omega
    have hfr : Fresh q (c + 2 + 10) (upd [((c + 2 + 2) :: q, some (AO.rows 2 [[AV.int IntKind.i64 p.1.site, AV.int IntKind.i64 p.1.seq]]))]
      (upd [((c + 2 + 2) :: q, some (AO.rows 2 [[AV.int IntKind.i64 0, AV.int IntKind.i64 0]]))]
        (upd [(k :: q, some (AO.iter (some lM) ck (seen ++ [p.2]) ck))] H'))) := ((hf2.upd (d := c + 2 + 10) (by omega) (by omega)).upd (Nat.le_refl _) (by omega)).upd (Nat.le_refl _) (by omega)
    cases hc : covB v p.1.site p.1.seq
    · simp (disch := omega) only [sel_t, sel_f, sel_dt, sel_df, sel_nt, sel_nf, v_lss, v_leq, v_gtr, v_geq, v_eql, v_neq, v_add, v_sub, v_not, v_min, v_max, v_pick_t, v_pick_f, v_ext0, v_ext1, v_ext2, v_len_isl, List.length_map, v_len_nils, v_len_sl0, v_len_sl, v_ix_map, v_ix_sl, v_nil_ptr, v_nil_iptr, v_fa_ptr, v_fa_iptr, cell_0, cell_s, cell_a2, cell_a3, cell_a7, cell_a10, v_load_map, v_load_r1, v_call_fn, v_load_H, ldH_one, ldH_map, v_store_H, stH_one, upd_same, upd_cons_ne, upd_nil, v_box, v_fld, eqs_nils, eqs_sl, v_eqs_ii, v_neqs_ii, sel_andt, sel_andf, sel_nandt, sel_nandf, encI, Int.toNat_natCast, lq_e, lq_r, Bool.not_true, Bool.not_false, Bool.false_eq_true, reduceIte, decide_true, decide_false, v_build_fill, v_buildS_fill, fill_nil, fill_cons, AV.cells, putL, chunk, List.length_cons, List.length_nil, Nat.reduceAdd, Nat.reduceDiv, Nat.reduceMod, List.take_succ_cons, List.take_zero, List.take_nil, List.drop_succ_cons, List.drop_zero, List.drop_nil, List.cons_append, List.nil_append, List.append_nil, List.all_cons, List.all_nil, AV.one, Nat.reduceLeDiff, and_self, and_true, true_and, Nat.zero_add, ne_eq, Nat.succ_ne_zero, not_false_eq_true, Bool.and_self, Nat.reduceEqDiff, Nat.le_refl, res18, q18_0_ret, q18_0_e0, vt18, vt18_1, vt18_2, V18, V18_1, V18_2, k18_1, k18_0, k18_2, k18_4, k18_6, k18_7, k18_9, k18_8, k18_10, k18_5, k18_11, k18_3, k18_12, k18_13, k18_15, k18_16, k18_17, k18_18, k18_19, k18_14, k18_20, k18_21, vb_nilp]
      refine lq_n _ hlt ⟨seen ++ [p.2], k, rfl, ?_, ?_, ?_, hfr, by omega, hx2.mono hxa, rfl, fun l o h1 h2 => ?_⟩
      · rw [upd_ne (e1 _ (by omega)), upd_nil, upd_ne (e1 _ (by omega)), upd_nil, upd_ne s1, upd_nil]; exact hs'
      · rw [upd_ne (e2 _ (by omega)), upd_nil, upd_ne (e2 _ (by omega)), upd_nil, upd_ne m1, upd_nil, step_no h.bd hpP hc]; exact hm'
      · rw [upd_ne e4.symm, upd_nil, upd_ne e4.symm, upd_nil, upd_same]
      · have h3 := hrest l o h1 h2
        have h4 : l ≠ (c + 2 + 2) :: q := fun e => by rw [e, hf2.at (by omega)] at h3; cases h3
        have h5 : l ≠ k :: q := fun e => by rw [e, hf'.at (Nat.zero_le _)] at h1; cases h1
        rw [upd_ne h4, upd_nil, upd_ne h4, upd_nil, upd_ne h5, upd_nil]; exact h3
    · simp (disch := omega) only [sel_t, sel_f, sel_dt, sel_df, sel_nt, sel_nf, v_lss, v_leq, v_gtr, v_geq, v_eql, v_neq, v_add, v_sub, v_not, v_min, v_max, v_pick_t, v_pick_f, v_ext0, v_ext1, v_ext2, v_len_isl, List.length_map, v_len_nils, v_len_sl0, v_len_sl, v_ix_map, v_ix_sl, v_nil_ptr, v_nil_iptr, v_fa_ptr, v_fa_iptr, cell_0, cell_s, cell_a2, cell_a3, cell_a7, cell_a10, v_load_map, v_load_r1, v_call_fn, v_load_H, ldH_one, ldH_map, v_store_H, stH_one, upd_same, upd_cons_ne, upd_nil, v_box, v_fld, eqs_nils, eqs_sl, v_eqs_ii, v_neqs_ii, sel_andt, sel_andf, sel_nandt, sel_nandf, encI, Int.toNat_natCast, lq_e, lq_r, Bool.not_true, Bool.not_false, Bool.false_eq_true, reduceIte, decide_true, decide_false, v_build_fill, v_buildS_fill, fill_nil, fill_cons, AV.cells, putL, chunk, List.length_cons, List.length_nil, Nat.reduceAdd, Nat.reduceDiv, Nat.reduceMod, List.take_succ_cons, List.take_zero, List.take_nil, List.drop_succ_cons, List.drop_zero, List.drop_nil, List.cons_append, List.nil_append, List.append_nil, List.all_cons, List.all_nil, AV.one, Nat.reduceLeDiff, and_self, and_true, true_and, Nat.zero_add, ne_eq, Nat.succ_ne_zero, not_false_eq_true, Bool.and_self, Nat.reduceEqDiff, Nat.le_refl, res18, q18_0_ret, q18_0_e0, vt18, vt18_1, vt18_2, V18, V18_1, V18_2, k18_1, k18_0, k18_2, k18_4, k18_6, k18_7, k18_9, k18_8, k18_10, k18_5, k18_11, k18_3, k18_12, k18_13, k18_15, k18_16, k18_17, k18_18, k18_19, k18_14, k18_20, k18_21, vb_nilp, upd_ne (e1 _ (show c ≤ c + 2 + 2 by omega)), upd_ne s1, upd_nil, hs']
      rw [v_delete (L := (leftP v seen P).map (·.1)) (key := Ms.key) (enc := Ms.enc) (bs := (leftP v seen P).map (·.2)) (ck := ck) (by rw [upd_ne (e2 _ (by omega)), upd_nil, upd_ne (e2 _ (by omega)), upd_nil, upd_ne m1, upd_nil]; exact hm')]
      obtain ⟨i, hi, hpi⟩ := loc_at hnd hp1
      rw [hi]
      simp (disch := omega) only [sel_t, sel_f, sel_dt, sel_df, sel_nt, sel_nf, v_lss, v_leq, v_gtr, v_geq, v_eql, v_neq, v_add, v_sub, v_not, v_min, v_max, v_pick_t, v_pick_f, v_ext0, v_ext1, v_ext2, v_len_isl, List.length_map, v_len_nils, v_len_sl0, v_len_sl, v_ix_map, v_ix_sl, v_nil_ptr, v_nil_iptr, v_fa_ptr, v_fa_iptr, cell_0, cell_s, cell_a2, cell_a3, cell_a7, cell_a10, v_load_map, v_load_r1, v_call_fn, v_load_H, ldH_one, ldH_map, v_store_H, stH_one, upd_same, upd_cons_ne, upd_nil, v_box, v_fld, eqs_nils, eqs_sl, v_eqs_ii, v_neqs_ii, sel_andt, sel_andf, sel_nandt, sel_nandf, encI, Int.toNat_natCast, lq_e, lq_r, Bool.not_true, Bool.not_false, Bool.false_eq_true, reduceIte, decide_true, decide_false, v_build_fill, v_buildS_fill, fill_nil, fill_cons, AV.cells, putL, chunk, List.length_cons, List.length_nil, Nat.reduceAdd, Nat.reduceDiv, Nat.reduceMod, List.take_succ_cons, List.take_zero, List.take_nil, List.drop_succ_cons, List.drop_zero, List.drop_nil, List.cons_append, List.nil_append, List.append_nil, List.all_cons, List.all_nil, AV.one, Nat.reduceLeDiff, and_self, and_true, true_and, Nat.zero_add, ne_eq, Nat.succ_ne_zero, not_false_eq_true, Bool.and_self, Nat.reduceEqDiff, Nat.le_refl, res18, q18_0_ret, q18_0_e0, vt18, vt18_1, vt18_2, V18, V18_1, V18_2, k18_1, k18_0, k18_2, k18_4, k18_6, k18_7, k18_9, k18_8, k18_10, k18_5, k18_11, k18_3, k18_12, k18_13, k18_15, k18_16, k18_17, k18_18, k18_19, k18_14, k18_20, k18_21, vb_nilp]
      refine ⟨(by simp (decide := true) [clashFree, addTr, clash]), ?_⟩
      refine lq_n _ hlt ⟨seen ++ [p.2], k, rfl, ?_, ?_, ?_, ?_, by omega, (hx2.mono hxa).mono (fun e => by rw [upd_ne (fun e' => by rw [e'] at e; rw [upd_ne (e2 _ (by omega)), upd_nil, upd_ne (e2 _ (by omega)), upd_nil, upd_ne m1, upd_nil, hm'] at e; cases e), upd_nil]; exact e), rfl, fun l o h1 h2 => ?_⟩
      · rw [upd_ne hsm, upd_nil, upd_ne (e1 _ (by omega)), upd_nil, upd_ne (e1 _ (by omega)), upd_nil, upd_ne s1, upd_nil]; exact hs'
      · rw [upd_same, step_yes h.bd hpP hc, ← erase_filter (f := (·.2)) hbd hpi, erase_map, erase_map]
      · rw [upd_ne m1.symm, upd_nil, upd_ne e4.symm, upd_nil, upd_ne e4.symm, upd_nil, upd_same]
      · have hfr' := hfr.mono (d := c + 2 + 16) (by omega)
        intro j t hj
        rw [upd_ne (fun e => by have := hf2 j t (by omega); rw [e, hm'] at this; cases this), upd_nil]
        exact hfr' j t (by omega)
      · have h3 := hrest l o h1 h2
        have h4 : l ≠ (c + 2 + 2) :: q := fun e => by rw [e, hf2.at (by omega)] at h3; cases h3
        have h5 : l ≠ k :: q := fun e => by rw [e, hf'.at (Nat.zero_le _)] at h1; cases h1
        rw [upd_ne h2, upd_nil, upd_ne h4, upd_nil, upd_ne h4, upd_nil, upd_ne h5, upd_nil]; exact h3
end Go.Proofs.Ytoajcigegjhiaaa
