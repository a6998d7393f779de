/- Texts of the proof, joined. -/
import Derived.Test.YtbngfbpegdcpkaaQ4
import Derived.Test.YtbngfbpegdcpkaaProg
import Derived.KernelRfl
/-! Joined texts. -/
namespace Go.Proofs.Ytbngfbpegdcpkaa
set_option linter.unusedVariables false
set_option linter.unusedSimpArgs false
set_option maxRecDepth 100000
/-! What keys do: the work in memory; a rune that is put. -/
section
/-- one more row of the call's own making; where it lies is told -/
theorem push_lab {H : Heap} {p : Lab} {KK : KF} {x : AV} {e b c k1 k2 : Nat} {rows : List (List AV)} {row : List AV} (h : Own H x e rows) (hf : Fresh p c H) (hc : c ≤ k1) (hk : k1 < k2) (he : 0 < e) (h1 : (rows.length + 1) * b ≤ 140737488355328) (h2 : rows.length + 1 ≤ 4611686018427387904)
    (hK : ∀ x' H' l f, x' = .sl (k2 :: p) e 0 (rows.length + 1) → Own H' x' e (rows ++ [row]) → Fresh p (k2 + 1) H' → KeepBut x H H' → KK x' H' l f) : vGen (.append e b) [x, .sl (k1 :: p) e 0 1] (upd [(k1 :: p, some (.rows e [row]))] H) (k2 :: p) KK := by
  have hs : aRows e (.sl (k1 :: p) e 0 1) (upd [(k1 :: p, some (.rows e [row]))] H) = some ([row], [k1 :: p]) := by simp [aRows, upd]
  have hH : ∀ k, k ≠ k1 :: p → upd [(k1 :: p, some (.rows e [row]))] H k = H k := fun k hk => by simp [upd, hk]
  have hq : (k2 :: p) ≠ (k1 :: p) := fun e => by simp at e; omega
  have hq0 : H (k2 :: p) = none := hf.at (by omega)
  rcases h with ⟨rfl, rfl⟩ | ⟨l, rfl, hl⟩
  · refine ⟨⟨.sl (k2 :: p) e 0 1, [(k2 :: p, some (.rows e [row]))], some [k1 :: p]⟩, ?_, hK _ _ _ _ rfl (.inr ⟨k2 :: p, rfl, by simp [upd]⟩) (fun j s hj => ?_) (fun k o hk' _ => ?_)⟩
    · simp only [List.length_nil, Nat.zero_add] at h1 h2
      simp [aop, aAppend, hs, he]
      omega
    · have := hf j s (by omega)
      simp only [Ytbngfbpegdcpkaa.upd, if_neg (app_ne (p := p) (s := s) (show j ≠ k2 by omega)), if_neg (app_ne (p := p) (s := s) (show j ≠ k1 by omega)), this]
    · have e1 : k ≠ k2 :: p := fun e => by rw [e, hq0] at hk'; cases hk'
      have e2 : k ≠ k1 :: p := fun e => by rw [e, hf.at hc] at hk'; cases hk'
      simp [upd, e1, e2, hk']
  · have hl1 : l ≠ k1 :: p := fun e => by rw [e, hf.at hc] at hl; cases hl
    have hl2 : l ≠ k2 :: p := fun e => by rw [e, hq0] at hl; cases hl
    have hl' : upd [(k1 :: p, some (.rows e [row]))] H l = some (.rows e rows) := by rw [hH l hl1]; exact hl
    refine ⟨⟨.sl (k2 :: p) e 0 (rows.length + 1), [(k2 :: p, some (.rows e (rows ++ [row]))), (l, none)], some [l, k1 :: p]⟩, ?_, hK _ _ _ _ rfl (.inr ⟨k2 :: p, by simp, by simp [upd]⟩) (fun j s hj => ?_) (fun k o hk' hx => ?_)⟩
    · simp [aop, aAppend, hs, hl', he, h1, h2]
    · have := hf j s (by omega)
      simp only [Ytbngfbpegdcpkaa.upd, if_neg (app_ne (p := p) (s := s) (show j ≠ k2 by omega)), if_neg (app_ne (p := p) (s := s) (show j ≠ k1 by omega)), this, ite_self]
    · have e1 : k ≠ k2 :: p := fun e => by rw [e, hq0] at hk'; cases hk'
      have e2 : k ≠ k1 :: p := fun e => by rw [e, hf.at hc] at hk'; cases hk'
      have e3 : k ≠ l := fun e' => hx e 0 rows.length (by rw [e'])
      simp [upd, e1, e2, e3, hk']
/-- the label of a slice -/
def labs : AV → List Lab
  | .sl l _ _ _ => [l]
  | _ => []
/-- changes told by where they are, and what stands there in the end -/
theorem vre_of {Hend H : Heap} {q : Lab} {ls : List Lab} (h1 : ∀ l ∈ ls, H l ≠ none ∨ Under q l) (h2 : ∀ l o, H l = some o → l ∉ ls → Hend l = some o) :
    (∀ l, Chg.has (ls.map fun l => (l, Hend l)) l → H l ≠ none ∨ Under q l) ∧ (∀ l o, upd (ls.map fun l => (l, Hend l)) H l = some o → Hend l = some o) ∧ (∀ l o, Hend l = some o → (l ∈ ls ∨ H l = some o) → upd (ls.map fun l => (l, Hend l)) H l = some o) := by
  have hu : ∀ l, upd (ls.map fun l => (l, Hend l)) H l = if l ∈ ls then Hend l else H l := by
    intro l
    clear h1 h2
    induction ls with
    | nil => simp [upd]
    | cons k ls ih =>
      simp only [List.map_cons, upd, ih, List.mem_cons]
      by_cases e : l = k
      · simp [e]
      · simp [e]
  refine ⟨fun l ⟨p, hp, e⟩ => ?_, fun l o h => ?_, fun l o h hl => ?_⟩
  · obtain ⟨k, hk, rfl⟩ := List.mem_map.1 hp
    exact h1 l (e ▸ hk)
  · rw [hu] at h
    split at h
    · exact h
    · rename_i hn; exact h2 l o h hn
  · rw [hu]
    split
    · exact h
    · rename_i hn; exact hl.resolve_left hn
/-- the work: a line, a caret in it, what was killed, what was done -/
structure Wk where
  line : List Int
  pos : Nat
  kill : List Int
  acts : List (Int × Int × Int)
def encA (a : Int × Int × Int) : List AV := [.int .i64 a.1, .int .i64 a.2.1, .int .i64 a.2.2]
def ListE (H : Heap) (x : AV) (l : List Int) : Prop := (x = .sl0 ∧ l = []) ∨ ∃ lab, x = .sl lab 1 0 l.length ∧ H lab = some (.rows 1 (l.map encI))
structure WorkI (H : Heap) (lw : Lab) (xl xk xa : AV) (w : Wk) : Prop where
  s : H lw = some (.rows 4 [[xl, .int .i64 w.pos, xk, xa]])
  l : ListE H xl w.line
  k : ListE H xk w.kill
  a : Own H xa 3 (w.acts.map encA)
  ne : ∀ lab n m, xl = .sl lab 1 0 n → xk ≠ .sl lab 1 0 m
theorem ListE.len {H : Heap} {x : AV} {l : List Int} (h : ListE H x l) {K : AV → Prop} : vLen x K = K (.int .i64 l.length) := by
  rcases h with ⟨rfl, rfl⟩ | ⟨lab, rfl, _⟩
  · exact v_len_sl0
  · exact v_len_sl
theorem ListE.mono {H H' : Heap} {x : AV} {l : List Int} (h : ListE H x l) (hk : ∀ lab n, x = .sl lab 1 0 n → H lab = some (.rows 1 (l.map encI)) → H' lab = some (.rows 1 (l.map encI))) : ListE H' x l := by
  rcases h with h | ⟨lab, e, h⟩
  · exact .inl h
  · exact .inr ⟨lab, e, hk lab _ e h⟩
theorem ListE.lab {H : Heap} {x : AV} {l : List Int} (h : ListE H x l) {k : Lab} (hk : k ∈ labs x) : H k ≠ none := by
  rcases h with ⟨rfl, rfl⟩ | ⟨lab, rfl, h⟩
  · cases hk
  · obtain rfl := List.mem_singleton.1 hk
    rw [h]; simp
theorem Own.lab {H : Heap} {x : AV} {e : Nat} {rows : List (List AV)} (h : Own H x e rows) {k : Lab} (hk : k ∈ labs x) : H k ≠ none := by
  rcases h with ⟨rfl, rfl⟩ | ⟨lab, rfl, h⟩
  · cases hk
  · obtain rfl := List.mem_singleton.1 hk
    rw [h]; simp
theorem Own.mono' {H H' : Heap} {x : AV} {e : Nat} {rows : List (List AV)} (h : Own H x e rows) (hk : ∀ lab, H lab = some (.rows e rows) → H' lab = some (.rows e rows)) : Own H' x e rows := by
  rcases h with h | ⟨l, e1, h⟩
  · exact .inl h
  · exact .inr ⟨l, e1, hk l h⟩
theorem WorkI.mono {H H' : Heap} {lw : Lab} {xl xk xa : AV} {w : Wk} (h : WorkI H lw xl xk xa w) (hk : ∀ k o, H k = some o → H' k = some o) : WorkI H' lw xl xk xa w :=
  ⟨hk _ _ h.s, h.l.mono fun _ _ _ h => hk _ _ h, h.k.mono fun _ _ _ h => hk _ _ h, h.a.mono' fun _ h => hk _ _ h, h.ne⟩
def runeB (n : Int) : Bool := decide (32 ≤ n) && decide (n ≤ 1114111) && !(decide (127 ≤ n) && decide (n ≤ 159)) && !(decide (55296 ≤ n) && decide (n ≤ 57343))
theorem mrune_pure (n : Int) : Pure Try.prog 40 [.int .i64 n] (.bool (runeB n)) := by
  refine pure_vc Try.mixed ok40 rfl (fun q => ?_)
  simp only [params, Nat.zero_add, Nat.reduceAdd]
  repeat' (first | (simp (disch := omega) only [sel_t, sel_f, sel_dt, sel_df, sel_nt, sel_nf, v_lss, v_leq, v_gtr, v_geq, v_eql, v_neq, v_add, v_sub, v_not, v_min, v_max, v_pick_t, v_pick_f, v_ext0, v_ext1, v_ext2, v_len_isl, List.length_map, v_len_nils, v_len_sl0, v_len_sl, v_ix_map, v_ix_sl, v_nil_ptr, v_nil_iptr, v_fa_ptr, v_fa_iptr, cell_0, cell_s, cell_a2, cell_a3, cell_a7, cell_a10, v_load_map, v_load_r1, v_call_fn, v_call_fnS, v_load_H, ldH_one, ldH_map, v_store_H, stH_one, upd_same, upd_cons_ne, upd_nil, v_box, v_fld, eqs_nils, eqs_sl, v_eqs_ii, v_neqs_ii, sel_andt, sel_andf, sel_nandt, sel_nandf, encI, Int.toNat_natCast, lq_e, lq_r, Bool.not_true, Bool.not_false, Bool.false_eq_true, reduceIte, decide_true, decide_false, v_build_fill, v_buildS_fill, fill_nil, fill_cons, AV.cells, putL, chunk, List.length_cons, List.length_nil, Nat.reduceAdd, Nat.reduceDiv, Nat.reduceMod, List.take_succ_cons, List.take_zero, List.take_nil, List.drop_succ_cons, List.drop_zero, List.drop_nil, List.cons_append, List.nil_append, List.append_nil, List.all_cons, List.all_nil, AV.one, Nat.reduceLeDiff, and_self, and_true, true_and, Nat.zero_add, ne_eq, Nat.succ_ne_zero, not_false_eq_true, Bool.and_self, Nat.reduceEqDiff, Nat.le_refl, res40, vt40, V40, k40_0, k40_1, k40_4, k40_5, k40_6, k40_7, k40_3, k40_8, k40_11, k40_14, k40_15, k40_16, k40_13, k40_17, k40_18, k40_19, k40_12, k40_20, k40_10, k40_21, k40_23, k40_24, k40_22, k40_25, k40_9, k40_26, k40_2, k40_27]) | (refine sel_d (fun _ => ?_) (fun _ => ?_)) | (refine sel_n (fun _ => ?_) (fun _ => ?_)) | (refine sel_and (fun _ => ?_) (fun _ => ?_)) | (refine sel_nand (fun _ => ?_) (fun _ => ?_)) | (refine And.intro (clash_quiet rfl) ?_) | (refine eqs_isl (fun _ => ?_) ?_) | (exfalso; omega; done))
  all_goals (refine vp1 (congrArg AV.bool ?_); simp [runeB]; omega)
def insI (l : List Int) (i : Nat) (c : Int) : List Int := l.take i ++ [c] ++ l.drop i
theorem insI_len {l : List Int} {i : Nat} {c : Int} (h : i ≤ l.length) : (insI l i c).length = l.length + 1 := by
  simp [insI]; omega
theorem insert_le {H : Heap} {q lv : Lab} {x : AV} {l : List Int} {i : Nat} {c : Int} (h : ListE H x l) (hi : i ≤ l.length) (hv : H lv = some (.rows 1 [[.int .i64 c]])) (hne : ∀ n, x ≠ .sl lv 1 0 n) (hl : l.length ≤ 1000000000) :
    ∃ u f, SoundRes Try.prog 33 [x, .int .i64 i, .sl lv 1 0 1] H q ⟨.sl q 1 0 (l.length + 1), (q, some (.rows 1 ((insI l i c).map encI))) :: u, f⟩ ∧ ∀ p ∈ u, ∃ n, x = .sl p.1 1 0 n := by
  rcases h with ⟨rfl, rfl⟩ | ⟨lab, rfl, h⟩
  · obtain rfl : i = 0 := by simpa using hi
    exact ⟨[], _, insert_none (.inr rfl) hv, fun p hp => by cases hp⟩
  · refine ⟨[(lab, none)], some [lab, lv], ?_, fun p hp => ⟨l.length, by obtain rfl := List.mem_singleton.1 hp; rfl⟩⟩
    have := insert_sl (q := q) h (off := 0) (n := l.length) (i := i) (by simp) hv (fun e => hne l.length (by rw [e])) hi (by omega) (by omega)
    have e : (((l.map encI).drop 0).take i ++ [[AV.int .i64 c]] ++ ((l.map encI).drop (0 + i)).take (l.length - i)) = (insI l i c).map encI := by
      simp only [List.drop_zero, Nat.zero_add]
      rw [List.take_of_length_le (l := (l.map encI).drop i) (by simp)]
      simp [insI, encI, List.map_take, List.map_drop]
    rw [e] at this
    exact this
/-- what lies where none of the changes is told -/
theorem upd_out {H : Heap} {u : Chg} {k : Lab} (h : ∀ p ∈ u, k ≠ p.1) : upd u H k = H k := by
  induction u with
  | nil => rfl
  | cons p u ih => rw [show p = (p.1, p.2) from rfl, upd_ne (h p (by simp))]; exact ih fun a ha => h a (by simp [ha])
def putB (w : Wk) (c : Int) : Bool := decide (w.line.length < 1000) && runeB c
def putW (w : Wk) (c : Int) : Wk := if putB w c then ⟨insI w.line w.pos c, w.pos + 1, w.kill, w.acts ++ [(1, (w.pos : Int), c)]⟩ else w
theorem put_sound {H : Heap} {q lw : Lab} {xl xk xa : AV} {w : Wk} (h : WorkI H lw xl xk xa w) (hf : Fresh q 0 H) (hp : w.pos ≤ w.line.length) (ha : w.acts.length ≤ 1000000) (c : Int) :
    SoundE Try.prog 27 [.ptr lw 4 0 0, .int .i64 c] H q (fun y u => y = .bool (putB w c) ∧ ∃ xl' xa', WorkI (upd u H) lw xl' xk xa' (putW w c)) := by
  refine soundE_vc Try.mixed ok27 rfl ?_
  have hs := h.s
  have hll : ∀ {K : AV → Prop}, vLen xl K = K (.int .i64 w.line.length) := h.l.len
  have out : ∀ {c' : Nat}, putB w c = false → VRE q H [.tmp 4] (fun y u => y = .bool (putB w c) ∧ ∃ xl' xa', WorkI (upd u H) lw xl' xk xa' (putW w c)) .ret [(4, .bool false)] H c' := fun {c'} hb =>
    ⟨.inr rfl, .bool false, .bool false, [], by simp [aRes, aResL, aRes1, rget], ⟨by rw [hb], xl, xa, by rw [putW, hb]; exact h⟩, fun l hl => absurd hl (not_has_nil l), .refl _, fun l o hl => hl⟩
  simp only [params, Nat.zero_add, Nat.reduceAdd]
  simp (disch := omega) only [sel_t, sel_f, sel_dt, sel_df, sel_nt, sel_nf, v_lss, v_leq, v_gtr, v_geq, v_eql, v_neq, v_add, v_sub, v_not, v_min, v_max, v_pick_t, v_pick_f, v_ext0, v_ext1, v_ext2, v_len_isl, List.length_map, v_len_nils, v_len_sl0, v_len_sl, v_ix_map, v_ix_sl, v_nil_ptr, v_nil_iptr, v_fa_ptr, v_fa_iptr, cell_0, cell_s, cell_a2, cell_a3, cell_a7, cell_a10, v_load_map, v_load_r1, v_call_fn, v_call_fnS, v_load_H, ldH_one, ldH_map, v_store_H, stH_one, upd_same, upd_cons_ne, upd_nil, v_box, v_fld, eqs_nils, eqs_sl, v_eqs_ii, v_neqs_ii, sel_andt, sel_andf, sel_nandt, sel_nandf, encI, Int.toNat_natCast, lq_e, lq_r, Bool.not_true, Bool.not_false, Bool.false_eq_true, reduceIte, decide_true, decide_false, v_build_fill, v_buildS_fill, fill_nil, fill_cons, AV.cells, putL, chunk, List.length_cons, List.length_nil, Nat.reduceAdd, Nat.reduceDiv, Nat.reduceMod, List.take_succ_cons, List.take_zero, List.take_nil, List.drop_succ_cons, List.drop_zero, List.drop_nil, List.cons_append, List.nil_append, List.append_nil, List.all_cons, List.all_nil, AV.one, Nat.reduceLeDiff, and_self, and_true, true_and, Nat.zero_add, ne_eq, Nat.succ_ne_zero, not_false_eq_true, Bool.and_self, Nat.reduceEqDiff, Nat.le_refl, res27, vt27, V27, k27_0, k27_1, k27_3, k27_4, k27_6, k27_7, k27_8, k27_9, k27_5, k27_10, k27_2, k27_11, k27_12, hs, hll]
  refine sel_d (fun hfull => ?_) (fun hroom => ?_)
  · simp (disch := omega) only [sel_t, sel_f, sel_dt, sel_df, sel_nt, sel_nf, v_lss, v_leq, v_gtr, v_geq, v_eql, v_neq, v_add, v_sub, v_not, v_min, v_max, v_pick_t, v_pick_f, v_ext0, v_ext1, v_ext2, v_len_isl, List.length_map, v_len_nils, v_len_sl0, v_len_sl, v_ix_map, v_ix_sl, v_nil_ptr, v_nil_iptr, v_fa_ptr, v_fa_iptr, cell_0, cell_s, cell_a2, cell_a3, cell_a7, cell_a10, v_load_map, v_load_r1, v_call_fn, v_call_fnS, v_load_H, ldH_one, ldH_map, v_store_H, stH_one, upd_same, upd_cons_ne, upd_nil, v_box, v_fld, eqs_nils, eqs_sl, v_eqs_ii, v_neqs_ii, sel_andt, sel_andf, sel_nandt, sel_nandf, encI, Int.toNat_natCast, lq_e, lq_r, Bool.not_true, Bool.not_false, Bool.false_eq_true, reduceIte, decide_true, decide_false, v_build_fill, v_buildS_fill, fill_nil, fill_cons, AV.cells, putL, chunk, List.length_cons, List.length_nil, Nat.reduceAdd, Nat.reduceDiv, Nat.reduceMod, List.take_succ_cons, List.take_zero, List.take_nil, List.drop_succ_cons, List.drop_zero, List.drop_nil, List.cons_append, List.nil_append, List.append_nil, List.all_cons, List.all_nil, AV.one, Nat.reduceLeDiff, and_self, and_true, true_and, Nat.zero_add, ne_eq, Nat.succ_ne_zero, not_false_eq_true, Bool.and_self, Nat.reduceEqDiff, Nat.le_refl, res27, vt27, V27, k27_0, k27_1, k27_3, k27_4, k27_6, k27_7, k27_8, k27_9, k27_5, k27_10, k27_2, k27_11, k27_12]
    exact out (by simp [putB]; omega)
  simp (disch := omega) only [sel_t, sel_f, sel_dt, sel_df, sel_nt, sel_nf, v_lss, v_leq, v_gtr, v_geq, v_eql, v_neq, v_add, v_sub, v_not, v_min, v_max, v_pick_t, v_pick_f, v_ext0, v_ext1, v_ext2, v_len_isl, List.length_map, v_len_nils, v_len_sl0, v_len_sl, v_ix_map, v_ix_sl, v_nil_ptr, v_nil_iptr, v_fa_ptr, v_fa_iptr, cell_0, cell_s, cell_a2, cell_a3, cell_a7, cell_a10, v_load_map, v_load_r1, v_call_fn, v_call_fnS, v_load_H, ldH_one, ldH_map, v_store_H, stH_one, upd_same, upd_cons_ne, upd_nil, v_box, v_fld, eqs_nils, eqs_sl, v_eqs_ii, v_neqs_ii, sel_andt, sel_andf, sel_nandt, sel_nandf, encI, Int.toNat_natCast, lq_e, lq_r, Bool.not_true, Bool.not_false, Bool.false_eq_true, reduceIte, decide_true, decide_false, v_build_fill, v_buildS_fill, fill_nil, fill_cons, AV.cells, putL, chunk, List.length_cons, List.length_nil, Nat.reduceAdd, Nat.reduceDiv, Nat.reduceMod, List.take_succ_cons, List.take_zero, List.take_nil, List.drop_succ_cons, List.drop_zero, List.drop_nil, List.cons_append, List.nil_append, List.append_nil, List.all_cons, List.all_nil, AV.one, Nat.reduceLeDiff, and_self, and_true, true_and, Nat.zero_add, ne_eq, Nat.succ_ne_zero, not_false_eq_true, Bool.and_self, Nat.reduceEqDiff, Nat.le_refl, res27, vt27, V27, k27_0, k27_1, k27_3, k27_4, k27_6, k27_7, k27_8, k27_9, k27_5, k27_10, k27_2, k27_11, k27_12]
  refine call_pure (mrune_pure c) ?_
  cases hr : runeB c
  · simp (disch := omega) only [sel_t, sel_f, sel_dt, sel_df, sel_nt, sel_nf, v_lss, v_leq, v_gtr, v_geq, v_eql, v_neq, v_add, v_sub, v_not, v_min, v_max, v_pick_t, v_pick_f, v_ext0, v_ext1, v_ext2, v_len_isl, List.length_map, v_len_nils, v_len_sl0, v_len_sl, v_ix_map, v_ix_sl, v_nil_ptr, v_nil_iptr, v_fa_ptr, v_fa_iptr, cell_0, cell_s, cell_a2, cell_a3, cell_a7, cell_a10, v_load_map, v_load_r1, v_call_fn, v_call_fnS, v_load_H, ldH_one, ldH_map, v_store_H, stH_one, upd_same, upd_cons_ne, upd_nil, v_box, v_fld, eqs_nils, eqs_sl, v_eqs_ii, v_neqs_ii, sel_andt, sel_andf, sel_nandt, sel_nandf, encI, Int.toNat_natCast, lq_e, lq_r, Bool.not_true, Bool.not_false, Bool.false_eq_true, reduceIte, decide_true, decide_false, v_build_fill, v_buildS_fill, fill_nil, fill_cons, AV.cells, putL, chunk, List.length_cons, List.length_nil, Nat.reduceAdd, Nat.reduceDiv, Nat.reduceMod, List.take_succ_cons, List.take_zero, List.take_nil, List.drop_succ_cons, List.drop_zero, List.drop_nil, List.cons_append, List.nil_append, List.append_nil, List.all_cons, List.all_nil, AV.one, Nat.reduceLeDiff, and_self, and_true, true_and, Nat.zero_add, ne_eq, Nat.succ_ne_zero, not_false_eq_true, Bool.and_self, Nat.reduceEqDiff, Nat.le_refl, res27, vt27, V27, k27_0, k27_1, k27_3, k27_4, k27_6, k27_7, k27_8, k27_9, k27_5, k27_10, k27_2, k27_11, k27_12]
    exact out (by simp [putB, hr])
  have hb : putB w c = true := by simp [putB, hr]; omega
  simp (disch := omega) only [sel_t, sel_f, sel_dt, sel_df, sel_nt, sel_nf, v_lss, v_leq, v_gtr, v_geq, v_eql, v_neq, v_add, v_sub, v_not, v_min, v_max, v_pick_t, v_pick_f, v_ext0, v_ext1, v_ext2, v_len_isl, List.length_map, v_len_nils, v_len_sl0, v_len_sl, v_ix_map, v_ix_sl, v_nil_ptr, v_nil_iptr, v_fa_ptr, v_fa_iptr, cell_0, cell_s, cell_a2, cell_a3, cell_a7, cell_a10, v_load_map, v_load_r1, v_call_fn, v_call_fnS, v_load_H, ldH_one, ldH_map, v_store_H, stH_one, upd_same, upd_cons_ne, upd_nil, v_box, v_fld, eqs_nils, eqs_sl, v_eqs_ii, v_neqs_ii, sel_andt, sel_andf, sel_nandt, sel_nandf, encI, Int.toNat_natCast, lq_e, lq_r, Bool.not_true, Bool.not_false, Bool.false_eq_true, reduceIte, decide_true, decide_false, v_build_fill, v_buildS_fill, fill_nil, fill_cons, AV.cells, putL, chunk, List.length_cons, List.length_nil, Nat.reduceAdd, Nat.reduceDiv, Nat.reduceMod, List.take_succ_cons, List.take_zero, List.take_nil, List.drop_succ_cons, List.drop_zero, List.drop_nil, List.cons_append, List.nil_append, List.append_nil, List.all_cons, List.all_nil, AV.one, Nat.reduceLeDiff, and_self, and_true, true_and, Nat.zero_add, ne_eq, Nat.succ_ne_zero, not_false_eq_true, Bool.and_self, Nat.reduceEqDiff, Nat.le_refl, res27, vt27, V27, k27_0, k27_1, k27_3, k27_4, k27_6, k27_7, k27_8, k27_9, k27_5, k27_10, k27_2, k27_11, k27_12, hs]
  refine push_lab h.a hf (Nat.zero_le _) (by omega) (by decide) (by rw [List.length_map]; omega) (by rw [List.length_map]; omega) (fun x' H2 l2 f2 hx2 ho2 hf2 hkb => ?_)
  have hs2 : H2 lw = some (.rows 4 [[xl, .int .i64 w.pos, xk, xa]]) := hkb _ _ hs (fun e i n hx => by rcases h.a with ⟨h1, _⟩ | ⟨l, h1, h2⟩ <;> (rw [h1] at hx; cases hx); rw [hs] at h2; cases h2)
  subst hx2
  have hlw : ∀ k, lw ≠ k :: q := fun k e => by rw [e, hf.at (Nat.zero_le _)] at hs; cases hs
  have hlw' : ∀ k, ¬ (k :: q = lw) := fun k e => hlw k e.symm
  simp (disch := omega) only [sel_t, sel_f, sel_dt, sel_df, sel_nt, sel_nf, v_lss, v_leq, v_gtr, v_geq, v_eql, v_neq, v_add, v_sub, v_not, v_min, v_max, v_pick_t, v_pick_f, v_ext0, v_ext1, v_ext2, v_len_isl, List.length_map, v_len_nils, v_len_sl0, v_len_sl, v_ix_map, v_ix_sl, v_nil_ptr, v_nil_iptr, v_fa_ptr, v_fa_iptr, cell_0, cell_s, cell_a2, cell_a3, cell_a7, cell_a10, v_load_map, v_load_r1, v_call_fn, v_call_fnS, v_load_H, ldH_one, ldH_map, v_store_H, stH_one, upd_same, upd_cons_ne, upd_nil, v_box, v_fld, eqs_nils, eqs_sl, v_eqs_ii, v_neqs_ii, sel_andt, sel_andf, sel_nandt, sel_nandf, encI, Int.toNat_natCast, lq_e, lq_r, Bool.not_true, Bool.not_false, Bool.false_eq_true, reduceIte, decide_true, decide_false, v_build_fill, v_buildS_fill, fill_nil, fill_cons, AV.cells, putL, chunk, List.length_cons, List.length_nil, Nat.reduceAdd, Nat.reduceDiv, Nat.reduceMod, List.take_succ_cons, List.take_zero, List.take_nil, List.drop_succ_cons, List.drop_zero, List.drop_nil, List.cons_append, List.nil_append, List.append_nil, List.all_cons, List.all_nil, AV.one, Nat.reduceLeDiff, and_self, and_true, true_and, Nat.zero_add, ne_eq, Nat.succ_ne_zero, not_false_eq_true, Bool.and_self, Nat.reduceEqDiff, Nat.le_refl, res27, vt27, V27, k27_0, k27_1, k27_3, k27_4, k27_6, k27_7, k27_8, k27_9, k27_5, k27_10, k27_2, k27_11, k27_12, hs2]
  refine ⟨(by (repeat' (first | exact cf_nil | exact allp_nil | refine cf_add ?_ ?_ | refine allp_add ?_ ?_)); all_goals (first | exact Or.inl rfl | exact Or.inl (by decide) | exact Or.inr ⟨by (simp (decide := true) [clash, hlw'] <;> assumption), by (simp (decide := true) [clash, hlw'] <;> assumption)⟩)), ?_⟩
  have hx42 : ∀ n, xl ≠ .sl (42 :: q) 1 0 n := fun n e => by
    rcases h.l with ⟨h1, _⟩ | ⟨lab, h1, h2⟩ <;> rw [h1] at e <;> cases e
    rw [hf.at (Nat.zero_le _)] at h2; cases h2
  -- rows of another width lie where they lay
  have hk3 : ∀ k rs, H k = some (.rows 1 rs) → upd [(42 :: q, some (.rows 1 [[.int .i64 c]]))] (upd [(lw, some (.rows 4 [[xl, .int .i64 w.pos, xk, .sl (26 :: q) 3 0 (w.acts.length + 1)]]))] H2) k = some (.rows 1 rs) := fun k rs hk => by
    rw [upd_ne (fun e => by rw [e, hf.at (Nat.zero_le _)] at hk; cases hk), upd_nil, upd_ne (fun e => by rw [e, hs] at hk; cases hk), upd_nil]
    exact hkb _ _ hk (fun e i n hx => by rcases h.a with ⟨h1, _⟩ | ⟨l, h1, h2⟩ <;> (rw [h1] at hx; cases hx); rw [hk] at h2; cases h2)
  obtain ⟨u, f, hi, hu⟩ := insert_le (q := 43 :: q) (lv := 42 :: q) (c := c) (i := w.pos) (h.l.mono (H' := upd [(42 :: q, some (.rows 1 [[.int .i64 c]]))] (upd [(lw, some (.rows 4 [[xl, .int .i64 w.pos, xk, .sl (26 :: q) 3 0 (w.acts.length + 1)]]))] H2)) (fun _ _ _ hk => hk3 _ _ hk)) hp upd_same hx42 (by omega)
  refine call_res hi ?_
  have hu1 : ∀ k o, upd [(42 :: q, some (.rows 1 [[.int .i64 c]]))] (upd [(lw, some (.rows 4 [[xl, .int .i64 w.pos, xk, .sl (26 :: q) 3 0 (w.acts.length + 1)]]))] H2) k = some o → k ≠ 43 :: q → (∀ n, xl ≠ .sl k 1 0 n) → upd ((43 :: q, some (.rows 1 ((insI w.line w.pos c).map encI))) :: u) (upd [(42 :: q, some (.rows 1 [[.int .i64 c]]))] (upd [(lw, some (.rows 4 [[xl, .int .i64 w.pos, xk, .sl (26 :: q) 3 0 (w.acts.length + 1)]]))] H2)) k = some o := fun k o hk h1 h2 => by
    rw [upd_ne h1, upd_out (fun p hp e => by obtain ⟨n, hn⟩ := hu p hp; exact h2 n (e ▸ hn))]; exact hk
  have h43 : upd ((43 :: q, some (.rows 1 ((insI w.line w.pos c).map encI))) :: u) (upd [(42 :: q, some (.rows 1 [[.int .i64 c]]))] (upd [(lw, some (.rows 4 [[xl, .int .i64 w.pos, xk, .sl (26 :: q) 3 0 (w.acts.length + 1)]]))] H2)) (43 :: q) = some (.rows 1 ((insI w.line w.pos c).map encI)) := upd_same
  have hxlw : ∀ n, xl ≠ .sl lw 1 0 n := fun n e => by
    rcases h.l with ⟨h1, _⟩ | ⟨lab, h1, h2⟩ <;> rw [h1] at e <;> cases e
    rw [hs] at h2; cases h2
  have hxk : ∀ k, xl ≠ .sl k 1 0 w.line.length → ∀ n, xl ≠ .sl k 1 0 n := fun k h1 n e => by
    rcases h.l with ⟨h2, _⟩ | ⟨lab, h2, _⟩ <;> rw [h2] at e <;> cases e
    exact h1 h2
  have hs4 := hu1 lw _ (by rw [upd_ne (hlw 42), upd_nil, upd_same]) (hlw 43) hxlw
  have h26 : H2 (26 :: q) = some (.rows 3 ((w.acts ++ [(1, (w.pos : Int), c)]).map encA)) := by
    rcases ho2 with ⟨h1, _⟩ | ⟨l, h1, h2⟩
    · cases h1
    · injection h1 with e1
      rw [e1, h2]; simp [encA]
  have h264 := hu1 (26 :: q) _ (by rw [upd_ne (by simp), upd_nil, upd_ne (fun e => hlw 26 e.symm), upd_nil]; exact h26) (by simp) (fun n e => by
    rcases h.l with ⟨h1, _⟩ | ⟨lab, h1, h2⟩ <;> rw [h1] at e <;> cases e
    rw [hf.at (Nat.zero_le _)] at h2; cases h2)
  have hH4 : ∀ k o, H k = some o → k ≠ lw → (∀ n, xl ≠ .sl k 1 0 n) → (∀ e i n, xa ≠ .sl k e i n) → upd ((43 :: q, some (.rows 1 ((insI w.line w.pos c).map encI))) :: u) (upd [(42 :: q, some (.rows 1 [[.int .i64 c]]))] (upd [(lw, some (.rows 4 [[xl, .int .i64 w.pos, xk, .sl (26 :: q) 3 0 (w.acts.length + 1)]]))] H2)) k = some o := fun k o hk h1 h2 h3 =>
    hu1 k o (by rw [upd_ne (fun e => by rw [e, hf.at (Nat.zero_le _)] at hk; cases hk), upd_nil, upd_ne h1, upd_nil]; exact hkb _ _ hk h3) (fun e => by rw [e, hf.at (Nat.zero_le _)] at hk; cases hk) h2
  clear hu1
  generalize upd ((43 :: q, some (.rows 1 ((insI w.line w.pos c).map encI))) :: u) (upd [(42 :: q, some (.rows 1 [[.int .i64 c]]))] (upd [(lw, some (.rows 4 [[xl, .int .i64 w.pos, xk, .sl (26 :: q) 3 0 (w.acts.length + 1)]]))] H2)) = H4 at *
  simp (disch := omega) only [sel_t, sel_f, sel_dt, sel_df, sel_nt, sel_nf, v_lss, v_leq, v_gtr, v_geq, v_eql, v_neq, v_add, v_sub, v_not, v_min, v_max, v_pick_t, v_pick_f, v_ext0, v_ext1, v_ext2, v_len_isl, List.length_map, v_len_nils, v_len_sl0, v_len_sl, v_ix_map, v_ix_sl, v_nil_ptr, v_nil_iptr, v_fa_ptr, v_fa_iptr, cell_0, cell_s, cell_a2, cell_a3, cell_a7, cell_a10, v_load_map, v_load_r1, v_call_fn, v_call_fnS, v_load_H, ldH_one, ldH_map, v_store_H, stH_one, upd_same, upd_cons_ne, upd_nil, v_box, v_fld, eqs_nils, eqs_sl, v_eqs_ii, v_neqs_ii, sel_andt, sel_andf, sel_nandt, sel_nandf, encI, Int.toNat_natCast, lq_e, lq_r, Bool.not_true, Bool.not_false, Bool.false_eq_true, reduceIte, decide_true, decide_false, v_build_fill, v_buildS_fill, fill_nil, fill_cons, AV.cells, putL, chunk, List.length_cons, List.length_nil, Nat.reduceAdd, Nat.reduceDiv, Nat.reduceMod, List.take_succ_cons, List.take_zero, List.take_nil, List.drop_succ_cons, List.drop_zero, List.drop_nil, List.cons_append, List.nil_append, List.append_nil, List.all_cons, List.all_nil, AV.one, Nat.reduceLeDiff, and_self, and_true, true_and, Nat.zero_add, ne_eq, Nat.succ_ne_zero, not_false_eq_true, Bool.and_self, Nat.reduceEqDiff, Nat.le_refl, res27, vt27, V27, k27_0, k27_1, k27_3, k27_4, k27_6, k27_7, k27_8, k27_9, k27_5, k27_10, k27_2, k27_11, k27_12, hs4]
  refine ⟨(by (repeat' (first | exact cf_nil | exact allp_nil | refine cf_add ?_ ?_ | refine allp_add ?_ ?_)); all_goals (first | exact Or.inl rfl | exact Or.inl (by decide) | exact Or.inr ⟨by (simp (decide := true) [clash, hlw'] <;> assumption), by (simp (decide := true) [clash, hlw'] <;> assumption)⟩)), ?_⟩
  have hend : ∀ k, k ≠ lw → ∀ o, H4 k = some o → upd [(lw, some (.rows 4 [[.sl (43 :: q) 1 0 (w.line.length + 1), .int .i64 (w.pos + 1), xk, .sl (26 :: q) 3 0 (w.acts.length + 1)]]))] (upd [(lw, some (.rows 4 [[.sl (43 :: q) 1 0 (w.line.length + 1), .int .i64 w.pos, xk, .sl (26 :: q) 3 0 (w.acts.length + 1)]]))] H4) k = some o := fun k hk o h => by
    rw [upd_ne hk, upd_nil, upd_ne hk, upd_nil]; exact h
  have hendl : upd [(lw, some (.rows 4 [[.sl (43 :: q) 1 0 (w.line.length + 1), .int .i64 (w.pos + 1), xk, .sl (26 :: q) 3 0 (w.acts.length + 1)]]))] (upd [(lw, some (.rows 4 [[.sl (43 :: q) 1 0 (w.line.length + 1), .int .i64 w.pos, xk, .sl (26 :: q) 3 0 (w.acts.length + 1)]]))] H4) lw = some (.rows 4 [[.sl (43 :: q) 1 0 (w.line.length + 1), .int .i64 (w.pos + 1), xk, .sl (26 :: q) 3 0 (w.acts.length + 1)]]) := upd_same
  generalize upd [(lw, some (.rows 4 [[.sl (43 :: q) 1 0 (w.line.length + 1), .int .i64 (w.pos + 1), xk, .sl (26 :: q) 3 0 (w.acts.length + 1)]]))] (upd [(lw, some (.rows 4 [[.sl (43 :: q) 1 0 (w.line.length + 1), .int .i64 w.pos, xk, .sl (26 :: q) 3 0 (w.acts.length + 1)]]))] H4) = He at *
  have hv := vre_of (Hend := He) (H := H) (q := q) (ls := lw :: (26 :: q) :: (43 :: q) :: (labs xl ++ labs xa)) ?_ ?_
  · refine ⟨.inr rfl, .bool true, .bool true, _, by simp [aRes, aResL, aRes1, rget], ⟨by rw [hb], .sl (43 :: q) 1 0 (w.line.length + 1), .sl (26 :: q) 3 0 (w.acts.length + 1), ?_⟩, hv.1, .refl _, hv.2.1⟩
    rw [putW, if_pos hb]
    refine ⟨hv.2.2 lw _ hendl (.inl (by simp)), .inr ⟨43 :: q, by rw [insI_len hp], hv.2.2 _ _ (hend _ (hlw' _) _ h43) (.inl (by simp))⟩, h.k.mono (fun lab n e hk => ?_), .inr ⟨26 :: q, by simp, hv.2.2 _ _ (hend _ (hlw' _) _ h264) (.inl (by simp))⟩, fun lab n m e e' => ?_⟩
    · refine hv.2.2 lab _ (hend _ (fun e => by rw [e, hs] at hk; cases hk) _ (hH4 lab _ hk (fun e => by rw [e, hs] at hk; cases hk) (fun n' e' => h.ne _ _ _ e' e) (fun e' i n' hx => ?_))) (.inr hk)
      rcases h.a with ⟨h1, _⟩ | ⟨l, h1, h2⟩ <;> (rw [h1] at hx; cases hx)
      rw [hk] at h2; cases h2
    · cases e
      rcases h.k with ⟨h1, _⟩ | ⟨l, h1, h2⟩ <;> rw [h1] at e' <;> cases e'
      rw [hf.at (Nat.zero_le _)] at h2; cases h2
  · intro l hl
    simp only [List.mem_cons, List.mem_append] at hl
    rcases hl with rfl | rfl | rfl | hl | hl
    · exact .inl (by rw [hs]; simp)
    · exact .inr ⟨[26], rfl⟩
    · exact .inr ⟨[43], rfl⟩
    · exact .inl (h.l.lab hl)
    · exact .inl (h.a.lab hl)
  · intro l o hl hn
    simp only [List.mem_cons, List.mem_append, not_or] at hn
    exact hend l hn.1 o (hH4 l o hl hn.1 (fun n e => hn.2.2.2.1 (by simp [e, labs])) (fun e i n e' => hn.2.2.2.2 (by simp [e', labs])))
end
/-! What keys do: runes that are cut, and killed. -/
section
theorem v_slice_sl {H : Heap} {q : Lab} {KK : KF} {l : Lab} {e n : Nat} {a b : Nat} (h0 : a ≤ b) (h1 : b ≤ n) : vGen (.slice e true true false) [.sl l e 0 n, .int .i64 a, .int .i64 b] H q KK = KK (.sl l e a (b - a)) H [] (some []) := by
  have : aop noCall (.slice e true true false) [.sl l e 0 n, .int .i64 a, .int .i64 b] H q = some (.pure (.sl l e a (b - a))) := by
    have e1 : ((b : Int) - a).toNat = b - a := by omega
    have h2 : (a : Int) ≤ b := by omega
    have h3 : (b : Int) ≤ n := by omega
    simp [aop, aSliceOp, aSlice, h0, h1, e1]
  simp [vGen, this]; rfl
theorem v_slice_s0 {H : Heap} {q : Lab} {KK : KF} {e : Nat} : vGen (.slice e true true false) [.sl0, .int .i64 (0 : Nat), .int .i64 (0 : Nat)] H q KK = KK .sl0 H [] (some []) := by
  show vGen (.slice e true true false) [.sl0, .int .i64 0, .int .i64 0] H q KK = _
  have : aop noCall (.slice e true true false) [.sl0, .int .i64 0, .int .i64 0] H q = some (.pure .sl0) := by simp [aop, aSliceOp, aSlice]
  simp [vGen, this]; rfl
theorem app_on0s {H : Heap} {l q k : Lab} {KK : KF} {b off n : Nat} {rs : List (List AV)} (hl : H l = some (.rows 1 [])) (hk' : H k = some (.rows 1 rs)) (hn : off + n ≤ rs.length) (hne : n ≠ 0) (h1 : n * b ≤ 140737488355328) (h2 : n ≤ 4611686018427387904)
    (hk : KK (.sl q 1 0 n) (upd [(q, some (.rows 1 ((rs.drop off).take n))), (l, none)] H) [q, l] (some [l, k])) : vGen (.append 1 b) [.sl l 1 0 0, .sl k 1 off n] H q KK := by
  have hln : ((rs.drop off).take n).length = n := by simp; omega
  have hln' : min n (rs.length - off) = n := by omega
  have hne2 : (rs.drop off).take n ≠ [] := fun e => by rw [e] at hln; exact hne hln.symm
  have hem : ((rs.drop off).take n).isEmpty = false := by cases h : (rs.drop off).take n with
    | nil => exact absurd h hne2
    | cons => rfl
  refine ⟨⟨.sl q 1 0 n, [(q, some (.rows 1 ((rs.drop off).take n))), (l, none)], some [l, k]⟩, ?_, hk⟩
  have ha : aRows 1 (.sl k 1 off n) H = some ((rs.drop off).take n, [k]) := by simp [aRows, hne, hk', hn]
  simp only [aop, aAppend, ha, Option.bind_some, hem, hl]
  simp [hln, hln', h1, h2]
theorem app_on0e {H : Heap} {l q k : Lab} {KK : KF} {b off : Nat} (hk : KK (.sl l 1 0 0) H [] (some [])) : vGen (.append 1 b) [.sl l 1 0 0, .sl k 1 off 0] H q KK := by
  refine ⟨.pure (.sl l 1 0 0), ?_, hk⟩
  simp [aop, aAppend, aRows]
/-- a copy of one's own -/
theorem clone_sl {H : Heap} {q lab : Lab} {off n : Nat} {rs : List (List AV)} (hl : H lab = some (.rows 1 rs)) (hn : off + n ≤ rs.length) (h0 : n ≠ 0) (hb : n ≤ 1000000000) (h3 : lab ≠ 3 :: q) :
    SoundRes Try.prog 25 [.sl lab 1 off n] H q ⟨.sl (5 :: q) 1 0 n, [(5 :: q, some (.rows 1 ((rs.drop off).take n)))], some [lab]⟩ := by
  refine sound_vc Try.mixed ok25 rfl (fun l hl => by rw [has_one hl]; exact .inr ⟨[5], rfl⟩) ?_
  have hs : restr H (some [lab]) lab = some (.rows 1 rs) := by rw [restr_at (by simp)]; exact hl
  have honly : ∀ k o, restr H (some [lab]) k = some o → k = lab := fun k o e => by simpa using (restr_some e).1
  generalize restr H (some [lab]) = G at hs honly
  simp only [params, Nat.zero_add, Nat.reduceAdd]
  repeat' (first | (simp (disch := omega) only [sel_t, sel_f, sel_dt, sel_df, sel_nt, sel_nf, v_lss, v_leq, v_gtr, v_geq, v_eql, v_neq, v_add, v_sub, v_not, v_min, v_max, v_pick_t, v_pick_f, v_ext0, v_ext1, v_ext2, v_len_isl, List.length_map, v_len_nils, v_len_sl0, v_len_sl, v_ix_map, v_ix_sl, v_nil_ptr, v_nil_iptr, v_fa_ptr, v_fa_iptr, cell_0, cell_s, cell_a2, cell_a3, cell_a7, cell_a10, v_load_map, v_load_r1, v_call_fn, v_call_fnS, v_load_H, ldH_one, ldH_map, v_store_H, stH_one, upd_same, upd_cons_ne, upd_nil, v_box, v_fld, eqs_nils, eqs_sl, v_eqs_ii, v_neqs_ii, sel_andt, sel_andf, sel_nandt, sel_nandf, encI, Int.toNat_natCast, lq_e, lq_r, Bool.not_true, Bool.not_false, Bool.false_eq_true, reduceIte, decide_true, decide_false, v_build_fill, v_buildS_fill, fill_nil, fill_cons, AV.cells, putL, chunk, List.length_cons, List.length_nil, Nat.reduceAdd, Nat.reduceDiv, Nat.reduceMod, List.take_succ_cons, List.take_zero, List.take_nil, List.drop_succ_cons, List.drop_zero, List.drop_nil, List.cons_append, List.nil_append, List.append_nil, List.all_cons, List.all_nil, AV.one, Nat.reduceLeDiff, and_self, and_true, true_and, Nat.zero_add, ne_eq, Nat.succ_ne_zero, not_false_eq_true, Bool.and_self, Nat.reduceEqDiff, Nat.le_refl, res25, vt25, V25, k25_0, k25_1, k25_2, k25_3, v_slice3]) | (refine sel_d (fun _ => ?_) (fun _ => ?_)) | (refine sel_n (fun _ => ?_) (fun _ => ?_)) | (refine sel_and (fun _ => ?_) (fun _ => ?_)) | (refine sel_nand (fun _ => ?_) (fun _ => ?_)) | (refine And.intro (clash_quiet rfl) ?_) | (refine eqs_isl (fun _ => ?_) ?_) | (exfalso; omega; done))
  refine app_on0s upd_same (k := lab) (by rw [upd_ne h3]; exact hs) hn h0 (by omega) (by omega) ?_
  refine ⟨.inr rfl, _, by simp [aRes, aResL, aRes1, rget], .refl _, fun k o hk => ?_⟩
  rcases Classical.em (k = 5 :: q) with rfl | hn
  · simp only [upd_same] at hk ⊢; exact hk
  · rw [upd_ne hn, upd_nil] at hk
    obtain rfl := honly k o hk
    rw [upd_ne hn, upd_ne h3, upd_nil, upd_ne h3]; exact hk
theorem clone_s0 {H : Heap} {q lab : Lab} {off : Nat} : SoundRes Try.prog 25 [.sl lab 1 off 0] H q ⟨.sl (3 :: q) 1 0 0, [(3 :: q, some (.rows 1 []))], some []⟩ := by
  refine sound_vc Try.mixed ok25 rfl (fun l hl => by rw [has_one hl]; exact .inr ⟨[3], rfl⟩) ?_
  simp only [params, Nat.zero_add, Nat.reduceAdd]
  repeat' (first | (simp (disch := omega) only [sel_t, sel_f, sel_dt, sel_df, sel_nt, sel_nf, v_lss, v_leq, v_gtr, v_geq, v_eql, v_neq, v_add, v_sub, v_not, v_min, v_max, v_pick_t, v_pick_f, v_ext0, v_ext1, v_ext2, v_len_isl, List.length_map, v_len_nils, v_len_sl0, v_len_sl, v_ix_map, v_ix_sl, v_nil_ptr, v_nil_iptr, v_fa_ptr, v_fa_iptr, cell_0, cell_s, cell_a2, cell_a3, cell_a7, cell_a10, v_load_map, v_load_r1, v_call_fn, v_call_fnS, v_load_H, ldH_one, ldH_map, v_store_H, stH_one, upd_same, upd_cons_ne, upd_nil, v_box, v_fld, eqs_nils, eqs_sl, v_eqs_ii, v_neqs_ii, sel_andt, sel_andf, sel_nandt, sel_nandf, encI, Int.toNat_natCast, lq_e, lq_r, Bool.not_true, Bool.not_false, Bool.false_eq_true, reduceIte, decide_true, decide_false, v_build_fill, v_buildS_fill, fill_nil, fill_cons, AV.cells, putL, chunk, List.length_cons, List.length_nil, Nat.reduceAdd, Nat.reduceDiv, Nat.reduceMod, List.take_succ_cons, List.take_zero, List.take_nil, List.drop_succ_cons, List.drop_zero, List.drop_nil, List.cons_append, List.nil_append, List.append_nil, List.all_cons, List.all_nil, AV.one, Nat.reduceLeDiff, and_self, and_true, true_and, Nat.zero_add, ne_eq, Nat.succ_ne_zero, not_false_eq_true, Bool.and_self, Nat.reduceEqDiff, Nat.le_refl, res25, vt25, V25, k25_0, k25_1, k25_2, k25_3, v_slice3]) | (refine sel_d (fun _ => ?_) (fun _ => ?_)) | (refine sel_n (fun _ => ?_) (fun _ => ?_)) | (refine sel_and (fun _ => ?_) (fun _ => ?_)) | (refine sel_nand (fun _ => ?_) (fun _ => ?_)) | (refine And.intro (clash_quiet rfl) ?_) | (refine eqs_isl (fun _ => ?_) ?_) | (exfalso; omega; done))
  refine app_on0e ?_
  refine ⟨.inr rfl, _, by simp [aRes, aResL, aRes1, rget], .refl _, fun k o hk => ?_⟩
  exact hk
def cutG (w : Wk) (f t : Nat) : List Int := (w.line.drop f).take (t - f)
def cutW (w : Wk) (f t : Nat) : Wk := if f < t then ⟨w.line.take f ++ w.line.drop t, f, w.kill, w.acts ++ (cutG w f t).map fun c => (2, (f : Int), c)⟩ else w
def CutR (H : Heap) (lw : Lab) (xk : AV) (w : Wk) (f t : Nat) (y : AV) (u : Chg) : Prop := ListE (upd u H) y (cutG w f t) ∧ ∃ xl' xa', WorkI (upd u H) lw xl' xk xa' (cutW w f t) ∧ ∀ lab n m, xl' = .sl lab 1 0 n → y ≠ .sl lab 1 0 m
/-- nothing is cut -/
theorem cut_none {H : Heap} {q lw : Lab} {xl xk xa : AV} {w : Wk} (h : WorkI H lw xl xk xa w) (hf : Fresh q 0 H) (f : Nat) (hl : f ≤ w.line.length) :
    ∃ y u, SoundRes Try.prog 62 [.ptr lw 4 0 0, .int .i64 f, .int .i64 f] H q ⟨y, u, none⟩ ∧ CutR H lw xk w f f y u := by
  have hs := h.s
  have hcw : cutW w f f = w := by simp [cutW]
  have hcg : cutG w f f = [] := by simp [cutG]
  rcases h.l with ⟨rfl, hl0⟩ | ⟨lab, rfl, hlab⟩
  · refine ⟨.sl0, [], ?_, by rw [CutR, hcw, hcg]; exact ⟨.inl ⟨rfl, rfl⟩, _, _, h, fun _ _ _ e => by cases e⟩⟩
    obtain rfl : f = 0 := by rw [hl0] at hl; simpa using hl
    refine sound_vc Try.mixed ok62 rfl (fun l hl => absurd hl (not_has_nil l)) ?_
    rw [show restr H none = H from rfl]
    simp only [params, Nat.zero_add, Nat.reduceAdd]
    simp (disch := omega) only [sel_t, sel_f, sel_dt, sel_df, sel_nt, sel_nf, v_lss, v_leq, v_gtr, v_geq, v_eql, v_neq, v_add, v_sub, v_not, v_min, v_max, v_pick_t, v_pick_f, v_ext0, v_ext1, v_ext2, v_len_isl, List.length_map, v_len_nils, v_len_sl0, v_len_sl, v_ix_map, v_ix_sl, v_nil_ptr, v_nil_iptr, v_fa_ptr, v_fa_iptr, cell_0, cell_s, cell_a2, cell_a3, cell_a7, cell_a10, v_load_map, v_load_r1, v_call_fn, v_call_fnS, v_load_H, ldH_one, ldH_map, v_store_H, stH_one, upd_same, upd_cons_ne, upd_nil, v_box, v_fld, eqs_nils, eqs_sl, v_eqs_ii, v_neqs_ii, sel_andt, sel_andf, sel_nandt, sel_nandf, encI, Int.toNat_natCast, lq_e, lq_r, Bool.not_true, Bool.not_false, Bool.false_eq_true, reduceIte, decide_true, decide_false, v_build_fill, v_buildS_fill, fill_nil, fill_cons, AV.cells, putL, chunk, List.length_cons, List.length_nil, Nat.reduceAdd, Nat.reduceDiv, Nat.reduceMod, List.take_succ_cons, List.take_zero, List.take_nil, List.drop_succ_cons, List.drop_zero, List.drop_nil, List.cons_append, List.nil_append, List.append_nil, List.all_cons, List.all_nil, AV.one, Nat.reduceLeDiff, and_self, and_true, true_and, Nat.zero_add, ne_eq, Nat.succ_ne_zero, not_false_eq_true, Bool.and_self, Nat.reduceEqDiff, Nat.le_refl, res62, q62_0_ret, q62_0_e0, vt62, vt62_1, vt62_2, V62, V62_1, V62_2, k62_0, k62_1, k62_3, k62_4, k62_2, k62_5, k62_7, k62_8, k62_6, k62_9, k62_10, k62_11, hs, v_slice_s0]
    refine call_res (clone_empty (.inr (.inr rfl))) ?_
    simp (disch := omega) only [sel_t, sel_f, sel_dt, sel_df, sel_nt, sel_nf, v_lss, v_leq, v_gtr, v_geq, v_eql, v_neq, v_add, v_sub, v_not, v_min, v_max, v_pick_t, v_pick_f, v_ext0, v_ext1, v_ext2, v_len_isl, List.length_map, v_len_nils, v_len_sl0, v_len_sl, v_ix_map, v_ix_sl, v_nil_ptr, v_nil_iptr, v_fa_ptr, v_fa_iptr, cell_0, cell_s, cell_a2, cell_a3, cell_a7, cell_a10, v_load_map, v_load_r1, v_call_fn, v_call_fnS, v_load_H, ldH_one, ldH_map, v_store_H, stH_one, upd_same, upd_cons_ne, upd_nil, v_box, v_fld, eqs_nils, eqs_sl, v_eqs_ii, v_neqs_ii, sel_andt, sel_andf, sel_nandt, sel_nandf, encI, Int.toNat_natCast, lq_e, lq_r, Bool.not_true, Bool.not_false, Bool.false_eq_true, reduceIte, decide_true, decide_false, v_build_fill, v_buildS_fill, fill_nil, fill_cons, AV.cells, putL, chunk, List.length_cons, List.length_nil, Nat.reduceAdd, Nat.reduceDiv, Nat.reduceMod, List.take_succ_cons, List.take_zero, List.take_nil, List.drop_succ_cons, List.drop_zero, List.drop_nil, List.cons_append, List.nil_append, List.append_nil, List.all_cons, List.all_nil, AV.one, Nat.reduceLeDiff, and_self, and_true, true_and, Nat.zero_add, ne_eq, Nat.succ_ne_zero, not_false_eq_true, Bool.and_self, Nat.reduceEqDiff, Nat.le_refl, res62, q62_0_ret, q62_0_e0, vt62, vt62_1, vt62_2, V62, V62_1, V62_2, k62_0, k62_1, k62_3, k62_4, k62_2, k62_5, k62_7, k62_8, k62_6, k62_9, k62_10, k62_11, hs]
    refine vloop (fun n r H' c => r = [(0, .ptr lw 4 0 0), (1, .int .i64 (0 : Nat)), (2, .int .i64 (0 : Nat)), (7, .sl0), (19, .sl0), (20, .int .i64 0), (21, .int .i64 0)] ∧ H' = H) 0 ⟨rfl, rfl⟩ ?_
    rintro n r H' c ⟨rfl, rfl⟩
    simp (disch := omega) only [sel_t, sel_f, sel_dt, sel_df, sel_nt, sel_nf, v_lss, v_leq, v_gtr, v_geq, v_eql, v_neq, v_add, v_sub, v_not, v_min, v_max, v_pick_t, v_pick_f, v_ext0, v_ext1, v_ext2, v_len_isl, List.length_map, v_len_nils, v_len_sl0, v_len_sl, v_ix_map, v_ix_sl, v_nil_ptr, v_nil_iptr, v_fa_ptr, v_fa_iptr, cell_0, cell_s, cell_a2, cell_a3, cell_a7, cell_a10, v_load_map, v_load_r1, v_call_fn, v_call_fnS, v_load_H, ldH_one, ldH_map, v_store_H, stH_one, upd_same, upd_cons_ne, upd_nil, v_box, v_fld, eqs_nils, eqs_sl, v_eqs_ii, v_neqs_ii, sel_andt, sel_andf, sel_nandt, sel_nandf, encI, Int.toNat_natCast, lq_e, lq_r, Bool.not_true, Bool.not_false, Bool.false_eq_true, reduceIte, decide_true, decide_false, v_build_fill, v_buildS_fill, fill_nil, fill_cons, AV.cells, putL, chunk, List.length_cons, List.length_nil, Nat.reduceAdd, Nat.reduceDiv, Nat.reduceMod, List.take_succ_cons, List.take_zero, List.take_nil, List.drop_succ_cons, List.drop_zero, List.drop_nil, List.cons_append, List.nil_append, List.append_nil, List.all_cons, List.all_nil, AV.one, Nat.reduceLeDiff, and_self, and_true, true_and, Nat.zero_add, ne_eq, Nat.succ_ne_zero, not_false_eq_true, Bool.and_self, Nat.reduceEqDiff, Nat.le_refl, res62, q62_0_ret, q62_0_e0, vt62, vt62_1, vt62_2, V62, V62_1, V62_2, k62_0, k62_1, k62_3, k62_4, k62_2, k62_5, k62_7, k62_8, k62_6, k62_9, k62_10, k62_11]
    exact ⟨.inr rfl, _, by simp [aRes, aResL, aRes1, rget], .refl _, fun k o h => h⟩
  · have hne : lab ≠ 3 :: 9 :: q := fun e => by rw [e, show H (3 :: 9 :: q) = none from hf 9 [3] (Nat.zero_le _)] at hlab; cases hlab
    refine ⟨.sl (3 :: 9 :: q) 1 0 0, [(3 :: 9 :: q, some (.rows 1 []))], ?_, ?_⟩
    · refine sound_vc Try.mixed ok62 rfl (fun l hl => by rw [has_one hl]; exact .inr ⟨[3, 9], rfl⟩) ?_
      rw [show restr H none = H from rfl]
      simp only [params, Nat.zero_add, Nat.reduceAdd]
      simp (disch := omega) only [sel_t, sel_f, sel_dt, sel_df, sel_nt, sel_nf, v_lss, v_leq, v_gtr, v_geq, v_eql, v_neq, v_add, v_sub, v_not, v_min, v_max, v_pick_t, v_pick_f, v_ext0, v_ext1, v_ext2, v_len_isl, List.length_map, v_len_nils, v_len_sl0, v_len_sl, v_ix_map, v_ix_sl, v_nil_ptr, v_nil_iptr, v_fa_ptr, v_fa_iptr, cell_0, cell_s, cell_a2, cell_a3, cell_a7, cell_a10, v_load_map, v_load_r1, v_call_fn, v_call_fnS, v_load_H, ldH_one, ldH_map, v_store_H, stH_one, upd_same, upd_cons_ne, upd_nil, v_box, v_fld, eqs_nils, eqs_sl, v_eqs_ii, v_neqs_ii, sel_andt, sel_andf, sel_nandt, sel_nandf, encI, Int.toNat_natCast, lq_e, lq_r, Bool.not_true, Bool.not_false, Bool.false_eq_true, reduceIte, decide_true, decide_false, v_build_fill, v_buildS_fill, fill_nil, fill_cons, AV.cells, putL, chunk, List.length_cons, List.length_nil, Nat.reduceAdd, Nat.reduceDiv, Nat.reduceMod, List.take_succ_cons, List.take_zero, List.take_nil, List.drop_succ_cons, List.drop_zero, List.drop_nil, List.cons_append, List.nil_append, List.append_nil, List.all_cons, List.all_nil, AV.one, Nat.reduceLeDiff, and_self, and_true, true_and, Nat.zero_add, ne_eq, Nat.succ_ne_zero, not_false_eq_true, Bool.and_self, Nat.reduceEqDiff, Nat.le_refl, res62, q62_0_ret, q62_0_e0, vt62, vt62_1, vt62_2, V62, V62_1, V62_2, k62_0, k62_1, k62_3, k62_4, k62_2, k62_5, k62_7, k62_8, k62_6, k62_9, k62_10, k62_11, hs, v_slice_sl]
      rw [Nat.sub_self]
      refine call_res clone_s0 ?_
      simp (disch := omega) only [sel_t, sel_f, sel_dt, sel_df, sel_nt, sel_nf, v_lss, v_leq, v_gtr, v_geq, v_eql, v_neq, v_add, v_sub, v_not, v_min, v_max, v_pick_t, v_pick_f, v_ext0, v_ext1, v_ext2, v_len_isl, List.length_map, v_len_nils, v_len_sl0, v_len_sl, v_ix_map, v_ix_sl, v_nil_ptr, v_nil_iptr, v_fa_ptr, v_fa_iptr, cell_0, cell_s, cell_a2, cell_a3, cell_a7, cell_a10, v_load_map, v_load_r1, v_call_fn, v_call_fnS, v_load_H, ldH_one, ldH_map, v_store_H, stH_one, upd_same, upd_cons_ne, upd_nil, v_box, v_fld, eqs_nils, eqs_sl, v_eqs_ii, v_neqs_ii, sel_andt, sel_andf, sel_nandt, sel_nandf, encI, Int.toNat_natCast, lq_e, lq_r, Bool.not_true, Bool.not_false, Bool.false_eq_true, reduceIte, decide_true, decide_false, v_build_fill, v_buildS_fill, fill_nil, fill_cons, AV.cells, putL, chunk, List.length_cons, List.length_nil, Nat.reduceAdd, Nat.reduceDiv, Nat.reduceMod, List.take_succ_cons, List.take_zero, List.take_nil, List.drop_succ_cons, List.drop_zero, List.drop_nil, List.cons_append, List.nil_append, List.append_nil, List.all_cons, List.all_nil, AV.one, Nat.reduceLeDiff, and_self, and_true, true_and, Nat.zero_add, ne_eq, Nat.succ_ne_zero, not_false_eq_true, Bool.and_self, Nat.reduceEqDiff, Nat.le_refl, res62, q62_0_ret, q62_0_e0, vt62, vt62_1, vt62_2, V62, V62_1, V62_2, k62_0, k62_1, k62_3, k62_4, k62_2, k62_5, k62_7, k62_8, k62_6, k62_9, k62_10, k62_11, hs]
      refine vloop (fun n r H' c => r = [(0, .ptr lw 4 0 0), (1, .int .i64 f), (2, .int .i64 f), (7, .sl (3 :: 9 :: q) 1 0 0), (19, .sl (3 :: 9 :: q) 1 0 0), (20, .int .i64 (0 : Nat)), (21, .int .i64 0)] ∧ H' = upd [(3 :: 9 :: q, some (.rows 1 []))] H) 0 ⟨rfl, rfl⟩ ?_
      rintro n r H' c ⟨rfl, rfl⟩
      simp (disch := omega) only [sel_t, sel_f, sel_dt, sel_df, sel_nt, sel_nf, v_lss, v_leq, v_gtr, v_geq, v_eql, v_neq, v_add, v_sub, v_not, v_min, v_max, v_pick_t, v_pick_f, v_ext0, v_ext1, v_ext2, v_len_isl, List.length_map, v_len_nils, v_len_sl0, v_len_sl, v_ix_map, v_ix_sl, v_nil_ptr, v_nil_iptr, v_fa_ptr, v_fa_iptr, cell_0, cell_s, cell_a2, cell_a3, cell_a7, cell_a10, v_load_map, v_load_r1, v_call_fn, v_call_fnS, v_load_H, ldH_one, ldH_map, v_store_H, stH_one, upd_same, upd_cons_ne, upd_nil, v_box, v_fld, eqs_nils, eqs_sl, v_eqs_ii, v_neqs_ii, sel_andt, sel_andf, sel_nandt, sel_nandf, encI, Int.toNat_natCast, lq_e, lq_r, Bool.not_true, Bool.not_false, Bool.false_eq_true, reduceIte, decide_true, decide_false, v_build_fill, v_buildS_fill, fill_nil, fill_cons, AV.cells, putL, chunk, List.length_cons, List.length_nil, Nat.reduceAdd, Nat.reduceDiv, Nat.reduceMod, List.take_succ_cons, List.take_zero, List.take_nil, List.drop_succ_cons, List.drop_zero, List.drop_nil, List.cons_append, List.nil_append, List.append_nil, List.all_cons, List.all_nil, AV.one, Nat.reduceLeDiff, and_self, and_true, true_and, Nat.zero_add, ne_eq, Nat.succ_ne_zero, not_false_eq_true, Bool.and_self, Nat.reduceEqDiff, Nat.le_refl, res62, q62_0_ret, q62_0_e0, vt62, vt62_1, vt62_2, V62, V62_1, V62_2, k62_0, k62_1, k62_3, k62_4, k62_2, k62_5, k62_7, k62_8, k62_6, k62_9, k62_10, k62_11]
      exact ⟨.inr rfl, _, by simp [aRes, aResL, aRes1, rget], .refl _, fun k o h => h⟩
    · rw [CutR, hcw, hcg]
      have hk : ∀ k o, H k = some o → upd [(3 :: 9 :: q, some (.rows 1 []))] H k = some o := fun k o hk => by
        rw [upd_ne (fun e => by rw [e, show H (3 :: 9 :: q) = none from hf 9 [3] (Nat.zero_le _)] at hk; cases hk)]; exact hk
      exact ⟨.inr ⟨_, rfl, upd_same⟩, _, _, h.mono hk, fun l n m e e' => by cases e; cases e'; exact hne rfl⟩
theorem upd_nones {H : Heap} {ls : List Lab} {k : Lab} {o : AO} (h : upd (ls.map fun l => (l, none)) H k = some o) : k ∉ ls ∧ H k = some o := by
  induction ls with
  | nil => exact ⟨by simp, h⟩
  | cons l ls ih =>
    simp only [List.map_cons, upd] at h
    split at h
    · cases h
    · rename_i hn
      exact ⟨by simp [hn, (ih h).1], (ih h).2⟩
theorem take_succ_nth {l : List Int} {i : Nat} (h : i < l.length) : l.take (i + 1) = l.take i ++ [nth l i] := by
  rw [List.take_add_one]
  simp [nth, List.getD_eq_getElem?_getD, h]
theorem own_labs {H : Heap} {x : AV} {e e2 : Nat} {rows rs : List (List AV)} (h : Own H x e rows) {k : Lab} (hk : H k = some (.rows e2 rs)) (hne : e2 ≠ e) : ∀ e i n, x ≠ .sl k e i n := fun e' i n hx => by
  rcases h with ⟨h1, _⟩ | ⟨l, h1, h2⟩ <;> (rw [h1] at hx; cases hx)
  rw [hk] at h2; cases h2; exact hne rfl
/-- something is cut -/
theorem cut_some {H : Heap} {q lw : Lab} {xl xk xa : AV} {w : Wk} (h : WorkI H lw xl xk xa w) (hf : Fresh q 0 H) (f t : Nat) (hft : f < t) (hl : t ≤ w.line.length) (hb : w.line.length ≤ 1000000) (ha : w.acts.length ≤ 1000000) :
    ∃ y u, SoundRes Try.prog 62 [.ptr lw 4 0 0, .int .i64 f, .int .i64 t] H q ⟨y, u, none⟩ ∧ CutR H lw xk w f t y u := by
  have hs := h.s
  obtain ⟨lab, rfl, hlab⟩ : ∃ lab, xl = .sl lab 1 0 w.line.length ∧ H lab = some (.rows 1 (w.line.map encI)) := by
    rcases h.l with ⟨h1, h2⟩ | ⟨lab, h1, h2⟩
    · rw [h2] at hl; simp at hl; omega
    · exact ⟨lab, h1, h2⟩
  have hcw : cutW w f t = ⟨w.line.take f ++ w.line.drop t, f, w.kill, w.acts ++ (cutG w f t).map fun c => (2, (f : Int), c)⟩ := by rw [cutW, if_pos hft]
  have hfk : ∀ s k, H (s ++ k :: q) = none := fun s k => hf k s (Nat.zero_le _)
  have hneq : ∀ {k o}, H k = some o → ∀ s j, k ≠ s ++ j :: q := fun h s j e => by rw [e, hfk] at h; cases h
  have hne59 : ∀ {k o}, H k = some o → k ≠ 5 :: 9 :: q := fun h => hneq h [5] 9
  have hne1 : ∀ {k o}, H k = some o → ∀ j, k ≠ j :: q := fun h j => hneq h [] j
  have hlw5 : ∀ j, lw ≠ j :: q := fun j => hneq hs [] j
  have hlb5 : ∀ j, lab ≠ j :: q := fun j => hneq hlab [] j
  have hlw59 : lw ≠ 5 :: 9 :: q := hneq hs [5] 9
  have hlb59 : lab ≠ 5 :: 9 :: q := hneq hlab [5] 9
  have hlwlb : lw ≠ lab := fun e => by rw [e, hlab] at hs; cases hs
  generalize hN : t - f = N
  have hgl : (cutG w f t).length = N := by simp [cutG]; omega
  generalize hg : cutG w f t = g at *
  let ln := 26 + 19 * N
  let an := 8 + 19 * N
  refine ⟨.sl (5 :: 9 :: q) 1 0 N, [(lw, some (.rows 4 [[.sl (ln :: q) 1 0 (f + (w.line.length - t)), .int .i64 f, xk, .sl (an :: q) 3 0 (w.acts.length + N)]])), (5 :: 9 :: q, some (.rows 1 (g.map encI))), (an :: q, some (.rows 3 ((w.acts ++ g.map fun c => (2, (f : Int), c)).map encA))), (ln :: q, some (.rows 1 ((w.line.take f ++ w.line.drop t).map encI))), (lab, none)] ++ (labs xa).map fun l => (l, none), ?_, ?_⟩
  · refine sound_vc Try.mixed ok62 rfl (fun l hl => ?_) ?_
    · rw [show restr H none = H from rfl]
      obtain ⟨p, hp, rfl⟩ := hl
      simp only [List.cons_append, List.nil_append, List.mem_cons, List.mem_map] at hp
      rcases hp with rfl | rfl | rfl | rfl | rfl | ⟨l, hl, rfl⟩
      · exact .inl (by rw [hs]; simp)
      · exact .inr ⟨[5, 9], rfl⟩
      · exact .inr ⟨[an], rfl⟩
      · exact .inr ⟨[ln], rfl⟩
      · exact .inl (by rw [hlab]; simp)
      · exact .inl (h.a.lab hl)
    rw [show restr H none = H from rfl]
    simp only [params, Nat.zero_add, Nat.reduceAdd]
    simp (disch := omega) only [sel_t, sel_f, sel_dt, sel_df, sel_nt, sel_nf, v_lss, v_leq, v_gtr, v_geq, v_eql, v_neq, v_add, v_sub, v_not, v_min, v_max, v_pick_t, v_pick_f, v_ext0, v_ext1, v_ext2, v_len_isl, List.length_map, v_len_nils, v_len_sl0, v_len_sl, v_ix_map, v_ix_sl, v_nil_ptr, v_nil_iptr, v_fa_ptr, v_fa_iptr, cell_0, cell_s, cell_a2, cell_a3, cell_a7, cell_a10, v_load_map, v_load_r1, v_call_fn, v_call_fnS, v_load_H, ldH_one, ldH_map, v_store_H, stH_one, upd_same, upd_cons_ne, upd_nil, v_box, v_fld, eqs_nils, eqs_sl, v_eqs_ii, v_neqs_ii, sel_andt, sel_andf, sel_nandt, sel_nandf, encI, Int.toNat_natCast, lq_e, lq_r, Bool.not_true, Bool.not_false, Bool.false_eq_true, reduceIte, decide_true, decide_false, v_build_fill, v_buildS_fill, fill_nil, fill_cons, AV.cells, putL, chunk, List.length_cons, List.length_nil, Nat.reduceAdd, Nat.reduceDiv, Nat.reduceMod, List.take_succ_cons, List.take_zero, List.take_nil, List.drop_succ_cons, List.drop_zero, List.drop_nil, List.cons_append, List.nil_append, List.append_nil, List.all_cons, List.all_nil, AV.one, Nat.reduceLeDiff, and_self, and_true, true_and, Nat.zero_add, ne_eq, Nat.succ_ne_zero, not_false_eq_true, Bool.and_self, Nat.reduceEqDiff, Nat.le_refl, res62, q62_0_ret, q62_0_e0, vt62, vt62_1, vt62_2, V62, V62_1, V62_2, k62_0, k62_1, k62_3, k62_4, k62_2, k62_5, k62_7, k62_8, k62_6, k62_9, k62_10, k62_11, hs, v_slice_sl]
    rw [hN]
    refine call_res (clone_sl hlab (by simp; omega) (by omega) (by omega) (hneq hlab [3] 9)) ?_
    have e1 : ((w.line.map encI).drop f).take N = g.map encI := by rw [← hg, cutG, hN, List.map_take, List.map_drop]
    rw [e1]
    simp (disch := omega) only [sel_t, sel_f, sel_dt, sel_df, sel_nt, sel_nf, v_lss, v_leq, v_gtr, v_geq, v_eql, v_neq, v_add, v_sub, v_not, v_min, v_max, v_pick_t, v_pick_f, v_ext0, v_ext1, v_ext2, v_len_isl, List.length_map, v_len_nils, v_len_sl0, v_len_sl, v_ix_map, v_ix_sl, v_nil_ptr, v_nil_iptr, v_fa_ptr, v_fa_iptr, cell_0, cell_s, cell_a2, cell_a3, cell_a7, cell_a10, v_load_map, v_load_r1, v_call_fn, v_call_fnS, v_load_H, ldH_one, ldH_map, v_store_H, stH_one, upd_same, upd_cons_ne, upd_nil, v_box, v_fld, eqs_nils, eqs_sl, v_eqs_ii, v_neqs_ii, sel_andt, sel_andf, sel_nandt, sel_nandf, encI, Int.toNat_natCast, lq_e, lq_r, Bool.not_true, Bool.not_false, Bool.false_eq_true, reduceIte, decide_true, decide_false, v_build_fill, v_buildS_fill, fill_nil, fill_cons, AV.cells, putL, chunk, List.length_cons, List.length_nil, Nat.reduceAdd, Nat.reduceDiv, Nat.reduceMod, List.take_succ_cons, List.take_zero, List.take_nil, List.drop_succ_cons, List.drop_zero, List.drop_nil, List.cons_append, List.nil_append, List.append_nil, List.all_cons, List.all_nil, AV.one, Nat.reduceLeDiff, and_self, and_true, true_and, Nat.zero_add, ne_eq, Nat.succ_ne_zero, not_false_eq_true, Bool.and_self, Nat.reduceEqDiff, Nat.le_refl, res62, q62_0_ret, q62_0_e0, vt62, vt62_1, vt62_2, V62, V62_1, V62_2, k62_0, k62_1, k62_3, k62_4, k62_2, k62_5, k62_7, k62_8, k62_6, k62_9, k62_10, k62_11, hs]
    refine vloop (fun n r H' c => ∃ (i : Nat) (xa' : AV), r = [(0, .ptr lw 4 0 0), (1, .int .i64 f), (2, .int .i64 t), (7, .sl (5 :: 9 :: q) 1 0 N), (19, .sl (5 :: 9 :: q) 1 0 N), (20, .int .i64 N), (21, .int .i64 i)] ∧ i ≤ N ∧ n = N - i ∧ c = 14 + 19 * i ∧ H' lw = some (.rows 4 [[.sl lab 1 0 w.line.length, .int .i64 w.pos, xk, xa']]) ∧ Own H' xa' 3 ((w.acts ++ (g.take i).map fun c => (2, (f : Int), c)).map encA) ∧ (i = 0 → xa' = xa) ∧ (0 < i → xa' = .sl ((8 + 19 * i) :: q) 3 0 (w.acts.length + i)) ∧ H' (5 :: 9 :: q) = some (.rows 1 (g.map encI)) ∧ Fresh q c H' ∧ ∀ k o, H k = some o → k ≠ lw → (∀ e i n, xa ≠ .sl k e i n) → H' k = some o) N ⟨0, xa, rfl, by omega, by omega, rfl, ?_⟩ ?_
    · refine ⟨by rw [upd_ne hlw59]; exact hs, ?_, fun _ => rfl, fun h => absurd h (Nat.lt_irrefl _), upd_same, fun k s hk => ?_, fun k o hk _ _ => ?_⟩
      · simp only [List.take_zero, List.map_nil, List.append_nil]
        exact h.a.mono' fun l hl => by rw [upd_ne (hne59 hl)]; exact hl
      · rw [upd_ne (fun e => ?_)]
        · exact hfk s k
        · have := congrArg List.length e
          have e2 : (s ++ [k]) ++ q = [5, 9] ++ q := by simpa using e
          have e3 := congrArg List.reverse (List.append_cancel_right e2)
          simp at e3
          omega
      · rw [upd_ne (hne59 hk)]; exact hk
    · rintro n r H' c ⟨i, xa', rfl, hi, rfl, rfl, hs', ho', hx0, hx1, hg', hf', hk'⟩
      simp (disch := omega) only [sel_t, sel_f, sel_dt, sel_df, sel_nt, sel_nf, v_lss, v_leq, v_gtr, v_geq, v_eql, v_neq, v_add, v_sub, v_not, v_min, v_max, v_pick_t, v_pick_f, v_ext0, v_ext1, v_ext2, v_len_isl, List.length_map, v_len_nils, v_len_sl0, v_len_sl, v_ix_map, v_ix_sl, v_nil_ptr, v_nil_iptr, v_fa_ptr, v_fa_iptr, cell_0, cell_s, cell_a2, cell_a3, cell_a7, cell_a10, v_load_map, v_load_r1, v_call_fn, v_call_fnS, v_load_H, ldH_one, ldH_map, v_store_H, stH_one, upd_same, upd_cons_ne, upd_nil, v_box, v_fld, eqs_nils, eqs_sl, v_eqs_ii, v_neqs_ii, sel_andt, sel_andf, sel_nandt, sel_nandf, encI, Int.toNat_natCast, lq_e, lq_r, Bool.not_true, Bool.not_false, Bool.false_eq_true, reduceIte, decide_true, decide_false, v_build_fill, v_buildS_fill, fill_nil, fill_cons, AV.cells, putL, chunk, List.length_cons, List.length_nil, Nat.reduceAdd, Nat.reduceDiv, Nat.reduceMod, List.take_succ_cons, List.take_zero, List.take_nil, List.drop_succ_cons, List.drop_zero, List.drop_nil, List.cons_append, List.nil_append, List.append_nil, List.all_cons, List.all_nil, AV.one, Nat.reduceLeDiff, and_self, and_true, true_and, Nat.zero_add, ne_eq, Nat.succ_ne_zero, not_false_eq_true, Bool.and_self, Nat.reduceEqDiff, Nat.le_refl, res62, q62_0_ret, q62_0_e0, vt62, vt62_1, vt62_2, V62, V62_1, V62_2, k62_0, k62_1, k62_3, k62_4, k62_2, k62_5, k62_7, k62_8, k62_6, k62_9, k62_10, k62_11, hs', hg']
      refine sel_d (fun hlt => ?_) (fun hge => ?_)
      · simp (disch := omega) only [sel_t, sel_f, sel_dt, sel_df, sel_nt, sel_nf, v_lss, v_leq, v_gtr, v_geq, v_eql, v_neq, v_add, v_sub, v_not, v_min, v_max, v_pick_t, v_pick_f, v_ext0, v_ext1, v_ext2, v_len_isl, List.length_map, v_len_nils, v_len_sl0, v_len_sl, v_ix_map, v_ix_sl, v_nil_ptr, v_nil_iptr, v_fa_ptr, v_fa_iptr, cell_0, cell_s, cell_a2, cell_a3, cell_a7, cell_a10, v_load_map, v_load_r1, v_call_fn, v_call_fnS, v_load_H, ldH_one, ldH_map, v_store_H, stH_one, upd_same, upd_cons_ne, upd_nil, v_box, v_fld, eqs_nils, eqs_sl, v_eqs_ii, v_neqs_ii, sel_andt, sel_andf, sel_nandt, sel_nandf, encI, Int.toNat_natCast, lq_e, lq_r, Bool.not_true, Bool.not_false, Bool.false_eq_true, reduceIte, decide_true, decide_false, v_build_fill, v_buildS_fill, fill_nil, fill_cons, AV.cells, putL, chunk, List.length_cons, List.length_nil, Nat.reduceAdd, Nat.reduceDiv, Nat.reduceMod, List.take_succ_cons, List.take_zero, List.take_nil, List.drop_succ_cons, List.drop_zero, List.drop_nil, List.cons_append, List.nil_append, List.append_nil, List.all_cons, List.all_nil, AV.one, Nat.reduceLeDiff, and_self, and_true, true_and, Nat.zero_add, ne_eq, Nat.succ_ne_zero, not_false_eq_true, Bool.and_self, Nat.reduceEqDiff, Nat.le_refl, res62, q62_0_ret, q62_0_e0, vt62, vt62_1, vt62_2, V62, V62_1, V62_2, k62_0, k62_1, k62_3, k62_4, k62_2, k62_5, k62_7, k62_8, k62_6, k62_9, k62_10, k62_11, hs', hg']
        have hlen : ((w.acts ++ (g.take i).map fun c => (2, (f : Int), c)).map encA).length = w.acts.length + i := by simp; omega
        have hlast : (w.acts ++ (g.take i).map fun c => (2, (f : Int), c)).map encA ++ [[.int .i64 2, .int .i64 f, .int .i64 (nth g i)]] = (w.acts ++ (g.take (i + 1)).map fun c => (2, (f : Int), c)).map encA := by
          rw [take_succ_nth (by omega)]
          simp [encA]
        refine push_lab ho' hf' (by omega) (by omega) (by decide) (by rw [hlen]; omega) (by rw [hlen]; omega) (fun x' H2 l2 f2 hx2 ho2 hf2 hkb => ?_)
        rw [hlen] at hx2
        rw [hlast] at ho2
        subst hx2
        have hx42 : ∀ {k o}, H' k = some o → (∀ e i n, xa' ≠ .sl k e i n) → H2 k = some o := fun h1 h2 => hkb _ _ h1 h2
        have hs2 := hx42 hs' (own_labs ho' hs' (by decide))
        have hg2 := hx42 hg' (own_labs ho' hg' (by decide))
        simp (disch := omega) only [sel_t, sel_f, sel_dt, sel_df, sel_nt, sel_nf, v_lss, v_leq, v_gtr, v_geq, v_eql, v_neq, v_add, v_sub, v_not, v_min, v_max, v_pick_t, v_pick_f, v_ext0, v_ext1, v_ext2, v_len_isl, List.length_map, v_len_nils, v_len_sl0, v_len_sl, v_ix_map, v_ix_sl, v_nil_ptr, v_nil_iptr, v_fa_ptr, v_fa_iptr, cell_0, cell_s, cell_a2, cell_a3, cell_a7, cell_a10, v_load_map, v_load_r1, v_call_fn, v_call_fnS, v_load_H, ldH_one, ldH_map, v_store_H, stH_one, upd_same, upd_cons_ne, upd_nil, v_box, v_fld, eqs_nils, eqs_sl, v_eqs_ii, v_neqs_ii, sel_andt, sel_andf, sel_nandt, sel_nandf, encI, Int.toNat_natCast, lq_e, lq_r, Bool.not_true, Bool.not_false, Bool.false_eq_true, reduceIte, decide_true, decide_false, v_build_fill, v_buildS_fill, fill_nil, fill_cons, AV.cells, putL, chunk, List.length_cons, List.length_nil, Nat.reduceAdd, Nat.reduceDiv, Nat.reduceMod, List.take_succ_cons, List.take_zero, List.take_nil, List.drop_succ_cons, List.drop_zero, List.drop_nil, List.cons_append, List.nil_append, List.append_nil, List.all_cons, List.all_nil, AV.one, Nat.reduceLeDiff, and_self, and_true, true_and, Nat.zero_add, ne_eq, Nat.succ_ne_zero, not_false_eq_true, Bool.and_self, Nat.reduceEqDiff, Nat.le_refl, res62, q62_0_ret, q62_0_e0, vt62, vt62_1, vt62_2, V62, V62_1, V62_2, k62_0, k62_1, k62_3, k62_4, k62_2, k62_5, k62_7, k62_8, k62_6, k62_9, k62_10, k62_11, hs2]
        refine lq_n (N - (i + 1)) (by omega) ⟨i + 1, .sl ((14 + 19 * i + 1 + 12) :: q) 3 0 (w.acts.length + i + 1), rfl, by omega, rfl, by omega, upd_same, ?_, by omega, fun _ => by rw [show 14 + 19 * i + 1 + 12 = 8 + 19 * (i + 1) by omega]; rfl, ?_, ?_, fun k o hk1 hk2 hk3 => ?_⟩
        · refine ho2.mono' fun l hl => ?_
          rw [upd_ne (fun e => by rw [e, hs2] at hl; cases hl)]; exact hl
        · rw [upd_ne (Ne.symm hlw59)]; exact hg2
        · exact (hf2.mono (by omega)).old (by rw [hs2]; simp)
        · rw [upd_ne hk2, upd_nil]
          refine hkb _ _ (hk' k o hk1 hk2 hk3) (fun e j n hx => ?_)
          rcases Nat.eq_zero_or_pos i with h0 | h0
          · rw [hx0 h0] at hx; exact hk3 _ _ _ hx
          · rw [hx1 h0] at hx; cases hx
            exact absurd hk1 (by rw [show H ((8 + 19 * i) :: q) = none from hfk [] _]; simp)
      · obtain rfl : i = N := by omega
        have hxN := hx1 (by omega)
        rw [List.take_of_length_le (by omega)] at ho'
        have hlb' : H' lab = some (.rows 1 (w.line.map encI)) := hk' _ _ hlab (Ne.symm hlwlb) (own_labs h.a hlab (by decide))
        have hdel := delete_sl (q := (14 + 19 * i + 1 + 3 + 8) :: q) (off := 0) (n := w.line.length) (i := f) (j := t) hlb' (by simp) (by omega) hl (by omega)
        have erow : ((w.line.map encI).drop 0).take f ++ ((w.line.map encI).drop (0 + t)).take (w.line.length - t) = (w.line.take f ++ w.line.drop t).map encI := by
          rw [Nat.zero_add, List.drop_zero, List.take_of_length_le (l := (w.line.map encI).drop t) (by simp)]
          simp [List.map_take, List.map_drop]
        rw [erow] at hdel
        rw [show 14 + 19 * i + 1 + 3 + 8 = ln by omega] at hdel ⊢
        refine call_res hdel ?_
        have hs4 : upd [(ln :: q, some (.rows 1 ((w.line.take f ++ w.line.drop t).map encI))), (lab, none)] H' lw = some (.rows 4 [[.sl lab 1 0 w.line.length, .int .i64 w.pos, xk, xa']]) := by
          rw [upd_ne (hlw5 _), upd_ne hlwlb, upd_nil]; exact hs'
        simp (disch := omega) only [sel_t, sel_f, sel_dt, sel_df, sel_nt, sel_nf, v_lss, v_leq, v_gtr, v_geq, v_eql, v_neq, v_add, v_sub, v_not, v_min, v_max, v_pick_t, v_pick_f, v_ext0, v_ext1, v_ext2, v_len_isl, List.length_map, v_len_nils, v_len_sl0, v_len_sl, v_ix_map, v_ix_sl, v_nil_ptr, v_nil_iptr, v_fa_ptr, v_fa_iptr, cell_0, cell_s, cell_a2, cell_a3, cell_a7, cell_a10, v_load_map, v_load_r1, v_call_fn, v_call_fnS, v_load_H, ldH_one, ldH_map, v_store_H, stH_one, upd_same, upd_cons_ne, upd_nil, v_box, v_fld, eqs_nils, eqs_sl, v_eqs_ii, v_neqs_ii, sel_andt, sel_andf, sel_nandt, sel_nandf, encI, Int.toNat_natCast, lq_e, lq_r, Bool.not_true, Bool.not_false, Bool.false_eq_true, reduceIte, decide_true, decide_false, v_build_fill, v_buildS_fill, fill_nil, fill_cons, AV.cells, putL, chunk, List.length_cons, List.length_nil, Nat.reduceAdd, Nat.reduceDiv, Nat.reduceMod, List.take_succ_cons, List.take_zero, List.take_nil, List.drop_succ_cons, List.drop_zero, List.drop_nil, List.cons_append, List.nil_append, List.append_nil, List.all_cons, List.all_nil, AV.one, Nat.reduceLeDiff, and_self, and_true, true_and, Nat.zero_add, ne_eq, Nat.succ_ne_zero, not_false_eq_true, Bool.and_self, Nat.reduceEqDiff, Nat.le_refl, res62, q62_0_ret, q62_0_e0, vt62, vt62_1, vt62_2, V62, V62_1, V62_2, k62_0, k62_1, k62_3, k62_4, k62_2, k62_5, k62_7, k62_8, k62_6, k62_9, k62_10, k62_11, hs4]
        subst hxN
        have han : H' (an :: q) = some (.rows 3 ((w.acts ++ g.map fun c => (2, (f : Int), c)).map encA)) := by
          rcases ho' with ⟨h1, _⟩ | ⟨l, h1, h2⟩
          · cases h1
          · injection h1 with e1; rw [← e1] at h2; exact h2
        refine ⟨.inr rfl, _, by simp [aRes, aResL, aRes1, rget], .refl _, fun k o hk => ?_⟩
        have h1 : (an :: q) ≠ (ln :: q) := fun e => by simp at e; omega
        by_cases k1 : k = lw
        · subst k1; rw [upd_same] at hk ⊢; exact hk
        rw [upd_ne k1, upd_nil, upd_ne k1, upd_nil]
        rw [upd_ne k1] at hk
        by_cases k2 : k = 5 :: 9 :: q
        · subst k2; rw [upd_same] at hk; rw [upd_ne (by simp), upd_ne (Ne.symm hlb59), upd_nil, hg', ← hk]
        rw [upd_ne k2] at hk
        by_cases k3 : k = an :: q
        · subst k3; rw [upd_same] at hk; rw [upd_ne h1, upd_ne (Ne.symm (hlb5 _)), upd_nil, han, ← hk]
        rw [upd_ne k3] at hk
        by_cases k4 : k = ln :: q
        · subst k4; rw [upd_same] at hk ⊢; exact hk
        rw [upd_ne k4] at hk ⊢
        by_cases k5 : k = lab
        · subst k5; rw [upd_same] at hk; cases hk
        rw [upd_ne k5] at hk ⊢
        obtain ⟨hn, hk⟩ := upd_nones hk
        exact hk' k o hk k1 (fun e i n hx => hn (by simp [hx, labs]))
  · have hH : ∀ {k o}, H k = some o → k ≠ lw → k ≠ lab → (∀ e i n, xa ≠ .sl k e i n) → upd ([(lw, some (.rows 4 [[.sl (ln :: q) 1 0 (f + (w.line.length - t)), .int .i64 f, xk, .sl (an :: q) 3 0 (w.acts.length + N)]])), (5 :: 9 :: q, some (.rows 1 (g.map encI))), (an :: q, some (.rows 3 ((w.acts ++ g.map fun c => (2, (f : Int), c)).map encA))), (ln :: q, some (.rows 1 ((w.line.take f ++ w.line.drop t).map encI))), (lab, none)] ++ (labs xa).map fun l => (l, none)) H k = some o := fun {k o} hk h1 h2 h3 => by
      simp only [List.cons_append, List.nil_append]
      rw [upd_ne h1, upd_ne (hne59 hk), upd_ne (hne1 hk an), upd_ne (hne1 hk ln), upd_ne h2, upd_out, hk]
      intro p hp e
      obtain ⟨l, hl, rfl⟩ := List.mem_map.1 hp
      subst e
      cases xa <;> simp [labs] at hl
      subst hl
      exact h3 _ _ _ rfl
    have h1 : (an :: q) ≠ (ln :: q) := fun e => by simp at e; omega
    have hy : ListE (upd ([(lw, some (.rows 4 [[.sl (ln :: q) 1 0 (f + (w.line.length - t)), .int .i64 f, xk, .sl (an :: q) 3 0 (w.acts.length + N)]])), (5 :: 9 :: q, some (.rows 1 (g.map encI))), (an :: q, some (.rows 3 ((w.acts ++ g.map fun c => (2, (f : Int), c)).map encA))), (ln :: q, some (.rows 1 ((w.line.take f ++ w.line.drop t).map encI))), (lab, none)] ++ (labs xa).map fun l => (l, none)) H) (.sl (5 :: 9 :: q) 1 0 N) g := .inr ⟨_, by rw [hgl], by simp only [List.cons_append, List.nil_append]; rw [upd_ne (Ne.symm hlw59), upd_same]⟩
    refine ⟨hg ▸ hy, .sl (ln :: q) 1 0 (f + (w.line.length - t)), .sl (an :: q) 3 0 (w.acts.length + N), ⟨?_, .inr ⟨ln :: q, ?_, ?_⟩, ?_, .inr ⟨an :: q, ?_, ?_⟩, ?_⟩, ?_⟩
    · simp only [List.cons_append, List.nil_append, upd_same, hcw]
    · rw [hcw]; simp; omega
    · simp only [List.cons_append, List.nil_append, hcw]
      rw [upd_ne (Ne.symm (hlw5 _)), upd_ne (by simp), upd_ne (Ne.symm h1), upd_same]
    · rw [hcw]
      refine h.k.mono (fun l n e hk => hH hk (fun e => by rw [e, hs] at hk; cases hk) (fun e' => h.ne _ _ _ rfl (e' ▸ e)) (own_labs h.a hk (by decide)))
    · rw [hcw]; simp [hgl]
    · simp only [List.cons_append, List.nil_append, hcw]
      rw [upd_ne (Ne.symm (hlw5 _)), upd_ne (by simp), upd_same]
    · intro l n m e e'
      cases e
      rcases h.k with ⟨h1, _⟩ | ⟨l, h1, h2⟩ <;> rw [h1] at e' <;> cases e'
      rw [show H (ln :: q) = none from hfk [] _] at h2; cases h2
    · intro l n m e e'
      cases e
      simp at e'
theorem cut_det {H : Heap} {q lw : Lab} {xl xk xa : AV} {w : Wk} (h : WorkI H lw xl xk xa w) (hf : Fresh q 0 H) (f t : Nat) (hft : f ≤ t) (hl : t ≤ w.line.length) (hb : w.line.length ≤ 1000000) (ha : w.acts.length ≤ 1000000) :
    ∃ y u, SoundRes Try.prog 62 [.ptr lw 4 0 0, .int .i64 f, .int .i64 t] H q ⟨y, u, none⟩ ∧ CutR H lw xk w f t y u := by
  rcases Nat.lt_or_ge f t with h1 | h1
  · exact cut_some h hf f t h1 hl hb ha
  · obtain rfl : f = t := by omega
    exact cut_none h hf f hl
def killW (w : Wk) (f t : Nat) : Wk := if f < t then { cutW w f t with kill := cutG w f t } else w
theorem cutG_len {w : Wk} {f t : Nat} (hft : f ≤ t) (hl : t ≤ w.line.length) : (cutG w f t).length = t - f := by simp [cutG]; omega
theorem kill_det {H : Heap} {q lw : Lab} {xl xk xa : AV} {w : Wk} (h : WorkI H lw xl xk xa w) (hf : Fresh q 0 H) (f t : Nat) (hft : f ≤ t) (hl : t ≤ w.line.length) (hb : w.line.length ≤ 1000000) (ha : w.acts.length ≤ 1000000) :
    ∃ y u, SoundRes Try.prog 63 [.ptr lw 4 0 0, .int .i64 f, .int .i64 t] H q ⟨y, u, none⟩ ∧ ∃ xl' xk' xa', WorkI (upd u H) lw xl' xk' xa' (killW w f t) := by
  have hs0 := h.s
  obtain ⟨y, uc, hc, hy, xl', xa', hw, hne⟩ := cut_det (q := 3 :: q) h (hf.mono (Nat.zero_le 3)).callee f t hft hl hb ha
  have hs := hw.s
  have hlen := @cutG_len w f t hft hl
  have huc : ∀ l, Chg.has uc l → H l ≠ none ∨ Under q l := fun l hl => (hc.2.1 l hl).imp id fun ⟨s, hs⟩ => ⟨s ++ [3], by simpa using hs⟩
  by_cases hlt : f < t
  · have hcw : cutW w f t = ⟨w.line.take f ++ w.line.drop t, f, w.kill, w.acts ++ (cutG w f t).map fun c => (2, (f : Int), c)⟩ := by rw [cutW, if_pos hlt]
    obtain ⟨ly, rfl, hly⟩ : ∃ ly, y = .sl ly 1 0 (cutG w f t).length ∧ upd uc H ly = some (.rows 1 ((cutG w f t).map encI)) := by
      rcases hy with ⟨_, h1⟩ | h1
      · rw [h1] at hlen; simp at hlen; omega
      · exact h1
    have hlylw : ly ≠ lw := fun e => by rw [e, hs] at hly; cases hly
    refine ⟨.tuple [], (lw, some (.rows 4 [[xl', .int .i64 f, .sl ly 1 0 (cutG w f t).length, xa']])) :: uc, ?_, xl', .sl ly 1 0 (cutG w f t).length, xa', ?_⟩
    · refine sound_vc Try.mixed ok63 rfl (fun l hl => ?_) ?_
      · rw [show restr H none = H from rfl]
        obtain ⟨p, hp, rfl⟩ := hl
        rcases List.mem_cons.1 hp with rfl | hp
        · exact .inl (by rw [hs0]; simp)
        · exact huc _ ⟨p, hp, rfl⟩
      rw [show restr H none = H from rfl]
      simp only [params, Nat.zero_add, Nat.reduceAdd]
      simp (disch := omega) only [sel_t, sel_f, sel_dt, sel_df, sel_nt, sel_nf, v_lss, v_leq, v_gtr, v_geq, v_eql, v_neq, v_add, v_sub, v_not, v_min, v_max, v_pick_t, v_pick_f, v_ext0, v_ext1, v_ext2, v_len_isl, List.length_map, v_len_nils, v_len_sl0, v_len_sl, v_ix_map, v_ix_sl, v_nil_ptr, v_nil_iptr, v_fa_ptr, v_fa_iptr, cell_0, cell_s, cell_a2, cell_a3, cell_a7, cell_a10, v_load_map, v_load_r1, v_call_fn, v_call_fnS, v_load_H, ldH_one, ldH_map, v_store_H, stH_one, upd_same, upd_cons_ne, upd_nil, v_box, v_fld, eqs_nils, eqs_sl, v_eqs_ii, v_neqs_ii, sel_andt, sel_andf, sel_nandt, sel_nandf, encI, Int.toNat_natCast, lq_e, lq_r, Bool.not_true, Bool.not_false, Bool.false_eq_true, reduceIte, decide_true, decide_false, v_build_fill, v_buildS_fill, fill_nil, fill_cons, AV.cells, putL, chunk, List.length_cons, List.length_nil, Nat.reduceAdd, Nat.reduceDiv, Nat.reduceMod, List.take_succ_cons, List.take_zero, List.take_nil, List.drop_succ_cons, List.drop_zero, List.drop_nil, List.cons_append, List.nil_append, List.append_nil, List.all_cons, List.all_nil, AV.one, Nat.reduceLeDiff, and_self, and_true, true_and, Nat.zero_add, ne_eq, Nat.succ_ne_zero, not_false_eq_true, Bool.and_self, Nat.reduceEqDiff, Nat.le_refl, res63, vt63, V63, k63_0, k63_1, k63_2]
      refine call_res hc ?_
      rw [hcw] at hs
      simp (disch := omega) only [sel_t, sel_f, sel_dt, sel_df, sel_nt, sel_nf, v_lss, v_leq, v_gtr, v_geq, v_eql, v_neq, v_add, v_sub, v_not, v_min, v_max, v_pick_t, v_pick_f, v_ext0, v_ext1, v_ext2, v_len_isl, List.length_map, v_len_nils, v_len_sl0, v_len_sl, v_ix_map, v_ix_sl, v_nil_ptr, v_nil_iptr, v_fa_ptr, v_fa_iptr, cell_0, cell_s, cell_a2, cell_a3, cell_a7, cell_a10, v_load_map, v_load_r1, v_call_fn, v_call_fnS, v_load_H, ldH_one, ldH_map, v_store_H, stH_one, upd_same, upd_cons_ne, upd_nil, v_box, v_fld, eqs_nils, eqs_sl, v_eqs_ii, v_neqs_ii, sel_andt, sel_andf, sel_nandt, sel_nandf, encI, Int.toNat_natCast, lq_e, lq_r, Bool.not_true, Bool.not_false, Bool.false_eq_true, reduceIte, decide_true, decide_false, v_build_fill, v_buildS_fill, fill_nil, fill_cons, AV.cells, putL, chunk, List.length_cons, List.length_nil, Nat.reduceAdd, Nat.reduceDiv, Nat.reduceMod, List.take_succ_cons, List.take_zero, List.take_nil, List.drop_succ_cons, List.drop_zero, List.drop_nil, List.cons_append, List.nil_append, List.append_nil, List.all_cons, List.all_nil, AV.one, Nat.reduceLeDiff, and_self, and_true, true_and, Nat.zero_add, ne_eq, Nat.succ_ne_zero, not_false_eq_true, Bool.and_self, Nat.reduceEqDiff, Nat.le_refl, res63, vt63, V63, k63_0, k63_1, k63_2, hs]
      refine ⟨.inl rfl, .tuple [], by simp [aRes, aResL], .refl _, fun k o hk => ?_⟩
      by_cases k1 : k = lw
      · subst k1; rw [upd_same] at hk ⊢; exact hk
      · rw [upd_ne k1] at hk ⊢; exact hk
    · rw [killW, if_pos hlt, hcw]
      rw [hcw] at hw
      have ho : ∀ {k o}, upd uc H k = some o → k ≠ lw → upd ((lw, some (.rows 4 [[xl', .int .i64 f, .sl ly 1 0 (cutG w f t).length, xa']])) :: uc) H k = some o := fun h1 h2 => by rw [upd_ne h2]; exact h1
      have hd : ∀ {k e rs}, upd uc H k = some (.rows e rs) → e ≠ 4 → k ≠ lw := fun h1 h2 e => by rw [e, hw.s] at h1; cases h1; exact h2 rfl
      refine ⟨upd_same, hw.l.mono fun l n e hk => ho hk (hd hk (by decide)), .inr ⟨ly, rfl, ho hly hlylw⟩, hw.a.mono' fun l hk => ho hk (hd hk (by decide)), fun l n m e e' => hne l n _ e (by cases e'; rfl)⟩
  · refine ⟨.tuple [], uc, ?_, xl', xk, xa', by rw [killW, if_neg hlt]; rw [cutW, if_neg hlt] at hw; exact hw⟩
    refine sound_vc Try.mixed ok63 rfl (fun l hl => ?_) ?_
    · rw [show restr H none = H from rfl]; exact huc l hl
    rw [show restr H none = H from rfl]
    simp only [params, Nat.zero_add, Nat.reduceAdd]
    simp (disch := omega) only [sel_t, sel_f, sel_dt, sel_df, sel_nt, sel_nf, v_lss, v_leq, v_gtr, v_geq, v_eql, v_neq, v_add, v_sub, v_not, v_min, v_max, v_pick_t, v_pick_f, v_ext0, v_ext1, v_ext2, v_len_isl, List.length_map, v_len_nils, v_len_sl0, v_len_sl, v_ix_map, v_ix_sl, v_nil_ptr, v_nil_iptr, v_fa_ptr, v_fa_iptr, cell_0, cell_s, cell_a2, cell_a3, cell_a7, cell_a10, v_load_map, v_load_r1, v_call_fn, v_call_fnS, v_load_H, ldH_one, ldH_map, v_store_H, stH_one, upd_same, upd_cons_ne, upd_nil, v_box, v_fld, eqs_nils, eqs_sl, v_eqs_ii, v_neqs_ii, sel_andt, sel_andf, sel_nandt, sel_nandf, encI, Int.toNat_natCast, lq_e, lq_r, Bool.not_true, Bool.not_false, Bool.false_eq_true, reduceIte, decide_true, decide_false, v_build_fill, v_buildS_fill, fill_nil, fill_cons, AV.cells, putL, chunk, List.length_cons, List.length_nil, Nat.reduceAdd, Nat.reduceDiv, Nat.reduceMod, List.take_succ_cons, List.take_zero, List.take_nil, List.drop_succ_cons, List.drop_zero, List.drop_nil, List.cons_append, List.nil_append, List.append_nil, List.all_cons, List.all_nil, AV.one, Nat.reduceLeDiff, and_self, and_true, true_and, Nat.zero_add, ne_eq, Nat.succ_ne_zero, not_false_eq_true, Bool.and_self, Nat.reduceEqDiff, Nat.le_refl, res63, vt63, V63, k63_0, k63_1, k63_2]
    refine call_res hc ?_
    have h0 : (cutG w f t).length = 0 := by omega
    have hyl := @ListE.len _ _ _ hy
    rw [h0] at hyl
    simp (disch := omega) only [sel_t, sel_f, sel_dt, sel_df, sel_nt, sel_nf, v_lss, v_leq, v_gtr, v_geq, v_eql, v_neq, v_add, v_sub, v_not, v_min, v_max, v_pick_t, v_pick_f, v_ext0, v_ext1, v_ext2, v_len_isl, List.length_map, v_len_nils, v_len_sl0, v_len_sl, v_ix_map, v_ix_sl, v_nil_ptr, v_nil_iptr, v_fa_ptr, v_fa_iptr, cell_0, cell_s, cell_a2, cell_a3, cell_a7, cell_a10, v_load_map, v_load_r1, v_call_fn, v_call_fnS, v_load_H, ldH_one, ldH_map, v_store_H, stH_one, upd_same, upd_cons_ne, upd_nil, v_box, v_fld, eqs_nils, eqs_sl, v_eqs_ii, v_neqs_ii, sel_andt, sel_andf, sel_nandt, sel_nandf, encI, Int.toNat_natCast, lq_e, lq_r, Bool.not_true, Bool.not_false, Bool.false_eq_true, reduceIte, decide_true, decide_false, v_build_fill, v_buildS_fill, fill_nil, fill_cons, AV.cells, putL, chunk, List.length_cons, List.length_nil, Nat.reduceAdd, Nat.reduceDiv, Nat.reduceMod, List.take_succ_cons, List.take_zero, List.take_nil, List.drop_succ_cons, List.drop_zero, List.drop_nil, List.cons_append, List.nil_append, List.append_nil, List.all_cons, List.all_nil, AV.one, Nat.reduceLeDiff, and_self, and_true, true_and, Nat.zero_add, ne_eq, Nat.succ_ne_zero, not_false_eq_true, Bool.and_self, Nat.reduceEqDiff, Nat.le_refl, res63, vt63, V63, k63_0, k63_1, k63_2, hyl]
    exact ⟨.inl rfl, .tuple [], by simp [aRes, aResL], .refl _, fun k o hk => hk⟩
end
/-! What keys do: the ways, one by one. -/
section
def KeyR (H : Heap) (lw : Lab) (w' : Wk) : AV → Chg → Prop := fun _ u => ∃ xl' xk' xa', WorkI (upd u H) lw xl' xk' xa' w'
structure Wk.Ok (w : Wk) : Prop where
  p : w.pos ≤ w.line.length
  l : w.line.length ≤ 1000000
  k : w.kill.length ≤ 400000
  a : w.acts.length ≤ 500000
def KeyE (f : Nat) (spec : Wk → Wk) : Prop := ∀ {H : Heap} {q lw : Lab} {xl xk xa : AV} {w : Wk}, WorkI H lw xl xk xa w → Fresh q 0 H → w.Ok → SoundE Try.prog f [.ptr lw 4 0 0] H q (KeyR H lw (spec w))
theorem WorkI.at {H : Heap} {lw : Lab} {xl xk xa : AV} {w : Wk} (h : WorkI H lw xl xk xa w) (n : Nat) : WorkI (upd [(lw, some (.rows 4 [[xl, .int .i64 n, xk, xa]]))] H) lw xl xk xa { w with pos := n } := by
  have hk : ∀ k e rs, e ≠ 4 → H k = some (.rows e rs) → upd [(lw, some (.rows 4 [[xl, .int .i64 n, xk, xa]]))] H k = some (.rows e rs) := fun k e rs he hk => by
    rw [upd_ne (fun e' => by rw [e', h.s] at hk; cases hk; exact he rfl)]; exact hk
  exact ⟨upd_same, h.l.mono fun _ _ _ h1 => hk _ _ _ (by decide) h1, h.k.mono fun _ _ _ h1 => hk _ _ _ (by decide) h1, h.a.mono' fun _ h1 => hk _ _ _ (by decide) h1, h.ne⟩
/-- the caret alone is changed -/
theorem pos_end {H : Heap} {q lw : Lab} {xl xk xa : AV} {w : Wk} (h : WorkI H lw xl xk xa w) {p' : Int} (n : Nat) (hp : p' = n) {c : Nat} : VRE q H [] (KeyR H lw { w with pos := n }) .normal [] (upd [(lw, some (.rows 4 [[xl, .int .i64 p', xk, xa]]))] H) c := by
  subst hp
  refine ⟨.inl rfl, .tuple [], .tuple [], [(lw, some (.rows 4 [[xl, .int .i64 n, xk, xa]]))], by simp [aRes, aResL], ⟨xl, xk, xa, h.at n⟩, fun l hl => by rw [has_one hl, h.s]; exact .inl (by simp), .refl _, fun l o hl => hl⟩
theorem ListE.fr {H : Heap} {x : AV} {l : List Int} (h : ListE H x l) : Fr (fun l => H l ≠ none) H x (il l) := by
  rcases h with ⟨rfl, rfl⟩ | ⟨lab, rfl, h⟩
  · exact .sl0 _
  · exact .of_own (rows := l.map encI) (.inr ⟨_, by rw [List.length_map], h⟩) rowOk_ints
theorem home_key : KeyE 43 fun w => { w with pos := 0 } := by
  intro H q lw xl xk xa w h hf hok
  refine soundE_vc Try.mixed ok43 rfl ?_
  have hs := h.s
  simp only [params, Nat.zero_add, Nat.reduceAdd]
  simp (disch := omega) only [sel_t, sel_f, sel_dt, sel_df, sel_nt, sel_nf, v_lss, v_leq, v_gtr, v_geq, v_eql, v_neq, v_add, v_sub, v_not, v_min, v_max, v_pick_t, v_pick_f, v_ext0, v_ext1, v_ext2, v_len_isl, List.length_map, v_len_nils, v_len_sl0, v_len_sl, v_ix_map, v_ix_sl, v_nil_ptr, v_nil_iptr, v_fa_ptr, v_fa_iptr, cell_0, cell_s, cell_a2, cell_a3, cell_a7, cell_a10, v_load_map, v_load_r1, v_call_fn, v_call_fnS, v_load_H, ldH_one, ldH_map, v_store_H, stH_one, upd_same, upd_cons_ne, upd_nil, v_box, v_fld, eqs_nils, eqs_sl, v_eqs_ii, v_neqs_ii, sel_andt, sel_andf, sel_nandt, sel_nandf, encI, Int.toNat_natCast, lq_e, lq_r, Bool.not_true, Bool.not_false, Bool.false_eq_true, reduceIte, decide_true, decide_false, v_build_fill, v_buildS_fill, fill_nil, fill_cons, AV.cells, putL, chunk, List.length_cons, List.length_nil, Nat.reduceAdd, Nat.reduceDiv, Nat.reduceMod, List.take_succ_cons, List.take_zero, List.take_nil, List.drop_succ_cons, List.drop_zero, List.drop_nil, List.cons_append, List.nil_append, List.append_nil, List.all_cons, List.all_nil, AV.one, Nat.reduceLeDiff, and_self, and_true, true_and, Nat.zero_add, ne_eq, Nat.succ_ne_zero, not_false_eq_true, Bool.and_self, Nat.reduceEqDiff, Nat.le_refl, res43, vt43, V43, hs]
  exact pos_end h 0 rfl
theorem end_key : KeyE 44 fun w => { w with pos := w.line.length } := by
  intro H q lw xl xk xa w h hf hok
  refine soundE_vc Try.mixed ok44 rfl ?_
  have hs := h.s
  have hll : ∀ {K : AV → Prop}, vLen xl K = K (.int .i64 w.line.length) := h.l.len
  simp only [params, Nat.zero_add, Nat.reduceAdd]
  simp (disch := omega) only [sel_t, sel_f, sel_dt, sel_df, sel_nt, sel_nf, v_lss, v_leq, v_gtr, v_geq, v_eql, v_neq, v_add, v_sub, v_not, v_min, v_max, v_pick_t, v_pick_f, v_ext0, v_ext1, v_ext2, v_len_isl, List.length_map, v_len_nils, v_len_sl0, v_len_sl, v_ix_map, v_ix_sl, v_nil_ptr, v_nil_iptr, v_fa_ptr, v_fa_iptr, cell_0, cell_s, cell_a2, cell_a3, cell_a7, cell_a10, v_load_map, v_load_r1, v_call_fn, v_call_fnS, v_load_H, ldH_one, ldH_map, v_store_H, stH_one, upd_same, upd_cons_ne, upd_nil, v_box, v_fld, eqs_nils, eqs_sl, v_eqs_ii, v_neqs_ii, sel_andt, sel_andf, sel_nandt, sel_nandf, encI, Int.toNat_natCast, lq_e, lq_r, Bool.not_true, Bool.not_false, Bool.false_eq_true, reduceIte, decide_true, decide_false, v_build_fill, v_buildS_fill, fill_nil, fill_cons, AV.cells, putL, chunk, List.length_cons, List.length_nil, Nat.reduceAdd, Nat.reduceDiv, Nat.reduceMod, List.take_succ_cons, List.take_zero, List.take_nil, List.drop_succ_cons, List.drop_zero, List.drop_nil, List.cons_append, List.nil_append, List.append_nil, List.all_cons, List.all_nil, AV.one, Nat.reduceLeDiff, and_self, and_true, true_and, Nat.zero_add, ne_eq, Nat.succ_ne_zero, not_false_eq_true, Bool.and_self, Nat.reduceEqDiff, Nat.le_refl, res44, vt44, V44, hs, hll]
  exact pos_end h _ rfl
theorem left_key : KeyE 45 fun w => { w with pos := heldN w.line.length (w.pos - 1) } := by
  intro H q lw xl xk xa w h hf hok
  refine soundE_vc Try.mixed ok45 rfl ?_
  have hs := h.s
  have ⟨hp, hl, _, _⟩ := hok
  simp only [params, Nat.zero_add, Nat.reduceAdd]
  simp (disch := omega) only [sel_t, sel_f, sel_dt, sel_df, sel_nt, sel_nf, v_lss, v_leq, v_gtr, v_geq, v_eql, v_neq, v_add, v_sub, v_not, v_min, v_max, v_pick_t, v_pick_f, v_ext0, v_ext1, v_ext2, v_len_isl, List.length_map, v_len_nils, v_len_sl0, v_len_sl, v_ix_map, v_ix_sl, v_nil_ptr, v_nil_iptr, v_fa_ptr, v_fa_iptr, cell_0, cell_s, cell_a2, cell_a3, cell_a7, cell_a10, v_load_map, v_load_r1, v_call_fn, v_call_fnS, v_load_H, ldH_one, ldH_map, v_store_H, stH_one, upd_same, upd_cons_ne, upd_nil, v_box, v_fld, eqs_nils, eqs_sl, v_eqs_ii, v_neqs_ii, sel_andt, sel_andf, sel_nandt, sel_nandf, encI, Int.toNat_natCast, lq_e, lq_r, Bool.not_true, Bool.not_false, Bool.false_eq_true, reduceIte, decide_true, decide_false, v_build_fill, v_buildS_fill, fill_nil, fill_cons, AV.cells, putL, chunk, List.length_cons, List.length_nil, Nat.reduceAdd, Nat.reduceDiv, Nat.reduceMod, List.take_succ_cons, List.take_zero, List.take_nil, List.drop_succ_cons, List.drop_zero, List.drop_nil, List.cons_append, List.nil_append, List.append_nil, List.all_cons, List.all_nil, AV.one, Nat.reduceLeDiff, and_self, and_true, true_and, Nat.zero_add, ne_eq, Nat.succ_ne_zero, not_false_eq_true, Bool.and_self, Nat.reduceEqDiff, Nat.le_refl, res45, vt45, V45, k45_0, k45_1, hs]
  refine call_lend (held_pure w.line (w.pos - 1)) rfl (.cons h.l.fr (.cons (.refl _) .nil)) ?_
  simp (disch := omega) only [sel_t, sel_f, sel_dt, sel_df, sel_nt, sel_nf, v_lss, v_leq, v_gtr, v_geq, v_eql, v_neq, v_add, v_sub, v_not, v_min, v_max, v_pick_t, v_pick_f, v_ext0, v_ext1, v_ext2, v_len_isl, List.length_map, v_len_nils, v_len_sl0, v_len_sl, v_ix_map, v_ix_sl, v_nil_ptr, v_nil_iptr, v_fa_ptr, v_fa_iptr, cell_0, cell_s, cell_a2, cell_a3, cell_a7, cell_a10, v_load_map, v_load_r1, v_call_fn, v_call_fnS, v_load_H, ldH_one, ldH_map, v_store_H, stH_one, upd_same, upd_cons_ne, upd_nil, v_box, v_fld, eqs_nils, eqs_sl, v_eqs_ii, v_neqs_ii, sel_andt, sel_andf, sel_nandt, sel_nandf, encI, Int.toNat_natCast, lq_e, lq_r, Bool.not_true, Bool.not_false, Bool.false_eq_true, reduceIte, decide_true, decide_false, v_build_fill, v_buildS_fill, fill_nil, fill_cons, AV.cells, putL, chunk, List.length_cons, List.length_nil, Nat.reduceAdd, Nat.reduceDiv, Nat.reduceMod, List.take_succ_cons, List.take_zero, List.take_nil, List.drop_succ_cons, List.drop_zero, List.drop_nil, List.cons_append, List.nil_append, List.append_nil, List.all_cons, List.all_nil, AV.one, Nat.reduceLeDiff, and_self, and_true, true_and, Nat.zero_add, ne_eq, Nat.succ_ne_zero, not_false_eq_true, Bool.and_self, Nat.reduceEqDiff, Nat.le_refl, res45, vt45, V45, k45_0, k45_1, hs]
  refine ⟨(by (repeat' (first | exact cf_nil | exact allp_nil | refine cf_add ?_ ?_ | refine allp_add ?_ ?_)); all_goals (first | exact Or.inl rfl | exact Or.inl (by decide) | exact Or.inr ⟨by (simp (decide := true) [clash, h] <;> assumption), by (simp (decide := true) [clash, h] <;> assumption)⟩)), ?_⟩
  exact pos_end h _ rfl
theorem right_key : KeyE 46 fun w => { w with pos := heldN w.line.length (w.pos + 1) } := by
  intro H q lw xl xk xa w h hf hok
  refine soundE_vc Try.mixed ok46 rfl ?_
  have hs := h.s
  have ⟨hp, hl, _, _⟩ := hok
  simp only [params, Nat.zero_add, Nat.reduceAdd]
  simp (disch := omega) only [sel_t, sel_f, sel_dt, sel_df, sel_nt, sel_nf, v_lss, v_leq, v_gtr, v_geq, v_eql, v_neq, v_add, v_sub, v_not, v_min, v_max, v_pick_t, v_pick_f, v_ext0, v_ext1, v_ext2, v_len_isl, List.length_map, v_len_nils, v_len_sl0, v_len_sl, v_ix_map, v_ix_sl, v_nil_ptr, v_nil_iptr, v_fa_ptr, v_fa_iptr, cell_0, cell_s, cell_a2, cell_a3, cell_a7, cell_a10, v_load_map, v_load_r1, v_call_fn, v_call_fnS, v_load_H, ldH_one, ldH_map, v_store_H, stH_one, upd_same, upd_cons_ne, upd_nil, v_box, v_fld, eqs_nils, eqs_sl, v_eqs_ii, v_neqs_ii, sel_andt, sel_andf, sel_nandt, sel_nandf, encI, Int.toNat_natCast, lq_e, lq_r, Bool.not_true, Bool.not_false, Bool.false_eq_true, reduceIte, decide_true, decide_false, v_build_fill, v_buildS_fill, fill_nil, fill_cons, AV.cells, putL, chunk, List.length_cons, List.length_nil, Nat.reduceAdd, Nat.reduceDiv, Nat.reduceMod, List.take_succ_cons, List.take_zero, List.take_nil, List.drop_succ_cons, List.drop_zero, List.drop_nil, List.cons_append, List.nil_append, List.append_nil, List.all_cons, List.all_nil, AV.one, Nat.reduceLeDiff, and_self, and_true, true_and, Nat.zero_add, ne_eq, Nat.succ_ne_zero, not_false_eq_true, Bool.and_self, Nat.reduceEqDiff, Nat.le_refl, res46, vt46, V46, k46_0, k46_1, hs]
  refine call_lend (held_pure w.line (w.pos + 1)) rfl (.cons h.l.fr (.cons (.refl _) .nil)) ?_
  simp (disch := omega) only [sel_t, sel_f, sel_dt, sel_df, sel_nt, sel_nf, v_lss, v_leq, v_gtr, v_geq, v_eql, v_neq, v_add, v_sub, v_not, v_min, v_max, v_pick_t, v_pick_f, v_ext0, v_ext1, v_ext2, v_len_isl, List.length_map, v_len_nils, v_len_sl0, v_len_sl, v_ix_map, v_ix_sl, v_nil_ptr, v_nil_iptr, v_fa_ptr, v_fa_iptr, cell_0, cell_s, cell_a2, cell_a3, cell_a7, cell_a10, v_load_map, v_load_r1, v_call_fn, v_call_fnS, v_load_H, ldH_one, ldH_map, v_store_H, stH_one, upd_same, upd_cons_ne, upd_nil, v_box, v_fld, eqs_nils, eqs_sl, v_eqs_ii, v_neqs_ii, sel_andt, sel_andf, sel_nandt, sel_nandf, encI, Int.toNat_natCast, lq_e, lq_r, Bool.not_true, Bool.not_false, Bool.false_eq_true, reduceIte, decide_true, decide_false, v_build_fill, v_buildS_fill, fill_nil, fill_cons, AV.cells, putL, chunk, List.length_cons, List.length_nil, Nat.reduceAdd, Nat.reduceDiv, Nat.reduceMod, List.take_succ_cons, List.take_zero, List.take_nil, List.drop_succ_cons, List.drop_zero, List.drop_nil, List.cons_append, List.nil_append, List.append_nil, List.all_cons, List.all_nil, AV.one, Nat.reduceLeDiff, and_self, and_true, true_and, Nat.zero_add, ne_eq, Nat.succ_ne_zero, not_false_eq_true, Bool.and_self, Nat.reduceEqDiff, Nat.le_refl, res46, vt46, V46, k46_0, k46_1, hs]
  refine ⟨(by (repeat' (first | exact cf_nil | exact allp_nil | refine cf_add ?_ ?_ | refine allp_add ?_ ?_)); all_goals (first | exact Or.inl rfl | exact Or.inl (by decide) | exact Or.inr ⟨by (simp (decide := true) [clash, h] <;> assumption), by (simp (decide := true) [clash, h] <;> assumption)⟩)), ?_⟩
  exact pos_end h _ rfl
theorem wordOn_key : KeyE 55 fun w => { w with pos := wordOn w.line (heldN w.line.length w.pos) } := by
  intro H q lw xl xk xa w h hf hok
  refine soundE_vc Try.mixed ok55 rfl ?_
  have hs := h.s
  have ⟨hp, hl, _, _⟩ := hok
  simp only [params, Nat.zero_add, Nat.reduceAdd]
  simp (disch := omega) only [sel_t, sel_f, sel_dt, sel_df, sel_nt, sel_nf, v_lss, v_leq, v_gtr, v_geq, v_eql, v_neq, v_add, v_sub, v_not, v_min, v_max, v_pick_t, v_pick_f, v_ext0, v_ext1, v_ext2, v_len_isl, List.length_map, v_len_nils, v_len_sl0, v_len_sl, v_ix_map, v_ix_sl, v_nil_ptr, v_nil_iptr, v_fa_ptr, v_fa_iptr, cell_0, cell_s, cell_a2, cell_a3, cell_a7, cell_a10, v_load_map, v_load_r1, v_call_fn, v_call_fnS, v_load_H, ldH_one, ldH_map, v_store_H, stH_one, upd_same, upd_cons_ne, upd_nil, v_box, v_fld, eqs_nils, eqs_sl, v_eqs_ii, v_neqs_ii, sel_andt, sel_andf, sel_nandt, sel_nandf, encI, Int.toNat_natCast, lq_e, lq_r, Bool.not_true, Bool.not_false, Bool.false_eq_true, reduceIte, decide_true, decide_false, v_build_fill, v_buildS_fill, fill_nil, fill_cons, AV.cells, putL, chunk, List.length_cons, List.length_nil, Nat.reduceAdd, Nat.reduceDiv, Nat.reduceMod, List.take_succ_cons, List.take_zero, List.take_nil, List.drop_succ_cons, List.drop_zero, List.drop_nil, List.cons_append, List.nil_append, List.append_nil, List.all_cons, List.all_nil, AV.one, Nat.reduceLeDiff, and_self, and_true, true_and, Nat.zero_add, ne_eq, Nat.succ_ne_zero, not_false_eq_true, Bool.and_self, Nat.reduceEqDiff, Nat.le_refl, res55, vt55, V55, k55_0, k55_1, hs]
  refine call_lend (wordOn_pure w.line (by omega) w.pos) rfl (.cons h.l.fr (.cons (.refl _) (.cons (.refl _) .nil))) ?_
  simp (disch := omega) only [sel_t, sel_f, sel_dt, sel_df, sel_nt, sel_nf, v_lss, v_leq, v_gtr, v_geq, v_eql, v_neq, v_add, v_sub, v_not, v_min, v_max, v_pick_t, v_pick_f, v_ext0, v_ext1, v_ext2, v_len_isl, List.length_map, v_len_nils, v_len_sl0, v_len_sl, v_ix_map, v_ix_sl, v_nil_ptr, v_nil_iptr, v_fa_ptr, v_fa_iptr, cell_0, cell_s, cell_a2, cell_a3, cell_a7, cell_a10, v_load_map, v_load_r1, v_call_fn, v_call_fnS, v_load_H, ldH_one, ldH_map, v_store_H, stH_one, upd_same, upd_cons_ne, upd_nil, v_box, v_fld, eqs_nils, eqs_sl, v_eqs_ii, v_neqs_ii, sel_andt, sel_andf, sel_nandt, sel_nandf, encI, Int.toNat_natCast, lq_e, lq_r, Bool.not_true, Bool.not_false, Bool.false_eq_true, reduceIte, decide_true, decide_false, v_build_fill, v_buildS_fill, fill_nil, fill_cons, AV.cells, putL, chunk, List.length_cons, List.length_nil, Nat.reduceAdd, Nat.reduceDiv, Nat.reduceMod, List.take_succ_cons, List.take_zero, List.take_nil, List.drop_succ_cons, List.drop_zero, List.drop_nil, List.cons_append, List.nil_append, List.append_nil, List.all_cons, List.all_nil, AV.one, Nat.reduceLeDiff, and_self, and_true, true_and, Nat.zero_add, ne_eq, Nat.succ_ne_zero, not_false_eq_true, Bool.and_self, Nat.reduceEqDiff, Nat.le_refl, res55, vt55, V55, k55_0, k55_1, hs]
  refine ⟨(by (repeat' (first | exact cf_nil | exact allp_nil | refine cf_add ?_ ?_ | refine allp_add ?_ ?_)); all_goals (first | exact Or.inl rfl | exact Or.inl (by decide) | exact Or.inr ⟨by (simp (decide := true) [clash, h] <;> assumption), by (simp (decide := true) [clash, h] <;> assumption)⟩)), ?_⟩
  exact pos_end h _ rfl
theorem wordBack_nat {l : List Int} {a : Nat} (h : a ≤ l.length) : wordBack l a = (wordBack l a).toNat ∧ (wordBack l a).toNat ≤ a := by
  have h1 := wordOn_le (l := (l.take a).reverse) (a := 0) (Nat.zero_le _)
  rw [List.length_reverse, List.length_take] at h1
  unfold wordBack
  omega
theorem wordBack_key : KeyE 54 fun w => { w with pos := (wordBack w.line (heldN w.line.length w.pos)).toNat } := by
  intro H q lw xl xk xa w h hf hok
  refine soundE_vc Try.mixed ok54 rfl ?_
  have hs := h.s
  have ⟨hp, hl, _, _⟩ := hok
  simp only [params, Nat.zero_add, Nat.reduceAdd]
  simp (disch := omega) only [sel_t, sel_f, sel_dt, sel_df, sel_nt, sel_nf, v_lss, v_leq, v_gtr, v_geq, v_eql, v_neq, v_add, v_sub, v_not, v_min, v_max, v_pick_t, v_pick_f, v_ext0, v_ext1, v_ext2, v_len_isl, List.length_map, v_len_nils, v_len_sl0, v_len_sl, v_ix_map, v_ix_sl, v_nil_ptr, v_nil_iptr, v_fa_ptr, v_fa_iptr, cell_0, cell_s, cell_a2, cell_a3, cell_a7, cell_a10, v_load_map, v_load_r1, v_call_fn, v_call_fnS, v_load_H, ldH_one, ldH_map, v_store_H, stH_one, upd_same, upd_cons_ne, upd_nil, v_box, v_fld, eqs_nils, eqs_sl, v_eqs_ii, v_neqs_ii, sel_andt, sel_andf, sel_nandt, sel_nandf, encI, Int.toNat_natCast, lq_e, lq_r, Bool.not_true, Bool.not_false, Bool.false_eq_true, reduceIte, decide_true, decide_false, v_build_fill, v_buildS_fill, fill_nil, fill_cons, AV.cells, putL, chunk, List.length_cons, List.length_nil, Nat.reduceAdd, Nat.reduceDiv, Nat.reduceMod, List.take_succ_cons, List.take_zero, List.take_nil, List.drop_succ_cons, List.drop_zero, List.drop_nil, List.cons_append, List.nil_append, List.append_nil, List.all_cons, List.all_nil, AV.one, Nat.reduceLeDiff, and_self, and_true, true_and, Nat.zero_add, ne_eq, Nat.succ_ne_zero, not_false_eq_true, Bool.and_self, Nat.reduceEqDiff, Nat.le_refl, res54, vt54, V54, k54_0, k54_1, hs]
  refine call_lend (wordBack_pure w.line (by omega) w.pos) rfl (.cons h.l.fr (.cons (.refl _) (.cons (.refl _) .nil))) ?_
  simp (disch := omega) only [sel_t, sel_f, sel_dt, sel_df, sel_nt, sel_nf, v_lss, v_leq, v_gtr, v_geq, v_eql, v_neq, v_add, v_sub, v_not, v_min, v_max, v_pick_t, v_pick_f, v_ext0, v_ext1, v_ext2, v_len_isl, List.length_map, v_len_nils, v_len_sl0, v_len_sl, v_ix_map, v_ix_sl, v_nil_ptr, v_nil_iptr, v_fa_ptr, v_fa_iptr, cell_0, cell_s, cell_a2, cell_a3, cell_a7, cell_a10, v_load_map, v_load_r1, v_call_fn, v_call_fnS, v_load_H, ldH_one, ldH_map, v_store_H, stH_one, upd_same, upd_cons_ne, upd_nil, v_box, v_fld, eqs_nils, eqs_sl, v_eqs_ii, v_neqs_ii, sel_andt, sel_andf, sel_nandt, sel_nandf, encI, Int.toNat_natCast, lq_e, lq_r, Bool.not_true, Bool.not_false, Bool.false_eq_true, reduceIte, decide_true, decide_false, v_build_fill, v_buildS_fill, fill_nil, fill_cons, AV.cells, putL, chunk, List.length_cons, List.length_nil, Nat.reduceAdd, Nat.reduceDiv, Nat.reduceMod, List.take_succ_cons, List.take_zero, List.take_nil, List.drop_succ_cons, List.drop_zero, List.drop_nil, List.cons_append, List.nil_append, List.append_nil, List.all_cons, List.all_nil, AV.one, Nat.reduceLeDiff, and_self, and_true, true_and, Nat.zero_add, ne_eq, Nat.succ_ne_zero, not_false_eq_true, Bool.and_self, Nat.reduceEqDiff, Nat.le_refl, res54, vt54, V54, k54_0, k54_1, hs]
  refine ⟨(by (repeat' (first | exact cf_nil | exact allp_nil | refine cf_add ?_ ?_ | refine allp_add ?_ ?_)); all_goals (first | exact Or.inl rfl | exact Or.inl (by decide) | exact Or.inr ⟨by (simp (decide := true) [clash, h] <;> assumption), by (simp (decide := true) [clash, h] <;> assumption)⟩)), ?_⟩
  exact pos_end h _ (wordBack_nat heldN_le).1
/-- behind a cut or a kill -/
theorem key_end {H : Heap} {q : Lab} {lw : Lab} {u : Chg} {w' : Wk} (hu : ∀ l, u.has l → H l ≠ none ∨ Under q l) (h : ∃ xl' xk' xa', WorkI (upd u H) lw xl' xk' xa' w') {c : Nat} {r : RL} : VRE q H [] (KeyR H lw w') .normal r (upd u H) c :=
  ⟨.inl rfl, .tuple [], .tuple [], u, by simp [aRes, aResL], h, hu, .refl _, fun _ _ h => h⟩
theorem under_of {H : Heap} {q : Lab} {c : Nat} {f : Nat} {xs : List AV} {y : AV} {u : Chg} (h : SoundRes Try.prog f xs H (c :: q) ⟨y, u, none⟩) : ∀ l, Chg.has u l → H l ≠ none ∨ Under q l :=
  fun l hl => (h.2.1 l hl).imp id fun ⟨s, hs⟩ => ⟨s ++ [c], by simpa using hs⟩
theorem fresh_at {H : Heap} {q : Lab} (hf : Fresh q 0 H) (c : Nat) : Fresh (c :: q) 0 H := (hf.mono (Nat.zero_le c)).callee
theorem CutR.out {H : Heap} {lw : Lab} {xk y : AV} {w : Wk} {f t : Nat} {u : Chg} (h : CutR H lw xk w f t y u) : ∃ xl' xk' xa', WorkI (upd u H) lw xl' xk' xa' (cutW w f t) := by
  obtain ⟨_, xl', xa', h1, _⟩ := h
  exact ⟨xl', xk, xa', h1⟩
theorem heldN_lt {n : Nat} {a : Int} (h : a ≤ n) : heldN n a = a.toNat := by unfold heldN; omega
theorem rub_key : KeyE 47 fun w => cutW w (heldN w.line.length (w.pos - 1)) w.pos := by
  intro H q lw xl xk xa w h hf hok
  refine soundE_vc Try.mixed ok47 rfl ?_
  have hs := h.s
  have ⟨hp, hl, _, ha⟩ := hok
  simp only [params, Nat.zero_add, Nat.reduceAdd]
  simp (disch := omega) only [sel_t, sel_f, sel_dt, sel_df, sel_nt, sel_nf, v_lss, v_leq, v_gtr, v_geq, v_eql, v_neq, v_add, v_sub, v_not, v_min, v_max, v_pick_t, v_pick_f, v_ext0, v_ext1, v_ext2, v_len_isl, List.length_map, v_len_nils, v_len_sl0, v_len_sl, v_ix_map, v_ix_sl, v_nil_ptr, v_nil_iptr, v_fa_ptr, v_fa_iptr, cell_0, cell_s, cell_a2, cell_a3, cell_a7, cell_a10, v_load_map, v_load_r1, v_call_fn, v_call_fnS, v_load_H, ldH_one, ldH_map, v_store_H, stH_one, upd_same, upd_cons_ne, upd_nil, v_box, v_fld, eqs_nils, eqs_sl, v_eqs_ii, v_neqs_ii, sel_andt, sel_andf, sel_nandt, sel_nandf, encI, Int.toNat_natCast, lq_e, lq_r, Bool.not_true, Bool.not_false, Bool.false_eq_true, reduceIte, decide_true, decide_false, v_build_fill, v_buildS_fill, fill_nil, fill_cons, AV.cells, putL, chunk, List.length_cons, List.length_nil, Nat.reduceAdd, Nat.reduceDiv, Nat.reduceMod, List.take_succ_cons, List.take_zero, List.take_nil, List.drop_succ_cons, List.drop_zero, List.drop_nil, List.cons_append, List.nil_append, List.append_nil, List.all_cons, List.all_nil, AV.one, Nat.reduceLeDiff, and_self, and_true, true_and, Nat.zero_add, ne_eq, Nat.succ_ne_zero, not_false_eq_true, Bool.and_self, Nat.reduceEqDiff, Nat.le_refl, res47, vt47, V47, k47_0, k47_1, hs]
  refine call_lend (held_pure w.line (w.pos - 1)) rfl (.cons h.l.fr (.cons (.refl _) .nil)) ?_
  simp (disch := omega) only [sel_t, sel_f, sel_dt, sel_df, sel_nt, sel_nf, v_lss, v_leq, v_gtr, v_geq, v_eql, v_neq, v_add, v_sub, v_not, v_min, v_max, v_pick_t, v_pick_f, v_ext0, v_ext1, v_ext2, v_len_isl, List.length_map, v_len_nils, v_len_sl0, v_len_sl, v_ix_map, v_ix_sl, v_nil_ptr, v_nil_iptr, v_fa_ptr, v_fa_iptr, cell_0, cell_s, cell_a2, cell_a3, cell_a7, cell_a10, v_load_map, v_load_r1, v_call_fn, v_call_fnS, v_load_H, ldH_one, ldH_map, v_store_H, stH_one, upd_same, upd_cons_ne, upd_nil, v_box, v_fld, eqs_nils, eqs_sl, v_eqs_ii, v_neqs_ii, sel_andt, sel_andf, sel_nandt, sel_nandf, encI, Int.toNat_natCast, lq_e, lq_r, Bool.not_true, Bool.not_false, Bool.false_eq_true, reduceIte, decide_true, decide_false, v_build_fill, v_buildS_fill, fill_nil, fill_cons, AV.cells, putL, chunk, List.length_cons, List.length_nil, Nat.reduceAdd, Nat.reduceDiv, Nat.reduceMod, List.take_succ_cons, List.take_zero, List.take_nil, List.drop_succ_cons, List.drop_zero, List.drop_nil, List.cons_append, List.nil_append, List.append_nil, List.all_cons, List.all_nil, AV.one, Nat.reduceLeDiff, and_self, and_true, true_and, Nat.zero_add, ne_eq, Nat.succ_ne_zero, not_false_eq_true, Bool.and_self, Nat.reduceEqDiff, Nat.le_refl, res47, vt47, V47, k47_0, k47_1, hs]
  obtain ⟨y, u, hc, hR⟩ := cut_det (q := 18 :: q) h (fresh_at hf _) (heldN w.line.length (w.pos - 1)) w.pos (by rw [heldN_lt (by omega)]; omega) hp hl (by omega)
  refine call_res hc ?_
  simp (disch := omega) only [sel_t, sel_f, sel_dt, sel_df, sel_nt, sel_nf, v_lss, v_leq, v_gtr, v_geq, v_eql, v_neq, v_add, v_sub, v_not, v_min, v_max, v_pick_t, v_pick_f, v_ext0, v_ext1, v_ext2, v_len_isl, List.length_map, v_len_nils, v_len_sl0, v_len_sl, v_ix_map, v_ix_sl, v_nil_ptr, v_nil_iptr, v_fa_ptr, v_fa_iptr, cell_0, cell_s, cell_a2, cell_a3, cell_a7, cell_a10, v_load_map, v_load_r1, v_call_fn, v_call_fnS, v_load_H, ldH_one, ldH_map, v_store_H, stH_one, upd_same, upd_cons_ne, upd_nil, v_box, v_fld, eqs_nils, eqs_sl, v_eqs_ii, v_neqs_ii, sel_andt, sel_andf, sel_nandt, sel_nandf, encI, Int.toNat_natCast, lq_e, lq_r, Bool.not_true, Bool.not_false, Bool.false_eq_true, reduceIte, decide_true, decide_false, v_build_fill, v_buildS_fill, fill_nil, fill_cons, AV.cells, putL, chunk, List.length_cons, List.length_nil, Nat.reduceAdd, Nat.reduceDiv, Nat.reduceMod, List.take_succ_cons, List.take_zero, List.take_nil, List.drop_succ_cons, List.drop_zero, List.drop_nil, List.cons_append, List.nil_append, List.append_nil, List.all_cons, List.all_nil, AV.one, Nat.reduceLeDiff, and_self, and_true, true_and, Nat.zero_add, ne_eq, Nat.succ_ne_zero, not_false_eq_true, Bool.and_self, Nat.reduceEqDiff, Nat.le_refl, res47, vt47, V47, k47_0, k47_1, hs]
  refine ⟨(by (repeat' (first | exact cf_nil | exact allp_nil | refine cf_add ?_ ?_ | refine allp_add ?_ ?_)); all_goals (first | exact Or.inl rfl | exact Or.inl (by decide) | exact Or.inr ⟨by (simp (decide := true) [clash, h] <;> assumption), by (simp (decide := true) [clash, h] <;> assumption)⟩)), ?_⟩
  exact key_end (under_of hc) hR.out
theorem del_key : KeyE 48 fun w => cutW w w.pos (heldN w.line.length (w.pos + 1)) := by
  intro H q lw xl xk xa w h hf hok
  refine soundE_vc Try.mixed ok48 rfl ?_
  have hs := h.s
  have ⟨hp, hl, _, ha⟩ := hok
  simp only [params, Nat.zero_add, Nat.reduceAdd]
  simp (disch := omega) only [sel_t, sel_f, sel_dt, sel_df, sel_nt, sel_nf, v_lss, v_leq, v_gtr, v_geq, v_eql, v_neq, v_add, v_sub, v_not, v_min, v_max, v_pick_t, v_pick_f, v_ext0, v_ext1, v_ext2, v_len_isl, List.length_map, v_len_nils, v_len_sl0, v_len_sl, v_ix_map, v_ix_sl, v_nil_ptr, v_nil_iptr, v_fa_ptr, v_fa_iptr, cell_0, cell_s, cell_a2, cell_a3, cell_a7, cell_a10, v_load_map, v_load_r1, v_call_fn, v_call_fnS, v_load_H, ldH_one, ldH_map, v_store_H, stH_one, upd_same, upd_cons_ne, upd_nil, v_box, v_fld, eqs_nils, eqs_sl, v_eqs_ii, v_neqs_ii, sel_andt, sel_andf, sel_nandt, sel_nandf, encI, Int.toNat_natCast, lq_e, lq_r, Bool.not_true, Bool.not_false, Bool.false_eq_true, reduceIte, decide_true, decide_false, v_build_fill, v_buildS_fill, fill_nil, fill_cons, AV.cells, putL, chunk, List.length_cons, List.length_nil, Nat.reduceAdd, Nat.reduceDiv, Nat.reduceMod, List.take_succ_cons, List.take_zero, List.take_nil, List.drop_succ_cons, List.drop_zero, List.drop_nil, List.cons_append, List.nil_append, List.append_nil, List.all_cons, List.all_nil, AV.one, Nat.reduceLeDiff, and_self, and_true, true_and, Nat.zero_add, ne_eq, Nat.succ_ne_zero, not_false_eq_true, Bool.and_self, Nat.reduceEqDiff, Nat.le_refl, res48, vt48, V48, k48_0, k48_1, hs]
  refine call_lend (held_pure w.line (w.pos + 1)) rfl (.cons h.l.fr (.cons (.refl _) .nil)) ?_
  simp (disch := omega) only [sel_t, sel_f, sel_dt, sel_df, sel_nt, sel_nf, v_lss, v_leq, v_gtr, v_geq, v_eql, v_neq, v_add, v_sub, v_not, v_min, v_max, v_pick_t, v_pick_f, v_ext0, v_ext1, v_ext2, v_len_isl, List.length_map, v_len_nils, v_len_sl0, v_len_sl, v_ix_map, v_ix_sl, v_nil_ptr, v_nil_iptr, v_fa_ptr, v_fa_iptr, cell_0, cell_s, cell_a2, cell_a3, cell_a7, cell_a10, v_load_map, v_load_r1, v_call_fn, v_call_fnS, v_load_H, ldH_one, ldH_map, v_store_H, stH_one, upd_same, upd_cons_ne, upd_nil, v_box, v_fld, eqs_nils, eqs_sl, v_eqs_ii, v_neqs_ii, sel_andt, sel_andf, sel_nandt, sel_nandf, encI, Int.toNat_natCast, lq_e, lq_r, Bool.not_true, Bool.not_false, Bool.false_eq_true, reduceIte, decide_true, decide_false, v_build_fill, v_buildS_fill, fill_nil, fill_cons, AV.cells, putL, chunk, List.length_cons, List.length_nil, Nat.reduceAdd, Nat.reduceDiv, Nat.reduceMod, List.take_succ_cons, List.take_zero, List.take_nil, List.drop_succ_cons, List.drop_zero, List.drop_nil, List.cons_append, List.nil_append, List.append_nil, List.all_cons, List.all_nil, AV.one, Nat.reduceLeDiff, and_self, and_true, true_and, Nat.zero_add, ne_eq, Nat.succ_ne_zero, not_false_eq_true, Bool.and_self, Nat.reduceEqDiff, Nat.le_refl, res48, vt48, V48, k48_0, k48_1, hs]
  obtain ⟨y, u, hc, hR⟩ := cut_det (q := 18 :: q) h (fresh_at hf _) w.pos (heldN w.line.length (w.pos + 1)) (by unfold heldN; omega) heldN_le hl (by omega)
  refine call_res hc ?_
  simp (disch := omega) only [sel_t, sel_f, sel_dt, sel_df, sel_nt, sel_nf, v_lss, v_leq, v_gtr, v_geq, v_eql, v_neq, v_add, v_sub, v_not, v_min, v_max, v_pick_t, v_pick_f, v_ext0, v_ext1, v_ext2, v_len_isl, List.length_map, v_len_nils, v_len_sl0, v_len_sl, v_ix_map, v_ix_sl, v_nil_ptr, v_nil_iptr, v_fa_ptr, v_fa_iptr, cell_0, cell_s, cell_a2, cell_a3, cell_a7, cell_a10, v_load_map, v_load_r1, v_call_fn, v_call_fnS, v_load_H, ldH_one, ldH_map, v_store_H, stH_one, upd_same, upd_cons_ne, upd_nil, v_box, v_fld, eqs_nils, eqs_sl, v_eqs_ii, v_neqs_ii, sel_andt, sel_andf, sel_nandt, sel_nandf, encI, Int.toNat_natCast, lq_e, lq_r, Bool.not_true, Bool.not_false, Bool.false_eq_true, reduceIte, decide_true, decide_false, v_build_fill, v_buildS_fill, fill_nil, fill_cons, AV.cells, putL, chunk, List.length_cons, List.length_nil, Nat.reduceAdd, Nat.reduceDiv, Nat.reduceMod, List.take_succ_cons, List.take_zero, List.take_nil, List.drop_succ_cons, List.drop_zero, List.drop_nil, List.cons_append, List.nil_append, List.append_nil, List.all_cons, List.all_nil, AV.one, Nat.reduceLeDiff, and_self, and_true, true_and, Nat.zero_add, ne_eq, Nat.succ_ne_zero, not_false_eq_true, Bool.and_self, Nat.reduceEqDiff, Nat.le_refl, res48, vt48, V48, k48_0, k48_1, hs]
  refine ⟨(by (repeat' (first | exact cf_nil | exact allp_nil | refine cf_add ?_ ?_ | refine allp_add ?_ ?_)); all_goals (first | exact Or.inl rfl | exact Or.inl (by decide) | exact Or.inr ⟨by (simp (decide := true) [clash, h] <;> assumption), by (simp (decide := true) [clash, h] <;> assumption)⟩)), ?_⟩
  exact key_end (under_of hc) hR.out
theorem killOn_key : KeyE 49 fun w => killW w w.pos w.line.length := by
  intro H q lw xl xk xa w h hf hok
  refine soundE_vc Try.mixed ok49 rfl ?_
  have hs := h.s
  have hll : ∀ {K : AV → Prop}, vLen xl K = K (.int .i64 w.line.length) := h.l.len
  have ⟨hp, hl, _, ha⟩ := hok
  simp only [params, Nat.zero_add, Nat.reduceAdd]
  simp (disch := omega) only [sel_t, sel_f, sel_dt, sel_df, sel_nt, sel_nf, v_lss, v_leq, v_gtr, v_geq, v_eql, v_neq, v_add, v_sub, v_not, v_min, v_max, v_pick_t, v_pick_f, v_ext0, v_ext1, v_ext2, v_len_isl, List.length_map, v_len_nils, v_len_sl0, v_len_sl, v_ix_map, v_ix_sl, v_nil_ptr, v_nil_iptr, v_fa_ptr, v_fa_iptr, cell_0, cell_s, cell_a2, cell_a3, cell_a7, cell_a10, v_load_map, v_load_r1, v_call_fn, v_call_fnS, v_load_H, ldH_one, ldH_map, v_store_H, stH_one, upd_same, upd_cons_ne, upd_nil, v_box, v_fld, eqs_nils, eqs_sl, v_eqs_ii, v_neqs_ii, sel_andt, sel_andf, sel_nandt, sel_nandf, encI, Int.toNat_natCast, lq_e, lq_r, Bool.not_true, Bool.not_false, Bool.false_eq_true, reduceIte, decide_true, decide_false, v_build_fill, v_buildS_fill, fill_nil, fill_cons, AV.cells, putL, chunk, List.length_cons, List.length_nil, Nat.reduceAdd, Nat.reduceDiv, Nat.reduceMod, List.take_succ_cons, List.take_zero, List.take_nil, List.drop_succ_cons, List.drop_zero, List.drop_nil, List.cons_append, List.nil_append, List.append_nil, List.all_cons, List.all_nil, AV.one, Nat.reduceLeDiff, and_self, and_true, true_and, Nat.zero_add, ne_eq, Nat.succ_ne_zero, not_false_eq_true, Bool.and_self, Nat.reduceEqDiff, Nat.le_refl, res49, vt49, V49, k49_0, hs, hll]
  obtain ⟨y, u, hc, hR⟩ := kill_det (q := 12 :: q) h (fresh_at hf _) w.pos w.line.length hp (Nat.le_refl _) hl (by omega)
  refine call_res hc ?_
  simp (disch := omega) only [sel_t, sel_f, sel_dt, sel_df, sel_nt, sel_nf, v_lss, v_leq, v_gtr, v_geq, v_eql, v_neq, v_add, v_sub, v_not, v_min, v_max, v_pick_t, v_pick_f, v_ext0, v_ext1, v_ext2, v_len_isl, List.length_map, v_len_nils, v_len_sl0, v_len_sl, v_ix_map, v_ix_sl, v_nil_ptr, v_nil_iptr, v_fa_ptr, v_fa_iptr, cell_0, cell_s, cell_a2, cell_a3, cell_a7, cell_a10, v_load_map, v_load_r1, v_call_fn, v_call_fnS, v_load_H, ldH_one, ldH_map, v_store_H, stH_one, upd_same, upd_cons_ne, upd_nil, v_box, v_fld, eqs_nils, eqs_sl, v_eqs_ii, v_neqs_ii, sel_andt, sel_andf, sel_nandt, sel_nandf, encI, Int.toNat_natCast, lq_e, lq_r, Bool.not_true, Bool.not_false, Bool.false_eq_true, reduceIte, decide_true, decide_false, v_build_fill, v_buildS_fill, fill_nil, fill_cons, AV.cells, putL, chunk, List.length_cons, List.length_nil, Nat.reduceAdd, Nat.reduceDiv, Nat.reduceMod, List.take_succ_cons, List.take_zero, List.take_nil, List.drop_succ_cons, List.drop_zero, List.drop_nil, List.cons_append, List.nil_append, List.append_nil, List.all_cons, List.all_nil, AV.one, Nat.reduceLeDiff, and_self, and_true, true_and, Nat.zero_add, ne_eq, Nat.succ_ne_zero, not_false_eq_true, Bool.and_self, Nat.reduceEqDiff, Nat.le_refl, res49, vt49, V49, k49_0, hs]
  refine ⟨(by (repeat' (first | exact cf_nil | exact allp_nil | refine cf_add ?_ ?_ | refine allp_add ?_ ?_)); all_goals (first | exact Or.inl rfl | exact Or.inl (by decide) | exact Or.inr ⟨by (simp (decide := true) [clash, h] <;> assumption), by (simp (decide := true) [clash, h] <;> assumption)⟩)), ?_⟩
  exact key_end (under_of hc) hR
theorem killBack_key : KeyE 50 fun w => killW w 0 w.pos := by
  intro H q lw xl xk xa w h hf hok
  refine soundE_vc Try.mixed ok50 rfl ?_
  have hs := h.s
  have ⟨hp, hl, _, ha⟩ := hok
  simp only [params, Nat.zero_add, Nat.reduceAdd]
  simp (disch := omega) only [sel_t, sel_f, sel_dt, sel_df, sel_nt, sel_nf, v_lss, v_leq, v_gtr, v_geq, v_eql, v_neq, v_add, v_sub, v_not, v_min, v_max, v_pick_t, v_pick_f, v_ext0, v_ext1, v_ext2, v_len_isl, List.length_map, v_len_nils, v_len_sl0, v_len_sl, v_ix_map, v_ix_sl, v_nil_ptr, v_nil_iptr, v_fa_ptr, v_fa_iptr, cell_0, cell_s, cell_a2, cell_a3, cell_a7, cell_a10, v_load_map, v_load_r1, v_call_fn, v_call_fnS, v_load_H, ldH_one, ldH_map, v_store_H, stH_one, upd_same, upd_cons_ne, upd_nil, v_box, v_fld, eqs_nils, eqs_sl, v_eqs_ii, v_neqs_ii, sel_andt, sel_andf, sel_nandt, sel_nandf, encI, Int.toNat_natCast, lq_e, lq_r, Bool.not_true, Bool.not_false, Bool.false_eq_true, reduceIte, decide_true, decide_false, v_build_fill, v_buildS_fill, fill_nil, fill_cons, AV.cells, putL, chunk, List.length_cons, List.length_nil, Nat.reduceAdd, Nat.reduceDiv, Nat.reduceMod, List.take_succ_cons, List.take_zero, List.take_nil, List.drop_succ_cons, List.drop_zero, List.drop_nil, List.cons_append, List.nil_append, List.append_nil, List.all_cons, List.all_nil, AV.one, Nat.reduceLeDiff, and_self, and_true, true_and, Nat.zero_add, ne_eq, Nat.succ_ne_zero, not_false_eq_true, Bool.and_self, Nat.reduceEqDiff, Nat.le_refl, res50, vt50, V50, hs]
  obtain ⟨y, u, hc, hR⟩ := kill_det (q := 6 :: q) h (fresh_at hf _) 0 w.pos (Nat.zero_le _) hp hl (by omega)
  refine call_res hc ?_
  exact key_end (under_of hc) hR
theorem killWord_key : KeyE 51 fun w => killW w (wordBack w.line (heldN w.line.length w.pos)).toNat w.pos := by
  intro H q lw xl xk xa w h hf hok
  refine soundE_vc Try.mixed ok51 rfl ?_
  have hs := h.s
  have ⟨hp, hl, _, ha⟩ := hok
  simp only [params, Nat.zero_add, Nat.reduceAdd]
  simp (disch := omega) only [sel_t, sel_f, sel_dt, sel_df, sel_nt, sel_nf, v_lss, v_leq, v_gtr, v_geq, v_eql, v_neq, v_add, v_sub, v_not, v_min, v_max, v_pick_t, v_pick_f, v_ext0, v_ext1, v_ext2, v_len_isl, List.length_map, v_len_nils, v_len_sl0, v_len_sl, v_ix_map, v_ix_sl, v_nil_ptr, v_nil_iptr, v_fa_ptr, v_fa_iptr, cell_0, cell_s, cell_a2, cell_a3, cell_a7, cell_a10, v_load_map, v_load_r1, v_call_fn, v_call_fnS, v_load_H, ldH_one, ldH_map, v_store_H, stH_one, upd_same, upd_cons_ne, upd_nil, v_box, v_fld, eqs_nils, eqs_sl, v_eqs_ii, v_neqs_ii, sel_andt, sel_andf, sel_nandt, sel_nandf, encI, Int.toNat_natCast, lq_e, lq_r, Bool.not_true, Bool.not_false, Bool.false_eq_true, reduceIte, decide_true, decide_false, v_build_fill, v_buildS_fill, fill_nil, fill_cons, AV.cells, putL, chunk, List.length_cons, List.length_nil, Nat.reduceAdd, Nat.reduceDiv, Nat.reduceMod, List.take_succ_cons, List.take_zero, List.take_nil, List.drop_succ_cons, List.drop_zero, List.drop_nil, List.cons_append, List.nil_append, List.append_nil, List.all_cons, List.all_nil, AV.one, Nat.reduceLeDiff, and_self, and_true, true_and, Nat.zero_add, ne_eq, Nat.succ_ne_zero, not_false_eq_true, Bool.and_self, Nat.reduceEqDiff, Nat.le_refl, res51, vt51, V51, k51_0, k51_1, hs]
  refine call_lend (wordBack_pure w.line (by omega) w.pos) rfl (.cons h.l.fr (.cons (.refl _) (.cons (.refl _) .nil))) ?_
  have hwb := wordBack_nat (l := w.line) (a := heldN w.line.length w.pos) heldN_le
  rw [hwb.1]
  have hhe : heldN w.line.length w.pos = w.pos := by unfold heldN; omega
  obtain ⟨y, u, hc, hR⟩ := kill_det (q := 17 :: q) h (fresh_at hf _) (wordBack w.line (heldN w.line.length w.pos)).toNat w.pos (by omega) hp hl (by omega)
  generalize (wordBack w.line (heldN w.line.length w.pos)).toNat = wb at *
  simp (disch := omega) only [sel_t, sel_f, sel_dt, sel_df, sel_nt, sel_nf, v_lss, v_leq, v_gtr, v_geq, v_eql, v_neq, v_add, v_sub, v_not, v_min, v_max, v_pick_t, v_pick_f, v_ext0, v_ext1, v_ext2, v_len_isl, List.length_map, v_len_nils, v_len_sl0, v_len_sl, v_ix_map, v_ix_sl, v_nil_ptr, v_nil_iptr, v_fa_ptr, v_fa_iptr, cell_0, cell_s, cell_a2, cell_a3, cell_a7, cell_a10, v_load_map, v_load_r1, v_call_fn, v_call_fnS, v_load_H, ldH_one, ldH_map, v_store_H, stH_one, upd_same, upd_cons_ne, upd_nil, v_box, v_fld, eqs_nils, eqs_sl, v_eqs_ii, v_neqs_ii, sel_andt, sel_andf, sel_nandt, sel_nandf, encI, Int.toNat_natCast, lq_e, lq_r, Bool.not_true, Bool.not_false, Bool.false_eq_true, reduceIte, decide_true, decide_false, v_build_fill, v_buildS_fill, fill_nil, fill_cons, AV.cells, putL, chunk, List.length_cons, List.length_nil, Nat.reduceAdd, Nat.reduceDiv, Nat.reduceMod, List.take_succ_cons, List.take_zero, List.take_nil, List.drop_succ_cons, List.drop_zero, List.drop_nil, List.cons_append, List.nil_append, List.append_nil, List.all_cons, List.all_nil, AV.one, Nat.reduceLeDiff, and_self, and_true, true_and, Nat.zero_add, ne_eq, Nat.succ_ne_zero, not_false_eq_true, Bool.and_self, Nat.reduceEqDiff, Nat.le_refl, res51, vt51, V51, k51_0, k51_1, hs]
  refine call_res hc ?_
  simp (disch := omega) only [sel_t, sel_f, sel_dt, sel_df, sel_nt, sel_nf, v_lss, v_leq, v_gtr, v_geq, v_eql, v_neq, v_add, v_sub, v_not, v_min, v_max, v_pick_t, v_pick_f, v_ext0, v_ext1, v_ext2, v_len_isl, List.length_map, v_len_nils, v_len_sl0, v_len_sl, v_ix_map, v_ix_sl, v_nil_ptr, v_nil_iptr, v_fa_ptr, v_fa_iptr, cell_0, cell_s, cell_a2, cell_a3, cell_a7, cell_a10, v_load_map, v_load_r1, v_call_fn, v_call_fnS, v_load_H, ldH_one, ldH_map, v_store_H, stH_one, upd_same, upd_cons_ne, upd_nil, v_box, v_fld, eqs_nils, eqs_sl, v_eqs_ii, v_neqs_ii, sel_andt, sel_andf, sel_nandt, sel_nandf, encI, Int.toNat_natCast, lq_e, lq_r, Bool.not_true, Bool.not_false, Bool.false_eq_true, reduceIte, decide_true, decide_false, v_build_fill, v_buildS_fill, fill_nil, fill_cons, AV.cells, putL, chunk, List.length_cons, List.length_nil, Nat.reduceAdd, Nat.reduceDiv, Nat.reduceMod, List.take_succ_cons, List.take_zero, List.take_nil, List.drop_succ_cons, List.drop_zero, List.drop_nil, List.cons_append, List.nil_append, List.append_nil, List.all_cons, List.all_nil, AV.one, Nat.reduceLeDiff, and_self, and_true, true_and, Nat.zero_add, ne_eq, Nat.succ_ne_zero, not_false_eq_true, Bool.and_self, Nat.reduceEqDiff, Nat.le_refl, res51, vt51, V51, k51_0, k51_1, hs]
  refine ⟨(by (repeat' (first | exact cf_nil | exact allp_nil | refine cf_add ?_ ?_ | refine allp_add ?_ ?_)); all_goals (first | exact Or.inl rfl | exact Or.inl (by decide) | exact Or.inr ⟨by (simp (decide := true) [clash, h] <;> assumption), by (simp (decide := true) [clash, h] <;> assumption)⟩)), ?_⟩
  exact key_end (under_of hc) hR
theorem wordOn_ge {l : List Int} {a : Nat} : a ≤ wordOn l a := by unfold wordOn; omega
theorem killNext_key : KeyE 56 fun w => killW w w.pos (wordOn w.line (heldN w.line.length w.pos)) := by
  intro H q lw xl xk xa w h hf hok
  refine soundE_vc Try.mixed ok56 rfl ?_
  have hs := h.s
  have ⟨hp, hl, _, ha⟩ := hok
  simp only [params, Nat.zero_add, Nat.reduceAdd]
  simp (disch := omega) only [sel_t, sel_f, sel_dt, sel_df, sel_nt, sel_nf, v_lss, v_leq, v_gtr, v_geq, v_eql, v_neq, v_add, v_sub, v_not, v_min, v_max, v_pick_t, v_pick_f, v_ext0, v_ext1, v_ext2, v_len_isl, List.length_map, v_len_nils, v_len_sl0, v_len_sl, v_ix_map, v_ix_sl, v_nil_ptr, v_nil_iptr, v_fa_ptr, v_fa_iptr, cell_0, cell_s, cell_a2, cell_a3, cell_a7, cell_a10, v_load_map, v_load_r1, v_call_fn, v_call_fnS, v_load_H, ldH_one, ldH_map, v_store_H, stH_one, upd_same, upd_cons_ne, upd_nil, v_box, v_fld, eqs_nils, eqs_sl, v_eqs_ii, v_neqs_ii, sel_andt, sel_andf, sel_nandt, sel_nandf, encI, Int.toNat_natCast, lq_e, lq_r, Bool.not_true, Bool.not_false, Bool.false_eq_true, reduceIte, decide_true, decide_false, v_build_fill, v_buildS_fill, fill_nil, fill_cons, AV.cells, putL, chunk, List.length_cons, List.length_nil, Nat.reduceAdd, Nat.reduceDiv, Nat.reduceMod, List.take_succ_cons, List.take_zero, List.take_nil, List.drop_succ_cons, List.drop_zero, List.drop_nil, List.cons_append, List.nil_append, List.append_nil, List.all_cons, List.all_nil, AV.one, Nat.reduceLeDiff, and_self, and_true, true_and, Nat.zero_add, ne_eq, Nat.succ_ne_zero, not_false_eq_true, Bool.and_self, Nat.reduceEqDiff, Nat.le_refl, res56, vt56, V56, k56_0, k56_1, hs]
  refine call_lend (wordOn_pure w.line (by omega) w.pos) rfl (.cons h.l.fr (.cons (.refl _) (.cons (.refl _) .nil))) ?_
  have hhe : heldN w.line.length w.pos = w.pos := by unfold heldN; omega
  have hge := @wordOn_ge w.line (heldN w.line.length w.pos)
  have hle := wordOn_le (l := w.line) (a := heldN w.line.length w.pos) heldN_le
  obtain ⟨y, u, hc, hR⟩ := kill_det (q := 17 :: q) h (fresh_at hf _) w.pos (wordOn w.line (heldN w.line.length w.pos)) (by omega) hle hl (by omega)
  generalize wordOn w.line (heldN w.line.length w.pos) = wb at *
  simp (disch := omega) only [sel_t, sel_f, sel_dt, sel_df, sel_nt, sel_nf, v_lss, v_leq, v_gtr, v_geq, v_eql, v_neq, v_add, v_sub, v_not, v_min, v_max, v_pick_t, v_pick_f, v_ext0, v_ext1, v_ext2, v_len_isl, List.length_map, v_len_nils, v_len_sl0, v_len_sl, v_ix_map, v_ix_sl, v_nil_ptr, v_nil_iptr, v_fa_ptr, v_fa_iptr, cell_0, cell_s, cell_a2, cell_a3, cell_a7, cell_a10, v_load_map, v_load_r1, v_call_fn, v_call_fnS, v_load_H, ldH_one, ldH_map, v_store_H, stH_one, upd_same, upd_cons_ne, upd_nil, v_box, v_fld, eqs_nils, eqs_sl, v_eqs_ii, v_neqs_ii, sel_andt, sel_andf, sel_nandt, sel_nandf, encI, Int.toNat_natCast, lq_e, lq_r, Bool.not_true, Bool.not_false, Bool.false_eq_true, reduceIte, decide_true, decide_false, v_build_fill, v_buildS_fill, fill_nil, fill_cons, AV.cells, putL, chunk, List.length_cons, List.length_nil, Nat.reduceAdd, Nat.reduceDiv, Nat.reduceMod, List.take_succ_cons, List.take_zero, List.take_nil, List.drop_succ_cons, List.drop_zero, List.drop_nil, List.cons_append, List.nil_append, List.append_nil, List.all_cons, List.all_nil, AV.one, Nat.reduceLeDiff, and_self, and_true, true_and, Nat.zero_add, ne_eq, Nat.succ_ne_zero, not_false_eq_true, Bool.and_self, Nat.reduceEqDiff, Nat.le_refl, res56, vt56, V56, k56_0, k56_1, hs]
  refine call_res hc ?_
  simp (disch := omega) only [sel_t, sel_f, sel_dt, sel_df, sel_nt, sel_nf, v_lss, v_leq, v_gtr, v_geq, v_eql, v_neq, v_add, v_sub, v_not, v_min, v_max, v_pick_t, v_pick_f, v_ext0, v_ext1, v_ext2, v_len_isl, List.length_map, v_len_nils, v_len_sl0, v_len_sl, v_ix_map, v_ix_sl, v_nil_ptr, v_nil_iptr, v_fa_ptr, v_fa_iptr, cell_0, cell_s, cell_a2, cell_a3, cell_a7, cell_a10, v_load_map, v_load_r1, v_call_fn, v_call_fnS, v_load_H, ldH_one, ldH_map, v_store_H, stH_one, upd_same, upd_cons_ne, upd_nil, v_box, v_fld, eqs_nils, eqs_sl, v_eqs_ii, v_neqs_ii, sel_andt, sel_andf, sel_nandt, sel_nandf, encI, Int.toNat_natCast, lq_e, lq_r, Bool.not_true, Bool.not_false, Bool.false_eq_true, reduceIte, decide_true, decide_false, v_build_fill, v_buildS_fill, fill_nil, fill_cons, AV.cells, putL, chunk, List.length_cons, List.length_nil, Nat.reduceAdd, Nat.reduceDiv, Nat.reduceMod, List.take_succ_cons, List.take_zero, List.take_nil, List.drop_succ_cons, List.drop_zero, List.drop_nil, List.cons_append, List.nil_append, List.append_nil, List.all_cons, List.all_nil, AV.one, Nat.reduceLeDiff, and_self, and_true, true_and, Nat.zero_add, ne_eq, Nat.succ_ne_zero, not_false_eq_true, Bool.and_self, Nat.reduceEqDiff, Nat.le_refl, res56, vt56, V56, k56_0, k56_1, hs]
  refine ⟨(by (repeat' (first | exact cf_nil | exact allp_nil | refine cf_add ?_ ?_ | refine allp_add ?_ ?_)); all_goals (first | exact Or.inl rfl | exact Or.inl (by decide) | exact Or.inr ⟨by (simp (decide := true) [clash, h] <;> assumption), by (simp (decide := true) [clash, h] <;> assumption)⟩)), ?_⟩
  exact key_end (under_of hc) hR
end
/-! What keys do: yank and swap. -/
section
theorem upd_app {H : Heap} {u v : Chg} : upd (u ++ v) H = upd u (upd v H) := by
  funext l
  induction u with
  | nil => rfl
  | cons p u ih => simp only [List.cons_append, upd]; split <;> simp [ih]
theorem chg_app {H : Heap} {q : Lab} {u v : Chg} (h1 : ∀ l, v.has l → H l ≠ none ∨ Under q l) (h2 : ∀ l, u.has l → upd v H l ≠ none ∨ Under q l) : ∀ l, (u ++ v).has l → H l ≠ none ∨ Under q l := fun l ⟨p, hp, e⟩ => by
  rcases List.mem_append.1 hp with hp | hp
  · rcases h2 l ⟨p, hp, e⟩ with h | h
    · by_cases hv : v.has l
      · exact h1 l hv
      · rw [upd_not hv] at h; exact .inl h
    · exact .inr h
  · exact h1 l ⟨p, hp, e⟩
theorem call_e_u {P : Program} {H : Heap} {p : Lab} {KK : KF} {c : Nat} {f : Nat} {xs : List AV} {Φ : AV → Chg → Prop} (h : SoundE P f xs H (c :: p) Φ) (hf : Fresh p c H) (hk : ∀ x u, Φ x u → (∀ l, u.has l → H l ≠ none ∨ Under p l) → Fresh p (c + 1) (upd u H) → KK x (upd u H) (u.map (·.1)) none) : vCall true P f xs H (c :: p) KK := by
  refine call_e_gen (Φ := fun x u => Φ x u ∧ ∀ l, u.has l → H l ≠ none ∨ Under (c :: p) l) (h.mono fun x u h1 h2 => ⟨h1, h2⟩) hf (fun x u H' h1 h2 h3 => ?_)
  obtain rfl : H' = upd u H := funext h2
  exact hk x u h1.1 (fun l hl => (h1.2 l hl).imp id fun ⟨s, hs⟩ => ⟨s ++ [c], by simpa using hs⟩) h3
def yankW (w : Wk) : List Int → Wk
  | [] => w
  | c :: l => if putB w c then yankW (putW w c) l else w
theorem putW_kill {w : Wk} {c : Int} : (putW w c).kill = w.kill := by unfold putW; split <;> rfl
theorem putW_pos {w : Wk} {c : Int} (h : w.pos ≤ w.line.length) : (putW w c).pos ≤ (putW w c).line.length := by
  unfold putW
  split
  · simp only [insI_len h]; omega
  · exact h
theorem putW_acts {w : Wk} {c : Int} : (putW w c).acts.length ≤ w.acts.length + 1 := by
  unfold putW; split <;> simp
theorem drop_nth {l : List Int} {i : Nat} (h : i < l.length) : l.drop i = nth l i :: l.drop (i + 1) := by
  rw [List.drop_eq_getElem_cons h]
  simp [nth, List.getD_eq_getElem?_getD, h]
theorem yank_key : KeyE 52 fun w => yankW w w.kill := by
  intro H q lw xl xk xa w h hf hok
  refine soundE_vc Try.mixed ok52 rfl ?_
  have hs := h.s
  have ⟨hp, hl, hkl, ha⟩ := hok
  simp only [params, Nat.zero_add, Nat.reduceAdd]
  simp (disch := omega) only [sel_t, sel_f, sel_dt, sel_df, sel_nt, sel_nf, v_lss, v_leq, v_gtr, v_geq, v_eql, v_neq, v_add, v_sub, v_not, v_min, v_max, v_pick_t, v_pick_f, v_ext0, v_ext1, v_ext2, v_len_isl, List.length_map, v_len_nils, v_len_sl0, v_len_sl, v_ix_map, v_ix_sl, v_nil_ptr, v_nil_iptr, v_fa_ptr, v_fa_iptr, cell_0, cell_s, cell_a2, cell_a3, cell_a7, cell_a10, v_load_map, v_load_r1, v_call_fn, v_call_fnS, v_load_H, ldH_one, ldH_map, v_store_H, stH_one, upd_same, upd_cons_ne, upd_nil, v_box, v_fld, eqs_nils, eqs_sl, v_eqs_ii, v_neqs_ii, sel_andt, sel_andf, sel_nandt, sel_nandf, encI, Int.toNat_natCast, lq_e, lq_r, Bool.not_true, Bool.not_false, Bool.false_eq_true, reduceIte, decide_true, decide_false, v_build_fill, v_buildS_fill, fill_nil, fill_cons, AV.cells, putL, chunk, List.length_cons, List.length_nil, Nat.reduceAdd, Nat.reduceDiv, Nat.reduceMod, List.take_succ_cons, List.take_zero, List.take_nil, List.drop_succ_cons, List.drop_zero, List.drop_nil, List.cons_append, List.nil_append, List.append_nil, List.all_cons, List.all_nil, AV.one, Nat.reduceLeDiff, and_self, and_true, true_and, Nat.zero_add, ne_eq, Nat.succ_ne_zero, not_false_eq_true, Bool.and_self, Nat.reduceEqDiff, Nat.le_refl, res52, q52_0_ret, q52_0_e0, vt52, vt52_1, V52, V52_1, k52_1, k52_2, k52_3, k52_0, k52_4, hs, h.k.len]
  refine vloop (fun n r H' c => ∃ (i : Nat) (u : Chg) (xl' xa' : AV) (w' : Wk), r = [(0, .ptr lw 4 0 0), (8, xk), (9, .int .i64 w.kill.length), (10, .int .i64 i)] ∧ i ≤ w.kill.length ∧ n = w.kill.length - i ∧ H' = upd u H ∧ (∀ l, u.has l → H l ≠ none ∨ Under q l) ∧ Fresh q c H' ∧ WorkI H' lw xl' xk xa' w' ∧ w'.kill = w.kill ∧ w'.pos ≤ w'.line.length ∧ w'.acts.length ≤ w.acts.length + i ∧ yankW w w.kill = yankW w' (w.kill.drop i)) w.kill.length ⟨0, [], xl, xa, w, rfl, Nat.zero_le _, rfl, rfl, fun l hl => absurd hl (not_has_nil l), hf.mono (Nat.zero_le _), h, rfl, hp, Nat.le_refl _, rfl⟩ ?_
  rintro n r H' c ⟨i, u, xl', xa', w', rfl, hi, rfl, rfl, hu, hf', h', hk', hp', ha', hy⟩
  have hs' := h'.s
  simp (disch := omega) only [sel_t, sel_f, sel_dt, sel_df, sel_nt, sel_nf, v_lss, v_leq, v_gtr, v_geq, v_eql, v_neq, v_add, v_sub, v_not, v_min, v_max, v_pick_t, v_pick_f, v_ext0, v_ext1, v_ext2, v_len_isl, List.length_map, v_len_nils, v_len_sl0, v_len_sl, v_ix_map, v_ix_sl, v_nil_ptr, v_nil_iptr, v_fa_ptr, v_fa_iptr, cell_0, cell_s, cell_a2, cell_a3, cell_a7, cell_a10, v_load_map, v_load_r1, v_call_fn, v_call_fnS, v_load_H, ldH_one, ldH_map, v_store_H, stH_one, upd_same, upd_cons_ne, upd_nil, v_box, v_fld, eqs_nils, eqs_sl, v_eqs_ii, v_neqs_ii, sel_andt, sel_andf, sel_nandt, sel_nandf, encI, Int.toNat_natCast, lq_e, lq_r, Bool.not_true, Bool.not_false, Bool.false_eq_true, reduceIte, decide_true, decide_false, v_build_fill, v_buildS_fill, fill_nil, fill_cons, AV.cells, putL, chunk, List.length_cons, List.length_nil, Nat.reduceAdd, Nat.reduceDiv, Nat.reduceMod, List.take_succ_cons, List.take_zero, List.take_nil, List.drop_succ_cons, List.drop_zero, List.drop_nil, List.cons_append, List.nil_append, List.append_nil, List.all_cons, List.all_nil, AV.one, Nat.reduceLeDiff, and_self, and_true, true_and, Nat.zero_add, ne_eq, Nat.succ_ne_zero, not_false_eq_true, Bool.and_self, Nat.reduceEqDiff, Nat.le_refl, res52, q52_0_ret, q52_0_e0, vt52, vt52_1, V52, V52_1, k52_1, k52_2, k52_3, k52_0, k52_4, hs']
  refine sel_d (fun hlt => ?_) (fun hge => ?_)
  · obtain ⟨lk, rfl, hlk⟩ : ∃ lk, xk = .sl lk 1 0 w'.kill.length ∧ upd u H lk = some (.rows 1 (w'.kill.map encI)) := by
      rcases h'.k with ⟨_, h1⟩ | h1
      · rw [← hk', h1] at hlt; simp at hlt; omega
      · exact h1
    rw [hk'] at hlk
    rw [hk']
    have hd := drop_nth (l := w.kill) (i := i) (by omega)
    simp (disch := omega) only [sel_t, sel_f, sel_dt, sel_df, sel_nt, sel_nf, v_lss, v_leq, v_gtr, v_geq, v_eql, v_neq, v_add, v_sub, v_not, v_min, v_max, v_pick_t, v_pick_f, v_ext0, v_ext1, v_ext2, v_len_isl, List.length_map, v_len_nils, v_len_sl0, v_len_sl, v_ix_map, v_ix_sl, v_nil_ptr, v_nil_iptr, v_fa_ptr, v_fa_iptr, cell_0, cell_s, cell_a2, cell_a3, cell_a7, cell_a10, v_load_map, v_load_r1, v_call_fn, v_call_fnS, v_load_H, ldH_one, ldH_map, v_store_H, stH_one, upd_same, upd_cons_ne, upd_nil, v_box, v_fld, eqs_nils, eqs_sl, v_eqs_ii, v_neqs_ii, sel_andt, sel_andf, sel_nandt, sel_nandf, encI, Int.toNat_natCast, lq_e, lq_r, Bool.not_true, Bool.not_false, Bool.false_eq_true, reduceIte, decide_true, decide_false, v_build_fill, v_buildS_fill, fill_nil, fill_cons, AV.cells, putL, chunk, List.length_cons, List.length_nil, Nat.reduceAdd, Nat.reduceDiv, Nat.reduceMod, List.take_succ_cons, List.take_zero, List.take_nil, List.drop_succ_cons, List.drop_zero, List.drop_nil, List.cons_append, List.nil_append, List.append_nil, List.all_cons, List.all_nil, AV.one, Nat.reduceLeDiff, and_self, and_true, true_and, Nat.zero_add, ne_eq, Nat.succ_ne_zero, not_false_eq_true, Bool.and_self, Nat.reduceEqDiff, Nat.le_refl, res52, q52_0_ret, q52_0_e0, vt52, vt52_1, V52, V52_1, k52_1, k52_2, k52_3, k52_0, k52_4, hs', hlk]
    refine call_e_u (put_sound h' ((hf'.mono (by omega)).callee) hp' (by omega) (nth w.kill i)) (hf'.mono (by omega)) (fun x u2 hx hu2 hf2 => ?_)
    obtain ⟨rfl, xl2, xa2, h2⟩ := hx
    cases hb : putB w' (nth w.kill i)
    · simp (disch := omega) only [sel_t, sel_f, sel_dt, sel_df, sel_nt, sel_nf, v_lss, v_leq, v_gtr, v_geq, v_eql, v_neq, v_add, v_sub, v_not, v_min, v_max, v_pick_t, v_pick_f, v_ext0, v_ext1, v_ext2, v_len_isl, List.length_map, v_len_nils, v_len_sl0, v_len_sl, v_ix_map, v_ix_sl, v_nil_ptr, v_nil_iptr, v_fa_ptr, v_fa_iptr, cell_0, cell_s, cell_a2, cell_a3, cell_a7, cell_a10, v_load_map, v_load_r1, v_call_fn, v_call_fnS, v_load_H, ldH_one, ldH_map, v_store_H, stH_one, upd_same, upd_cons_ne, upd_nil, v_box, v_fld, eqs_nils, eqs_sl, v_eqs_ii, v_neqs_ii, sel_andt, sel_andf, sel_nandt, sel_nandf, encI, Int.toNat_natCast, lq_e, lq_r, Bool.not_true, Bool.not_false, Bool.false_eq_true, reduceIte, decide_true, decide_false, v_build_fill, v_buildS_fill, fill_nil, fill_cons, AV.cells, putL, chunk, List.length_cons, List.length_nil, Nat.reduceAdd, Nat.reduceDiv, Nat.reduceMod, List.take_succ_cons, List.take_zero, List.take_nil, List.drop_succ_cons, List.drop_zero, List.drop_nil, List.cons_append, List.nil_append, List.append_nil, List.all_cons, List.all_nil, AV.one, Nat.reduceLeDiff, and_self, and_true, true_and, Nat.zero_add, ne_eq, Nat.succ_ne_zero, not_false_eq_true, Bool.and_self, Nat.reduceEqDiff, Nat.le_refl, res52, q52_0_ret, q52_0_e0, vt52, vt52_1, V52, V52_1, k52_1, k52_2, k52_3, k52_0, k52_4, hs']
      rw [← upd_app]
      refine key_end (chg_app hu hu2) ⟨xl2, .sl lk 1 0 w'.kill.length, xa2, ?_⟩
      rw [upd_app, hy, hd, yankW, hb, if_neg (by simp)]
      rw [putW, hb, if_neg (by simp)] at h2
      exact h2
    · simp (disch := omega) only [sel_t, sel_f, sel_dt, sel_df, sel_nt, sel_nf, v_lss, v_leq, v_gtr, v_geq, v_eql, v_neq, v_add, v_sub, v_not, v_min, v_max, v_pick_t, v_pick_f, v_ext0, v_ext1, v_ext2, v_len_isl, List.length_map, v_len_nils, v_len_sl0, v_len_sl, v_ix_map, v_ix_sl, v_nil_ptr, v_nil_iptr, v_fa_ptr, v_fa_iptr, cell_0, cell_s, cell_a2, cell_a3, cell_a7, cell_a10, v_load_map, v_load_r1, v_call_fn, v_call_fnS, v_load_H, ldH_one, ldH_map, v_store_H, stH_one, upd_same, upd_cons_ne, upd_nil, v_box, v_fld, eqs_nils, eqs_sl, v_eqs_ii, v_neqs_ii, sel_andt, sel_andf, sel_nandt, sel_nandf, encI, Int.toNat_natCast, lq_e, lq_r, Bool.not_true, Bool.not_false, Bool.false_eq_true, reduceIte, decide_true, decide_false, v_build_fill, v_buildS_fill, fill_nil, fill_cons, AV.cells, putL, chunk, List.length_cons, List.length_nil, Nat.reduceAdd, Nat.reduceDiv, Nat.reduceMod, List.take_succ_cons, List.take_zero, List.take_nil, List.drop_succ_cons, List.drop_zero, List.drop_nil, List.cons_append, List.nil_append, List.append_nil, List.all_cons, List.all_nil, AV.one, Nat.reduceLeDiff, and_self, and_true, true_and, Nat.zero_add, ne_eq, Nat.succ_ne_zero, not_false_eq_true, Bool.and_self, Nat.reduceEqDiff, Nat.le_refl, res52, q52_0_ret, q52_0_e0, vt52, vt52_1, V52, V52_1, k52_1, k52_2, k52_3, k52_0, k52_4, hs']
      refine lq_n (w.kill.length - (i + 1)) (by omega) ⟨i + 1, u2 ++ u, xl2, xa2, putW w' (nth w.kill i), by rw [← hk']; rfl, by omega, rfl, upd_app.symm, chg_app hu hu2, hf2.mono (by omega), ?_, by rw [putW_kill, hk'], putW_pos hp', ?_, ?_⟩
      · rw [hk'] at h2; exact h2
      · have := @putW_acts w' (nth w.kill i); omega
      · rw [hy, hd, yankW, hb, if_pos rfl]
  · refine key_end hu ⟨xl', xk, xa', ?_⟩
    rw [hy, show i = w.kill.length by omega, List.drop_length, yankW]
    exact h'
def swapW (w : Wk) : Wk := if w.line.length < 2 ∨ w.pos = 0 then w else if 1000 < w.line.length ∨ runeB (nth w.line (Min.min w.pos (w.line.length - 1) - 1)) = false then w else putW { cutW w (Min.min w.pos (w.line.length - 1) - 1) (Min.min w.pos (w.line.length - 1)) with pos := Min.min w.pos (w.line.length - 1) } (nth w.line (Min.min w.pos (w.line.length - 1) - 1))
theorem swap_key : KeyE 53 swapW := by
  intro H q lw xl xk xa w h hf hok
  refine soundE_vc Try.mixed ok53 rfl ?_
  have hs := h.s
  have hll : ∀ {K : AV → Prop}, vLen xl K = K (.int .i64 w.line.length) := h.l.len
  have ⟨hp, hl, hkl, ha⟩ := hok
  have stay : ∀ {r : RL} {c : Nat}, swapW w = w → VRE q H [] (KeyR H lw (swapW w)) .ret r H c := fun {r c} e =>
    ⟨.inr rfl, .tuple [], .tuple [], [], by simp [aRes, aResL], by rw [e]; exact ⟨xl, xk, xa, h⟩, fun l hl => absurd hl (not_has_nil l), .refl _, fun _ _ h => h⟩
  simp only [params, Nat.zero_add, Nat.reduceAdd]
  simp (disch := omega) only [sel_t, sel_f, sel_dt, sel_df, sel_nt, sel_nf, v_lss, v_leq, v_gtr, v_geq, v_eql, v_neq, v_add, v_sub, v_not, v_min, v_max, v_pick_t, v_pick_f, v_ext0, v_ext1, v_ext2, v_len_isl, List.length_map, v_len_nils, v_len_sl0, v_len_sl, v_ix_map, v_ix_sl, v_nil_ptr, v_nil_iptr, v_fa_ptr, v_fa_iptr, cell_0, cell_s, cell_a2, cell_a3, cell_a7, cell_a10, v_load_map, v_load_r1, v_call_fn, v_call_fnS, v_load_H, ldH_one, ldH_map, v_store_H, stH_one, upd_same, upd_cons_ne, upd_nil, v_box, v_fld, eqs_nils, eqs_sl, v_eqs_ii, v_neqs_ii, sel_andt, sel_andf, sel_nandt, sel_nandf, encI, Int.toNat_natCast, lq_e, lq_r, Bool.not_true, Bool.not_false, Bool.false_eq_true, reduceIte, decide_true, decide_false, v_build_fill, v_buildS_fill, fill_nil, fill_cons, AV.cells, putL, chunk, List.length_cons, List.length_nil, Nat.reduceAdd, Nat.reduceDiv, Nat.reduceMod, List.take_succ_cons, List.take_zero, List.take_nil, List.drop_succ_cons, List.drop_zero, List.drop_nil, List.cons_append, List.nil_append, List.append_nil, List.all_cons, List.all_nil, AV.one, Nat.reduceLeDiff, and_self, and_true, true_and, Nat.zero_add, ne_eq, Nat.succ_ne_zero, not_false_eq_true, Bool.and_self, Nat.reduceEqDiff, Nat.le_refl, res53, vt53, V53, k53_0, k53_1, k53_4, k53_5, k53_8, k53_9, k53_7, k53_10, k53_6, k53_11, k53_12, k53_3, k53_13, k53_2, k53_14, hs, hll]
  refine sel_d (fun hshort => ?_) (fun hlong => ?_)
  · simp (disch := omega) only [sel_t, sel_f, sel_dt, sel_df, sel_nt, sel_nf, v_lss, v_leq, v_gtr, v_geq, v_eql, v_neq, v_add, v_sub, v_not, v_min, v_max, v_pick_t, v_pick_f, v_ext0, v_ext1, v_ext2, v_len_isl, List.length_map, v_len_nils, v_len_sl0, v_len_sl, v_ix_map, v_ix_sl, v_nil_ptr, v_nil_iptr, v_fa_ptr, v_fa_iptr, cell_0, cell_s, cell_a2, cell_a3, cell_a7, cell_a10, v_load_map, v_load_r1, v_call_fn, v_call_fnS, v_load_H, ldH_one, ldH_map, v_store_H, stH_one, upd_same, upd_cons_ne, upd_nil, v_box, v_fld, eqs_nils, eqs_sl, v_eqs_ii, v_neqs_ii, sel_andt, sel_andf, sel_nandt, sel_nandf, encI, Int.toNat_natCast, lq_e, lq_r, Bool.not_true, Bool.not_false, Bool.false_eq_true, reduceIte, decide_true, decide_false, v_build_fill, v_buildS_fill, fill_nil, fill_cons, AV.cells, putL, chunk, List.length_cons, List.length_nil, Nat.reduceAdd, Nat.reduceDiv, Nat.reduceMod, List.take_succ_cons, List.take_zero, List.take_nil, List.drop_succ_cons, List.drop_zero, List.drop_nil, List.cons_append, List.nil_append, List.append_nil, List.all_cons, List.all_nil, AV.one, Nat.reduceLeDiff, and_self, and_true, true_and, Nat.zero_add, ne_eq, Nat.succ_ne_zero, not_false_eq_true, Bool.and_self, Nat.reduceEqDiff, Nat.le_refl, res53, vt53, V53, k53_0, k53_1, k53_4, k53_5, k53_8, k53_9, k53_7, k53_10, k53_6, k53_11, k53_12, k53_3, k53_13, k53_2, k53_14, hs, hll]
    exact stay (by unfold swapW; rw [if_pos (.inl (by omega))])
  simp (disch := omega) only [sel_t, sel_f, sel_dt, sel_df, sel_nt, sel_nf, v_lss, v_leq, v_gtr, v_geq, v_eql, v_neq, v_add, v_sub, v_not, v_min, v_max, v_pick_t, v_pick_f, v_ext0, v_ext1, v_ext2, v_len_isl, List.length_map, v_len_nils, v_len_sl0, v_len_sl, v_ix_map, v_ix_sl, v_nil_ptr, v_nil_iptr, v_fa_ptr, v_fa_iptr, cell_0, cell_s, cell_a2, cell_a3, cell_a7, cell_a10, v_load_map, v_load_r1, v_call_fn, v_call_fnS, v_load_H, ldH_one, ldH_map, v_store_H, stH_one, upd_same, upd_cons_ne, upd_nil, v_box, v_fld, eqs_nils, eqs_sl, v_eqs_ii, v_neqs_ii, sel_andt, sel_andf, sel_nandt, sel_nandf, encI, Int.toNat_natCast, lq_e, lq_r, Bool.not_true, Bool.not_false, Bool.false_eq_true, reduceIte, decide_true, decide_false, v_build_fill, v_buildS_fill, fill_nil, fill_cons, AV.cells, putL, chunk, List.length_cons, List.length_nil, Nat.reduceAdd, Nat.reduceDiv, Nat.reduceMod, List.take_succ_cons, List.take_zero, List.take_nil, List.drop_succ_cons, List.drop_zero, List.drop_nil, List.cons_append, List.nil_append, List.append_nil, List.all_cons, List.all_nil, AV.one, Nat.reduceLeDiff, and_self, and_true, true_and, Nat.zero_add, ne_eq, Nat.succ_ne_zero, not_false_eq_true, Bool.and_self, Nat.reduceEqDiff, Nat.le_refl, res53, vt53, V53, k53_0, k53_1, k53_4, k53_5, k53_8, k53_9, k53_7, k53_10, k53_6, k53_11, k53_12, k53_3, k53_13, k53_2, k53_14, hs, hll]
  refine sel_d (fun hz => ?_) (fun hnz => ?_)
  · exact stay (by unfold swapW; rw [if_pos (.inr (by omega))])
  simp (disch := omega) only [sel_t, sel_f, sel_dt, sel_df, sel_nt, sel_nf, v_lss, v_leq, v_gtr, v_geq, v_eql, v_neq, v_add, v_sub, v_not, v_min, v_max, v_pick_t, v_pick_f, v_ext0, v_ext1, v_ext2, v_len_isl, List.length_map, v_len_nils, v_len_sl0, v_len_sl, v_ix_map, v_ix_sl, v_nil_ptr, v_nil_iptr, v_fa_ptr, v_fa_iptr, cell_0, cell_s, cell_a2, cell_a3, cell_a7, cell_a10, v_load_map, v_load_r1, v_call_fn, v_call_fnS, v_load_H, ldH_one, ldH_map, v_store_H, stH_one, upd_same, upd_cons_ne, upd_nil, v_box, v_fld, eqs_nils, eqs_sl, v_eqs_ii, v_neqs_ii, sel_andt, sel_andf, sel_nandt, sel_nandf, encI, Int.toNat_natCast, lq_e, lq_r, Bool.not_true, Bool.not_false, Bool.false_eq_true, reduceIte, decide_true, decide_false, v_build_fill, v_buildS_fill, fill_nil, fill_cons, AV.cells, putL, chunk, List.length_cons, List.length_nil, Nat.reduceAdd, Nat.reduceDiv, Nat.reduceMod, List.take_succ_cons, List.take_zero, List.take_nil, List.drop_succ_cons, List.drop_zero, List.drop_nil, List.cons_append, List.nil_append, List.append_nil, List.all_cons, List.all_nil, AV.one, Nat.reduceLeDiff, and_self, and_true, true_and, Nat.zero_add, ne_eq, Nat.succ_ne_zero, not_false_eq_true, Bool.and_self, Nat.reduceEqDiff, Nat.le_refl, res53, vt53, V53, k53_0, k53_1, k53_4, k53_5, k53_8, k53_9, k53_7, k53_10, k53_6, k53_11, k53_12, k53_3, k53_13, k53_2, k53_14, hs, hll]
  refine ⟨(by (repeat' (first | exact cf_nil | exact allp_nil | refine cf_add ?_ ?_ | refine allp_add ?_ ?_)); all_goals (first | exact Or.inl rfl | exact Or.inl (by decide) | exact Or.inr ⟨by (simp (decide := true) [clash, h] <;> assumption), by (simp (decide := true) [clash, h] <;> assumption)⟩)), ?_⟩
  obtain ⟨m, hm, hm1⟩ : ∃ m, m = Min.min w.pos (w.line.length - 1) ∧ Min.min (w.pos : Int) ((w.line.length : Int) - 1) = (m : Int) := ⟨_, rfl, by omega⟩
  rw [hm1]
  have hsw : swapW w = if 1000 < w.line.length ∨ runeB (nth w.line (m - 1)) = false then w else putW { cutW w (m - 1) m with pos := m } (nth w.line (m - 1)) := by
    unfold swapW; rw [if_neg (by omega), ← hm]
  refine sel_d (fun hbig => ?_) (fun hfit => ?_)
  · simp (disch := omega) only [sel_t, sel_f, sel_dt, sel_df, sel_nt, sel_nf, v_lss, v_leq, v_gtr, v_geq, v_eql, v_neq, v_add, v_sub, v_not, v_min, v_max, v_pick_t, v_pick_f, v_ext0, v_ext1, v_ext2, v_len_isl, List.length_map, v_len_nils, v_len_sl0, v_len_sl, v_ix_map, v_ix_sl, v_nil_ptr, v_nil_iptr, v_fa_ptr, v_fa_iptr, cell_0, cell_s, cell_a2, cell_a3, cell_a7, cell_a10, v_load_map, v_load_r1, v_call_fn, v_call_fnS, v_load_H, ldH_one, ldH_map, v_store_H, stH_one, upd_same, upd_cons_ne, upd_nil, v_box, v_fld, eqs_nils, eqs_sl, v_eqs_ii, v_neqs_ii, sel_andt, sel_andf, sel_nandt, sel_nandf, encI, Int.toNat_natCast, lq_e, lq_r, Bool.not_true, Bool.not_false, Bool.false_eq_true, reduceIte, decide_true, decide_false, v_build_fill, v_buildS_fill, fill_nil, fill_cons, AV.cells, putL, chunk, List.length_cons, List.length_nil, Nat.reduceAdd, Nat.reduceDiv, Nat.reduceMod, List.take_succ_cons, List.take_zero, List.take_nil, List.drop_succ_cons, List.drop_zero, List.drop_nil, List.cons_append, List.nil_append, List.append_nil, List.all_cons, List.all_nil, AV.one, Nat.reduceLeDiff, and_self, and_true, true_and, Nat.zero_add, ne_eq, Nat.succ_ne_zero, not_false_eq_true, Bool.and_self, Nat.reduceEqDiff, Nat.le_refl, res53, vt53, V53, k53_0, k53_1, k53_4, k53_5, k53_8, k53_9, k53_7, k53_10, k53_6, k53_11, k53_12, k53_3, k53_13, k53_2, k53_14, hs, hll]
    exact stay (by rw [hsw, if_pos (.inl (by omega))])
  obtain ⟨lab, rfl, hlab⟩ : ∃ lab, xl = .sl lab 1 0 w.line.length ∧ H lab = some (.rows 1 (w.line.map encI)) := by
    rcases h.l with ⟨_, h1⟩ | h1
    · rw [h1] at hlong; simp at hlong
    · exact h1
  simp (disch := omega) only [sel_t, sel_f, sel_dt, sel_df, sel_nt, sel_nf, v_lss, v_leq, v_gtr, v_geq, v_eql, v_neq, v_add, v_sub, v_not, v_min, v_max, v_pick_t, v_pick_f, v_ext0, v_ext1, v_ext2, v_len_isl, List.length_map, v_len_nils, v_len_sl0, v_len_sl, v_ix_map, v_ix_sl, v_nil_ptr, v_nil_iptr, v_fa_ptr, v_fa_iptr, cell_0, cell_s, cell_a2, cell_a3, cell_a7, cell_a10, v_load_map, v_load_r1, v_call_fn, v_call_fnS, v_load_H, ldH_one, ldH_map, v_store_H, stH_one, upd_same, upd_cons_ne, upd_nil, v_box, v_fld, eqs_nils, eqs_sl, v_eqs_ii, v_neqs_ii, sel_andt, sel_andf, sel_nandt, sel_nandf, encI, Int.toNat_natCast, lq_e, lq_r, Bool.not_true, Bool.not_false, Bool.false_eq_true, reduceIte, decide_true, decide_false, v_build_fill, v_buildS_fill, fill_nil, fill_cons, AV.cells, putL, chunk, List.length_cons, List.length_nil, Nat.reduceAdd, Nat.reduceDiv, Nat.reduceMod, List.take_succ_cons, List.take_zero, List.take_nil, List.drop_succ_cons, List.drop_zero, List.drop_nil, List.cons_append, List.nil_append, List.append_nil, List.all_cons, List.all_nil, AV.one, Nat.reduceLeDiff, and_self, and_true, true_and, Nat.zero_add, ne_eq, Nat.succ_ne_zero, not_false_eq_true, Bool.and_self, Nat.reduceEqDiff, Nat.le_refl, res53, vt53, V53, k53_0, k53_1, k53_4, k53_5, k53_8, k53_9, k53_7, k53_10, k53_6, k53_11, k53_12, k53_3, k53_13, k53_2, k53_14, hs, hll, hlab]
  obtain ⟨m1, rfl⟩ : ∃ m1, m = m1 + 1 := ⟨m - 1, by omega⟩
  have em : ((m1 + 1 : Nat) : Int) - 1 = (m1 : Nat) := by omega
  rw [em, Int.toNat_natCast]
  rw [Nat.add_sub_cancel] at hsw
  refine call_pure (mrune_pure _) ?_
  cases hr : runeB (nth w.line m1)
  · simp (disch := omega) only [sel_t, sel_f, sel_dt, sel_df, sel_nt, sel_nf, v_lss, v_leq, v_gtr, v_geq, v_eql, v_neq, v_add, v_sub, v_not, v_min, v_max, v_pick_t, v_pick_f, v_ext0, v_ext1, v_ext2, v_len_isl, List.length_map, v_len_nils, v_len_sl0, v_len_sl, v_ix_map, v_ix_sl, v_nil_ptr, v_nil_iptr, v_fa_ptr, v_fa_iptr, cell_0, cell_s, cell_a2, cell_a3, cell_a7, cell_a10, v_load_map, v_load_r1, v_call_fn, v_call_fnS, v_load_H, ldH_one, ldH_map, v_store_H, stH_one, upd_same, upd_cons_ne, upd_nil, v_box, v_fld, eqs_nils, eqs_sl, v_eqs_ii, v_neqs_ii, sel_andt, sel_andf, sel_nandt, sel_nandf, encI, Int.toNat_natCast, lq_e, lq_r, Bool.not_true, Bool.not_false, Bool.false_eq_true, reduceIte, decide_true, decide_false, v_build_fill, v_buildS_fill, fill_nil, fill_cons, AV.cells, putL, chunk, List.length_cons, List.length_nil, Nat.reduceAdd, Nat.reduceDiv, Nat.reduceMod, List.take_succ_cons, List.take_zero, List.take_nil, List.drop_succ_cons, List.drop_zero, List.drop_nil, List.cons_append, List.nil_append, List.append_nil, List.all_cons, List.all_nil, AV.one, Nat.reduceLeDiff, and_self, and_true, true_and, Nat.zero_add, ne_eq, Nat.succ_ne_zero, not_false_eq_true, Bool.and_self, Nat.reduceEqDiff, Nat.le_refl, res53, vt53, V53, k53_0, k53_1, k53_4, k53_5, k53_8, k53_9, k53_7, k53_10, k53_6, k53_11, k53_12, k53_3, k53_13, k53_2, k53_14]
    exact stay (by rw [hsw, if_pos (.inr hr)])
  simp (disch := omega) only [sel_t, sel_f, sel_dt, sel_df, sel_nt, sel_nf, v_lss, v_leq, v_gtr, v_geq, v_eql, v_neq, v_add, v_sub, v_not, v_min, v_max, v_pick_t, v_pick_f, v_ext0, v_ext1, v_ext2, v_len_isl, List.length_map, v_len_nils, v_len_sl0, v_len_sl, v_ix_map, v_ix_sl, v_nil_ptr, v_nil_iptr, v_fa_ptr, v_fa_iptr, cell_0, cell_s, cell_a2, cell_a3, cell_a7, cell_a10, v_load_map, v_load_r1, v_call_fn, v_call_fnS, v_load_H, ldH_one, ldH_map, v_store_H, stH_one, upd_same, upd_cons_ne, upd_nil, v_box, v_fld, eqs_nils, eqs_sl, v_eqs_ii, v_neqs_ii, sel_andt, sel_andf, sel_nandt, sel_nandf, encI, Int.toNat_natCast, lq_e, lq_r, Bool.not_true, Bool.not_false, Bool.false_eq_true, reduceIte, decide_true, decide_false, v_build_fill, v_buildS_fill, fill_nil, fill_cons, AV.cells, putL, chunk, List.length_cons, List.length_nil, Nat.reduceAdd, Nat.reduceDiv, Nat.reduceMod, List.take_succ_cons, List.take_zero, List.take_nil, List.drop_succ_cons, List.drop_zero, List.drop_nil, List.cons_append, List.nil_append, List.append_nil, List.all_cons, List.all_nil, AV.one, Nat.reduceLeDiff, and_self, and_true, true_and, Nat.zero_add, ne_eq, Nat.succ_ne_zero, not_false_eq_true, Bool.and_self, Nat.reduceEqDiff, Nat.le_refl, res53, vt53, V53, k53_0, k53_1, k53_4, k53_5, k53_8, k53_9, k53_7, k53_10, k53_6, k53_11, k53_12, k53_3, k53_13, k53_2, k53_14, em]
  obtain ⟨y, u, hc, hy, xl', xa', hw, hne⟩ := cut_det (q := 53 :: q) h (fresh_at hf _) m1 (m1 + 1) (by omega) (by omega) hl (by omega)
  have hu := under_of hc
  have hg : cutG w m1 (m1 + 1) = [nth w.line m1] := by
    rw [cutG, Nat.add_sub_cancel_left, drop_nth (by omega)]; rfl
  have hcw : cutW w m1 (m1 + 1) = ⟨w.line.take m1 ++ w.line.drop (m1 + 1), m1, w.kill, w.acts ++ [(2, (m1 : Int), nth w.line m1)]⟩ := by rw [cutW, if_pos (by omega), hg]; rfl
  refine call_res_gen hc (hf.mono (by omega)) (fun H2 hH2 hf2 => ?_)
  obtain rfl : H2 = upd u H := funext hH2
  rw [hcw] at hw
  rw [hg] at hy
  obtain ⟨ly, rfl, hly⟩ : ∃ ly, y = .sl ly 1 0 1 ∧ upd u H ly = some (.rows 1 [[.int .i64 (nth w.line m1)]]) := by
    rcases hy with ⟨_, h1⟩ | h1
    · cases h1
    · exact h1
  have hs2 := hw.s
  simp (disch := omega) only [sel_t, sel_f, sel_dt, sel_df, sel_nt, sel_nf, v_lss, v_leq, v_gtr, v_geq, v_eql, v_neq, v_add, v_sub, v_not, v_min, v_max, v_pick_t, v_pick_f, v_ext0, v_ext1, v_ext2, v_len_isl, List.length_map, v_len_nils, v_len_sl0, v_len_sl, v_ix_map, v_ix_sl, v_nil_ptr, v_nil_iptr, v_fa_ptr, v_fa_iptr, cell_0, cell_s, cell_a2, cell_a3, cell_a7, cell_a10, v_load_map, v_load_r1, v_call_fn, v_call_fnS, v_load_H, ldH_one, ldH_map, v_store_H, stH_one, upd_same, upd_cons_ne, upd_nil, v_box, v_fld, eqs_nils, eqs_sl, v_eqs_ii, v_neqs_ii, sel_andt, sel_andf, sel_nandt, sel_nandf, encI, Int.toNat_natCast, lq_e, lq_r, Bool.not_true, Bool.not_false, Bool.false_eq_true, reduceIte, decide_true, decide_false, v_build_fill, v_buildS_fill, fill_nil, fill_cons, AV.cells, putL, chunk, List.length_cons, List.length_nil, Nat.reduceAdd, Nat.reduceDiv, Nat.reduceMod, List.take_succ_cons, List.take_zero, List.take_nil, List.drop_succ_cons, List.drop_zero, List.drop_nil, List.cons_append, List.nil_append, List.append_nil, List.all_cons, List.all_nil, AV.one, Nat.reduceLeDiff, and_self, and_true, true_and, Nat.zero_add, ne_eq, Nat.succ_ne_zero, not_false_eq_true, Bool.and_self, Nat.reduceEqDiff, Nat.le_refl, res53, vt53, V53, k53_0, k53_1, k53_4, k53_5, k53_8, k53_9, k53_7, k53_10, k53_6, k53_11, k53_12, k53_3, k53_13, k53_2, k53_14, hs2]
  have hly2 : upd [(lw, some (.rows 4 [[xl', .int .i64 ((m1 + 1 : Nat) : Int), xk, xa']]))] (upd u H) ly = some (.rows 1 [[.int .i64 (nth w.line m1)]]) := by
    rw [upd_ne (fun e => by rw [e, hs2] at hly; cases hly)]; exact hly
  simp (disch := omega) only [sel_t, sel_f, sel_dt, sel_df, sel_nt, sel_nf, v_lss, v_leq, v_gtr, v_geq, v_eql, v_neq, v_add, v_sub, v_not, v_min, v_max, v_pick_t, v_pick_f, v_ext0, v_ext1, v_ext2, v_len_isl, List.length_map, v_len_nils, v_len_sl0, v_len_sl, v_ix_map, v_ix_sl, v_nil_ptr, v_nil_iptr, v_fa_ptr, v_fa_iptr, cell_0, cell_s, cell_a2, cell_a3, cell_a7, cell_a10, v_load_map, v_load_r1, v_call_fn, v_call_fnS, v_load_H, ldH_one, ldH_map, v_store_H, stH_one, upd_same, upd_cons_ne, upd_nil, v_box, v_fld, eqs_nils, eqs_sl, v_eqs_ii, v_neqs_ii, sel_andt, sel_andf, sel_nandt, sel_nandf, encI, Int.toNat_natCast, lq_e, lq_r, Bool.not_true, Bool.not_false, Bool.false_eq_true, reduceIte, decide_true, decide_false, v_build_fill, v_buildS_fill, fill_nil, fill_cons, AV.cells, putL, chunk, List.length_cons, List.length_nil, Nat.reduceAdd, Nat.reduceDiv, Nat.reduceMod, List.take_succ_cons, List.take_zero, List.take_nil, List.drop_succ_cons, List.drop_zero, List.drop_nil, List.cons_append, List.nil_append, List.append_nil, List.all_cons, List.all_nil, AV.one, Nat.reduceLeDiff, and_self, and_true, true_and, Nat.zero_add, ne_eq, Nat.succ_ne_zero, not_false_eq_true, Bool.and_self, Nat.reduceEqDiff, Nat.le_refl, res53, vt53, V53, k53_0, k53_1, k53_4, k53_5, k53_8, k53_9, k53_7, k53_10, k53_6, k53_11, k53_12, k53_3, k53_13, k53_2, k53_14, hs2, hly2, Int.toNat_zero]
  have hw2 := hw.at (m1 + 1)
  refine call_e_u (put_sound hw2 (((hf2.old (by rw [hs2]; simp)).mono (by omega)).callee) (by simp; omega) (by simp; omega) (nth w.line m1)) ((hf2.old (by rw [hs2]; simp)).mono (by omega)) (fun x u2 hx hu2 hf3 => ?_)
  obtain ⟨rfl, xl2, xa2, h2⟩ := hx
  rw [show upd u2 (upd [(lw, some (.rows 4 [[xl', .int .i64 ((m1 + 1 : Nat) : Int), xk, xa']]))] (upd u H)) = upd (u2 ++ ([(lw, some (.rows 4 [[xl', .int .i64 ((m1 + 1 : Nat) : Int), xk, xa']]))] ++ u)) H by rw [upd_app, upd_app]] at h2 ⊢
  refine key_end (chg_app (chg_app hu (fun l hl => by rw [has_one hl, hs2]; exact .inl (by simp))) (by rw [upd_app]; exact hu2)) ⟨xl2, xk, xa2, ?_⟩
  rw [hsw, if_neg (by rw [hr]; simp; omega), hcw]
  exact h2
end
end Go.Proofs.Ytbngfbpegdcpkaa
/-! The program's functions in the abstract machine's terms. -/
namespace Go.Proofs.Ytbngfbpegdcpkaa.RunC0
set_option maxRecDepth 100000
set_option linter.unusedVariables false
set_option linter.unusedSimpArgs false
/-- duet/edit.ways -/
def c28 : AFun := ⟨0, 40, [.tmp 0],
  (.seq (.region [⟨(some 0), none, .move, [.c .nilm]⟩] none [])
  (.seq (.region [⟨(some 1), none, .move, [.c (.fn (.func 41) [] [])]⟩] none [1])
  (.seq (.region [⟨(some 2), none, .move, [.c (.fn (.func 42) [] [])]⟩] none [1, 2])
  (.seq (.region [⟨(some 3), none, .mkmap, []⟩, ⟨(some 4), none, .move, [.t 1]⟩, ⟨(some 5), none, .call, [.t 4, .c (.int .i32 97)]⟩, ⟨none, none, (.mapUpdate true [.int, .int]), [.t 3, .t 5, .c (.fn (.func 43) [] [])]⟩, ⟨(some 6), none, .move, [.t 1]⟩, ⟨(some 7), none, .call, [.t 6, .c (.int .i32 101)]⟩, ⟨none, none, (.mapUpdate true [.int, .int]), [.t 3, .t 7, .c (.fn (.func 44) [] [])]⟩, ⟨(some 8), none, .move, [.t 1]⟩, ⟨(some 9), none, .call, [.t 8, .c (.int .i32 98)]⟩, ⟨none, none, (.mapUpdate true [.int, .int]), [.t 3, .t 9, .c (.fn (.func 45) [] [])]⟩, ⟨(some 10), none, .move, [.t 1]⟩, ⟨(some 11), none, .call, [.t 10, .c (.int .i32 102)]⟩, ⟨none, none, (.mapUpdate true [.int, .int]), [.t 3, .t 11, .c (.fn (.func 46) [] [])]⟩, ⟨(some 12), none, .move, [.t 1]⟩, ⟨(some 13), none, .call, [.t 12, .c (.int .i32 104)]⟩, ⟨none, none, (.mapUpdate true [.int, .int]), [.t 3, .t 13, .c (.fn (.func 47) [] [])]⟩, ⟨(some 14), none, .move, [.t 1]⟩, ⟨(some 15), none, .call, [.t 14, .c (.int .i32 100)]⟩, ⟨none, none, (.mapUpdate true [.int, .int]), [.t 3, .t 15, .c (.fn (.func 48) [] [])]⟩, ⟨(some 16), none, .move, [.t 1]⟩, ⟨(some 17), none, .call, [.t 16, .c (.int .i32 107)]⟩, ⟨none, none, (.mapUpdate true [.int, .int]), [.t 3, .t 17, .c (.fn (.func 49) [] [])]⟩, ⟨(some 18), none, .move, [.t 1]⟩, ⟨(some 19), none, .call, [.t 18, .c (.int .i32 117)]⟩, ⟨none, none, (.mapUpdate true [.int, .int]), [.t 3, .t 19, .c (.fn (.func 50) [] [])]⟩, ⟨(some 20), none, .move, [.t 1]⟩, ⟨(some 21), none, .call, [.t 20, .c (.int .i32 119)]⟩, ⟨none, none, (.mapUpdate true [.int, .int]), [.t 3, .t 21, .c (.fn (.func 51) [] [])]⟩, ⟨(some 22), none, .move, [.t 1]⟩, ⟨(some 23), none, .call, [.t 22, .c (.int .i32 121)]⟩, ⟨none, none, (.mapUpdate true [.int, .int]), [.t 3, .t 23, .c (.fn (.func 52) [] [])]⟩, ⟨(some 24), none, .move, [.t 1]⟩, ⟨(some 25), none, .call, [.t 24, .c (.int .i32 116)]⟩, ⟨none, none, (.mapUpdate true [.int, .int]), [.t 3, .t 25, .c (.fn (.func 53) [] [])]⟩, ⟨(some 26), none, .move, [.t 2]⟩, ⟨(some 27), none, .call, [.t 26, .c (.int .i32 98)]⟩, ⟨none, none, (.mapUpdate true [.int, .int]), [.t 3, .t 27, .c (.fn (.func 54) [] [])]⟩, ⟨(some 28), none, .move, [.t 2]⟩, ⟨(some 29), none, .call, [.t 28, .c (.int .i32 102)]⟩, ⟨none, none, (.mapUpdate true [.int, .int]), [.t 3, .t 29, .c (.fn (.func 55) [] [])]⟩, ⟨(some 30), none, .move, [.t 2]⟩, ⟨(some 31), none, .call, [.t 30, .c (.int .i32 100)]⟩, ⟨none, none, (.mapUpdate true [.int, .int]), [.t 3, .t 31, .c (.fn (.func 56) [] [])]⟩, ⟨(some 32), none, .move, [.t 2]⟩, ⟨(some 33), none, .call, [.t 32, .c (.int .i32 127)]⟩, ⟨none, none, (.mapUpdate true [.int, .int]), [.t 3, .t 33, .c (.fn (.func 51) [] [])]⟩, ⟨(some 34), none, (.build [(.int .i64 0), (.int .i64 0)] [(0, 1)]), [.c (.int .i64 7)]⟩, ⟨none, none, (.mapUpdate true [.int, .int]), [.t 3, .t 34, .c (.fn (.func 45) [] [])]⟩, ⟨(some 35), none, (.build [(.int .i64 0), (.int .i64 0)] [(0, 1)]), [.c (.int .i64 6)]⟩, ⟨none, none, (.mapUpdate true [.int, .int]), [.t 3, .t 35, .c (.fn (.func 46) [] [])]⟩, ⟨(some 36), none, (.build [(.int .i64 0), (.int .i64 0)] [(0, 1)]), [.c (.int .i64 8)]⟩, ⟨none, none, (.mapUpdate true [.int, .int]), [.t 3, .t 36, .c (.fn (.func 43) [] [])]⟩, ⟨(some 37), none, (.build [(.int .i64 0), (.int .i64 0)] [(0, 1)]), [.c (.int .i64 9)]⟩, ⟨none, none, (.mapUpdate true [.int, .int]), [.t 3, .t 37, .c (.fn (.func 44) [] [])]⟩, ⟨(some 38), none, (.build [(.int .i64 0), (.int .i64 0)] [(0, 1)]), [.c (.int .i64 10)]⟩, ⟨none, none, (.mapUpdate true [.int, .int]), [.t 3, .t 38, .c (.fn (.func 48) [] [])]⟩, ⟨(some 39), none, .move, [.t 3]⟩, ⟨(some 0), none, .move, [.t 39]⟩] (some [0, 0, 2, 7, 0, 22, 55, 0, 182, 439, 0, 1462, 3511, 0, 11702, 28087, 0, 93622, 224695, 0, 748982, 1797559, 0, 5991862, 14380471, 0, 47934902, 115043767, 0, 383479222, 920350135, 0, 3067833782, 7362801079, 0, 24542670262, 58902408631, 0, 196341362102, 471219269047, 0, 1570730896822, 3769754152375, 0, 12565847174582, 30158033218999, 0, 70368744177665, 0, 281474976710657, 0, 1125899906842625, 0, 4503599627370497, 0, 18014398509481985, 72057594037927935, 144115188075855871]) [0])
  .ret))))⟩
theorem ok28 : FunOk Try.prog 28 c28 := ⟨⟨Try.f28, _, Try.func28, rfl, by kernel_rfl, by kernel_rfl, by kernel_rfl, by kernel_rfl⟩, by decide⟩
def tblL : List (Nat × AFun) := [(28, c28)]
def tbl (f : Nat) : Option AFun := tblL.lookup f
theorem tbl_ok : ∀ f A, tbl f = some A → FunOk Try.prog f A := lookup_ok (by
  simp only [tblL, List.forall_mem_cons]
  exact ⟨ok28, by simp⟩)
theorem run_ok (fuel d : Nat) : CallOk Try.prog (arun tbl fuel d) := arun_ok Try.mixed tbl_ok fuel d
end Go.Proofs.Ytbngfbpegdcpkaa.RunC0
/-! What keys do: the table. -/
namespace Go.Proofs.Ytbngfbpegdcpkaa
set_option linter.unusedVariables false
set_option linter.unusedSimpArgs false
set_option maxRecDepth 100000
theorem ctrl_pure (c : Int) (h : 0 ≤ c ∧ c ≤ 1000) : Pure Try.prog 41 [.int .i32 c] (.agg [.int .i64 2, .int .i64 c]) := by
  refine pure_vc Try.mixed ok41 rfl (fun q => ?_)
  simp only [params, Nat.zero_add, Nat.reduceAdd]
  repeat' (first | (simp (disch := omega) only [sel_t, sel_f, sel_dt, sel_df, sel_nt, sel_nf, v_lss, v_leq, v_gtr, v_geq, v_eql, v_neq, v_add, v_sub, v_not, v_min, v_max, v_pick_t, v_pick_f, v_ext0, v_ext1, v_ext2, v_len_isl, List.length_map, v_len_nils, v_len_sl0, v_len_sl, v_ix_map, v_ix_sl, v_nil_ptr, v_nil_iptr, v_fa_ptr, v_fa_iptr, cell_0, cell_s, cell_a2, cell_a3, cell_a7, cell_a10, v_load_map, v_load_r1, v_call_fn, v_call_fnS, v_load_H, ldH_one, ldH_map, v_store_H, stH_one, upd_same, upd_cons_ne, upd_nil, v_box, v_fld, eqs_nils, eqs_sl, v_eqs_ii, v_neqs_ii, sel_andt, sel_andf, sel_nandt, sel_nandf, encI, Int.toNat_natCast, lq_e, lq_r, Bool.not_true, Bool.not_false, Bool.false_eq_true, reduceIte, decide_true, decide_false, v_build_fill, v_buildS_fill, fill_nil, fill_cons, AV.cells, putL, chunk, List.length_cons, List.length_nil, Nat.reduceAdd, Nat.reduceDiv, Nat.reduceMod, List.take_succ_cons, List.take_zero, List.take_nil, List.drop_succ_cons, List.drop_zero, List.drop_nil, List.cons_append, List.nil_append, List.append_nil, List.all_cons, List.all_nil, AV.one, Nat.reduceLeDiff, and_self, and_true, true_and, Nat.zero_add, ne_eq, Nat.succ_ne_zero, not_false_eq_true, Bool.and_self, Nat.reduceEqDiff, Nat.le_refl, res41, vt41, V41, k41_0, v_conv]) | (refine sel_d (fun _ => ?_) (fun _ => ?_)) | (refine sel_n (fun _ => ?_) (fun _ => ?_)) | (refine sel_and (fun _ => ?_) (fun _ => ?_)) | (refine sel_nand (fun _ => ?_) (fun _ => ?_)) | (refine And.intro (clash_quiet rfl) ?_) | (refine eqs_isl (fun _ => ?_) ?_) | (exfalso; omega; done))
  exact vpc1 (by simp [upd]) rfl (.refl _)
theorem meta_pure (c : Int) (h : 0 ≤ c ∧ c ≤ 1000) : Pure Try.prog 42 [.int .i32 c] (.agg [.int .i64 3, .int .i64 c]) := by
  refine pure_vc Try.mixed ok42 rfl (fun q => ?_)
  simp only [params, Nat.zero_add, Nat.reduceAdd]
  repeat' (first | (simp (disch := omega) only [sel_t, sel_f, sel_dt, sel_df, sel_nt, sel_nf, v_lss, v_leq, v_gtr, v_geq, v_eql, v_neq, v_add, v_sub, v_not, v_min, v_max, v_pick_t, v_pick_f, v_ext0, v_ext1, v_ext2, v_len_isl, List.length_map, v_len_nils, v_len_sl0, v_len_sl, v_ix_map, v_ix_sl, v_nil_ptr, v_nil_iptr, v_fa_ptr, v_fa_iptr, cell_0, cell_s, cell_a2, cell_a3, cell_a7, cell_a10, v_load_map, v_load_r1, v_call_fn, v_call_fnS, v_load_H, ldH_one, ldH_map, v_store_H, stH_one, upd_same, upd_cons_ne, upd_nil, v_box, v_fld, eqs_nils, eqs_sl, v_eqs_ii, v_neqs_ii, sel_andt, sel_andf, sel_nandt, sel_nandf, encI, Int.toNat_natCast, lq_e, lq_r, Bool.not_true, Bool.not_false, Bool.false_eq_true, reduceIte, decide_true, decide_false, v_build_fill, v_buildS_fill, fill_nil, fill_cons, AV.cells, putL, chunk, List.length_cons, List.length_nil, Nat.reduceAdd, Nat.reduceDiv, Nat.reduceMod, List.take_succ_cons, List.take_zero, List.take_nil, List.drop_succ_cons, List.drop_zero, List.drop_nil, List.cons_append, List.nil_append, List.append_nil, List.all_cons, List.all_nil, AV.one, Nat.reduceLeDiff, and_self, and_true, true_and, Nat.zero_add, ne_eq, Nat.succ_ne_zero, not_false_eq_true, Bool.and_self, Nat.reduceEqDiff, Nat.le_refl, res42, vt42, V42, k42_0, v_conv]) | (refine sel_d (fun _ => ?_) (fun _ => ?_)) | (refine sel_n (fun _ => ?_) (fun _ => ?_)) | (refine sel_and (fun _ => ?_) (fun _ => ?_)) | (refine sel_nand (fun _ => ?_) (fun _ => ?_)) | (refine And.intro (clash_quiet rfl) ?_) | (refine eqs_isl (fun _ => ?_) ?_) | (exfalso; omega; done))
  exact vpc1 (by simp [upd]) rfl (.refl _)
def keyF : CallF := fun f xs _ _ => match xs with
  | [.int .i32 c] => if 0 ≤ c ∧ c ≤ 1000 then (if f = 41 then some (.pure (.agg [.int .i64 2, .int .i64 c])) else if f = 42 then some (.pure (.agg [.int .i64 3, .int .i64 c])) else none) else none
  | _ => none
theorem keyF_ok : CallOk Try.prog keyF := callOk_of fun f xs H q r h => by
  unfold keyF at h
  split at h
  · split at h
    · rename_i hc
      split at h
      · rename_i hf; subst hf; cases h; exact ctrl_pure _ hc H q
      · split at h
        · rename_i hf; subst hf; cases h; exact meta_pure _ hc H q
        · cases h
    · cases h
  · cases h
end Go.Proofs.Ytbngfbpegdcpkaa
/-! A map's literal: its operations. -/
namespace Go.Proofs.Ytbngfbpegdcpkaa
set_option maxRecDepth 100000
def litOps : List AIns := [⟨(some 3), none, .mkmap, []⟩, ⟨(some 4), none, .move, [.t 1]⟩, ⟨(some 5), none, .call, [.t 4, .c (.int .i32 97)]⟩, ⟨none, none, (.mapUpdate true [.int, .int]), [.t 3, .t 5, .c (.fn (.func 43) [] [])]⟩, ⟨(some 6), none, .move, [.t 1]⟩, ⟨(some 7), none, .call, [.t 6, .c (.int .i32 101)]⟩, ⟨none, none, (.mapUpdate true [.int, .int]), [.t 3, .t 7, .c (.fn (.func 44) [] [])]⟩, ⟨(some 8), none, .move, [.t 1]⟩, ⟨(some 9), none, .call, [.t 8, .c (.int .i32 98)]⟩, ⟨none, none, (.mapUpdate true [.int, .int]), [.t 3, .t 9, .c (.fn (.func 45) [] [])]⟩, ⟨(some 10), none, .move, [.t 1]⟩, ⟨(some 11), none, .call, [.t 10, .c (.int .i32 102)]⟩, ⟨none, none, (.mapUpdate true [.int, .int]), [.t 3, .t 11, .c (.fn (.func 46) [] [])]⟩, ⟨(some 12), none, .move, [.t 1]⟩, ⟨(some 13), none, .call, [.t 12, .c (.int .i32 104)]⟩, ⟨none, none, (.mapUpdate true [.int, .int]), [.t 3, .t 13, .c (.fn (.func 47) [] [])]⟩, ⟨(some 14), none, .move, [.t 1]⟩, ⟨(some 15), none, .call, [.t 14, .c (.int .i32 100)]⟩, ⟨none, none, (.mapUpdate true [.int, .int]), [.t 3, .t 15, .c (.fn (.func 48) [] [])]⟩, ⟨(some 16), none, .move, [.t 1]⟩, ⟨(some 17), none, .call, [.t 16, .c (.int .i32 107)]⟩, ⟨none, none, (.mapUpdate true [.int, .int]), [.t 3, .t 17, .c (.fn (.func 49) [] [])]⟩, ⟨(some 18), none, .move, [.t 1]⟩, ⟨(some 19), none, .call, [.t 18, .c (.int .i32 117)]⟩, ⟨none, none, (.mapUpdate true [.int, .int]), [.t 3, .t 19, .c (.fn (.func 50) [] [])]⟩, ⟨(some 20), none, .move, [.t 1]⟩, ⟨(some 21), none, .call, [.t 20, .c (.int .i32 119)]⟩, ⟨none, none, (.mapUpdate true [.int, .int]), [.t 3, .t 21, .c (.fn (.func 51) [] [])]⟩, ⟨(some 22), none, .move, [.t 1]⟩, ⟨(some 23), none, .call, [.t 22, .c (.int .i32 121)]⟩, ⟨none, none, (.mapUpdate true [.int, .int]), [.t 3, .t 23, .c (.fn (.func 52) [] [])]⟩, ⟨(some 24), none, .move, [.t 1]⟩, ⟨(some 25), none, .call, [.t 24, .c (.int .i32 116)]⟩, ⟨none, none, (.mapUpdate true [.int, .int]), [.t 3, .t 25, .c (.fn (.func 53) [] [])]⟩, ⟨(some 26), none, .move, [.t 2]⟩, ⟨(some 27), none, .call, [.t 26, .c (.int .i32 98)]⟩, ⟨none, none, (.mapUpdate true [.int, .int]), [.t 3, .t 27, .c (.fn (.func 54) [] [])]⟩, ⟨(some 28), none, .move, [.t 2]⟩, ⟨(some 29), none, .call, [.t 28, .c (.int .i32 102)]⟩, ⟨none, none, (.mapUpdate true [.int, .int]), [.t 3, .t 29, .c (.fn (.func 55) [] [])]⟩, ⟨(some 30), none, .move, [.t 2]⟩, ⟨(some 31), none, .call, [.t 30, .c (.int .i32 100)]⟩, ⟨none, none, (.mapUpdate true [.int, .int]), [.t 3, .t 31, .c (.fn (.func 56) [] [])]⟩, ⟨(some 32), none, .move, [.t 2]⟩, ⟨(some 33), none, .call, [.t 32, .c (.int .i32 127)]⟩, ⟨none, none, (.mapUpdate true [.int, .int]), [.t 3, .t 33, .c (.fn (.func 51) [] [])]⟩, ⟨(some 34), none, (.build [(.int .i64 0), (.int .i64 0)] [(0, 1)]), [.c (.int .i64 7)]⟩, ⟨none, none, (.mapUpdate true [.int, .int]), [.t 3, .t 34, .c (.fn (.func 45) [] [])]⟩, ⟨(some 35), none, (.build [(.int .i64 0), (.int .i64 0)] [(0, 1)]), [.c (.int .i64 6)]⟩, ⟨none, none, (.mapUpdate true [.int, .int]), [.t 3, .t 35, .c (.fn (.func 46) [] [])]⟩, ⟨(some 36), none, (.build [(.int .i64 0), (.int .i64 0)] [(0, 1)]), [.c (.int .i64 8)]⟩, ⟨none, none, (.mapUpdate true [.int, .int]), [.t 3, .t 36, .c (.fn (.func 43) [] [])]⟩, ⟨(some 37), none, (.build [(.int .i64 0), (.int .i64 0)] [(0, 1)]), [.c (.int .i64 9)]⟩, ⟨none, none, (.mapUpdate true [.int, .int]), [.t 3, .t 37, .c (.fn (.func 44) [] [])]⟩, ⟨(some 38), none, (.build [(.int .i64 0), (.int .i64 0)] [(0, 1)]), [.c (.int .i64 10)]⟩, ⟨none, none, (.mapUpdate true [.int, .int]), [.t 3, .t 38, .c (.fn (.func 48) [] [])]⟩, ⟨(some 39), none, .move, [.t 3]⟩, ⟨(some 0), none, .move, [.t 39]⟩]
def litMasks : List Nat := [0, 0, 2, 7, 0, 22, 55, 0, 182, 439, 0, 1462, 3511, 0, 11702, 28087, 0, 93622, 224695, 0, 748982, 1797559, 0, 5991862, 14380471, 0, 47934902, 115043767, 0, 383479222, 920350135, 0, 3067833782, 7362801079, 0, 24542670262, 58902408631, 0, 196341362102, 471219269047, 0, 1570730896822, 3769754152375, 0, 12565847174582, 30158033218999, 0, 70368744177665, 0, 281474976710657, 0, 1125899906842625, 0, 4503599627370497, 0, 18014398509481985, 72057594037927935, 144115188075855871]
def litV (lM : Lab) : RL := [(1, (.fn (.func 41) [] [])), (2, (.fn (.func 42) [] [])), (3, (.map lM)), (4, (.fn (.func 41) [] [])), (5, (.agg [.int .i64 2, .int .i64 97])), (6, (.fn (.func 41) [] [])), (7, (.agg [.int .i64 2, .int .i64 101])), (8, (.fn (.func 41) [] [])), (9, (.agg [.int .i64 2, .int .i64 98])), (10, (.fn (.func 41) [] [])), (11, (.agg [.int .i64 2, .int .i64 102])), (12, (.fn (.func 41) [] [])), (13, (.agg [.int .i64 2, .int .i64 104])), (14, (.fn (.func 41) [] [])), (15, (.agg [.int .i64 2, .int .i64 100])), (16, (.fn (.func 41) [] [])), (17, (.agg [.int .i64 2, .int .i64 107])), (18, (.fn (.func 41) [] [])), (19, (.agg [.int .i64 2, .int .i64 117])), (20, (.fn (.func 41) [] [])), (21, (.agg [.int .i64 2, .int .i64 119])), (22, (.fn (.func 41) [] [])), (23, (.agg [.int .i64 2, .int .i64 121])), (24, (.fn (.func 41) [] [])), (25, (.agg [.int .i64 2, .int .i64 116])), (26, (.fn (.func 42) [] [])), (27, (.agg [.int .i64 3, .int .i64 98])), (28, (.fn (.func 42) [] [])), (29, (.agg [.int .i64 3, .int .i64 102])), (30, (.fn (.func 42) [] [])), (31, (.agg [.int .i64 3, .int .i64 100])), (32, (.fn (.func 42) [] [])), (33, (.agg [.int .i64 3, .int .i64 127])), (34, (.agg [(.int .i64 7), (.int .i64 0)])), (35, (.agg [(.int .i64 6), (.int .i64 0)])), (36, (.agg [(.int .i64 8), (.int .i64 0)])), (37, (.agg [(.int .i64 9), (.int .i64 0)])), (38, (.agg [(.int .i64 10), (.int .i64 0)])), (39, (.map lM)), (0, (.map lM))]
def litU : List (Nat × (AV × AV)) := [(3, ((.agg [.int .i64 2, .int .i64 97]), (.fn (.func 43) [] []))), (6, ((.agg [.int .i64 2, .int .i64 101]), (.fn (.func 44) [] []))), (9, ((.agg [.int .i64 2, .int .i64 98]), (.fn (.func 45) [] []))), (12, ((.agg [.int .i64 2, .int .i64 102]), (.fn (.func 46) [] []))), (15, ((.agg [.int .i64 2, .int .i64 104]), (.fn (.func 47) [] []))), (18, ((.agg [.int .i64 2, .int .i64 100]), (.fn (.func 48) [] []))), (21, ((.agg [.int .i64 2, .int .i64 107]), (.fn (.func 49) [] []))), (24, ((.agg [.int .i64 2, .int .i64 117]), (.fn (.func 50) [] []))), (27, ((.agg [.int .i64 2, .int .i64 119]), (.fn (.func 51) [] []))), (30, ((.agg [.int .i64 2, .int .i64 121]), (.fn (.func 52) [] []))), (33, ((.agg [.int .i64 2, .int .i64 116]), (.fn (.func 53) [] []))), (36, ((.agg [.int .i64 3, .int .i64 98]), (.fn (.func 54) [] []))), (39, ((.agg [.int .i64 3, .int .i64 102]), (.fn (.func 55) [] []))), (42, ((.agg [.int .i64 3, .int .i64 100]), (.fn (.func 56) [] []))), (45, ((.agg [.int .i64 3, .int .i64 127]), (.fn (.func 51) [] []))), (47, ((.agg [(.int .i64 7), (.int .i64 0)]), (.fn (.func 45) [] []))), (49, ((.agg [(.int .i64 6), (.int .i64 0)]), (.fn (.func 46) [] []))), (51, ((.agg [(.int .i64 8), (.int .i64 0)]), (.fn (.func 43) [] []))), (53, ((.agg [(.int .i64 9), (.int .i64 0)]), (.fn (.func 44) [] []))), (55, ((.agg [(.int .i64 10), (.int .i64 0)]), (.fn (.func 48) [] [])))]
def litB : List Nat := [1, 2]
theorem lit_ops (lM : Lab) : AllIdx (LitOp keyF litOps litMasks litB (litV lM) litU true [.int, .int] lM) 0 litOps :=
  ⟨.mk 3 rfl,
   .val 1 4 .move [.t 1] [(.fn (.func 41) [] [])] (.fn (.func 41) [] []) (some []) (by decide) rfl (fun _ _ => rfl) rfl (by decide) (by decide),
   .val 2 5 .call [.t 4, .c (.int .i32 97)] [(.fn (.func 41) [] []), (.int .i32 97)] (.agg [.int .i64 2, .int .i64 97]) (some []) (by decide) rfl (fun _ _ => rfl) rfl (by decide) (by decide),
   .upd 3 (.t 3) (.t 5) (.c (.fn (.func 43) [] [])) (.agg [.int .i64 2, .int .i64 97]) (.fn (.func 43) [] []) (by decide) (by decide) rfl (by simp [litU]),
   .val 4 6 .move [.t 1] [(.fn (.func 41) [] [])] (.fn (.func 41) [] []) (some []) (by decide) rfl (fun _ _ => rfl) rfl (by decide) (by decide),
   .val 5 7 .call [.t 6, .c (.int .i32 101)] [(.fn (.func 41) [] []), (.int .i32 101)] (.agg [.int .i64 2, .int .i64 101]) (some []) (by decide) rfl (fun _ _ => rfl) rfl (by decide) (by decide),
   .upd 6 (.t 3) (.t 7) (.c (.fn (.func 44) [] [])) (.agg [.int .i64 2, .int .i64 101]) (.fn (.func 44) [] []) (by decide) (by decide) rfl (by simp [litU]),
   .val 7 8 .move [.t 1] [(.fn (.func 41) [] [])] (.fn (.func 41) [] []) (some []) (by decide) rfl (fun _ _ => rfl) rfl (by decide) (by decide),
   .val 8 9 .call [.t 8, .c (.int .i32 98)] [(.fn (.func 41) [] []), (.int .i32 98)] (.agg [.int .i64 2, .int .i64 98]) (some []) (by decide) rfl (fun _ _ => rfl) rfl (by decide) (by decide),
   .upd 9 (.t 3) (.t 9) (.c (.fn (.func 45) [] [])) (.agg [.int .i64 2, .int .i64 98]) (.fn (.func 45) [] []) (by decide) (by decide) rfl (by simp [litU]),
   .val 10 10 .move [.t 1] [(.fn (.func 41) [] [])] (.fn (.func 41) [] []) (some []) (by decide) rfl (fun _ _ => rfl) rfl (by decide) (by decide),
   .val 11 11 .call [.t 10, .c (.int .i32 102)] [(.fn (.func 41) [] []), (.int .i32 102)] (.agg [.int .i64 2, .int .i64 102]) (some []) (by decide) rfl (fun _ _ => rfl) rfl (by decide) (by decide),
   .upd 12 (.t 3) (.t 11) (.c (.fn (.func 46) [] [])) (.agg [.int .i64 2, .int .i64 102]) (.fn (.func 46) [] []) (by decide) (by decide) rfl (by simp [litU]),
   .val 13 12 .move [.t 1] [(.fn (.func 41) [] [])] (.fn (.func 41) [] []) (some []) (by decide) rfl (fun _ _ => rfl) rfl (by decide) (by decide),
   .val 14 13 .call [.t 12, .c (.int .i32 104)] [(.fn (.func 41) [] []), (.int .i32 104)] (.agg [.int .i64 2, .int .i64 104]) (some []) (by decide) rfl (fun _ _ => rfl) rfl (by decide) (by decide),
   .upd 15 (.t 3) (.t 13) (.c (.fn (.func 47) [] [])) (.agg [.int .i64 2, .int .i64 104]) (.fn (.func 47) [] []) (by decide) (by decide) rfl (by simp [litU]),
   .val 16 14 .move [.t 1] [(.fn (.func 41) [] [])] (.fn (.func 41) [] []) (some []) (by decide) rfl (fun _ _ => rfl) rfl (by decide) (by decide),
   .val 17 15 .call [.t 14, .c (.int .i32 100)] [(.fn (.func 41) [] []), (.int .i32 100)] (.agg [.int .i64 2, .int .i64 100]) (some []) (by decide) rfl (fun _ _ => rfl) rfl (by decide) (by decide),
   .upd 18 (.t 3) (.t 15) (.c (.fn (.func 48) [] [])) (.agg [.int .i64 2, .int .i64 100]) (.fn (.func 48) [] []) (by decide) (by decide) rfl (by simp [litU]),
   .val 19 16 .move [.t 1] [(.fn (.func 41) [] [])] (.fn (.func 41) [] []) (some []) (by decide) rfl (fun _ _ => rfl) rfl (by decide) (by decide),
   .val 20 17 .call [.t 16, .c (.int .i32 107)] [(.fn (.func 41) [] []), (.int .i32 107)] (.agg [.int .i64 2, .int .i64 107]) (some []) (by decide) rfl (fun _ _ => rfl) rfl (by decide) (by decide),
   .upd 21 (.t 3) (.t 17) (.c (.fn (.func 49) [] [])) (.agg [.int .i64 2, .int .i64 107]) (.fn (.func 49) [] []) (by decide) (by decide) rfl (by simp [litU]),
   .val 22 18 .move [.t 1] [(.fn (.func 41) [] [])] (.fn (.func 41) [] []) (some []) (by decide) rfl (fun _ _ => rfl) rfl (by decide) (by decide),
   .val 23 19 .call [.t 18, .c (.int .i32 117)] [(.fn (.func 41) [] []), (.int .i32 117)] (.agg [.int .i64 2, .int .i64 117]) (some []) (by decide) rfl (fun _ _ => rfl) rfl (by decide) (by decide),
   .upd 24 (.t 3) (.t 19) (.c (.fn (.func 50) [] [])) (.agg [.int .i64 2, .int .i64 117]) (.fn (.func 50) [] []) (by decide) (by decide) rfl (by simp [litU]),
   .val 25 20 .move [.t 1] [(.fn (.func 41) [] [])] (.fn (.func 41) [] []) (some []) (by decide) rfl (fun _ _ => rfl) rfl (by decide) (by decide),
   .val 26 21 .call [.t 20, .c (.int .i32 119)] [(.fn (.func 41) [] []), (.int .i32 119)] (.agg [.int .i64 2, .int .i64 119]) (some []) (by decide) rfl (fun _ _ => rfl) rfl (by decide) (by decide),
   .upd 27 (.t 3) (.t 21) (.c (.fn (.func 51) [] [])) (.agg [.int .i64 2, .int .i64 119]) (.fn (.func 51) [] []) (by decide) (by decide) rfl (by simp [litU]),
   .val 28 22 .move [.t 1] [(.fn (.func 41) [] [])] (.fn (.func 41) [] []) (some []) (by decide) rfl (fun _ _ => rfl) rfl (by decide) (by decide),
   .val 29 23 .call [.t 22, .c (.int .i32 121)] [(.fn (.func 41) [] []), (.int .i32 121)] (.agg [.int .i64 2, .int .i64 121]) (some []) (by decide) rfl (fun _ _ => rfl) rfl (by decide) (by decide),
   .upd 30 (.t 3) (.t 23) (.c (.fn (.func 52) [] [])) (.agg [.int .i64 2, .int .i64 121]) (.fn (.func 52) [] []) (by decide) (by decide) rfl (by simp [litU]),
   .val 31 24 .move [.t 1] [(.fn (.func 41) [] [])] (.fn (.func 41) [] []) (some []) (by decide) rfl (fun _ _ => rfl) rfl (by decide) (by decide),
   .val 32 25 .call [.t 24, .c (.int .i32 116)] [(.fn (.func 41) [] []), (.int .i32 116)] (.agg [.int .i64 2, .int .i64 116]) (some []) (by decide) rfl (fun _ _ => rfl) rfl (by decide) (by decide),
   .upd 33 (.t 3) (.t 25) (.c (.fn (.func 53) [] [])) (.agg [.int .i64 2, .int .i64 116]) (.fn (.func 53) [] []) (by decide) (by decide) rfl (by simp [litU]),
   .val 34 26 .move [.t 2] [(.fn (.func 42) [] [])] (.fn (.func 42) [] []) (some []) (by decide) rfl (fun _ _ => rfl) rfl (by decide) (by decide),
   .val 35 27 .call [.t 26, .c (.int .i32 98)] [(.fn (.func 42) [] []), (.int .i32 98)] (.agg [.int .i64 3, .int .i64 98]) (some []) (by decide) rfl (fun _ _ => rfl) rfl (by decide) (by decide),
   .upd 36 (.t 3) (.t 27) (.c (.fn (.func 54) [] [])) (.agg [.int .i64 3, .int .i64 98]) (.fn (.func 54) [] []) (by decide) (by decide) rfl (by simp [litU]),
   .val 37 28 .move [.t 2] [(.fn (.func 42) [] [])] (.fn (.func 42) [] []) (some []) (by decide) rfl (fun _ _ => rfl) rfl (by decide) (by decide),
   .val 38 29 .call [.t 28, .c (.int .i32 102)] [(.fn (.func 42) [] []), (.int .i32 102)] (.agg [.int .i64 3, .int .i64 102]) (some []) (by decide) rfl (fun _ _ => rfl) rfl (by decide) (by decide),
   .upd 39 (.t 3) (.t 29) (.c (.fn (.func 55) [] [])) (.agg [.int .i64 3, .int .i64 102]) (.fn (.func 55) [] []) (by decide) (by decide) rfl (by simp [litU]),
   .val 40 30 .move [.t 2] [(.fn (.func 42) [] [])] (.fn (.func 42) [] []) (some []) (by decide) rfl (fun _ _ => rfl) rfl (by decide) (by decide),
   .val 41 31 .call [.t 30, .c (.int .i32 100)] [(.fn (.func 42) [] []), (.int .i32 100)] (.agg [.int .i64 3, .int .i64 100]) (some []) (by decide) rfl (fun _ _ => rfl) rfl (by decide) (by decide),
   .upd 42 (.t 3) (.t 31) (.c (.fn (.func 56) [] [])) (.agg [.int .i64 3, .int .i64 100]) (.fn (.func 56) [] []) (by decide) (by decide) rfl (by simp [litU]),
   .val 43 32 .move [.t 2] [(.fn (.func 42) [] [])] (.fn (.func 42) [] []) (some []) (by decide) rfl (fun _ _ => rfl) rfl (by decide) (by decide),
   .val 44 33 .call [.t 32, .c (.int .i32 127)] [(.fn (.func 42) [] []), (.int .i32 127)] (.agg [.int .i64 3, .int .i64 127]) (some []) (by decide) rfl (fun _ _ => rfl) rfl (by decide) (by decide),
   .upd 45 (.t 3) (.t 33) (.c (.fn (.func 51) [] [])) (.agg [.int .i64 3, .int .i64 127]) (.fn (.func 51) [] []) (by decide) (by decide) rfl (by simp [litU]),
   .val 46 34 (.build [(.int .i64 0), (.int .i64 0)] [(0, 1)]) [.c (.int .i64 7)] [(.int .i64 7)] (.agg [(.int .i64 7), (.int .i64 0)]) (some []) (by decide) rfl (fun _ _ => rfl) rfl (by decide) (by decide),
   .upd 47 (.t 3) (.t 34) (.c (.fn (.func 45) [] [])) (.agg [(.int .i64 7), (.int .i64 0)]) (.fn (.func 45) [] []) (by decide) (by decide) rfl (by simp [litU]),
   .val 48 35 (.build [(.int .i64 0), (.int .i64 0)] [(0, 1)]) [.c (.int .i64 6)] [(.int .i64 6)] (.agg [(.int .i64 6), (.int .i64 0)]) (some []) (by decide) rfl (fun _ _ => rfl) rfl (by decide) (by decide),
   .upd 49 (.t 3) (.t 35) (.c (.fn (.func 46) [] [])) (.agg [(.int .i64 6), (.int .i64 0)]) (.fn (.func 46) [] []) (by decide) (by decide) rfl (by simp [litU]),
   .val 50 36 (.build [(.int .i64 0), (.int .i64 0)] [(0, 1)]) [.c (.int .i64 8)] [(.int .i64 8)] (.agg [(.int .i64 8), (.int .i64 0)]) (some []) (by decide) rfl (fun _ _ => rfl) rfl (by decide) (by decide),
   .upd 51 (.t 3) (.t 36) (.c (.fn (.func 43) [] [])) (.agg [(.int .i64 8), (.int .i64 0)]) (.fn (.func 43) [] []) (by decide) (by decide) rfl (by simp [litU]),
   .val 52 37 (.build [(.int .i64 0), (.int .i64 0)] [(0, 1)]) [.c (.int .i64 9)] [(.int .i64 9)] (.agg [(.int .i64 9), (.int .i64 0)]) (some []) (by decide) rfl (fun _ _ => rfl) rfl (by decide) (by decide),
   .upd 53 (.t 3) (.t 37) (.c (.fn (.func 44) [] [])) (.agg [(.int .i64 9), (.int .i64 0)]) (.fn (.func 44) [] []) (by decide) (by decide) rfl (by simp [litU]),
   .val 54 38 (.build [(.int .i64 0), (.int .i64 0)] [(0, 1)]) [.c (.int .i64 10)] [(.int .i64 10)] (.agg [(.int .i64 10), (.int .i64 0)]) (some []) (by decide) rfl (fun _ _ => rfl) rfl (by decide) (by decide),
   .upd 55 (.t 3) (.t 38) (.c (.fn (.func 48) [] [])) (.agg [(.int .i64 10), (.int .i64 0)]) (.fn (.func 48) [] []) (by decide) (by decide) rfl (by simp [litU]),
   .val 56 39 .move [.t 3] [(.map lM)] (.map lM) (some []) (by decide) rfl (fun _ _ => rfl) rfl (by decide) (by decide),
   .val 57 0 .move [.t 39] [(.map lM)] (.map lM) (some []) (by decide) rfl (fun _ _ => rfl) rfl (by decide) (by decide), trivial⟩
end Go.Proofs.Ytbngfbpegdcpkaa
/-! What keys do: the table's contract. -/
namespace Go.Proofs.Ytbngfbpegdcpkaa
set_option linter.unusedVariables false
set_option linter.unusedSimpArgs false
set_option maxRecDepth 100000
/-- the table's entries -/
def keyE : List (AV × AV) := litU.map (·.2)
theorem body_ways : RunC0.c28.body = .seq (.region [⟨some 0, none, .move, [.c .nilm]⟩] none []) (.seq (.region [⟨some 1, none, .move, [.c (.fn (.func 41) [] [])]⟩] none [1]) (.seq (.region [⟨some 2, none, .move, [.c (.fn (.func 42) [] [])]⟩] none [1, 2]) (.seq (.region litOps (some litMasks) [0]) .ret))) := by kernel_rfl
theorem ways_sound {H : Heap} {q : Lab} : SoundRes Try.prog 28 [] H q ⟨.map (3 :: q), [(3 :: q, some (.bag keyE))], some []⟩ := by
  refine sound_of_gwp (Z := fun l => upd [(3 :: q, some (.bag keyE))] (restr H (some [])) l = none) Try.mixed RunC0.ok28 rfl (fun l hl => by rw [has_one hl]; exact .inr ⟨[3], rfl⟩) ?_
  rw [body_ways, restr_nil]
  simp only [gwp]
  refine gseq_run keyF_ok (s' := ⟨[(0, .nilm)], [], 1⟩) rfl ⟨_, Weak.refl _ _ _, ?_⟩
  refine gseq_run keyF_ok (s' := ⟨[(1, .fn (.func 41) [] [])], [], 2⟩) rfl ⟨_, Weak.refl _ _ _, ?_⟩
  refine gseq_run keyF_ok (s' := ⟨[(1, .fn (.func 41) [] []), (2, .fn (.func 42) [] [])], [], 3⟩) rfl ⟨_, Weak.refl _ _ _, ?_⟩
  refine .inr ⟨keyF, keyF_ok, nd_lit (V := litV (3 :: q)) (base := litB) (U := litU) (agg := true) (ks := [.int, .int]) (fun a ha => ?_) (fun j i h => ?_) (by decide) (fun u hu => ?_) (fun u hu => ?_) (by decide) (fun rl ov es h1 h2 h3 h4 => ?_)⟩
  · simp only [litB, List.mem_cons, List.not_mem_nil, or_false] at ha
    rcases ha with rfl | rfl <;> rfl
  · have := all_idx (lit_ops (3 :: q)) j i h
    rwa [Nat.zero_add] at this
  · have hc : (litU.all fun u => shaped true [.int, .int] u.2.1 && litU.all fun u' => u'.1 == u.1 || akeq true [.int, .int] u.2.1 u'.2.1 == some false) = true := by kernel_rfl
    have h1 := List.all_eq_true.1 hc u hu
    simp only [Bool.and_eq_true, List.all_eq_true, Bool.or_eq_true, beq_iff_eq] at h1
    exact ⟨h1.1, fun u' hu' hne => (h1.2 u' hu').resolve_left hne⟩
  · have hc : (litU.all fun u => decide (u.1 < litOps.length) && decide (u.1 ≠ 0)) = true := by kernel_rfl
    have h1 := List.all_eq_true.1 hc u hu
    simpa using h1
  · have h5 : rget rl 0 = some (.map (3 :: q)) := h1 57 ⟨some 0, none, .move, [.t 39]⟩ 0 rfl rfl
    have hr : restrict rl [0] = [(0, .map (3 :: q))] := by simp [restrict, h5]
    have hov : ∀ l, l ≠ 3 :: q → upd ov (fun _ => none) l = none := fun l hl => by rw [h4 l hl]; rfl
    rw [hr]
    refine ⟨⟨[(0, .map (3 :: q))], [(3 :: q, some (.bag keyE))], 3 + litOps.length⟩, weak_bag h2 (E := keyE) h3 ?_, .inr rfl, .map (3 :: q), by simp [aRes, aResL, aRes1, rget, RunC0.c28], .refl _, fun l o hl => ⟨fun hz => (by have := hz.1.symm.trans hl; cases this), hl⟩⟩
    funext l
    by_cases e : l = 3 :: q
    · subst e; simp [upd]
    · simp only [upd, if_neg e]
      exact (hov l e).symm
def extE : CallF := fun f xs H q => if f = 28 then (match xs with | [] => some ⟨.map (3 :: q), [(3 :: q, some (.bag keyE))], some []⟩ | _ => none) else extI f xs H q
theorem extE_ok : CallOk Try.prog extE := callOk_of fun f xs H q r h => by
  unfold extE at h
  split at h
  · rename_i hf; subst hf
    split at h
    · cases h; exact ways_sound
    · cases h
  · exact extI_ok f xs H q r h
end Go.Proofs.Ytbngfbpegdcpkaa
/-! Joined texts. -/
namespace Go.Proofs.Ytbngfbpegdcpkaa
set_option linter.unusedVariables false
set_option linter.unusedSimpArgs false
set_option maxRecDepth 100000
/-! What keys do: Do. -/
section
/-- what is done over a part of the heap, its outcome left open -/
theorem SoundE.frame {P : Program} {f : Nat} {xs : List AV} {H G : Heap} {q : Lab} {Φ : AV → Chg → Prop} (h : SoundE P f xs H q Φ) (hsub : ∀ l o, H l = some o → G l = some o) : SoundE P f xs G q fun x u => Φ x u ∧ ∀ l, u.has l → H l ≠ none ∨ Under q l := by
  refine ⟨h.1, fun ρ R vs hvs w hG hfr => ?_⟩
  have hH : Rep H ρ R w := ⟨fun l o e => hG.own l o (hsub l o e), fun l l' o o' L L' e e' => hG.sep l l' o o' L L' (hsub l o e) (hsub l' o' e'), fun l o L e => hG.dis l o L (hsub l o e), hG.imm⟩
  refine Calls.mono (h.2 ρ R vs hvs w hH hfr) ?_
  rintro e w' ⟨v, rfl, x, u, ρ', R', hΦ, hu, hF, hx, hR⟩
  have hd : Does (fun w0 K => w0 = w → K v w') H u (Under q) ρ R x := fun w0 _ _ e => by subst e; exact ⟨ρ', R', hF, hx, hR⟩
  obtain ⟨ρ2, R2, h1, h2, h3⟩ := hd.frame (fun w0 K K' hk hc e => hk _ _ (hc e)) hsub hu w hG hfr rfl
  exact ⟨v, rfl, x, u, ρ2, R2, ⟨hΦ, hu⟩, fun l hl => (hu l hl).imp (fun h e => by
    obtain ⟨o, ho⟩ := Option.ne_none_iff_exists'.1 h
    rw [hsub l o ho] at e; cases e) id, h1, h2, h3⟩
theorem clone_det {H : Heap} {q : Lab} (l : List Int) (hl : l.length ≤ 1000000000) : ∃ y u, SoundRes Try.prog 25 [il l] H q ⟨y, u, some []⟩ ∧ ListE (upd u H) y l ∧ (∀ k, Chg.has u k → k = 5 :: q) ∧ (∀ k n, y = .sl k 1 0 n → k = 5 :: q) ∧ ((y = .sl0 ∧ u = []) ∨ (y = .sl (5 :: q) 1 0 l.length ∧ u = [(5 :: q, some (.rows 1 (l.map encI)))])) := by
  by_cases h : l = []
  · subst h
    exact ⟨.sl0, [], clone_empty (.inl rfl), .inl ⟨rfl, rfl⟩, fun k hk => absurd hk (not_has_nil k), (fun k n e => by cases e), .inl ⟨rfl, rfl⟩⟩
  · exact ⟨_, _, clone_own l hl h, .inr ⟨_, rfl, upd_same⟩, fun k hk => has_one hk, (fun k n e => by cases e; rfl), .inr ⟨rfl, rfl⟩⟩
def keyT : List (Int × Int × Nat × (Wk → Wk)) := [
  (2, 97, 43, fun w => { w with pos := 0 }),
  (2, 101, 44, fun w => { w with pos := w.line.length }),
  (2, 98, 45, fun w => { w with pos := heldN w.line.length (w.pos - 1) }),
  (2, 102, 46, fun w => { w with pos := heldN w.line.length (w.pos + 1) }),
  (2, 104, 47, fun w => cutW w (heldN w.line.length (w.pos - 1)) w.pos),
  (2, 100, 48, fun w => cutW w w.pos (heldN w.line.length (w.pos + 1))),
  (2, 107, 49, fun w => killW w w.pos w.line.length),
  (2, 117, 50, fun w => killW w 0 w.pos),
  (2, 119, 51, fun w => killW w (wordBack w.line (heldN w.line.length w.pos)).toNat w.pos),
  (2, 121, 52, fun w => yankW w w.kill),
  (2, 116, 53, swapW),
  (3, 98, 54, fun w => { w with pos := (wordBack w.line (heldN w.line.length w.pos)).toNat }),
  (3, 102, 55, fun w => { w with pos := wordOn w.line (heldN w.line.length w.pos) }),
  (3, 100, 56, fun w => killW w w.pos (wordOn w.line (heldN w.line.length w.pos))),
  (3, 127, 51, fun w => killW w (wordBack w.line (heldN w.line.length w.pos)).toNat w.pos),
  (7, 0, 45, fun w => { w with pos := heldN w.line.length (w.pos - 1) }),
  (6, 0, 46, fun w => { w with pos := heldN w.line.length (w.pos + 1) }),
  (8, 0, 43, fun w => { w with pos := 0 }),
  (9, 0, 44, fun w => { w with pos := w.line.length }),
  (10, 0, 48, fun w => cutW w w.pos (heldN w.line.length (w.pos + 1)))]
theorem keyT_eq : keyE = keyT.map fun e => (.agg [.int .i64 e.1, .int .i64 e.2.1], .fn (.func e.2.2.1) [] []) := by rfl
theorem keyT_ok : ∀ e ∈ keyT, KeyE e.2.2.1 e.2.2.2 := by
  intro e he
  simp only [keyT, List.mem_cons, List.not_mem_nil, or_false] at he
  rcases he with rfl | rfl | rfl | rfl | rfl | rfl | rfl | rfl | rfl | rfl | rfl | rfl | rfl | rfl | rfl | rfl | rfl | rfl | rfl | rfl
  · exact home_key
  · exact end_key
  · exact left_key
  · exact right_key
  · exact rub_key
  · exact del_key
  · exact killOn_key
  · exact killBack_key
  · exact killWord_key
  · exact yank_key
  · exact swap_key
  · exact wordBack_key
  · exact wordOn_key
  · exact killNext_key
  · exact killWord_key
  · exact left_key
  · exact right_key
  · exact home_key
  · exact end_key
  · exact del_key
def keyFind (k r : Int) : Option (Int × Int × Nat × (Wk → Wk)) := keyT.find? fun e => decide (e.1 = k) && decide (e.2.1 = r)
theorem match_gen (k r : Int) : ∀ (T : List (Int × Int × Nat × (Wk → Wk))), (T.map fun e => (e.1, e.2.1)).Nodup →
    amatch true [.int, .int] (.agg [.int .i64 k, .int .i64 r]) (T.map fun e => (.agg [.int .i64 e.1, .int .i64 e.2.1], .fn (.func e.2.2.1) [] [])) = some (match T.find? fun e => decide (e.1 = k) && decide (e.2.1 = r) with | some e => [.fn (.func e.2.2.1) [] []] | none => [])
  | [], _ => rfl
  | e :: T, hn => by
    simp only [List.map_cons, List.nodup_cons] at hn
    have ih := match_gen k r T hn.2
    simp only [List.map_cons, amatch, ih]
    have hk : akeq true [.int, .int] (.agg [.int .i64 k, .int .i64 r]) (.agg [.int .i64 e.1, .int .i64 e.2.1]) = some (decide (k = e.1) && (decide (r = e.2.1) && true)) := by
      simp [akeq, shaped, AV.isAgg, AV.cells, aeqs, ceq]
    rw [hk]
    by_cases h1 : e.1 = k
    · by_cases h2 : e.2.1 = r
      · have hnone : (T.find? fun e => decide (e.1 = k) && decide (e.2.1 = r)) = none := by
          rw [List.find?_eq_none]
          intro e' he' hc
          simp only [Bool.and_eq_true, decide_eq_true_eq] at hc
          exact hn.1 (List.mem_map.2 ⟨e', he', by rw [hc.1, hc.2, h1, h2]⟩)
        simp [List.find?_cons, h1, h2, hnone]
      · simp [List.find?_cons, h1, h2, Ne.symm h2]
    · simp [List.find?_cons, h1, Ne.symm h1]
theorem key_match (k r : Int) : amatch true [.int, .int] (.agg [.int .i64 k, .int .i64 r]) keyE = some (match keyFind k r with | some e => [.fn (.func e.2.2.1) [] []] | none => []) := by
  rw [keyT_eq]
  exact match_gen k r keyT (by decide)
def keyW (w : Wk) (k r : Int) : Wk := match keyFind k r with | some e => e.2.2.2 w | none => w
def doS (l : List Int) (a : Int) (kl : List Int) (k r : Int) : Wk :=
  if k = 1 then putW ⟨l, heldN l.length a, kl, []⟩ r else keyW ⟨l, heldN l.length a, kl, []⟩ k (if k = 2 ∨ k = 3 then r else 0)
def doR (w : Wk) : AV := .tuple [.agg [il w.line, .int .i64 w.pos, il w.kill], .isl 3 (w.acts.map encA)]
theorem v_lookup_key {H : Heap} {q lb : Lab} {KK : KF} {k r : Int} (h : H lb = some (.bag keyE)) : vGen (.lookup true [.int, .int] .nilf true) [.map lb, .agg [.int .i64 k, .int .i64 r]] H q KK = KK (match keyFind k r with | some e => .tuple [.fn (.func e.2.2.1) [] [], .bool true] | none => .tuple [.nilf, .bool false]) H [] (some [lb]) := by
  have : aop noCall (.lookup true [.int, .int] .nilf true) [.map lb, .agg [.int .i64 k, .int .i64 r]] H q = some ⟨(match keyFind k r with | some e => .tuple [.fn (.func e.2.2.1) [] [], .bool true] | none => .tuple [.nilf, .bool false]), [], some [lb]⟩ := by
    have hm := key_match k r
    simp only [aop, aLookup, h, hm]
    cases keyFind k r <;> simp [shaped, AV.isAgg, AV.cells]
  simp [vGen, this]; rfl
end
/-! What keys do: Do, walked. -/
section
theorem Fr.agg3 {Z : Lab → Prop} {H : Heap} {a b c a' b' c' : AV} (h1 : Fr Z H a a') (h2 : Fr Z H b b') (h3 : Fr Z H c c') : Fr Z H (.agg [a, b, c]) (.agg [a', b', c']) := by
  refine .agg _ _ rfl (fun i => match i with | 0 => a | 1 => b | _ => c) (fun i d hd => ?_) (fun i d hd => ?_)
  · match i with
    | 0 => rfl
    | 1 => rfl
    | 2 => rfl
    | i + 3 => simp at hd
  · match i with
    | 0 => cases hd; exact h1
    | 1 => cases hd; exact h2
    | 2 => cases hd; exact h3
    | i + 3 => simp at hd
theorem rowOk_acts {l : List (Int × Int × Int)} : ∀ r ∈ l.map encA, RowOk 3 r := rowOk_map fun a => ⟨rfl, by simp [encA, AV.one]⟩
theorem do_end {H : Heap} {q lw : Lab} {xl xk xa : AV} {w : Wk} (h : WorkI H lw xl xk xa w) (h2 : H (2 :: q) = some (.rows 3 [[.nils, .int .i64 0, .nils]])) (hx : xa ≠ .sl (2 :: q) 3 0 w.acts.length) {c : Nat} :
    VP [.cell 4 3 true, .tmp 5] (doR w) .ret [(4, .ptr (2 :: q) 3 0 0), (5, xa)] (upd [(2 :: q, some (.rows 3 [[xl, .int .i64 w.pos, xk]]))] H) c := by
  have hk : ∀ k rs, H k = some (.rows 1 rs) → upd [(2 :: q, some (.rows 3 [[xl, .int .i64 w.pos, xk]]))] H k = some (.rows 1 rs) := fun k rs hk => by
    rw [upd_ne (fun e => by rw [e, h2] at hk; cases hk)]; exact hk
  have hl := h.l.mono fun _ _ _ h1 => hk _ _ h1
  have hkk := h.k.mono fun _ _ _ h1 => hk _ _ h1
  have ha : Own (upd [(2 :: q, some (.rows 3 [[xl, .int .i64 w.pos, xk]]))] H) xa 3 (w.acts.map encA) := by
    rcases h.a with h1 | ⟨l, h1, h3⟩
    · exact .inl h1
    · refine .inr ⟨l, h1, ?_⟩
      rw [upd_ne (fun e => hx (by rw [h1, e, List.length_map]))]; exact h3
  refine ⟨.inr rfl, .tuple [.agg [xl, .int .i64 w.pos, xk], xa], aRes_c2 upd_same rfl (by decide), Fr.two (Fr.agg3 hl.fr (.refl _) hkk.fr) (.of_own ha rowOk_acts)⟩
theorem work_call {f : Nat} {xs : List AV} {H : Heap} {q : Lab} {xl xk : AV} {w w' : Wk} {c : Nat} {KK : KF} {Φ : Heap → AV → Chg → Prop} (hw : WorkI H (17 :: q) xl xk .nils w) (h2 : H (2 :: q) = some (.rows 3 [[.nils, .int .i64 0, .nils]])) (hF : Fresh q c H) (hc : 18 ≤ c)
    (h : ∀ H0, WorkI H0 (17 :: q) xl xk .nils w → Fresh (c :: q) 0 H0 → SoundE Try.prog f xs H0 (c :: q) (Φ H0)) (hΦ : ∀ H0 x u, Φ H0 x u → ∃ xl' xk' xa', WorkI (upd u H0) (17 :: q) xl' xk' xa' w')
    (hk : ∀ x u xl' xk' xa', WorkI (upd u H) (17 :: q) xl' xk' xa' w' → upd u H (2 :: q) = some (.rows 3 [[.nils, .int .i64 0, .nils]]) → xa' ≠ .sl (2 :: q) 3 0 w'.acts.length → KK x (upd u H) (u.map (·.1)) none) : vCall true Try.prog f xs H (c :: q) KK := by
  have hl17 := hw.s
  have hin : ∀ k o, H k = some o → k ∈ (17 :: q) :: (labs xl ++ labs xk) → restr H (some ((17 :: q) :: (labs xl ++ labs xk))) k = some o := fun k o hk hm => by rw [restr_at hm]; exact hk
  have hw0 : WorkI (restr H (some ((17 :: q) :: (labs xl ++ labs xk)))) (17 :: q) xl xk .nils w := by
    refine ⟨hin _ _ hw.s (by simp), hw.l.mono fun lab n e hk => hin _ _ hk (by simp [e, labs]), hw.k.mono fun lab n e hk => hin _ _ hk (by simp [e, labs]), ?_, hw.ne⟩
    rcases hw.a with h1 | ⟨l, h1, _⟩
    · exact .inl h1
    · cases h1
  have hs := (h _ hw0 hF.restr.callee).frame (G := H) (fun l o h => (restr_some h).2)
  refine call_e hs (fun x u hx => ?_)
  obtain ⟨xl', xk', xa', h3⟩ := hΦ _ _ _ hx.1
  have hr2 : restr H (some ((17 :: q) :: (labs xl ++ labs xk))) (2 :: q) = none := by
    cases hr : restr H (some ((17 :: q) :: (labs xl ++ labs xk))) (2 :: q) with
    | none => rfl
    | some o =>
      have hm := (restr_some hr).1
      simp only [List.mem_cons, List.mem_append] at hm
      rcases hm with hm | hm | hm
      · simp at hm
      · rcases hw.l with ⟨h5, _⟩ | ⟨lab, h5, h6⟩
        · rw [h5] at hm; cases hm
        · rw [h5] at hm
          obtain rfl := List.mem_singleton.1 hm
          rw [h2] at h6; cases h6
      · rcases hw.k with ⟨h5, _⟩ | ⟨lab, h5, h6⟩
        · rw [h5] at hm; cases hm
        · rw [h5] at hm
          obtain rfl := List.mem_singleton.1 hm
          rw [h2] at h6; cases h6
  have hn2 : ¬ u.has (2 :: q) := fun hh => by
    rcases hx.2 _ hh with h4 | ⟨s, hs⟩
    · exact h4 hr2
    · have hlen := congrArg List.length hs
      cases s with
      | nil => simp at hs; omega
      | cons a s => simp at hlen; omega
  have hm : ∀ k o, upd u (restr H (some ((17 :: q) :: (labs xl ++ labs xk)))) k = some o → upd u H k = some o := fun k o hk => by
    by_cases hh : u.has k
    · rw [upd_has (H' := restr H (some ((17 :: q) :: (labs xl ++ labs xk)))) hh]; exact hk
    · rw [upd_not hh] at hk ⊢; exact (restr_some hk).2
  refine hk x u xl' xk' xa' (h3.mono hm) (by rw [upd_not hn2]; exact h2) (fun e => ?_)
  rcases h3.a with ⟨h4, _⟩ | ⟨l, h4, h5⟩
  · rw [h4] at e; cases e
  · rw [h4] at e
    injection e with e1
    rw [e1, upd_not hn2, hr2] at h5; cases h5
theorem cells_list {H : Heap} {x : AV} {l : List Int} (h : ListE H x l) : x = .sl0 ∨ ∃ a n, x = .sl a 1 0 n := by
  rcases h with ⟨h, _⟩ | ⟨a, h, _⟩
  · exact .inl h
  · exact .inr ⟨a, _, h⟩
theorem do_way {H : Heap} {q : Lab} {xl xk : AV} {w : Wk} {k r : Int} (hw : WorkI H (17 :: q) xl xk .nils w) (hok : w.Ok) (h2 : H (2 :: q) = some (.rows 3 [[.nils, .int .i64 0, .nils]])) {c : Nat} (hF : Fresh q c H) (hc : 18 ≤ c) :
    k12_7 Try.prog q (VP [.cell 4 3 true, .tmp 5] (doR (keyW w k r))) (.ptr (2 :: q) 3 0 0) (.ptr (17 :: q) 4 0 0) (match keyFind k r with | some e => .fn (.func e.2.2.1) [] [] | none => .nilf) (.bool (keyFind k r).isSome) H c := by
  unfold keyW
  cases hkf : keyFind k r with
  | none =>
    have h6 := hw.s
    rcases cells_list hw.l with rfl | ⟨_, _, rfl⟩ <;> rcases cells_list hw.k with rfl | ⟨_, _, rfl⟩
    all_goals (simp (disch := omega) only [sel_t, sel_f, sel_dt, sel_df, sel_nt, sel_nf, v_lss, v_leq, v_gtr, v_geq, v_eql, v_neq, v_add, v_sub, v_not, v_min, v_max, v_pick_t, v_pick_f, v_ext0, v_ext1, v_ext2, v_len_isl, List.length_map, v_len_nils, v_len_sl0, v_len_sl, v_ix_map, v_ix_sl, v_nil_ptr, v_nil_iptr, v_fa_ptr, v_fa_iptr, cell_0, cell_s, cell_a2, cell_a3, cell_a7, cell_a10, v_load_map, v_load_r1, v_call_fn, v_call_fnS, v_load_H, ldH_one, ldH_map, v_store_H, stH_one, upd_same, upd_cons_ne, upd_nil, v_box, v_fld, eqs_nils, eqs_sl, v_eqs_ii, v_neqs_ii, sel_andt, sel_andf, sel_nandt, sel_nandf, encI, Int.toNat_natCast, lq_e, lq_r, Bool.not_true, Bool.not_false, Bool.false_eq_true, reduceIte, decide_true, decide_false, v_build_fill, v_buildS_fill, fill_nil, fill_cons, AV.cells, putL, chunk, List.length_cons, List.length_nil, Nat.reduceAdd, Nat.reduceDiv, Nat.reduceMod, List.take_succ_cons, List.take_zero, List.take_nil, List.drop_succ_cons, List.drop_zero, List.drop_nil, List.cons_append, List.nil_append, List.append_nil, List.all_cons, List.all_nil, AV.one, Nat.reduceLeDiff, and_self, and_true, true_and, Nat.zero_add, ne_eq, Nat.succ_ne_zero, not_false_eq_true, Bool.and_self, Nat.reduceEqDiff, Nat.le_refl, res12, vt12, V12, k12_4, k12_5, k12_3, k12_6, k12_9, k12_8, k12_10, k12_11, k12_13, k12_12, k12_14, k12_7, k12_15, k12_16, k12_17, k12_2, k12_18, k12_19, k12_21, k12_22, k12_23, k12_24, k12_20, k12_25, k12_1, k12_26, k12_28, k12_29, k12_30, k12_31, k12_27, k12_32, k12_0, k12_33, k12_34, k12_35, k12_36, k12_37, k12_38, v_lookup_key, Option.isSome_none, h2, h6]; refine ⟨(by (repeat' (first | exact cf_nil | exact allp_nil | refine cf_add ?_ ?_ | refine allp_add ?_ ?_)); all_goals (first | exact Or.inl rfl | exact Or.inl (by decide) | exact Or.inr ⟨by (simp (decide := true) [clash, h2] <;> assumption), by (simp (decide := true) [clash, h2] <;> assumption)⟩)), ?_⟩; exact do_end hw h2 (by intro e; cases e))
  | some e =>
    simp (disch := omega) only [sel_t, sel_f, sel_dt, sel_df, sel_nt, sel_nf, v_lss, v_leq, v_gtr, v_geq, v_eql, v_neq, v_add, v_sub, v_not, v_min, v_max, v_pick_t, v_pick_f, v_ext0, v_ext1, v_ext2, v_len_isl, List.length_map, v_len_nils, v_len_sl0, v_len_sl, v_ix_map, v_ix_sl, v_nil_ptr, v_nil_iptr, v_fa_ptr, v_fa_iptr, cell_0, cell_s, cell_a2, cell_a3, cell_a7, cell_a10, v_load_map, v_load_r1, v_call_fn, v_call_fnS, v_load_H, ldH_one, ldH_map, v_store_H, stH_one, upd_same, upd_cons_ne, upd_nil, v_box, v_fld, eqs_nils, eqs_sl, v_eqs_ii, v_neqs_ii, sel_andt, sel_andf, sel_nandt, sel_nandf, encI, Int.toNat_natCast, lq_e, lq_r, Bool.not_true, Bool.not_false, Bool.false_eq_true, reduceIte, decide_true, decide_false, v_build_fill, v_buildS_fill, fill_nil, fill_cons, AV.cells, putL, chunk, List.length_cons, List.length_nil, Nat.reduceAdd, Nat.reduceDiv, Nat.reduceMod, List.take_succ_cons, List.take_zero, List.take_nil, List.drop_succ_cons, List.drop_zero, List.drop_nil, List.cons_append, List.nil_append, List.append_nil, List.all_cons, List.all_nil, AV.one, Nat.reduceLeDiff, and_self, and_true, true_and, Nat.zero_add, ne_eq, Nat.succ_ne_zero, not_false_eq_true, Bool.and_self, Nat.reduceEqDiff, Nat.le_refl, res12, vt12, V12, k12_4, k12_5, k12_3, k12_6, k12_9, k12_8, k12_10, k12_11, k12_13, k12_12, k12_14, k12_7, k12_15, k12_16, k12_17, k12_2, k12_18, k12_19, k12_21, k12_22, k12_23, k12_24, k12_20, k12_25, k12_1, k12_26, k12_28, k12_29, k12_30, k12_31, k12_27, k12_32, k12_0, k12_33, k12_34, k12_35, k12_36, k12_37, k12_38, v_lookup_key, Option.isSome_some]
    have hkey : KeyE e.2.2.1 e.2.2.2 := keyT_ok e (List.mem_of_find?_eq_some hkf)
    refine work_call (Φ := fun H0 => KeyR H0 (17 :: q) (e.2.2.2 w)) hw h2 (hF.mono (by omega)) (by omega) (fun H0 h0 hf0 => hkey h0 hf0 hok) (fun H0 x u hx => hx) (fun x u xl' xk' xa' h3 h4 h5 => ?_)
    have h6 := h3.s
    rcases cells_list h3.l with rfl | ⟨_, _, rfl⟩ <;> rcases cells_list h3.k with rfl | ⟨_, _, rfl⟩
    all_goals (simp (disch := omega) only [sel_t, sel_f, sel_dt, sel_df, sel_nt, sel_nf, v_lss, v_leq, v_gtr, v_geq, v_eql, v_neq, v_add, v_sub, v_not, v_min, v_max, v_pick_t, v_pick_f, v_ext0, v_ext1, v_ext2, v_len_isl, List.length_map, v_len_nils, v_len_sl0, v_len_sl, v_ix_map, v_ix_sl, v_nil_ptr, v_nil_iptr, v_fa_ptr, v_fa_iptr, cell_0, cell_s, cell_a2, cell_a3, cell_a7, cell_a10, v_load_map, v_load_r1, v_call_fn, v_call_fnS, v_load_H, ldH_one, ldH_map, v_store_H, stH_one, upd_same, upd_cons_ne, upd_nil, v_box, v_fld, eqs_nils, eqs_sl, v_eqs_ii, v_neqs_ii, sel_andt, sel_andf, sel_nandt, sel_nandf, encI, Int.toNat_natCast, lq_e, lq_r, Bool.not_true, Bool.not_false, Bool.false_eq_true, reduceIte, decide_true, decide_false, v_build_fill, v_buildS_fill, fill_nil, fill_cons, AV.cells, putL, chunk, List.length_cons, List.length_nil, Nat.reduceAdd, Nat.reduceDiv, Nat.reduceMod, List.take_succ_cons, List.take_zero, List.take_nil, List.drop_succ_cons, List.drop_zero, List.drop_nil, List.cons_append, List.nil_append, List.append_nil, List.all_cons, List.all_nil, AV.one, Nat.reduceLeDiff, and_self, and_true, true_and, Nat.zero_add, ne_eq, Nat.succ_ne_zero, not_false_eq_true, Bool.and_self, Nat.reduceEqDiff, Nat.le_refl, res12, vt12, V12, k12_4, k12_5, k12_3, k12_6, k12_9, k12_8, k12_10, k12_11, k12_13, k12_12, k12_14, k12_7, k12_15, k12_16, k12_17, k12_2, k12_18, k12_19, k12_21, k12_22, k12_23, k12_24, k12_20, k12_25, k12_1, k12_26, k12_28, k12_29, k12_30, k12_31, k12_27, k12_32, k12_0, k12_33, k12_34, k12_35, k12_36, k12_37, k12_38, v_lookup_key, h4, h6]; refine ⟨(by (repeat' (first | exact cf_nil | exact allp_nil | refine cf_add ?_ ?_ | refine allp_add ?_ ?_)); all_goals (first | exact Or.inl rfl | exact Or.inl (by decide) | exact Or.inr ⟨by (simp (decide := true) [clash, h2] <;> assumption), by (simp (decide := true) [clash, h2] <;> assumption)⟩)), ?_⟩; exact do_end h3 h4 h5)
theorem WorkI.mono2 {H H' : Heap} {lw : Lab} {xl xk xa : AV} {w : Wk} (h : WorkI H lw xl xk xa w) (hk : ∀ k e rs, e ≠ 2 → H k = some (.rows e rs) → H' k = some (.rows e rs)) : WorkI H' lw xl xk xa w :=
  ⟨hk _ _ _ (by decide) h.s, h.l.mono fun _ _ _ h => hk _ _ _ (by decide) h, h.k.mono fun _ _ _ h => hk _ _ _ (by decide) h, h.a.mono' fun _ h => hk _ _ _ (by decide) h, h.ne⟩
theorem do_mid {H : Heap} {q : Lab} {xl xk : AV} {l kl : List Int} {a : Int} {k r : Int} (hw : WorkI H (17 :: q) xl xk .nils ⟨l, heldN l.length a, kl, []⟩) (hl : l.length ≤ 100000) (hkl : kl.length ≤ 100000) (h1 : H (1 :: q) = some (.rows 2 [[.int .i64 k, .int .i64 r]])) (h2 : H (2 :: q) = some (.rows 3 [[.nils, .int .i64 0, .nils]])) (hF : Fresh q 18 H) :
    vSel (.bool (!decide (k = 1))) (k12_33 Try.prog q (VP [.cell 4 3 true, .tmp 5] (doR (doS l a kl k r))) H [xl, .int .i64 (heldN l.length a), xk, .nils] [.int .i64 k, .int .i64 r] 0) (k12_35 Try.prog q (VP [.cell 4 3 true, .tmp 5] (doR (doS l a kl k r))) H [xl, .int .i64 (heldN l.length a), xk, .nils] [.int .i64 k, .int .i64 r] 0) := by
  have hwl : (⟨l, heldN l.length a, kl, []⟩ : Wk).Ok := ⟨heldN_le, by simp; omega, by simp; omega, by simp⟩
  refine sel_n (fun hk1 => ?_) (fun hk1 => ?_)
  · have hd : doS l a kl k r = keyW ⟨l, heldN l.length a, kl, []⟩ k (if k = 2 ∨ k = 3 then r else 0) := by rw [doS, if_neg (by omega)]
    rw [hd]
    generalize hr' : (if k = 2 ∨ k = 3 then r else 0) = r'
    simp (disch := omega) only [sel_t, sel_f, sel_dt, sel_df, sel_nt, sel_nf, v_lss, v_leq, v_gtr, v_geq, v_eql, v_neq, v_add, v_sub, v_not, v_min, v_max, v_pick_t, v_pick_f, v_ext0, v_ext1, v_ext2, v_len_isl, List.length_map, v_len_nils, v_len_sl0, v_len_sl, v_ix_map, v_ix_sl, v_nil_ptr, v_nil_iptr, v_fa_ptr, v_fa_iptr, cell_0, cell_s, cell_a2, cell_a3, cell_a7, cell_a10, v_load_map, v_load_r1, v_call_fn, v_call_fnS, v_load_H, ldH_one, ldH_map, v_store_H, stH_one, upd_same, upd_cons_ne, upd_nil, v_box, v_fld, eqs_nils, eqs_sl, v_eqs_ii, v_neqs_ii, sel_andt, sel_andf, sel_nandt, sel_nandf, encI, Int.toNat_natCast, lq_e, lq_r, Bool.not_true, Bool.not_false, Bool.false_eq_true, reduceIte, decide_true, decide_false, v_build_fill, v_buildS_fill, fill_nil, fill_cons, AV.cells, putL, chunk, List.length_cons, List.length_nil, Nat.reduceAdd, Nat.reduceDiv, Nat.reduceMod, List.take_succ_cons, List.take_zero, List.take_nil, List.drop_succ_cons, List.drop_zero, List.drop_nil, List.cons_append, List.nil_append, List.append_nil, List.all_cons, List.all_nil, AV.one, Nat.reduceLeDiff, and_self, and_true, true_and, Nat.zero_add, ne_eq, Nat.succ_ne_zero, not_false_eq_true, Bool.and_self, Nat.reduceEqDiff, Nat.le_refl, res12, vt12, V12, k12_4, k12_5, k12_3, k12_6, k12_9, k12_8, k12_10, k12_11, k12_13, k12_12, k12_14, k12_7, k12_15, k12_16, k12_17, k12_2, k12_18, k12_19, k12_21, k12_22, k12_23, k12_24, k12_20, k12_25, k12_1, k12_26, k12_28, k12_29, k12_30, k12_31, k12_27, k12_32, k12_0, k12_33, k12_34, k12_35, k12_36, k12_37, k12_38, v_lookup_key, h1]
    refine sel_n (fun hk2 => ?_) (fun hk2 => ?_)
    · simp (disch := omega) only [sel_t, sel_f, sel_dt, sel_df, sel_nt, sel_nf, v_lss, v_leq, v_gtr, v_geq, v_eql, v_neq, v_add, v_sub, v_not, v_min, v_max, v_pick_t, v_pick_f, v_ext0, v_ext1, v_ext2, v_len_isl, List.length_map, v_len_nils, v_len_sl0, v_len_sl, v_ix_map, v_ix_sl, v_nil_ptr, v_nil_iptr, v_fa_ptr, v_fa_iptr, cell_0, cell_s, cell_a2, cell_a3, cell_a7, cell_a10, v_load_map, v_load_r1, v_call_fn, v_call_fnS, v_load_H, ldH_one, ldH_map, v_store_H, stH_one, upd_same, upd_cons_ne, upd_nil, v_box, v_fld, eqs_nils, eqs_sl, v_eqs_ii, v_neqs_ii, sel_andt, sel_andf, sel_nandt, sel_nandf, encI, Int.toNat_natCast, lq_e, lq_r, Bool.not_true, Bool.not_false, Bool.false_eq_true, reduceIte, decide_true, decide_false, v_build_fill, v_buildS_fill, fill_nil, fill_cons, AV.cells, putL, chunk, List.length_cons, List.length_nil, Nat.reduceAdd, Nat.reduceDiv, Nat.reduceMod, List.take_succ_cons, List.take_zero, List.take_nil, List.drop_succ_cons, List.drop_zero, List.drop_nil, List.cons_append, List.nil_append, List.append_nil, List.all_cons, List.all_nil, AV.one, Nat.reduceLeDiff, and_self, and_true, true_and, Nat.zero_add, ne_eq, Nat.succ_ne_zero, not_false_eq_true, Bool.and_self, Nat.reduceEqDiff, Nat.le_refl, res12, vt12, V12, k12_4, k12_5, k12_3, k12_6, k12_9, k12_8, k12_10, k12_11, k12_13, k12_12, k12_14, k12_7, k12_15, k12_16, k12_17, k12_2, k12_18, k12_19, k12_21, k12_22, k12_23, k12_24, k12_20, k12_25, k12_1, k12_26, k12_28, k12_29, k12_30, k12_31, k12_27, k12_32, k12_0, k12_33, k12_34, k12_35, k12_36, k12_37, k12_38, v_lookup_key, h1]
      refine sel_n (fun hk3 => ?_) (fun hk3 => ?_)
      · rw [if_neg (by omega)] at hr'
        subst hr'
        simp (disch := omega) only [sel_t, sel_f, sel_dt, sel_df, sel_nt, sel_nf, v_lss, v_leq, v_gtr, v_geq, v_eql, v_neq, v_add, v_sub, v_not, v_min, v_max, v_pick_t, v_pick_f, v_ext0, v_ext1, v_ext2, v_len_isl, List.length_map, v_len_nils, v_len_sl0, v_len_sl, v_ix_map, v_ix_sl, v_nil_ptr, v_nil_iptr, v_fa_ptr, v_fa_iptr, cell_0, cell_s, cell_a2, cell_a3, cell_a7, cell_a10, v_load_map, v_load_r1, v_call_fn, v_call_fnS, v_load_H, ldH_one, ldH_map, v_store_H, stH_one, upd_same, upd_cons_ne, upd_nil, v_box, v_fld, eqs_nils, eqs_sl, v_eqs_ii, v_neqs_ii, sel_andt, sel_andf, sel_nandt, sel_nandf, encI, Int.toNat_natCast, lq_e, lq_r, Bool.not_true, Bool.not_false, Bool.false_eq_true, reduceIte, decide_true, decide_false, v_build_fill, v_buildS_fill, fill_nil, fill_cons, AV.cells, putL, chunk, List.length_cons, List.length_nil, Nat.reduceAdd, Nat.reduceDiv, Nat.reduceMod, List.take_succ_cons, List.take_zero, List.take_nil, List.drop_succ_cons, List.drop_zero, List.drop_nil, List.cons_append, List.nil_append, List.append_nil, List.all_cons, List.all_nil, AV.one, Nat.reduceLeDiff, and_self, and_true, true_and, Nat.zero_add, ne_eq, Nat.succ_ne_zero, not_false_eq_true, Bool.and_self, Nat.reduceEqDiff, Nat.le_refl, res12, vt12, V12, k12_4, k12_5, k12_3, k12_6, k12_9, k12_8, k12_10, k12_11, k12_13, k12_12, k12_14, k12_7, k12_15, k12_16, k12_17, k12_2, k12_18, k12_19, k12_21, k12_22, k12_23, k12_24, k12_20, k12_25, k12_1, k12_26, k12_28, k12_29, k12_30, k12_31, k12_27, k12_32, k12_0, k12_33, k12_34, k12_35, k12_36, k12_37, k12_38, v_lookup_key, h1]
        refine call_res_gen ways_sound ((hF.old (o := some (.rows 2 [[.int .i64 k, .int .i64 0]])) (l := 1 :: q) (by rw [h1]; simp)).mono (by omega)) (fun H2 hH2 hF2 => ?_)
        have hb := by have := hH2 (3 :: 37 :: q); rwa [upd_same] at this
        have h1' : H2 (1 :: q) = some (.rows 2 [[.int .i64 k, .int .i64 0]]) := by rw [hH2, upd_ne (by simp), upd_nil, upd_same]
        have hot : ∀ j o, H j = some o → j ≠ 1 :: q → H2 j = some o := fun j o h hn => by
          rw [hH2, upd_ne (fun e => by rw [e, show H (3 :: 37 :: q) = none from hF 37 [3] (by omega)] at h; cases h), upd_nil, upd_ne hn]; exact h
        clear hH2
        have way := fun (c : Nat) (hF : Fresh q c H2) (hc : 18 ≤ c) => do_way (H := H2) (k := k) (r := 0) (hw.mono2 fun j e rs he hj => hot _ _ hj (fun e' => by rw [e', h1] at hj; cases hj; exact he rfl)) hwl (hot _ _ h2 (by simp)) hF hc
        cases hkf : keyFind k 0 with
        | none =>
          rw [hkf] at way
          simp (disch := omega) only [sel_t, sel_f, sel_dt, sel_df, sel_nt, sel_nf, v_lss, v_leq, v_gtr, v_geq, v_eql, v_neq, v_add, v_sub, v_not, v_min, v_max, v_pick_t, v_pick_f, v_ext0, v_ext1, v_ext2, v_len_isl, List.length_map, v_len_nils, v_len_sl0, v_len_sl, v_ix_map, v_ix_sl, v_nil_ptr, v_nil_iptr, v_fa_ptr, v_fa_iptr, cell_0, cell_s, cell_a2, cell_a3, cell_a7, cell_a10, v_load_map, v_load_r1, v_call_fn, v_call_fnS, v_load_H, ldH_one, ldH_map, v_store_H, stH_one, upd_same, upd_cons_ne, upd_nil, v_box, v_fld, eqs_nils, eqs_sl, v_eqs_ii, v_neqs_ii, sel_andt, sel_andf, sel_nandt, sel_nandf, encI, Int.toNat_natCast, lq_e, lq_r, Bool.not_true, Bool.not_false, Bool.false_eq_true, reduceIte, decide_true, decide_false, v_build_fill, v_buildS_fill, fill_nil, fill_cons, AV.cells, putL, chunk, List.length_cons, List.length_nil, Nat.reduceAdd, Nat.reduceDiv, Nat.reduceMod, List.take_succ_cons, List.take_zero, List.take_nil, List.drop_succ_cons, List.drop_zero, List.drop_nil, List.cons_append, List.nil_append, List.append_nil, List.all_cons, List.all_nil, AV.one, Nat.reduceLeDiff, and_self, and_true, true_and, Nat.zero_add, ne_eq, Nat.succ_ne_zero, not_false_eq_true, Bool.and_self, Nat.reduceEqDiff, Nat.le_refl, res12, vt12, V12, k12_4, k12_5, k12_3, k12_6, k12_9, k12_8, k12_10, k12_11, k12_13, k12_12, k12_14, k12_7, k12_15, k12_16, k12_17, k12_2, k12_18, k12_19, k12_21, k12_22, k12_23, k12_24, k12_20, k12_25, k12_1, k12_26, k12_28, k12_29, k12_30, k12_31, k12_27, k12_32, k12_0, k12_33, k12_34, k12_35, k12_36, k12_37, k12_38, v_lookup_key, h1', hb, hkf]
          refine ⟨(by (repeat' (first | exact cf_nil | exact allp_nil | refine cf_add ?_ ?_ | refine allp_add ?_ ?_)); all_goals (first | exact Or.inl rfl | exact Or.inl (by decide) | exact Or.inr ⟨by (simp (decide := true) [clash, h2] <;> assumption), by (simp (decide := true) [clash, h2] <;> assumption)⟩)), ?_⟩
          have w := way 45 (hF2.mono (by omega)) (by decide)
          simp (disch := omega) only [sel_t, sel_f, sel_dt, sel_df, sel_nt, sel_nf, v_lss, v_leq, v_gtr, v_geq, v_eql, v_neq, v_add, v_sub, v_not, v_min, v_max, v_pick_t, v_pick_f, v_ext0, v_ext1, v_ext2, v_len_isl, List.length_map, v_len_nils, v_len_sl0, v_len_sl, v_ix_map, v_ix_sl, v_nil_ptr, v_nil_iptr, v_fa_ptr, v_fa_iptr, cell_0, cell_s, cell_a2, cell_a3, cell_a7, cell_a10, v_load_map, v_load_r1, v_call_fn, v_call_fnS, v_load_H, ldH_one, ldH_map, v_store_H, stH_one, upd_same, upd_cons_ne, upd_nil, v_box, v_fld, eqs_nils, eqs_sl, v_eqs_ii, v_neqs_ii, sel_andt, sel_andf, sel_nandt, sel_nandf, encI, Int.toNat_natCast, lq_e, lq_r, Bool.not_true, Bool.not_false, Bool.false_eq_true, reduceIte, decide_true, decide_false, v_build_fill, v_buildS_fill, fill_nil, fill_cons, AV.cells, putL, chunk, List.length_cons, List.length_nil, Nat.reduceAdd, Nat.reduceDiv, Nat.reduceMod, List.take_succ_cons, List.take_zero, List.take_nil, List.drop_succ_cons, List.drop_zero, List.drop_nil, List.cons_append, List.nil_append, List.append_nil, List.all_cons, List.all_nil, AV.one, Nat.reduceLeDiff, and_self, and_true, true_and, Nat.zero_add, ne_eq, Nat.succ_ne_zero, not_false_eq_true, Bool.and_self, Nat.reduceEqDiff, Nat.le_refl, res12, vt12, V12, k12_4, k12_5, k12_3, k12_6, k12_9, k12_8, k12_10, k12_11, k12_13, k12_12, k12_14, k12_7, k12_15, k12_16, k12_17, k12_2, k12_18, k12_19, k12_21, k12_22, k12_23, k12_24, k12_20, k12_25, k12_1, k12_26, k12_28, k12_29, k12_30, k12_31, k12_27, k12_32, k12_0, k12_33, k12_34, k12_35, k12_36, k12_37, k12_38, v_lookup_key, Option.isSome_none, Option.isSome_some] at w
          exact w
        | some e =>
          rw [hkf] at way
          simp (disch := omega) only [sel_t, sel_f, sel_dt, sel_df, sel_nt, sel_nf, v_lss, v_leq, v_gtr, v_geq, v_eql, v_neq, v_add, v_sub, v_not, v_min, v_max, v_pick_t, v_pick_f, v_ext0, v_ext1, v_ext2, v_len_isl, List.length_map, v_len_nils, v_len_sl0, v_len_sl, v_ix_map, v_ix_sl, v_nil_ptr, v_nil_iptr, v_fa_ptr, v_fa_iptr, cell_0, cell_s, cell_a2, cell_a3, cell_a7, cell_a10, v_load_map, v_load_r1, v_call_fn, v_call_fnS, v_load_H, ldH_one, ldH_map, v_store_H, stH_one, upd_same, upd_cons_ne, upd_nil, v_box, v_fld, eqs_nils, eqs_sl, v_eqs_ii, v_neqs_ii, sel_andt, sel_andf, sel_nandt, sel_nandf, encI, Int.toNat_natCast, lq_e, lq_r, Bool.not_true, Bool.not_false, Bool.false_eq_true, reduceIte, decide_true, decide_false, v_build_fill, v_buildS_fill, fill_nil, fill_cons, AV.cells, putL, chunk, List.length_cons, List.length_nil, Nat.reduceAdd, Nat.reduceDiv, Nat.reduceMod, List.take_succ_cons, List.take_zero, List.take_nil, List.drop_succ_cons, List.drop_zero, List.drop_nil, List.cons_append, List.nil_append, List.append_nil, List.all_cons, List.all_nil, AV.one, Nat.reduceLeDiff, and_self, and_true, true_and, Nat.zero_add, ne_eq, Nat.succ_ne_zero, not_false_eq_true, Bool.and_self, Nat.reduceEqDiff, Nat.le_refl, res12, vt12, V12, k12_4, k12_5, k12_3, k12_6, k12_9, k12_8, k12_10, k12_11, k12_13, k12_12, k12_14, k12_7, k12_15, k12_16, k12_17, k12_2, k12_18, k12_19, k12_21, k12_22, k12_23, k12_24, k12_20, k12_25, k12_1, k12_26, k12_28, k12_29, k12_30, k12_31, k12_27, k12_32, k12_0, k12_33, k12_34, k12_35, k12_36, k12_37, k12_38, v_lookup_key, h1', hb, hkf]
          refine ⟨(by (repeat' (first | exact cf_nil | exact allp_nil | refine cf_add ?_ ?_ | refine allp_add ?_ ?_)); all_goals (first | exact Or.inl rfl | exact Or.inl (by decide) | exact Or.inr ⟨by (simp (decide := true) [clash, h2] <;> assumption), by (simp (decide := true) [clash, h2] <;> assumption)⟩)), ?_⟩
          have w := way 45 (hF2.mono (by omega)) (by decide)
          simp (disch := omega) only [sel_t, sel_f, sel_dt, sel_df, sel_nt, sel_nf, v_lss, v_leq, v_gtr, v_geq, v_eql, v_neq, v_add, v_sub, v_not, v_min, v_max, v_pick_t, v_pick_f, v_ext0, v_ext1, v_ext2, v_len_isl, List.length_map, v_len_nils, v_len_sl0, v_len_sl, v_ix_map, v_ix_sl, v_nil_ptr, v_nil_iptr, v_fa_ptr, v_fa_iptr, cell_0, cell_s, cell_a2, cell_a3, cell_a7, cell_a10, v_load_map, v_load_r1, v_call_fn, v_call_fnS, v_load_H, ldH_one, ldH_map, v_store_H, stH_one, upd_same, upd_cons_ne, upd_nil, v_box, v_fld, eqs_nils, eqs_sl, v_eqs_ii, v_neqs_ii, sel_andt, sel_andf, sel_nandt, sel_nandf, encI, Int.toNat_natCast, lq_e, lq_r, Bool.not_true, Bool.not_false, Bool.false_eq_true, reduceIte, decide_true, decide_false, v_build_fill, v_buildS_fill, fill_nil, fill_cons, AV.cells, putL, chunk, List.length_cons, List.length_nil, Nat.reduceAdd, Nat.reduceDiv, Nat.reduceMod, List.take_succ_cons, List.take_zero, List.take_nil, List.drop_succ_cons, List.drop_zero, List.drop_nil, List.cons_append, List.nil_append, List.append_nil, List.all_cons, List.all_nil, AV.one, Nat.reduceLeDiff, and_self, and_true, true_and, Nat.zero_add, ne_eq, Nat.succ_ne_zero, not_false_eq_true, Bool.and_self, Nat.reduceEqDiff, Nat.le_refl, res12, vt12, V12, k12_4, k12_5, k12_3, k12_6, k12_9, k12_8, k12_10, k12_11, k12_13, k12_12, k12_14, k12_7, k12_15, k12_16, k12_17, k12_2, k12_18, k12_19, k12_21, k12_22, k12_23, k12_24, k12_20, k12_25, k12_1, k12_26, k12_28, k12_29, k12_30, k12_31, k12_27, k12_32, k12_0, k12_33, k12_34, k12_35, k12_36, k12_37, k12_38, v_lookup_key, Option.isSome_none, Option.isSome_some] at w
          exact w
      · rw [if_pos (by omega)] at hr'
        subst hr'
        simp (disch := omega) only [sel_t, sel_f, sel_dt, sel_df, sel_nt, sel_nf, v_lss, v_leq, v_gtr, v_geq, v_eql, v_neq, v_add, v_sub, v_not, v_min, v_max, v_pick_t, v_pick_f, v_ext0, v_ext1, v_ext2, v_len_isl, List.length_map, v_len_nils, v_len_sl0, v_len_sl, v_ix_map, v_ix_sl, v_nil_ptr, v_nil_iptr, v_fa_ptr, v_fa_iptr, cell_0, cell_s, cell_a2, cell_a3, cell_a7, cell_a10, v_load_map, v_load_r1, v_call_fn, v_call_fnS, v_load_H, ldH_one, ldH_map, v_store_H, stH_one, upd_same, upd_cons_ne, upd_nil, v_box, v_fld, eqs_nils, eqs_sl, v_eqs_ii, v_neqs_ii, sel_andt, sel_andf, sel_nandt, sel_nandf, encI, Int.toNat_natCast, lq_e, lq_r, Bool.not_true, Bool.not_false, Bool.false_eq_true, reduceIte, decide_true, decide_false, v_build_fill, v_buildS_fill, fill_nil, fill_cons, AV.cells, putL, chunk, List.length_cons, List.length_nil, Nat.reduceAdd, Nat.reduceDiv, Nat.reduceMod, List.take_succ_cons, List.take_zero, List.take_nil, List.drop_succ_cons, List.drop_zero, List.drop_nil, List.cons_append, List.nil_append, List.append_nil, List.all_cons, List.all_nil, AV.one, Nat.reduceLeDiff, and_self, and_true, true_and, Nat.zero_add, ne_eq, Nat.succ_ne_zero, not_false_eq_true, Bool.and_self, Nat.reduceEqDiff, Nat.le_refl, res12, vt12, V12, k12_4, k12_5, k12_3, k12_6, k12_9, k12_8, k12_10, k12_11, k12_13, k12_12, k12_14, k12_7, k12_15, k12_16, k12_17, k12_2, k12_18, k12_19, k12_21, k12_22, k12_23, k12_24, k12_20, k12_25, k12_1, k12_26, k12_28, k12_29, k12_30, k12_31, k12_27, k12_32, k12_0, k12_33, k12_34, k12_35, k12_36, k12_37, k12_38, v_lookup_key, h1]
        refine call_res_gen ways_sound (hF.mono (by omega)) (fun H2 hH2 hF2 => ?_)
        have hb := by have := hH2 (3 :: 35 :: q); rwa [upd_same] at this
        have hot : ∀ j o, H j = some o → H2 j = some o := fun j o h => by
          rw [hH2, upd_ne (fun e => by rw [e, show H (3 :: 35 :: q) = none from hF 35 [3] (by omega)] at h; cases h), upd_nil]; exact h
        clear hH2
        have h1' := hot _ _ h1
        have way := fun (c : Nat) (hF : Fresh q c H2) (hc : 18 ≤ c) => do_way (H := H2) (k := k) (r := r) (hw.mono2 fun j e rs he hj => hot _ _ hj) hwl (hot _ _ h2) hF hc
        cases hkf : keyFind k r with
        | none =>
          rw [hkf] at way
          simp (disch := omega) only [sel_t, sel_f, sel_dt, sel_df, sel_nt, sel_nf, v_lss, v_leq, v_gtr, v_geq, v_eql, v_neq, v_add, v_sub, v_not, v_min, v_max, v_pick_t, v_pick_f, v_ext0, v_ext1, v_ext2, v_len_isl, List.length_map, v_len_nils, v_len_sl0, v_len_sl, v_ix_map, v_ix_sl, v_nil_ptr, v_nil_iptr, v_fa_ptr, v_fa_iptr, cell_0, cell_s, cell_a2, cell_a3, cell_a7, cell_a10, v_load_map, v_load_r1, v_call_fn, v_call_fnS, v_load_H, ldH_one, ldH_map, v_store_H, stH_one, upd_same, upd_cons_ne, upd_nil, v_box, v_fld, eqs_nils, eqs_sl, v_eqs_ii, v_neqs_ii, sel_andt, sel_andf, sel_nandt, sel_nandf, encI, Int.toNat_natCast, lq_e, lq_r, Bool.not_true, Bool.not_false, Bool.false_eq_true, reduceIte, decide_true, decide_false, v_build_fill, v_buildS_fill, fill_nil, fill_cons, AV.cells, putL, chunk, List.length_cons, List.length_nil, Nat.reduceAdd, Nat.reduceDiv, Nat.reduceMod, List.take_succ_cons, List.take_zero, List.take_nil, List.drop_succ_cons, List.drop_zero, List.drop_nil, List.cons_append, List.nil_append, List.append_nil, List.all_cons, List.all_nil, AV.one, Nat.reduceLeDiff, and_self, and_true, true_and, Nat.zero_add, ne_eq, Nat.succ_ne_zero, not_false_eq_true, Bool.and_self, Nat.reduceEqDiff, Nat.le_refl, res12, vt12, V12, k12_4, k12_5, k12_3, k12_6, k12_9, k12_8, k12_10, k12_11, k12_13, k12_12, k12_14, k12_7, k12_15, k12_16, k12_17, k12_2, k12_18, k12_19, k12_21, k12_22, k12_23, k12_24, k12_20, k12_25, k12_1, k12_26, k12_28, k12_29, k12_30, k12_31, k12_27, k12_32, k12_0, k12_33, k12_34, k12_35, k12_36, k12_37, k12_38, v_lookup_key, h1', hb, hkf]
          refine ⟨(by (repeat' (first | exact cf_nil | exact allp_nil | refine cf_add ?_ ?_ | refine allp_add ?_ ?_)); all_goals (first | exact Or.inl rfl | exact Or.inl (by decide) | exact Or.inr ⟨by (simp (decide := true) [clash, h2] <;> assumption), by (simp (decide := true) [clash, h2] <;> assumption)⟩)), ?_⟩
          have w := way 43 (hF2.mono (by omega)) (by decide)
          simp (disch := omega) only [sel_t, sel_f, sel_dt, sel_df, sel_nt, sel_nf, v_lss, v_leq, v_gtr, v_geq, v_eql, v_neq, v_add, v_sub, v_not, v_min, v_max, v_pick_t, v_pick_f, v_ext0, v_ext1, v_ext2, v_len_isl, List.length_map, v_len_nils, v_len_sl0, v_len_sl, v_ix_map, v_ix_sl, v_nil_ptr, v_nil_iptr, v_fa_ptr, v_fa_iptr, cell_0, cell_s, cell_a2, cell_a3, cell_a7, cell_a10, v_load_map, v_load_r1, v_call_fn, v_call_fnS, v_load_H, ldH_one, ldH_map, v_store_H, stH_one, upd_same, upd_cons_ne, upd_nil, v_box, v_fld, eqs_nils, eqs_sl, v_eqs_ii, v_neqs_ii, sel_andt, sel_andf, sel_nandt, sel_nandf, encI, Int.toNat_natCast, lq_e, lq_r, Bool.not_true, Bool.not_false, Bool.false_eq_true, reduceIte, decide_true, decide_false, v_build_fill, v_buildS_fill, fill_nil, fill_cons, AV.cells, putL, chunk, List.length_cons, List.length_nil, Nat.reduceAdd, Nat.reduceDiv, Nat.reduceMod, List.take_succ_cons, List.take_zero, List.take_nil, List.drop_succ_cons, List.drop_zero, List.drop_nil, List.cons_append, List.nil_append, List.append_nil, List.all_cons, List.all_nil, AV.one, Nat.reduceLeDiff, and_self, and_true, true_and, Nat.zero_add, ne_eq, Nat.succ_ne_zero, not_false_eq_true, Bool.and_self, Nat.reduceEqDiff, Nat.le_refl, res12, vt12, V12, k12_4, k12_5, k12_3, k12_6, k12_9, k12_8, k12_10, k12_11, k12_13, k12_12, k12_14, k12_7, k12_15, k12_16, k12_17, k12_2, k12_18, k12_19, k12_21, k12_22, k12_23, k12_24, k12_20, k12_25, k12_1, k12_26, k12_28, k12_29, k12_30, k12_31, k12_27, k12_32, k12_0, k12_33, k12_34, k12_35, k12_36, k12_37, k12_38, v_lookup_key, Option.isSome_none, Option.isSome_some] at w
          exact w
        | some e =>
          rw [hkf] at way
          simp (disch := omega) only [sel_t, sel_f, sel_dt, sel_df, sel_nt, sel_nf, v_lss, v_leq, v_gtr, v_geq, v_eql, v_neq, v_add, v_sub, v_not, v_min, v_max, v_pick_t, v_pick_f, v_ext0, v_ext1, v_ext2, v_len_isl, List.length_map, v_len_nils, v_len_sl0, v_len_sl, v_ix_map, v_ix_sl, v_nil_ptr, v_nil_iptr, v_fa_ptr, v_fa_iptr, cell_0, cell_s, cell_a2, cell_a3, cell_a7, cell_a10, v_load_map, v_load_r1, v_call_fn, v_call_fnS, v_load_H, ldH_one, ldH_map, v_store_H, stH_one, upd_same, upd_cons_ne, upd_nil, v_box, v_fld, eqs_nils, eqs_sl, v_eqs_ii, v_neqs_ii, sel_andt, sel_andf, sel_nandt, sel_nandf, encI, Int.toNat_natCast, lq_e, lq_r, Bool.not_true, Bool.not_false, Bool.false_eq_true, reduceIte, decide_true, decide_false, v_build_fill, v_buildS_fill, fill_nil, fill_cons, AV.cells, putL, chunk, List.length_cons, List.length_nil, Nat.reduceAdd, Nat.reduceDiv, Nat.reduceMod, List.take_succ_cons, List.take_zero, List.take_nil, List.drop_succ_cons, List.drop_zero, List.drop_nil, List.cons_append, List.nil_append, List.append_nil, List.all_cons, List.all_nil, AV.one, Nat.reduceLeDiff, and_self, and_true, true_and, Nat.zero_add, ne_eq, Nat.succ_ne_zero, not_false_eq_true, Bool.and_self, Nat.reduceEqDiff, Nat.le_refl, res12, vt12, V12, k12_4, k12_5, k12_3, k12_6, k12_9, k12_8, k12_10, k12_11, k12_13, k12_12, k12_14, k12_7, k12_15, k12_16, k12_17, k12_2, k12_18, k12_19, k12_21, k12_22, k12_23, k12_24, k12_20, k12_25, k12_1, k12_26, k12_28, k12_29, k12_30, k12_31, k12_27, k12_32, k12_0, k12_33, k12_34, k12_35, k12_36, k12_37, k12_38, v_lookup_key, h1', hb, hkf]
          refine ⟨(by (repeat' (first | exact cf_nil | exact allp_nil | refine cf_add ?_ ?_ | refine allp_add ?_ ?_)); all_goals (first | exact Or.inl rfl | exact Or.inl (by decide) | exact Or.inr ⟨by (simp (decide := true) [clash, h2] <;> assumption), by (simp (decide := true) [clash, h2] <;> assumption)⟩)), ?_⟩
          have w := way 43 (hF2.mono (by omega)) (by decide)
          simp (disch := omega) only [sel_t, sel_f, sel_dt, sel_df, sel_nt, sel_nf, v_lss, v_leq, v_gtr, v_geq, v_eql, v_neq, v_add, v_sub, v_not, v_min, v_max, v_pick_t, v_pick_f, v_ext0, v_ext1, v_ext2, v_len_isl, List.length_map, v_len_nils, v_len_sl0, v_len_sl, v_ix_map, v_ix_sl, v_nil_ptr, v_nil_iptr, v_fa_ptr, v_fa_iptr, cell_0, cell_s, cell_a2, cell_a3, cell_a7, cell_a10, v_load_map, v_load_r1, v_call_fn, v_call_fnS, v_load_H, ldH_one, ldH_map, v_store_H, stH_one, upd_same, upd_cons_ne, upd_nil, v_box, v_fld, eqs_nils, eqs_sl, v_eqs_ii, v_neqs_ii, sel_andt, sel_andf, sel_nandt, sel_nandf, encI, Int.toNat_natCast, lq_e, lq_r, Bool.not_true, Bool.not_false, Bool.false_eq_true, reduceIte, decide_true, decide_false, v_build_fill, v_buildS_fill, fill_nil, fill_cons, AV.cells, putL, chunk, List.length_cons, List.length_nil, Nat.reduceAdd, Nat.reduceDiv, Nat.reduceMod, List.take_succ_cons, List.take_zero, List.take_nil, List.drop_succ_cons, List.drop_zero, List.drop_nil, List.cons_append, List.nil_append, List.append_nil, List.all_cons, List.all_nil, AV.one, Nat.reduceLeDiff, and_self, and_true, true_and, Nat.zero_add, ne_eq, Nat.succ_ne_zero, not_false_eq_true, Bool.and_self, Nat.reduceEqDiff, Nat.le_refl, res12, vt12, V12, k12_4, k12_5, k12_3, k12_6, k12_9, k12_8, k12_10, k12_11, k12_13, k12_12, k12_14, k12_7, k12_15, k12_16, k12_17, k12_2, k12_18, k12_19, k12_21, k12_22, k12_23, k12_24, k12_20, k12_25, k12_1, k12_26, k12_28, k12_29, k12_30, k12_31, k12_27, k12_32, k12_0, k12_33, k12_34, k12_35, k12_36, k12_37, k12_38, v_lookup_key, Option.isSome_none, Option.isSome_some] at w
          exact w
    · rw [if_pos (by omega)] at hr'
      subst hr'
      simp (disch := omega) only [sel_t, sel_f, sel_dt, sel_df, sel_nt, sel_nf, v_lss, v_leq, v_gtr, v_geq, v_eql, v_neq, v_add, v_sub, v_not, v_min, v_max, v_pick_t, v_pick_f, v_ext0, v_ext1, v_ext2, v_len_isl, List.length_map, v_len_nils, v_len_sl0, v_len_sl, v_ix_map, v_ix_sl, v_nil_ptr, v_nil_iptr, v_fa_ptr, v_fa_iptr, cell_0, cell_s, cell_a2, cell_a3, cell_a7, cell_a10, v_load_map, v_load_r1, v_call_fn, v_call_fnS, v_load_H, ldH_one, ldH_map, v_store_H, stH_one, upd_same, upd_cons_ne, upd_nil, v_box, v_fld, eqs_nils, eqs_sl, v_eqs_ii, v_neqs_ii, sel_andt, sel_andf, sel_nandt, sel_nandf, encI, Int.toNat_natCast, lq_e, lq_r, Bool.not_true, Bool.not_false, Bool.false_eq_true, reduceIte, decide_true, decide_false, v_build_fill, v_buildS_fill, fill_nil, fill_cons, AV.cells, putL, chunk, List.length_cons, List.length_nil, Nat.reduceAdd, Nat.reduceDiv, Nat.reduceMod, List.take_succ_cons, List.take_zero, List.take_nil, List.drop_succ_cons, List.drop_zero, List.drop_nil, List.cons_append, List.nil_append, List.append_nil, List.all_cons, List.all_nil, AV.one, Nat.reduceLeDiff, and_self, and_true, true_and, Nat.zero_add, ne_eq, Nat.succ_ne_zero, not_false_eq_true, Bool.and_self, Nat.reduceEqDiff, Nat.le_refl, res12, vt12, V12, k12_4, k12_5, k12_3, k12_6, k12_9, k12_8, k12_10, k12_11, k12_13, k12_12, k12_14, k12_7, k12_15, k12_16, k12_17, k12_2, k12_18, k12_19, k12_21, k12_22, k12_23, k12_24, k12_20, k12_25, k12_1, k12_26, k12_28, k12_29, k12_30, k12_31, k12_27, k12_32, k12_0, k12_33, k12_34, k12_35, k12_36, k12_37, k12_38, v_lookup_key, h1]
      refine call_res_gen ways_sound (hF.mono (by omega)) (fun H2 hH2 hF2 => ?_)
      have hb := by have := hH2 (3 :: 35 :: q); rwa [upd_same] at this
      have hot : ∀ j o, H j = some o → H2 j = some o := fun j o h => by
        rw [hH2, upd_ne (fun e => by rw [e, show H (3 :: 35 :: q) = none from hF 35 [3] (by omega)] at h; cases h), upd_nil]; exact h
      clear hH2
      have h1' := hot _ _ h1
      have way := fun (c : Nat) (hF : Fresh q c H2) (hc : 18 ≤ c) => do_way (H := H2) (k := k) (r := r) (hw.mono2 fun j e rs he hj => hot _ _ hj) hwl (hot _ _ h2) hF hc
      cases hkf : keyFind k r with
      | none =>
        rw [hkf] at way
        simp (disch := omega) only [sel_t, sel_f, sel_dt, sel_df, sel_nt, sel_nf, v_lss, v_leq, v_gtr, v_geq, v_eql, v_neq, v_add, v_sub, v_not, v_min, v_max, v_pick_t, v_pick_f, v_ext0, v_ext1, v_ext2, v_len_isl, List.length_map, v_len_nils, v_len_sl0, v_len_sl, v_ix_map, v_ix_sl, v_nil_ptr, v_nil_iptr, v_fa_ptr, v_fa_iptr, cell_0, cell_s, cell_a2, cell_a3, cell_a7, cell_a10, v_load_map, v_load_r1, v_call_fn, v_call_fnS, v_load_H, ldH_one, ldH_map, v_store_H, stH_one, upd_same, upd_cons_ne, upd_nil, v_box, v_fld, eqs_nils, eqs_sl, v_eqs_ii, v_neqs_ii, sel_andt, sel_andf, sel_nandt, sel_nandf, encI, Int.toNat_natCast, lq_e, lq_r, Bool.not_true, Bool.not_false, Bool.false_eq_true, reduceIte, decide_true, decide_false, v_build_fill, v_buildS_fill, fill_nil, fill_cons, AV.cells, putL, chunk, List.length_cons, List.length_nil, Nat.reduceAdd, Nat.reduceDiv, Nat.reduceMod, List.take_succ_cons, List.take_zero, List.take_nil, List.drop_succ_cons, List.drop_zero, List.drop_nil, List.cons_append, List.nil_append, List.append_nil, List.all_cons, List.all_nil, AV.one, Nat.reduceLeDiff, and_self, and_true, true_and, Nat.zero_add, ne_eq, Nat.succ_ne_zero, not_false_eq_true, Bool.and_self, Nat.reduceEqDiff, Nat.le_refl, res12, vt12, V12, k12_4, k12_5, k12_3, k12_6, k12_9, k12_8, k12_10, k12_11, k12_13, k12_12, k12_14, k12_7, k12_15, k12_16, k12_17, k12_2, k12_18, k12_19, k12_21, k12_22, k12_23, k12_24, k12_20, k12_25, k12_1, k12_26, k12_28, k12_29, k12_30, k12_31, k12_27, k12_32, k12_0, k12_33, k12_34, k12_35, k12_36, k12_37, k12_38, v_lookup_key, h1', hb, hkf]
        refine ⟨(by (repeat' (first | exact cf_nil | exact allp_nil | refine cf_add ?_ ?_ | refine allp_add ?_ ?_)); all_goals (first | exact Or.inl rfl | exact Or.inl (by decide) | exact Or.inr ⟨by (simp (decide := true) [clash, h2] <;> assumption), by (simp (decide := true) [clash, h2] <;> assumption)⟩)), ?_⟩
        have w := way 43 (hF2.mono (by omega)) (by decide)
        simp (disch := omega) only [sel_t, sel_f, sel_dt, sel_df, sel_nt, sel_nf, v_lss, v_leq, v_gtr, v_geq, v_eql, v_neq, v_add, v_sub, v_not, v_min, v_max, v_pick_t, v_pick_f, v_ext0, v_ext1, v_ext2, v_len_isl, List.length_map, v_len_nils, v_len_sl0, v_len_sl, v_ix_map, v_ix_sl, v_nil_ptr, v_nil_iptr, v_fa_ptr, v_fa_iptr, cell_0, cell_s, cell_a2, cell_a3, cell_a7, cell_a10, v_load_map, v_load_r1, v_call_fn, v_call_fnS, v_load_H, ldH_one, ldH_map, v_store_H, stH_one, upd_same, upd_cons_ne, upd_nil, v_box, v_fld, eqs_nils, eqs_sl, v_eqs_ii, v_neqs_ii, sel_andt, sel_andf, sel_nandt, sel_nandf, encI, Int.toNat_natCast, lq_e, lq_r, Bool.not_true, Bool.not_false, Bool.false_eq_true, reduceIte, decide_true, decide_false, v_build_fill, v_buildS_fill, fill_nil, fill_cons, AV.cells, putL, chunk, List.length_cons, List.length_nil, Nat.reduceAdd, Nat.reduceDiv, Nat.reduceMod, List.take_succ_cons, List.take_zero, List.take_nil, List.drop_succ_cons, List.drop_zero, List.drop_nil, List.cons_append, List.nil_append, List.append_nil, List.all_cons, List.all_nil, AV.one, Nat.reduceLeDiff, and_self, and_true, true_and, Nat.zero_add, ne_eq, Nat.succ_ne_zero, not_false_eq_true, Bool.and_self, Nat.reduceEqDiff, Nat.le_refl, res12, vt12, V12, k12_4, k12_5, k12_3, k12_6, k12_9, k12_8, k12_10, k12_11, k12_13, k12_12, k12_14, k12_7, k12_15, k12_16, k12_17, k12_2, k12_18, k12_19, k12_21, k12_22, k12_23, k12_24, k12_20, k12_25, k12_1, k12_26, k12_28, k12_29, k12_30, k12_31, k12_27, k12_32, k12_0, k12_33, k12_34, k12_35, k12_36, k12_37, k12_38, v_lookup_key, Option.isSome_none, Option.isSome_some] at w
        exact w
      | some e =>
        rw [hkf] at way
        simp (disch := omega) only [sel_t, sel_f, sel_dt, sel_df, sel_nt, sel_nf, v_lss, v_leq, v_gtr, v_geq, v_eql, v_neq, v_add, v_sub, v_not, v_min, v_max, v_pick_t, v_pick_f, v_ext0, v_ext1, v_ext2, v_len_isl, List.length_map, v_len_nils, v_len_sl0, v_len_sl, v_ix_map, v_ix_sl, v_nil_ptr, v_nil_iptr, v_fa_ptr, v_fa_iptr, cell_0, cell_s, cell_a2, cell_a3, cell_a7, cell_a10, v_load_map, v_load_r1, v_call_fn, v_call_fnS, v_load_H, ldH_one, ldH_map, v_store_H, stH_one, upd_same, upd_cons_ne, upd_nil, v_box, v_fld, eqs_nils, eqs_sl, v_eqs_ii, v_neqs_ii, sel_andt, sel_andf, sel_nandt, sel_nandf, encI, Int.toNat_natCast, lq_e, lq_r, Bool.not_true, Bool.not_false, Bool.false_eq_true, reduceIte, decide_true, decide_false, v_build_fill, v_buildS_fill, fill_nil, fill_cons, AV.cells, putL, chunk, List.length_cons, List.length_nil, Nat.reduceAdd, Nat.reduceDiv, Nat.reduceMod, List.take_succ_cons, List.take_zero, List.take_nil, List.drop_succ_cons, List.drop_zero, List.drop_nil, List.cons_append, List.nil_append, List.append_nil, List.all_cons, List.all_nil, AV.one, Nat.reduceLeDiff, and_self, and_true, true_and, Nat.zero_add, ne_eq, Nat.succ_ne_zero, not_false_eq_true, Bool.and_self, Nat.reduceEqDiff, Nat.le_refl, res12, vt12, V12, k12_4, k12_5, k12_3, k12_6, k12_9, k12_8, k12_10, k12_11, k12_13, k12_12, k12_14, k12_7, k12_15, k12_16, k12_17, k12_2, k12_18, k12_19, k12_21, k12_22, k12_23, k12_24, k12_20, k12_25, k12_1, k12_26, k12_28, k12_29, k12_30, k12_31, k12_27, k12_32, k12_0, k12_33, k12_34, k12_35, k12_36, k12_37, k12_38, v_lookup_key, h1', hb, hkf]
        refine ⟨(by (repeat' (first | exact cf_nil | exact allp_nil | refine cf_add ?_ ?_ | refine allp_add ?_ ?_)); all_goals (first | exact Or.inl rfl | exact Or.inl (by decide) | exact Or.inr ⟨by (simp (decide := true) [clash, h2] <;> assumption), by (simp (decide := true) [clash, h2] <;> assumption)⟩)), ?_⟩
        have w := way 43 (hF2.mono (by omega)) (by decide)
        simp (disch := omega) only [sel_t, sel_f, sel_dt, sel_df, sel_nt, sel_nf, v_lss, v_leq, v_gtr, v_geq, v_eql, v_neq, v_add, v_sub, v_not, v_min, v_max, v_pick_t, v_pick_f, v_ext0, v_ext1, v_ext2, v_len_isl, List.length_map, v_len_nils, v_len_sl0, v_len_sl, v_ix_map, v_ix_sl, v_nil_ptr, v_nil_iptr, v_fa_ptr, v_fa_iptr, cell_0, cell_s, cell_a2, cell_a3, cell_a7, cell_a10, v_load_map, v_load_r1, v_call_fn, v_call_fnS, v_load_H, ldH_one, ldH_map, v_store_H, stH_one, upd_same, upd_cons_ne, upd_nil, v_box, v_fld, eqs_nils, eqs_sl, v_eqs_ii, v_neqs_ii, sel_andt, sel_andf, sel_nandt, sel_nandf, encI, Int.toNat_natCast, lq_e, lq_r, Bool.not_true, Bool.not_false, Bool.false_eq_true, reduceIte, decide_true, decide_false, v_build_fill, v_buildS_fill, fill_nil, fill_cons, AV.cells, putL, chunk, List.length_cons, List.length_nil, Nat.reduceAdd, Nat.reduceDiv, Nat.reduceMod, List.take_succ_cons, List.take_zero, List.take_nil, List.drop_succ_cons, List.drop_zero, List.drop_nil, List.cons_append, List.nil_append, List.append_nil, List.all_cons, List.all_nil, AV.one, Nat.reduceLeDiff, and_self, and_true, true_and, Nat.zero_add, ne_eq, Nat.succ_ne_zero, not_false_eq_true, Bool.and_self, Nat.reduceEqDiff, Nat.le_refl, res12, vt12, V12, k12_4, k12_5, k12_3, k12_6, k12_9, k12_8, k12_10, k12_11, k12_13, k12_12, k12_14, k12_7, k12_15, k12_16, k12_17, k12_2, k12_18, k12_19, k12_21, k12_22, k12_23, k12_24, k12_20, k12_25, k12_1, k12_26, k12_28, k12_29, k12_30, k12_31, k12_27, k12_32, k12_0, k12_33, k12_34, k12_35, k12_36, k12_37, k12_38, v_lookup_key, Option.isSome_none, Option.isSome_some] at w
        exact w
  · have hd : doS l a kl k r = putW ⟨l, heldN l.length a, kl, []⟩ r := by rw [doS, if_pos (by omega)]
    rw [hd]
    simp (disch := omega) only [sel_t, sel_f, sel_dt, sel_df, sel_nt, sel_nf, v_lss, v_leq, v_gtr, v_geq, v_eql, v_neq, v_add, v_sub, v_not, v_min, v_max, v_pick_t, v_pick_f, v_ext0, v_ext1, v_ext2, v_len_isl, List.length_map, v_len_nils, v_len_sl0, v_len_sl, v_ix_map, v_ix_sl, v_nil_ptr, v_nil_iptr, v_fa_ptr, v_fa_iptr, cell_0, cell_s, cell_a2, cell_a3, cell_a7, cell_a10, v_load_map, v_load_r1, v_call_fn, v_call_fnS, v_load_H, ldH_one, ldH_map, v_store_H, stH_one, upd_same, upd_cons_ne, upd_nil, v_box, v_fld, eqs_nils, eqs_sl, v_eqs_ii, v_neqs_ii, sel_andt, sel_andf, sel_nandt, sel_nandf, encI, Int.toNat_natCast, lq_e, lq_r, Bool.not_true, Bool.not_false, Bool.false_eq_true, reduceIte, decide_true, decide_false, v_build_fill, v_buildS_fill, fill_nil, fill_cons, AV.cells, putL, chunk, List.length_cons, List.length_nil, Nat.reduceAdd, Nat.reduceDiv, Nat.reduceMod, List.take_succ_cons, List.take_zero, List.take_nil, List.drop_succ_cons, List.drop_zero, List.drop_nil, List.cons_append, List.nil_append, List.append_nil, List.all_cons, List.all_nil, AV.one, Nat.reduceLeDiff, and_self, and_true, true_and, Nat.zero_add, ne_eq, Nat.succ_ne_zero, not_false_eq_true, Bool.and_self, Nat.reduceEqDiff, Nat.le_refl, res12, vt12, V12, k12_4, k12_5, k12_3, k12_6, k12_9, k12_8, k12_10, k12_11, k12_13, k12_12, k12_14, k12_7, k12_15, k12_16, k12_17, k12_2, k12_18, k12_19, k12_21, k12_22, k12_23, k12_24, k12_20, k12_25, k12_1, k12_26, k12_28, k12_29, k12_30, k12_31, k12_27, k12_32, k12_0, k12_33, k12_34, k12_35, k12_36, k12_37, k12_38, v_lookup_key, h1]
    refine work_call (Φ := fun H0 y u => y = .bool (putB ⟨l, heldN l.length a, kl, []⟩ r) ∧ ∃ xl' xa', WorkI (upd u H0) (17 :: q) xl' xk xa' (putW ⟨l, heldN l.length a, kl, []⟩ r)) hw h2 (hF.mono (by omega)) (by omega) (fun H0 h0 hf0 => put_sound h0 hf0 heldN_le (by simp) r) (fun H0 x u hx => by obtain ⟨_, xl', xa', h⟩ := hx; exact ⟨xl', xk, xa', h⟩) (fun x u xl' xk' xa' h3 h4 h5 => ?_)
    have h6 := h3.s
    rcases cells_list h3.l with rfl | ⟨_, _, rfl⟩ <;> rcases cells_list h3.k with rfl | ⟨_, _, rfl⟩
    all_goals (simp (disch := omega) only [sel_t, sel_f, sel_dt, sel_df, sel_nt, sel_nf, v_lss, v_leq, v_gtr, v_geq, v_eql, v_neq, v_add, v_sub, v_not, v_min, v_max, v_pick_t, v_pick_f, v_ext0, v_ext1, v_ext2, v_len_isl, List.length_map, v_len_nils, v_len_sl0, v_len_sl, v_ix_map, v_ix_sl, v_nil_ptr, v_nil_iptr, v_fa_ptr, v_fa_iptr, cell_0, cell_s, cell_a2, cell_a3, cell_a7, cell_a10, v_load_map, v_load_r1, v_call_fn, v_call_fnS, v_load_H, ldH_one, ldH_map, v_store_H, stH_one, upd_same, upd_cons_ne, upd_nil, v_box, v_fld, eqs_nils, eqs_sl, v_eqs_ii, v_neqs_ii, sel_andt, sel_andf, sel_nandt, sel_nandf, encI, Int.toNat_natCast, lq_e, lq_r, Bool.not_true, Bool.not_false, Bool.false_eq_true, reduceIte, decide_true, decide_false, v_build_fill, v_buildS_fill, fill_nil, fill_cons, AV.cells, putL, chunk, List.length_cons, List.length_nil, Nat.reduceAdd, Nat.reduceDiv, Nat.reduceMod, List.take_succ_cons, List.take_zero, List.take_nil, List.drop_succ_cons, List.drop_zero, List.drop_nil, List.cons_append, List.nil_append, List.append_nil, List.all_cons, List.all_nil, AV.one, Nat.reduceLeDiff, and_self, and_true, true_and, Nat.zero_add, ne_eq, Nat.succ_ne_zero, not_false_eq_true, Bool.and_self, Nat.reduceEqDiff, Nat.le_refl, res12, vt12, V12, k12_4, k12_5, k12_3, k12_6, k12_9, k12_8, k12_10, k12_11, k12_13, k12_12, k12_14, k12_7, k12_15, k12_16, k12_17, k12_2, k12_18, k12_19, k12_21, k12_22, k12_23, k12_24, k12_20, k12_25, k12_1, k12_26, k12_28, k12_29, k12_30, k12_31, k12_27, k12_32, k12_0, k12_33, k12_34, k12_35, k12_36, k12_37, k12_38, v_lookup_key, h4, h6]; refine ⟨(by (repeat' (first | exact cf_nil | exact allp_nil | refine cf_add ?_ ?_ | refine allp_add ?_ ?_)); all_goals (first | exact Or.inl rfl | exact Or.inl (by decide) | exact Or.inr ⟨by (simp (decide := true) [clash, h2] <;> assumption), by (simp (decide := true) [clash, h2] <;> assumption)⟩)), ?_⟩; exact do_end h3 h4 h5)
theorem do_pure (l : List Int) (hl : l.length ≤ 100000) (a : Int) (kl : List Int) (hkl : kl.length ≤ 100000) (k r : Int) : Pure Try.prog 12 [.agg [il l, .int .i64 a, il kl], .agg [.int .i64 k, .int .i64 r]] (doR (doS l a kl k r)) := by
  refine pure_vc Try.mixed ok12 rfl (fun q => ?_)
  simp only [params, Nat.zero_add, Nat.reduceAdd]
  simp (disch := omega) only [sel_t, sel_f, sel_dt, sel_df, sel_nt, sel_nf, v_lss, v_leq, v_gtr, v_geq, v_eql, v_neq, v_add, v_sub, v_not, v_min, v_max, v_pick_t, v_pick_f, v_ext0, v_ext1, v_ext2, v_len_isl, List.length_map, v_len_nils, v_len_sl0, v_len_sl, v_ix_map, v_ix_sl, v_nil_ptr, v_nil_iptr, v_fa_ptr, v_fa_iptr, cell_0, cell_s, cell_a2, cell_a3, cell_a7, cell_a10, v_load_map, v_load_r1, v_call_fn, v_call_fnS, v_load_H, ldH_one, ldH_map, v_store_H, stH_one, upd_same, upd_cons_ne, upd_nil, v_box, v_fld, eqs_nils, eqs_sl, v_eqs_ii, v_neqs_ii, sel_andt, sel_andf, sel_nandt, sel_nandf, encI, Int.toNat_natCast, lq_e, lq_r, Bool.not_true, Bool.not_false, Bool.false_eq_true, reduceIte, decide_true, decide_false, v_build_fill, v_buildS_fill, fill_nil, fill_cons, AV.cells, putL, chunk, List.length_cons, List.length_nil, Nat.reduceAdd, Nat.reduceDiv, Nat.reduceMod, List.take_succ_cons, List.take_zero, List.take_nil, List.drop_succ_cons, List.drop_zero, List.drop_nil, List.cons_append, List.nil_append, List.append_nil, List.all_cons, List.all_nil, AV.one, Nat.reduceLeDiff, and_self, and_true, true_and, Nat.zero_add, ne_eq, Nat.succ_ne_zero, not_false_eq_true, Bool.and_self, Nat.reduceEqDiff, Nat.le_refl, res12, vt12, V12, k12_4, k12_5, k12_3, k12_6, k12_9, k12_8, k12_10, k12_11, k12_13, k12_12, k12_14, k12_7, k12_15, k12_16, k12_17, k12_2, k12_18, k12_19, k12_21, k12_22, k12_23, k12_24, k12_20, k12_25, k12_1, k12_26, k12_28, k12_29, k12_30, k12_31, k12_27, k12_32, k12_0, k12_33, k12_34, k12_35, k12_36, k12_37, k12_38, v_lookup_key]
  have hF : Fresh q 6 (upd [(2 :: q, some (.rows 3 [[.nils, .int .i64 0, .nils]]))] (upd [(1 :: q, some (.rows 2 [[.int .i64 k, .int .i64 r]]))] (upd [(0 :: q, some (.rows 3 [[il l, .int .i64 a, il kl]]))] fun x => none))) :=
    (((Fresh.empty (c := 0)).upd (k := 0) (d := 1) (by omega) (by omega)).upd (k := 1) (d := 2) (by omega) (by omega)).upd (k := 2) (d := 6) (by omega) (by omega)
  generalize hH : upd [(2 :: q, some (.rows 3 [[.nils, .int .i64 0, .nils]]))] (upd [(1 :: q, some (.rows 2 [[.int .i64 k, .int .i64 r]]))] (upd [(0 :: q, some (.rows 3 [[il l, .int .i64 a, il kl]]))] fun x => none)) = H at hF ⊢
  have h0 : H (0 :: q) = some (.rows 3 [[il l, .int .i64 a, il kl]]) := by rw [← hH, upd_ne (by simp), upd_nil, upd_ne (by simp), upd_nil, upd_same]
  have h1 : H (1 :: q) = some (.rows 2 [[.int .i64 k, .int .i64 r]]) := by rw [← hH, upd_ne (by simp), upd_nil, upd_same]
  have h2 : H (2 :: q) = some (.rows 3 [[.nils, .int .i64 0, .nils]]) := by rw [← hH, upd_same]
  clear hH
  obtain ⟨xl, u1, hc1, hy1, hu1, hx1, hs1⟩ := clone_det (H := H) (q := 6 :: q) l (by omega)
  refine call_res_gen hc1 hF (fun H2 hH2 hF2 => ?_)
  have hk1 : ∀ j, H2 (j :: q) = H (j :: q) := fun j => by
    rw [hH2, upd_not (fun h => by have := hu1 _ h; simp at this)]
  rw [← hk1] at h0 h1 h2
  obtain rfl : H2 = upd u1 H := funext hH2
  clear hH2 hk1
  simp (disch := omega) only [sel_t, sel_f, sel_dt, sel_df, sel_nt, sel_nf, v_lss, v_leq, v_gtr, v_geq, v_eql, v_neq, v_add, v_sub, v_not, v_min, v_max, v_pick_t, v_pick_f, v_ext0, v_ext1, v_ext2, v_len_isl, List.length_map, v_len_nils, v_len_sl0, v_len_sl, v_ix_map, v_ix_sl, v_nil_ptr, v_nil_iptr, v_fa_ptr, v_fa_iptr, cell_0, cell_s, cell_a2, cell_a3, cell_a7, cell_a10, v_load_map, v_load_r1, v_call_fn, v_call_fnS, v_load_H, ldH_one, ldH_map, v_store_H, stH_one, upd_same, upd_cons_ne, upd_nil, v_box, v_fld, eqs_nils, eqs_sl, v_eqs_ii, v_neqs_ii, sel_andt, sel_andf, sel_nandt, sel_nandf, encI, Int.toNat_natCast, lq_e, lq_r, Bool.not_true, Bool.not_false, Bool.false_eq_true, reduceIte, decide_true, decide_false, v_build_fill, v_buildS_fill, fill_nil, fill_cons, AV.cells, putL, chunk, List.length_cons, List.length_nil, Nat.reduceAdd, Nat.reduceDiv, Nat.reduceMod, List.take_succ_cons, List.take_zero, List.take_nil, List.drop_succ_cons, List.drop_zero, List.drop_nil, List.cons_append, List.nil_append, List.append_nil, List.all_cons, List.all_nil, AV.one, Nat.reduceLeDiff, and_self, and_true, true_and, Nat.zero_add, ne_eq, Nat.succ_ne_zero, not_false_eq_true, Bool.and_self, Nat.reduceEqDiff, Nat.le_refl, res12, vt12, V12, k12_4, k12_5, k12_3, k12_6, k12_9, k12_8, k12_10, k12_11, k12_13, k12_12, k12_14, k12_7, k12_15, k12_16, k12_17, k12_2, k12_18, k12_19, k12_21, k12_22, k12_23, k12_24, k12_20, k12_25, k12_1, k12_26, k12_28, k12_29, k12_30, k12_31, k12_27, k12_32, k12_0, k12_33, k12_34, k12_35, k12_36, k12_37, k12_38, v_lookup_key, h0, h1, h2]
  refine call_pure (held_pure l a) ?_
  simp (disch := omega) only [sel_t, sel_f, sel_dt, sel_df, sel_nt, sel_nf, v_lss, v_leq, v_gtr, v_geq, v_eql, v_neq, v_add, v_sub, v_not, v_min, v_max, v_pick_t, v_pick_f, v_ext0, v_ext1, v_ext2, v_len_isl, List.length_map, v_len_nils, v_len_sl0, v_len_sl, v_ix_map, v_ix_sl, v_nil_ptr, v_nil_iptr, v_fa_ptr, v_fa_iptr, cell_0, cell_s, cell_a2, cell_a3, cell_a7, cell_a10, v_load_map, v_load_r1, v_call_fn, v_call_fnS, v_load_H, ldH_one, ldH_map, v_store_H, stH_one, upd_same, upd_cons_ne, upd_nil, v_box, v_fld, eqs_nils, eqs_sl, v_eqs_ii, v_neqs_ii, sel_andt, sel_andf, sel_nandt, sel_nandf, encI, Int.toNat_natCast, lq_e, lq_r, Bool.not_true, Bool.not_false, Bool.false_eq_true, reduceIte, decide_true, decide_false, v_build_fill, v_buildS_fill, fill_nil, fill_cons, AV.cells, putL, chunk, List.length_cons, List.length_nil, Nat.reduceAdd, Nat.reduceDiv, Nat.reduceMod, List.take_succ_cons, List.take_zero, List.take_nil, List.drop_succ_cons, List.drop_zero, List.drop_nil, List.cons_append, List.nil_append, List.append_nil, List.all_cons, List.all_nil, AV.one, Nat.reduceLeDiff, and_self, and_true, true_and, Nat.zero_add, ne_eq, Nat.succ_ne_zero, not_false_eq_true, Bool.and_self, Nat.reduceEqDiff, Nat.le_refl, res12, vt12, V12, k12_4, k12_5, k12_3, k12_6, k12_9, k12_8, k12_10, k12_11, k12_13, k12_12, k12_14, k12_7, k12_15, k12_16, k12_17, k12_2, k12_18, k12_19, k12_21, k12_22, k12_23, k12_24, k12_20, k12_25, k12_1, k12_26, k12_28, k12_29, k12_30, k12_31, k12_27, k12_32, k12_0, k12_33, k12_34, k12_35, k12_36, k12_37, k12_38, v_lookup_key, h0, h1, h2]
  obtain ⟨xk, u2, hc2, hy2, hu2, hx2, hs2⟩ := clone_det (H := upd u1 H) (q := 14 :: q) kl (by omega)
  refine call_res_gen hc2 (hF2.mono (by omega)) (fun H3 hH3 hF3 => ?_)
  have hk2 : ∀ j, H3 (j :: q) = upd u1 H (j :: q) := fun j => by
    rw [hH3, upd_not (fun h => by have := hu2 _ h; simp at this)]
  rw [← hk2] at h0 h1 h2
  have hl3 : ListE H3 xl l := hy1.mono fun lab n e hk => by
    obtain rfl := hx1 _ _ e
    rw [hH3, upd_not (fun h => by have := hu2 _ h; simp at this)]; exact hk
  obtain rfl : H3 = upd u2 (upd u1 H) := funext hH3
  have hk3 : ∀ o, upd [(17 :: q, some o)] (upd u2 (upd u1 H)) (1 :: q) = some (.rows 2 [[.int .i64 k, .int .i64 r]]) ∧ upd [(17 :: q, some o)] (upd u2 (upd u1 H)) (2 :: q) = some (.rows 3 [[.nils, .int .i64 0, .nils]]) := fun o => ⟨by rw [upd_ne (by simp)]; exact h1, by rw [upd_ne (by simp)]; exact h2⟩
  have hF4 : ∀ o, Fresh q 18 (upd [(17 :: q, o)] (upd u2 (upd u1 H))) := fun o => hF3.upd (by omega) (by omega)
  have hw : WorkI (upd [(17 :: q, some (.rows 4 [[xl, .int .i64 (heldN l.length a), xk, .nils]]))] (upd u2 (upd u1 H))) (17 :: q) xl xk .nils ⟨l, heldN l.length a, kl, []⟩ := by
    have hn : ∀ {j o}, upd u2 (upd u1 H) j = some o → upd [(17 :: q, some (.rows 4 [[xl, .int .i64 (heldN l.length a), xk, .nils]]))] (upd u2 (upd u1 H)) j = some o := fun {j o} h => by
      rw [upd_ne (fun e => by rw [e, hF3.at (by omega)] at h; cases h)]; exact h
    refine ⟨upd_same, hl3.mono fun _ _ _ h => hn h, hy2.mono fun _ _ _ h => hn h, .inl ⟨rfl, rfl⟩, fun lab n m e e' => ?_⟩
    have e1 := hx1 _ _ e
    have e2 := hx2 _ _ e'
    rw [e1] at e2
    simp at e2
  have hmid := do_mid (k := k) (r := r) hw hl hkl (hk3 _).1 (hk3 _).2 (hF4 _)
  rcases hs1 with ⟨rfl, rfl⟩ | ⟨rfl, rfl⟩ <;> rcases hs2 with ⟨rfl, rfl⟩ | ⟨rfl, rfl⟩
  all_goals (simp (disch := omega) only [sel_t, sel_f, sel_dt, sel_df, sel_nt, sel_nf, v_lss, v_leq, v_gtr, v_geq, v_eql, v_neq, v_add, v_sub, v_not, v_min, v_max, v_pick_t, v_pick_f, v_ext0, v_ext1, v_ext2, v_len_isl, List.length_map, v_len_nils, v_len_sl0, v_len_sl, v_ix_map, v_ix_sl, v_nil_ptr, v_nil_iptr, v_fa_ptr, v_fa_iptr, cell_0, cell_s, cell_a2, cell_a3, cell_a7, cell_a10, v_load_map, v_load_r1, v_call_fn, v_call_fnS, v_load_H, ldH_one, ldH_map, v_store_H, stH_one, upd_same, upd_cons_ne, upd_nil, v_box, v_fld, eqs_nils, eqs_sl, v_eqs_ii, v_neqs_ii, sel_andt, sel_andf, sel_nandt, sel_nandf, encI, Int.toNat_natCast, lq_e, lq_r, Bool.not_true, Bool.not_false, Bool.false_eq_true, reduceIte, decide_true, decide_false, v_build_fill, v_buildS_fill, fill_nil, fill_cons, AV.cells, putL, chunk, List.length_cons, List.length_nil, Nat.reduceAdd, Nat.reduceDiv, Nat.reduceMod, List.take_succ_cons, List.take_zero, List.take_nil, List.drop_succ_cons, List.drop_zero, List.drop_nil, List.cons_append, List.nil_append, List.append_nil, List.all_cons, List.all_nil, AV.one, Nat.reduceLeDiff, and_self, and_true, true_and, Nat.zero_add, ne_eq, Nat.succ_ne_zero, not_false_eq_true, Bool.and_self, Nat.reduceEqDiff, Nat.le_refl, res12, vt12, V12, k12_4, k12_5, k12_3, k12_6, k12_9, k12_8, k12_10, k12_11, k12_13, k12_12, k12_14, k12_7, k12_15, k12_16, k12_17, k12_2, k12_18, k12_19, k12_21, k12_22, k12_23, k12_24, k12_20, k12_25, k12_1, k12_26, k12_28, k12_29, k12_30, k12_31, k12_27, k12_32, k12_0, k12_33, k12_34, k12_35, k12_36, k12_37, k12_38, v_lookup_key, h0, h1, h2]; refine ⟨(by (repeat' (first | exact cf_nil | exact allp_nil | refine cf_add ?_ ?_ | refine allp_add ?_ ?_)); all_goals (first | exact Or.inl rfl | exact Or.inl (by decide) | exact Or.inr ⟨by (simp (decide := true) [clash, h2] <;> assumption), by (simp (decide := true) [clash, h2] <;> assumption)⟩)), ?_⟩)
  all_goals exact hmid
end
end Go.Proofs.Ytbngfbpegdcpkaa
