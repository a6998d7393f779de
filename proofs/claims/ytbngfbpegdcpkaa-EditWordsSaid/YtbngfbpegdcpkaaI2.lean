/- slices.Insert's contract: own memory. -/
import Derived.Test.YtbngfbpegdcpkaaI1
import Derived.Test.YtbngfbpegdcpkaaA30
namespace Go.Proofs.Ytbngfbpegdcpkaa
set_option linter.unusedVariables false
set_option linter.unusedSimpArgs false
open Go.RowKit Go.Lib
set_option maxRecDepth 100000

/-- a world that differs in what was drawn alone -/
structure Like (w w0 : World) : Prop where
  heap : w0.heap = w.heap
  os : w0.os = w.os
  tape : w0.tape = w.tape
  output : w0.output = w.output
theorem Like.rfl' {w : World} : Like w w := ⟨rfl, rfl, rfl, rfl⟩
theorem Like.drew {w : World} : Like w w.drew := ⟨rfl, rfl, rfl, rfl⟩
theorem Like.drew2 {w : World} : Like w w.drew.drew := ⟨rfl, rfl, rfl, rfl⟩
theorem Like.rep {w w0 : World} (h : Like w w0) {H : Heap} {ρ : Locs} {R : Imm} (hR : Rep H ρ R w) : Rep H ρ R w0 := ⟨fun l o e => by rw [h.heap]; exact hR.own l o e, hR.sep, hR.dis, fun b O e => by rw [h.heap]; exact hR.imm b O e⟩
theorem Like.fut {w w0 : World} (h : Like w w0) {H : Heap} {ρ ρ' : Locs} {R R' : Imm} {W : Lab → Prop} {w' : World} (hF : Fut H ρ R w0 W ρ' R' w') : Fut H ρ R w W ρ' R' w' :=
  ⟨hF.ext, fun l L e => by have := hF.win l L e; rw [h.heap] at this; exact this, fun b O e => by have := hF.new b O e; rw [h.heap] at this; exact this, hF.os.trans h.os, hF.tape.trans h.tape, hF.output.trans h.output, by have := hF.size; rw [h.heap] at this; exact this, fun b hb hno => by
    have := hF.frame b (by rw [h.heap]; exact hb) hno; rw [h.heap] at this; exact this⟩
section
variable (b off n c i vb voff vc : Nat) (cc cv : Array Value) (T Tv : TypeId) (us vs : List Value) (w : World)
theorem ins_fit (hi : i ≤ n) (hroom : n + 1 ≤ c) (hn63 : n + 1 ≤ 4611686018427387904) (hvb : vb ≠ b) (hb : w.heap[b]? = some (.cells cc T (0, 0))) (hfit : off + (c) ≤ cc.size)
    (hul : us.length = (n - i)) (hus : ∀ k u, us[k]? = some u → w.cell? ⟨b, off + (i) + k, none⟩ = some u) (h1u : ∀ v ∈ us, v.oneCell' = true)
    (hv : w.heap[vb]? = some (.cells cv Tv (0, 0))) (hvl : vs.length = 1) (hvs : ∀ k u, vs[k]? = some u → w.cell? ⟨vb, voff + k, none⟩ = some u) (h1v : ∀ v ∈ vs, v.oneCell' = true) :
    Calls Try.prog 33 #[.slice (some ⟨b, off, none⟩) n c, .int .i64 i, .slice (some ⟨vb, voff, none⟩) 1 vc] w fun e w' =>
      e = .returned (.slice (some ⟨b, off, none⟩) (n + 1) c) ∧ ∃ w0, Like w w0 ∧ w' = w0.setB b (.cells (putC (putC cc (off + (i + 1)) us) (off + (i)) vs) T (0, 0)) := by
  obtain ⟨I, hinfo, hz, hsz, hby⟩ := info_elz
  rcases Nat.lt_or_ge i n with hlt | hge
  · refine (ins_shift b off n c i vb voff vc cc cv T Tv us vs w hlt hroom hn63 hvb hb hfit hul hus h1u hv hvl hvs h1v).mono ?_
    rintro e w' ⟨he, hw⟩
    exact ⟨he, w.drew, .drew, hw⟩
  · obtain rfl : i = n := by omega
    have hus0 : us = [] := List.length_eq_zero_iff.1 (by rw [hul]; simp)
    subst hus0
    have hr := fun ty => run_append_fit (ty := ty) (P := Try.prog) Try.underlying22 Try.underlying22 hinfo b off i 1 c vc ⟨vb, voff, none⟩ vs hroom w (by rw [hvl, hsz]) (fun k u hk => by rw [Addr.add_lit]; exact hvs k u hk) h1v cc T hb (by rw [hsz, hvl]; omega)
    rw [hsz] at hr
    refine (ins_end i c vb voff vc w _ (by omega) hn63 hr).mono ?_
    rintro e w' ⟨he, hw⟩
    refine ⟨he, w, .rfl', ?_⟩
    rw [hw]; simp [putC]
theorem ins_more (A : Option Addr) (us0 : List Value) (hi : i ≤ n) (hnc : n ≤ c) (hroom : c < n + 1) (hbig : (n + 1) * 8 ≤ 140737488355328) (hn63 : n + 1 ≤ 4611686018427387904)
    (hA : n = 0 ∨ (A = some ⟨b, off, none⟩ ∧ vb ≠ b ∧ w.heap[b]? = some (.cells cc T (0, 0))))
    (hu0 : us0.length = (i)) (hus0 : ∀ k u, us0[k]? = some u → w.cell? ⟨b, off + k, none⟩ = some u)
    (hul : us.length = (n - i)) (hus : ∀ k u, us[k]? = some u → w.cell? ⟨b, off + (i) + k, none⟩ = some u) (h1u : ∀ v ∈ us, v.oneCell' = true)
    (hv : w.heap[vb]? = some (.cells cv Tv (0, 0))) (hvl : vs.length = 1) (hvs : ∀ k u, vs[k]? = some u → w.cell? ⟨vb, voff + k, none⟩ = some u) (h1v : ∀ v ∈ vs, v.oneCell' = true) :
    Calls Try.prog 33 #[.slice A n c, .int .i64 i, .slice (some ⟨vb, voff, none⟩) 1 vc] w fun e w' =>
      ∃ (G : Nat) (rest : Array Value) (w0 : World), n + 1 ≤ G ∧ rest.size = (G - (n + 1)) * 1 ∧ Like w w0 ∧ e = .returned (.slice (some ⟨w.heap.size, 0, none⟩) (n + 1) G) ∧ w' = w0.alloc (.cells ((us0 ++ vs ++ us).toArray ++ rest) 3 (0, 0)) := by
  obtain ⟨I, hinfo, hz, hsz, hby⟩ := info_elz
  rcases Nat.lt_or_ge i n with hlt | hge
  · obtain ⟨rfl, hvb, hb⟩ := hA.resolve_left (by omega)
    obtain ⟨G, rest, h1, h2, h3⟩ := ins_grow b off n c i vb voff vc cc cv T Tv us vs w us0 hlt hnc hroom hbig hn63 hvb hb hu0 hus0 hul hus h1u hv hvl hvs h1v
    refine h3.mono ?_
    rintro e w' ⟨he, hw⟩
    exact ⟨G, rest, w.drew.drew, h1, h2, .drew2, he, hw⟩
  · obtain rfl : i = n := by omega
    have husn : us = [] := List.length_eq_zero_iff.1 (by rw [hul]; simp)
    subst husn
    have key : ∃ nc rest, i + 1 ≤ nc ∧ rest.size = (nc - (i + 1)) * 1 ∧ ∀ ty, (Builtin.append_ #[22, 22] ty #[.slice A i c, .slice (some ⟨vb, voff, none⟩) 1 vc]).run Try.prog w = .ok (.slice (some ⟨w.heap.size, 0, none⟩) (i + 1) nc) (w.drew.alloc (.cells (us0.toArray ++ vs.toArray ++ rest) 3)) := by
      have hall := fun ty => run_append_more (ty := ty) (P := Try.prog) Try.underlying22 Try.underlying22 hinfo hz A i 1 c vc ⟨vb, voff, none⟩ us0 vs hroom hnc w (by rw [hu0, hsz]; try omega) (by
          rcases hA with h0 | ⟨rfl, _, _⟩
          · exact .inl h0
          · exact .inr ⟨_, rfl, fun k u hk => by rw [Addr.add_lit]; exact hus0 k u hk⟩) (by rw [hvl, hsz]) (fun k u hk => by rw [Addr.add_lit]; exact hvs k u hk) hn63 (by rw [hby]; exact hbig)
      obtain ⟨nc, rest, h1, _, h3, h4⟩ := hall 0
      refine ⟨nc, rest, h1, by rw [h3]; simp [Value.cells], fun ty => ?_⟩
      unfold Builtin.append_ at h4 ⊢
      exact h4
    obtain ⟨nc, rest, h1, h2, h3⟩ := key
    refine (ins_end i c vb voff vc w A hnc hn63 h3).mono ?_
    rintro e w' ⟨he, hw⟩
    refine ⟨nc, rest, w.drew, h1, h2, .drew, he, ?_⟩
    rw [hw]; simp
end
theorem shift_get (cc : Array Value) (o : Nat) (us0 vs us : List Value) (h0 : ∀ k u, us0[k]? = some u → cc[o + k]? = some u) (hfit : o + us0.length + vs.length + us.length ≤ cc.size) :
    ∀ k u, (us0 ++ vs ++ us)[k]? = some u → (putC (putC cc (o + us0.length + vs.length) us) (o + us0.length) vs)[o + k]? = some u := by
  intro k u hk
  rw [putC_get, putC_get, putC_size]
  have hlt := (List.getElem?_eq_some_iff.1 hk).1
  simp only [List.length_append] at hlt
  by_cases h1 : k < us0.length
  · rw [if_neg (by omega), if_neg (by omega)]
    rw [List.append_assoc, List.getElem?_append_left h1] at hk
    exact h0 k u hk
  · by_cases h2 : k < us0.length + vs.length
    · rw [if_pos (by omega), show o + k - (o + us0.length) = k - us0.length by omega]
      rw [List.getElem?_append_left (by simp; omega), List.getElem?_append_right (by omega)] at hk
      exact hk
    · rw [if_neg (by omega), if_pos (by omega), show o + k - (o + us0.length + vs.length) = k - (us0.length + vs.length) by omega]
      rw [List.getElem?_append_right (by simp; omega)] at hk
      simpa using hk
theorem insert_callable : Callable Try.prog 33 := ⟨_, Try.func33, by kernel_rfl, by kernel_rfl⟩
theorem insert_sl {H : Heap} {q l lv : Lab} {off n i : Nat} {rs : List (List AV)} {row : List AV} (hl : H l = some (.rows 1 rs)) (hn : off + n ≤ rs.length) (hv : H lv = some (.rows 1 [row])) (hne : l ≠ lv) (hi : i ≤ n) (h48 : (n + 1) * 8 ≤ 140737488355328) (h63 : n + 1 ≤ 4611686018427387904) :
    SoundRes Try.prog 33 [.sl l 1 off n, .int .i64 i, .sl lv 1 0 1] H q ⟨.sl q 1 0 (n + 1), [(q, some (.rows 1 ((rs.drop off).take i ++ [row] ++ (rs.drop (off + i)).take (n - i)))), (l, none)], some [l, lv]⟩ := by
  refine ⟨insert_callable, fun k hk => ?_, fun ρ R vals hvs w hR hfr => ?_⟩
  · obtain ⟨pr, hp, rfl⟩ := hk
    simp at hp
    rcases hp with rfl | rfl
    · exact .inr (.self _)
    · exact .inl (by simp [restr, hl])
  obtain ⟨v0, vals, rfl, hx0, hvs⟩ := hvs.head
  obtain ⟨v1, vals, rfl, hx1, hvs⟩ := hvs.head
  obtain ⟨v2, vals, rfl, hx2, hvs⟩ := hvs.head
  obtain rfl : vals = [] := List.length_eq_zero_iff.1 hvs.1
  cases hx1
  have hqf : ρ q = none := hfr q (.self q)
  have hGl : restr H (some [l, lv]) l = some (.rows 1 rs) := by rw [restr_at (by simp)]; exact hl
  have hGv : restr H (some [l, lv]) lv = some (.rows 1 [row]) := by rw [restr_at (by simp)]; exact hv
  obtain ⟨Lv, Ov, hLv, hOv, hrv⟩ := hR.own lv _ hGv
  obtain ⟨L, O, hL, hO, hr⟩ := hR.own l _ hGl
  have hbn : Lv.blk ≠ L.blk := fun e => hne (hR.sep lv l _ _ Lv L hGv hGl hLv hL e).symm
  cases Ov <;> (have hrv' := hrv; simp only [RepO] at hrv')
  rename_i cv Tv fzv
  obtain ⟨rfl, hvsz, hvrow, hvtop, hvcell⟩ := hrv'
  cases O <;> (have hr' := hr; simp only [RepO] at hr')
  rename_i cc T fz
  obtain ⟨rfl, hsz, hrow, htop, hcell⟩ := hr'
  obtain ⟨hV, hVr⟩ := rowsL_of hrv (off := 0) (n := 1) (by simp)
  generalize ((List.range (1 * 1)).map fun k => cv.getD (Lv.off + 0 * 1 + k) undef) = vs at hV hVr
  have hVl : vs.length = 1 := by rw [hV.1]; simp
  rcases hx2.sl_inv with ⟨L2, vc, hL2, _, _, _, rfl⟩ | ⟨h0, _⟩
  rotate_left
  · cases h0
  rw [hLv] at hL2; cases hL2
  obtain ⟨h0, h0r⟩ := rowsL_of hr (off := off) (n := i) (by omega)
  obtain ⟨hU, hUr⟩ := rowsL_of hr (off := off + i) (n := n - i) (by omega)
  generalize ((List.range (i * 1)).map fun k => cc.getD (L.off + off * 1 + k) undef) = us0 at h0 h0r
  generalize ((List.range ((n - i) * 1)).map fun k => cc.getD (L.off + (off + i) * 1 + k) undef) = us at hU hUr
  have h0l : us0.length = (i) := by rw [h0.1, List.length_take, List.length_drop]; simp; omega
  have hUl : us.length = (n - i) := by rw [hU.1, List.length_take, List.length_drop]; simp; omega
  have hall : RowsL ρ R 1 ((rs.drop off).take i ++ [row] ++ (rs.drop (off + i)).take (n - i)) (us0 ++ vs ++ us) := (h0.append (by simpa using hV)).append hU
  have hlen : ((rs.drop off).take i ++ [row] ++ (rs.drop (off + i)).take (n - i)).length = n + 1 := by simp; omega
  have hvread : ∀ k u, vs[k]? = some u → w.cell? ⟨Lv.blk, Lv.off + 0 * 1 + k, none⟩ = some u := fun k u hk => by rw [cell_at hOv]; exact hVr k u hk
  have huread : ∀ k u, us[k]? = some u → w.cell? ⟨L.blk, L.off + off * 1 + (i) + k, none⟩ = some u := fun k u hk => by
    rw [cell_at hO]
    have := hUr k u hk
    rw [Nat.add_mul] at this
    rw [← this]; congr 1; omega
  have h0read : ∀ k u, us0[k]? = some u → w.cell? ⟨L.blk, L.off + off * 1 + k, none⟩ = some u := fun k u hk => by rw [cell_at hO]; exact h0r k u hk
  have more : ∀ (A : Option Addr) (c : Nat), n ≤ c → c < n + 1 → (n = 0 ∨ A = some ⟨L.blk, L.off + off * 1, none⟩) → callC Try.prog 33 #[.slice A n c, .int .i64 i, .slice (some ⟨Lv.blk, Lv.off + 0 * 1, none⟩) 1 vc] w fun v w' => ∃ ρ' R', Fut (restr H (some [l, lv])) ρ R w (Under q) ρ' R' w' ∧ RepV ρ' R' (.sl q 1 0 (n + 1)) v ∧ Rep (upd [(q, some (.rows 1 ((rs.drop off).take i ++ [row] ++ (rs.drop (off + i)).take (n - i)))), (l, none)] (restr H (some [l, lv]))) ρ' R' w' := by
    intro A c h1 h2 h3
    refine (ins_more L.blk (L.off + off * 1) n c i Lv.blk (Lv.off + 0 * 1) vc cc cv T Tv us vs w A us0 hi h1 h2 h48 h63 (h3.imp id fun e => ⟨e, hbn, hO⟩) h0l h0read hUl huread (hU.one (by decide)) hOv hVl hvread (hV.one (by decide))).mono ?_
    rintro e w' ⟨G, rest, w0, hG, hrest, hlk, rfl, rfl⟩
    have hsz0 : w0.heap.size = w.heap.size := by rw [hlk.heap]
    obtain ⟨hF, hRep⟩ := fut_new (W := Under q) (hlk.rep hR) hqf (Under.self q) (O := .cells ((us0 ++ vs ++ us).toArray ++ rest) 3 (0, 0)) (L := ⟨w0.heap.size, 0, ((us0 ++ vs ++ us).toArray ++ rest).size, ((rs.drop off).take i ++ [row] ++ (rs.drop (off + i)).take (n - i)).length⟩) rfl (repO_rows hall rest _ _)
    refine ⟨_, rfl, _, _, hlk.fut hF, ?_, hRep.drop (fun k ob hk => ?_)⟩
    · have := RepV.sl (ρ := fun k => if k = q then some ⟨w0.heap.size, 0, ((us0 ++ vs ++ us).toArray ++ rest).size, ((rs.drop off).take i ++ [row] ++ (rs.drop (off + i)).take (n - i)).length⟩ else ρ k) (R := R) q 1 0 (n + 1) G _ (if_pos rfl) hG (by
        simp only [Nat.zero_add, Array.size_append, List.size_toArray, List.length_append]
        rw [h0l, hVl, hUl, hrest]; omega) (by rw [hlen]; simp only [Nat.zero_add]; exact hG)
      rw [hsz0] at this
      simpa [hsz0] using this
    · simp only [upd] at hk ⊢
      split at hk
      · rename_i e; rw [if_pos e]; exact hk
      · rename_i e; rw [if_neg e]
        split at hk
        · cases hk
        · exact hk
  show callC Try.prog 33 #[v0, .int .i64 i, _] w _
  rcases hx0.sl_inv with ⟨L3, cap, hL3, hcap, ht, hext, rfl⟩ | ⟨rfl, L3, ad, hL3, hext, rfl⟩
  · rw [hL] at hL3; cases hL3
    rcases Nat.lt_or_ge cap (n + 1) with hlt | hge
    · exact more _ _ hcap hlt (.inr rfl)
    · refine (ins_fit L.blk (L.off + off * 1) n cap i Lv.blk (Lv.off + 0 * 1) vc cc cv T Tv us vs w hi hge h63 hbn hO (by rw [hsz]; rw [Nat.add_mul] at ht; omega) hUl huread (hU.one (by decide)) hOv hVl hvread (hV.one (by decide))).mono ?_
      rintro e w' ⟨rfl, w0, hlk, rfl⟩
      have hroom : L.off + off * 1 + us0.length + vs.length + us.length ≤ cc.size := by rw [h0l, hVl, hUl, hsz]; rw [Nat.add_mul] at ht; omega
      have hget := shift_get cc (L.off + off * 1) us0 vs us h0r hroom
      have e1 : L.off + off * 1 + us0.length + vs.length = L.off + off * 1 + (i + 1) := by rw [h0l, hVl]; omega
      have e2 : L.off + off * 1 + us0.length = L.off + off * 1 + (i) := by rw [h0l]
      rw [e1, e2] at hget
      have hnew : RepO ρ R ⟨L.blk, L.off + off * 1, L.top, n + 1⟩ (.rows 1 ((rs.drop off).take i ++ [row] ++ (rs.drop (off + i)).take (n - i))) (.cells (putC (putC cc (L.off + off * 1 + (i + 1)) us) (L.off + off * 1 + (i)) vs) T (0, 0)) := by
        refine ⟨rfl, by rw [putC_size, putC_size]; exact hsz, hall.2.1, ⟨hlen, ?_⟩, fun ii jj xx hxx => ?_⟩
        · rw [hlen, ← hsz]; rw [h0l, hVl, hUl] at hroom; simp only; omega
        · obtain ⟨v, hv, hvr⟩ := hall.2.2 ii jj xx hxx
          exact ⟨v, hget _ _ hv, hvr⟩
      have hO0 : w0.heap[L.blk]? = some (.cells cc T (0, 0)) := by rw [hlk.heap]; exact hO
      obtain ⟨hF, hRep⟩ := fut_move (W := Under q) (hlk.rep hR) hqf (Under.self q) hGl hL hO0 (L' := ⟨L.blk, L.off + off * 1, L.top, n + 1⟩) rfl hnew
      refine ⟨_, rfl, _, _, hlk.fut hF, ?_, hRep⟩
      have := RepV.sl (ρ := fun k => if k = q then some ⟨L.blk, L.off + off * 1, L.top, n + 1⟩ else ρ k) (R := R) q 1 0 (n + 1) cap _ (if_pos rfl) hge (by simp only; rw [Nat.add_mul] at ht; omega) (by simp only [Nat.zero_add]; exact hge)
      simpa using this
  · exact more _ _ (Nat.le_refl _) (by omega) (.inl rfl)
theorem insert_nil {H : Heap} {q lv : Lab} {row : List AV} (hv : H lv = some (.rows 1 [row])) :
    SoundRes Try.prog 33 [.nils, .int .i64 0, .sl lv 1 0 1] H q ⟨.sl q 1 0 1, [(q, some (.rows 1 [row]))], some [lv]⟩ := by
  refine ⟨insert_callable, fun k hk => by rw [has_one hk]; exact .inr (.self _), fun ρ R vals hvs w hR hfr => ?_⟩
  obtain ⟨v0, vals, rfl, hx0, hvs⟩ := hvs.head
  obtain ⟨v1, vals, rfl, hx1, hvs⟩ := hvs.head
  obtain ⟨v2, vals, rfl, hx2, hvs⟩ := hvs.head
  obtain rfl : vals = [] := List.length_eq_zero_iff.1 hvs.1
  cases hx1
  cases hx0
  have hqf : ρ q = none := hfr q (.self q)
  have hGv : restr H (some [lv]) lv = some (.rows 1 [row]) := by rw [restr_at (by simp)]; exact hv
  obtain ⟨Lv, Ov, hLv, hOv, hrv⟩ := hR.own lv _ hGv
  cases Ov <;> (have hrv' := hrv; simp only [RepO] at hrv')
  rename_i cv Tv fzv
  obtain ⟨rfl, hvsz, hvrow, hvtop, hvcell⟩ := hrv'
  obtain ⟨hV, hVr⟩ := rowsL_of hrv (off := 0) (n := 1) (by simp)
  generalize ((List.range (1 * 1)).map fun k => cv.getD (Lv.off + 0 * 1 + k) undef) = vs at hV hVr
  have hVl : vs.length = 1 := by rw [hV.1]; simp
  rcases hx2.sl_inv with ⟨L2, vc, hL2, _, _, _, rfl⟩ | ⟨h0, _⟩
  rotate_left
  · cases h0
  rw [hLv] at hL2; cases hL2
  have hall : RowsL ρ R 1 [row] vs := by simpa using hV
  have hvread : ∀ k u, vs[k]? = some u → w.cell? ⟨Lv.blk, Lv.off + 0 * 1 + k, none⟩ = some u := fun k u hk => by rw [cell_at hOv]; exact hVr k u hk
  refine (ins_more 0 0 0 0 0 Lv.blk (Lv.off + 0 * 1) vc #[] cv 0 Tv [] vs w none [] (Nat.le_refl _) (Nat.le_refl _) (by decide) (by decide) (by decide) (.inl rfl) (by simp) (fun k u h => by simp at h) (by simp) (fun k u h => by simp at h) (by simp) hOv hVl hvread (hV.one (by decide))).mono ?_
  rintro e w' ⟨G, rest, w0, hG, hrest, hlk, rfl, rfl⟩
  have hsz0 : w0.heap.size = w.heap.size := by rw [hlk.heap]
  obtain ⟨hF, hRep⟩ := fut_new (W := Under q) (hlk.rep hR) hqf (Under.self q) (O := .cells (vs.toArray ++ rest) 3 (0, 0)) (L := ⟨w0.heap.size, 0, (vs.toArray ++ rest).size, 1⟩) rfl (repO_rows hall rest _ _)
  have e0 : ([] ++ vs ++ [] : List Value) = vs := by simp
  rw [e0]
  refine ⟨_, rfl, _, _, hlk.fut hF, ?_, hRep⟩
  have := RepV.sl (ρ := fun k => if k = q then some ⟨w0.heap.size, 0, (vs.toArray ++ rest).size, 1⟩ else ρ k) (R := R) q 1 0 1 G _ (if_pos rfl) hG (by
    simp only [Nat.zero_add, Array.size_append, List.size_toArray]
    rw [hVl, hrest]; omega) (by simp only [Nat.zero_add]; exact hG)
  rw [hsz0] at this
  simpa [hsz0] using this
end Go.Proofs.Ytbngfbpegdcpkaa
