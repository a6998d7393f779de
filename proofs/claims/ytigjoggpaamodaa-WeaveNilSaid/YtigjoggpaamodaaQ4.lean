/- Texts of the proof, joined. -/
import Derived.Test.YtigjoggpaamodaaQ3
import Derived.Test.YtigjoggpaamodaaProg
import Derived.KernelRfl
import Derived.Shelf.RegionOpenPlain
import Derived.WalkKit
import Derived.Lib.Walk
import Derived.Lib.SliceRun
import Derived.Lib.JoinLaws
import Derived.Lib.Overlaps
import Derived.Lib.AppendZerosOnto
import Derived.Laws.Externs
import Derived.Laws.IdiomCopy
import Derived.Shelf.Spec.SlicesInsert
/-! weave: Elements. -/
namespace Go.Proofs.Ytigjoggpaamodaa
set_option linter.unusedVariables false
set_option linter.unusedSimpArgs false
set_option maxRecDepth 100000
def cW (ys : List AV) : List (List AV) := ys.map AV.cells
theorem own_one {H : aB} {x : AV} {e : Nat} {rows : List (List AV)} (h : Own H x e rows) : x.cells = [x] ∧ x.one = true := by
  rcases h with ⟨rfl, _⟩ | ⟨l, rfl, _⟩ <;> exact ⟨rfl, rfl⟩
theorem elRows_ok {ys : List AV} (h : ∀ x ∈ ys, ElemOk x) : ∀ r ∈ cW ys, gC 6 r := by
  intro r hr
  obtain ⟨x, hx, rfl⟩ := List.mem_map.1 hr
  obtain ⟨cs, rfl, h1, h2⟩ := (h x hx).cells
  exact ⟨h1, fun y hy => List.all_eq_true.1 h2 y hy⟩
theorem appendSeq_sound {gf : Nat} {caps ys : List AV} {F H : aB} {q : Lab} (hI : tB Try.prog gf caps ys F) (hF : Sub F H) (hok : ∀ x ∈ ys, ElemOk x) (hlen : ys.length ≤ 1000000000) (hf : Fresh q 0 H) : aK Try.prog 67 [.nils, .fn (.func gf) [] caps] H q ⟨.isl 6 (cW ys), [], none⟩ := by
  refine gL Try.mixed ok67 rfl (fun l hl => absurd hl (aF l)) ?_
  show vc Try.prog q _ (VR H _ _ _) _ H 0
  simp only [params, Nat.zero_add, Nat.reduceAdd]
  simp (disch := omega) only [vsb, j9, reduceIte, AV.cells, putL, bF, Nat.reduceAdd, Nat.reduceDiv, Nat.reduceMod, AV.one, Nat.reduceLeDiff, Nat.reduceEqDiff, sJ, jY, kZ, uM, oO, qO, V67, qN, rW, rI, pA]
  have hn : ∀ k : Nat, H (k :: q) = none := fun k => hf.at (by omega)
  generalize hH1 : upd [(0 :: q, some (AO.rows 1 [[AV.nils]]))] H = H1
  have hf1 : Fresh q 3 H1 := by subst hH1; exact (hf.mono (by omega)).more (by omega)
  have hs1 : Sub H H1 := fun l o hl => by
    have : l ≠ 0 :: q := fun e => by rw [e, hn] at hl; cases hl
    subst hH1; simp [upd, this, hl]
  have a0 : H1 (0 :: q) = some (.rows 1 [[.nils]]) := by subst hH1; simp [upd]
  let G : aB := upd [(0 :: q, some (.rows 1 [[.nils]]))] fun _ => none
  have hG : Sub G H1 := fun l o hl => by
    simp only [G, upd] at hl
    split at hl
    · rename_i e; subst e; rw [a0]; exact hl
    · cases hl
  have hGn : ∀ l, l ≠ 0 :: q → G l = none := fun l h => by simp [G, upd, h]
  refine qP (F := F) (G := G) (ys := ys) rfl hI rfl
    (fun i G' => ∃ x, G' (0 :: q) = some (.rows 1 [[x]]) ∧ Own G' x 6 (cW (ys.take i)))
    (fun e G' => False)
    ⟨.nils, by simp [G, upd], by simpa [cW] using Own.nils⟩ hG (hF.trans hs1) (fun l hl => hGn l (fun e => hl (by rw [e]; exact hF.nil (hn 0)))) hf1 ?_ ?_ ?_
  · rintro i x G' q' hx ⟨xs, g0, hown⟩ hf'
    obtain ⟨a, b, c, d, e, u, rfl, hu⟩ := hok x (List.mem_of_getElem? hx)
    have h16 : [AV.int .i64 a, AV.int .i64 b, AV.int .i64 c, AV.int .i64 d, AV.int .i64 e, u].all AV.one = true := by simp only [List.all_cons, hu, List.all_nil]; rfl
    have hu' := hu
    simp only [AV.one] at hu'
    show vc Try.prog q' tS _ [(2, .ptr (0 :: q) 1 0 0), (4, .nils), (6, .fn (.func gf) [] caps), (7, .agg [.int .i64 a, .int .i64 b, .int .i64 c, .int .i64 d, .int .i64 e, u])] G' 0
    have n0 : (0 :: q : Lab) ≠ 0 :: q' := fun he => by
      have := hf'.at (k := 0) (by omega)
      rw [← he, g0] at this; cases this
    rw [oO]
    unfold qN
    dsimp only
    refine s4 (row := [.int .i64 0, .int .i64 0, .int .i64 0, .int .i64 0, .int .i64 0, .nils]) (by simp [upd]) rfl rfl h16 ?_
    have hff : Fresh q' 1 (upd [(0 :: q', some (AO.rows 6 [(AV.agg [.int .i64 a, .int .i64 b, .int .i64 c, .int .i64 d, .int .i64 e, u]).cells]))] (upd [(0 :: q', some (.rows 6 [[.int .i64 0, .int .i64 0, .int .i64 0, .int .i64 0, .int .i64 0, .nils]]))] G')) :=
      ((hf'.mono (by omega)).more (by omega)).more (by omega)
    generalize hG2 : upd [(0 :: q', some (AO.rows 6 [(AV.agg [.int .i64 a, .int .i64 b, .int .i64 c, .int .i64 d, .int .i64 e, u]).cells]))] (upd [(0 :: q', some (.rows 6 [[.int .i64 0, .int .i64 0, .int .i64 0, .int .i64 0, .int .i64 0, .nils]]))] G') = G2 at hff ⊢
    have c0 : G2 (0 :: q) = some (.rows 1 [[xs]]) := by rw [← hG2, d6 n0, bL, d6 n0, bL]; exact g0
    have ce : G2 (0 :: q') = some (.rows 6 [[.int .i64 a, .int .i64 b, .int .i64 c, .int .i64 d, .int .i64 e, u]]) := by rw [← hG2, jA]; rfl
    have hown2 : Own G2 xs 6 (cW (ys.take i)) := by
      rw [← hG2]
      exact (hown.grow (hf'.at (by omega))).store (hown.out (hf'.at (by omega)))
    clear hG2
    simp (disch := omega) only [vsb, j9, reduceIte, AV.cells, putL, bF, Nat.reduceAdd, Nat.reduceDiv, Nat.reduceMod, AV.one, Nat.reduceLeDiff, Nat.reduceEqDiff, sJ, jY, kZ, uM, oO, qO, V67, qN, rW, rI, pA, c0, ce, hu']
    have hil := (List.getElem?_eq_some_iff.1 hx).1
    have hlr : (cW (ys.take i)).length = i := by simp [cW]; omega
    refine push_own hown2 (hff.mono (show 1 ≤ 4 by omega)) (Nat.le_refl _) (by omega) (by omega) (by rw [hlr]; omega) (by rw [hlr]; omega) fun x' H8 l8 f8 hown8 hf8 hk8 => ?_
    have c8 : H8 (0 :: q) = some (.rows 1 [[xs]]) := hk8 _ _ c0 (nolab (hown2.ne c0 (by decide)))
    obtain ⟨o1, o2⟩ := own_one hown8
    rw [c8, oR]
    refine ⟨by rw [o1]; rfl, ⟨by simp, by rw [o1]; simp [o2]⟩, ?_⟩
    rw [o1]
    simp only [putL, List.take_zero, List.nil_append, List.length_cons, List.length_nil, List.drop_succ_cons, List.drop_nil, List.append_nil]
    refine .inl ⟨rfl, x', by simp [upd], ?_⟩
    have e1 : cW (ys.take (i + 1)) = cW (ys.take i) ++ [[.int .i64 a, .int .i64 b, .int .i64 c, .int .i64 d, .int .i64 e, u]] := by
      rw [List.take_add_one, hx]; simp [cW, AV.cells]
    rw [e1]
    exact hown8.store (hown8.ne c8 (by decide))
  · rintro G' H' ⟨xs, g0, hown⟩ hM hfr'
    have d0 := hM.sub _ _ g0
    rw [kZ]
    simp (disch := omega) only [vsb, j9, reduceIte, AV.cells, putL, bF, Nat.reduceAdd, Nat.reduceDiv, Nat.reduceMod, AV.one, Nat.reduceLeDiff, Nat.reduceEqDiff, sJ, jY, kZ, uM, oO, qO, V67, qN, rW, rI, pA, d0]
    rw [List.take_of_length_le (Nat.le_refl _)] at hown
    have hown' : Own H' xs 6 (cW ys) := hown.keep fun l o _ h => hM.sub l o h
    refine ⟨.inr rfl, xs, by simp [cZ, dN, eV, aI], Fr.own_at hown' (fun l hl => ⟨?_, by rw [hown'.lab hl]; simp⟩) (elRows_ok hok), fun l o hl => ?_⟩
    · have h1 := hown.lab hl
      rw [bL]
      cases hx : H l with
      | none => rfl
      | some o =>
        have h2 := hs1 l o hx
        rcases hM.new l (by rw [h1]; simp) with g | g
        · have : l = 0 :: q := by
            refine Classical.byContradiction fun hne => g (hGn l hne)
          rw [this, hn] at hx; cases hx
        · rw [h2] at g; cases g
    · have hne1 : l ≠ 0 :: q := fun e => by rw [e] at hl; rw [bL, hn] at hl; cases hl
      exact hM.kept l o (hs1 l o hl) (hGn l hne1)
  · rintro e G' H' hX _ hM hfr'
    exact hX.elim
theorem collect_sound {gf : Nat} {caps ys : List AV} {F H : aB} {q : Lab} (hI : tB Try.prog gf caps ys F) (hF : Sub F H) (hok : ∀ x ∈ ys, ElemOk x) (hlen : ys.length ≤ 1000000000) (hf : Fresh q 0 H) : aK Try.prog 56 [.fn (.func gf) [] caps] H q ⟨.isl 6 (cW ys), [], none⟩ := by
  refine gL Try.mixed ok56 rfl (fun l hl => absurd hl (aF l)) ?_
  show vc Try.prog q _ (VR H _ _ _) _ H 0
  simp only [params, Nat.zero_add, Nat.reduceAdd]
  rw [vt56]
  unfold V56
  refine mS (appendSeq_sound hI hF hok hlen ?_) ⟨.inr rfl, _, rfl, .refl _, fun l o hl => hl⟩
  exact fun k s hk => by
    have := hf (0 + 2) (s ++ [k]) (by omega)
    simpa using this
theorem elements_nil : kD Try.prog 22 [.nilp] .nils := by
  refine rE Try.mixed uP rfl (fun q => ?_)
  simp only [params, Nat.zero_add, Nat.reduceAdd]
  repeat' (first | (simp (disch := omega) only [vsb, j9, reduceIte, AV.cells, putL, bF, Nat.reduceAdd, Nat.reduceDiv, Nat.reduceMod, AV.one, Nat.reduceLeDiff, Nat.reduceEqDiff, sK, uN, V22, rN, rM, rK, rL, rJ, fJ, fI]) | (refine tR (fun _ => ?_) (fun _ => ?_)) | (refine tP (fun _ => ?_) (fun _ => ?_)) | (refine q6 (fun _ => ?_) (fun _ => ?_)) | (refine pP (fun _ => ?_) (fun _ => ?_)) | (refine And.intro (gS rfl) ?_) | (refine rR (fun _ => ?_) ?_) | (exfalso; omega; done))
  exact vp1 rfl
theorem elements_sound {H : aB} {q ll : Lab} {n : Nat} {ys : List AV} (hw : e9 H ll n (0, 0) = some ys) (hlen : ys.length ≤ 1000000000) (hf : Fresh q 0 H) : aK Try.prog 22 [.ptr ll 1 0 0] H q ⟨.isl 6 (cW ys), [], none⟩ := by
  refine gL Try.mixed uP rfl (fun l hl => absurd hl (aF l)) ?_
  show vc Try.prog q _ (VR H _ _ _) _ H 0
  simp only [params, Nat.zero_add, Nat.reduceAdd]
  simp (disch := omega) only [vsb, j9, reduceIte, AV.cells, putL, bF, Nat.reduceAdd, Nat.reduceDiv, Nat.reduceMod, AV.one, Nat.reduceLeDiff, Nat.reduceEqDiff, sK, uN, V22, rN, rM, rK, rL, rJ, fJ, fI]
  refine fT (j3 (k := (0, 0)) rfl rfl) (hf.mono (by omega)) fun H1 hH1 hf1 => ?_
  have hs1 : Sub H H1 := fun l o hl => by
    have hne2 : ∀ j k : Nat, l ≠ j :: k :: q := fun j k e => by
      have := hf k [j] (by omega)
      rw [e] at hl
      simp only [List.cons_append, List.nil_append] at this
      rw [this] at hl; cases hl
    rw [hH1]
    simp [upd, hne2, hl]
  have b0 : H1 (0 :: 5 :: q) = some (.rows 1 [[.ptr ll 1 0 0]]) := by rw [hH1]; simp [upd]
  have b1 : H1 (1 :: 5 :: q) = some (.rows 2 [[.int .i64 0, .int .i64 0]]) := by rw [hH1]; simp [upd]
  clear hH1
  simp (disch := omega) only [vsb, j9, reduceIte, AV.cells, putL, bF, Nat.reduceAdd, Nat.reduceDiv, Nat.reduceMod, AV.one, Nat.reduceLeDiff, Nat.reduceEqDiff, sK, uN, V22, rN, rM, rK, rL, rJ, fJ, fI]
  refine mS (collect_sound (j6 (ll := ll) (k := (0, 0)) b0 b1 (i7 hs1 hw)) .refl (fun x hx => kY hw x hx) hlen ?_) ?_
  · exact fun k s hk => by
      have := hf1 6 (s ++ [k]) (by omega)
      simpa using this
  · exact ⟨.inr rfl, _, rfl, .refl _, fun l o hl => hs1 l o hl⟩
end Go.Proofs.Ytigjoggpaamodaa
/-! Joined texts. -/
namespace Go.Proofs.Ytigjoggpaamodaa
set_option linter.unusedVariables false
set_option linter.unusedSimpArgs false
set_option maxRecDepth 100000
/-! slices.Insert, walked: what becomes of memory. -/
section
open Go.RowKit Go.Lib
theorem dW {P : Program} {dT sT ty E : TypeId} {i : TypeInfo} (hd : P.underlying dT = some (.slice E)) (hi : P.info? E = some i) (b o dLen dCap : Nat) (a : Addr) (sLen sCap : Nat) (us : List Value) (w : World) (k : Nat) (hk : k = Nat.min sLen dLen) (hlen : us.length = k * i.size)
    (hus : ∀ j u, us[j]? = some u → w.cell? (a.add j) = some u) (hone : ∀ v ∈ us, v.oneCell' = true) (cc : Array Value) (T' : TypeId) (hb : w.heap[b]? = some (.cells cc T' (0, 0))) (hfit : o + us.length ≤ cc.size) :
    (Builtin.copy_ #[dT, sT] ty #[.slice (some ⟨b, o, none⟩) dLen dCap, .slice (some a) sLen sCap]).run P w = .ok (goInt k) (w.setB b (.cells (bH cc o us) T' (0, 0))) := by
  have hf := run_firstCells_some (P := P) w i.size k a sLen sCap us hlen hus
  have hs := b7 (P := P) us w b o 0 cc T' hb hone (by omega)
  simp only [Nat.add_zero] at hs
  simp [Builtin.copy_, aA hd, aJ hi, Builtin.lenOf, ← hk, hf, a8, hs]
theorem kG {w : World} {b : Nat} {c : Array Value} {T : TypeId} {fz : Nat × Nat} (h : w.heap[b]? = some (.cells c T fz)) : w.shape? b = some (T, c.size) := by simp [World.shape?, h]
theorem jL {w : World} {b : Nat} {c : Array Value} {T : TypeId} (h : w.heap[b]? = some (.cells c T (0, 0))) (o : Nat) (s : Option Nat) : w.frozen? ⟨b, o, s⟩ = false := by simp [World.frozen?, h]
theorem info_el : ∃ I, Try.prog.info? 24 = some I ∧ I.size = 2 ∧ I.bytes = 16 := by
  have h : (Try.prog.info? 24).map (fun i => (i.size, i.bytes)) = some (2, 16) := by kernel_rfl
  cases hq : Try.prog.info? 24 with
  | none => rw [hq] at h; cases h
  | some I => rw [hq] at h; simp only [Option.map_some, Option.some.injEq, Prod.mk.injEq] at h; exact ⟨I, rfl, h.1, h.2⟩
theorem gQ : ∃ I, Try.prog.info? 24 = some I ∧ I.zero = some (Value.agg #[Value.int .i64 0, Value.int .i64 0]) ∧ I.size = 2 ∧ I.bytes = 16 := info_parts (by kernel_rfl)
section
set_option maxHeartbeats 4000000
variable (b off n c i vb voff vc : Nat) (cc cv : Array Value) (T Tv : TypeId) (us vs : List Value) (w : World)
theorem overlaps_no (lb cb la ca oa ob : Nat) (hvb : vb ≠ b) (hb : w.heap[b]? = some (.cells cc T (0, 0))) (hv : w.heap[vb]? = some (.cells cv Tv (0, 0))) (h0 : cc.size ≠ 0) :
    (callFunc 64 #[.slice (some ⟨vb, oa, none⟩) la ca, .slice (some ⟨b, ob, none⟩) lb cb]).run Try.prog w = .ok (.value (.bool false)) w := by
  rw [run_callFunc_extern Try.func64 (by kernel_rfl) (by kernel_rfl) (by kernel_rfl) (e := Extern.SlicesOverlaps.overlaps #[41, 41] #[4]) (by kernel_rfl),
    Lib.run_overlaps_apart w 41 4 24 Try.underlying41 2 (fun w => by kernel_rfl) ⟨vb, oa, none⟩ ⟨b, ob, none⟩ la ca lb cb hvb Tv T cv.size cc.size (kG hv) (kG hb) h0 (jL hv _ _) (jL hv _ _)]
  rfl
theorem ins_shift (hi : i < n) (hroom : n + 1 ≤ c) (hn63 : n + 1 ≤ 4611686018427387904) (hvb : vb ≠ b) (hb : w.heap[b]? = some (.cells cc T (0, 0))) (hfit : off + (c) * 2 ≤ cc.size)
    (hul : us.length = (n - i) * 2) (hus : ∀ k u, us[k]? = some u → w.cell? ⟨b, off + (i) * 2 + k, none⟩ = some u) (h1u : ∀ v ∈ us, v.oneCell' = true)
    (hv : w.heap[vb]? = some (.cells cv Tv (0, 0))) (hvl : vs.length = 2) (hvs : ∀ k u, vs[k]? = some u → w.cell? ⟨vb, voff + k, none⟩ = some u) (h1v : ∀ v ∈ vs, v.oneCell' = true) :
    Calls Try.prog 51 #[.slice (some ⟨b, off, none⟩) n c, .int .i64 i, .slice (some ⟨vb, voff, none⟩) 1 vc] w fun e w' =>
      e = .returned (.slice (some ⟨b, off, none⟩) (n + 1) c) ∧ w' = w.drew.setB b (.cells (bH (bH cc (off + (i + 1) * 2) us) (off + (i) * 2) vs) T (0, 0)) := by
  have hz2 : ¬ ((i : Int) = (n : Int)) := by omega
  have hw1 : IntKind.i64.wrap ((i : Int) + 1) = (i : Int) + 1 := by rw [IntKind.wrap_i64]; omega
  have hw2 : IntKind.i64.wrap ((n : Int) + 1) = (n : Int) + 1 := by rw [IntKind.wrap_i64]; omega
  have hov : ∀ lb cb, (callFunc 64 #[.slice (some ⟨vb, voff, none⟩) 1 vc, .slice (some ⟨b, off + (i + 1) * 2, none⟩) lb cb]).run Try.prog w = .ok (.value (.bool false)) w := fun lb cb => overlaps_no (b := b) (vb := vb) (cc := cc) (cv := cv) (T := T) (Tv := Tv) (w := w) _ _ _ _ _ _ hvb hb hv (by omega)
  obtain ⟨I, hinfo, hsz, hby⟩ := info_el
  have hcp1 : ∀ ty dc sc, (Builtin.copy_ #[41, 41] ty #[.slice (some ⟨b, off + (i + 1) * 2, none⟩) (n - i) dc, .slice (some ⟨b, off + (i) * 2, none⟩) (n + 1 - i) sc]).run Try.prog w.drew = .ok (goInt (n - i : Nat)) (w.drew.setB b (.cells (bH cc (off + (i + 1) * 2) us) T (0, 0))) := fun ty dc sc =>
    dW Try.underlying41 hinfo b _ _ dc ⟨b, off + (i) * 2, none⟩ _ sc us w.drew (n - i) (by simp only [Nat.min_def]; split <;> omega) (by rw [hul, hsz]; try omega) (fun j u hj => by rw [Addr.add_lit]; exact hus j u hj) h1u cc T hb (by rw [hul]; omega)
  have hb2 : (w.drew.setB b (.cells (bH cc (off + (i + 1) * 2) us) T (0, 0))).heap[b]? = some (.cells (bH cc (off + (i + 1) * 2) us) T (0, 0)) := g7 (w := w.drew) hb _
  have hcp2 : ∀ (W : World), W = w.drew.setB b (.cells (bH cc (off + (i + 1) * 2) us) T (0, 0)) → ∀ ty dc, (Builtin.copy_ #[41, 41] ty #[.slice (some ⟨b, off + (i) * 2, none⟩) (n + 1 - i) dc, .slice (some ⟨vb, voff, none⟩) 1 vc]).run Try.prog W = .ok (goInt (1 : Nat)) (W.setB b (.cells (bH (bH cc (off + (i + 1) * 2) us) (off + (i) * 2) vs) T (0, 0))) := fun W hW ty dc =>
    dW Try.underlying41 hinfo b _ _ dc ⟨vb, voff, none⟩ _ vc vs W 1 (by simp only [Nat.min_def]; split <;> omega) (by rw [hvl, hsz]) (fun j u hj => by
      rw [Addr.add_lit, hW]
      have := hvs j u hj
      unfold World.cell? at this ⊢
      rw [b6 _ _ hvb]; exact this) h1v _ T (by rw [hW]; exact hb2) (by rw [bB, hvl]; omega)
  have hb1 : (0 : Int) ≤ (i : Int) + 1 := by omega
  have hin : i ≤ n := by omega
  have hci1 : ¬ (c = i + 1) := by omega
  have hci : ¬ (c = i) := by omega
  have hb3 : (i : Int) ≤ (n : Int) + 1 := by omega
  have htn : ((i : Int) + 1).toNat = i + 1 := by omega
  have mixed : Try.prog.follows .mixedOrders = true := by kernel_rfl
  go_enter Try.func51, Try.ntmps51
  go_wp2_with (simp only [hov])
  go_region_law_o (refine step_copy_runI rfl _ _ 41 41 rfl _ _ (by simp [Act.eval, Act.put]) (by simp [Act.eval, Act.put]) (hcp1 _ _ _) ?_)
  go_wp2_with (at_builtin; refine wpList_copy_runI _ rfl _ _ 41 41 rfl _ _ rfl rfl (hcp2 _ rfl _ _) ?_)
  go_ret
  exact ⟨rfl, by rw [gZ]⟩
theorem alloc_setB (w : World) (O O' : Obj) : (w.alloc O).setB w.heap.size O' = w.alloc O' := by
  have h : (w.heap.push O).setIfInBounds w.heap.size O' = w.heap.push O' := by
    apply Array.ext_getElem?
    intro j
    simp only [Array.getElem?_setIfInBounds, Array.getElem?_push, Array.size_push]
    by_cases e : w.heap.size = j
    · simp [e]
    · simp [e, Ne.symm e]
  unfold World.alloc World.setB
  simp only [h]
theorem ins_row (us0 zs vs us : List Value) (rest : Array Value) (h : zs.length = vs.length + us.length) : bH (bH ((us0 ++ zs).toArray ++ rest) us0.length vs) (us0.length + vs.length) us = (us0 ++ vs ++ us).toArray ++ rest := by
  apply Array.ext_getElem?
  intro j
  rw [cL, cL, bB]
  simp only [Array.size_append, List.size_toArray, List.length_append]
  by_cases h1 : j < us0.length
  · rw [if_neg (by omega), if_neg (by omega), Array.getElem?_append_left (by simp; omega), Array.getElem?_append_left (by simp; omega)]
    simp only [List.getElem?_toArray]
    rw [List.getElem?_append_left h1, List.append_assoc, List.getElem?_append_left h1]
  · by_cases h2 : j < us0.length + vs.length
    · rw [if_neg (by omega), if_pos (by omega), Array.getElem?_append_left (by simp; omega)]
      simp only [List.getElem?_toArray]
      rw [List.getElem?_append_left (by simp; omega), List.getElem?_append_right (by omega)]
    · by_cases h3 : j < us0.length + vs.length + us.length
      · rw [if_pos (by omega), Array.getElem?_append_left (by simp; omega)]
        simp only [List.getElem?_toArray]
        rw [List.getElem?_append_right (by simp; omega)]
        congr 1
        simp
      · rw [if_neg (by omega), if_neg (by omega), Array.getElem?_append_right (by simp; omega), Array.getElem?_append_right (by simp; omega)]
        congr 1
        simp only [List.size_toArray, List.length_append]
        omega
theorem ins_grow (us0 : List Value) (hi : i < n) (hnc : n ≤ c) (hroom : c < n + 1) (hbig : (n + 1) * 16 ≤ 140737488355328) (hn63 : n + 1 ≤ 4611686018427387904) (hvb : vb ≠ b) (hb : w.heap[b]? = some (.cells cc T (0, 0)))
    (hu0 : us0.length = (i) * 2) (hus0 : ∀ k u, us0[k]? = some u → w.cell? ⟨b, off + k, none⟩ = some u)
    (hul : us.length = (n - i) * 2) (hus : ∀ k u, us[k]? = some u → w.cell? ⟨b, off + (i) * 2 + k, none⟩ = some u) (h1u : ∀ v ∈ us, v.oneCell' = true)
    (hv : w.heap[vb]? = some (.cells cv Tv (0, 0))) (hvl : vs.length = 2) (hvs : ∀ k u, vs[k]? = some u → w.cell? ⟨vb, voff + k, none⟩ = some u) (h1v : ∀ v ∈ vs, v.oneCell' = true) :
    ∃ (G : Nat) (rest : Array Value), n + 1 ≤ G ∧ rest.size = (G - (n + 1)) * 2 ∧ Calls Try.prog 51 #[.slice (some ⟨b, off, none⟩) n c, .int .i64 i, .slice (some ⟨vb, voff, none⟩) 1 vc] w fun e w' =>
      e = .returned (.slice (some ⟨w.heap.size, 0, none⟩) (n + 1) G) ∧ w' = w.drew.drew.alloc (.cells ((us0 ++ vs ++ us).toArray ++ rest) 24) := by
  obtain ⟨I, hinfo, hz, hsz, hby⟩ := gQ
  have hbw : b < w.heap.size := (Array.getElem?_eq_some_iff.1 hb).1
  have hvw : vb < w.heap.size := (Array.getElem?_eq_some_iff.1 hv).1
  have hz2 : ¬ ((i : Int) = (n : Int)) := by omega
  have hz3 : (c : Int) < (n : Int) + 1 := by omega
  have hkk : (n : Int) + 1 - (i : Int) = ((n + 1 - i : Nat) : Int) := by omega
  have hik : i + (n + 1 - i) = n + 1 := by omega
  have hold : (Builtin.firstCells I.size i (.slice (some ⟨b, off, none⟩) i c)).run Try.prog w.drew = .ok us0.toArray w.drew :=
    run_firstCells_some w.drew I.size i ⟨b, off, none⟩ i c us0 (by rw [hu0, hsz]; try omega) (fun j v hj => by rw [Addr.add_lit]; exact hus0 j v hj)
  have hrz : ∀ ty, (Builtin.append_ #[41, 3] ty #[.slice (some ⟨b, off, none⟩) i c, .int .i64 ((n : Int) + 1 - (i : Int))]).run Try.prog w =
      .ok (.slice (some ⟨w.heap.size, 0, none⟩) (n + 1) (grownCap w (n + 1) c 24)) (w.drew.alloc (.cells (us0.toArray ++ Builtin.zeroCells (Value.agg #[Value.int .i64 0, Value.int .i64 0]).cells (n + 1 - i) ++ Builtin.zeroCells (Value.agg #[Value.int .i64 0, Value.int .i64 0]).cells (grownCap w (n + 1) c 24 - (n + 1))) 24)) := fun ty => by
    have h := Lib.run_append_grow_zeros (P := Try.prog) w 41 3 ty 24 I _ .i64 .i64 Try.underlying41 Try.underlying3 hinfo hz (some ⟨b, off, none⟩) i c us0 hold (n + 1 - i) (by omega) (by omega) (by omega) (by omega) (by rw [hby]; omega) (by rw [hby, hik]; exact growslice_fits hroom hbig)
    rw [hik] at h
    rw [hkk]
    exact h
  obtain ⟨G, hG⟩ : ∃ G, G = grownCap w (n + 1) c 24 := ⟨_, rfl⟩
  obtain ⟨zs, hzs⟩ : ∃ zs : List Value, zs = (Builtin.zeroCells (Value.agg #[Value.int .i64 0, Value.int .i64 0]).cells (n + 1 - i)).toList := ⟨_, rfl⟩
  obtain ⟨rest, hrest⟩ : ∃ rest : Array Value, rest = Builtin.zeroCells (Value.agg #[Value.int .i64 0, Value.int .i64 0]).cells (G - (n + 1)) := ⟨_, rfl⟩
  rw [← hG, ← hrest] at hrz
  have hzl : zs.length = vs.length + us.length := by rw [hzs, hvl, hul]; simp [Builtin.zeroCells, Value.cells]; omega
  have hROW : us0.toArray ++ Builtin.zeroCells (Value.agg #[Value.int .i64 0, Value.int .i64 0]).cells (n + 1 - i) ++ rest = (us0 ++ zs).toArray ++ rest := by rw [hzs]; apply Array.ext'; simp
  rw [hROW] at hrz
  have hGn : n + 1 ≤ G := by rw [hG]; exact grownCap_ge w _ _ _
  refine ⟨G, rest, hGn, by rw [hrest]; simp [Builtin.zeroCells, Value.cells], ?_⟩
  obtain ⟨ROW, hR⟩ : ∃ ROW, ROW = (us0 ++ zs).toArray ++ rest := ⟨_, rfl⟩
  obtain ⟨W1, hW1⟩ : ∃ W1, W1 = w.drew.alloc (.cells ROW 24) := ⟨_, rfl⟩
  rw [← hR, ← hW1] at hrz
  have hRs : ROW.size = us0.length + zs.length + rest.size := by rw [hR]; simp
  have h1 : W1.heap[w.heap.size]? = some (.cells ROW 24 (0, 0)) := by rw [hW1]; exact Array.getElem?_push_size
  have hold1 : ∀ k, k < w.heap.size → W1.heap[k]? = w.heap[k]? := fun k hk => by rw [hW1]; show (w.heap.push _)[k]? = _; rw [Array.getElem?_push, if_neg (by omega)]
  have hcpA : ∀ (W : World), W.heap = W1.heap → ∀ ty dc, (Builtin.copy_ #[41, 41] ty #[.slice (some ⟨w.heap.size, (i) * 2, none⟩) (n + 1 - i) dc, .slice (some ⟨vb, voff, none⟩) 1 vc]).run Try.prog W = .ok (goInt (1 : Nat)) (W.setB w.heap.size (.cells (bH ROW ((i) * 2) vs) 24 (0, 0))) := fun W hW ty dc =>
    dW Try.underlying41 hinfo _ _ _ dc ⟨vb, voff, none⟩ _ vc vs W 1 (by simp only [Nat.min_def]; split <;> omega) (by rw [hvl, hsz]) (fun j u hj => by
      rw [Addr.add_lit]
      have := hvs j u hj
      unfold World.cell? at this ⊢
      simp only at this ⊢
      rw [hW, hold1 _ hvw]; exact this) h1v ROW _ (by rw [hW]; exact h1) (by rw [hRs, hu0, hzl, hvl]; omega)
  have hcpB : ∀ (W : World), W.heap = (W1.setB w.heap.size (.cells (bH ROW ((i) * 2) vs) 24 (0, 0))).heap → ∀ ty dc sc, (Builtin.copy_ #[41, 41] ty #[.slice (some ⟨w.heap.size, (i + 1) * 2, none⟩) (n - i) dc, .slice (some ⟨b, off + (i) * 2, none⟩) (n - i) sc]).run Try.prog W = .ok (goInt (n - i : Nat)) (W.setB w.heap.size (.cells (bH (bH ROW ((i) * 2) vs) ((i + 1) * 2) us) 24 (0, 0))) := fun W hW ty dc sc =>
    dW Try.underlying41 hinfo _ _ _ dc ⟨b, off + (i) * 2, none⟩ _ sc us W (n - i) (by simp) (by rw [hul, hsz]; try omega) (fun j u hj => by
      rw [Addr.add_lit]
      have := hus j u hj
      unfold World.cell? at this ⊢
      simp only at this ⊢
      rw [hW, b6 _ _ (by omega), hold1 _ hbw]; exact this) h1u _ _ (by rw [hW]; exact g7 h1 _) (by rw [bB, hRs, hu0, hzl, hul, hvl]; omega)
  have hb1 : (0 : Int) ≤ (i : Int) + 1 := by omega
  have hin : i ≤ n := by omega
  have hci : ¬ (c = i) := by omega
  have hGi : ¬ (G = i) := by omega
  have hGi1 : ¬ (G = i + 1) := by omega
  have hb3 : (i : Int) ≤ (n : Int) + 1 := by omega
  have htn : ((i : Int) + 1).toNat = i + 1 := by omega
  have hw1 : IntKind.i64.wrap ((i : Int) + 1) = (i : Int) + 1 := by rw [IntKind.wrap_i64]; omega
  have hw2 : IntKind.i64.wrap ((n : Int) + 1) = (n : Int) + 1 := by rw [IntKind.wrap_i64]; omega
  have hw3 : IntKind.i64.wrap ((n : Int) + 1 - (i : Int)) = (n : Int) + 1 - (i : Int) := by rw [IntKind.wrap_i64]; omega
  have hfin : (((W1.setB w.heap.size (.cells (bH ROW ((i) * 2) vs) 24 (0, 0))).drew).setB w.heap.size (.cells (bH (bH ROW ((i) * 2) vs) ((i + 1) * 2) us) 24 (0, 0))) = w.drew.drew.alloc (.cells ((us0 ++ vs ++ us).toArray ++ rest) 24) := by
    have e1 := ins_row us0 zs vs us rest hzl
    have e2 : us0.length + vs.length = (i + 1) * 2 := by rw [hu0, hvl]; try omega
    rw [← hR, e2, hu0] at e1
    rw [e1, hW1]
    exact (gZ (w.drew.alloc (.cells ROW 24)).drew w.heap.size _ _).trans (alloc_setB w.drew.drew _ _)
  obtain ⟨CA, hCA⟩ : ∃ CA, CA = bH ROW ((i) * 2) vs := ⟨_, rfl⟩
  obtain ⟨CB, hCB⟩ : ∃ CB, CB = bH CA ((i + 1) * 2) us := ⟨_, rfl⟩
  rw [← hCA] at hcpA hcpB hfin
  rw [← hCB] at hcpB hfin
  clear hCA hCB hkk hik hold hROW hG hRs hR hW1 hzs hrest h1 hold1 hzl
  have mixed : Try.prog.follows .mixedOrders = true := by kernel_rfl
  go_enter Try.func51, Try.ntmps51
  go_wp2_with (first
    | (at_builtin; refine Lib.wpList_append_run _ rfl _ _ _ _ rfl _ _ rfl rfl _ _ (hrz _) ?_)
    | (at_builtin; refine wpList_copy_runI _ rfl _ _ 41 41 rfl _ _ rfl rfl (hcpA _ rfl _ _) ?_))
  go_region_law_o (refine step_copy_runI rfl _ _ 41 41 rfl (.slice (some ⟨w.heap.size, (i + 1) * 2, none⟩) (n - i) (G - (i + 1))) (.slice (some ⟨b, off + (i) * 2, none⟩) (n - i) (c - i)) (by simp [Act.eval, Act.put]) (by simp [Act.eval, Act.put]) (hcpB (W1.setB w.heap.size (.cells CA 24 (0, 0))).drew rfl 3 (G - (i + 1)) (c - i)) ?_)
  go_wp2
  go_ret
  first | exact ⟨rfl, hfin⟩ | exact ⟨rfl, by rw [List.append_assoc]; rfl⟩
theorem rP (A : Option Addr) (hnc : n ≤ c) (hn63 : n + 1 ≤ 4611686018427387904) {r : Value} {w' : World} (hr : ∀ ty, (Builtin.append_ #[41, 41] ty #[.slice A n c, .slice (some ⟨vb, voff, none⟩) 1 vc]).run Try.prog w = .ok r w') :
    Calls Try.prog 51 #[.slice A n c, .int .i64 n, .slice (some ⟨vb, voff, none⟩) 1 vc] w fun e w2 => e = .returned r ∧ w2 = w' := by
  have mixed : Try.prog.follows .mixedOrders = true := by kernel_rfl
  go_enter Try.func51, Try.ntmps51
  go_wp2_with (at_builtin; refine Lib.wpList_append_run _ rfl _ _ _ _ rfl _ _ rfl rfl _ _ (hr _) ?_)
  all_goals (go_ret; exact ⟨rfl, rfl⟩)
end
end
/-! slices.Insert's contract: own memory. -/
section
open Go.RowKit Go.Lib

/-- a world that differs in what was drawn alone -/
structure Like (w w0 : World) : Prop where
  heap : w0.heap = w.heap
  os : w0.os = w.os
  tape : w0.tape = w.tape
  output : w0.output = w.output
theorem Like.rfl' {w : World} : Like w w := ⟨rfl, rfl, rfl, rfl⟩
theorem Like.drew {w : World} : Like w w.drew := ⟨rfl, rfl, rfl, rfl⟩
theorem Like.drew2 {w : World} : Like w w.drew.drew := ⟨rfl, rfl, rfl, rfl⟩
theorem Like.rep {w w0 : World} (h : Like w w0) {H : aB} {ρ : aH} {R : Imm} (hR : Rep H ρ R w) : Rep H ρ R w0 := ⟨fun l o e => by rw [h.heap]; exact hR.own l o e, hR.sep, hR.dis, fun b O e => by rw [h.heap]; exact hR.imm b O e⟩
theorem Like.fut {w w0 : World} (h : Like w w0) {H : aB} {ρ ρ' : aH} {R R' : Imm} {W : Lab → Prop} {w' : World} (hF : Fut H ρ R w0 W ρ' R' w') : Fut H ρ R w W ρ' R' w' :=
  ⟨hF.ext, fun l L e => by have := hF.win l L e; rw [h.heap] at this; exact this, fun b O e => by have := hF.new b O e; rw [h.heap] at this; exact this, hF.os.trans h.os, hF.tape.trans h.tape, hF.output.trans h.output, by have := hF.size; rw [h.heap] at this; exact this, fun b hb hno => by
    have := hF.frame b (by rw [h.heap]; exact hb) hno; rw [h.heap] at this; exact this⟩
section
variable (b off n c i vb voff vc : Nat) (cc cv : Array Value) (T Tv : TypeId) (us vs : List Value) (w : World)
theorem ins_fit (hi : i ≤ n) (hroom : n + 1 ≤ c) (hn63 : n + 1 ≤ 4611686018427387904) (hvb : vb ≠ b) (hb : w.heap[b]? = some (.cells cc T (0, 0))) (hfit : off + (c) * 2 ≤ cc.size)
    (hul : us.length = (n - i) * 2) (hus : ∀ k u, us[k]? = some u → w.cell? ⟨b, off + (i) * 2 + k, none⟩ = some u) (h1u : ∀ v ∈ us, v.oneCell' = true)
    (hv : w.heap[vb]? = some (.cells cv Tv (0, 0))) (hvl : vs.length = 2) (hvs : ∀ k u, vs[k]? = some u → w.cell? ⟨vb, voff + k, none⟩ = some u) (h1v : ∀ v ∈ vs, v.oneCell' = true) :
    Calls Try.prog 51 #[.slice (some ⟨b, off, none⟩) n c, .int .i64 i, .slice (some ⟨vb, voff, none⟩) 1 vc] w fun e w' =>
      e = .returned (.slice (some ⟨b, off, none⟩) (n + 1) c) ∧ ∃ w0, Like w w0 ∧ w' = w0.setB b (.cells (bH (bH cc (off + (i + 1) * 2) us) (off + (i) * 2) vs) T (0, 0)) := by
  obtain ⟨I, hinfo, hz, hsz, hby⟩ := gQ
  rcases Nat.lt_or_ge i n with hlt | hge
  · refine (ins_shift b off n c i vb voff vc cc cv T Tv us vs w hlt hroom hn63 hvb hb hfit hul hus h1u hv hvl hvs h1v).mono ?_
    rintro e w' ⟨he, hw⟩
    exact ⟨he, w.drew, .drew, hw⟩
  · obtain rfl : i = n := by omega
    have hus0 : us = [] := List.length_eq_zero_iff.1 (by rw [hul]; simp)
    subst hus0
    have hr := fun ty => d9 (ty := ty) (P := Try.prog) Try.underlying41 Try.underlying41 hinfo b off i 1 c vc ⟨vb, voff, none⟩ vs hroom w (by rw [hvl, hsz]) (fun k u hk => by rw [Addr.add_lit]; exact hvs k u hk) h1v cc T hb (by rw [hsz, hvl]; omega)
    rw [hsz] at hr
    refine (rP i c vb voff vc w _ (by omega) hn63 hr).mono ?_
    rintro e w' ⟨he, hw⟩
    refine ⟨he, w, .rfl', ?_⟩
    rw [hw]; simp [bH]
theorem p5 (A : Option Addr) (us0 : List Value) (hi : i ≤ n) (hnc : n ≤ c) (hroom : c < n + 1) (hbig : (n + 1) * 16 ≤ 140737488355328) (hn63 : n + 1 ≤ 4611686018427387904)
    (hA : n = 0 ∨ (A = some ⟨b, off, none⟩ ∧ vb ≠ b ∧ w.heap[b]? = some (.cells cc T (0, 0))))
    (hu0 : us0.length = (i) * 2) (hus0 : ∀ k u, us0[k]? = some u → w.cell? ⟨b, off + k, none⟩ = some u)
    (hul : us.length = (n - i) * 2) (hus : ∀ k u, us[k]? = some u → w.cell? ⟨b, off + (i) * 2 + k, none⟩ = some u) (h1u : ∀ v ∈ us, v.oneCell' = true)
    (hv : w.heap[vb]? = some (.cells cv Tv (0, 0))) (hvl : vs.length = 2) (hvs : ∀ k u, vs[k]? = some u → w.cell? ⟨vb, voff + k, none⟩ = some u) (h1v : ∀ v ∈ vs, v.oneCell' = true) :
    Calls Try.prog 51 #[.slice A n c, .int .i64 i, .slice (some ⟨vb, voff, none⟩) 1 vc] w fun e w' =>
      ∃ (G : Nat) (rest : Array Value) (w0 : World), n + 1 ≤ G ∧ rest.size = (G - (n + 1)) * 2 ∧ Like w w0 ∧ e = .returned (.slice (some ⟨w.heap.size, 0, none⟩) (n + 1) G) ∧ w' = w0.alloc (.cells ((us0 ++ vs ++ us).toArray ++ rest) 24 (0, 0)) := by
  obtain ⟨I, hinfo, hz, hsz, hby⟩ := gQ
  rcases Nat.lt_or_ge i n with hlt | hge
  · obtain ⟨rfl, hvb, hb⟩ := hA.resolve_left (by omega)
    obtain ⟨G, rest, h1, h2, h3⟩ := ins_grow b off n c i vb voff vc cc cv T Tv us vs w us0 hlt hnc hroom hbig hn63 hvb hb hu0 hus0 hul hus h1u hv hvl hvs h1v
    refine h3.mono ?_
    rintro e w' ⟨he, hw⟩
    exact ⟨G, rest, w.drew.drew, h1, h2, .drew2, he, hw⟩
  · obtain rfl : i = n := by omega
    have husn : us = [] := List.length_eq_zero_iff.1 (by rw [hul]; simp)
    subst husn
    have key : ∃ nc rest, i + 1 ≤ nc ∧ rest.size = (nc - (i + 1)) * 2 ∧ ∀ ty, (Builtin.append_ #[41, 41] ty #[.slice A i c, .slice (some ⟨vb, voff, none⟩) 1 vc]).run Try.prog w = .ok (.slice (some ⟨w.heap.size, 0, none⟩) (i + 1) nc) (w.drew.alloc (.cells (us0.toArray ++ vs.toArray ++ rest) 24)) := by
      have hall := fun ty => gA (ty := ty) (P := Try.prog) Try.underlying41 Try.underlying41 hinfo hz A i 1 c vc ⟨vb, voff, none⟩ us0 vs hroom hnc w (by rw [hu0, hsz]; try omega) (by
          rcases hA with h0 | ⟨rfl, _, _⟩
          · exact .inl h0
          · exact .inr ⟨_, rfl, fun k u hk => by rw [Addr.add_lit]; exact hus0 k u hk⟩) (by rw [hvl, hsz]) (fun k u hk => by rw [Addr.add_lit]; exact hvs k u hk) hn63 (by rw [hby]; exact hbig)
      obtain ⟨nc, rest, h1, _, h3, h4⟩ := hall 0
      refine ⟨nc, rest, h1, by rw [h3]; simp [Value.cells], fun ty => ?_⟩
      unfold Builtin.append_ at h4 ⊢
      exact h4
    obtain ⟨nc, rest, h1, h2, h3⟩ := key
    refine (rP i c vb voff vc w A hnc hn63 h3).mono ?_
    rintro e w' ⟨he, hw⟩
    refine ⟨nc, rest, w.drew, h1, h2, .drew, he, ?_⟩
    rw [hw]; simp
end
theorem shift_get (cc : Array Value) (o : Nat) (us0 vs us : List Value) (h0 : ∀ k u, us0[k]? = some u → cc[o + k]? = some u) (hfit : o + us0.length + vs.length + us.length ≤ cc.size) :
    ∀ k u, (us0 ++ vs ++ us)[k]? = some u → (bH (bH cc (o + us0.length + vs.length) us) (o + us0.length) vs)[o + k]? = some u := by
  intro k u hk
  rw [cL, cL, bB]
  have hlt := (List.getElem?_eq_some_iff.1 hk).1
  simp only [List.length_append] at hlt
  by_cases h1 : k < us0.length
  · rw [if_neg (by omega), if_neg (by omega)]
    rw [List.append_assoc, List.getElem?_append_left h1] at hk
    exact h0 k u hk
  · by_cases h2 : k < us0.length + vs.length
    · rw [if_pos (by omega), show o + k - (o + us0.length) = k - us0.length by omega]
      rw [List.getElem?_append_left (by simp; omega), List.getElem?_append_right (by omega)] at hk
      exact hk
    · rw [if_neg (by omega), if_pos (by omega), show o + k - (o + us0.length + vs.length) = k - (us0.length + vs.length) by omega]
      rw [List.getElem?_append_right (by simp; omega)] at hk
      simpa using hk
theorem gB : fG Try.prog 51 := ⟨_, Try.func51, by kernel_rfl, by kernel_rfl⟩
theorem insert_sl {H : aB} {q l lv : Lab} {off n i : Nat} {rs : List (List AV)} {row : List AV} (hl : H l = some (.rows 2 rs)) (hn : off + n ≤ rs.length) (hv : H lv = some (.rows 2 [row])) (hne : l ≠ lv) (hi : i ≤ n) (h48 : (n + 1) * 16 ≤ 140737488355328) (h63 : n + 1 ≤ 4611686018427387904) :
    aK Try.prog 51 [.sl l 2 off n, .int .i64 i, .sl lv 2 0 1] H q ⟨.sl q 2 0 (n + 1), [(q, some (.rows 2 ((rs.drop off).take i ++ [row] ++ (rs.drop (off + i)).take (n - i)))), (l, none)], some [l, lv]⟩ := by
  refine ⟨gB, fun k hk => ?_, fun ρ R vals hvs w hR hfr => ?_⟩
  · obtain ⟨pr, hp, rfl⟩ := hk
    simp at hp
    rcases hp with rfl | rfl
    · exact .inr (.self _)
    · exact .inl (by simp [restr, hl])
  obtain ⟨v0, vals, rfl, hx0, hvs⟩ := hvs.head
  obtain ⟨v1, vals, rfl, hx1, hvs⟩ := hvs.head
  obtain ⟨v2, vals, rfl, hx2, hvs⟩ := hvs.head
  obtain rfl : vals = [] := List.length_eq_zero_iff.1 hvs.1
  cases hx1
  have hqf : ρ q = none := hfr q (.self q)
  have hGl : restr H (some [l, lv]) l = some (.rows 2 rs) := by rw [jH (by simp)]; exact hl
  have hGv : restr H (some [l, lv]) lv = some (.rows 2 [row]) := by rw [jH (by simp)]; exact hv
  obtain ⟨Lv, Ov, hLv, hOv, hrv⟩ := hR.own lv _ hGv
  obtain ⟨L, O, hL, hO, hr⟩ := hR.own l _ hGl
  have hbn : Lv.blk ≠ L.blk := fun e => hne (hR.sep lv l _ _ Lv L hGv hGl hLv hL e).symm
  cases Ov <;> (have hrv' := hrv; simp only [RepO] at hrv')
  rename_i cv Tv fzv
  obtain ⟨rfl, hvsz, hvrow, hvtop, hvcell⟩ := hrv'
  cases O <;> (have hr' := hr; simp only [RepO] at hr')
  rename_i cc T fz
  obtain ⟨rfl, hsz, hrow, htop, hcell⟩ := hr'
  obtain ⟨hV, hVr⟩ := dI hrv (off := 0) (n := 1) (by simp)
  generalize ((List.range (1 * 2)).map fun k => cv.getD (Lv.off + 0 * 2 + k) undef) = vs at hV hVr
  have hVl : vs.length = 2 := by rw [hV.1]; simp
  rcases hx2.sl_inv with ⟨L2, vc, hL2, _, _, _, rfl⟩ | ⟨h0, _⟩
  rotate_left
  · cases h0
  rw [hLv] at hL2; cases hL2
  obtain ⟨h0, h0r⟩ := dI hr (off := off) (n := i) (by omega)
  obtain ⟨hU, hUr⟩ := dI hr (off := off + i) (n := n - i) (by omega)
  generalize ((List.range (i * 2)).map fun k => cc.getD (L.off + off * 2 + k) undef) = us0 at h0 h0r
  generalize ((List.range ((n - i) * 2)).map fun k => cc.getD (L.off + (off + i) * 2 + k) undef) = us at hU hUr
  have h0l : us0.length = (i) * 2 := by rw [h0.1, List.length_take, List.length_drop]; (try simp); omega
  have hUl : us.length = (n - i) * 2 := by rw [hU.1, List.length_take, List.length_drop]; (try simp); omega
  have hall : RowsL ρ R 2 ((rs.drop off).take i ++ [row] ++ (rs.drop (off + i)).take (n - i)) (us0 ++ vs ++ us) := (h0.append (by simpa using hV)).append hU
  have hlen : ((rs.drop off).take i ++ [row] ++ (rs.drop (off + i)).take (n - i)).length = n + 1 := by simp; omega
  have hvread : ∀ k u, vs[k]? = some u → w.cell? ⟨Lv.blk, Lv.off + 0 * 2 + k, none⟩ = some u := fun k u hk => by rw [cO hOv]; exact hVr k u hk
  have huread : ∀ k u, us[k]? = some u → w.cell? ⟨L.blk, L.off + off * 2 + (i) * 2 + k, none⟩ = some u := fun k u hk => by
    rw [cO hO]
    have := hUr k u hk
    rw [Nat.add_mul] at this
    rw [← this]; congr 1; omega
  have h0read : ∀ k u, us0[k]? = some u → w.cell? ⟨L.blk, L.off + off * 2 + k, none⟩ = some u := fun k u hk => by rw [cO hO]; exact h0r k u hk
  have more : ∀ (A : Option Addr) (c : Nat), n ≤ c → c < n + 1 → (n = 0 ∨ A = some ⟨L.blk, L.off + off * 2, none⟩) → dL Try.prog 51 #[.slice A n c, .int .i64 i, .slice (some ⟨Lv.blk, Lv.off + 0 * 2, none⟩) 1 vc] w fun v w' => ∃ ρ' R', Fut (restr H (some [l, lv])) ρ R w (Under q) ρ' R' w' ∧ RepV ρ' R' (.sl q 2 0 (n + 1)) v ∧ Rep (upd [(q, some (.rows 2 ((rs.drop off).take i ++ [row] ++ (rs.drop (off + i)).take (n - i)))), (l, none)] (restr H (some [l, lv]))) ρ' R' w' := by
    intro A c h1 h2 h3
    refine (p5 L.blk (L.off + off * 2) n c i Lv.blk (Lv.off + 0 * 2) vc cc cv T Tv us vs w A us0 hi h1 h2 h48 h63 (h3.imp id fun e => ⟨e, hbn, hO⟩) h0l h0read hUl huread (hU.one (by decide)) hOv hVl hvread (hV.one (by decide))).mono ?_
    rintro e w' ⟨G, rest, w0, hG, hrest, hlk, rfl, rfl⟩
    have hsz0 : w0.heap.size = w.heap.size := by rw [hlk.heap]
    obtain ⟨hF, hRep⟩ := fR (W := Under q) (hlk.rep hR) hqf (Under.self q) (O := .cells ((us0 ++ vs ++ us).toArray ++ rest) 24 (0, 0)) (L := ⟨w0.heap.size, 0, ((us0 ++ vs ++ us).toArray ++ rest).size, ((rs.drop off).take i ++ [row] ++ (rs.drop (off + i)).take (n - i)).length⟩) rfl (jX hall rest _ _)
    refine ⟨_, rfl, _, _, hlk.fut hF, ?_, hRep.drop (fun k ob hk => ?_)⟩
    · have := RepV.sl (ρ := fun k => if k = q then some ⟨w0.heap.size, 0, ((us0 ++ vs ++ us).toArray ++ rest).size, ((rs.drop off).take i ++ [row] ++ (rs.drop (off + i)).take (n - i)).length⟩ else ρ k) (R := R) q 2 0 (n + 1) G _ (if_pos rfl) hG (by
        simp only [Nat.zero_add, Array.size_append, List.size_toArray, List.length_append]
        rw [h0l, hVl, hUl, hrest]; omega) (by rw [hlen]; simp only [Nat.zero_add]; exact hG)
      rw [hsz0] at this
      simpa [hsz0] using this
    · simp only [upd] at hk ⊢
      split at hk
      · rename_i e; rw [if_pos e]; exact hk
      · rename_i e; rw [if_neg e]
        split at hk
        · cases hk
        · exact hk
  show dL Try.prog 51 #[v0, .int .i64 i, _] w _
  rcases hx0.sl_inv with ⟨L3, cap, hL3, hcap, ht, hext, rfl⟩ | ⟨rfl, L3, ad, hL3, hext, rfl⟩
  · rw [hL] at hL3; cases hL3
    rcases Nat.lt_or_ge cap (n + 1) with hlt | hge
    · exact more _ _ hcap hlt (.inr rfl)
    · refine (ins_fit L.blk (L.off + off * 2) n cap i Lv.blk (Lv.off + 0 * 2) vc cc cv T Tv us vs w hi hge h63 hbn hO (by rw [hsz]; rw [Nat.add_mul] at ht; omega) hUl huread (hU.one (by decide)) hOv hVl hvread (hV.one (by decide))).mono ?_
      rintro e w' ⟨rfl, w0, hlk, rfl⟩
      have hroom : L.off + off * 2 + us0.length + vs.length + us.length ≤ cc.size := by rw [h0l, hVl, hUl, hsz]; rw [Nat.add_mul] at ht; omega
      have hget := shift_get cc (L.off + off * 2) us0 vs us h0r hroom
      have e1 : L.off + off * 2 + us0.length + vs.length = L.off + off * 2 + (i + 1) * 2 := by rw [h0l, hVl]; omega
      have e2 : L.off + off * 2 + us0.length = L.off + off * 2 + (i) * 2 := by rw [h0l]
      rw [e1, e2] at hget
      have hnew : RepO ρ R ⟨L.blk, L.off + off * 2, L.top, n + 1⟩ (.rows 2 ((rs.drop off).take i ++ [row] ++ (rs.drop (off + i)).take (n - i))) (.cells (bH (bH cc (L.off + off * 2 + (i + 1) * 2) us) (L.off + off * 2 + (i) * 2) vs) T (0, 0)) := by
        refine ⟨rfl, by rw [bB, bB]; exact hsz, hall.2.1, ⟨hlen, ?_⟩, fun ii jj xx hxx => ?_⟩
        · rw [hlen, ← hsz]; rw [h0l, hVl, hUl] at hroom; simp only; omega
        · obtain ⟨v, hv, hvr⟩ := hall.2.2 ii jj xx hxx
          exact ⟨v, hget _ _ hv, hvr⟩
      have hO0 : w0.heap[L.blk]? = some (.cells cc T (0, 0)) := by rw [hlk.heap]; exact hO
      obtain ⟨hF, hRep⟩ := mK (W := Under q) (hlk.rep hR) hqf (Under.self q) hGl hL hO0 (L' := ⟨L.blk, L.off + off * 2, L.top, n + 1⟩) rfl hnew
      refine ⟨_, rfl, _, _, hlk.fut hF, ?_, hRep⟩
      have := RepV.sl (ρ := fun k => if k = q then some ⟨L.blk, L.off + off * 2, L.top, n + 1⟩ else ρ k) (R := R) q 2 0 (n + 1) cap _ (if_pos rfl) hge (by simp only; rw [Nat.add_mul] at ht; omega) (by simp only [Nat.zero_add]; exact hge)
      simpa using this
  · exact more _ _ (Nat.le_refl _) (by omega) (.inl rfl)
theorem insert_none {H : aB} {q lv : Lab} {x : AV} {row : List AV} (hxn : x = .nils ∨ x = .sl0) (hv : H lv = some (.rows 2 [row])) :
    aK Try.prog 51 [x, .int .i64 0, .sl lv 2 0 1] H q ⟨.sl q 2 0 1, [(q, some (.rows 2 [row]))], some [lv]⟩ := by
  refine ⟨gB, fun k hk => by rw [bC hk]; exact .inr (.self _), fun ρ R vals hvs w hR hfr => ?_⟩
  obtain ⟨v0, vals, rfl, hx0, hvs⟩ := hvs.head
  obtain ⟨v1, vals, rfl, hx1, hvs⟩ := hvs.head
  obtain ⟨v2, vals, rfl, hx2, hvs⟩ := hvs.head
  obtain rfl : vals = [] := List.length_eq_zero_iff.1 hvs.1
  cases hx1
  obtain ⟨A, rfl⟩ : ∃ A, v0 = .slice A 0 0 := by
    rcases hxn with rfl | rfl <;> (cases hx0; exact ⟨_, rfl⟩)
  have hqf : ρ q = none := hfr q (.self q)
  have hGv : restr H (some [lv]) lv = some (.rows 2 [row]) := by rw [jH (by simp)]; exact hv
  obtain ⟨Lv, Ov, hLv, hOv, hrv⟩ := hR.own lv _ hGv
  cases Ov <;> (have hrv' := hrv; simp only [RepO] at hrv')
  rename_i cv Tv fzv
  obtain ⟨rfl, hvsz, hvrow, hvtop, hvcell⟩ := hrv'
  obtain ⟨hV, hVr⟩ := dI hrv (off := 0) (n := 1) (by simp)
  generalize ((List.range (1 * 2)).map fun k => cv.getD (Lv.off + 0 * 2 + k) undef) = vs at hV hVr
  have hVl : vs.length = 2 := by rw [hV.1]; simp
  rcases hx2.sl_inv with ⟨L2, vc, hL2, _, _, _, rfl⟩ | ⟨h0, _⟩
  rotate_left
  · cases h0
  rw [hLv] at hL2; cases hL2
  have hall : RowsL ρ R 2 [row] vs := by simpa using hV
  have hvread : ∀ k u, vs[k]? = some u → w.cell? ⟨Lv.blk, Lv.off + 0 * 2 + k, none⟩ = some u := fun k u hk => by rw [cO hOv]; exact hVr k u hk
  refine (p5 0 0 0 0 0 Lv.blk (Lv.off + 0 * 2) vc #[] cv 0 Tv [] vs w A [] (Nat.le_refl _) (Nat.le_refl _) (by decide) (by decide) (by decide) (.inl rfl) (by simp) (fun k u h => by simp at h) (by simp) (fun k u h => by simp at h) (by simp) hOv hVl hvread (hV.one (by decide))).mono ?_
  rintro e w' ⟨G, rest, w0, hG, hrest, hlk, rfl, rfl⟩
  have hsz0 : w0.heap.size = w.heap.size := by rw [hlk.heap]
  obtain ⟨hF, hRep⟩ := fR (W := Under q) (hlk.rep hR) hqf (Under.self q) (O := .cells (vs.toArray ++ rest) 24 (0, 0)) (L := ⟨w0.heap.size, 0, (vs.toArray ++ rest).size, 1⟩) rfl (jX hall rest _ _)
  have e0 : ([] ++ vs ++ [] : List Value) = vs := by simp
  rw [e0]
  refine ⟨_, rfl, _, _, hlk.fut hF, ?_, hRep⟩
  have := RepV.sl (ρ := fun k => if k = q then some ⟨w0.heap.size, 0, (vs.toArray ++ rest).size, 1⟩ else ρ k) (R := R) q 2 0 1 G _ (if_pos rfl) hG (by
    simp only [Nat.zero_add, Array.size_append, List.size_toArray]
    rw [hVl, hrest]; omega) (by simp only [Nat.zero_add]; exact hG)
  rw [hsz0] at this
  simpa [hsz0] using this
theorem insert_nil {H : aB} {q lv : Lab} {row : List AV} (hv : H lv = some (.rows 2 [row])) :
    aK Try.prog 51 [.nils, .int .i64 0, .sl lv 2 0 1] H q ⟨.sl q 2 0 1, [(q, some (.rows 2 [row]))], some [lv]⟩ := insert_none (.inl rfl) hv
end
/-! slices.Delete, walked; its contract: own memory. -/
section
open Go.RowKit Go.Lib
theorem run_clear_fit {P : Program} {t ty E : TypeId} {z : Value} (hd : P.underlying t = some (.slice E)) (hzv : ∀ w, (zeroValue E).run P w = .ok z w) (b o k c : Nat) (w : World) (hk : 0 < k)
    (hone : ∀ v ∈ (Builtin.zeroCells z.cells k).toList, v.oneCell' = true) (cc : Array Value) (T' : TypeId) (hb : w.heap[b]? = some (.cells cc T' (0, 0))) (hfit : o + (Builtin.zeroCells z.cells k).size ≤ cc.size) :
    (Builtin.clear_ #[t] ty #[.slice (some ⟨b, o, none⟩) k c]).run P w = .ok (.tuple #[]) (w.setB b (.cells (bH cc o (Builtin.zeroCells z.cells k).toList) T' (0, 0))) := by
  have hs := b7 (P := P) (Builtin.zeroCells z.cells k).toList w b o 0 cc T' hb hone (by simpa using hfit)
  simp only [Nat.add_zero] at hs
  obtain ⟨m, rfl⟩ : ∃ m, k = m + 1 := ⟨k - 1, by omega⟩
  simp [Builtin.clear_, aA hd, hzv, hs]
theorem step_append_runI {P : Program} {ops : Array Oper} {o : Oper} {a : Act} {w : World} {K : Act → World → Prop} {Q : Exit → Act → World → Prop} {E : Prop}
    (hg : o.guard = none) (d x : Operand) (dT sT : TypeId) (hop : o.op = Op.call { callee := Callee.builtin Builtin.append, args := #[d, x], argTypes := #[dT, sT] })
    (v u : Value) (hd : a.eval d = v) (hx : a.eval x = u) {v' : Value} {w' : World} (hr : (Builtin.append_ #[dT, sT] o.type #[v, u]).run P w = .ok v' w') (hK : K (a.put o.dst v') w') :
    if Region.wanted o (yielded ops a.tmps) = true then Oper.wp P o a w K Q else E := by
  have hw : Region.wanted o (yielded ops a.tmps) = true := by simp [Region.wanted, hg]
  rw [if_pos hw]
  unfold Oper.wp
  simp [execOp, hop, resolve, invoke, builtin, hd, hx, hr, Result.andThen]
  exact hK
theorem zero_one (k : Nat) : ∀ v ∈ (Builtin.zeroCells (Value.agg #[Value.int .i64 0, Value.int .i64 0]).cells k).toList, v.oneCell' = true := by
  intro v hv
  have hz : ∀ m, m < (Value.agg #[Value.int .i64 0, Value.int .i64 0]).cells.size → ((Value.agg #[Value.int .i64 0, Value.int .i64 0]).cells[m]!).oneCell' = true := by decide
  simp only [Builtin.zeroCells, Array.toList_map, List.mem_map] at hv
  obtain ⟨m, _, rfl⟩ := hv
  exact hz _ (Nat.mod_lt _ (by decide))
section
set_option maxHeartbeats 4000000
variable (b off n c i j : Nat) (cc : Array Value) (T : TypeId) (us : List Value) (w : World)
theorem del_walk (hi : i < j) (hj : j ≤ n) (hc : n ≤ c) (hn63 : n ≤ 4611686018427387904) (hb : w.heap[b]? = some (.cells cc T (0, 0))) (hfit : off + (c) * 2 ≤ cc.size)
    (hul : us.length = (n - j) * 2) (hus : ∀ k u, us[k]? = some u → w.cell? ⟨b, off + (j) * 2 + k, none⟩ = some u) (h1u : ∀ v ∈ us, v.oneCell' = true) :
    Calls Try.prog 48 #[.slice (some ⟨b, off, none⟩) n c, .int .i64 i, .int .i64 j] w fun e w' =>
      e = .returned (.slice (some ⟨b, off, none⟩) (i + (n - j)) c) ∧ ∃ zs : List Value, zs.length = (j - i) * 2 ∧ w' = w.drew.setB b (.cells (bH (bH cc (off + (i) * 2) us) (off + (i + (n - j)) * 2) zs) T (0, 0)) := by
  obtain ⟨I, hinfo, hz, hsz, hby⟩ := gQ
  have hz2 : ¬ ((i : Int) = (j : Int)) := by omega
  obtain ⟨A, hA, hsrc⟩ : ∃ A : Addr, (if c = j then some (⟨b, off, none⟩ : Addr) else some ⟨b, off + (j) * 2, none⟩) = some A ∧ (∀ k u, us[k]? = some u → w.drew.cell? (A.add k) = some u) := by
    by_cases h : c = j
    · refine ⟨⟨b, off, none⟩, by simp [h], fun k u hu => ?_⟩
      have h0 : us = [] := List.length_eq_zero_iff.1 (by rw [hul]; omega)
      rw [h0] at hu; simp at hu
    · exact ⟨⟨b, off + (j) * 2, none⟩, by simp [h], fun k u hu => by rw [Addr.add_lit]; exact hus k u hu⟩
  obtain ⟨C1, hC1⟩ : ∃ C1, C1 = bH cc (off + (i) * 2) us := ⟨_, rfl⟩
  have happ : ∀ ty cx, (Builtin.append_ #[41, 41] ty #[.slice (some ⟨b, off, none⟩) i c, .slice (some A) (n - j) cx]).run Try.prog w.drew = .ok (.slice (some ⟨b, off, none⟩) (i + (n - j)) c) (w.drew.setB b (.cells C1 T (0, 0))) := fun ty cx => by
    have := d9 (ty := ty) (P := Try.prog) Try.underlying41 Try.underlying41 hinfo b off i (n - j) c cx A us (by omega) w.drew (by rw [hul, hsz]; try omega) hsrc h1u cc T hb (by rw [hsz, hul]; omega)
    rw [hsz] at this
    try simp only [Nat.mul_one] at this
    rw [hC1]; exact this
  obtain ⟨W1, hW1⟩ : ∃ W1, W1 = w.drew.setB b (.cells C1 T (0, 0)) := ⟨_, rfl⟩
  rw [← hW1] at happ
  have hs1 : C1.size = cc.size := by rw [hC1, bB]
  have hb1 : W1.heap[b]? = some (.cells C1 T (0, 0)) := by rw [hW1]; exact g7 (w := w.drew) hb _
  have hzl : (Builtin.zeroCells (Value.agg #[Value.int .i64 0, Value.int .i64 0]).cells (j - i)).size = (j - i) * 2 := by simp [Builtin.zeroCells, Value.cells]
  have hcl : ∀ ty cx, (Builtin.clear_ #[41] ty #[.slice (some ⟨b, off + (i + (n - j)) * 2, none⟩) (n - (i + (n - j))) cx]).run Try.prog W1 = .ok (.tuple #[]) (W1.setB b (.cells (bH C1 (off + (i + (n - j)) * 2) (Builtin.zeroCells (Value.agg #[Value.int .i64 0, Value.int .i64 0]).cells (j - i)).toList) T (0, 0))) := fun ty cx => by
    have e : n - (i + (n - j)) = j - i := by omega
    rw [e]
    exact run_clear_fit Try.underlying41 (cG hinfo hz) b _ (j - i) cx W1 (by omega) (zero_one _) C1 T hb1 (by rw [hzl, hs1]; omega)
  have hic : i ≤ c := by omega
  have hjc : j ≤ c := by omega
  have hin : i ≤ n := by omega
  have hjn : (j : Int) ≤ (n : Int) := by omega
  have hij : (i : Int) ≤ (j : Int) := by omega
  have hci : ¬ (c = i) := by omega
  have hcne : ¬ (c = i + (n - j)) := by omega
  have hcl2 : (off + (i + (n - j)) * 2 + (j - i) * 2) ≤ cc.size := by omega
  have mixed : Try.prog.follows .mixedOrders = true := by kernel_rfl
  have hfin : ∀ O, W1.setB b O = w.drew.setB b O := fun O => by rw [hW1, gZ]
  rw [← hC1]
  clear hb1 hs1 hC1 hW1
  go_enter Try.func48, Try.ntmps48
  go_wp2_with fail
  go_region_law_o (refine step_append_runI rfl _ _ 41 41 rfl (.slice (some ⟨b, off, none⟩) i c) (.slice (some A) (n - j) (c - j)) (by simp [Act.eval, Act.put]) (by simp [Act.eval, Act.put]) (happ _ _) ?_)
  go_wp2
  go_ret
  refine ⟨rfl, (Builtin.zeroCells (Value.agg #[Value.int .i64 0, Value.int .i64 0]).cells (j - i)).toList, by simpa using hzl, ?_⟩
  first | exact hfin _ | rfl
theorem qE (A : Option Addr) (hi : i ≤ n) (hc : n ≤ c) : Calls Try.prog 48 #[.slice A n c, .int .i64 i, .int .i64 i] w fun e w' => e = .returned (.slice A n c) ∧ w' = w := by
  have hin : (i : Int) ≤ (n : Int) := by omega
  have hic : i ≤ c := by omega
  have mixed : Try.prog.follows .mixedOrders = true := by kernel_rfl
  go_enter Try.func48, Try.ntmps48
  go_wp2
  all_goals (go_ret; exact ⟨rfl, rfl⟩)
end
theorem del_get (cc : Array Value) (o : Nat) (us0 us zs : List Value) (h0 : ∀ k u, us0[k]? = some u → cc[o + k]? = some u) (hfit : o + us0.length + us.length + zs.length ≤ cc.size) :
    ∀ k u, (us0 ++ us)[k]? = some u → (bH (bH cc (o + us0.length) us) (o + us0.length + us.length) zs)[o + k]? = some u := by
  intro k u hk
  rw [cL, cL, bB]
  have hlt := (List.getElem?_eq_some_iff.1 hk).1
  simp only [List.length_append] at hlt
  rw [if_neg (by omega)]
  by_cases h1 : k < us0.length
  · rw [if_neg (by omega)]
    rw [List.getElem?_append_left h1] at hk
    exact h0 k u hk
  · rw [if_pos (by omega), show o + k - (o + us0.length) = k - us0.length by omega]
    rw [List.getElem?_append_right (by omega)] at hk
    exact hk
theorem delete_callable : fG Try.prog 48 := ⟨_, Try.func48, by kernel_rfl, by kernel_rfl⟩
theorem delete_sl {H : aB} {q l : Lab} {off n i j : Nat} {rs : List (List AV)} (hl : H l = some (.rows 2 rs)) (hn : off + n ≤ rs.length) (hij : i ≤ j) (hj : j ≤ n) (h63 : n ≤ 4611686018427387904) :
    aK Try.prog 48 [.sl l 2 off n, .int .i64 i, .int .i64 j] H q ⟨.sl q 2 0 (i + (n - j)), [(q, some (.rows 2 ((rs.drop off).take i ++ (rs.drop (off + j)).take (n - j)))), (l, none)], some [l]⟩ := by
  refine ⟨delete_callable, fun k hk => ?_, fun ρ R vals hvs w hR hfr => ?_⟩
  · obtain ⟨pr, hp, rfl⟩ := hk
    simp at hp
    rcases hp with rfl | rfl
    · exact .inr (.self _)
    · exact .inl (by simp [restr, hl])
  obtain ⟨v0, vals, rfl, hx0, hvs⟩ := hvs.head
  obtain ⟨v1, vals, rfl, hx1, hvs⟩ := hvs.head
  obtain ⟨v2, vals, rfl, hx2, hvs⟩ := hvs.head
  obtain rfl : vals = [] := List.length_eq_zero_iff.1 hvs.1
  cases hx1
  cases hx2
  have hqf : ρ q = none := hfr q (.self q)
  have hGl : restr H (some [l]) l = some (.rows 2 rs) := by rw [jH (by simp)]; exact hl
  obtain ⟨L, O, hL, hO, hr⟩ := hR.own l _ hGl
  cases O <;> (have hr' := hr; simp only [RepO] at hr')
  rename_i cc T fz
  obtain ⟨rfl, hsz, hrow, htop, hcell⟩ := hr'
  obtain ⟨h0, h0r⟩ := dI hr (off := off) (n := i) (by omega)
  obtain ⟨hU, hUr⟩ := dI hr (off := off + j) (n := n - j) (by omega)
  generalize ((List.range (i * 2)).map fun k => cc.getD (L.off + off * 2 + k) undef) = us0 at h0 h0r
  generalize ((List.range ((n - j) * 2)).map fun k => cc.getD (L.off + (off + j) * 2 + k) undef) = us at hU hUr
  have h0l : us0.length = (i) * 2 := by rw [h0.1, List.length_take, List.length_drop]; (try simp); omega
  have hUl : us.length = (n - j) * 2 := by rw [hU.1, List.length_take, List.length_drop]; (try simp); omega
  have hall : RowsL ρ R 2 ((rs.drop off).take i ++ (rs.drop (off + j)).take (n - j)) (us0 ++ us) := h0.append hU
  have hlen : ((rs.drop off).take i ++ (rs.drop (off + j)).take (n - j)).length = i + (n - j) := by simp; omega
  have huread : ∀ k u, us[k]? = some u → w.cell? ⟨L.blk, L.off + off * 2 + (j) * 2 + k, none⟩ = some u := fun k u hk => by
    rw [cO hO]
    have := hUr k u hk
    rw [Nat.add_mul] at this
    rw [← this]; congr 1; omega
  have htop1 : L.off + off * 2 + (n) * 2 ≤ L.top := by
    have : (off + n) * 2 ≤ rs.length * 2 := Nat.mul_le_mul_right _ hn
    have := htop.2
    rw [Nat.add_mul] at *
    omega
  -- what becomes of the block
  have fin : ∀ (w0 : World) (C : Array Value), Like w w0 → C.size = cc.size → (∀ k u, (us0 ++ us)[k]? = some u → C[L.off + off * 2 + k]? = some u) →
      ∃ ρ' R', Fut (restr H (some [l])) ρ R w (Under q) ρ' R' (w0.setB L.blk (.cells C T (0, 0))) ∧ ρ' q = some ⟨L.blk, L.off + off * 2, L.top, i + (n - j)⟩ ∧ Rep (upd [(q, some (.rows 2 ((rs.drop off).take i ++ (rs.drop (off + j)).take (n - j)))), (l, none)] (restr H (some [l]))) ρ' R' (w0.setB L.blk (.cells C T (0, 0))) := by
    intro w0 C hlk hCs hget
    have hnew : RepO ρ R ⟨L.blk, L.off + off * 2, L.top, i + (n - j)⟩ (.rows 2 ((rs.drop off).take i ++ (rs.drop (off + j)).take (n - j))) (.cells C T (0, 0)) := by
      refine ⟨rfl, by rw [hCs]; exact hsz, hall.2.1, ⟨hlen, ?_⟩, fun ii jj xx hxx => ?_⟩
      · rw [hlen]; simp only; omega
      · obtain ⟨v, hv, hvr⟩ := hall.2.2 ii jj xx hxx
        exact ⟨v, hget _ _ hv, hvr⟩
    have hO0 : w0.heap[L.blk]? = some (.cells cc T (0, 0)) := by rw [hlk.heap]; exact hO
    obtain ⟨hF, hRep⟩ := mK (W := Under q) (hlk.rep hR) hqf (Under.self q) hGl hL hO0 (L' := ⟨L.blk, L.off + off * 2, L.top, i + (n - j)⟩) rfl hnew
    exact ⟨_, _, hlk.fut hF, if_pos rfl, hRep⟩
  rcases Nat.lt_or_ge i j with hlt | hge
  · show dL Try.prog 48 #[v0, .int .i64 i, .int .i64 j] w _
    rcases hx0.sl_inv with ⟨L3, cap, hL3, hcap, ht, hext, rfl⟩ | ⟨rfl, _⟩
    · rw [hL] at hL3; cases hL3
      refine (del_walk L.blk (L.off + off * 2) n cap i j cc T us w hlt hj hcap h63 hO (by rw [hsz]; rw [Nat.add_mul] at ht; omega) hUl huread (hU.one (by decide))).mono ?_
      rintro e w' ⟨rfl, zs, hzs, rfl⟩
      have hroom : L.off + off * 2 + us0.length + us.length + zs.length ≤ cc.size := by rw [h0l, hUl, hzs, hsz]; omega
      have hget := del_get cc (L.off + off * 2) us0 us zs h0r hroom
      have e1 : L.off + off * 2 + us0.length = L.off + off * 2 + (i) * 2 := by rw [h0l]
      have e2 : L.off + off * 2 + (i) * 2 + us.length = L.off + off * 2 + (i + (n - j)) * 2 := by rw [hUl]; omega
      rw [e1, e2] at hget
      obtain ⟨ρ', R', hF, hq, hRep⟩ := fin w.drew _ .drew (by rw [bB, bB]) hget
      refine ⟨_, rfl, ρ', R', hF, ?_, hRep⟩
      have := RepV.sl (ρ := ρ') (R := R') q 2 0 (i + (n - j)) cap _ hq (by omega) (by simp only; rw [Nat.add_mul] at ht; omega) (by simp only [Nat.zero_add]; omega)
      simpa using this
    · omega
  · obtain rfl : i = j := by omega
    have e5 : i + (n - i) = n := by omega
    show dL Try.prog 48 #[v0, .int .i64 i, .int .i64 i] w _
    have hid : w.setB L.blk (.cells cc T (0, 0)) = w := oS hO
    have hget : ∀ k u, (us0 ++ us)[k]? = some u → cc[L.off + off * 2 + k]? = some u := fun k u hk => by
      by_cases h1 : k < us0.length
      · rw [List.getElem?_append_left h1] at hk; exact h0r k u hk
      · rw [List.getElem?_append_right (by omega)] at hk
        have := hUr _ _ hk
        rw [h0l] at this h1
        rw [Nat.add_mul] at this
        rw [← this]; congr 1; omega
    obtain ⟨ρ', R', hF, hq, hRep⟩ := fin w cc .rfl' rfl hget
    rw [hid] at hF hRep
    rw [e5] at hq ⊢
    rcases hx0.sl_inv with ⟨L3, cap, hL3, hcap, ht, hext, rfl⟩ | ⟨rfl, L3, ad, hL3, hext, rfl⟩
    · rw [hL] at hL3; cases hL3
      refine (qE n cap i w _ hj hcap).mono ?_
      rintro e w' ⟨rfl, rfl⟩
      refine ⟨_, rfl, ρ', R', hF, ?_, hRep⟩
      have := RepV.sl (ρ := ρ') (R := R') q 2 0 n cap _ hq hcap (by simp only; rw [Nat.add_mul] at ht; omega) (by simp only [Nat.zero_add]; omega)
      simpa using this
    · refine (qE 0 0 i w _ hj (Nat.le_refl _)).mono ?_
      rintro e w' ⟨rfl, rfl⟩
      exact ⟨_, rfl, ρ', R', hF, .slz q 2 0 ad _ hq (Nat.le_refl _), hRep⟩
end
/-! slices.Insert and slices.Delete, as calls that are run by their contracts. -/
section
def uV (xs : List AV) (H : aB) (q : Lab) : Option Res := match xs with
  | [.nils, .int .i64 0, .sl lv 2 0 1] => match H lv with
    | some (.rows 2 [row]) => some ⟨.sl q 2 0 1, [(q, some (.rows 2 [row]))], some [lv]⟩
    | _ => none
  | [.sl l 2 off n, .int .i64 k, .sl lv 2 0 1] => match H l, H lv with
    | some (.rows 2 rs), some (.rows 2 [row]) => if off + n ≤ rs.length ∧ l ≠ lv ∧ 0 ≤ k ∧ k.toNat ≤ n ∧ (n + 1) * 16 ≤ 140737488355328 then some ⟨.sl q 2 0 (n + 1), [(q, some (.rows 2 ((rs.drop off).take k.toNat ++ [row] ++ (rs.drop (off + k.toNat)).take (n - k.toNat)))), (l, none)], some [l, lv]⟩ else none
    | _, _ => none
  | _ => none
def uW (xs : List AV) (H : aB) (q : Lab) : Option Res := match xs with
  | [.sl l 2 off n, .int .i64 a, .int .i64 b] => match H l with
    | some (.rows 2 rs) => if off + n ≤ rs.length ∧ 0 ≤ a ∧ a ≤ b ∧ b ≤ (n : Int) ∧ n ≤ 4611686018427387904 then some ⟨.sl q 2 0 (a.toNat + (n - b.toNat)), [(q, some (.rows 2 ((rs.drop off).take a.toNat ++ (rs.drop (off + b.toNat)).take (n - b.toNat)))), (l, none)], some [l]⟩ else none
    | _ => none
  | _ => none
def uR : aQ := fun f xs H q => if f = 51 then uV xs H q else if f = 48 then uW xs H q else none
theorem extI_ok : aY Try.prog uR := oL fun f xs H q r h => by
  unfold uR at h
  split at h
  · rename_i hf; subst hf
    unfold uV at h
    split at h
    · split at h
      · cases h; exact insert_nil (by assumption)
      · cases h
    · split at h
      · split at h
        · rename_i hl hv hc
          obtain ⟨h1, h2, h3, h4, h5⟩ := hc
          cases h
          have := insert_sl (q := q) hl h1 hv h2 h4 h5 (by omega)
          rw [Int.toNat_of_nonneg h3] at this
          exact this
        · cases h
      · cases h
    · cases h
  · split at h
    · rename_i hf; subst hf
      unfold uW at h
      split at h
      · split at h
        · split at h
          · rename_i hl hc
            obtain ⟨h1, h2, h3, h4, h5⟩ := hc
            cases h
            have := delete_sl (q := q) (i := Int.toNat _) (j := Int.toNat _) hl h1 (Int.toNat_le_toNat h3) (by omega) h5
            rw [Int.toNat_of_nonneg h2, Int.toNat_of_nonneg (by omega)] at this
            exact this
          · cases h
        · cases h
      · cases h
    · cases h
end
/-! slices.Clone at nothing: no capacity is left. -/
section
open Go.RowKit Go.Lib
section
set_option maxHeartbeats 4000000
theorem clone_walk (A : Option Addr) (c : Nat) (w : World) : Calls Try.prog 58 #[.slice A 0 c] w fun e w' => ∃ B, e = .returned (.slice B 0 0) ∧ (w' = w ∨ w' = w.alloc (.cells #[] 24 (0, 0))) := by
  have mixed : Try.prog.follows .mixedOrders = true := by kernel_rfl
  obtain ⟨I, hinfo, hz, hsz, hby⟩ := gQ
  have he : ∀ (B : Option Addr) w, (binOp .eql 41 (.slice B 0 c) (.slice none 0 0)).run Try.prog w = .ok (.bool B.isNone) w := fun B w => Lib.run_eql_slice_nil w 41 24 B 0 c 0 0 Try.underlying41
  cases A with
  | none =>
    have he' := he none
    simp only [Option.isNone_none] at he'
    clear he
    go_enter Try.func58, Try.ntmps58
    go_wp2
    go_ret
    exact ⟨_, rfl, .inl rfl⟩
  | some ad =>
    have he' := he (some ad)
    simp only [Option.isNone_some] at he'
    clear he
    go_enter Try.func58, Try.ntmps58
    go_wp2
    go_ret
    exact ⟨_, rfl, .inr rfl⟩
end
theorem clone_callable : fG Try.prog 58 := ⟨_, Try.func58, by kernel_rfl, by kernel_rfl⟩
theorem clone_empty {H : aB} {q : Lab} {x : AV} (hx0 : x = .isl 1 [] ∨ x = .nils ∨ x = .sl0) : aK Try.prog 58 [x] H q ⟨.sl0, [], some []⟩ := by
  refine ⟨clone_callable, fun l hl => absurd hl (aF l), fun ρ R vals hvs w hR hfr => ?_⟩
  obtain ⟨v0, vals, rfl, hx, hvs⟩ := hvs.head
  obtain rfl : vals = [] := List.length_eq_zero_iff.1 hvs.1
  obtain ⟨A, c, rfl⟩ : ∃ A c, v0 = .slice A 0 c := by
    rcases hx0 with rfl | rfl | rfl
    · rcases hx.isl_inv with ⟨b, o, cap, cc, T, fz, g, _, _, _, _, _, rfl⟩ | ⟨_, ad, cap, _, rfl⟩
      · exact ⟨_, _, rfl⟩
      · exact ⟨_, _, rfl⟩
    · cases hx; exact ⟨_, _, rfl⟩
    · cases hx; exact ⟨_, _, rfl⟩
  refine (clone_walk A c w).mono ?_
  rintro e w' ⟨B, rfl, rfl | rfl⟩
  · exact ⟨_, rfl, ρ, R, Fut.refl _ _ _ _ _, .sl0 _, hR⟩
  · have hqf : ρ q = none := hfr q (.self q)
    have hO : RepO ρ R ⟨w.heap.size, 0, 0, 0⟩ (.rows 1 []) (.cells #[] 24 (0, 0)) := ⟨rfl, rfl, by simp, ⟨rfl, by simp⟩, fun i j x hx => by simp [aC] at hx⟩
    obtain ⟨hF, hRep⟩ := fR (W := Under q) hR hqf (Under.self q) (O := .cells #[] 24 (0, 0)) (o := .rows 1 []) (L := ⟨w.heap.size, 0, 0, 0⟩) rfl hO
    exact ⟨_, rfl, _, R, hF, .sl0 _, hRep.drop (fun l o h => by simp [restr, upd] at h)⟩
end
end Go.Proofs.Ytigjoggpaamodaa
/-! weave: callees as they were proved, for runs. -/
namespace Go.Proofs.Ytigjoggpaamodaa
set_option linter.unusedVariables false
set_option linter.unusedSimpArgs false
set_option maxRecDepth 100000
theorem nX {P : Program} {f : Nat} {A : AFun} (hA : FunOk P f A) {xs : List AV} {H : aB} {q : Lab} {y : AV} (h : Fresh q 0 H → aK P f xs H q ⟨y, [], none⟩) : aK P f xs H q ⟨y, [], none⟩ := by
  obtain ⟨fn, c, hf, hb, hn, _⟩ := hA.ex
  refine ⟨⟨fn, hf, by rw [hb]; rfl, hn⟩, fun l hl => absurd hl (aF l), fun ρ R vs hvs w hR hfr => ?_⟩
  refine (h (p7 fun l hl => ?_)).2.2 ρ R vs hvs w hR hfr
  cases hx : H l with
  | none => rfl
  | some o =>
    obtain ⟨L, O, h1, _⟩ := hR.own l o hx
    rw [hfr l hl] at h1; cases h1
def plF (xs : List AV) (H : aB) : Option Res := match xs with
  | [.nilp, .agg [.int .i64 t, .int .i64 s]] => some ⟨.tuple [.int .i64 0, .bool false], [], some []⟩
  | [.ptr ll 1 0 0, .agg [.int .i64 t, .int .i64 s]] => (e9 H ll 64 (0, 0)).bind fun ys => if ys.length ≤ 1000000000 then some ⟨plA ys (t, s), [], none⟩ else none
  | _ => none
def elF (xs : List AV) (H : aB) : Option Res := match xs with
  | [.nilp] => some ⟨.nils, [], some []⟩
  | [.ptr ll 1 0 0] => (e9 H ll 64 (0, 0)).bind fun ys => if ys.length ≤ 1000000000 then some ⟨.isl 6 (cW ys), [], none⟩ else none
  | _ => none
def r2 : aQ := fun f xs H q => if f = 19 then plF xs H else if f = 22 then elF xs H else uR f xs H q
theorem extY_ok : aY Try.prog r2 := oL fun f xs H q r h => by
  unfold r2 at h
  split at h
  · rename_i hf; subst hf
    unfold plF at h
    split at h
    · cases h; exact place_nil (k := (_, _)) H q
    · simp only [Option.bind_eq_some_iff] at h
      obtain ⟨ys, hw, h⟩ := h
      split at h
      · cases h; exact nX uQ fun hf => place_sound (k := (_, _)) hw (by assumption) hf
      · cases h
    · cases h
  split at h
  · rename_i hf; subst hf
    unfold elF at h
    split at h
    · cases h; exact elements_nil H q
    · simp only [Option.bind_eq_some_iff] at h
      obtain ⟨ys, hw, h⟩ := h
      split at h
      · cases h; exact nX uP fun hf => elements_sound hw (by assumption) hf
      · cases h
    · cases h
  · exact extI_ok f xs H q r h
end Go.Proofs.Ytigjoggpaamodaa
/-! The program's functions in the abstract machine's terms. -/
namespace Go.Proofs.Ytigjoggpaamodaa.RunC1
set_option maxRecDepth 100000
set_option linter.unusedVariables false
set_option linter.unusedSimpArgs false
/-- duet/duetlaw11.WeaveNil -/
def c4 : AFun := ⟨1, 55, [.tmp 2],
  (.seq (.region [⟨(some 1), none, .box, [.t 0]⟩, ⟨(some 2), none, .move, [.c (.bool false)]⟩] none [1])
  (.seq (.region [⟨(some 3), none, .move, [.c .nilp]⟩] none [1, 3])
  (.seq (.region [⟨(some 7), none, .move, [.t 3]⟩, ⟨(some 8), none, (.fieldAddr 1), [.t 1]⟩, ⟨(some 9), none, (.load 2 true), [.t 8]⟩, ⟨(some 10), none, .call, [.c (.fn (.func 19) [] []), .t 7, .t 9]⟩, ⟨(some 6), none, .move, [.t 10]⟩, ⟨(some 11), none, (.extract 0), [.t 6]⟩, ⟨(some 12), none, (.extract 1), [.t 6]⟩, ⟨(some 4), none, .move, [.t 11]⟩, ⟨(some 5), none, .move, [.t 12]⟩] none [1, 3, 5])
  (.seq (.region [⟨(some 13), none, .move, [.t 3]⟩, ⟨(some 14), none, (.fieldAddr 1), [.t 1]⟩, ⟨(some 15), none, (.load 2 true), [.t 14]⟩, ⟨(some 16), none, (.fieldAddr 3), [.t 1]⟩, ⟨(some 17), none, (.load 2 true), [.t 16]⟩, ⟨(some 18), none, (.fieldAddr 5), [.t 1]⟩, ⟨(some 19), none, (.load 1 false), [.t 18]⟩, ⟨(some 20), none, .call, [.c (.fn (.func 17) [] []), .t 13, .t 15, .t 17, .t 19]⟩, ⟨(some 21), none, (.bin .eql .num), [.t 20, .c (.int .i64 1)]⟩, ⟨(some 22), none, .move, [.t 21]⟩, ⟨(some 23), (some (22, true)), .move, [.t 3]⟩, ⟨(some 24), (some (22, true)), (.fieldAddr 1), [.t 1]⟩, ⟨(some 25), (some (22, true)), (.load 2 true), [.t 24]⟩, ⟨(some 26), (some (22, true)), .call, [.c (.fn (.func 15) [] []), .t 23, .t 25]⟩, ⟨(some 27), (some (22, true)), (.bin .eql .num), [.t 26, .c (.int .i64 1)]⟩, ⟨(some 28), none, .pick, [.t 22, .t 27, .c (.bool false)]⟩, ⟨(some 29), none, .move, [.t 28]⟩, ⟨(some 30), (some (29, true)), .move, [.t 5]⟩, ⟨(some 31), (some (29, true)), (.un .not), [.t 30]⟩, ⟨(some 32), none, .pick, [.t 29, .t 31, .c (.bool false)]⟩, ⟨(some 33), none, .move, [.t 32]⟩, ⟨(some 34), (some (33, true)), .move, [.t 3]⟩, ⟨(some 35), (some (33, true)), .call, [.c (.fn (.func 22) [] []), .t 34]⟩, ⟨(some 36), (some (33, true)), (.len .slice), [.t 35]⟩, ⟨(some 37), (some (33, true)), (.bin .eql .num), [.t 36, .c (.int .i64 0)]⟩, ⟨(some 38), none, .pick, [.t 33, .t 37, .c (.bool false)]⟩, ⟨(some 39), none, .move, [.t 38]⟩, ⟨(some 40), (some (39, true)), .move, [.t 3]⟩, ⟨(some 41), (some (39, true)), (.fieldAddr 3), [.t 1]⟩, ⟨(some 42), (some (39, true)), (.load 2 true), [.t 41]⟩, ⟨(some 43), (some (39, true)), .call, [.c (.fn (.func 25) [] []), .t 40, .t 42]⟩, ⟨(some 44), (some (39, true)), (.len .slice), [.t 43]⟩, ⟨(some 45), (some (39, true)), (.bin .eql .num), [.t 44, .c (.int .i64 0)]⟩, ⟨(some 46), none, .pick, [.t 39, .t 45, .c (.bool false)]⟩, ⟨(some 47), none, .move, [.t 46]⟩, ⟨(some 48), (some (47, true)), .move, [.t 3]⟩, ⟨(some 49), (some (47, true)), .call, [.c (.fn (.func 27) [] []), .t 48]⟩, ⟨(some 50), (some (47, true)), (.bin .eql .num), [.t 49, .c (.int .i64 0)]⟩, ⟨(some 51), none, .pick, [.t 47, .t 50, .c (.bool false)]⟩, ⟨(some 52), none, .move, [.t 51]⟩, ⟨(some 53), (some (52, true)), .call, [.c (.fn (.func 28) [] [])]⟩, ⟨(some 54), none, .pick, [.t 52, .t 53, .c (.bool false)]⟩, ⟨(some 2), none, .move, [.t 54]⟩] none [2])
  .ret))))⟩
theorem ok4 : FunOk Try.prog 4 c4 := ⟨⟨Try.f4, _, Try.func4, rfl, by kernel_rfl, by kernel_rfl, by kernel_rfl, by kernel_rfl⟩, by decide⟩
/-- duet/weave.New -/
def c14 : AFun := ⟨0, 8, [.tmp 0],
  (.seq (.region [⟨(some 0), none, .move, [.c .nilp]⟩] none [])
  (.seq (.region [⟨(some 1), none, .mkmap, []⟩, ⟨(some 2), none, (.build [(.int .i64 0), (.int .i64 0)] []), []⟩, ⟨(some 3), none, (.build [(.int .i64 0), (.int .i64 0), (.int .i64 0), (.int .i64 0), (.int .i64 0), .nils, .nils] []), []⟩, ⟨(some 4), none, .box, [.t 3]⟩, ⟨none, none, (.mapUpdate true [.int, .int]), [.t 1, .t 2, .t 4]⟩, ⟨(some 5), none, .move, [.t 1]⟩, ⟨(some 6), none, (.build [.nilm] [(0, 1)]), [.t 5]⟩, ⟨(some 7), none, .box, [.t 6]⟩, ⟨(some 0), none, .move, [.t 7]⟩] none [0])
  .ret))⟩
theorem ok14 : FunOk Try.prog 14 c14 := ⟨⟨Try.f14, _, Try.func14, rfl, by kernel_rfl, by kernel_rfl, by kernel_rfl, by kernel_rfl⟩, by decide⟩
/-- (*duet/weave.Line).Drop -/
def c15 : AFun := ⟨2, 68, [.tmp 4],
  (.seq (.region [⟨(some 3), none, .box, [.t 1]⟩, ⟨(some 4), none, .move, [.c (.int .i64 0)]⟩] none [0, 3])
  (.seq (.block 0 (.seq (.region [⟨(some 9), none, .move, [.t 0]⟩, ⟨(some 10), none, (.bin .eql .ptr), [.t 9, .c .nilp]⟩, ⟨(some 8), none, .move, [.t 10]⟩] none [0, 3, 8])
  (.cond (.t 8) (.seq (.region [⟨(some 4), none, .move, [.c (.int .i64 1)]⟩] none [4])
  .ret)
  (.seq (.region [⟨(some 12), none, .move, [.t 0]⟩, ⟨(some 13), none, (.load 2 true), [.t 3]⟩, ⟨(some 14), none, .call, [.c (.fn (.func 45) [] []), .t 12, .t 13]⟩, ⟨(some 15), none, (.un .not), [.t 14]⟩, ⟨(some 11), none, .move, [.t 15]⟩] none [0, 3, 11])
  (.cond (.t 11) (.seq (.region [⟨(some 4), none, .move, [.c (.int .i64 6)]⟩] none [4])
  .ret)
  (.seq (.region [⟨(some 17), none, .move, [.t 0]⟩, ⟨(some 18), none, .nilCheck, [.t 17]⟩, ⟨(some 19), none, (.fieldAddr 0), [.t 18]⟩, ⟨(some 20), none, (.load 1 false), [.t 19]⟩, ⟨(some 21), none, (.load 2 true), [.t 3]⟩, ⟨(some 22), none, (.lookup true [.int, .int] .nilp false), [.t 20, .t 21]⟩, ⟨(some 23), none, .nilCheck, [.t 22]⟩, ⟨(some 24), none, (.fieldAddr 6), [.t 23]⟩, ⟨(some 25), none, (.load 1 false), [.t 24]⟩, ⟨(some 26), none, (.len .slice), [.t 25]⟩, ⟨(some 27), none, (.bin .gtr .num), [.t 26, .c (.int .i64 0)]⟩, ⟨(some 16), none, .move, [.t 27]⟩] (some [0, 1, 3, 7, 0, 31, 63, 127, 255, 511, 1023, 2047]) [0, 3, 16])
  (.cond (.t 16) (.seq (.region [⟨(some 4), none, .move, [.c (.int .i64 8)]⟩] none [4])
  .ret)
  .skip)))))))
  (.seq (.region [⟨(some 28), none, .move, [.t 0]⟩, ⟨(some 29), none, .nilCheck, [.t 28]⟩, ⟨(some 30), none, (.fieldAddr 0), [.t 29]⟩, ⟨(some 31), none, (.load 1 false), [.t 30]⟩, ⟨(some 32), none, .move, [.t 0]⟩, ⟨(some 33), none, .nilCheck, [.t 32]⟩, ⟨(some 34), none, (.fieldAddr 0), [.t 33]⟩, ⟨(some 35), none, (.load 1 false), [.t 34]⟩, ⟨(some 36), none, (.load 2 true), [.t 3]⟩, ⟨(some 37), none, (.lookup true [.int, .int] .nilp false), [.t 35, .t 36]⟩, ⟨(some 38), none, .nilCheck, [.t 37]⟩, ⟨(some 39), none, (.fieldAddr 0), [.t 38]⟩, ⟨(some 40), none, (.fieldAddr 2), [.t 39]⟩, ⟨(some 41), none, (.load 2 true), [.t 40]⟩, ⟨(some 42), none, (.lookup true [.int, .int] .nilp false), [.t 31, .t 41]⟩, ⟨(some 5), none, .move, [.t 42]⟩] (some [0, 1, 3, 7, 0, 16, 48, 112, 0, 496, 1008, 2032, 4080, 8176, 16383, 32767]) [0, 3, 5])
  (.seq (.region [⟨(some 44), none, .move, [.t 5]⟩, ⟨(some 45), none, .nilCheck, [.t 44]⟩, ⟨(some 46), none, (.fieldAddr 6), [.t 45]⟩, ⟨(some 47), none, (.load 1 false), [.t 46]⟩, ⟨(some 48), none, (.load 2 true), [.t 3]⟩, ⟨(some 49), none, .call, [.c (.fn (.func 46) [] []), .t 47, .t 48, .c (.fn (.func 47) [] [])]⟩, ⟨(some 43), none, .move, [.t 49]⟩, ⟨(some 50), none, (.extract 0), [.t 43]⟩, ⟨(some 51), none, (.extract 1), [.t 43]⟩, ⟨(some 6), none, .move, [.t 50]⟩, ⟨(some 7), none, .move, [.t 51]⟩] (some [0, 1, 3, 7, 0, 31, 63, 127, 127, 255, 1023]) [0, 3, 5, 6])
  (.seq (.region [⟨(some 52), none, .move, [.t 5]⟩, ⟨(some 53), none, .move, [.t 5]⟩, ⟨(some 54), none, .nilCheck, [.t 53]⟩, ⟨(some 55), none, (.fieldAddr 6), [.t 54]⟩, ⟨(some 56), none, (.load 1 false), [.t 55]⟩, ⟨(some 57), none, .move, [.t 6]⟩, ⟨(some 58), none, .move, [.t 6]⟩, ⟨(some 59), none, (.bin .add .num), [.t 58, .c (.int .i64 1)]⟩, ⟨(some 60), none, .call, [.c (.fn (.func 48) [] []), .t 56, .t 57, .t 59]⟩, ⟨(some 61), none, .nilCheck, [.t 52]⟩, ⟨(some 62), none, (.fieldAddr 6), [.t 61]⟩, ⟨none, none, (.store 1), [.t 62, .t 60]⟩] none [0, 3])
  (.seq (.region [⟨(some 63), none, .move, [.t 0]⟩, ⟨(some 64), none, .nilCheck, [.t 63]⟩, ⟨(some 65), none, (.fieldAddr 0), [.t 64]⟩, ⟨(some 66), none, (.load 1 false), [.t 65]⟩, ⟨(some 67), none, (.load 2 true), [.t 3]⟩, ⟨none, none, (.delete true [.int, .int]), [.t 66, .t 67]⟩] (some [0, 1, 3, 7, 0, 31]) [])
  (.seq (.region [⟨(some 4), none, .move, [.c (.int .i64 0)]⟩] none [4])
  .ret)))))))⟩
theorem ok15 : FunOk Try.prog 15 c15 := ⟨⟨Try.f15, _, Try.func15, rfl, by kernel_rfl, by kernel_rfl, by kernel_rfl, by kernel_rfl⟩, by decide⟩
/-- (*duet/weave.Line).Insert -/
def c17 : AFun := ⟨4, 98, [.tmp 8],
  (.seq (.region [⟨(some 5), none, .box, [.t 1]⟩, ⟨(some 6), none, .box, [.t 2]⟩, ⟨(some 8), none, .move, [.c (.int .i64 0)]⟩] none [0, 3, 5, 6])
  (.seq (.region [⟨(some 13), none, (.load 2 true), [.t 6]⟩, ⟨(some 14), none, (.build [(.int .i64 0), (.int .i64 0)] []), []⟩, ⟨(some 15), none, (.eqs .eql [.int, .int]), [.t 13, .t 14]⟩, ⟨(some 9), none, .move, [.t 15]⟩] none [0, 3, 5, 6, 9])
  (.seq (.block 0 (.seq (.region [⟨(some 17), none, .move, [.t 0]⟩, ⟨(some 18), none, (.bin .eql .ptr), [.t 17, .c .nilp]⟩, ⟨(some 19), none, .move, [.t 18]⟩, ⟨(some 20), (some (19, false)), (.load 2 true), [.t 5]⟩, ⟨(some 21), (some (19, false)), .call, [.c (.fn (.func 30) [] []), .t 20]⟩, ⟨(some 22), (some (19, false)), (.bin .neq .num), [.t 21, .c (.int .i64 0)]⟩, ⟨(some 23), none, .pick, [.t 19, .c (.bool true), .t 22]⟩, ⟨(some 24), none, .move, [.t 23]⟩, ⟨(some 25), (some (24, false)), .move, [.t 3]⟩, ⟨(some 26), (some (24, false)), .call, [.c (.fn (.func 50) [] []), .t 25]⟩, ⟨(some 27), (some (24, false)), (.un .not), [.t 26]⟩, ⟨(some 28), none, .pick, [.t 24, .c (.bool true), .t 27]⟩, ⟨(some 16), none, .move, [.t 28]⟩] none [0, 3, 5, 6, 9, 16])
  (.cond (.t 16) (.seq (.region [⟨(some 8), none, .move, [.c (.int .i64 1)]⟩] none [8])
  .ret)
  (.seq (.region [⟨(some 30), none, .move, [.t 9]⟩, ⟨(some 31), none, (.un .not), [.t 30]⟩, ⟨(some 32), none, .move, [.t 31]⟩, ⟨(some 33), (some (32, true)), (.load 2 true), [.t 6]⟩, ⟨(some 34), (some (32, true)), .call, [.c (.fn (.func 30) [] []), .t 33]⟩, ⟨(some 35), (some (32, true)), (.bin .neq .num), [.t 34, .c (.int .i64 0)]⟩, ⟨(some 36), (some (32, true)), .move, [.t 35]⟩, ⟨(some 37), (some (36, false)), (.fieldAddr 0), [.t 6]⟩, ⟨(some 38), (some (36, false)), (.load 1 false), [.t 37]⟩, ⟨(some 39), (some (36, false)), (.fieldAddr 0), [.t 5]⟩, ⟨(some 40), (some (36, false)), (.load 1 false), [.t 39]⟩, ⟨(some 41), (some (36, false)), (.bin .geq .num), [.t 38, .t 40]⟩, ⟨(some 42), (some (32, true)), .pick, [.t 36, .c (.bool true), .t 41]⟩, ⟨(some 43), none, .pick, [.t 32, .t 42, .c (.bool false)]⟩, ⟨(some 29), none, .move, [.t 43]⟩] none [0, 3, 5, 6, 9, 29])
  (.cond (.t 29) (.seq (.region [⟨(some 8), none, .move, [.c (.int .i64 1)]⟩] none [8])
  .ret)
  (.seq (.region [⟨(some 45), none, .move, [.t 0]⟩, ⟨(some 46), none, (.load 2 true), [.t 5]⟩, ⟨(some 47), none, .call, [.c (.fn (.func 45) [] []), .t 45, .t 46]⟩, ⟨(some 44), none, .move, [.t 47]⟩] none [0, 3, 5, 6, 9, 44])
  (.cond (.t 44) (.seq (.region [⟨(some 8), none, .move, [.c (.int .i64 7)]⟩] none [8])
  .ret)
  (.seq (.region [⟨(some 49), none, .move, [.t 9]⟩, ⟨(some 50), none, (.un .not), [.t 49]⟩, ⟨(some 51), none, .move, [.t 50]⟩, ⟨(some 52), (some (51, true)), .move, [.t 0]⟩, ⟨(some 53), (some (51, true)), (.load 2 true), [.t 6]⟩, ⟨(some 54), (some (51, true)), .call, [.c (.fn (.func 45) [] []), .t 52, .t 53]⟩, ⟨(some 55), (some (51, true)), (.un .not), [.t 54]⟩, ⟨(some 56), none, .pick, [.t 51, .t 55, .c (.bool false)]⟩, ⟨(some 48), none, .move, [.t 56]⟩] none [0, 3, 5, 6, 48])
  (.cond (.t 48) (.seq (.region [⟨(some 8), none, .move, [.c (.int .i64 6)]⟩] none [8])
  .ret)
  (.seq (.region [⟨(some 58), none, .move, [.t 0]⟩, ⟨(some 59), none, .call, [.c (.fn (.func 27) [] []), .t 58]⟩, ⟨(some 60), none, (.bin .eql .num), [.t 59, .c (.int .i64 4096)]⟩, ⟨(some 57), none, .move, [.t 60]⟩] none [0, 3, 5, 6, 57])
  (.cond (.t 57) (.seq (.region [⟨(some 8), none, .move, [.c (.int .i64 5)]⟩] none [8])
  .ret)
  .skip)))))))))))
  (.seq (.region [⟨(some 61), none, .move, [.t 0]⟩, ⟨(some 62), none, .nilCheck, [.t 61]⟩, ⟨(some 63), none, (.fieldAddr 0), [.t 62]⟩, ⟨(some 64), none, (.load 1 false), [.t 63]⟩, ⟨(some 65), none, (.load 2 true), [.t 6]⟩, ⟨(some 66), none, (.lookup true [.int, .int] .nilp false), [.t 64, .t 65]⟩, ⟨(some 10), none, .move, [.t 66]⟩] (some [0, 1, 3, 7, 0, 31, 63]) [0, 3, 5, 6, 10])
  (.seq (.region [⟨(some 68), none, .move, [.t 10]⟩, ⟨(some 69), none, .nilCheck, [.t 68]⟩, ⟨(some 70), none, (.fieldAddr 6), [.t 69]⟩, ⟨(some 71), none, (.load 1 false), [.t 70]⟩, ⟨(some 72), none, (.load 2 true), [.t 5]⟩, ⟨(some 73), none, .call, [.c (.fn (.func 46) [] []), .t 71, .t 72, .c (.fn (.func 47) [] [])]⟩, ⟨(some 67), none, .move, [.t 73]⟩, ⟨(some 74), none, (.extract 0), [.t 67]⟩, ⟨(some 75), none, (.extract 1), [.t 67]⟩, ⟨(some 11), none, .move, [.t 74]⟩, ⟨(some 12), none, .move, [.t 75]⟩] (some [0, 1, 3, 7, 0, 31, 63, 127, 127, 255, 1023]) [0, 3, 5, 6, 10, 11])
  (.seq (.region [⟨(some 76), none, .move, [.t 10]⟩, ⟨(some 77), none, .move, [.t 10]⟩, ⟨(some 78), none, .nilCheck, [.t 77]⟩, ⟨(some 79), none, (.fieldAddr 6), [.t 78]⟩, ⟨(some 80), none, (.load 1 false), [.t 79]⟩, ⟨(some 81), none, .move, [.t 11]⟩, ⟨(some 82), none, (.load 2 true), [.t 5]⟩, ⟨(some 83), none, (.buildSlice 2 [(.int .i64 0), (.int .i64 0)] [(0, 2)]), [.t 82]⟩, ⟨(some 84), none, .call, [.c (.fn (.func 51) [] []), .t 80, .t 81, .t 83]⟩, ⟨(some 85), none, .nilCheck, [.t 76]⟩, ⟨(some 86), none, (.fieldAddr 6), [.t 85]⟩, ⟨none, none, (.store 1), [.t 86, .t 84]⟩] (some [0, 0, 2, 6, 14, 0, 0, 64, 254, 511, 1023, 2047]) [0, 3, 5, 6])
  (.seq (.region [⟨(some 87), none, .move, [.t 0]⟩, ⟨(some 88), none, .nilCheck, [.t 87]⟩, ⟨(some 89), none, (.fieldAddr 0), [.t 88]⟩, ⟨(some 90), none, (.load 1 false), [.t 89]⟩, ⟨(some 91), none, (.load 2 true), [.t 5]⟩, ⟨(some 92), none, (.load 2 true), [.t 5]⟩, ⟨(some 93), none, (.load 2 true), [.t 6]⟩, ⟨(some 94), none, .move, [.t 3]⟩, ⟨(some 95), none, (.build [(.int .i64 0), (.int .i64 0), (.int .i64 0), (.int .i64 0), (.int .i64 0), .nils] [(0, 2), (2, 2), (4, 1)]), [.t 92, .t 93, .t 94]⟩, ⟨(some 96), none, (.build [(.int .i64 0), (.int .i64 0), (.int .i64 0), (.int .i64 0), (.int .i64 0), .nils, .nils] [(0, 6)]), [.t 95]⟩, ⟨(some 97), none, .box, [.t 96]⟩, ⟨none, none, (.mapUpdate true [.int, .int]), [.t 90, .t 91, .t 97]⟩] (some [0, 1, 3, 7, 0, 0, 0, 0, 224, 480, 992, 2047]) [])
  (.seq (.region [⟨(some 8), none, .move, [.c (.int .i64 0)]⟩] none [8])
  .ret))))))))⟩
theorem ok17 : FunOk Try.prog 17 c17 := ⟨⟨Try.f17, _, Try.func17, rfl, by kernel_rfl, by kernel_rfl, by kernel_rfl, by kernel_rfl⟩, by decide⟩
/-- duet/duetref10.Same -/
def c24 : AFun := ⟨2, 26, [.tmp 4],
  (.seq (.region [⟨(some 4), none, .move, [.c (.bool false)]⟩] none [0, 1])
  (.seq (.seq (.region [⟨(some 6), none, .move, [.t 0]⟩, ⟨(some 7), none, (.len .slice), [.t 6]⟩, ⟨(some 8), none, .move, [.t 1]⟩, ⟨(some 9), none, (.len .slice), [.t 8]⟩, ⟨(some 10), none, (.bin .neq .num), [.t 7, .t 9]⟩] none [0, 1, 10])
  (.cond (.t 10) (.seq (.region [⟨(some 4), none, .move, [.c (.bool false)]⟩] none [4])
  .ret)
  .skip))
  (.seq (.seq (.region [⟨(some 5), none, .move, [.c (.int .i64 0)]⟩] none [0, 1, 5])
  (.block 0 (.loop [0, 1, 5] (.seq (.seq (.region [⟨(some 11), none, .move, [.t 5]⟩, ⟨(some 12), none, .move, [.t 0]⟩, ⟨(some 13), none, (.len .slice), [.t 12]⟩, ⟨(some 14), none, (.bin .lss .num), [.t 11, .t 13]⟩] none [0, 1, 5, 14])
  (.cond (.t 14) .skip
  (.exit 0)))
  (.seq (.block 1 (.seq (.region [⟨(some 17), none, .move, [.t 0]⟩, ⟨(some 18), none, .move, [.t 5]⟩, ⟨(some 19), none, (.indexAddr 2), [.t 17, .t 18]⟩, ⟨(some 20), none, (.load 2 true), [.t 19]⟩, ⟨(some 21), none, .move, [.t 1]⟩, ⟨(some 22), none, .move, [.t 5]⟩, ⟨(some 23), none, (.indexAddr 2), [.t 21, .t 22]⟩, ⟨(some 24), none, (.load 2 true), [.t 23]⟩, ⟨(some 25), none, (.eqs .neq [.int, .int]), [.t 20, .t 24]⟩] (some [0, 0, 3, 7, 0, 0, 48, 112, 255]) [0, 1, 5, 25])
  (.cond (.t 25) (.seq (.region [⟨(some 4), none, .move, [.c (.bool false)]⟩] none [4])
  .ret)
  .skip)))
  (.region [⟨(some 15), none, .move, [.t 5]⟩, ⟨(some 16), none, (.bin .add .num), [.t 15, .c (.int .i64 1)]⟩, ⟨(some 5), none, .move, [.t 16]⟩] none [0, 1, 5]))))))
  (.seq (.region [⟨(some 4), none, .move, [.c (.bool true)]⟩] none [4])
  .ret))))⟩
theorem ok24 : FunOk Try.prog 24 c24 := ⟨⟨Try.f24, _, Try.func24, rfl, by kernel_rfl, by kernel_rfl, by kernel_rfl, by kernel_rfl⟩, by decide⟩
/-- (*duet/weave.Line).Kids -/
def c25 : AFun := ⟨2, 26, [.tmp 4],
  (.seq (.region [⟨(some 3), none, .box, [.t 1]⟩, ⟨(some 4), none, .move, [.c .nils]⟩] none [0, 3])
  (.seq (.seq (.region [⟨(some 5), none, .move, [.t 0]⟩, ⟨(some 6), none, (.bin .eql .ptr), [.t 5, .c .nilp]⟩, ⟨(some 7), none, .move, [.t 6]⟩, ⟨(some 8), (some (7, false)), .move, [.t 0]⟩, ⟨(some 9), (some (7, false)), .nilCheck, [.t 8]⟩, ⟨(some 10), (some (7, false)), (.fieldAddr 0), [.t 9]⟩, ⟨(some 11), (some (7, false)), (.load 1 false), [.t 10]⟩, ⟨(some 12), (some (7, false)), (.load 2 true), [.t 3]⟩, ⟨(some 13), (some (7, false)), (.lookup true [.int, .int] .nilp false), [.t 11, .t 12]⟩, ⟨(some 14), (some (7, false)), (.bin .eql .ptr), [.t 13, .c .nilp]⟩, ⟨(some 15), none, .pick, [.t 7, .c (.bool true), .t 14]⟩] (some [0, 1, 3, 7, 15, 31, 63, 7, 255, 511, 1023]) [0, 3, 15])
  (.cond (.t 15) (.seq (.region [⟨(some 4), none, .move, [.c .nils]⟩] none [4])
  .ret)
  .skip))
  (.seq (.region [⟨(some 16), none, .move, [.t 0]⟩, ⟨(some 17), none, .nilCheck, [.t 16]⟩, ⟨(some 18), none, (.fieldAddr 0), [.t 17]⟩, ⟨(some 19), none, (.load 1 false), [.t 18]⟩, ⟨(some 20), none, (.load 2 true), [.t 3]⟩, ⟨(some 21), none, (.lookup true [.int, .int] .nilp false), [.t 19, .t 20]⟩, ⟨(some 22), none, .nilCheck, [.t 21]⟩, ⟨(some 23), none, (.fieldAddr 6), [.t 22]⟩, ⟨(some 24), none, (.load 1 false), [.t 23]⟩, ⟨(some 25), none, .call, [.c (.fn (.func 58) [] []), .t 24]⟩, ⟨(some 4), none, .move, [.t 25]⟩] (some [0, 1, 3, 7, 0, 31, 63, 127, 255, 511, 1023]) [4])
  .ret)))⟩
theorem ok25 : FunOk Try.prog 25 c25 := ⟨⟨Try.f25, _, Try.func25, rfl, by kernel_rfl, by kernel_rfl, by kernel_rfl, by kernel_rfl⟩, by decide⟩
/-- (*duet/weave.Line).Len -/
def c27 : AFun := ⟨1, 11, [.tmp 2],
  (.seq (.region [⟨(some 2), none, .move, [.c (.int .i64 0)]⟩] none [0])
  (.seq (.seq (.region [⟨(some 3), none, .move, [.t 0]⟩, ⟨(some 4), none, (.bin .eql .ptr), [.t 3, .c .nilp]⟩] none [0, 4])
  (.cond (.t 4) (.seq (.region [⟨(some 2), none, .move, [.c (.int .i64 0)]⟩] none [2])
  .ret)
  .skip))
  (.seq (.region [⟨(some 5), none, .move, [.t 0]⟩, ⟨(some 6), none, .nilCheck, [.t 5]⟩, ⟨(some 7), none, (.fieldAddr 0), [.t 6]⟩, ⟨(some 8), none, (.load 1 false), [.t 7]⟩, ⟨(some 9), none, (.len .map), [.t 8]⟩, ⟨(some 10), none, (.bin .sub .num), [.t 9, .c (.int .i64 1)]⟩, ⟨(some 2), none, .move, [.t 10]⟩] none [2])
  .ret)))⟩
theorem ok27 : FunOk Try.prog 27 c27 := ⟨⟨Try.f27, _, Try.func27, rfl, by kernel_rfl, by kernel_rfl, by kernel_rfl, by kernel_rfl⟩, by decide⟩
/-- duet/duetlaw11.live -/
def c28 : AFun := ⟨0, 118, [.tmp 0],
  (.seq (.region [⟨(some 0), none, .move, [.c (.bool false)]⟩] none [])
  (.seq (.region [⟨(some 11), none, .call, [.c (.fn (.func 14) [] [])]⟩, ⟨(some 1), none, .move, [.t 11]⟩] none [1])
  (.seq (.seq (.region [⟨(some 12), none, .move, [.t 1]⟩, ⟨(some 13), none, (.bin .eql .ptr), [.t 12, .c .nilp]⟩] none [1, 13])
  (.cond (.t 13) (.seq (.region [⟨(some 0), none, .move, [.c (.bool false)]⟩] none [0])
  .ret)
  .skip))
  (.seq (.region [⟨(some 14), none, .move, [.t 1]⟩, ⟨(some 15), none, .call, [.c (.fn (.func 31) [] []), .c (.int .i64 1), .c (.int .i64 0)]⟩, ⟨(some 16), none, (.build [(.int .i64 0), (.int .i64 0)] []), []⟩, ⟨(some 17), none, .call, [.c (.fn (.func 17) [] []), .t 14, .t 15, .t 16, .c (.int .i64 97)]⟩, ⟨(some 2), none, .move, [.t 17]⟩] none [1, 2])
  (.seq (.region [⟨(some 18), none, .move, [.t 1]⟩, ⟨(some 19), none, .call, [.c (.fn (.func 31) [] []), .c (.int .i64 2), .c (.int .i64 0)]⟩, ⟨(some 20), none, .call, [.c (.fn (.func 31) [] []), .c (.int .i64 1), .c (.int .i64 0)]⟩, ⟨(some 21), none, .call, [.c (.fn (.func 17) [] []), .t 18, .t 19, .t 20, .c (.int .i64 98)]⟩, ⟨(some 3), none, .move, [.t 21]⟩] none [1, 2, 3])
  (.seq (.region [⟨(some 22), none, .move, [.t 1]⟩, ⟨(some 23), none, .call, [.c (.fn (.func 31) [] []), .c (.int .i64 2), .c (.int .i64 1)]⟩, ⟨(some 24), none, (.build [(.int .i64 0), (.int .i64 0)] []), []⟩, ⟨(some 25), none, .call, [.c (.fn (.func 17) [] []), .t 22, .t 23, .t 24, .c (.int .i64 99)]⟩, ⟨(some 4), none, .move, [.t 25]⟩] none [1, 2, 3, 4])
  (.seq (.region [⟨(some 26), none, .move, [.t 1]⟩, ⟨(some 27), none, .call, [.c (.fn (.func 31) [] []), .c (.int .i64 2), .c (.int .i64 1)]⟩, ⟨(some 28), none, (.build [(.int .i64 0), (.int .i64 0)] []), []⟩, ⟨(some 29), none, .call, [.c (.fn (.func 17) [] []), .t 26, .t 27, .t 28, .c (.int .i64 99)]⟩, ⟨(some 5), none, .move, [.t 29]⟩] none [1, 2, 3, 4, 5])
  (.seq (.region [⟨(some 30), none, .move, [.t 1]⟩, ⟨(some 31), none, .call, [.c (.fn (.func 31) [] []), .c (.int .i64 5), .c (.int .i64 1)]⟩, ⟨(some 32), none, .call, [.c (.fn (.func 31) [] []), .c (.int .i64 4), .c (.int .i64 0)]⟩, ⟨(some 33), none, .call, [.c (.fn (.func 17) [] []), .t 30, .t 31, .t 32, .c (.int .i64 99)]⟩, ⟨(some 6), none, .move, [.t 33]⟩] none [1, 2, 3, 4, 5, 6])
  (.seq (.region [⟨(some 34), none, .move, [.t 1]⟩, ⟨(some 35), none, .call, [.c (.fn (.func 31) [] []), .c (.int .i64 1), .c (.int .i64 0)]⟩, ⟨(some 36), none, .call, [.c (.fn (.func 15) [] []), .t 34, .t 35]⟩, ⟨(some 7), none, .move, [.t 36]⟩] none [1, 2, 3, 4, 5, 6, 7])
  (.seq (.region [⟨(some 37), none, .move, [.t 1]⟩, ⟨(some 38), none, .call, [.c (.fn (.func 22) [] []), .t 37]⟩, ⟨(some 8), none, .move, [.t 38]⟩] none [1, 2, 3, 4, 5, 6, 7, 8])
  (.seq (.region [⟨(some 40), none, .move, [.t 1]⟩, ⟨(some 41), none, .call, [.c (.fn (.func 31) [] []), .c (.int .i64 2), .c (.int .i64 0)]⟩, ⟨(some 42), none, .call, [.c (.fn (.func 19) [] []), .t 40, .t 41]⟩, ⟨(some 39), none, .move, [.t 42]⟩, ⟨(some 43), none, (.extract 0), [.t 39]⟩, ⟨(some 44), none, (.extract 1), [.t 39]⟩, ⟨(some 9), none, .move, [.t 43]⟩, ⟨(some 10), none, .move, [.t 44]⟩] none [1, 2, 3, 4, 5, 6, 7, 8, 9, 10])
  (.seq (.seq (.region [⟨(some 45), none, .move, [.t 8]⟩, ⟨(some 46), none, (.len .slice), [.t 45]⟩, ⟨(some 47), none, (.bin .neq .num), [.t 46, .c (.int .i64 3)]⟩] none [1, 2, 3, 4, 5, 6, 7, 8, 9, 10, 47])
  (.cond (.t 47) (.seq (.region [⟨(some 0), none, .move, [.c (.bool false)]⟩] none [0])
  .ret)
  .skip))
  (.seq (.region [⟨(some 48), none, .move, [.t 2]⟩, ⟨(some 49), none, (.bin .eql .num), [.t 48, .c (.int .i64 0)]⟩, ⟨(some 50), none, .move, [.t 49]⟩, ⟨(some 51), (some (50, true)), .move, [.t 3]⟩, ⟨(some 52), (some (50, true)), (.bin .eql .num), [.t 51, .c (.int .i64 0)]⟩, ⟨(some 53), none, .pick, [.t 50, .t 52, .c (.bool false)]⟩, ⟨(some 54), none, .move, [.t 53]⟩, ⟨(some 55), (some (54, true)), .move, [.t 4]⟩, ⟨(some 56), (some (54, true)), (.bin .eql .num), [.t 55, .c (.int .i64 0)]⟩, ⟨(some 57), none, .pick, [.t 54, .t 56, .c (.bool false)]⟩, ⟨(some 58), none, .move, [.t 57]⟩, ⟨(some 59), (some (58, true)), .move, [.t 5]⟩, ⟨(some 60), (some (58, true)), (.bin .eql .num), [.t 59, .c (.int .i64 7)]⟩, ⟨(some 61), none, .pick, [.t 58, .t 60, .c (.bool false)]⟩, ⟨(some 62), none, .move, [.t 61]⟩, ⟨(some 63), (some (62, true)), .move, [.t 6]⟩, ⟨(some 64), (some (62, true)), (.bin .eql .num), [.t 63, .c (.int .i64 6)]⟩, ⟨(some 65), none, .pick, [.t 62, .t 64, .c (.bool false)]⟩, ⟨(some 66), none, .move, [.t 65]⟩, ⟨(some 67), (some (66, true)), .move, [.t 7]⟩, ⟨(some 68), (some (66, true)), (.bin .eql .num), [.t 67, .c (.int .i64 8)]⟩, ⟨(some 69), none, .pick, [.t 66, .t 68, .c (.bool false)]⟩, ⟨(some 70), none, .move, [.t 69]⟩, ⟨(some 71), (some (70, true)), .move, [.t 8]⟩, ⟨(some 72), (some (70, true)), (.indexAddr 6), [.t 71, .c (.int .i64 0)]⟩, ⟨(some 73), (some (70, true)), (.fieldAddr 4), [.t 72]⟩, ⟨(some 74), (some (70, true)), (.load 1 false), [.t 73]⟩, ⟨(some 75), (some (70, true)), (.bin .eql .num), [.t 74, .c (.int .i64 99)]⟩, ⟨(some 76), none, .pick, [.t 70, .t 75, .c (.bool false)]⟩, ⟨(some 77), none, .move, [.t 76]⟩, ⟨(some 78), (some (77, true)), .move, [.t 8]⟩, ⟨(some 79), (some (77, true)), (.indexAddr 6), [.t 78, .c (.int .i64 1)]⟩, ⟨(some 80), (some (77, true)), (.fieldAddr 4), [.t 79]⟩, ⟨(some 81), (some (77, true)), (.load 1 false), [.t 80]⟩, ⟨(some 82), (some (77, true)), (.bin .eql .num), [.t 81, .c (.int .i64 97)]⟩, ⟨(some 83), none, .pick, [.t 77, .t 82, .c (.bool false)]⟩, ⟨(some 84), none, .move, [.t 83]⟩, ⟨(some 85), (some (84, true)), .move, [.t 8]⟩, ⟨(some 86), (some (84, true)), (.indexAddr 6), [.t 85, .c (.int .i64 2)]⟩, ⟨(some 87), (some (84, true)), (.fieldAddr 4), [.t 86]⟩, ⟨(some 88), (some (84, true)), (.load 1 false), [.t 87]⟩, ⟨(some 89), (some (84, true)), (.bin .eql .num), [.t 88, .c (.int .i64 98)]⟩, ⟨(some 90), none, .pick, [.t 84, .t 89, .c (.bool false)]⟩, ⟨(some 91), none, .move, [.t 90]⟩, ⟨(some 92), (some (91, true)), .move, [.t 9]⟩, ⟨(some 93), (some (91, true)), (.bin .eql .num), [.t 92, .c (.int .i64 2)]⟩, ⟨(some 94), none, .pick, [.t 91, .t 93, .c (.bool false)]⟩, ⟨(some 95), none, .move, [.t 94]⟩, ⟨(some 96), (some (95, true)), .move, [.t 10]⟩, ⟨(some 97), none, .pick, [.t 95, .t 96, .c (.bool false)]⟩, ⟨(some 98), none, .move, [.t 97]⟩, ⟨(some 99), (some (98, true)), .move, [.t 1]⟩, ⟨(some 100), (some (98, true)), .call, [.c (.fn (.func 31) [] []), .c (.int .i64 2), .c (.int .i64 0)]⟩, ⟨(some 101), (some (98, true)), .call, [.c (.fn (.func 15) [] []), .t 99, .t 100]⟩, ⟨(some 102), (some (98, true)), (.bin .eql .num), [.t 101, .c (.int .i64 0)]⟩, ⟨(some 103), none, .pick, [.t 98, .t 102, .c (.bool false)]⟩, ⟨(some 104), none, .move, [.t 103]⟩, ⟨(some 105), (some (104, true)), .move, [.t 1]⟩, ⟨(some 106), (some (104, true)), .call, [.c (.fn (.func 27) [] []), .t 105]⟩, ⟨(some 107), (some (104, true)), (.bin .eql .num), [.t 106, .c (.int .i64 2)]⟩, ⟨(some 108), none, .pick, [.t 104, .t 107, .c (.bool false)]⟩, ⟨(some 109), none, .move, [.t 108]⟩, ⟨(some 110), (some (109, true)), .move, [.t 1]⟩, ⟨(some 111), (some (109, true)), (.build [(.int .i64 0), (.int .i64 0)] []), []⟩, ⟨(some 112), (some (109, true)), .call, [.c (.fn (.func 25) [] []), .t 110, .t 111]⟩, ⟨(some 113), (some (109, true)), .call, [.c (.fn (.func 31) [] []), .c (.int .i64 2), .c (.int .i64 1)]⟩, ⟨(some 114), (some (109, true)), .call, [.c (.fn (.func 31) [] []), .c (.int .i64 1), .c (.int .i64 0)]⟩, ⟨(some 115), (some (109, true)), (.buildSlice 2 [(.int .i64 0), (.int .i64 0), (.int .i64 0), (.int .i64 0)] [(0, 2), (2, 2)]), [.t 113, .t 114]⟩, ⟨(some 116), (some (109, true)), .call, [.c (.fn (.func 24) [] []), .t 112, .t 115]⟩, ⟨(some 117), none, .pick, [.t 109, .t 116, .c (.bool false)]⟩, ⟨(some 0), none, .move, [.t 117]⟩] none [0])
  .ret)))))))))))))⟩
theorem ok28 : FunOk Try.prog 28 c28 := ⟨⟨Try.f28, _, Try.func28, rfl, by kernel_rfl, by kernel_rfl, by kernel_rfl, by kernel_rfl⟩, by decide⟩
/-- duet/ident.Check -/
def c30 : AFun := ⟨1, 21, [.tmp 2],
  (.seq (.region [⟨(some 1), none, .box, [.t 0]⟩, ⟨(some 2), none, .move, [.c (.int .i64 0)]⟩] none [1])
  (.seq (.seq (.region [⟨(some 3), none, (.fieldAddr 0), [.t 1]⟩, ⟨(some 4), none, (.load 1 false), [.t 3]⟩, ⟨(some 5), none, (.bin .lss .num), [.t 4, .c (.int .i64 1)]⟩, ⟨(some 6), none, .move, [.t 5]⟩, ⟨(some 7), (some (6, false)), (.fieldAddr 0), [.t 1]⟩, ⟨(some 8), (some (6, false)), (.load 1 false), [.t 7]⟩, ⟨(some 9), (some (6, false)), (.bin .gtr .num), [.t 8, .c (.int .i64 4294967295)]⟩, ⟨(some 10), none, .pick, [.t 6, .c (.bool true), .t 9]⟩, ⟨(some 11), none, .move, [.t 10]⟩, ⟨(some 12), (some (11, false)), (.fieldAddr 1), [.t 1]⟩, ⟨(some 13), (some (11, false)), (.load 1 false), [.t 12]⟩, ⟨(some 14), (some (11, false)), (.bin .lss .num), [.t 13, .c (.int .i64 0)]⟩, ⟨(some 15), none, .pick, [.t 11, .c (.bool true), .t 14]⟩, ⟨(some 16), none, .move, [.t 15]⟩, ⟨(some 17), (some (16, false)), (.fieldAddr 1), [.t 1]⟩, ⟨(some 18), (some (16, false)), (.load 1 false), [.t 17]⟩, ⟨(some 19), (some (16, false)), (.bin .geq .num), [.t 18, .c (.int .i64 16)]⟩, ⟨(some 20), none, .pick, [.t 16, .c (.bool true), .t 19]⟩] none [20])
  (.cond (.t 20) (.seq (.region [⟨(some 2), none, .move, [.c (.int .i64 1)]⟩] none [2])
  .ret)
  .skip))
  (.seq (.region [⟨(some 2), none, .move, [.c (.int .i64 0)]⟩] none [2])
  .ret)))⟩
theorem ok30 : FunOk Try.prog 30 c30 := ⟨⟨Try.f30, _, Try.func30, rfl, by kernel_rfl, by kernel_rfl, by kernel_rfl, by kernel_rfl⟩, by decide⟩
/-- duet/duetlaw11.id -/
def c31 : AFun := ⟨2, 8, [.cell 4 2 true],
  (.seq (.region [⟨(some 4), none, (.alloc [(.int .i64 0), (.int .i64 0)]), []⟩] none [0, 1, 4])
  (.seq (.region [⟨(some 5), none, .move, [.t 0]⟩, ⟨(some 6), none, .move, [.t 1]⟩, ⟨(some 7), none, (.build [(.int .i64 0), (.int .i64 0)] [(0, 1), (1, 1)]), [.t 5, .t 6]⟩, ⟨none, none, (.store 2), [.t 4, .t 7]⟩] none [4])
  .ret))⟩
theorem ok31 : FunOk Try.prog 31 c31 := ⟨⟨Try.f31, _, Try.func31, rfl, by kernel_rfl, by kernel_rfl, by kernel_rfl, by kernel_rfl⟩, by decide⟩
/-- duet/ident.Less -/
def c32 : AFun := ⟨2, 9, [.tmp 4],
  (.seq (.region [⟨(some 2), none, .box, [.t 0]⟩, ⟨(some 3), none, .box, [.t 1]⟩, ⟨(some 4), none, .move, [.c (.bool false)]⟩] none [2, 3])
  (.seq (.region [⟨(some 5), none, (.load 2 true), [.t 2]⟩, ⟨(some 6), none, (.load 2 true), [.t 3]⟩, ⟨(some 7), none, .call, [.c (.fn (.func 60) [] []), .t 5, .t 6]⟩, ⟨(some 8), none, (.bin .lss .num), [.t 7, .c (.int .i64 0)]⟩, ⟨(some 4), none, .move, [.t 8]⟩] none [4])
  .ret))⟩
theorem ok32 : FunOk Try.prog 32 c32 := ⟨⟨Try.f32, _, Try.func32, rfl, by kernel_rfl, by kernel_rfl, by kernel_rfl, by kernel_rfl⟩, by decide⟩
/-- (*duet/weave.Line).has -/
def c45 : AFun := ⟨2, 17, [.tmp 4],
  (.seq (.region [⟨(some 3), none, .box, [.t 1]⟩, ⟨(some 4), none, .move, [.c (.bool false)]⟩] none [0, 3])
  (.seq (.region [⟨(some 5), none, (.load 2 true), [.t 3]⟩, ⟨(some 6), none, (.build [(.int .i64 0), (.int .i64 0)] []), []⟩, ⟨(some 7), none, (.eqs .neq [.int, .int]), [.t 5, .t 6]⟩, ⟨(some 8), none, .move, [.t 7]⟩, ⟨(some 9), (some (8, true)), .move, [.t 0]⟩, ⟨(some 10), (some (8, true)), .nilCheck, [.t 9]⟩, ⟨(some 11), (some (8, true)), (.fieldAddr 0), [.t 10]⟩, ⟨(some 12), (some (8, true)), (.load 1 false), [.t 11]⟩, ⟨(some 13), (some (8, true)), (.load 2 true), [.t 3]⟩, ⟨(some 14), (some (8, true)), (.lookup true [.int, .int] .nilp false), [.t 12, .t 13]⟩, ⟨(some 15), (some (8, true)), (.bin .neq .ptr), [.t 14, .c .nilp]⟩, ⟨(some 16), none, .pick, [.t 8, .t 15, .c (.bool false)]⟩, ⟨(some 4), none, .move, [.t 16]⟩] (some [0, 0, 3, 7, 15, 31, 63, 127, 15, 511, 1023, 2047, 4095]) [4])
  .ret))⟩
theorem ok45 : FunOk Try.prog 45 c45 := ⟨⟨Try.f45, _, Try.func45, rfl, by kernel_rfl, by kernel_rfl, by kernel_rfl, by kernel_rfl⟩, by decide⟩
/-- slices.BinarySearchFunc[[]duet/api.Id,duet/api.Id,duet/api.Id] -/
def c46 : AFun := ⟨3, 49, [.tmp 6, .tmp 7],
  (.seq (.region [⟨(some 4), none, .box, [.t 1]⟩, ⟨(some 6), none, .move, [.c (.int .i64 0)]⟩, ⟨(some 7), none, .move, [.c (.bool false)]⟩] none [0, 2, 4])
  (.seq (.region [⟨(some 12), none, .move, [.t 0]⟩, ⟨(some 13), none, (.len .slice), [.t 12]⟩, ⟨(some 8), none, .move, [.t 13]⟩] none [0, 2, 4, 8])
  (.seq (.region [⟨(some 14), none, .move, [.t 8]⟩, ⟨(some 9), none, .move, [.c (.int .i64 0)]⟩, ⟨(some 10), none, .move, [.t 14]⟩] none [0, 2, 4, 8, 9, 10])
  (.seq (.block 0 (.loop [0, 2, 4, 8, 9, 10] (.seq (.seq (.region [⟨(some 15), none, .move, [.t 9]⟩, ⟨(some 16), none, .move, [.t 10]⟩, ⟨(some 17), none, (.bin .lss .num), [.t 15, .t 16]⟩] none [0, 2, 4, 8, 9, 10, 17])
  (.cond (.t 17) .skip
  (.exit 0)))
  (.block 1 (.seq (.region [⟨(some 18), none, .move, [.t 9]⟩, ⟨(some 19), none, .move, [.t 10]⟩, ⟨(some 20), none, (.bin .add .num), [.t 18, .t 19]⟩, ⟨(some 21), none, (.conv .u64), [.t 20]⟩, ⟨(some 22), none, (.bin .shr .num), [.t 21, .c (.int .u64 1)]⟩, ⟨(some 23), none, (.conv .i64), [.t 22]⟩, ⟨(some 11), none, .move, [.t 23]⟩] none [0, 2, 4, 8, 9, 10, 11])
  (.seq (.region [⟨(some 24), none, .move, [.t 2]⟩, ⟨(some 25), none, .move, [.t 0]⟩, ⟨(some 26), none, .move, [.t 11]⟩, ⟨(some 27), none, (.indexAddr 2), [.t 25, .t 26]⟩, ⟨(some 28), none, (.load 2 true), [.t 27]⟩, ⟨(some 29), none, (.load 2 true), [.t 4]⟩, ⟨(some 30), none, .call, [.t 24, .t 28, .t 29]⟩, ⟨(some 31), none, (.bin .lss .num), [.t 30, .c (.int .i64 0)]⟩] (some [0, 0, 0, 6, 14, 0, 63, 127]) [0, 2, 4, 8, 9, 10, 11, 31])
  (.cond (.t 31) (.region [⟨(some 32), none, .move, [.t 11]⟩, ⟨(some 33), none, (.bin .add .num), [.t 32, .c (.int .i64 1)]⟩, ⟨(some 9), none, .move, [.t 33]⟩] none [0, 2, 4, 8, 9, 10])
  (.region [⟨(some 34), none, .move, [.t 11]⟩, ⟨(some 10), none, .move, [.t 34]⟩] none [0, 2, 4, 8, 9, 10]))))))))
  (.seq (.region [⟨(some 35), none, .move, [.t 9]⟩, ⟨(some 36), none, .move, [.t 9]⟩, ⟨(some 37), none, .move, [.t 8]⟩, ⟨(some 38), none, (.bin .lss .num), [.t 36, .t 37]⟩, ⟨(some 39), none, .move, [.t 38]⟩, ⟨(some 40), (some (39, true)), .move, [.t 2]⟩, ⟨(some 41), (some (39, true)), .move, [.t 0]⟩, ⟨(some 42), (some (39, true)), .move, [.t 9]⟩, ⟨(some 43), (some (39, true)), (.indexAddr 2), [.t 41, .t 42]⟩, ⟨(some 44), (some (39, true)), (.load 2 true), [.t 43]⟩, ⟨(some 45), (some (39, true)), (.load 2 true), [.t 4]⟩, ⟨(some 46), (some (39, true)), .call, [.t 40, .t 44, .t 45]⟩, ⟨(some 47), (some (39, true)), (.bin .eql .num), [.t 46, .c (.int .i64 0)]⟩, ⟨(some 48), none, .pick, [.t 39, .t 47, .c (.bool false)]⟩, ⟨(some 6), none, .move, [.t 35]⟩, ⟨(some 7), none, .move, [.t 48]⟩] (some [0, 0, 0, 6, 14, 30, 30, 30, 222, 478, 30, 2046, 4094, 8190, 4095, 32767]) [6, 7])
  .ret)))))⟩
theorem ok46 : FunOk Try.prog 46 c46 := ⟨⟨Try.f46, _, Try.func46, rfl, by kernel_rfl, by kernel_rfl, by kernel_rfl, by kernel_rfl⟩, by decide⟩
/-- duet/weave.greater -/
def c47 : AFun := ⟨2, 13, [.tmp 4],
  (.seq (.region [⟨(some 2), none, .box, [.t 0]⟩, ⟨(some 3), none, .box, [.t 1]⟩, ⟨(some 4), none, .move, [.c (.int .i64 0)]⟩] none [2, 3])
  (.seq (.block 0 (.seq (.region [⟨(some 6), none, (.load 2 true), [.t 3]⟩, ⟨(some 7), none, (.load 2 true), [.t 2]⟩, ⟨(some 8), none, .call, [.c (.fn (.func 32) [] []), .t 6, .t 7]⟩, ⟨(some 5), none, .move, [.t 8]⟩] none [2, 3, 5])
  (.cond (.t 5) (.seq (.region [⟨(some 4), none, .move, [.c (.int .i64 (-1))]⟩] none [4])
  .ret)
  (.seq (.region [⟨(some 10), none, (.load 2 true), [.t 2]⟩, ⟨(some 11), none, (.load 2 true), [.t 3]⟩, ⟨(some 12), none, .call, [.c (.fn (.func 32) [] []), .t 10, .t 11]⟩, ⟨(some 9), none, .move, [.t 12]⟩] none [9])
  (.cond (.t 9) (.seq (.region [⟨(some 4), none, .move, [.c (.int .i64 1)]⟩] none [4])
  .ret)
  .skip)))))
  (.seq (.region [⟨(some 4), none, .move, [.c (.int .i64 0)]⟩] none [4])
  .ret)))⟩
theorem ok47 : FunOk Try.prog 47 c47 := ⟨⟨Try.f47, _, Try.func47, rfl, by kernel_rfl, by kernel_rfl, by kernel_rfl, by kernel_rfl⟩, by decide⟩
/-- duet/mesg.Rune -/
def c50 : AFun := ⟨1, 22, [.tmp 2],
  (.seq (.region [⟨(some 2), none, .move, [.c (.bool false)]⟩] none [0])
  (.seq (.block 0 (.seq (.seq (.region [⟨(some 4), none, .move, [.t 0]⟩, ⟨(some 5), none, (.bin .lss .num), [.t 4, .c (.int .i64 32)]⟩, ⟨(some 6), none, .move, [.t 5]⟩, ⟨(some 7), (some (6, false)), .move, [.t 0]⟩, ⟨(some 8), (some (6, false)), (.bin .gtr .num), [.t 7, .c (.int .i64 1114111)]⟩, ⟨(some 9), none, .pick, [.t 6, .c (.bool true), .t 8]⟩, ⟨(some 3), none, .move, [.t 9]⟩] none [0, 3])
  (.cond (.t 3) .skip
  (.seq (.region [⟨(some 10), none, .move, [.t 0]⟩, ⟨(some 11), none, (.bin .geq .num), [.t 10, .c (.int .i64 127)]⟩, ⟨(some 12), none, .move, [.t 11]⟩, ⟨(some 13), (some (12, true)), .move, [.t 0]⟩, ⟨(some 14), (some (12, true)), (.bin .leq .num), [.t 13, .c (.int .i64 159)]⟩, ⟨(some 15), none, .pick, [.t 12, .t 14, .c (.bool false)]⟩, ⟨(some 3), none, .move, [.t 15]⟩] none [0, 3])
  (.cond (.t 3) .skip
  (.region [⟨(some 16), none, .move, [.t 0]⟩, ⟨(some 17), none, (.bin .geq .num), [.t 16, .c (.int .i64 55296)]⟩, ⟨(some 18), none, .move, [.t 17]⟩, ⟨(some 19), (some (18, true)), .move, [.t 0]⟩, ⟨(some 20), (some (18, true)), (.bin .leq .num), [.t 19, .c (.int .i64 57343)]⟩, ⟨(some 21), none, .pick, [.t 18, .t 20, .c (.bool false)]⟩, ⟨(some 3), none, .move, [.t 21]⟩] none [3])))))
  (.cond (.t 3) (.seq (.region [⟨(some 2), none, .move, [.c (.bool false)]⟩] none [2])
  .ret)
  .skip)))
  (.seq (.region [⟨(some 2), none, .move, [.c (.bool true)]⟩] none [2])
  .ret)))⟩
theorem ok50 : FunOk Try.prog 50 c50 := ⟨⟨Try.f50, _, Try.func50, rfl, by kernel_rfl, by kernel_rfl, by kernel_rfl, by kernel_rfl⟩, by decide⟩
/-- slices.Clone[[]duet/api.Id,duet/api.Id] -/
def c58 : AFun := ⟨1, 8, [.tmp 2],
  (.seq (.region [⟨(some 2), none, .move, [.c .nils]⟩] none [0])
  (.seq (.seq (.region [⟨(some 3), none, .move, [.t 0]⟩, ⟨(some 4), none, (.bin .eql .slice), [.t 3, .c .nils]⟩] none [0, 4])
  (.cond (.t 4) (.seq (.region [⟨(some 2), none, .move, [.c .nils]⟩] none [2])
  .ret)
  .skip))
  (.seq (.region [⟨(some 5), none, (.buildSlice 2 [] []), []⟩, ⟨(some 6), none, .move, [.t 0]⟩, ⟨(some 7), none, (.append 2 16), [.t 5, .t 6]⟩, ⟨(some 2), none, .move, [.t 7]⟩] none [2])
  .ret)))⟩
theorem ok58 : FunOk Try.prog 58 c58 := ⟨⟨Try.f58, _, Try.func58, rfl, by kernel_rfl, by kernel_rfl, by kernel_rfl, by kernel_rfl⟩, by decide⟩
/-- duet/ident.order -/
def c60 : AFun := ⟨2, 17, [.tmp 4],
  (.seq (.region [⟨(some 2), none, .box, [.t 0]⟩, ⟨(some 3), none, .box, [.t 1]⟩, ⟨(some 4), none, .move, [.c (.int .i64 0)]⟩] none [2, 3])
  (.seq (.region [⟨(some 5), none, (.fieldAddr 0), [.t 2]⟩, ⟨(some 6), none, (.load 1 false), [.t 5]⟩, ⟨(some 7), none, (.fieldAddr 0), [.t 3]⟩, ⟨(some 8), none, (.load 1 false), [.t 7]⟩, ⟨(some 9), none, .call, [.c (.fn (.func 70) [] []), .t 6, .t 8]⟩, ⟨(some 10), none, (.fieldAddr 1), [.t 2]⟩, ⟨(some 11), none, (.load 1 false), [.t 10]⟩, ⟨(some 12), none, (.fieldAddr 1), [.t 3]⟩, ⟨(some 13), none, (.load 1 false), [.t 12]⟩, ⟨(some 14), none, .call, [.c (.fn (.func 70) [] []), .t 11, .t 13]⟩, ⟨(some 15), none, (.buildSlice 1 [(.int .i64 0), (.int .i64 0)] [(0, 1), (1, 1)]), [.t 9, .t 14]⟩, ⟨(some 16), none, .call, [.c (.fn (.func 69) [] []), .t 15]⟩, ⟨(some 4), none, .move, [.t 16]⟩] (some [0, 1, 0, 4, 15, 0, 32, 0, 128, 511, 1023, 2047, 4095]) [4])
  .ret))⟩
theorem ok60 : FunOk Try.prog 60 c60 := ⟨⟨Try.f60, _, Try.func60, rfl, by kernel_rfl, by kernel_rfl, by kernel_rfl, by kernel_rfl⟩, by decide⟩
/-- cmp.Or[int] -/
def c69 : AFun := ⟨1, 18, [.tmp 2],
  (.seq (.region [⟨(some 2), none, .move, [.c (.int .i64 0)]⟩] none [0])
  (.seq (.region [⟨(some 3), none, .move, [.c (.int .i64 0)]⟩] none [0, 3])
  (.seq (.seq (.region [⟨(some 6), none, .move, [.t 0]⟩, ⟨(some 7), none, (.len .slice), [.t 6]⟩, ⟨(some 8), none, .move, [.c (.int .i64 0)]⟩] none [3, 6, 7, 8])
  (.block 0 (.loop [3, 6, 7, 8] (.seq (.region [⟨(some 9), none, (.bin .lss .num), [.t 8, .t 7]⟩] none [3, 6, 7, 8, 9])
  (.seq (.cond (.t 9) .skip
  (.exit 0))
  (.seq (.block 1 (.seq (.region [⟨(some 10), none, (.indexAddr 1), [.t 6, .t 8]⟩, ⟨(some 11), none, (.load 1 false), [.t 10]⟩, ⟨(some 5), none, .move, [.t 11]⟩] none [3, 5, 6, 7, 8])
  (.seq (.region [⟨(some 12), none, .move, [.t 5]⟩, ⟨(some 13), none, .move, [.t 3]⟩, ⟨(some 14), none, (.bin .neq .num), [.t 12, .t 13]⟩] none [3, 5, 6, 7, 8, 14])
  (.cond (.t 14) (.seq (.region [⟨(some 15), none, .move, [.t 5]⟩, ⟨(some 2), none, .move, [.t 15]⟩] none [2])
  .ret)
  .skip))))
  (.region [⟨(some 16), none, (.bin .add .num), [.t 8, .c (.int .i64 1)]⟩, ⟨(some 8), none, .move, [.t 16]⟩] none [3, 6, 7, 8])))))))
  (.seq (.region [⟨(some 17), none, .move, [.t 3]⟩, ⟨(some 2), none, .move, [.t 17]⟩] none [2])
  .ret))))⟩
theorem ok69 : FunOk Try.prog 69 c69 := ⟨⟨Try.f69, _, Try.func69, rfl, by kernel_rfl, by kernel_rfl, by kernel_rfl, by kernel_rfl⟩, by decide⟩
/-- cmp.Compare[int] -/
def c70 : AFun := ⟨2, 20, [.tmp 4],
  (.seq (.region [⟨(some 4), none, .move, [.c (.int .i64 0)]⟩] none [0, 1])
  (.seq (.region [⟨(some 7), none, .move, [.t 0]⟩, ⟨(some 8), none, .call, [.c (.fn (.func 76) [] []), .t 7]⟩, ⟨(some 5), none, .move, [.t 8]⟩] none [0, 1, 5])
  (.seq (.region [⟨(some 9), none, .move, [.t 1]⟩, ⟨(some 10), none, .call, [.c (.fn (.func 76) [] []), .t 9]⟩, ⟨(some 6), none, .move, [.t 10]⟩] none [0, 1, 5, 6])
  (.seq (.seq (.region [⟨(some 11), none, .move, [.t 5]⟩] none [0, 1, 6, 11])
  (.cond (.t 11) (.seq (.seq (.region [⟨(some 12), none, .move, [.t 6]⟩] none [12])
  (.cond (.t 12) (.seq (.region [⟨(some 4), none, .move, [.c (.int .i64 0)]⟩] none [4])
  .ret)
  .skip))
  (.seq (.region [⟨(some 4), none, .move, [.c (.int .i64 (-1))]⟩] none [4])
  .ret))
  .skip))
  (.seq (.seq (.region [⟨(some 13), none, .move, [.t 6]⟩] none [0, 1, 13])
  (.cond (.t 13) (.seq (.region [⟨(some 4), none, .move, [.c (.int .i64 1)]⟩] none [4])
  .ret)
  .skip))
  (.seq (.seq (.region [⟨(some 14), none, .move, [.t 0]⟩, ⟨(some 15), none, .move, [.t 1]⟩, ⟨(some 16), none, (.bin .lss .num), [.t 14, .t 15]⟩] none [0, 1, 16])
  (.cond (.t 16) (.seq (.region [⟨(some 4), none, .move, [.c (.int .i64 (-1))]⟩] none [4])
  .ret)
  .skip))
  (.seq (.seq (.region [⟨(some 17), none, .move, [.t 0]⟩, ⟨(some 18), none, .move, [.t 1]⟩, ⟨(some 19), none, (.bin .gtr .num), [.t 17, .t 18]⟩] none [19])
  (.cond (.t 19) (.seq (.region [⟨(some 4), none, .move, [.c (.int .i64 1)]⟩] none [4])
  .ret)
  .skip))
  (.seq (.region [⟨(some 4), none, .move, [.c (.int .i64 0)]⟩] none [4])
  .ret))))))))⟩
theorem ok70 : FunOk Try.prog 70 c70 := ⟨⟨Try.f70, _, Try.func70, rfl, by kernel_rfl, by kernel_rfl, by kernel_rfl, by kernel_rfl⟩, by decide⟩
/-- cmp.isNaN[int] -/
def c76 : AFun := ⟨1, 6, [.tmp 2],
  (.seq (.region [⟨(some 2), none, .move, [.c (.bool false)]⟩] none [0])
  (.seq (.region [⟨(some 3), none, .move, [.t 0]⟩, ⟨(some 4), none, .move, [.t 0]⟩, ⟨(some 5), none, (.bin .neq .num), [.t 3, .t 4]⟩, ⟨(some 2), none, .move, [.t 5]⟩] none [2])
  .ret))⟩
theorem ok76 : FunOk Try.prog 76 c76 := ⟨⟨Try.f76, _, Try.func76, rfl, by kernel_rfl, by kernel_rfl, by kernel_rfl, by kernel_rfl⟩, by decide⟩
def tblL : List (Nat × AFun) := [(4, c4), (14, c14), (15, c15), (17, c17), (24, c24), (25, c25), (27, c27), (28, c28), (30, c30), (31, c31), (32, c32), (45, c45), (46, c46), (47, c47), (50, c50), (58, c58), (60, c60), (69, c69), (70, c70), (76, c76)]
def tbl (f : Nat) : Option AFun := tblL.lookup f
theorem tbl_ok : ∀ f A, tbl f = some A → FunOk Try.prog f A := lookup_ok (by
  simp only [tblL, List.forall_mem_cons]
  exact ⟨ok4, ok14, ok15, ok17, ok24, ok25, ok27, ok28, ok30, ok31, ok32, ok45, ok46, ok47, ok50, ok58, ok60, ok69, ok70, ok76, by simp⟩)
theorem run_ok (fuel d : Nat) : aY Try.prog (kQ r2 tbl fuel d) := qH Try.mixed extY_ok tbl_ok fuel d
end Go.Proofs.Ytigjoggpaamodaa.RunC1
/-! weave's laws: shapes, live. -/
namespace Go.Proofs.Ytigjoggpaamodaa
set_option linter.unusedVariables false
set_option linter.unusedSimpArgs false
set_option maxRecDepth 100000
theorem bool_shape {n : Nat} {xs : List AV} (h : aS Try.prog (n + 1) 4 xs) : ∃ b, xs = [.bool b] := by
  simpa only [aS, Try.underlying4] using h
theorem p6 {n : Nat} {xs : List AV} (h : aS Try.prog (n + 2) 24 xs) : ∃ a b, xs = [.int .i64 a, .int .i64 b] ∧ I64 a ∧ I64 b := by
  unfold aS at h
  simp only [Try.underlying24, eM] at h
  obtain ⟨a, x, rfl, _, h1, b, y, rfl, _, h2, rfl⟩ := h
  obtain ⟨i, rfl, hi⟩ := hP h1
  obtain ⟨j, rfl, hj⟩ := hP h2
  exact ⟨i, j, rfl, hi, hj⟩
structure OpV where
  drop : Bool
  idt : Int
  ids : Int
  reft : Int
  refs : Int
  rune : Int
def OpV.cells (o : OpV) : List AV := [.bool o.drop, .int .i64 o.idt, .int .i64 o.ids, .int .i64 o.reft, .int .i64 o.refs, .int .i64 o.rune]
structure OpV.Ok (o : OpV) : Prop where
  idt : I64 o.idt
  ids : I64 o.ids
  reft : I64 o.reft
  refs : I64 o.refs
  rune : I64 o.rune
theorem op_shape {n : Nat} {xs : List AV} (h : aS Try.prog (n + 3) 32 xs) : ∃ o : OpV, xs = o.cells ∧ o.Ok := by
  unfold aS at h
  simp only [Try.underlying32, eM] at h
  obtain ⟨a, x, rfl, _, h1, b, y, rfl, _, h2, c, z, rfl, _, h3, d, u, rfl, _, h4, rfl⟩ := h
  obtain ⟨d0, rfl⟩ := bool_shape h1
  obtain ⟨i, j, rfl, hi, hj⟩ := p6 h2
  obtain ⟨k, l, rfl, hk, hl⟩ := p6 h3
  obtain ⟨r, rfl, hr⟩ := hP h4
  exact ⟨⟨d0, i, j, k, l, r⟩, rfl, ⟨hi, hj, hk, hl, hr⟩⟩
theorem live11 : kD Try.prog 28 [] (.bool true) := pure_run (RunC1.run_ok 1000 20) rfl (by kernel_rfl)
end Go.Proofs.Ytigjoggpaamodaa
