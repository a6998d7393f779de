/- slices.Insert, walked: what becomes of memory. -/
import Derived.Test.YtbngfbpegdcpkaaA8b
import Derived.Test.YtbngfbpegdcpkaaProg
import Derived.KernelRfl
import Derived.Shelf.RegionOpenPlain
import Derived.WalkKit
import Derived.Lib.Walk
import Derived.Lib.SliceRun
import Derived.Lib.JoinLaws
import Derived.Lib.Overlaps
import Derived.Lib.AppendZerosOnto
import Derived.Laws.Externs
import Derived.Laws.IdiomCopy
import Derived.Shelf.Spec.SlicesInsert
namespace Go.Proofs.Ytbngfbpegdcpkaa
set_option linter.unusedVariables false
set_option linter.unusedSimpArgs false
open Go.RowKit Go.Lib
set_option maxRecDepth 100000
theorem run_copy_fit {P : Program} {dT sT ty E : TypeId} {i : TypeInfo} (hd : P.underlying dT = some (.slice E)) (hi : P.info? E = some i) (b o dLen dCap : Nat) (a : Addr) (sLen sCap : Nat) (us : List Value) (w : World) (k : Nat) (hk : k = Nat.min sLen dLen) (hlen : us.length = k * i.size)
    (hus : ∀ j u, us[j]? = some u → w.cell? (a.add j) = some u) (hone : ∀ v ∈ us, v.oneCell' = true) (cc : Array Value) (T' : TypeId) (hb : w.heap[b]? = some (.cells cc T' (0, 0))) (hfit : o + us.length ≤ cc.size) :
    (Builtin.copy_ #[dT, sT] ty #[.slice (some ⟨b, o, none⟩) dLen dCap, .slice (some a) sLen sCap]).run P w = .ok (goInt k) (w.setB b (.cells (putC cc o us) T' (0, 0))) := by
  have hf := run_firstCells_some (P := P) w i.size k a sLen sCap us hlen hus
  have hs := run_storeCells (P := P) us w b o 0 cc T' hb hone (by omega)
  simp only [Nat.add_zero] at hs
  simp [Builtin.copy_, run_underlying' hd, run_sizeOf' hi, Builtin.lenOf, ← hk, hf, add_none, hs]
theorem shape_cells {w : World} {b : Nat} {c : Array Value} {T : TypeId} {fz : Nat × Nat} (h : w.heap[b]? = some (.cells c T fz)) : w.shape? b = some (T, c.size) := by simp [World.shape?, h]
theorem frozen_cells {w : World} {b : Nat} {c : Array Value} {T : TypeId} (h : w.heap[b]? = some (.cells c T (0, 0))) (o : Nat) (s : Option Nat) : w.frozen? ⟨b, o, s⟩ = false := by simp [World.frozen?, h]
theorem info_el : ∃ I, Try.prog.info? 3 = some I ∧ I.size = 1 ∧ I.bytes = 8 := by
  have h : (Try.prog.info? 3).map (fun i => (i.size, i.bytes)) = some (1, 8) := by kernel_rfl
  cases hq : Try.prog.info? 3 with
  | none => rw [hq] at h; cases h
  | some I => rw [hq] at h; simp only [Option.map_some, Option.some.injEq, Prod.mk.injEq] at h; exact ⟨I, rfl, h.1, h.2⟩
theorem info_elz : ∃ I, Try.prog.info? 3 = some I ∧ I.zero = some (Value.int .i64 0) ∧ I.size = 1 ∧ I.bytes = 8 := info_parts (by kernel_rfl)
section
set_option maxHeartbeats 4000000
variable (b off n c i vb voff vc : Nat) (cc cv : Array Value) (T Tv : TypeId) (us vs : List Value) (w : World)
theorem overlaps_no (lb cb la ca oa ob : Nat) (hvb : vb ≠ b) (hb : w.heap[b]? = some (.cells cc T (0, 0))) (hv : w.heap[vb]? = some (.cells cv Tv (0, 0))) (h0 : cc.size ≠ 0) :
    (callFunc 60 #[.slice (some ⟨vb, oa, none⟩) la ca, .slice (some ⟨b, ob, none⟩) lb cb]).run Try.prog w = .ok (.value (.bool false)) w := by
  rw [run_callFunc_extern Try.func60 (by kernel_rfl) (by kernel_rfl) (by kernel_rfl) (e := Extern.SlicesOverlaps.overlaps #[22, 22] #[4]) (by kernel_rfl),
    Lib.run_overlaps_apart w 22 4 3 Try.underlying22 1 (fun w => by kernel_rfl) ⟨vb, oa, none⟩ ⟨b, ob, none⟩ la ca lb cb hvb Tv T cv.size cc.size (shape_cells hv) (shape_cells hb) h0 (frozen_cells hv _ _) (frozen_cells hv _ _)]
  rfl
theorem ins_shift (hi : i < n) (hroom : n + 1 ≤ c) (hn63 : n + 1 ≤ 4611686018427387904) (hvb : vb ≠ b) (hb : w.heap[b]? = some (.cells cc T (0, 0))) (hfit : off + (c) ≤ cc.size)
    (hul : us.length = (n - i)) (hus : ∀ k u, us[k]? = some u → w.cell? ⟨b, off + (i) + k, none⟩ = some u) (h1u : ∀ v ∈ us, v.oneCell' = true)
    (hv : w.heap[vb]? = some (.cells cv Tv (0, 0))) (hvl : vs.length = 1) (hvs : ∀ k u, vs[k]? = some u → w.cell? ⟨vb, voff + k, none⟩ = some u) (h1v : ∀ v ∈ vs, v.oneCell' = true) :
    Calls Try.prog 33 #[.slice (some ⟨b, off, none⟩) n c, .int .i64 i, .slice (some ⟨vb, voff, none⟩) 1 vc] w fun e w' =>
      e = .returned (.slice (some ⟨b, off, none⟩) (n + 1) c) ∧ w' = w.drew.setB b (.cells (putC (putC cc (off + (i + 1)) us) (off + (i)) vs) T (0, 0)) := by
  have hz2 : ¬ ((i : Int) = (n : Int)) := by omega
  have hw1 : IntKind.i64.wrap ((i : Int) + 1) = (i : Int) + 1 := by rw [IntKind.wrap_i64]; omega
  have hw2 : IntKind.i64.wrap ((n : Int) + 1) = (n : Int) + 1 := by rw [IntKind.wrap_i64]; omega
  have hov : ∀ lb cb, (callFunc 60 #[.slice (some ⟨vb, voff, none⟩) 1 vc, .slice (some ⟨b, off + (i + 1), none⟩) lb cb]).run Try.prog w = .ok (.value (.bool false)) w := fun lb cb => overlaps_no (b := b) (vb := vb) (cc := cc) (cv := cv) (T := T) (Tv := Tv) (w := w) _ _ _ _ _ _ hvb hb hv (by omega)
  obtain ⟨I, hinfo, hsz, hby⟩ := info_el
  have hcp1 : ∀ ty dc sc, (Builtin.copy_ #[22, 22] ty #[.slice (some ⟨b, off + (i + 1), none⟩) (n - i) dc, .slice (some ⟨b, off + (i), none⟩) (n + 1 - i) sc]).run Try.prog w.drew = .ok (goInt (n - i : Nat)) (w.drew.setB b (.cells (putC cc (off + (i + 1)) us) T (0, 0))) := fun ty dc sc =>
    run_copy_fit Try.underlying22 hinfo b _ _ dc ⟨b, off + (i), none⟩ _ sc us w.drew (n - i) (by simp only [Nat.min_def]; split <;> omega) (by rw [hul, hsz]; try omega) (fun j u hj => by rw [Addr.add_lit]; exact hus j u hj) h1u cc T hb (by rw [hul]; omega)
  have hb2 : (w.drew.setB b (.cells (putC cc (off + (i + 1)) us) T (0, 0))).heap[b]? = some (.cells (putC cc (off + (i + 1)) us) T (0, 0)) := setB_at (w := w.drew) hb _
  have hcp2 : ∀ (W : World), W = w.drew.setB b (.cells (putC cc (off + (i + 1)) us) T (0, 0)) → ∀ ty dc, (Builtin.copy_ #[22, 22] ty #[.slice (some ⟨b, off + (i), none⟩) (n + 1 - i) dc, .slice (some ⟨vb, voff, none⟩) 1 vc]).run Try.prog W = .ok (goInt (1 : Nat)) (W.setB b (.cells (putC (putC cc (off + (i + 1)) us) (off + (i)) vs) T (0, 0))) := fun W hW ty dc =>
    run_copy_fit Try.underlying22 hinfo b _ _ dc ⟨vb, voff, none⟩ _ vc vs W 1 (by simp only [Nat.min_def]; split <;> omega) (by rw [hvl, hsz]) (fun j u hj => by
      rw [Addr.add_lit, hW]
      have := hvs j u hj
      unfold World.cell? at this ⊢
      rw [setB_other _ _ hvb]; exact this) h1v _ T (by rw [hW]; exact hb2) (by rw [putC_size, hvl]; omega)
  have hb1 : (0 : Int) ≤ (i : Int) + 1 := by omega
  have hin : i ≤ n := by omega
  have hci1 : ¬ (c = i + 1) := by omega
  have hci : ¬ (c = i) := by omega
  have hb3 : (i : Int) ≤ (n : Int) + 1 := by omega
  have htn : ((i : Int) + 1).toNat = i + 1 := by omega
  have mixed : Try.prog.follows .mixedOrders = true := by kernel_rfl
  go_enter Try.func33, Try.ntmps33
  go_wp2_with (simp only [hov])
  go_region_law_o (refine step_copy_runI rfl _ _ 22 22 rfl _ _ (by simp [Act.eval, Act.put]) (by simp [Act.eval, Act.put]) (hcp1 _ _ _) ?_)
  go_wp2_with (at_builtin; refine wpList_copy_runI _ rfl _ _ 22 22 rfl _ _ rfl rfl (hcp2 _ rfl _ _) ?_)
  go_ret
  exact ⟨rfl, by rw [setB_setB]⟩
theorem alloc_setB (w : World) (O O' : Obj) : (w.alloc O).setB w.heap.size O' = w.alloc O' := by
  have h : (w.heap.push O).setIfInBounds w.heap.size O' = w.heap.push O' := by
    apply Array.ext_getElem?
    intro j
    simp only [Array.getElem?_setIfInBounds, Array.getElem?_push, Array.size_push]
    by_cases e : w.heap.size = j
    · simp [e]
    · simp [e, Ne.symm e]
  unfold World.alloc World.setB
  simp only [h]
theorem ins_row (us0 zs vs us : List Value) (rest : Array Value) (h : zs.length = vs.length + us.length) : putC (putC ((us0 ++ zs).toArray ++ rest) us0.length vs) (us0.length + vs.length) us = (us0 ++ vs ++ us).toArray ++ rest := by
  apply Array.ext_getElem?
  intro j
  rw [putC_get, putC_get, putC_size]
  simp only [Array.size_append, List.size_toArray, List.length_append]
  by_cases h1 : j < us0.length
  · rw [if_neg (by omega), if_neg (by omega), Array.getElem?_append_left (by simp; omega), Array.getElem?_append_left (by simp; omega)]
    simp only [List.getElem?_toArray]
    rw [List.getElem?_append_left h1, List.append_assoc, List.getElem?_append_left h1]
  · by_cases h2 : j < us0.length + vs.length
    · rw [if_neg (by omega), if_pos (by omega), Array.getElem?_append_left (by simp; omega)]
      simp only [List.getElem?_toArray]
      rw [List.getElem?_append_left (by simp; omega), List.getElem?_append_right (by omega)]
    · by_cases h3 : j < us0.length + vs.length + us.length
      · rw [if_pos (by omega), Array.getElem?_append_left (by simp; omega)]
        simp only [List.getElem?_toArray]
        rw [List.getElem?_append_right (by simp; omega)]
        congr 1
        simp
      · rw [if_neg (by omega), if_neg (by omega), Array.getElem?_append_right (by simp; omega), Array.getElem?_append_right (by simp; omega)]
        congr 1
        simp only [List.size_toArray, List.length_append]
        omega
theorem ins_grow (us0 : List Value) (hi : i < n) (hnc : n ≤ c) (hroom : c < n + 1) (hbig : (n + 1) * 8 ≤ 140737488355328) (hn63 : n + 1 ≤ 4611686018427387904) (hvb : vb ≠ b) (hb : w.heap[b]? = some (.cells cc T (0, 0)))
    (hu0 : us0.length = (i)) (hus0 : ∀ k u, us0[k]? = some u → w.cell? ⟨b, off + k, none⟩ = some u)
    (hul : us.length = (n - i)) (hus : ∀ k u, us[k]? = some u → w.cell? ⟨b, off + (i) + k, none⟩ = some u) (h1u : ∀ v ∈ us, v.oneCell' = true)
    (hv : w.heap[vb]? = some (.cells cv Tv (0, 0))) (hvl : vs.length = 1) (hvs : ∀ k u, vs[k]? = some u → w.cell? ⟨vb, voff + k, none⟩ = some u) (h1v : ∀ v ∈ vs, v.oneCell' = true) :
    ∃ (G : Nat) (rest : Array Value), n + 1 ≤ G ∧ rest.size = (G - (n + 1)) * 1 ∧ Calls Try.prog 33 #[.slice (some ⟨b, off, none⟩) n c, .int .i64 i, .slice (some ⟨vb, voff, none⟩) 1 vc] w fun e w' =>
      e = .returned (.slice (some ⟨w.heap.size, 0, none⟩) (n + 1) G) ∧ w' = w.drew.drew.alloc (.cells ((us0 ++ vs ++ us).toArray ++ rest) 3) := by
  obtain ⟨I, hinfo, hz, hsz, hby⟩ := info_elz
  have hbw : b < w.heap.size := (Array.getElem?_eq_some_iff.1 hb).1
  have hvw : vb < w.heap.size := (Array.getElem?_eq_some_iff.1 hv).1
  have hz2 : ¬ ((i : Int) = (n : Int)) := by omega
  have hz3 : (c : Int) < (n : Int) + 1 := by omega
  have hkk : (n : Int) + 1 - (i : Int) = ((n + 1 - i : Nat) : Int) := by omega
  have hik : i + (n + 1 - i) = n + 1 := by omega
  have hold : (Builtin.firstCells I.size i (.slice (some ⟨b, off, none⟩) i c)).run Try.prog w.drew = .ok us0.toArray w.drew :=
    run_firstCells_some w.drew I.size i ⟨b, off, none⟩ i c us0 (by rw [hu0, hsz]; try omega) (fun j v hj => by rw [Addr.add_lit]; exact hus0 j v hj)
  have hrz : ∀ ty, (Builtin.append_ #[22, 3] ty #[.slice (some ⟨b, off, none⟩) i c, .int .i64 ((n : Int) + 1 - (i : Int))]).run Try.prog w =
      .ok (.slice (some ⟨w.heap.size, 0, none⟩) (n + 1) (grownCap w (n + 1) c 3)) (w.drew.alloc (.cells (us0.toArray ++ Builtin.zeroCells (Value.int .i64 0).cells (n + 1 - i) ++ Builtin.zeroCells (Value.int .i64 0).cells (grownCap w (n + 1) c 3 - (n + 1))) 3)) := fun ty => by
    have h := Lib.run_append_grow_zeros (P := Try.prog) w 22 3 ty 3 I _ .i64 .i64 Try.underlying22 Try.underlying3 hinfo hz (some ⟨b, off, none⟩) i c us0 hold (n + 1 - i) (by omega) (by omega) (by omega) (by omega) (by rw [hby]; omega) (by rw [hby, hik]; exact growslice_fits hroom hbig)
    rw [hik] at h
    rw [hkk]
    exact h
  obtain ⟨G, hG⟩ : ∃ G, G = grownCap w (n + 1) c 3 := ⟨_, rfl⟩
  obtain ⟨zs, hzs⟩ : ∃ zs : List Value, zs = (Builtin.zeroCells (Value.int .i64 0).cells (n + 1 - i)).toList := ⟨_, rfl⟩
  obtain ⟨rest, hrest⟩ : ∃ rest : Array Value, rest = Builtin.zeroCells (Value.int .i64 0).cells (G - (n + 1)) := ⟨_, rfl⟩
  rw [← hG, ← hrest] at hrz
  have hzl : zs.length = vs.length + us.length := by rw [hzs, hvl, hul]; simp [Builtin.zeroCells, Value.cells]; omega
  have hROW : us0.toArray ++ Builtin.zeroCells (Value.int .i64 0).cells (n + 1 - i) ++ rest = (us0 ++ zs).toArray ++ rest := by rw [hzs]; apply Array.ext'; simp
  rw [hROW] at hrz
  have hGn : n + 1 ≤ G := by rw [hG]; exact grownCap_ge w _ _ _
  refine ⟨G, rest, hGn, by rw [hrest]; simp [Builtin.zeroCells, Value.cells], ?_⟩
  obtain ⟨ROW, hR⟩ : ∃ ROW, ROW = (us0 ++ zs).toArray ++ rest := ⟨_, rfl⟩
  obtain ⟨W1, hW1⟩ : ∃ W1, W1 = w.drew.alloc (.cells ROW 3) := ⟨_, rfl⟩
  rw [← hR, ← hW1] at hrz
  have hRs : ROW.size = us0.length + zs.length + rest.size := by rw [hR]; simp
  have h1 : W1.heap[w.heap.size]? = some (.cells ROW 3 (0, 0)) := by rw [hW1]; exact Array.getElem?_push_size
  have hold1 : ∀ k, k < w.heap.size → W1.heap[k]? = w.heap[k]? := fun k hk => by rw [hW1]; show (w.heap.push _)[k]? = _; rw [Array.getElem?_push, if_neg (by omega)]
  have hcpA : ∀ (W : World), W.heap = W1.heap → ∀ ty dc, (Builtin.copy_ #[22, 22] ty #[.slice (some ⟨w.heap.size, (i), none⟩) (n + 1 - i) dc, .slice (some ⟨vb, voff, none⟩) 1 vc]).run Try.prog W = .ok (goInt (1 : Nat)) (W.setB w.heap.size (.cells (putC ROW ((i)) vs) 3 (0, 0))) := fun W hW ty dc =>
    run_copy_fit Try.underlying22 hinfo _ _ _ dc ⟨vb, voff, none⟩ _ vc vs W 1 (by simp only [Nat.min_def]; split <;> omega) (by rw [hvl, hsz]) (fun j u hj => by
      rw [Addr.add_lit]
      have := hvs j u hj
      unfold World.cell? at this ⊢
      simp only at this ⊢
      rw [hW, hold1 _ hvw]; exact this) h1v ROW _ (by rw [hW]; exact h1) (by rw [hRs, hu0, hzl, hvl]; omega)
  have hcpB : ∀ (W : World), W.heap = (W1.setB w.heap.size (.cells (putC ROW ((i)) vs) 3 (0, 0))).heap → ∀ ty dc sc, (Builtin.copy_ #[22, 22] ty #[.slice (some ⟨w.heap.size, (i + 1), none⟩) (n - i) dc, .slice (some ⟨b, off + (i), none⟩) (n - i) sc]).run Try.prog W = .ok (goInt (n - i : Nat)) (W.setB w.heap.size (.cells (putC (putC ROW ((i)) vs) ((i + 1)) us) 3 (0, 0))) := fun W hW ty dc sc =>
    run_copy_fit Try.underlying22 hinfo _ _ _ dc ⟨b, off + (i), none⟩ _ sc us W (n - i) (by simp) (by rw [hul, hsz]; try omega) (fun j u hj => by
      rw [Addr.add_lit]
      have := hus j u hj
      unfold World.cell? at this ⊢
      simp only at this ⊢
      rw [hW, setB_other _ _ (by omega), hold1 _ hbw]; exact this) h1u _ _ (by rw [hW]; exact setB_at h1 _) (by rw [putC_size, hRs, hu0, hzl, hul, hvl]; omega)
  have hb1 : (0 : Int) ≤ (i : Int) + 1 := by omega
  have hin : i ≤ n := by omega
  have hci : ¬ (c = i) := by omega
  have hGi : ¬ (G = i) := by omega
  have hGi1 : ¬ (G = i + 1) := by omega
  have hb3 : (i : Int) ≤ (n : Int) + 1 := by omega
  have htn : ((i : Int) + 1).toNat = i + 1 := by omega
  have hw1 : IntKind.i64.wrap ((i : Int) + 1) = (i : Int) + 1 := by rw [IntKind.wrap_i64]; omega
  have hw2 : IntKind.i64.wrap ((n : Int) + 1) = (n : Int) + 1 := by rw [IntKind.wrap_i64]; omega
  have hw3 : IntKind.i64.wrap ((n : Int) + 1 - (i : Int)) = (n : Int) + 1 - (i : Int) := by rw [IntKind.wrap_i64]; omega
  have hfin : (((W1.setB w.heap.size (.cells (putC ROW ((i)) vs) 3 (0, 0))).drew).setB w.heap.size (.cells (putC (putC ROW ((i)) vs) ((i + 1)) us) 3 (0, 0))) = w.drew.drew.alloc (.cells ((us0 ++ vs ++ us).toArray ++ rest) 3) := by
    have e1 := ins_row us0 zs vs us rest hzl
    have e2 : us0.length + vs.length = (i + 1) := by rw [hu0, hvl]; try omega
    rw [← hR, e2, hu0] at e1
    rw [e1, hW1]
    exact (setB_setB (w.drew.alloc (.cells ROW 3)).drew w.heap.size _ _).trans (alloc_setB w.drew.drew _ _)
  obtain ⟨CA, hCA⟩ : ∃ CA, CA = putC ROW ((i)) vs := ⟨_, rfl⟩
  obtain ⟨CB, hCB⟩ : ∃ CB, CB = putC CA ((i + 1)) us := ⟨_, rfl⟩
  rw [← hCA] at hcpA hcpB hfin
  rw [← hCB] at hcpB hfin
  clear hCA hCB hkk hik hold hROW hG hRs hR hW1 hzs hrest h1 hold1 hzl
  have mixed : Try.prog.follows .mixedOrders = true := by kernel_rfl
  go_enter Try.func33, Try.ntmps33
  go_wp2_with (first
    | (at_builtin; refine Lib.wpList_append_run _ rfl _ _ _ _ rfl _ _ rfl rfl _ _ (hrz _) ?_)
    | (at_builtin; refine wpList_copy_runI _ rfl _ _ 22 22 rfl _ _ rfl rfl (hcpA _ rfl _ _) ?_))
  go_region_law_o (refine step_copy_runI rfl _ _ 22 22 rfl (.slice (some ⟨w.heap.size, (i + 1), none⟩) (n - i) (G - (i + 1))) (.slice (some ⟨b, off + (i), none⟩) (n - i) (c - i)) (by simp [Act.eval, Act.put]) (by simp [Act.eval, Act.put]) (hcpB (W1.setB w.heap.size (.cells CA 3 (0, 0))).drew rfl 3 (G - (i + 1)) (c - i)) ?_)
  go_wp2
  go_ret
  first | exact ⟨rfl, hfin⟩ | exact ⟨rfl, by rw [List.append_assoc]; rfl⟩
theorem ins_end (A : Option Addr) (hnc : n ≤ c) (hn63 : n + 1 ≤ 4611686018427387904) {r : Value} {w' : World} (hr : ∀ ty, (Builtin.append_ #[22, 22] ty #[.slice A n c, .slice (some ⟨vb, voff, none⟩) 1 vc]).run Try.prog w = .ok r w') :
    Calls Try.prog 33 #[.slice A n c, .int .i64 n, .slice (some ⟨vb, voff, none⟩) 1 vc] w fun e w2 => e = .returned r ∧ w2 = w' := by
  have mixed : Try.prog.follows .mixedOrders = true := by kernel_rfl
  go_enter Try.func33, Try.ntmps33
  go_wp2_with (at_builtin; refine Lib.wpList_append_run _ rfl _ _ _ _ rfl _ _ rfl rfl _ _ (hr _) ?_)
  all_goals (go_ret; exact ⟨rfl, rfl⟩)
end
end Go.Proofs.Ytbngfbpegdcpkaa
