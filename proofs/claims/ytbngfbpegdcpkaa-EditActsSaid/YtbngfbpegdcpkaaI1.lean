/- Joined texts. -/
import Derived.Test.YtbngfbpegdcpkaaA8b
import Derived.Test.YtbngfbpegdcpkaaProg
import Derived.KernelRfl
import Derived.Shelf.RegionOpenPlain
import Derived.WalkKit
import Derived.Lib.Walk
import Derived.Lib.SliceRun
import Derived.Lib.JoinLaws
import Derived.Lib.Overlaps
import Derived.Lib.AppendZerosOnto
import Derived.Laws.Externs
import Derived.Laws.IdiomCopy
import Derived.Shelf.Spec.SlicesInsert
import Derived.Test.YtbngfbpegdcpkaaA30
import Derived.Test.YtbngfbpegdcpkaaA33
namespace Go.Proofs.Ytbngfbpegdcpkaa
set_option linter.unusedVariables false
set_option linter.unusedSimpArgs false
set_option maxRecDepth 100000
/-! slices.Insert, walked: what becomes of memory. -/
section
open Go.RowKit Go.Lib
theorem run_copy_fit {P : Program} {dT sT ty E : TypeId} {i : TypeInfo} (hd : P.underlying dT = some (.slice E)) (hi : P.info? E = some i) (b o dLen dCap : Nat) (a : Addr) (sLen sCap : Nat) (us : List Value) (w : World) (k : Nat) (hk : k = Nat.min sLen dLen) (hlen : us.length = k * i.size)
    (hus : ∀ j u, us[j]? = some u → w.cell? (a.add j) = some u) (hone : ∀ v ∈ us, v.oneCell' = true) (cc : Array Value) (T' : TypeId) (hb : w.heap[b]? = some (.cells cc T' (0, 0))) (hfit : o + us.length ≤ cc.size) :
    (Builtin.copy_ #[dT, sT] ty #[.slice (some ⟨b, o, none⟩) dLen dCap, .slice (some a) sLen sCap]).run P w = .ok (goInt k) (w.setB b (.cells (putC cc o us) T' (0, 0))) := by
  have hf := run_firstCells_some (P := P) w i.size k a sLen sCap us hlen hus
  have hs := run_storeCells (P := P) us w b o 0 cc T' hb hone (by omega)
  simp only [Nat.add_zero] at hs
  simp [Builtin.copy_, run_underlying' hd, run_sizeOf' hi, Builtin.lenOf, ← hk, hf, add_none, hs]
theorem shape_cells {w : World} {b : Nat} {c : Array Value} {T : TypeId} {fz : Nat × Nat} (h : w.heap[b]? = some (.cells c T fz)) : w.shape? b = some (T, c.size) := by simp [World.shape?, h]
theorem frozen_cells {w : World} {b : Nat} {c : Array Value} {T : TypeId} (h : w.heap[b]? = some (.cells c T (0, 0))) (o : Nat) (s : Option Nat) : w.frozen? ⟨b, o, s⟩ = false := by simp [World.frozen?, h]
theorem info_el : ∃ I, Try.prog.info? 3 = some I ∧ I.size = 1 ∧ I.bytes = 8 := by
  have h : (Try.prog.info? 3).map (fun i => (i.size, i.bytes)) = some (1, 8) := by kernel_rfl
  cases hq : Try.prog.info? 3 with
  | none => rw [hq] at h; cases h
  | some I => rw [hq] at h; simp only [Option.map_some, Option.some.injEq, Prod.mk.injEq] at h; exact ⟨I, rfl, h.1, h.2⟩
theorem info_elz : ∃ I, Try.prog.info? 3 = some I ∧ I.zero = some (Value.int .i64 0) ∧ I.size = 1 ∧ I.bytes = 8 := info_parts (by kernel_rfl)
section
set_option maxHeartbeats 4000000
variable (b off n c i vb voff vc : Nat) (cc cv : Array Value) (T Tv : TypeId) (us vs : List Value) (w : World)
theorem overlaps_no (lb cb la ca oa ob : Nat) (hvb : vb ≠ b) (hb : w.heap[b]? = some (.cells cc T (0, 0))) (hv : w.heap[vb]? = some (.cells cv Tv (0, 0))) (h0 : cc.size ≠ 0) :
    (callFunc 60 #[.slice (some ⟨vb, oa, none⟩) la ca, .slice (some ⟨b, ob, none⟩) lb cb]).run Try.prog w = .ok (.value (.bool false)) w := by
  rw [run_callFunc_extern Try.func60 (by kernel_rfl) (by kernel_rfl) (by kernel_rfl) (e := Extern.SlicesOverlaps.overlaps #[22, 22] #[4]) (by kernel_rfl),
    Lib.run_overlaps_apart w 22 4 3 Try.underlying22 1 (fun w => by kernel_rfl) ⟨vb, oa, none⟩ ⟨b, ob, none⟩ la ca lb cb hvb Tv T cv.size cc.size (shape_cells hv) (shape_cells hb) h0 (frozen_cells hv _ _) (frozen_cells hv _ _)]
  rfl
theorem ins_shift (hi : i < n) (hroom : n + 1 ≤ c) (hn63 : n + 1 ≤ 4611686018427387904) (hvb : vb ≠ b) (hb : w.heap[b]? = some (.cells cc T (0, 0))) (hfit : off + (c) ≤ cc.size)
    (hul : us.length = (n - i)) (hus : ∀ k u, us[k]? = some u → w.cell? ⟨b, off + (i) + k, none⟩ = some u) (h1u : ∀ v ∈ us, v.oneCell' = true)
    (hv : w.heap[vb]? = some (.cells cv Tv (0, 0))) (hvl : vs.length = 1) (hvs : ∀ k u, vs[k]? = some u → w.cell? ⟨vb, voff + k, none⟩ = some u) (h1v : ∀ v ∈ vs, v.oneCell' = true) :
    Calls Try.prog 33 #[.slice (some ⟨b, off, none⟩) n c, .int .i64 i, .slice (some ⟨vb, voff, none⟩) 1 vc] w fun e w' =>
      e = .returned (.slice (some ⟨b, off, none⟩) (n + 1) c) ∧ w' = w.drew.setB b (.cells (putC (putC cc (off + (i + 1)) us) (off + (i)) vs) T (0, 0)) := by
  have hz2 : ¬ ((i : Int) = (n : Int)) := by omega
  have hw1 : IntKind.i64.wrap ((i : Int) + 1) = (i : Int) + 1 := by rw [IntKind.wrap_i64]; omega
  have hw2 : IntKind.i64.wrap ((n : Int) + 1) = (n : Int) + 1 := by rw [IntKind.wrap_i64]; omega
  have hov : ∀ lb cb, (callFunc 60 #[.slice (some ⟨vb, voff, none⟩) 1 vc, .slice (some ⟨b, off + (i + 1), none⟩) lb cb]).run Try.prog w = .ok (.value (.bool false)) w := fun lb cb => overlaps_no (b := b) (vb := vb) (cc := cc) (cv := cv) (T := T) (Tv := Tv) (w := w) _ _ _ _ _ _ hvb hb hv (by omega)
  obtain ⟨I, hinfo, hsz, hby⟩ := info_el
  have hcp1 : ∀ ty dc sc, (Builtin.copy_ #[22, 22] ty #[.slice (some ⟨b, off + (i + 1), none⟩) (n - i) dc, .slice (some ⟨b, off + (i), none⟩) (n + 1 - i) sc]).run Try.prog w.drew = .ok (goInt (n - i : Nat)) (w.drew.setB b (.cells (putC cc (off + (i + 1)) us) T (0, 0))) := fun ty dc sc =>
    run_copy_fit Try.underlying22 hinfo b _ _ dc ⟨b, off + (i), none⟩ _ sc us w.drew (n - i) (by simp only [Nat.min_def]; split <;> omega) (by rw [hul, hsz]; try omega) (fun j u hj => by rw [Addr.add_lit]; exact hus j u hj) h1u cc T hb (by rw [hul]; omega)
  have hb2 : (w.drew.setB b (.cells (putC cc (off + (i + 1)) us) T (0, 0))).heap[b]? = some (.cells (putC cc (off + (i + 1)) us) T (0, 0)) := setB_at (w := w.drew) hb _
  have hcp2 : ∀ (W : World), W = w.drew.setB b (.cells (putC cc (off + (i + 1)) us) T (0, 0)) → ∀ ty dc, (Builtin.copy_ #[22, 22] ty #[.slice (some ⟨b, off + (i), none⟩) (n + 1 - i) dc, .slice (some ⟨vb, voff, none⟩) 1 vc]).run Try.prog W = .ok (goInt (1 : Nat)) (W.setB b (.cells (putC (putC cc (off + (i + 1)) us) (off + (i)) vs) T (0, 0))) := fun W hW ty dc =>
    run_copy_fit Try.underlying22 hinfo b _ _ dc ⟨vb, voff, none⟩ _ vc vs W 1 (by simp only [Nat.min_def]; split <;> omega) (by rw [hvl, hsz]) (fun j u hj => by
      rw [Addr.add_lit, hW]
      have := hvs j u hj
      unfold World.cell? at this ⊢
      rw [setB_other _ _ hvb]; exact this) h1v _ T (by rw [hW]; exact hb2) (by rw [putC_size, hvl]; omega)
  have hb1 : (0 : Int) ≤ (i : Int) + 1 := by omega
  have hin : i ≤ n := by omega
  have hci1 : ¬ (c = i + 1) := by omega
  have hci : ¬ (c = i) := by omega
  have hb3 : (i : Int) ≤ (n : Int) + 1 := by omega
  have htn : ((i : Int) + 1).toNat = i + 1 := by omega
  have mixed : Try.prog.follows .mixedOrders = true := by kernel_rfl
  go_enter Try.func33, Try.ntmps33
  go_wp2_with (simp only [hov])
  go_region_law_o (refine step_copy_runI rfl _ _ 22 22 rfl _ _ (by simp [Act.eval, Act.put]) (by simp [Act.eval, Act.put]) (hcp1 _ _ _) ?_)
  go_wp2_with (at_builtin; refine wpList_copy_runI _ rfl _ _ 22 22 rfl _ _ rfl rfl (hcp2 _ rfl _ _) ?_)
  go_ret
  exact ⟨rfl, by rw [setB_setB]⟩
theorem alloc_setB (w : World) (O O' : Obj) : (w.alloc O).setB w.heap.size O' = w.alloc O' := by
  have h : (w.heap.push O).setIfInBounds w.heap.size O' = w.heap.push O' := by
    apply Array.ext_getElem?
    intro j
    simp only [Array.getElem?_setIfInBounds, Array.getElem?_push, Array.size_push]
    by_cases e : w.heap.size = j
    · simp [e]
    · simp [e, Ne.symm e]
  unfold World.alloc World.setB
  simp only [h]
theorem ins_row (us0 zs vs us : List Value) (rest : Array Value) (h : zs.length = vs.length + us.length) : putC (putC ((us0 ++ zs).toArray ++ rest) us0.length vs) (us0.length + vs.length) us = (us0 ++ vs ++ us).toArray ++ rest := by
  apply Array.ext_getElem?
  intro j
  rw [putC_get, putC_get, putC_size]
  simp only [Array.size_append, List.size_toArray, List.length_append]
  by_cases h1 : j < us0.length
  · rw [if_neg (by omega), if_neg (by omega), Array.getElem?_append_left (by simp; omega), Array.getElem?_append_left (by simp; omega)]
    simp only [List.getElem?_toArray]
    rw [List.getElem?_append_left h1, List.append_assoc, List.getElem?_append_left h1]
  · by_cases h2 : j < us0.length + vs.length
    · rw [if_neg (by omega), if_pos (by omega), Array.getElem?_append_left (by simp; omega)]
      simp only [List.getElem?_toArray]
      rw [List.getElem?_append_left (by simp; omega), List.getElem?_append_right (by omega)]
    · by_cases h3 : j < us0.length + vs.length + us.length
      · rw [if_pos (by omega), Array.getElem?_append_left (by simp; omega)]
        simp only [List.getElem?_toArray]
        rw [List.getElem?_append_right (by simp; omega)]
        congr 1
        simp
      · rw [if_neg (by omega), if_neg (by omega), Array.getElem?_append_right (by simp; omega), Array.getElem?_append_right (by simp; omega)]
        congr 1
        simp only [List.size_toArray, List.length_append]
        omega
theorem ins_grow (us0 : List Value) (hi : i < n) (hnc : n ≤ c) (hroom : c < n + 1) (hbig : (n + 1) * 8 ≤ 140737488355328) (hn63 : n + 1 ≤ 4611686018427387904) (hvb : vb ≠ b) (hb : w.heap[b]? = some (.cells cc T (0, 0)))
    (hu0 : us0.length = (i)) (hus0 : ∀ k u, us0[k]? = some u → w.cell? ⟨b, off + k, none⟩ = some u)
    (hul : us.length = (n - i)) (hus : ∀ k u, us[k]? = some u → w.cell? ⟨b, off + (i) + k, none⟩ = some u) (h1u : ∀ v ∈ us, v.oneCell' = true)
    (hv : w.heap[vb]? = some (.cells cv Tv (0, 0))) (hvl : vs.length = 1) (hvs : ∀ k u, vs[k]? = some u → w.cell? ⟨vb, voff + k, none⟩ = some u) (h1v : ∀ v ∈ vs, v.oneCell' = true) :
    ∃ (G : Nat) (rest : Array Value), n + 1 ≤ G ∧ rest.size = (G - (n + 1)) * 1 ∧ Calls Try.prog 33 #[.slice (some ⟨b, off, none⟩) n c, .int .i64 i, .slice (some ⟨vb, voff, none⟩) 1 vc] w fun e w' =>
      e = .returned (.slice (some ⟨w.heap.size, 0, none⟩) (n + 1) G) ∧ w' = w.drew.drew.alloc (.cells ((us0 ++ vs ++ us).toArray ++ rest) 3) := by
  obtain ⟨I, hinfo, hz, hsz, hby⟩ := info_elz
  have hbw : b < w.heap.size := (Array.getElem?_eq_some_iff.1 hb).1
  have hvw : vb < w.heap.size := (Array.getElem?_eq_some_iff.1 hv).1
  have hz2 : ¬ ((i : Int) = (n : Int)) := by omega
  have hz3 : (c : Int) < (n : Int) + 1 := by omega
  have hkk : (n : Int) + 1 - (i : Int) = ((n + 1 - i : Nat) : Int) := by omega
  have hik : i + (n + 1 - i) = n + 1 := by omega
  have hold : (Builtin.firstCells I.size i (.slice (some ⟨b, off, none⟩) i c)).run Try.prog w.drew = .ok us0.toArray w.drew :=
    run_firstCells_some w.drew I.size i ⟨b, off, none⟩ i c us0 (by rw [hu0, hsz]; try omega) (fun j v hj => by rw [Addr.add_lit]; exact hus0 j v hj)
  have hrz : ∀ ty, (Builtin.append_ #[22, 3] ty #[.slice (some ⟨b, off, none⟩) i c, .int .i64 ((n : Int) + 1 - (i : Int))]).run Try.prog w =
      .ok (.slice (some ⟨w.heap.size, 0, none⟩) (n + 1) (grownCap w (n + 1) c 3)) (w.drew.alloc (.cells (us0.toArray ++ Builtin.zeroCells (Value.int .i64 0).cells (n + 1 - i) ++ Builtin.zeroCells (Value.int .i64 0).cells (grownCap w (n + 1) c 3 - (n + 1))) 3)) := fun ty => by
    have h := Lib.run_append_grow_zeros (P := Try.prog) w 22 3 ty 3 I _ .i64 .i64 Try.underlying22 Try.underlying3 hinfo hz (some ⟨b, off, none⟩) i c us0 hold (n + 1 - i) (by omega) (by omega) (by omega) (by omega) (by rw [hby]; omega) (by rw [hby, hik]; exact growslice_fits hroom hbig)
    rw [hik] at h
    rw [hkk]
    exact h
  obtain ⟨G, hG⟩ : ∃ G, G = grownCap w (n + 1) c 3 := ⟨_, rfl⟩
  obtain ⟨zs, hzs⟩ : ∃ zs : List Value, zs = (Builtin.zeroCells (Value.int .i64 0).cells (n + 1 - i)).toList := ⟨_, rfl⟩
  obtain ⟨rest, hrest⟩ : ∃ rest : Array Value, rest = Builtin.zeroCells (Value.int .i64 0).cells (G - (n + 1)) := ⟨_, rfl⟩
  rw [← hG, ← hrest] at hrz
  have hzl : zs.length = vs.length + us.length := by rw [hzs, hvl, hul]; simp [Builtin.zeroCells, Value.cells]; omega
  have hROW : us0.toArray ++ Builtin.zeroCells (Value.int .i64 0).cells (n + 1 - i) ++ rest = (us0 ++ zs).toArray ++ rest := by rw [hzs]; apply Array.ext'; simp
  rw [hROW] at hrz
  have hGn : n + 1 ≤ G := by rw [hG]; exact grownCap_ge w _ _ _
  refine ⟨G, rest, hGn, by rw [hrest]; simp [Builtin.zeroCells, Value.cells], ?_⟩
  obtain ⟨ROW, hR⟩ : ∃ ROW, ROW = (us0 ++ zs).toArray ++ rest := ⟨_, rfl⟩
  obtain ⟨W1, hW1⟩ : ∃ W1, W1 = w.drew.alloc (.cells ROW 3) := ⟨_, rfl⟩
  rw [← hR, ← hW1] at hrz
  have hRs : ROW.size = us0.length + zs.length + rest.size := by rw [hR]; simp
  have h1 : W1.heap[w.heap.size]? = some (.cells ROW 3 (0, 0)) := by rw [hW1]; exact Array.getElem?_push_size
  have hold1 : ∀ k, k < w.heap.size → W1.heap[k]? = w.heap[k]? := fun k hk => by rw [hW1]; show (w.heap.push _)[k]? = _; rw [Array.getElem?_push, if_neg (by omega)]
  have hcpA : ∀ (W : World), W.heap = W1.heap → ∀ ty dc, (Builtin.copy_ #[22, 22] ty #[.slice (some ⟨w.heap.size, (i), none⟩) (n + 1 - i) dc, .slice (some ⟨vb, voff, none⟩) 1 vc]).run Try.prog W = .ok (goInt (1 : Nat)) (W.setB w.heap.size (.cells (putC ROW ((i)) vs) 3 (0, 0))) := fun W hW ty dc =>
    run_copy_fit Try.underlying22 hinfo _ _ _ dc ⟨vb, voff, none⟩ _ vc vs W 1 (by simp only [Nat.min_def]; split <;> omega) (by rw [hvl, hsz]) (fun j u hj => by
      rw [Addr.add_lit]
      have := hvs j u hj
      unfold World.cell? at this ⊢
      simp only at this ⊢
      rw [hW, hold1 _ hvw]; exact this) h1v ROW _ (by rw [hW]; exact h1) (by rw [hRs, hu0, hzl, hvl]; omega)
  have hcpB : ∀ (W : World), W.heap = (W1.setB w.heap.size (.cells (putC ROW ((i)) vs) 3 (0, 0))).heap → ∀ ty dc sc, (Builtin.copy_ #[22, 22] ty #[.slice (some ⟨w.heap.size, (i + 1), none⟩) (n - i) dc, .slice (some ⟨b, off + (i), none⟩) (n - i) sc]).run Try.prog W = .ok (goInt (n - i : Nat)) (W.setB w.heap.size (.cells (putC (putC ROW ((i)) vs) ((i + 1)) us) 3 (0, 0))) := fun W hW ty dc sc =>
    run_copy_fit Try.underlying22 hinfo _ _ _ dc ⟨b, off + (i), none⟩ _ sc us W (n - i) (by simp) (by rw [hul, hsz]; try omega) (fun j u hj => by
      rw [Addr.add_lit]
      have := hus j u hj
      unfold World.cell? at this ⊢
      simp only at this ⊢
      rw [hW, setB_other _ _ (by omega), hold1 _ hbw]; exact this) h1u _ _ (by rw [hW]; exact setB_at h1 _) (by rw [putC_size, hRs, hu0, hzl, hul, hvl]; omega)
  have hb1 : (0 : Int) ≤ (i : Int) + 1 := by omega
  have hin : i ≤ n := by omega
  have hci : ¬ (c = i) := by omega
  have hGi : ¬ (G = i) := by omega
  have hGi1 : ¬ (G = i + 1) := by omega
  have hb3 : (i : Int) ≤ (n : Int) + 1 := by omega
  have htn : ((i : Int) + 1).toNat = i + 1 := by omega
  have hw1 : IntKind.i64.wrap ((i : Int) + 1) = (i : Int) + 1 := by rw [IntKind.wrap_i64]; omega
  have hw2 : IntKind.i64.wrap ((n : Int) + 1) = (n : Int) + 1 := by rw [IntKind.wrap_i64]; omega
  have hw3 : IntKind.i64.wrap ((n : Int) + 1 - (i : Int)) = (n : Int) + 1 - (i : Int) := by rw [IntKind.wrap_i64]; omega
  have hfin : (((W1.setB w.heap.size (.cells (putC ROW ((i)) vs) 3 (0, 0))).drew).setB w.heap.size (.cells (putC (putC ROW ((i)) vs) ((i + 1)) us) 3 (0, 0))) = w.drew.drew.alloc (.cells ((us0 ++ vs ++ us).toArray ++ rest) 3) := by
    have e1 := ins_row us0 zs vs us rest hzl
    have e2 : us0.length + vs.length = (i + 1) := by rw [hu0, hvl]; try omega
    rw [← hR, e2, hu0] at e1
    rw [e1, hW1]
    exact (setB_setB (w.drew.alloc (.cells ROW 3)).drew w.heap.size _ _).trans (alloc_setB w.drew.drew _ _)
  obtain ⟨CA, hCA⟩ : ∃ CA, CA = putC ROW ((i)) vs := ⟨_, rfl⟩
  obtain ⟨CB, hCB⟩ : ∃ CB, CB = putC CA ((i + 1)) us := ⟨_, rfl⟩
  rw [← hCA] at hcpA hcpB hfin
  rw [← hCB] at hcpB hfin
  clear hCA hCB hkk hik hold hROW hG hRs hR hW1 hzs hrest h1 hold1 hzl
  have mixed : Try.prog.follows .mixedOrders = true := by kernel_rfl
  go_enter Try.func33, Try.ntmps33
  go_wp2_with (first
    | (at_builtin; refine Lib.wpList_append_run _ rfl _ _ _ _ rfl _ _ rfl rfl _ _ (hrz _) ?_)
    | (at_builtin; refine wpList_copy_runI _ rfl _ _ 22 22 rfl _ _ rfl rfl (hcpA _ rfl _ _) ?_))
  go_region_law_o (refine step_copy_runI rfl _ _ 22 22 rfl (.slice (some ⟨w.heap.size, (i + 1), none⟩) (n - i) (G - (i + 1))) (.slice (some ⟨b, off + (i), none⟩) (n - i) (c - i)) (by simp [Act.eval, Act.put]) (by simp [Act.eval, Act.put]) (hcpB (W1.setB w.heap.size (.cells CA 3 (0, 0))).drew rfl 3 (G - (i + 1)) (c - i)) ?_)
  go_wp2
  go_ret
  first | exact ⟨rfl, hfin⟩ | exact ⟨rfl, by rw [List.append_assoc]; rfl⟩
theorem ins_end (A : Option Addr) (hnc : n ≤ c) (hn63 : n + 1 ≤ 4611686018427387904) {r : Value} {w' : World} (hr : ∀ ty, (Builtin.append_ #[22, 22] ty #[.slice A n c, .slice (some ⟨vb, voff, none⟩) 1 vc]).run Try.prog w = .ok r w') :
    Calls Try.prog 33 #[.slice A n c, .int .i64 n, .slice (some ⟨vb, voff, none⟩) 1 vc] w fun e w2 => e = .returned r ∧ w2 = w' := by
  have mixed : Try.prog.follows .mixedOrders = true := by kernel_rfl
  go_enter Try.func33, Try.ntmps33
  go_wp2_with (at_builtin; refine Lib.wpList_append_run _ rfl _ _ _ _ rfl _ _ rfl rfl _ _ (hr _) ?_)
  all_goals (go_ret; exact ⟨rfl, rfl⟩)
end
end
/-! slices.Insert's contract: own memory. -/
section
open Go.RowKit Go.Lib

/-- a world that differs in what was drawn alone -/
structure Like (w w0 : World) : Prop where
  heap : w0.heap = w.heap
  os : w0.os = w.os
  tape : w0.tape = w.tape
  output : w0.output = w.output
theorem Like.rfl' {w : World} : Like w w := ⟨rfl, rfl, rfl, rfl⟩
theorem Like.drew {w : World} : Like w w.drew := ⟨rfl, rfl, rfl, rfl⟩
theorem Like.drew2 {w : World} : Like w w.drew.drew := ⟨rfl, rfl, rfl, rfl⟩
theorem Like.rep {w w0 : World} (h : Like w w0) {H : Heap} {ρ : Locs} {R : Imm} (hR : Rep H ρ R w) : Rep H ρ R w0 := ⟨fun l o e => by rw [h.heap]; exact hR.own l o e, hR.sep, hR.dis, fun b O e => by rw [h.heap]; exact hR.imm b O e⟩
theorem Like.fut {w w0 : World} (h : Like w w0) {H : Heap} {ρ ρ' : Locs} {R R' : Imm} {W : Lab → Prop} {w' : World} (hF : Fut H ρ R w0 W ρ' R' w') : Fut H ρ R w W ρ' R' w' :=
  ⟨hF.ext, fun l L e => by have := hF.win l L e; rw [h.heap] at this; exact this, fun b O e => by have := hF.new b O e; rw [h.heap] at this; exact this, hF.os.trans h.os, hF.tape.trans h.tape, hF.output.trans h.output, by have := hF.size; rw [h.heap] at this; exact this, fun b hb hno => by
    have := hF.frame b (by rw [h.heap]; exact hb) hno; rw [h.heap] at this; exact this⟩
section
variable (b off n c i vb voff vc : Nat) (cc cv : Array Value) (T Tv : TypeId) (us vs : List Value) (w : World)
theorem ins_fit (hi : i ≤ n) (hroom : n + 1 ≤ c) (hn63 : n + 1 ≤ 4611686018427387904) (hvb : vb ≠ b) (hb : w.heap[b]? = some (.cells cc T (0, 0))) (hfit : off + (c) ≤ cc.size)
    (hul : us.length = (n - i)) (hus : ∀ k u, us[k]? = some u → w.cell? ⟨b, off + (i) + k, none⟩ = some u) (h1u : ∀ v ∈ us, v.oneCell' = true)
    (hv : w.heap[vb]? = some (.cells cv Tv (0, 0))) (hvl : vs.length = 1) (hvs : ∀ k u, vs[k]? = some u → w.cell? ⟨vb, voff + k, none⟩ = some u) (h1v : ∀ v ∈ vs, v.oneCell' = true) :
    Calls Try.prog 33 #[.slice (some ⟨b, off, none⟩) n c, .int .i64 i, .slice (some ⟨vb, voff, none⟩) 1 vc] w fun e w' =>
      e = .returned (.slice (some ⟨b, off, none⟩) (n + 1) c) ∧ ∃ w0, Like w w0 ∧ w' = w0.setB b (.cells (putC (putC cc (off + (i + 1)) us) (off + (i)) vs) T (0, 0)) := by
  obtain ⟨I, hinfo, hz, hsz, hby⟩ := info_elz
  rcases Nat.lt_or_ge i n with hlt | hge
  · refine (ins_shift b off n c i vb voff vc cc cv T Tv us vs w hlt hroom hn63 hvb hb hfit hul hus h1u hv hvl hvs h1v).mono ?_
    rintro e w' ⟨he, hw⟩
    exact ⟨he, w.drew, .drew, hw⟩
  · obtain rfl : i = n := by omega
    have hus0 : us = [] := List.length_eq_zero_iff.1 (by rw [hul]; simp)
    subst hus0
    have hr := fun ty => run_append_fit (ty := ty) (P := Try.prog) Try.underlying22 Try.underlying22 hinfo b off i 1 c vc ⟨vb, voff, none⟩ vs hroom w (by rw [hvl, hsz]) (fun k u hk => by rw [Addr.add_lit]; exact hvs k u hk) h1v cc T hb (by rw [hsz, hvl]; omega)
    rw [hsz] at hr
    refine (ins_end i c vb voff vc w _ (by omega) hn63 hr).mono ?_
    rintro e w' ⟨he, hw⟩
    refine ⟨he, w, .rfl', ?_⟩
    rw [hw]; simp [putC]
theorem ins_more (A : Option Addr) (us0 : List Value) (hi : i ≤ n) (hnc : n ≤ c) (hroom : c < n + 1) (hbig : (n + 1) * 8 ≤ 140737488355328) (hn63 : n + 1 ≤ 4611686018427387904)
    (hA : n = 0 ∨ (A = some ⟨b, off, none⟩ ∧ vb ≠ b ∧ w.heap[b]? = some (.cells cc T (0, 0))))
    (hu0 : us0.length = (i)) (hus0 : ∀ k u, us0[k]? = some u → w.cell? ⟨b, off + k, none⟩ = some u)
    (hul : us.length = (n - i)) (hus : ∀ k u, us[k]? = some u → w.cell? ⟨b, off + (i) + k, none⟩ = some u) (h1u : ∀ v ∈ us, v.oneCell' = true)
    (hv : w.heap[vb]? = some (.cells cv Tv (0, 0))) (hvl : vs.length = 1) (hvs : ∀ k u, vs[k]? = some u → w.cell? ⟨vb, voff + k, none⟩ = some u) (h1v : ∀ v ∈ vs, v.oneCell' = true) :
    Calls Try.prog 33 #[.slice A n c, .int .i64 i, .slice (some ⟨vb, voff, none⟩) 1 vc] w fun e w' =>
      ∃ (G : Nat) (rest : Array Value) (w0 : World), n + 1 ≤ G ∧ rest.size = (G - (n + 1)) * 1 ∧ Like w w0 ∧ e = .returned (.slice (some ⟨w.heap.size, 0, none⟩) (n + 1) G) ∧ w' = w0.alloc (.cells ((us0 ++ vs ++ us).toArray ++ rest) 3 (0, 0)) := by
  obtain ⟨I, hinfo, hz, hsz, hby⟩ := info_elz
  rcases Nat.lt_or_ge i n with hlt | hge
  · obtain ⟨rfl, hvb, hb⟩ := hA.resolve_left (by omega)
    obtain ⟨G, rest, h1, h2, h3⟩ := ins_grow b off n c i vb voff vc cc cv T Tv us vs w us0 hlt hnc hroom hbig hn63 hvb hb hu0 hus0 hul hus h1u hv hvl hvs h1v
    refine h3.mono ?_
    rintro e w' ⟨he, hw⟩
    exact ⟨G, rest, w.drew.drew, h1, h2, .drew2, he, hw⟩
  · obtain rfl : i = n := by omega
    have husn : us = [] := List.length_eq_zero_iff.1 (by rw [hul]; simp)
    subst husn
    have key : ∃ nc rest, i + 1 ≤ nc ∧ rest.size = (nc - (i + 1)) * 1 ∧ ∀ ty, (Builtin.append_ #[22, 22] ty #[.slice A i c, .slice (some ⟨vb, voff, none⟩) 1 vc]).run Try.prog w = .ok (.slice (some ⟨w.heap.size, 0, none⟩) (i + 1) nc) (w.drew.alloc (.cells (us0.toArray ++ vs.toArray ++ rest) 3)) := by
      have hall := fun ty => run_append_more (ty := ty) (P := Try.prog) Try.underlying22 Try.underlying22 hinfo hz A i 1 c vc ⟨vb, voff, none⟩ us0 vs hroom hnc w (by rw [hu0, hsz]; try omega) (by
          rcases hA with h0 | ⟨rfl, _, _⟩
          · exact .inl h0
          · exact .inr ⟨_, rfl, fun k u hk => by rw [Addr.add_lit]; exact hus0 k u hk⟩) (by rw [hvl, hsz]) (fun k u hk => by rw [Addr.add_lit]; exact hvs k u hk) hn63 (by rw [hby]; exact hbig)
      obtain ⟨nc, rest, h1, _, h3, h4⟩ := hall 0
      refine ⟨nc, rest, h1, by rw [h3]; simp [Value.cells], fun ty => ?_⟩
      unfold Builtin.append_ at h4 ⊢
      exact h4
    obtain ⟨nc, rest, h1, h2, h3⟩ := key
    refine (ins_end i c vb voff vc w A hnc hn63 h3).mono ?_
    rintro e w' ⟨he, hw⟩
    refine ⟨nc, rest, w.drew, h1, h2, .drew, he, ?_⟩
    rw [hw]; simp
end
theorem shift_get (cc : Array Value) (o : Nat) (us0 vs us : List Value) (h0 : ∀ k u, us0[k]? = some u → cc[o + k]? = some u) (hfit : o + us0.length + vs.length + us.length ≤ cc.size) :
    ∀ k u, (us0 ++ vs ++ us)[k]? = some u → (putC (putC cc (o + us0.length + vs.length) us) (o + us0.length) vs)[o + k]? = some u := by
  intro k u hk
  rw [putC_get, putC_get, putC_size]
  have hlt := (List.getElem?_eq_some_iff.1 hk).1
  simp only [List.length_append] at hlt
  by_cases h1 : k < us0.length
  · rw [if_neg (by omega), if_neg (by omega)]
    rw [List.append_assoc, List.getElem?_append_left h1] at hk
    exact h0 k u hk
  · by_cases h2 : k < us0.length + vs.length
    · rw [if_pos (by omega), show o + k - (o + us0.length) = k - us0.length by omega]
      rw [List.getElem?_append_left (by simp; omega), List.getElem?_append_right (by omega)] at hk
      exact hk
    · rw [if_neg (by omega), if_pos (by omega), show o + k - (o + us0.length + vs.length) = k - (us0.length + vs.length) by omega]
      rw [List.getElem?_append_right (by simp; omega)] at hk
      simpa using hk
theorem insert_callable : Callable Try.prog 33 := ⟨_, Try.func33, by kernel_rfl, by kernel_rfl⟩
theorem insert_sl {H : Heap} {q l lv : Lab} {off n i : Nat} {rs : List (List AV)} {row : List AV} (hl : H l = some (.rows 1 rs)) (hn : off + n ≤ rs.length) (hv : H lv = some (.rows 1 [row])) (hne : l ≠ lv) (hi : i ≤ n) (h48 : (n + 1) * 8 ≤ 140737488355328) (h63 : n + 1 ≤ 4611686018427387904) :
    SoundRes Try.prog 33 [.sl l 1 off n, .int .i64 i, .sl lv 1 0 1] H q ⟨.sl q 1 0 (n + 1), [(q, some (.rows 1 ((rs.drop off).take i ++ [row] ++ (rs.drop (off + i)).take (n - i)))), (l, none)], some [l, lv]⟩ := by
  refine ⟨insert_callable, fun k hk => ?_, fun ρ R vals hvs w hR hfr => ?_⟩
  · obtain ⟨pr, hp, rfl⟩ := hk
    simp at hp
    rcases hp with rfl | rfl
    · exact .inr (.self _)
    · exact .inl (by simp [restr, hl])
  obtain ⟨v0, vals, rfl, hx0, hvs⟩ := hvs.head
  obtain ⟨v1, vals, rfl, hx1, hvs⟩ := hvs.head
  obtain ⟨v2, vals, rfl, hx2, hvs⟩ := hvs.head
  obtain rfl : vals = [] := List.length_eq_zero_iff.1 hvs.1
  cases hx1
  have hqf : ρ q = none := hfr q (.self q)
  have hGl : restr H (some [l, lv]) l = some (.rows 1 rs) := by rw [restr_at (by simp)]; exact hl
  have hGv : restr H (some [l, lv]) lv = some (.rows 1 [row]) := by rw [restr_at (by simp)]; exact hv
  obtain ⟨Lv, Ov, hLv, hOv, hrv⟩ := hR.own lv _ hGv
  obtain ⟨L, O, hL, hO, hr⟩ := hR.own l _ hGl
  have hbn : Lv.blk ≠ L.blk := fun e => hne (hR.sep lv l _ _ Lv L hGv hGl hLv hL e).symm
  cases Ov <;> (have hrv' := hrv; simp only [RepO] at hrv')
  rename_i cv Tv fzv
  obtain ⟨rfl, hvsz, hvrow, hvtop, hvcell⟩ := hrv'
  cases O <;> (have hr' := hr; simp only [RepO] at hr')
  rename_i cc T fz
  obtain ⟨rfl, hsz, hrow, htop, hcell⟩ := hr'
  obtain ⟨hV, hVr⟩ := rowsL_of hrv (off := 0) (n := 1) (by simp)
  generalize ((List.range (1 * 1)).map fun k => cv.getD (Lv.off + 0 * 1 + k) undef) = vs at hV hVr
  have hVl : vs.length = 1 := by rw [hV.1]; simp
  rcases hx2.sl_inv with ⟨L2, vc, hL2, _, _, _, rfl⟩ | ⟨h0, _⟩
  rotate_left
  · cases h0
  rw [hLv] at hL2; cases hL2
  obtain ⟨h0, h0r⟩ := rowsL_of hr (off := off) (n := i) (by omega)
  obtain ⟨hU, hUr⟩ := rowsL_of hr (off := off + i) (n := n - i) (by omega)
  generalize ((List.range (i * 1)).map fun k => cc.getD (L.off + off * 1 + k) undef) = us0 at h0 h0r
  generalize ((List.range ((n - i) * 1)).map fun k => cc.getD (L.off + (off + i) * 1 + k) undef) = us at hU hUr
  have h0l : us0.length = (i) := by rw [h0.1, List.length_take, List.length_drop]; simp; omega
  have hUl : us.length = (n - i) := by rw [hU.1, List.length_take, List.length_drop]; simp; omega
  have hall : RowsL ρ R 1 ((rs.drop off).take i ++ [row] ++ (rs.drop (off + i)).take (n - i)) (us0 ++ vs ++ us) := (h0.append (by simpa using hV)).append hU
  have hlen : ((rs.drop off).take i ++ [row] ++ (rs.drop (off + i)).take (n - i)).length = n + 1 := by simp; omega
  have hvread : ∀ k u, vs[k]? = some u → w.cell? ⟨Lv.blk, Lv.off + 0 * 1 + k, none⟩ = some u := fun k u hk => by rw [cell_at hOv]; exact hVr k u hk
  have huread : ∀ k u, us[k]? = some u → w.cell? ⟨L.blk, L.off + off * 1 + (i) + k, none⟩ = some u := fun k u hk => by
    rw [cell_at hO]
    have := hUr k u hk
    rw [Nat.add_mul] at this
    rw [← this]; congr 1; omega
  have h0read : ∀ k u, us0[k]? = some u → w.cell? ⟨L.blk, L.off + off * 1 + k, none⟩ = some u := fun k u hk => by rw [cell_at hO]; exact h0r k u hk
  have more : ∀ (A : Option Addr) (c : Nat), n ≤ c → c < n + 1 → (n = 0 ∨ A = some ⟨L.blk, L.off + off * 1, none⟩) → callC Try.prog 33 #[.slice A n c, .int .i64 i, .slice (some ⟨Lv.blk, Lv.off + 0 * 1, none⟩) 1 vc] w fun v w' => ∃ ρ' R', Fut (restr H (some [l, lv])) ρ R w (Under q) ρ' R' w' ∧ RepV ρ' R' (.sl q 1 0 (n + 1)) v ∧ Rep (upd [(q, some (.rows 1 ((rs.drop off).take i ++ [row] ++ (rs.drop (off + i)).take (n - i)))), (l, none)] (restr H (some [l, lv]))) ρ' R' w' := by
    intro A c h1 h2 h3
    refine (ins_more L.blk (L.off + off * 1) n c i Lv.blk (Lv.off + 0 * 1) vc cc cv T Tv us vs w A us0 hi h1 h2 h48 h63 (h3.imp id fun e => ⟨e, hbn, hO⟩) h0l h0read hUl huread (hU.one (by decide)) hOv hVl hvread (hV.one (by decide))).mono ?_
    rintro e w' ⟨G, rest, w0, hG, hrest, hlk, rfl, rfl⟩
    have hsz0 : w0.heap.size = w.heap.size := by rw [hlk.heap]
    obtain ⟨hF, hRep⟩ := fut_new (W := Under q) (hlk.rep hR) hqf (Under.self q) (O := .cells ((us0 ++ vs ++ us).toArray ++ rest) 3 (0, 0)) (L := ⟨w0.heap.size, 0, ((us0 ++ vs ++ us).toArray ++ rest).size, ((rs.drop off).take i ++ [row] ++ (rs.drop (off + i)).take (n - i)).length⟩) rfl (repO_rows hall rest _ _)
    refine ⟨_, rfl, _, _, hlk.fut hF, ?_, hRep.drop (fun k ob hk => ?_)⟩
    · have := RepV.sl (ρ := fun k => if k = q then some ⟨w0.heap.size, 0, ((us0 ++ vs ++ us).toArray ++ rest).size, ((rs.drop off).take i ++ [row] ++ (rs.drop (off + i)).take (n - i)).length⟩ else ρ k) (R := R) q 1 0 (n + 1) G _ (if_pos rfl) hG (by
        simp only [Nat.zero_add, Array.size_append, List.size_toArray, List.length_append]
        rw [h0l, hVl, hUl, hrest]; omega) (by rw [hlen]; simp only [Nat.zero_add]; exact hG)
      rw [hsz0] at this
      simpa [hsz0] using this
    · simp only [upd] at hk ⊢
      split at hk
      · rename_i e; rw [if_pos e]; exact hk
      · rename_i e; rw [if_neg e]
        split at hk
        · cases hk
        · exact hk
  show callC Try.prog 33 #[v0, .int .i64 i, _] w _
  rcases hx0.sl_inv with ⟨L3, cap, hL3, hcap, ht, hext, rfl⟩ | ⟨rfl, L3, ad, hL3, hext, rfl⟩
  · rw [hL] at hL3; cases hL3
    rcases Nat.lt_or_ge cap (n + 1) with hlt | hge
    · exact more _ _ hcap hlt (.inr rfl)
    · refine (ins_fit L.blk (L.off + off * 1) n cap i Lv.blk (Lv.off + 0 * 1) vc cc cv T Tv us vs w hi hge h63 hbn hO (by rw [hsz]; rw [Nat.add_mul] at ht; omega) hUl huread (hU.one (by decide)) hOv hVl hvread (hV.one (by decide))).mono ?_
      rintro e w' ⟨rfl, w0, hlk, rfl⟩
      have hroom : L.off + off * 1 + us0.length + vs.length + us.length ≤ cc.size := by rw [h0l, hVl, hUl, hsz]; rw [Nat.add_mul] at ht; omega
      have hget := shift_get cc (L.off + off * 1) us0 vs us h0r hroom
      have e1 : L.off + off * 1 + us0.length + vs.length = L.off + off * 1 + (i + 1) := by rw [h0l, hVl]; omega
      have e2 : L.off + off * 1 + us0.length = L.off + off * 1 + (i) := by rw [h0l]
      rw [e1, e2] at hget
      have hnew : RepO ρ R ⟨L.blk, L.off + off * 1, L.top, n + 1⟩ (.rows 1 ((rs.drop off).take i ++ [row] ++ (rs.drop (off + i)).take (n - i))) (.cells (putC (putC cc (L.off + off * 1 + (i + 1)) us) (L.off + off * 1 + (i)) vs) T (0, 0)) := by
        refine ⟨rfl, by rw [putC_size, putC_size]; exact hsz, hall.2.1, ⟨hlen, ?_⟩, fun ii jj xx hxx => ?_⟩
        · rw [hlen, ← hsz]; rw [h0l, hVl, hUl] at hroom; simp only; omega
        · obtain ⟨v, hv, hvr⟩ := hall.2.2 ii jj xx hxx
          exact ⟨v, hget _ _ hv, hvr⟩
      have hO0 : w0.heap[L.blk]? = some (.cells cc T (0, 0)) := by rw [hlk.heap]; exact hO
      obtain ⟨hF, hRep⟩ := fut_move (W := Under q) (hlk.rep hR) hqf (Under.self q) hGl hL hO0 (L' := ⟨L.blk, L.off + off * 1, L.top, n + 1⟩) rfl hnew
      refine ⟨_, rfl, _, _, hlk.fut hF, ?_, hRep⟩
      have := RepV.sl (ρ := fun k => if k = q then some ⟨L.blk, L.off + off * 1, L.top, n + 1⟩ else ρ k) (R := R) q 1 0 (n + 1) cap _ (if_pos rfl) hge (by simp only; rw [Nat.add_mul] at ht; omega) (by simp only [Nat.zero_add]; exact hge)
      simpa using this
  · exact more _ _ (Nat.le_refl _) (by omega) (.inl rfl)
theorem insert_none {H : Heap} {q lv : Lab} {x : AV} {row : List AV} (hxn : x = .nils ∨ x = .sl0) (hv : H lv = some (.rows 1 [row])) :
    SoundRes Try.prog 33 [x, .int .i64 0, .sl lv 1 0 1] H q ⟨.sl q 1 0 1, [(q, some (.rows 1 [row]))], some [lv]⟩ := by
  refine ⟨insert_callable, fun k hk => by rw [has_one hk]; exact .inr (.self _), fun ρ R vals hvs w hR hfr => ?_⟩
  obtain ⟨v0, vals, rfl, hx0, hvs⟩ := hvs.head
  obtain ⟨v1, vals, rfl, hx1, hvs⟩ := hvs.head
  obtain ⟨v2, vals, rfl, hx2, hvs⟩ := hvs.head
  obtain rfl : vals = [] := List.length_eq_zero_iff.1 hvs.1
  cases hx1
  obtain ⟨A, rfl⟩ : ∃ A, v0 = .slice A 0 0 := by
    rcases hxn with rfl | rfl <;> (cases hx0; exact ⟨_, rfl⟩)
  have hqf : ρ q = none := hfr q (.self q)
  have hGv : restr H (some [lv]) lv = some (.rows 1 [row]) := by rw [restr_at (by simp)]; exact hv
  obtain ⟨Lv, Ov, hLv, hOv, hrv⟩ := hR.own lv _ hGv
  cases Ov <;> (have hrv' := hrv; simp only [RepO] at hrv')
  rename_i cv Tv fzv
  obtain ⟨rfl, hvsz, hvrow, hvtop, hvcell⟩ := hrv'
  obtain ⟨hV, hVr⟩ := rowsL_of hrv (off := 0) (n := 1) (by simp)
  generalize ((List.range (1 * 1)).map fun k => cv.getD (Lv.off + 0 * 1 + k) undef) = vs at hV hVr
  have hVl : vs.length = 1 := by rw [hV.1]; simp
  rcases hx2.sl_inv with ⟨L2, vc, hL2, _, _, _, rfl⟩ | ⟨h0, _⟩
  rotate_left
  · cases h0
  rw [hLv] at hL2; cases hL2
  have hall : RowsL ρ R 1 [row] vs := by simpa using hV
  have hvread : ∀ k u, vs[k]? = some u → w.cell? ⟨Lv.blk, Lv.off + 0 * 1 + k, none⟩ = some u := fun k u hk => by rw [cell_at hOv]; exact hVr k u hk
  refine (ins_more 0 0 0 0 0 Lv.blk (Lv.off + 0 * 1) vc #[] cv 0 Tv [] vs w A [] (Nat.le_refl _) (Nat.le_refl _) (by decide) (by decide) (by decide) (.inl rfl) (by simp) (fun k u h => by simp at h) (by simp) (fun k u h => by simp at h) (by simp) hOv hVl hvread (hV.one (by decide))).mono ?_
  rintro e w' ⟨G, rest, w0, hG, hrest, hlk, rfl, rfl⟩
  have hsz0 : w0.heap.size = w.heap.size := by rw [hlk.heap]
  obtain ⟨hF, hRep⟩ := fut_new (W := Under q) (hlk.rep hR) hqf (Under.self q) (O := .cells (vs.toArray ++ rest) 3 (0, 0)) (L := ⟨w0.heap.size, 0, (vs.toArray ++ rest).size, 1⟩) rfl (repO_rows hall rest _ _)
  have e0 : ([] ++ vs ++ [] : List Value) = vs := by simp
  rw [e0]
  refine ⟨_, rfl, _, _, hlk.fut hF, ?_, hRep⟩
  have := RepV.sl (ρ := fun k => if k = q then some ⟨w0.heap.size, 0, (vs.toArray ++ rest).size, 1⟩ else ρ k) (R := R) q 1 0 1 G _ (if_pos rfl) hG (by
    simp only [Nat.zero_add, Array.size_append, List.size_toArray]
    rw [hVl, hrest]; omega) (by simp only [Nat.zero_add]; exact hG)
  rw [hsz0] at this
  simpa [hsz0] using this
theorem insert_nil {H : Heap} {q lv : Lab} {row : List AV} (hv : H lv = some (.rows 1 [row])) :
    SoundRes Try.prog 33 [.nils, .int .i64 0, .sl lv 1 0 1] H q ⟨.sl q 1 0 1, [(q, some (.rows 1 [row]))], some [lv]⟩ := insert_none (.inl rfl) hv
end
/-! slices.Delete, walked; its contract: own memory. -/
section
open Go.RowKit Go.Lib
theorem run_clear_fit {P : Program} {t ty E : TypeId} {z : Value} (hd : P.underlying t = some (.slice E)) (hzv : ∀ w, (zeroValue E).run P w = .ok z w) (b o k c : Nat) (w : World) (hk : 0 < k)
    (hone : ∀ v ∈ (Builtin.zeroCells z.cells k).toList, v.oneCell' = true) (cc : Array Value) (T' : TypeId) (hb : w.heap[b]? = some (.cells cc T' (0, 0))) (hfit : o + (Builtin.zeroCells z.cells k).size ≤ cc.size) :
    (Builtin.clear_ #[t] ty #[.slice (some ⟨b, o, none⟩) k c]).run P w = .ok (.tuple #[]) (w.setB b (.cells (putC cc o (Builtin.zeroCells z.cells k).toList) T' (0, 0))) := by
  have hs := run_storeCells (P := P) (Builtin.zeroCells z.cells k).toList w b o 0 cc T' hb hone (by simpa using hfit)
  simp only [Nat.add_zero] at hs
  obtain ⟨m, rfl⟩ : ∃ m, k = m + 1 := ⟨k - 1, by omega⟩
  simp [Builtin.clear_, run_underlying' hd, hzv, hs]
theorem step_append_runI {P : Program} {ops : Array Oper} {o : Oper} {a : Act} {w : World} {K : Act → World → Prop} {Q : Exit → Act → World → Prop} {E : Prop}
    (hg : o.guard = none) (d x : Operand) (dT sT : TypeId) (hop : o.op = Op.call { callee := Callee.builtin Builtin.append, args := #[d, x], argTypes := #[dT, sT] })
    (v u : Value) (hd : a.eval d = v) (hx : a.eval x = u) {v' : Value} {w' : World} (hr : (Builtin.append_ #[dT, sT] o.type #[v, u]).run P w = .ok v' w') (hK : K (a.put o.dst v') w') :
    if Region.wanted o (yielded ops a.tmps) = true then Oper.wp P o a w K Q else E := by
  have hw : Region.wanted o (yielded ops a.tmps) = true := by simp [Region.wanted, hg]
  rw [if_pos hw]
  unfold Oper.wp
  simp [execOp, hop, resolve, invoke, builtin, hd, hx, hr, Result.andThen]
  exact hK
theorem zero_one (k : Nat) : ∀ v ∈ (Builtin.zeroCells (Value.int .i64 0).cells k).toList, v.oneCell' = true := by
  intro v hv
  have hz : ∀ m, m < (Value.int .i64 0).cells.size → ((Value.int .i64 0).cells[m]!).oneCell' = true := by decide
  simp only [Builtin.zeroCells, Array.toList_map, List.mem_map] at hv
  obtain ⟨m, _, rfl⟩ := hv
  exact hz _ (Nat.mod_lt _ (by decide))
section
set_option maxHeartbeats 4000000
variable (b off n c i j : Nat) (cc : Array Value) (T : TypeId) (us : List Value) (w : World)
theorem del_walk (hi : i < j) (hj : j ≤ n) (hc : n ≤ c) (hn63 : n ≤ 4611686018427387904) (hb : w.heap[b]? = some (.cells cc T (0, 0))) (hfit : off + (c) ≤ cc.size)
    (hul : us.length = (n - j)) (hus : ∀ k u, us[k]? = some u → w.cell? ⟨b, off + (j) + k, none⟩ = some u) (h1u : ∀ v ∈ us, v.oneCell' = true) :
    Calls Try.prog 34 #[.slice (some ⟨b, off, none⟩) n c, .int .i64 i, .int .i64 j] w fun e w' =>
      e = .returned (.slice (some ⟨b, off, none⟩) (i + (n - j)) c) ∧ ∃ zs : List Value, zs.length = (j - i) ∧ w' = w.drew.setB b (.cells (putC (putC cc (off + (i)) us) (off + (i + (n - j))) zs) T (0, 0)) := by
  obtain ⟨I, hinfo, hz, hsz, hby⟩ := info_elz
  have hz2 : ¬ ((i : Int) = (j : Int)) := by omega
  obtain ⟨A, hA, hsrc⟩ : ∃ A : Addr, (if c = j then some (⟨b, off, none⟩ : Addr) else some ⟨b, off + (j), none⟩) = some A ∧ (∀ k u, us[k]? = some u → w.drew.cell? (A.add k) = some u) := by
    by_cases h : c = j
    · refine ⟨⟨b, off, none⟩, by simp [h], fun k u hu => ?_⟩
      have h0 : us = [] := List.length_eq_zero_iff.1 (by rw [hul]; omega)
      rw [h0] at hu; simp at hu
    · exact ⟨⟨b, off + (j), none⟩, by simp [h], fun k u hu => by rw [Addr.add_lit]; exact hus k u hu⟩
  obtain ⟨C1, hC1⟩ : ∃ C1, C1 = putC cc (off + (i)) us := ⟨_, rfl⟩
  have happ : ∀ ty cx, (Builtin.append_ #[22, 22] ty #[.slice (some ⟨b, off, none⟩) i c, .slice (some A) (n - j) cx]).run Try.prog w.drew = .ok (.slice (some ⟨b, off, none⟩) (i + (n - j)) c) (w.drew.setB b (.cells C1 T (0, 0))) := fun ty cx => by
    have := run_append_fit (ty := ty) (P := Try.prog) Try.underlying22 Try.underlying22 hinfo b off i (n - j) c cx A us (by omega) w.drew (by rw [hul, hsz]; try omega) hsrc h1u cc T hb (by rw [hsz, hul]; omega)
    rw [hsz] at this
    try simp only [Nat.mul_one] at this
    rw [hC1]; exact this
  obtain ⟨W1, hW1⟩ : ∃ W1, W1 = w.drew.setB b (.cells C1 T (0, 0)) := ⟨_, rfl⟩
  rw [← hW1] at happ
  have hs1 : C1.size = cc.size := by rw [hC1, putC_size]
  have hb1 : W1.heap[b]? = some (.cells C1 T (0, 0)) := by rw [hW1]; exact setB_at (w := w.drew) hb _
  have hzl : (Builtin.zeroCells (Value.int .i64 0).cells (j - i)).size = (j - i) := by simp [Builtin.zeroCells, Value.cells]
  have hcl : ∀ ty cx, (Builtin.clear_ #[22] ty #[.slice (some ⟨b, off + (i + (n - j)), none⟩) (n - (i + (n - j))) cx]).run Try.prog W1 = .ok (.tuple #[]) (W1.setB b (.cells (putC C1 (off + (i + (n - j))) (Builtin.zeroCells (Value.int .i64 0).cells (j - i)).toList) T (0, 0))) := fun ty cx => by
    have e : n - (i + (n - j)) = j - i := by omega
    rw [e]
    exact run_clear_fit Try.underlying22 (run_zero' hinfo hz) b _ (j - i) cx W1 (by omega) (zero_one _) C1 T hb1 (by rw [hzl, hs1]; omega)
  have hic : i ≤ c := by omega
  have hjc : j ≤ c := by omega
  have hin : i ≤ n := by omega
  have hjn : (j : Int) ≤ (n : Int) := by omega
  have hij : (i : Int) ≤ (j : Int) := by omega
  have hci : ¬ (c = i) := by omega
  have hcne : ¬ (c = i + (n - j)) := by omega
  have hcl2 : (off + (i + (n - j)) + (j - i)) ≤ cc.size := by omega
  have mixed : Try.prog.follows .mixedOrders = true := by kernel_rfl
  have hfin : ∀ O, W1.setB b O = w.drew.setB b O := fun O => by rw [hW1, setB_setB]
  rw [← hC1]
  clear hb1 hs1 hC1 hW1
  go_enter Try.func34, Try.ntmps34
  go_wp2_with fail
  go_region_law_o (refine step_append_runI rfl _ _ 22 22 rfl (.slice (some ⟨b, off, none⟩) i c) (.slice (some A) (n - j) (c - j)) (by simp [Act.eval, Act.put]) (by simp [Act.eval, Act.put]) (happ _ _) ?_)
  go_wp2
  go_ret
  refine ⟨rfl, (Builtin.zeroCells (Value.int .i64 0).cells (j - i)).toList, by simpa using hzl, ?_⟩
  first | exact hfin _ | rfl
theorem del_same (A : Option Addr) (hi : i ≤ n) (hc : n ≤ c) : Calls Try.prog 34 #[.slice A n c, .int .i64 i, .int .i64 i] w fun e w' => e = .returned (.slice A n c) ∧ w' = w := by
  have hin : (i : Int) ≤ (n : Int) := by omega
  have hic : i ≤ c := by omega
  have mixed : Try.prog.follows .mixedOrders = true := by kernel_rfl
  go_enter Try.func34, Try.ntmps34
  go_wp2
  all_goals (go_ret; exact ⟨rfl, rfl⟩)
end
theorem del_get (cc : Array Value) (o : Nat) (us0 us zs : List Value) (h0 : ∀ k u, us0[k]? = some u → cc[o + k]? = some u) (hfit : o + us0.length + us.length + zs.length ≤ cc.size) :
    ∀ k u, (us0 ++ us)[k]? = some u → (putC (putC cc (o + us0.length) us) (o + us0.length + us.length) zs)[o + k]? = some u := by
  intro k u hk
  rw [putC_get, putC_get, putC_size]
  have hlt := (List.getElem?_eq_some_iff.1 hk).1
  simp only [List.length_append] at hlt
  rw [if_neg (by omega)]
  by_cases h1 : k < us0.length
  · rw [if_neg (by omega)]
    rw [List.getElem?_append_left h1] at hk
    exact h0 k u hk
  · rw [if_pos (by omega), show o + k - (o + us0.length) = k - us0.length by omega]
    rw [List.getElem?_append_right (by omega)] at hk
    exact hk
theorem delete_callable : Callable Try.prog 34 := ⟨_, Try.func34, by kernel_rfl, by kernel_rfl⟩
theorem delete_sl {H : Heap} {q l : Lab} {off n i j : Nat} {rs : List (List AV)} (hl : H l = some (.rows 1 rs)) (hn : off + n ≤ rs.length) (hij : i ≤ j) (hj : j ≤ n) (h63 : n ≤ 4611686018427387904) :
    SoundRes Try.prog 34 [.sl l 1 off n, .int .i64 i, .int .i64 j] H q ⟨.sl q 1 0 (i + (n - j)), [(q, some (.rows 1 ((rs.drop off).take i ++ (rs.drop (off + j)).take (n - j)))), (l, none)], some [l]⟩ := by
  refine ⟨delete_callable, fun k hk => ?_, fun ρ R vals hvs w hR hfr => ?_⟩
  · obtain ⟨pr, hp, rfl⟩ := hk
    simp at hp
    rcases hp with rfl | rfl
    · exact .inr (.self _)
    · exact .inl (by simp [restr, hl])
  obtain ⟨v0, vals, rfl, hx0, hvs⟩ := hvs.head
  obtain ⟨v1, vals, rfl, hx1, hvs⟩ := hvs.head
  obtain ⟨v2, vals, rfl, hx2, hvs⟩ := hvs.head
  obtain rfl : vals = [] := List.length_eq_zero_iff.1 hvs.1
  cases hx1
  cases hx2
  have hqf : ρ q = none := hfr q (.self q)
  have hGl : restr H (some [l]) l = some (.rows 1 rs) := by rw [restr_at (by simp)]; exact hl
  obtain ⟨L, O, hL, hO, hr⟩ := hR.own l _ hGl
  cases O <;> (have hr' := hr; simp only [RepO] at hr')
  rename_i cc T fz
  obtain ⟨rfl, hsz, hrow, htop, hcell⟩ := hr'
  obtain ⟨h0, h0r⟩ := rowsL_of hr (off := off) (n := i) (by omega)
  obtain ⟨hU, hUr⟩ := rowsL_of hr (off := off + j) (n := n - j) (by omega)
  generalize ((List.range (i * 1)).map fun k => cc.getD (L.off + off * 1 + k) undef) = us0 at h0 h0r
  generalize ((List.range ((n - j) * 1)).map fun k => cc.getD (L.off + (off + j) * 1 + k) undef) = us at hU hUr
  have h0l : us0.length = (i) := by rw [h0.1, List.length_take, List.length_drop]; simp; omega
  have hUl : us.length = (n - j) := by rw [hU.1, List.length_take, List.length_drop]; simp; omega
  have hall : RowsL ρ R 1 ((rs.drop off).take i ++ (rs.drop (off + j)).take (n - j)) (us0 ++ us) := h0.append hU
  have hlen : ((rs.drop off).take i ++ (rs.drop (off + j)).take (n - j)).length = i + (n - j) := by simp; omega
  have huread : ∀ k u, us[k]? = some u → w.cell? ⟨L.blk, L.off + off * 1 + (j) + k, none⟩ = some u := fun k u hk => by
    rw [cell_at hO]
    have := hUr k u hk
    rw [Nat.add_mul] at this
    rw [← this]; congr 1; omega
  have htop1 : L.off + off * 1 + (n) ≤ L.top := by
    have : (off + n) * 1 ≤ rs.length * 1 := Nat.mul_le_mul_right _ hn
    have := htop.2
    rw [Nat.add_mul] at *
    omega
  -- what becomes of the block
  have fin : ∀ (w0 : World) (C : Array Value), Like w w0 → C.size = cc.size → (∀ k u, (us0 ++ us)[k]? = some u → C[L.off + off * 1 + k]? = some u) →
      ∃ ρ' R', Fut (restr H (some [l])) ρ R w (Under q) ρ' R' (w0.setB L.blk (.cells C T (0, 0))) ∧ ρ' q = some ⟨L.blk, L.off + off * 1, L.top, i + (n - j)⟩ ∧ Rep (upd [(q, some (.rows 1 ((rs.drop off).take i ++ (rs.drop (off + j)).take (n - j)))), (l, none)] (restr H (some [l]))) ρ' R' (w0.setB L.blk (.cells C T (0, 0))) := by
    intro w0 C hlk hCs hget
    have hnew : RepO ρ R ⟨L.blk, L.off + off * 1, L.top, i + (n - j)⟩ (.rows 1 ((rs.drop off).take i ++ (rs.drop (off + j)).take (n - j))) (.cells C T (0, 0)) := by
      refine ⟨rfl, by rw [hCs]; exact hsz, hall.2.1, ⟨hlen, ?_⟩, fun ii jj xx hxx => ?_⟩
      · rw [hlen]; simp only; omega
      · obtain ⟨v, hv, hvr⟩ := hall.2.2 ii jj xx hxx
        exact ⟨v, hget _ _ hv, hvr⟩
    have hO0 : w0.heap[L.blk]? = some (.cells cc T (0, 0)) := by rw [hlk.heap]; exact hO
    obtain ⟨hF, hRep⟩ := fut_move (W := Under q) (hlk.rep hR) hqf (Under.self q) hGl hL hO0 (L' := ⟨L.blk, L.off + off * 1, L.top, i + (n - j)⟩) rfl hnew
    exact ⟨_, _, hlk.fut hF, if_pos rfl, hRep⟩
  rcases Nat.lt_or_ge i j with hlt | hge
  · show callC Try.prog 34 #[v0, .int .i64 i, .int .i64 j] w _
    rcases hx0.sl_inv with ⟨L3, cap, hL3, hcap, ht, hext, rfl⟩ | ⟨rfl, _⟩
    · rw [hL] at hL3; cases hL3
      refine (del_walk L.blk (L.off + off * 1) n cap i j cc T us w hlt hj hcap h63 hO (by rw [hsz]; rw [Nat.add_mul] at ht; omega) hUl huread (hU.one (by decide))).mono ?_
      rintro e w' ⟨rfl, zs, hzs, rfl⟩
      have hroom : L.off + off * 1 + us0.length + us.length + zs.length ≤ cc.size := by rw [h0l, hUl, hzs, hsz]; omega
      have hget := del_get cc (L.off + off * 1) us0 us zs h0r hroom
      have e1 : L.off + off * 1 + us0.length = L.off + off * 1 + (i) := by rw [h0l]
      have e2 : L.off + off * 1 + (i) + us.length = L.off + off * 1 + (i + (n - j)) := by rw [hUl]; omega
      rw [e1, e2] at hget
      obtain ⟨ρ', R', hF, hq, hRep⟩ := fin w.drew _ .drew (by rw [putC_size, putC_size]) hget
      refine ⟨_, rfl, ρ', R', hF, ?_, hRep⟩
      have := RepV.sl (ρ := ρ') (R := R') q 1 0 (i + (n - j)) cap _ hq (by omega) (by simp only; rw [Nat.add_mul] at ht; omega) (by simp only [Nat.zero_add]; omega)
      simpa using this
    · omega
  · obtain rfl : i = j := by omega
    have e5 : i + (n - i) = n := by omega
    show callC Try.prog 34 #[v0, .int .i64 i, .int .i64 i] w _
    have hid : w.setB L.blk (.cells cc T (0, 0)) = w := setB_id hO
    have hget : ∀ k u, (us0 ++ us)[k]? = some u → cc[L.off + off * 1 + k]? = some u := fun k u hk => by
      by_cases h1 : k < us0.length
      · rw [List.getElem?_append_left h1] at hk; exact h0r k u hk
      · rw [List.getElem?_append_right (by omega)] at hk
        have := hUr _ _ hk
        rw [h0l] at this h1
        rw [Nat.add_mul] at this
        rw [← this]; congr 1; omega
    obtain ⟨ρ', R', hF, hq, hRep⟩ := fin w cc .rfl' rfl hget
    rw [hid] at hF hRep
    rw [e5] at hq ⊢
    rcases hx0.sl_inv with ⟨L3, cap, hL3, hcap, ht, hext, rfl⟩ | ⟨rfl, L3, ad, hL3, hext, rfl⟩
    · rw [hL] at hL3; cases hL3
      refine (del_same n cap i w _ hj hcap).mono ?_
      rintro e w' ⟨rfl, rfl⟩
      refine ⟨_, rfl, ρ', R', hF, ?_, hRep⟩
      have := RepV.sl (ρ := ρ') (R := R') q 1 0 n cap _ hq hcap (by simp only; rw [Nat.add_mul] at ht; omega) (by simp only [Nat.zero_add]; omega)
      simpa using this
    · refine (del_same 0 0 i w _ hj (Nat.le_refl _)).mono ?_
      rintro e w' ⟨rfl, rfl⟩
      exact ⟨_, rfl, ρ', R', hF, .slz q 1 0 ad _ hq (Nat.le_refl _), hRep⟩
end
/-! slices.Insert and slices.Delete, as calls that are run by their contracts. -/
section
def insF (xs : List AV) (H : Heap) (q : Lab) : Option Res := match xs with
  | [.nils, .int .i64 0, .sl lv 1 0 1] => match H lv with
    | some (.rows 1 [row]) => some ⟨.sl q 1 0 1, [(q, some (.rows 1 [row]))], some [lv]⟩
    | _ => none
  | [.sl l 1 off n, .int .i64 k, .sl lv 1 0 1] => match H l, H lv with
    | some (.rows 1 rs), some (.rows 1 [row]) => if off + n ≤ rs.length ∧ l ≠ lv ∧ 0 ≤ k ∧ k.toNat ≤ n ∧ (n + 1) * 8 ≤ 140737488355328 then some ⟨.sl q 1 0 (n + 1), [(q, some (.rows 1 ((rs.drop off).take k.toNat ++ [row] ++ (rs.drop (off + k.toNat)).take (n - k.toNat)))), (l, none)], some [l, lv]⟩ else none
    | _, _ => none
  | _ => none
def delF (xs : List AV) (H : Heap) (q : Lab) : Option Res := match xs with
  | [.sl l 1 off n, .int .i64 a, .int .i64 b] => match H l with
    | some (.rows 1 rs) => if off + n ≤ rs.length ∧ 0 ≤ a ∧ a ≤ b ∧ b ≤ (n : Int) ∧ n ≤ 4611686018427387904 then some ⟨.sl q 1 0 (a.toNat + (n - b.toNat)), [(q, some (.rows 1 ((rs.drop off).take a.toNat ++ (rs.drop (off + b.toNat)).take (n - b.toNat)))), (l, none)], some [l]⟩ else none
    | _ => none
  | _ => none
def extI : CallF := fun f xs H q => if f = 33 then insF xs H q else if f = 34 then delF xs H q else none
theorem extI_ok : CallOk Try.prog extI := callOk_of fun f xs H q r h => by
  unfold extI at h
  split at h
  · rename_i hf; subst hf
    unfold insF at h
    split at h
    · split at h
      · cases h; exact insert_nil (by assumption)
      · cases h
    · split at h
      · split at h
        · rename_i hl hv hc
          obtain ⟨h1, h2, h3, h4, h5⟩ := hc
          cases h
          have := insert_sl (q := q) hl h1 hv h2 h4 h5 (by omega)
          rw [Int.toNat_of_nonneg h3] at this
          exact this
        · cases h
      · cases h
    · cases h
  · split at h
    · rename_i hf; subst hf
      unfold delF at h
      split at h
      · split at h
        · split at h
          · rename_i hl hc
            obtain ⟨h1, h2, h3, h4, h5⟩ := hc
            cases h
            have := delete_sl (q := q) (i := Int.toNat _) (j := Int.toNat _) hl h1 (Int.toNat_le_toNat h3) (by omega) h5
            rw [Int.toNat_of_nonneg h2, Int.toNat_of_nonneg (by omega)] at this
            exact this
          · cases h
        · cases h
      · cases h
    · cases h
end
/-! slices.Clone at nothing: no capacity is left. -/
section
open Go.RowKit Go.Lib
section
set_option maxHeartbeats 4000000
theorem clone_walk (A : Option Addr) (c : Nat) (w : World) : Calls Try.prog 25 #[.slice A 0 c] w fun e w' => ∃ B, e = .returned (.slice B 0 0) ∧ (w' = w ∨ w' = w.alloc (.cells #[] 3 (0, 0))) := by
  have mixed : Try.prog.follows .mixedOrders = true := by kernel_rfl
  obtain ⟨I, hinfo, hz, hsz, hby⟩ := info_elz
  have he : ∀ (B : Option Addr) w, (binOp .eql 22 (.slice B 0 c) (.slice none 0 0)).run Try.prog w = .ok (.bool B.isNone) w := fun B w => Lib.run_eql_slice_nil w 22 3 B 0 c 0 0 Try.underlying22
  cases A with
  | none =>
    have he' := he none
    simp only [Option.isNone_none] at he'
    clear he
    go_enter Try.func25, Try.ntmps25
    go_wp2
    go_ret
    exact ⟨_, rfl, .inl rfl⟩
  | some ad =>
    have he' := he (some ad)
    simp only [Option.isNone_some] at he'
    clear he
    go_enter Try.func25, Try.ntmps25
    go_wp2
    go_ret
    exact ⟨_, rfl, .inr rfl⟩
end
theorem clone_callable : Callable Try.prog 25 := ⟨_, Try.func25, by kernel_rfl, by kernel_rfl⟩
theorem clone_empty {H : Heap} {q : Lab} {x : AV} (hx0 : x = .isl 1 [] ∨ x = .nils ∨ x = .sl0) : SoundRes Try.prog 25 [x] H q ⟨.sl0, [], some []⟩ := by
  refine ⟨clone_callable, fun l hl => absurd hl (not_has_nil l), fun ρ R vals hvs w hR hfr => ?_⟩
  obtain ⟨v0, vals, rfl, hx, hvs⟩ := hvs.head
  obtain rfl : vals = [] := List.length_eq_zero_iff.1 hvs.1
  obtain ⟨A, c, rfl⟩ : ∃ A c, v0 = .slice A 0 c := by
    rcases hx0 with rfl | rfl | rfl
    · rcases hx.isl_inv with ⟨b, o, cap, cc, T, fz, g, _, _, _, _, _, rfl⟩ | ⟨_, ad, cap, _, rfl⟩
      · exact ⟨_, _, rfl⟩
      · exact ⟨_, _, rfl⟩
    · cases hx; exact ⟨_, _, rfl⟩
    · cases hx; exact ⟨_, _, rfl⟩
  refine (clone_walk A c w).mono ?_
  rintro e w' ⟨B, rfl, rfl | rfl⟩
  · exact ⟨_, rfl, ρ, R, Fut.refl _ _ _ _ _, .sl0 _, hR⟩
  · have hqf : ρ q = none := hfr q (.self q)
    have hO : RepO ρ R ⟨w.heap.size, 0, 0, 0⟩ (.rows 1 []) (.cells #[] 3 (0, 0)) := ⟨rfl, rfl, by simp, ⟨rfl, by simp⟩, fun i j x hx => by simp [rowsGet] at hx⟩
    obtain ⟨hF, hRep⟩ := fut_new (W := Under q) hR hqf (Under.self q) (O := .cells #[] 3 (0, 0)) (o := .rows 1 []) (L := ⟨w.heap.size, 0, 0, 0⟩) rfl hO
    exact ⟨_, rfl, _, R, hF, .sl0 _, hRep.drop (fun l o h => by simp [restr, upd] at h)⟩
end
end Go.Proofs.Ytbngfbpegdcpkaa
