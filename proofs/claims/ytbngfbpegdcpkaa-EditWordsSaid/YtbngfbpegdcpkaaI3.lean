/- slices.Delete, walked; its contract: own memory. -/
import Derived.Test.YtbngfbpegdcpkaaI2
namespace Go.Proofs.Ytbngfbpegdcpkaa
set_option linter.unusedVariables false
set_option linter.unusedSimpArgs false
open Go.RowKit Go.Lib
set_option maxRecDepth 100000
theorem run_clear_fit {P : Program} {t ty E : TypeId} {z : Value} (hd : P.underlying t = some (.slice E)) (hzv : ∀ w, (zeroValue E).run P w = .ok z w) (b o k c : Nat) (w : World) (hk : 0 < k)
    (hone : ∀ v ∈ (Builtin.zeroCells z.cells k).toList, v.oneCell' = true) (cc : Array Value) (T' : TypeId) (hb : w.heap[b]? = some (.cells cc T' (0, 0))) (hfit : o + (Builtin.zeroCells z.cells k).size ≤ cc.size) :
    (Builtin.clear_ #[t] ty #[.slice (some ⟨b, o, none⟩) k c]).run P w = .ok (.tuple #[]) (w.setB b (.cells (putC cc o (Builtin.zeroCells z.cells k).toList) T' (0, 0))) := by
  have hs := run_storeCells (P := P) (Builtin.zeroCells z.cells k).toList w b o 0 cc T' hb hone (by simpa using hfit)
  simp only [Nat.add_zero] at hs
  obtain ⟨m, rfl⟩ : ∃ m, k = m + 1 := ⟨k - 1, by omega⟩
  simp [Builtin.clear_, run_underlying' hd, hzv, hs]
theorem step_append_runI {P : Program} {ops : Array Oper} {o : Oper} {a : Act} {w : World} {K : Act → World → Prop} {Q : Exit → Act → World → Prop} {E : Prop}
    (hg : o.guard = none) (d x : Operand) (dT sT : TypeId) (hop : o.op = Op.call { callee := Callee.builtin Builtin.append, args := #[d, x], argTypes := #[dT, sT] })
    (v u : Value) (hd : a.eval d = v) (hx : a.eval x = u) {v' : Value} {w' : World} (hr : (Builtin.append_ #[dT, sT] o.type #[v, u]).run P w = .ok v' w') (hK : K (a.put o.dst v') w') :
    if Region.wanted o (yielded ops a.tmps) = true then Oper.wp P o a w K Q else E := by
  have hw : Region.wanted o (yielded ops a.tmps) = true := by simp [Region.wanted, hg]
  rw [if_pos hw]
  unfold Oper.wp
  simp [execOp, hop, resolve, invoke, builtin, hd, hx, hr, Result.andThen]
  exact hK
theorem zero_one (k : Nat) : ∀ v ∈ (Builtin.zeroCells (Value.int .i64 0).cells k).toList, v.oneCell' = true := by
  intro v hv
  have hz : ∀ m, m < (Value.int .i64 0).cells.size → ((Value.int .i64 0).cells[m]!).oneCell' = true := by decide
  simp only [Builtin.zeroCells, Array.toList_map, List.mem_map] at hv
  obtain ⟨m, _, rfl⟩ := hv
  exact hz _ (Nat.mod_lt _ (by decide))
section
set_option maxHeartbeats 4000000
variable (b off n c i j : Nat) (cc : Array Value) (T : TypeId) (us : List Value) (w : World)
theorem del_walk (hi : i < j) (hj : j ≤ n) (hc : n ≤ c) (hn63 : n ≤ 4611686018427387904) (hb : w.heap[b]? = some (.cells cc T (0, 0))) (hfit : off + (c) ≤ cc.size)
    (hul : us.length = (n - j)) (hus : ∀ k u, us[k]? = some u → w.cell? ⟨b, off + (j) + k, none⟩ = some u) (h1u : ∀ v ∈ us, v.oneCell' = true) :
    Calls Try.prog 34 #[.slice (some ⟨b, off, none⟩) n c, .int .i64 i, .int .i64 j] w fun e w' =>
      e = .returned (.slice (some ⟨b, off, none⟩) (i + (n - j)) c) ∧ ∃ zs : List Value, zs.length = (j - i) ∧ w' = w.drew.setB b (.cells (putC (putC cc (off + (i)) us) (off + (i + (n - j))) zs) T (0, 0)) := by
  obtain ⟨I, hinfo, hz, hsz, hby⟩ := info_elz
  have hz2 : ¬ ((i : Int) = (j : Int)) := by omega
  obtain ⟨A, hA, hsrc⟩ : ∃ A : Addr, (if c = j then some (⟨b, off, none⟩ : Addr) else some ⟨b, off + (j), none⟩) = some A ∧ (∀ k u, us[k]? = some u → w.drew.cell? (A.add k) = some u) := by
    by_cases h : c = j
    · refine ⟨⟨b, off, none⟩, by simp [h], fun k u hu => ?_⟩
      have h0 : us = [] := List.length_eq_zero_iff.1 (by rw [hul]; omega)
      rw [h0] at hu; simp at hu
    · exact ⟨⟨b, off + (j), none⟩, by simp [h], fun k u hu => by rw [Addr.add_lit]; exact hus k u hu⟩
  obtain ⟨C1, hC1⟩ : ∃ C1, C1 = putC cc (off + (i)) us := ⟨_, rfl⟩
  have happ : ∀ ty cx, (Builtin.append_ #[22, 22] ty #[.slice (some ⟨b, off, none⟩) i c, .slice (some A) (n - j) cx]).run Try.prog w.drew = .ok (.slice (some ⟨b, off, none⟩) (i + (n - j)) c) (w.drew.setB b (.cells C1 T (0, 0))) := fun ty cx => by
    have := run_append_fit (ty := ty) (P := Try.prog) Try.underlying22 Try.underlying22 hinfo b off i (n - j) c cx A us (by omega) w.drew (by rw [hul, hsz]; try omega) hsrc h1u cc T hb (by rw [hsz, hul]; omega)
    rw [hsz] at this
    try simp only [Nat.mul_one] at this
    rw [hC1]; exact this
  obtain ⟨W1, hW1⟩ : ∃ W1, W1 = w.drew.setB b (.cells C1 T (0, 0)) := ⟨_, rfl⟩
  rw [← hW1] at happ
  have hs1 : C1.size = cc.size := by rw [hC1, putC_size]
  have hb1 : W1.heap[b]? = some (.cells C1 T (0, 0)) := by rw [hW1]; exact setB_at (w := w.drew) hb _
  have hzl : (Builtin.zeroCells (Value.int .i64 0).cells (j - i)).size = (j - i) := by simp [Builtin.zeroCells, Value.cells]
  have hcl : ∀ ty cx, (Builtin.clear_ #[22] ty #[.slice (some ⟨b, off + (i + (n - j)), none⟩) (n - (i + (n - j))) cx]).run Try.prog W1 = .ok (.tuple #[]) (W1.setB b (.cells (putC C1 (off + (i + (n - j))) (Builtin.zeroCells (Value.int .i64 0).cells (j - i)).toList) T (0, 0))) := fun ty cx => by
    have e : n - (i + (n - j)) = j - i := by omega
    rw [e]
    exact run_clear_fit Try.underlying22 (run_zero' hinfo hz) b _ (j - i) cx W1 (by omega) (zero_one _) C1 T hb1 (by rw [hzl, hs1]; omega)
  have hic : i ≤ c := by omega
  have hjc : j ≤ c := by omega
  have hin : i ≤ n := by omega
  have hjn : (j : Int) ≤ (n : Int) := by omega
  have hij : (i : Int) ≤ (j : Int) := by omega
  have hci : ¬ (c = i) := by omega
  have hcne : ¬ (c = i + (n - j)) := by omega
  have hcl2 : (off + (i + (n - j)) + (j - i)) ≤ cc.size := by omega
  have mixed : Try.prog.follows .mixedOrders = true := by kernel_rfl
  have hfin : ∀ O, W1.setB b O = w.drew.setB b O := fun O => by rw [hW1, setB_setB]
  rw [← hC1]
  clear hb1 hs1 hC1 hW1
  go_enter Try.func34, Try.ntmps34
  go_wp2_with fail
  go_region_law_o (refine step_append_runI rfl _ _ 22 22 rfl (.slice (some ⟨b, off, none⟩) i c) (.slice (some A) (n - j) (c - j)) (by simp [Act.eval, Act.put]) (by simp [Act.eval, Act.put]) (happ _ _) ?_)
  go_wp2
  go_ret
  refine ⟨rfl, (Builtin.zeroCells (Value.int .i64 0).cells (j - i)).toList, by simpa using hzl, ?_⟩
  first | exact hfin _ | rfl
theorem del_same (A : Option Addr) (hi : i ≤ n) (hc : n ≤ c) : Calls Try.prog 34 #[.slice A n c, .int .i64 i, .int .i64 i] w fun e w' => e = .returned (.slice A n c) ∧ w' = w := by
  have hin : (i : Int) ≤ (n : Int) := by omega
  have hic : i ≤ c := by omega
  have mixed : Try.prog.follows .mixedOrders = true := by kernel_rfl
  go_enter Try.func34, Try.ntmps34
  go_wp2
  all_goals (go_ret; exact ⟨rfl, rfl⟩)
end
theorem del_get (cc : Array Value) (o : Nat) (us0 us zs : List Value) (h0 : ∀ k u, us0[k]? = some u → cc[o + k]? = some u) (hfit : o + us0.length + us.length + zs.length ≤ cc.size) :
    ∀ k u, (us0 ++ us)[k]? = some u → (putC (putC cc (o + us0.length) us) (o + us0.length + us.length) zs)[o + k]? = some u := by
  intro k u hk
  rw [putC_get, putC_get, putC_size]
  have hlt := (List.getElem?_eq_some_iff.1 hk).1
  simp only [List.length_append] at hlt
  rw [if_neg (by omega)]
  by_cases h1 : k < us0.length
  · rw [if_neg (by omega)]
    rw [List.getElem?_append_left h1] at hk
    exact h0 k u hk
  · rw [if_pos (by omega), show o + k - (o + us0.length) = k - us0.length by omega]
    rw [List.getElem?_append_right (by omega)] at hk
    exact hk
theorem delete_callable : Callable Try.prog 34 := ⟨_, Try.func34, by kernel_rfl, by kernel_rfl⟩
theorem delete_sl {H : Heap} {q l : Lab} {off n i j : Nat} {rs : List (List AV)} (hl : H l = some (.rows 1 rs)) (hn : off + n ≤ rs.length) (hij : i ≤ j) (hj : j ≤ n) (h63 : n ≤ 4611686018427387904) :
    SoundRes Try.prog 34 [.sl l 1 off n, .int .i64 i, .int .i64 j] H q ⟨.sl q 1 0 (i + (n - j)), [(q, some (.rows 1 ((rs.drop off).take i ++ (rs.drop (off + j)).take (n - j)))), (l, none)], some [l]⟩ := by
  refine ⟨delete_callable, fun k hk => ?_, fun ρ R vals hvs w hR hfr => ?_⟩
  · obtain ⟨pr, hp, rfl⟩ := hk
    simp at hp
    rcases hp with rfl | rfl
    · exact .inr (.self _)
    · exact .inl (by simp [restr, hl])
  obtain ⟨v0, vals, rfl, hx0, hvs⟩ := hvs.head
  obtain ⟨v1, vals, rfl, hx1, hvs⟩ := hvs.head
  obtain ⟨v2, vals, rfl, hx2, hvs⟩ := hvs.head
  obtain rfl : vals = [] := List.length_eq_zero_iff.1 hvs.1
  cases hx1
  cases hx2
  have hqf : ρ q = none := hfr q (.self q)
  have hGl : restr H (some [l]) l = some (.rows 1 rs) := by rw [restr_at (by simp)]; exact hl
  obtain ⟨L, O, hL, hO, hr⟩ := hR.own l _ hGl
  cases O <;> (have hr' := hr; simp only [RepO] at hr')
  rename_i cc T fz
  obtain ⟨rfl, hsz, hrow, htop, hcell⟩ := hr'
  obtain ⟨h0, h0r⟩ := rowsL_of hr (off := off) (n := i) (by omega)
  obtain ⟨hU, hUr⟩ := rowsL_of hr (off := off + j) (n := n - j) (by omega)
  generalize ((List.range (i * 1)).map fun k => cc.getD (L.off + off * 1 + k) undef) = us0 at h0 h0r
  generalize ((List.range ((n - j) * 1)).map fun k => cc.getD (L.off + (off + j) * 1 + k) undef) = us at hU hUr
  have h0l : us0.length = (i) := by rw [h0.1, List.length_take, List.length_drop]; simp; omega
  have hUl : us.length = (n - j) := by rw [hU.1, List.length_take, List.length_drop]; simp; omega
  have hall : RowsL ρ R 1 ((rs.drop off).take i ++ (rs.drop (off + j)).take (n - j)) (us0 ++ us) := h0.append hU
  have hlen : ((rs.drop off).take i ++ (rs.drop (off + j)).take (n - j)).length = i + (n - j) := by simp; omega
  have huread : ∀ k u, us[k]? = some u → w.cell? ⟨L.blk, L.off + off * 1 + (j) + k, none⟩ = some u := fun k u hk => by
    rw [cell_at hO]
    have := hUr k u hk
    rw [Nat.add_mul] at this
    rw [← this]; congr 1; omega
  have htop1 : L.off + off * 1 + (n) ≤ L.top := by
    have : (off + n) * 1 ≤ rs.length * 1 := Nat.mul_le_mul_right _ hn
    have := htop.2
    rw [Nat.add_mul] at *
    omega
  -- what becomes of the block
  have fin : ∀ (w0 : World) (C : Array Value), Like w w0 → C.size = cc.size → (∀ k u, (us0 ++ us)[k]? = some u → C[L.off + off * 1 + k]? = some u) →
      ∃ ρ' R', Fut (restr H (some [l])) ρ R w (Under q) ρ' R' (w0.setB L.blk (.cells C T (0, 0))) ∧ ρ' q = some ⟨L.blk, L.off + off * 1, L.top, i + (n - j)⟩ ∧ Rep (upd [(q, some (.rows 1 ((rs.drop off).take i ++ (rs.drop (off + j)).take (n - j)))), (l, none)] (restr H (some [l]))) ρ' R' (w0.setB L.blk (.cells C T (0, 0))) := by
    intro w0 C hlk hCs hget
    have hnew : RepO ρ R ⟨L.blk, L.off + off * 1, L.top, i + (n - j)⟩ (.rows 1 ((rs.drop off).take i ++ (rs.drop (off + j)).take (n - j))) (.cells C T (0, 0)) := by
      refine ⟨rfl, by rw [hCs]; exact hsz, hall.2.1, ⟨hlen, ?_⟩, fun ii jj xx hxx => ?_⟩
      · rw [hlen]; simp only; omega
      · obtain ⟨v, hv, hvr⟩ := hall.2.2 ii jj xx hxx
        exact ⟨v, hget _ _ hv, hvr⟩
    have hO0 : w0.heap[L.blk]? = some (.cells cc T (0, 0)) := by rw [hlk.heap]; exact hO
    obtain ⟨hF, hRep⟩ := fut_move (W := Under q) (hlk.rep hR) hqf (Under.self q) hGl hL hO0 (L' := ⟨L.blk, L.off + off * 1, L.top, i + (n - j)⟩) rfl hnew
    exact ⟨_, _, hlk.fut hF, if_pos rfl, hRep⟩
  rcases Nat.lt_or_ge i j with hlt | hge
  · show callC Try.prog 34 #[v0, .int .i64 i, .int .i64 j] w _
    rcases hx0.sl_inv with ⟨L3, cap, hL3, hcap, ht, hext, rfl⟩ | ⟨rfl, _⟩
    · rw [hL] at hL3; cases hL3
      refine (del_walk L.blk (L.off + off * 1) n cap i j cc T us w hlt hj hcap h63 hO (by rw [hsz]; rw [Nat.add_mul] at ht; omega) hUl huread (hU.one (by decide))).mono ?_
      rintro e w' ⟨rfl, zs, hzs, rfl⟩
      have hroom : L.off + off * 1 + us0.length + us.length + zs.length ≤ cc.size := by rw [h0l, hUl, hzs, hsz]; omega
      have hget := del_get cc (L.off + off * 1) us0 us zs h0r hroom
      have e1 : L.off + off * 1 + us0.length = L.off + off * 1 + (i) := by rw [h0l]
      have e2 : L.off + off * 1 + (i) + us.length = L.off + off * 1 + (i + (n - j)) := by rw [hUl]; omega
      rw [e1, e2] at hget
      obtain ⟨ρ', R', hF, hq, hRep⟩ := fin w.drew _ .drew (by rw [putC_size, putC_size]) hget
      refine ⟨_, rfl, ρ', R', hF, ?_, hRep⟩
      have := RepV.sl (ρ := ρ') (R := R') q 1 0 (i + (n - j)) cap _ hq (by omega) (by simp only; rw [Nat.add_mul] at ht; omega) (by simp only [Nat.zero_add]; omega)
      simpa using this
    · omega
  · obtain rfl : i = j := by omega
    have e5 : i + (n - i) = n := by omega
    show callC Try.prog 34 #[v0, .int .i64 i, .int .i64 i] w _
    have hid : w.setB L.blk (.cells cc T (0, 0)) = w := setB_id hO
    have hget : ∀ k u, (us0 ++ us)[k]? = some u → cc[L.off + off * 1 + k]? = some u := fun k u hk => by
      by_cases h1 : k < us0.length
      · rw [List.getElem?_append_left h1] at hk; exact h0r k u hk
      · rw [List.getElem?_append_right (by omega)] at hk
        have := hUr _ _ hk
        rw [h0l] at this h1
        rw [Nat.add_mul] at this
        rw [← this]; congr 1; omega
    obtain ⟨ρ', R', hF, hq, hRep⟩ := fin w cc .rfl' rfl hget
    rw [hid] at hF hRep
    rw [e5] at hq ⊢
    rcases hx0.sl_inv with ⟨L3, cap, hL3, hcap, ht, hext, rfl⟩ | ⟨rfl, L3, ad, hL3, hext, rfl⟩
    · rw [hL] at hL3; cases hL3
      refine (del_same n cap i w _ hj hcap).mono ?_
      rintro e w' ⟨rfl, rfl⟩
      refine ⟨_, rfl, ρ', R', hF, ?_, hRep⟩
      have := RepV.sl (ρ := ρ') (R := R') q 1 0 n cap _ hq hcap (by simp only; rw [Nat.add_mul] at ht; omega) (by simp only [Nat.zero_add]; omega)
      simpa using this
    · refine (del_same 0 0 i w _ hj (Nat.le_refl _)).mono ?_
      rintro e w' ⟨rfl, rfl⟩
      exact ⟨_, rfl, ρ', R', hF, .slz q 1 0 ad _ hq (Nat.le_refl _), hRep⟩
end Go.Proofs.Ytbngfbpegdcpkaa
