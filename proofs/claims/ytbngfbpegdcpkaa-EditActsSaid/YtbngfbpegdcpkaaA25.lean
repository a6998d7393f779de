/- The abstract machine: contracts of functions; what is made and handed back may be taken for what nobody changes. -/
import Derived.Test.YtbngfbpegdcpkaaA24
namespace Go.Proofs.Ytbngfbpegdcpkaa
set_option linter.unusedVariables false
set_option linter.unusedSimpArgs false

/-- what a call yields, proved -/
def SoundRes (P : Program) (f : Nat) (xs : List AV) (H : Heap) (q : Lab) (r : Res) : Prop := Callable P f ∧ (∀ l, r.u.has l → restr H r.foot l ≠ none ∨ Under q l) ∧
  ∀ ρ R vs, RepL ρ R xs vs → Does (callC P f vs.toArray) (restr H r.foot) r.u (Under q) ρ R r.x
theorem callOk_of {P : Program} {call : CallF} (h : ∀ f xs H q r, call f xs H q = some r → SoundRes P f xs H q r) : CallOk P call := h

/-- a value taken for what it holds: the labels of Z are changed no more -/
inductive Fr (Z : Lab → Prop) (H : Heap) : AV → AV → Prop
  | refl (x : AV) : Fr Z H x x
  | own (l : Lab) (e off n : Nat) (rs rows : List (List AV)) (g : Nat → Nat → AV) (hz : Z l) (hl : H l = some (.rows e rs)) (hn : rows.length = n) (hr : ∀ r ∈ rows, RowOk e r)
      (h1 : ∀ i j x, rowsGet rows i j = some x → rowsGet rs (off + i) j = some (g i j)) (h2 : ∀ i j x, rowsGet rows i j = some x → Fr Z H (g i j) x) : Fr Z H (.sl l e off n) (.isl e rows)
  | nils (e : Nat) : Fr Z H .nils (.isl e [])
  | ptr (l : Lab) (e i j : Nat) (rs rows : List (List AV)) (g : Nat → Nat → AV) (hz : Z l) (hl : H l = some (.rows e rs))
      (h1 : ∀ i j x, rowsGet rows i j = some x → rowsGet rs i j = some (g i j)) (h2 : ∀ i j x, rowsGet rows i j = some x → Fr Z H (g i j) x) : Fr Z H (.ptr l e i j) (.iptr e rows i j)
  | sl0 (e : Nat) : Fr Z H .sl0 (.isl e [])
  | agg (cs ds : List AV) (hl : cs.length = ds.length) (g : Nat → AV) (h1 : ∀ i d, ds[i]? = some d → cs[i]? = some (g i)) (h2 : ∀ i d, ds[i]? = some d → Fr Z H (g i) d) : Fr Z H (.agg cs) (.agg ds)
  | tuple (cs ds : List AV) (hl : cs.length = ds.length) (g : Nat → AV) (h1 : ∀ i d, ds[i]? = some d → cs[i]? = some (g i)) (h2 : ∀ i d, ds[i]? = some d → Fr Z H (g i) d) : Fr Z H (.tuple cs) (.tuple ds)
/-- the blocks that are changed no more -/
noncomputable def frozenR (Z : Lab → Prop) (ρ : Locs) (R : Imm) (w : World) : Imm := fun b => open Classical in if ∃ l L, Z l ∧ ρ l = some L ∧ L.blk = b then w.heap[b]? else R b
section
variable {Z : Lab → Prop} {H : Heap} {ρ : Locs} {R : Imm} {w : World}
theorem frozen_ext (hd : ∀ l L, Z l → ρ l = some L → R L.blk = none ∨ R L.blk = w.heap[L.blk]?) : Ext ρ ρ R (frozenR Z ρ R w) := ⟨fun _ _ h => h, fun b O hb => by
  unfold frozenR
  split
  · rename_i h
    obtain ⟨l, L, hz, hL, rfl⟩ := h
    rcases hd l L hz hL with h1 | h1
    · rw [h1] at hb; cases hb
    · rw [← h1]; exact hb
  · exact hb⟩
theorem frozen_at {l : Lab} {L : Loc} (hz : Z l) (hL : ρ l = some L) : frozenR Z ρ R w L.blk = w.heap[L.blk]? := by
  unfold frozenR
  exact if_pos ⟨l, L, hz, hL, rfl⟩
theorem fr_rep (hR : Rep H ρ R w) (he : Ext ρ ρ R (frozenR Z ρ R w)) {x y : AV} (h : Fr Z H x y) : ∀ {v : Value}, RepV ρ R x v → RepV ρ (frozenR Z ρ R w) y v := by
  induction h with
  | refl x => intro v hv; exact hv.mono he
  | own l e off n rs rows g hz hl hn hr h1 h2 ih =>
    intro v hv
    rcases hv.sl_inv with ⟨L, cap, hL, hlc, ht, hx, rfl⟩ | ⟨rfl, L, ad, hL, hx, rfl⟩
    · obtain ⟨L', O, hL', hO, hrep⟩ := hR.own l _ hl
      rw [hL] at hL'; cases hL'
      cases O <;> simp only [RepO] at hrep
      rename_i c T fz
      obtain ⟨hfz, hsz, hrow, ⟨hext, hfit⟩, hcell⟩ := hrep
      have hb : frozenR Z ρ R w L.blk = some (.cells c T fz) := by rw [frozen_at hz hL]; exact hO
      have key : ∀ i j x, rowsGet rows i j = some x → ∃ u, c[L.off + ((off + i) * e + j)]? = some u ∧ RepV ρ R (g i j) u := fun i j x hx => hcell _ _ _ (h1 i j x hx)
      have := RepV.isl (ρ := ρ) (R := frozenR Z ρ R w) e rows L.blk (L.off + off * e) cap c T fz (fun i j => c.getD (L.off + ((off + i) * e + j)) undef) (by omega) hr hb (fun i j x hx => by
          obtain ⟨u, hu, _⟩ := key i j x hx
          have e1 : L.off + off * e + (i * e + j) = L.off + ((off + i) * e + j) := by rw [Nat.add_mul]; omega
          rw [e1]
          simp [Array.getD_eq_getD_getElem?, hu]) (fun i j x hx => by
          obtain ⟨u, hu, hru⟩ := key i j x hx
          have := ih i j x hx hru
          simpa [Array.getD_eq_getD_getElem?, hu] using this)
      rw [hn] at this
      exact this
    · have : rows = [] := List.length_eq_zero_iff.1 hn
      subst this
      exact .isl0 _ _ _ (fun _ => rfl)
  | nils e => intro v hv; cases hv; exact .isl0 _ _ _ (fun _ => rfl)
  | ptr l e i j rs rows g hz hl h1 h2 ih =>
    intro v hv
    obtain ⟨L, hL, rfl⟩ := hv.ptr_inv
    obtain ⟨L', O, hL', hO, hrep⟩ := hR.own l _ hl
    rw [hL] at hL'; cases hL'
    cases O <;> simp only [RepO] at hrep
    rename_i c T fz
    obtain ⟨hfz, hsz, hrow, ⟨hext, hfit⟩, hcell⟩ := hrep
    have hb : frozenR Z ρ R w L.blk = some (.cells c T fz) := by rw [frozen_at hz hL]; exact hO
    have key : ∀ i j x, rowsGet rows i j = some x → ∃ u, c[L.off + (i * e + j)]? = some u ∧ RepV ρ R (g i j) u := fun i j x hx => hcell _ _ _ (h1 i j x hx)
    exact .iptr e rows i j L.blk L.off c T fz (fun i j => c.getD (L.off + (i * e + j)) undef) hb (fun i j x hx => by
        obtain ⟨u, hu, _⟩ := key i j x hx
        simp [Array.getD_eq_getD_getElem?, hu]) (fun i j x hx => by
        obtain ⟨u, hu, hru⟩ := key i j x hx
        have := ih i j x hx hru
        simpa [Array.getD_eq_getD_getElem?, hu] using this)
  | sl0 e => intro v hv; cases hv; exact .isl0 _ _ _ (fun _ => rfl)
  | agg cs ds hl g h1 h2 ih =>
    intro v hv
    cases hv with
    | agg _ C hC hc =>
      refine .agg _ _ (by omega) (fun i d hd => ?_)
      exact ih i d hd (hc i _ (h1 i d hd))
  | tuple cs ds hl g h1 h2 ih =>
    intro v hv
    cases hv with
    | tuple _ C hC hc =>
      refine .tuple _ _ (by omega) (fun i d hd => ?_)
      exact ih i d hd (hc i _ (h1 i d hd))
/-- a heap without those labels -/
theorem rep_frozen (hR : Rep H ρ R w) {G : Heap} (hG : ∀ l o, G l = some o → ¬ Z l ∧ H l = some o) (he : Ext ρ ρ R (frozenR Z ρ R w)) (hz : ∀ l, Z l → ∀ L, ρ l = some L → H l ≠ none) : Rep G ρ (frozenR Z ρ R w) w := by
  refine ⟨fun l o h => ?_, fun l l' o o' L L' h h' => hR.sep l l' o o' L L' (hG l o h).2 (hG l' o' h').2, fun l o L h hL => ?_, fun b O h => ?_⟩
  · obtain ⟨L, O, h1, h2, h3⟩ := hR.own l o (hG l o h).2
    exact ⟨L, O, h1, h2, h3.mono he⟩
  · unfold frozenR
    split
    · rename_i hx
      obtain ⟨k, K, hk, hK, hb⟩ := hx
      obtain ⟨o', ho'⟩ := Option.ne_none_iff_exists'.1 (hz k hk K hK)
      have := hR.sep k l o' o K L ho' (hG l o h).2 hK hL hb
      subst this
      exact absurd hk (hG k o h).1
    · exact hR.dis l o L (hG l o h).2 hL
  · unfold frozenR at h
    split at h
    · exact h
    · exact hR.imm b O h
theorem fut_frozen {H0 : Heap} {ρ0 : Locs} {R0 : Imm} {w0 : World} {W : Lab → Prop} (h : Fut H0 ρ0 R0 w0 W ρ R w) (he : Ext ρ ρ R (frozenR Z ρ R w)) (hz : ∀ l L, Z l → ρ l = some L → H0 l ≠ none ∨ ρ0 l = none) : Fut H0 ρ0 R0 w0 W ρ (frozenR Z ρ R w) w := by
  refine ⟨h.ext.trans he, h.win, fun b O hb => ?_, h.os, h.tape, h.output, h.size, h.frame⟩
  unfold frozenR at hb
  split at hb
  · rename_i hx
    obtain ⟨l, L, hl, hL, rfl⟩ := hx
    rcases h.win l L hL with h1 | ⟨_, h2⟩
    · rcases hz l L hl hL with h3 | h3
      · obtain ⟨o, ho⟩ := Option.ne_none_iff_exists'.1 h3
        exact .inr (.inr ⟨l, o, L, ho, h1, rfl⟩)
      · rw [h1] at h3; cases h3
    · exact .inr h2
  · exact h.new b O hb
end
/-- what a body's end is to be: the result, frozen; what is left of the heap -/
def GRet (Z : Lab → Prop) (H : Heap) (res : List AResV) (y : AV) (u : Chg) : APost := fun e s => (e = .normal ∨ e = .ret) ∧ ∃ x, aRes (upd s.ov H) s.regs res = some x ∧ Fr (fun l => Z l ∧ upd s.ov H l ≠ none) (upd s.ov H) x y ∧ ∀ l o, upd u H l = some o → ¬ (Z l ∧ upd s.ov H l ≠ none) ∧ upd s.ov H l = some o
section
variable {P : Program} {ρ : Locs} {R : Imm}
theorem gcall_does (hm : P.follows .mixedOrders = true) {f : Nat} {A : AFun} (hA : FunOk P f A) {xs : List AV} (hlen : xs.length = A.np) {H : Heap} {q : Lab} {Z : Lab → Prop} {y : AV} {u : Chg} (h : gwp P H q A.body (GRet Z H A.res y u) (entry xs)) {vs : List Value} (hvs : RepL ρ R xs vs) :
    ∀ w, Rep H ρ R w → (∀ l, Under q l → ρ l = none) → callC P f vs.toArray w (fun v w' => ∃ ρ' R', Fut H ρ R w (Under q) ρ' R' w' ∧ RepV ρ' R' y v ∧ Rep (upd u H) ρ' R' w') := by
  intro w hR hfr
  obtain ⟨⟨fn, c, hf, hb, hn, hnt, hc, hres⟩, hnp⟩ := hA
  have hvl := hvs.1
  refine calls_of_wp hf hb ?_
  have hI : Inv A.nt H ρ R w q (entry xs) ρ R { tmps := vs.toArray ++ Array.replicate (fn.ntmps - vs.toArray.size) undef, defers := [] } w := by
    refine ⟨⟨?_, rfl, fun t x hx => ?_, ?_⟩, Fut.refl _ _ _ _ _, fun l hl => hfr l hl.under, fun k o hk => .inl (by simp only [entry, upd] at hk; rw [hk]; simp)⟩
    · simp; omega
    · simp only [entry, params_get, Nat.zero_le, if_true, Nat.sub_zero] at hx
      obtain ⟨v, hv, hr⟩ := hvs.2 t x hx
      have ht : t < vs.length := (List.getElem?_eq_some_iff.1 hv).1
      have : (vs.toArray ++ Array.replicate (fn.ntmps - vs.toArray.size) undef).getD t undef = v := by
        rw [Array.getD_eq_getD_getElem?, Array.getElem?_append_left (by simpa using ht)]
        simp [hv]
      rw [this]; exact hr
    · simpa [entry, upd] using hR
  refine wp_mono (gwp_sound hm hR hfr hc h hI) ?_
  rintro e a' w' ⟨ae, s, ρ', R', rfl, ⟨hae, x, hx, hfrz, hsub⟩, hI'⟩
  obtain ⟨v, hv, hrv⟩ := results_run hI'.rs hres hx
  have hext : Ext ρ' ρ' R' (frozenR (fun l => Z l ∧ upd s.ov H l ≠ none) ρ' R' w') := frozen_ext (fun l L hz hL => by
    obtain ⟨o, ho⟩ := Option.ne_none_iff_exists'.1 hz.2
    exact .inl (hI'.rs.heap.dis l o L ho hL))
  have hpost : a'.defers = [] ∧ ∃ v, (results fn a'.tmps).run P w' = .ok v w' ∧ ∃ v', Ending.returned v = .returned v' ∧ ∃ ρ' R', Fut H ρ R w (Under q) ρ' R' w' ∧ RepV ρ' R' y v' ∧ Rep (upd u H) ρ' R' w' :=
    ⟨hI'.rs.defers, v, hv, v, rfl, ρ', _, fut_frozen hI'.fut hext (fun l L hz hL => by
        obtain ⟨o, ho⟩ := Option.ne_none_iff_exists'.1 hz.2
        rcases hI'.lab l o ho with h1 | h1
        · exact .inl h1
        · exact .inr (hfr l h1)), fr_rep hI'.rs.heap hext hfrz hrv, rep_frozen hI'.rs.heap hsub hext (fun l hz L hL => hz.2)⟩
  rcases hae with rfl | rfl <;> exact hpost
theorem sound_of_gwp (hm : P.follows .mixedOrders = true) {f : Nat} {A : AFun} (hA : FunOk P f A) {xs : List AV} (hlen : xs.length = A.np) {H : Heap} {q : Lab} {Z : Lab → Prop} {y : AV} {u : Chg} {foot : Option (List Lab)} (hu : ∀ l, u.has l → restr H foot l ≠ none ∨ Under q l) (h : gwp P (restr H foot) q A.body (GRet Z (restr H foot) A.res y u) (entry xs)) : SoundRes P f xs H q ⟨y, u, foot⟩ := by
  obtain ⟨fn, c, hf, hb, hn, _⟩ := hA.ex
  refine ⟨⟨fn, hf, by rw [hb]; rfl, hn⟩, hu, fun ρ R vs hvs w hR hfr => ?_⟩
  refine Calls.mono (gcall_does hm hA hlen h hvs w hR hfr) ?_
  rintro e w' ⟨v, rfl, hk⟩
  exact ⟨v, rfl, hk⟩
/-- what a body's end is to be, where what comes out is not told ahead -/
def GRetE (q : Lab) (H : Heap) (res : List AResV) (Φ : AV → Chg → Prop) : APost := fun e s => (e = .normal ∨ e = .ret) ∧ ∃ x y u, aRes (upd s.ov H) s.regs res = some x ∧ Φ y u ∧ (∀ l, u.has l → H l ≠ none ∨ Under q l) ∧ Fr (fun l => upd u H l = none ∧ upd s.ov H l ≠ none) (upd s.ov H) x y ∧ ∀ l o, upd u H l = some o → upd s.ov H l = some o
theorem gcall_doesE (hm : P.follows .mixedOrders = true) {f : Nat} {A : AFun} (hA : FunOk P f A) {xs : List AV} (hlen : xs.length = A.np) {H : Heap} {q : Lab} {Φ : AV → Chg → Prop} (h : gwp P H q A.body (GRetE q H A.res Φ) (entry xs)) {vs : List Value} (hvs : RepL ρ R xs vs) :
    ∀ w, Rep H ρ R w → (∀ l, Under q l → ρ l = none) → callC P f vs.toArray w (fun v w' => ∃ y u ρ' R', Φ y u ∧ (∀ l, u.has l → H l ≠ none ∨ Under q l) ∧ Fut H ρ R w (Under q) ρ' R' w' ∧ RepV ρ' R' y v ∧ Rep (upd u H) ρ' R' w') := by
  intro w hR hfr
  obtain ⟨⟨fn, c, hf, hb, hn, hnt, hc, hres⟩, hnp⟩ := hA
  have hvl := hvs.1
  refine calls_of_wp hf hb ?_
  have hI : Inv A.nt H ρ R w q (entry xs) ρ R { tmps := vs.toArray ++ Array.replicate (fn.ntmps - vs.toArray.size) undef, defers := [] } w := by
    refine ⟨⟨?_, rfl, fun t x hx => ?_, ?_⟩, Fut.refl _ _ _ _ _, fun l hl => hfr l hl.under, fun k o hk => .inl (by simp only [entry, upd] at hk; rw [hk]; simp)⟩
    · simp; omega
    · simp only [entry, params_get, Nat.zero_le, if_true, Nat.sub_zero] at hx
      obtain ⟨v, hv, hr⟩ := hvs.2 t x hx
      have ht : t < vs.length := (List.getElem?_eq_some_iff.1 hv).1
      have : (vs.toArray ++ Array.replicate (fn.ntmps - vs.toArray.size) undef).getD t undef = v := by
        rw [Array.getD_eq_getD_getElem?, Array.getElem?_append_left (by simpa using ht)]
        simp [hv]
      rw [this]; exact hr
    · simpa [entry, upd] using hR
  refine wp_mono (gwp_sound hm hR hfr hc h hI) ?_
  rintro e a' w' ⟨ae, s, ρ', R', rfl, ⟨hae, x, y, u, hx, hΦ, hu, hfrz, hsub⟩, hI'⟩
  obtain ⟨v, hv, hrv⟩ := results_run hI'.rs hres hx
  have hext : Ext ρ' ρ' R' (frozenR (fun l => upd u H l = none ∧ upd s.ov H l ≠ none) ρ' R' w') := frozen_ext (fun l L hz hL => by
    obtain ⟨o, ho⟩ := Option.ne_none_iff_exists'.1 hz.2
    exact .inl (hI'.rs.heap.dis l o L ho hL))
  have hpost : a'.defers = [] ∧ ∃ v, (results fn a'.tmps).run P w' = .ok v w' ∧ ∃ v', Ending.returned v = .returned v' ∧ ∃ y u ρ' R', Φ y u ∧ (∀ l, u.has l → H l ≠ none ∨ Under q l) ∧ Fut H ρ R w (Under q) ρ' R' w' ∧ RepV ρ' R' y v' ∧ Rep (upd u H) ρ' R' w' :=
    ⟨hI'.rs.defers, v, hv, v, rfl, y, u, ρ', _, hΦ, hu, fut_frozen hI'.fut hext (fun l L hz hL => by
        obtain ⟨o, ho⟩ := Option.ne_none_iff_exists'.1 hz.2
        rcases hI'.lab l o ho with h1 | h1
        · exact .inl h1
        · exact .inr (hfr l h1)), fr_rep hI'.rs.heap hext hfrz hrv, rep_frozen hI'.rs.heap (fun l o hl => ⟨(fun hn => by rw [hn.1] at hl; cases hl), hsub l o hl⟩) hext (fun l hz L hL => hz.2)⟩
  rcases hae with rfl | rfl <;> exact hpost
theorem soundE_of_gwp (hm : P.follows .mixedOrders = true) {f : Nat} {A : AFun} (hA : FunOk P f A) {xs : List AV} (hlen : xs.length = A.np) {H : Heap} {q : Lab} {Φ : AV → Chg → Prop} (h : gwp P H q A.body (GRetE q H A.res Φ) (entry xs)) : SoundE P f xs H q Φ := by
  obtain ⟨fn, c, hf, hb, hn, _⟩ := hA.ex
  refine ⟨⟨fn, hf, by rw [hb]; rfl, hn⟩, fun ρ R vs hvs w hR hfr => ?_⟩
  refine Calls.mono (gcall_doesE hm hA hlen h hvs w hR hfr) ?_
  rintro e w' ⟨v, rfl, hk⟩
  exact ⟨v, rfl, hk⟩
/-- a function that only reckons: its arguments are changed by nobody -/
def Pure (P : Program) (f : Nat) (xs : List AV) (y : AV) : Prop := ∀ H q, SoundRes P f xs H q ⟨y, [], some []⟩
def PRet (res : List AResV) (y : AV) : APost := fun e s => (e = .normal ∨ e = .ret) ∧ ∃ x, aRes (upd s.ov (fun _ => none)) s.regs res = some x ∧ Fr (fun l => upd s.ov (fun _ => none) l ≠ none) (upd s.ov (fun _ => none)) x y
theorem restr_nil (H : Heap) : restr H (some []) = fun _ => none := by funext l; simp [restr]
theorem pure_of (hm : P.follows .mixedOrders = true) {f : Nat} {A : AFun} (hA : FunOk P f A) {xs : List AV} (hlen : xs.length = A.np) {y : AV} (h : ∀ q, gwp P (fun _ => none) q A.body (PRet A.res y) (entry xs)) : Pure P f xs y := by
  intro H q
  refine sound_of_gwp (Z := fun _ => True) hm hA hlen (fun l hl => absurd hl (not_has_nil l)) ?_
  rw [restr_nil]
  refine gwp_mono (fun e s he => ?_) (h q)
  obtain ⟨he, x, hx, hf⟩ := he
  refine ⟨he, x, hx, ?_, fun l o h => by simp [upd] at h⟩
  have : (fun l => True ∧ upd s.ov (fun _ => none) l ≠ none) = fun l => upd s.ov (fun _ => (none : Option AO)) l ≠ none := by funext l; simp
  rw [this]; exact hf
end
end Go.Proofs.Ytbngfbpegdcpkaa
