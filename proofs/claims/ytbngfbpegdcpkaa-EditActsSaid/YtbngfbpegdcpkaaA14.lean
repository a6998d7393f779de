/- The abstract machine: calls; running it out. -/
import Derived.Test.YtbngfbpegdcpkaaA13
namespace Go.Proofs.Ytbngfbpegdcpkaa
set_option linter.unusedVariables false
set_option linter.unusedSimpArgs false
section
variable {P : Program} {n : Nat} {call : CallF} {H : Heap} {q : Lab} {ρ : Locs} {R : Imm} {a : Act} {w : World}

theorem load_run {T : TypeId} {x : AV} {v : Value} {d : TypeDesc} {i : TypeInfo} {r : Res} (hd : P.underlying T = some d) (hi : P.info? T = some i) (h1 : aggD d = false → i.size = 1) (hx : RepV ρ R x v) (hR : Rep H ρ R w)
    (h : aLoad i.size (aggD d) x H q = some r) : ∃ ad u, v = .pointer (some ad) ∧ (loadVar T ad).run P w = .ok u w ∧ RepV ρ R r.x u := by
  cases x <;> simp only [aLoad] at h <;> try (cases h; done)
  case ptr l e ii j =>
    cases hl : H l with
    | none => simp [hl] at h
    | some ob =>
      cases ob with
      | amap es bs ck => simp [hl] at h
      | bag es => simp [hl] at h
      | iter => simp [hl] at h
      | rows e' rs =>
        simp only [hl] at h
        split at h
        · rename_i he; subst he
          simp only [Option.bind_eq_some_iff, Option.some.injEq] at h
          obtain ⟨cs, hc, y, hw, rfl⟩ := h
          obtain ⟨L, O, h2, h3, h4⟩ := hR.own l _ hl
          obtain ⟨vs, hvl, hvc, hvr⟩ := cells_mem h4 hc (fun _ _ e => by cases e; rfl) h3
          obtain ⟨L', hL', hv⟩ := hx.ptr_inv
          rw [h2] at hL'; cases hL'
          exact ⟨_, _, hv, run_loadVar hd hi w _ vs hvc hvl h1, wrap_agg hw (hvl.trans (cells_rows hc).1.symm) hvr⟩
        · cases h
  case iptr e rows ii j =>
    simp only [Option.bind_eq_some_iff, Option.some.injEq] at h
    obtain ⟨cs, hc, y, hw, rfl⟩ := h
    obtain ⟨b, o', c, T', fz, g, hb, hcc, hr, hv⟩ := hx.iptr_inv
    obtain ⟨vs, hvl, hvc, hvr⟩ := imm_mem hc hcc hr (hR.imm _ _ hb)
    exact ⟨_, _, hv, run_loadVar hd hi w _ vs hvc hvl h1, wrap_agg hw (hvl.trans (cells_rows hc).1.symm) hvr⟩
/-- what one result variable holds -/
def resSem (tmps : Array Value) : ResultVar → Sem Value
  | .tmp t => pure (tmps.getD t undef)
  | .cell b t => do loadVar t (← asAddr (tmps.getD b undef))
theorem res_run {r : RL} (hS : RepS n (rget r) H ρ R a w) : ∀ {l : List ResultVar} {rs : List AResV} {xs : List AV}, compRes P l = some rs → aResL H r rs = some xs → ∃ vs, (l.mapM (resSem a.tmps)).run P w = .ok vs w ∧ RepL ρ R xs vs
  | [], rs, xs, h, hx => by
    simp only [compRes, Option.some.injEq] at h; subst h
    simp only [aResL, Option.some.injEq] at hx; subst hx
    exact ⟨[], rfl, .nil⟩
  | .tmp t :: l, rs, xs, h, hx => by
    simp only [compRes, Option.bind_eq_some_iff, Option.some.injEq] at h
    obtain ⟨rs', hrs, rfl⟩ := h
    simp only [aResL, aRes1, Option.bind_eq_some_iff, Option.some.injEq] at hx
    obtain ⟨v, hv, vs, hvs, rfl⟩ := hx
    obtain ⟨us, h1, h2⟩ := res_run hS hrs hvs
    exact ⟨a.tmps.getD t undef :: us, by simp [List.mapM_cons, resSem, h1], .cons (hS.regs t v hv) h2⟩
  | .cell t T :: l, rs, xs, h, hx => by
    simp only [compRes, Option.bind_eq_some_iff] at h
    obtain ⟨d, hd, i, hi, h⟩ := h
    split at h
    · rename_i hc
      simp only [Option.bind_eq_some_iff, Option.some.injEq] at h
      obtain ⟨rs', hrs, rfl⟩ := h
      simp only [aResL, aRes1, Option.bind_eq_some_iff, Option.some.injEq, Option.map_eq_some_iff] at hx
      obtain ⟨_, ⟨v, hv, r0, hr0, rfl⟩, vs, hvs, rfl⟩ := hx
      obtain ⟨us, h1, h2⟩ := res_run hS hrs hvs
      obtain ⟨ad, u, h3, h4, h5⟩ := load_run (P := P) hd hi (fun e => by simpa [e] using hc) (hS.regs t v hv) hS.heap hr0
      refine ⟨u :: us, ?_, .cons h5 h2⟩
      have ha : (asAddr (a.tmps.getD t undef)).run P w = .ok ad w := by rw [h3]; rfl
      have hcell : (resSem a.tmps (.cell t T)).run P w = .ok u w := by
        simp only [resSem, Sem.run_bind, ha, Result.andThen_ok, h4]
      simp [List.mapM_cons, hcell, h1]
    · cases h
theorem results_eq (fn : Func) (tmps : Array Value) : results fn tmps = (do let vs ← fn.results.mapM (resSem tmps); pure (if h : vs.size = 1 then vs[0] else .tuple vs)) := by
  unfold results
  congr 1
theorem results_run {fn : Func} {r : RL} {rs : List AResV} {x : AV} (hS : RepS n (rget r) H ρ R a w) (hc : compRes P fn.results.toList = some rs) (hx : aRes H r rs = some x) : ∃ v, (results fn a.tmps).run P w = .ok v w ∧ RepV ρ R x v := by
  unfold aRes at hx
  simp only [Option.map_eq_some_iff] at hx
  obtain ⟨xs, hxs, hx⟩ := hx
  obtain ⟨vs, h1, h2⟩ := res_run hS hc hxs
  have hm : (fn.results.mapM (resSem a.tmps)).run P w = .ok vs.toArray w := by
    rw [Array.mapM_eq_mapM_toList, Sem.run_map, h1]; rfl
  rw [results_eq]
  simp only [Sem.run_bind, hm, Result.andThen_ok, Sem.run_pure]
  refine ⟨_, rfl, ?_⟩
  match xs, vs, h2, hx with
  | [y], vs, h2, hx =>
    obtain ⟨v, us, rfl, hv, hus⟩ := h2.head
    have := hus.nil_inv; subst this
    simp only at hx; subst hx
    simpa using hv
  | [], vs, h2, hx =>
    have := h2.nil_inv; subst this
    simp only at hx; subst hx
    exact RepL.tuple .nil
  | y :: z :: ys, vs, h2, hx =>
    simp only at hx; subst hx
    have hl := h2.1
    have : ¬ vs.toArray.size = 1 := by simp at hl ⊢; omega
    rw [dif_neg this]
    exact h2.tuple
theorem params_get : ∀ (xs : List AV) (k t : Nat), rget (params k xs) t = if k ≤ t then xs[t - k]? else none
  | [], k, t => by simp [params, rget]
  | x :: xs, k, t => by
    simp only [params, rget, params_get xs (k + 1) t]
    by_cases h : t = k
    · subst h; simp
    · rw [if_neg h]
      by_cases h2 : k ≤ t
      · rw [if_pos (by omega), if_pos h2, show t - k = (t - (k + 1)) + 1 by omega, List.getElem?_cons_succ]
      · rw [if_neg (by omega), if_neg h2]
/-- what a body's end is to be for its caller -/
def RetQ (H : Heap) (res : List AResV) (K : AV → Chg → Prop) : APost := fun e s => (e = .normal ∨ e = .ret) ∧ ∃ x u, aRes (upd s.ov H) s.regs res = some x ∧ (∀ l o, upd u H l = some o → upd s.ov H l = some o) ∧ K x u
theorem call_does (hm : P.follows .mixedOrders = true) (hcall : CallOk P call) {f : Nat} {A : AFun} (hA : FunOk P f A) {xs : List AV} (hlen : xs.length = A.np) {K : AV → Chg → Prop} (h : awp call H q A.body (RetQ H A.res K) (entry xs)) {vs : List Value} (hvs : RepL ρ R xs vs) :
    ∀ w, Rep H ρ R w → (∀ l, Under q l → ρ l = none) → callC P f vs.toArray w (fun v w' => ∃ x u ρ' R', K x u ∧ Fut H ρ R w (Under q) ρ' R' w' ∧ RepV ρ' R' x v ∧ Rep (upd u H) ρ' R' w') := by
  intro w hR hfr
  obtain ⟨⟨fn, c, hf, hb, hn, hnt, hc, hres⟩, hnp⟩ := hA
  have hvl := hvs.1
  refine calls_of_wp hf hb ?_
  have hI : Inv A.nt H ρ R w q (entry xs) ρ R { tmps := vs.toArray ++ Array.replicate (fn.ntmps - vs.toArray.size) undef, defers := [] } w := by
    refine ⟨⟨?_, rfl, fun t x hx => ?_, ?_⟩, Fut.refl _ _ _ _ _, fun l hl => hfr l hl.under, fun k o hk => .inl (by simp only [entry, upd] at hk; rw [hk]; simp)⟩
    · simp; omega
    · simp only [entry, params_get, Nat.zero_le, if_true, Nat.sub_zero] at hx
      obtain ⟨v, hv, hr⟩ := hvs.2 t x hx
      have ht : t < vs.length := (List.getElem?_eq_some_iff.1 hv).1
      have : (vs.toArray ++ Array.replicate (fn.ntmps - vs.toArray.size) undef).getD t undef = v := by
        rw [Array.getD_eq_getD_getElem?, Array.getElem?_append_left (by simpa using ht)]
        simp [hv]
      rw [this]; exact hr
    · simpa [entry, upd] using hR
  refine wp_mono (awp_sound hm hcall hR hfr hc h hI) ?_
  rintro e a' w' ⟨ae, s, ρ', R', rfl, ⟨hae, x, u, hx, hsub, hK⟩, hI'⟩
  obtain ⟨v, hv, hrv⟩ := results_run hI'.rs hres hx
  have hpost : a'.defers = [] ∧ ∃ v, (results fn a'.tmps).run P w' = .ok v w' ∧ ∃ v', Ending.returned v = .returned v' ∧ ∃ x u ρ' R', K x u ∧ Fut H ρ R w (Under q) ρ' R' w' ∧ RepV ρ' R' x v' ∧ Rep (upd u H) ρ' R' w' :=
    ⟨hI'.rs.defers, v, hv, v, rfl, x, u, ρ', R', hK, hI'.fut, hrv, hI'.rs.heap.drop hsub⟩
  rcases hae with rfl | rfl <;> exact hpost
end

/-! Running it out. -/
section
variable (call : CallF) (H0 : Heap) (p : Lab)
def aloop (f : ASt → Option (AEx × ASt)) (keep : List Nat) : Nat → ASt → Option (AEx × ASt)
  | 0, _ => none
  | m + 1, s => (f { s with regs := restrict s.regs keep }).bind fun r => match r.1 with
    | .normal => aloop f keep m r.2
    | e => some (e, r.2)
def asloop (f : ASt → Option (AEx × ASt)) (l : Nat) : Nat → ASt → Option (AEx × ASt)
  | 0, _ => none
  | m + 1, s => (f s).bind fun q => match q.1 with
    | .goto k => if k = l then asloop f l m q.2 else none
    | e => some (e, q.2)
def aexec (fuel : Nat) : ACode → ASt → Option (AEx × ASt)
  | .skip, s => some (.normal, s)
  | .region ops draw keep, s => (runRegion call H0 p ops draw keep s).bind fun s' => some (.normal, s')
  | .seq a b, s => (aexec fuel a s).bind fun r => match r.1 with
    | .normal => aexec fuel b r.2
    | e => some (e, r.2)
  | .cond c t e, s => match evArg s.regs c with
    | some (.bool true) => aexec fuel t s
    | some (.bool false) => aexec fuel e s
    | _ => none
  | .block id b, s => (aexec fuel b s).bind fun r => match r.1 with
    | .exit k => if k = id then some (.normal, r.2) else some (.exit k, r.2)
    | e => some (e, r.2)
  | .loop keep b, s => aloop (aexec fuel b) keep fuel s
  | .exit id, s => some (.exit id, s)
  | .ret, s => some (.ret, s)
  | .label _, s => some (.normal, s)
  | .goto l, s => some (.goto l, s)
  | .scope l b r, s => (aexec fuel b s).bind fun q => match q.1 with
    | .goto k => if k = l then asloop (aexec fuel r) l fuel q.2 else none
    | e => some (e, q.2)
  | .bad, _ => none
end
theorem exec_awp {call : CallF} {H0 : Heap} {p : Lab} {fuel : Nat} {c : ACode} : ∀ {s s' : ASt} {e : AEx} {Q : APost}, aexec call H0 p fuel c s = some (e, s') → Q e s' → awp call H0 p c Q s := by
  induction c with
  | skip => intro s s' e Q h hQ; simp only [aexec, Option.some.injEq, Prod.mk.injEq] at h; obtain ⟨rfl, rfl⟩ := h; exact hQ
  | region ops draw keep =>
    intro s s' e Q h hQ
    simp only [aexec, Option.bind_eq_some_iff, Option.some.injEq, Prod.mk.injEq] at h
    obtain ⟨s1, h1, rfl, rfl⟩ := h
    exact ⟨_, h1, hQ⟩
  | seq a b iha ihb =>
    intro s s' e Q h hQ
    simp only [aexec, Option.bind_eq_some_iff] at h
    obtain ⟨⟨e1, s1⟩, h1, h2⟩ := h
    refine iha h1 ?_
    cases e1 with
    | normal => exact ihb h2 hQ
    | exit id => simp only [Option.some.injEq, Prod.mk.injEq] at h2; obtain ⟨rfl, rfl⟩ := h2; exact hQ
    | ret => simp only [Option.some.injEq, Prod.mk.injEq] at h2; obtain ⟨rfl, rfl⟩ := h2; exact hQ
    | goto l => simp only [Option.some.injEq, Prod.mk.injEq] at h2; obtain ⟨rfl, rfl⟩ := h2; exact hQ
  | cond c t e iht ihe =>
    intro s s' e' Q h hQ
    simp only [aexec] at h
    simp only [awp]
    split at h
    · rename_i hc; rw [hc]; exact iht h hQ
    · rename_i hc; rw [hc]; exact ihe h hQ
    · cases h
  | block id b ih =>
    intro s s' e Q h hQ
    simp only [aexec, Option.bind_eq_some_iff] at h
    obtain ⟨⟨e1, s1⟩, h1, h2⟩ := h
    refine ih h1 ?_
    cases e1 with
    | normal => simp only [Option.some.injEq, Prod.mk.injEq] at h2; obtain ⟨rfl, rfl⟩ := h2; exact hQ
    | exit k =>
      simp only [blockQ]
      simp only at h2
      split at h2
      · rename_i hk; rw [if_pos hk]; simp only [Option.some.injEq, Prod.mk.injEq] at h2; obtain ⟨rfl, rfl⟩ := h2; exact hQ
      · rename_i hk; rw [if_neg hk]; simp only [Option.some.injEq, Prod.mk.injEq] at h2; obtain ⟨rfl, rfl⟩ := h2; exact hQ
    | ret => simp only [Option.some.injEq, Prod.mk.injEq] at h2; obtain ⟨rfl, rfl⟩ := h2; exact hQ
    | goto l => simp only [Option.some.injEq, Prod.mk.injEq] at h2; obtain ⟨rfl, rfl⟩ := h2; exact hQ
  | loop keep b ih =>
    intro s s' e Q h hQ
    simp only [aexec] at h
    refine ⟨fuel, ?_⟩
    have key : ∀ m s, aloop (aexec call H0 p fuel b) keep m s = some (e, s') → rounds (awp call H0 p b) keep Q m s := by
      intro m
      induction m with
      | zero => intro s h; simp [aloop] at h
      | succ m ihm =>
        intro s h
        simp only [aloop, Option.bind_eq_some_iff] at h
        obtain ⟨⟨e1, s1⟩, h1, h2⟩ := h
        refine ih h1 ?_
        cases e1 with
        | normal => exact ihm s1 h2
        | exit id => simp only [Option.some.injEq, Prod.mk.injEq] at h2; obtain ⟨rfl, rfl⟩ := h2; exact hQ
        | ret => simp only [Option.some.injEq, Prod.mk.injEq] at h2; obtain ⟨rfl, rfl⟩ := h2; exact hQ
        | goto l => simp only [Option.some.injEq, Prod.mk.injEq] at h2; obtain ⟨rfl, rfl⟩ := h2; exact hQ
    exact key fuel s h
  | label l => intro s s' e Q h hQ; simp only [aexec, Option.some.injEq, Prod.mk.injEq] at h; obtain ⟨rfl, rfl⟩ := h; exact hQ
  | goto l => intro s s' e Q h hQ; simp only [aexec, Option.some.injEq, Prod.mk.injEq] at h; obtain ⟨rfl, rfl⟩ := h; exact hQ
  | bad => intro s s' e Q h hQ; simp [aexec] at h
  | scope l b r ihb ihr =>
    intro s s' e Q h hQ
    simp only [aexec, Option.bind_eq_some_iff] at h
    obtain ⟨⟨e1, s1⟩, h1, h2⟩ := h
    have key : ∀ m s, asloop (aexec call H0 p fuel r) l m s = some (e, s') → srounds (awp call H0 p r) l Q m s := by
      intro m
      induction m with
      | zero => intro s h; simp [asloop] at h
      | succ m ihm =>
        intro s h
        simp only [asloop, Option.bind_eq_some_iff] at h
        obtain ⟨⟨e1, s1⟩, h1, h2⟩ := h
        refine ihr h1 ?_
        cases e1 with
        | normal => simp only [Option.some.injEq, Prod.mk.injEq] at h2; obtain ⟨rfl, rfl⟩ := h2; exact hQ
        | exit id => simp only [Option.some.injEq, Prod.mk.injEq] at h2; obtain ⟨rfl, rfl⟩ := h2; exact hQ
        | ret => simp only [Option.some.injEq, Prod.mk.injEq] at h2; obtain ⟨rfl, rfl⟩ := h2; exact hQ
        | goto k =>
          simp only at h2
          split at h2
          · rename_i hk; exact ⟨hk, ihm s1 h2⟩
          · cases h2
    refine ihb h1 ?_
    cases e1 with
    | normal => simp only [Option.some.injEq, Prod.mk.injEq] at h2; obtain ⟨rfl, rfl⟩ := h2; exact hQ
    | exit id => simp only [Option.some.injEq, Prod.mk.injEq] at h2; obtain ⟨rfl, rfl⟩ := h2; exact hQ
    | ret => simp only [Option.some.injEq, Prod.mk.injEq] at h2; obtain ⟨rfl, rfl⟩ := h2; exact hQ
    | goto k =>
      simp only at h2
      split at h2
      · rename_i hk; exact ⟨hk, fuel, key fuel s1 h2⟩
      · cases h2
  | exit id => intro s s' e Q h hQ; simp only [aexec, Option.some.injEq, Prod.mk.injEq] at h; obtain ⟨rfl, rfl⟩ := h; exact hQ
  | ret => intro s s' e Q h hQ; simp only [aexec, Option.some.injEq, Prod.mk.injEq] at h; obtain ⟨rfl, rfl⟩ := h; exact hQ
def ovOk (H : Heap) (q : Lab) (u : Chg) : Bool := u.all fun p => isUnder q p.1 || (H p.1).isSome
/-- calls that are run out, so deep -/
def arun (tbl : Nat → Option AFun) (fuel : Nat) : Nat → CallF
  | 0, _, _, _, _ => none
  | d + 1, f, xs, H, q => (tbl f).bind fun A => if xs.length = A.np then (aexec (arun tbl fuel d) H q fuel A.body (entry xs)).bind fun r => match r.1 with
    | .exit _ => none
    | .goto _ => none
    | _ => (aRes (upd r.2.ov H) r.2.regs A.res).bind fun x => if ovOk H q r.2.ov then some ⟨x, r.2.ov, none⟩ else none
    else none
theorem arun_ok {P : Program} (hm : P.follows .mixedOrders = true) {tbl : Nat → Option AFun} (ht : ∀ f A, tbl f = some A → FunOk P f A) (fuel : Nat) : ∀ d, CallOk P (arun tbl fuel d)
  | 0 => fun f xs H q r h => by simp [arun] at h
  | d + 1 => fun f xs H q r h => by
    have ih := arun_ok hm ht fuel d
    simp only [arun, Option.bind_eq_some_iff] at h
    obtain ⟨A, hA, h⟩ := h
    have hF := ht f A hA
    split at h
    · rename_i hlen
      simp only [Option.bind_eq_some_iff] at h
      obtain ⟨⟨e, s⟩, he, h⟩ := h
      have hne : e = .normal ∨ e = .ret := by
        cases e with
        | normal => exact .inl rfl
        | exit k => cases h
        | ret => exact .inr rfl
        | goto k => cases h
      have h' : (aRes (upd s.ov H) s.regs A.res).bind (fun x => if ovOk H q s.ov then some (⟨x, s.ov, none⟩ : Res) else none) = some r := by
        rcases hne with rfl | rfl <;> exact h
      simp only [Option.bind_eq_some_iff] at h'
      obtain ⟨x, hx, h'⟩ := h'
      split at h'
      · rename_i hov
        simp only [Option.some.injEq] at h'
        subst h'
        obtain ⟨fn, c, hf, hb, hn, _⟩ := hF.ex
        refine ⟨⟨fn, hf, by rw [hb]; rfl, hn⟩, ?_, ?_⟩
        · rintro l ⟨pr, hp, rfl⟩
          have := List.all_eq_true.1 hov pr hp
          simp only [Bool.or_eq_true] at this
          rcases this with h1 | h1
          · exact .inr (isUnder_spec h1)
          · refine .inl ?_
            simp only [restr]
            intro e0; rw [e0] at h1; cases h1
        · intro ρ R vs hvs w hR hfr
          simp only [restr] at hR
          have := call_does hm ih hF hlen (K := fun y u => y = x ∧ u = s.ov) (exec_awp he ⟨hne, x, s.ov, hx, fun l o h => h, rfl, rfl⟩) hvs w hR hfr
          refine Calls.mono this ?_
          rintro e' w' ⟨v, rfl, y, u, ρ', R', ⟨rfl, rfl⟩, hF', hv, hR'⟩
          exact ⟨v, rfl, ρ', R', hF', hv, hR'⟩
      · cases h'
    · cases h
end Go.Proofs.Ytbngfbpegdcpkaa
