/- Texts of the proof, joined. -/
import Derived.Test.YtigjoggpaamodaaQ2
import Derived.Test.YtigjoggpaamodaaProg
import Derived.KernelRfl
/-! The abstract machine: code whose callees may be taken as they were proved, and whose state may be taken for a weaker one. -/
namespace Go.Proofs.Ytigjoggpaamodaa
set_option linter.unusedVariables false
set_option linter.unusedSimpArgs false

section
variable (P : Program) (H0 : aB) (p : Lab)
/-- a region that draws its order, step by step -/
def uX (call : aQ) (ops : List AIns) (masks : List Nat) (keep : List Nat) (Q : a4) (s : ASt) : Prop := ∃ I : (Nat → Bool) → RL → Chg → Prop, I (fun _ => false) s.regs s.ov ∧
  (∀ D rl ov j i, I D rl ov → ops[j]? = some i → D j = false → (∀ k, (masks.getD j 0).testBit k = true → D k = true) → ∃ rc, aN call H0 p i ⟨rl, ov, s.c + j⟩ = some rc ∧ I (a7 D j) (aW rl i.dst rc.x) (b9 rc.u ov)) ∧
  ∀ D rl ov, (∀ j, j < ops.length → D j = true) → I D rl ov → ∃ s', Weak H0 p ⟨restrict rl keep, ov, s.c + ops.length⟩ s' ∧ Q .normal s'
end
def gwp (P : Program) (H0 : aB) (p : Lab) : ACode → a4 → ASt → Prop
  | .skip, Q, s => Q .normal s
  | .region ops none keep, Q, s => i5 P H0 p ops s fun s1 => ∃ s', Weak H0 p { s1 with regs := restrict s1.regs keep } s' ∧ Q .normal s'
  | .region ops (some masks) keep, Q, s => (∃ call, aY P call ∧ ∃ s1, cH call H0 p ops (some masks) keep s = some s1 ∧ ∃ s', Weak H0 p s1 s' ∧ Q .normal s') ∨ (∃ call, aY P call ∧ uX H0 p call ops masks keep Q s) ∨
      ∃ call, aY P call ∧ ∃ k s1, k ≤ ops.length ∧ l3 masks k ops.length = true ∧ oU call H0 p (ops.take k) s = some s1 ∧ i5 P H0 p (ops.drop k) s1 fun s2 => ∃ s', Weak H0 p { s2 with regs := restrict s2.regs keep } s' ∧ Q .normal s'
  | .seq a b, Q, s => gwp P H0 p a (sE (gwp P H0 p b Q) Q) s
  | .cond c t e, Q, s => match c3 s.regs c with
    | some (.bool b) => if b then gwp P H0 p t Q s else gwp P H0 p e Q s
    | _ => False
  | .block id b, Q, s => gwp P H0 p b (eG id Q) s
  | .loop keep b, Q, s => ∃ m, eB (gwp P H0 p b) keep Q m s
  | .exit id, Q, s => Q (.exit id) s
  | .ret, Q, s => Q .ret s
  | .label _, Q, s => Q .normal s
  | .goto l, Q, s => Q (.goto l) s
  | .scope l b r, Q, s => gwp P H0 p b (rO l (fun s' => ∃ m, cF (gwp P H0 p r) l Q m s') Q) s
  | .rangeF g ps asg b, Q, s => ∃ gf caps, c3 s.regs g = some (.fn (.func gf) [] caps) ∧ ∃ Φ : Loop → AV → Chg → Prop,
      (∀ r, kU r → m9 P (fun G q => gwp P G q asg) (fun G q => gwp P G q b) ps (0 :: s.c :: p) r s.regs → SoundE P gf (.yield (0 :: s.c :: p) :: caps) (upd [(0 :: s.c :: p, some (.loop r s.regs))] (upd s.ov H0)) (1 :: s.c :: p) (Φ r)) ∧
      ∀ r x u, kU r → Φ r x u → ∃ e, upd u (upd [(0 :: s.c :: p, some (.loop r s.regs))] (upd s.ov H0)) (0 :: s.c :: p) = some (.loop (after r e) s.regs) ∧ Q e ⟨s.regs, b9 ((0 :: s.c :: p, none) :: u) s.ov, s.c + 1⟩
  | .bad, _, _ => False
section
variable {P : Program} {n : Nat} {H0 : aB} {p : Lab} {ρ0 : aH} {R0 : Imm} {w0 : World}
theorem bZ {c : ACode} : ∀ {Q Q' : a4} {s : ASt}, (∀ e s, Q e s → Q' e s) → gwp P H0 p c Q s → gwp P H0 p c Q' s := by
  induction c with
  | skip => intro Q Q' s h hs; exact h _ _ hs
  | region ops draw keep =>
    intro Q Q' s h hs
    cases draw with
    | none => exact fD (fun s1 hs1 => by obtain ⟨s', hw, h2⟩ := hs1; exact ⟨s', hw, h _ _ h2⟩) hs
    | some masks =>
      rcases hs with ⟨call, hc, s1, h1, s', hw, h2⟩ | ⟨call, hc, I, h1, h2, h3⟩ | ⟨call, hc, k, s1, h1, h2, h3, h4⟩
      · exact .inl ⟨call, hc, s1, h1, s', hw, h _ _ h2⟩
      · exact .inr (.inl ⟨call, hc, I, h1, h2, fun D rl ov hD hI => by obtain ⟨s', hw, h4⟩ := h3 D rl ov hD hI; exact ⟨s', hw, h _ _ h4⟩⟩)
      · exact .inr (.inr ⟨call, hc, k, s1, h1, h2, h3, fD (fun s2 hs2 => by obtain ⟨s', hw, h5⟩ := hs2; exact ⟨s', hw, h _ _ h5⟩) h4⟩)
  | seq a b iha ihb =>
    intro Q Q' s h hs
    refine iha (fun e s he => ?_) hs
    cases e with
    | normal => exact ihb h he
    | exit id => exact h _ _ he
    | ret => exact h _ _ he
    | goto l => exact h _ _ he
  | cond c t e iht ihe =>
    intro Q Q' s h hs
    simp only [gwp] at hs ⊢
    split at hs
    · split at hs
      · rename_i hb; rw [if_pos hb]; exact iht h hs
      · rename_i hb; rw [if_neg hb]; exact ihe h hs
    · exact hs.elim
  | block id b ih =>
    intro Q Q' s h hs
    refine ih (fun e s he => ?_) hs
    cases e with
    | normal => exact h _ _ he
    | exit k =>
      simp only [eG] at he ⊢
      split at he
      · rename_i hk; rw [if_pos hk]; exact h _ _ he
      · rename_i hk; rw [if_neg hk]; exact h _ _ he
    | ret => exact h _ _ he
    | goto l => exact h _ _ he
  | loop keep b ih =>
    intro Q Q' s h ⟨m, hm⟩
    refine ⟨m, ?_⟩
    induction m generalizing s with
    | zero => exact hm
    | succ m ihm =>
      refine ih (fun e s he => ?_) hm
      cases e with
      | normal => exact ihm he
      | exit id => exact h _ _ he
      | ret => exact h _ _ he
      | goto l => exact h _ _ he
  | exit id => intro Q Q' s h hs; exact h _ _ hs
  | ret => intro Q Q' s h hs; exact h _ _ hs
  | label l => intro Q Q' s h hs; exact h _ _ hs
  | goto l => intro Q Q' s h hs; exact h _ _ hs
  | bad => intro Q Q' s h hs; exact hs
  | rangeF g ps x y =>
    intro Q Q' s h hs
    obtain ⟨gf, caps, h1, Φ, h2, h3⟩ := hs
    exact ⟨gf, caps, h1, Φ, h2, fun r x u hr hx => by
      obtain ⟨e, h4, h5⟩ := h3 r x u hr hx
      exact ⟨e, h4, h _ _ h5⟩⟩
  | scope l b r ihb ihr =>
    intro Q Q' s h hs
    have hr : ∀ m s, cF (gwp P H0 p r) l Q m s → cF (gwp P H0 p r) l Q' m s := by
      intro m
      induction m with
      | zero => intro s hs; exact hs
      | succ m ihm =>
        intro s hs
        refine ihr (fun e s he => ?_) hs
        cases e with
        | normal => exact h _ _ he
        | exit id => exact h _ _ he
        | ret => exact h _ _ he
        | goto k => exact ⟨he.1, ihm _ he.2⟩
    refine ihb (fun e s he => ?_) hs
    cases e with
    | normal => exact h _ _ he
    | exit id => exact h _ _ he
    | ret => exact h _ _ he
    | goto k => obtain ⟨h1, m, h2⟩ := he; exact ⟨h1, m, hr m _ h2⟩

def GSoundC (rr : Option Nat) (P : Program) (n : Nat) (H0 : aB) (p : Lab) (ρ0 : aH) (R0 : Imm) (w0 : World) (code : Code) : Prop := ∀ {ac : ACode} {Q : a4} {s : ASt} {ρ : aH} {R : Imm} {a : Act} {w : World}, aL P n code = some ac.strip → (rr = none ∨ ac.noRF = true) →
    gwp P H0 p ac Q s → Inv n H0 ρ0 R0 w0 p s ρ R a w → code.wpIn (Fw rr) 0 P (pC n H0 ρ0 R0 w0 p Q) a w
theorem GSoundC.seq {rr : Option Nat} {x y : Code} (ihx : GSoundC rr P n H0 p ρ0 R0 w0 x) (ihy : GSoundC rr P n H0 p ρ0 R0 w0 y) : GSoundC rr P n H0 p ρ0 R0 w0 (.seq x y) := by
  intro ac Q s ρ R a w hc hN h hI
  simp only [aL, Option.bind_eq_some_iff, Option.some.injEq] at hc
  obtain ⟨x', hx, y', hy, hc⟩ := hc
  cases ac <;> simp [ACode.strip] at hc
  rename_i ax ay
  obtain ⟨rfl, rfl⟩ := hc
  refine wpIn_seq (wpIn_mono (ihx hx (hN.imp id fun h => (Bool.and_eq_true_iff.1 h).1) h hI) ?_)
  rintro e a1 w1 ⟨ae, s1, ρ1, R1, rfl, hq, hI1⟩
  cases ae with
  | normal => exact ihy hy (hN.imp id fun h => (Bool.and_eq_true_iff.1 h).2) hq hI1
  | exit id => exact ⟨.exit id, s1, ρ1, R1, rfl, hq, hI1⟩
  | ret => exact ⟨.ret, s1, ρ1, R1, rfl, hq, hI1⟩
  | goto l => exact ⟨.goto l, s1, ρ1, R1, rfl, hq, hI1⟩
/-- sound wherever -/
def s0 (P : Program) (n : Nat) (code : Code) : Prop := ∀ (rr : Option Nat) (H0 : aB) (p : Lab) (ρ0 : aH) (R0 : Imm) (w0 : World), Rep H0 ρ0 R0 w0 → (∀ l, Under p l → ρ0 l = none) → GSoundC rr P n H0 p ρ0 R0 w0 code
theorem gwp_sound_all (hm : P.follows .mixedOrders = true) (code : Code) : s0 P n code ∧ ∀ l rest, findLabel code l = some rest → s0 P n rest := by
  induction code with
  | skip =>
    refine ⟨?_, fun l rest h => by simp [findLabel] at h⟩
    intro rr H0 p ρ0 R0 w0 h0 hf0
    intro ac Q s ρ R a w hc hN h hI
    cases ac <;> simp [aL, ACode.strip] at hc
    exact wpIn_skip ⟨.normal, s, ρ, R, rfl, h, hI⟩
  | region id ops draw =>
    refine ⟨?_, fun l rest h => by simp [findLabel] at h⟩
    intro rr H0 p ρ0 R0 w0 h0 hf0
    intro ac Q s ρ R a w hc hN h hI
    simp only [aL, Option.bind_eq_some_iff] at hc
    obtain ⟨is, his, hc⟩ := hc
    cases draw with
    | false =>
      simp only [Bool.false_eq_true, if_false, Option.some.injEq] at hc
      cases ac <;> simp [ACode.strip] at hc
      rename_i ops' draw' keep
      obtain ⟨rfl, rfl⟩ := hc
      exact gseq_sound his h0 hf0 h hI (fun s' ρ R a w hk hI' => by
        obtain ⟨s2, hwk, h2⟩ := hk
        obtain ⟨ρ2, R2, hI2⟩ := hwk h0 hf0 (hI'.restrict _)
        exact ⟨.normal, _, ρ2, R2, rfl, h2, hI2⟩)
    | true =>
      simp only [if_true] at hc
      split at hc
      · rename_i hst
        simp only [Bool.and_eq_true] at hst
        simp only [Option.some.injEq] at hc
        cases ac <;> simp [ACode.strip] at hc
        rename_i ops' draw' keep
        obtain ⟨rfl, rfl⟩ := hc
        rcases h with ⟨call, hcall, s', h1, s2, hwk, h2⟩ | ⟨call, hcall, I, h1, h2, h3⟩ | ⟨call, hcall, k, s1, h1, h2, h3, h4⟩
        · simp only [cH, Option.bind_eq_some_iff] at h1
          obtain ⟨⟨s1, trs⟩, h1, h3⟩ := h1
          split at h3
          · cases h3
          · rename_i hcl
            simp only [Option.some.injEq] at h3
            subst h3
            exact mQ hm hcall his hst.1 hst.2 h0 hf0 h1 (by simpa using hcl) hI (fun ρ R a w hI' => by
              obtain ⟨ρ2, R2, hI2⟩ := hwk h0 hf0 (hI'.restrict keep)
              exact ⟨.normal, _, ρ2, R2, rfl, h2, hI2⟩)
        · have hlen : is.length = ops.size := by simpa using (bN his).1
          have hstep : ∀ D rl ov j o i, (I D rl ov ∧ ∀ i k, D k = true → Anc ops i k → D i = true) → ops[j]? = some o → is[j]? = some i → D j = false → (∀ e ∈ o.after, Region.binds .any e = true → D e.on = true) → ∃ rc, aN call H0 p i ⟨rl, ov, s.c + j⟩ = some rc ∧ (I (a7 D j) (aW rl i.dst rc.x) (b9 rc.u ov) ∧ ∀ i k, a7 D j k = true → Anc ops i k → a7 D j i = true) := by
            intro D rl ov j o i hID ho hi hj hpre
            have hanc : ∀ i, Anc ops i j → D i = true := by
              intro i hi
              generalize hk : j = k at hi
              induction hi with
              | step ho' he hb => subst hk; rw [ho] at ho'; cases ho'; exact hpre _ he hb
              | trans h1 h2 _ ih2 => exact hID.2 _ _ (ih2 hk) h1
            obtain ⟨rc, he, hI'⟩ := h2 D rl ov j i hID.1 hi hj (fun k hk => hanc k (cT hk))
            refine ⟨rc, he, hI', fun i k hk ha => ?_⟩
            simp only [a7, Bool.or_eq_true, beq_iff_eq] at hk ⊢
            rcases hk with rfl | hk
            · exact .inr (hanc i ha)
            · exact .inr (hID.2 i k hk ha)
          refine draw_nd hm hcall his hst.1 h0 hf0 (fun D rl ov => I D rl ov ∧ ∀ i k, D k = true → Anc ops i k → D i = true) hstep ⟨h1, fun i k hk => by cases hk⟩ hI (fun D rl ov ρ R a w hD hID hI' => ?_)
          obtain ⟨s2, hwk, h4⟩ := h3 D rl ov (by rw [hlen]; exact hD) hID.1
          rw [hlen] at hwk
          obtain ⟨ρ2, R2, hI2⟩ := hwk h0 hf0 (hI'.restrict keep)
          exact ⟨.normal, _, ρ2, R2, rfl, h4, hI2⟩
        · exact draw_late hm hcall his hst.1 hst.2 h0 hf0 h3 h1 h2 h4 hI (fun s' ρ R a w hk hI' => by
            obtain ⟨s2, hwk, h5⟩ := hk
            obtain ⟨ρ2, R2, hI2⟩ := hwk h0 hf0 (hI'.restrict _)
            exact ⟨.normal, _, ρ2, R2, rfl, h5, hI2⟩)
      · cases hc
  | seq x y ihx ihy =>
    refine ⟨fun rr H0 p ρ0 R0 w0 h0 hf0 => GSoundC.seq (ihx.1 rr H0 p ρ0 R0 w0 h0 hf0) (ihy.1 rr H0 p ρ0 R0 w0 h0 hf0), fun l rest h => ?_⟩
    simp only [findLabel] at h
    cases hf : findLabel x l with
    | some r => simp only [hf, Option.some.injEq] at h; subst h; exact fun rr H0 p ρ0 R0 w0 h0 hf0 => GSoundC.seq (ihx.2 l r hf rr H0 p ρ0 R0 w0 h0 hf0) (ihy.1 rr H0 p ρ0 R0 w0 h0 hf0)
    | none => simp only [hf] at h; exact ihy.2 l rest h
  | cond c t e iht ihe =>
    refine ⟨?_, fun l rest h => by simp [findLabel] at h⟩
    intro rr H0 p ρ0 R0 w0 h0 hf0
    intro ac Q s ρ R a w hc hN h hI
    simp only [aL, Option.bind_eq_some_iff, Option.some.injEq] at hc
    obtain ⟨z, hz, x', hx, y', hy, hc⟩ := hc
    cases ac <;> simp [ACode.strip] at hc
    rename_i z' ax ay
    obtain ⟨rfl, rfl, rfl⟩ := hc
    simp only [gwp] at h
    split at h
    · rename_i b hb
      have hv := (iA (ρ := ρ) (R := R) (a := a) hz hb (fun t ht y hy => hI.rs.regs t y hy)).bool_inv
      split at h
      · rename_i hbt; subst hbt
        exact wpIn_cond_true hv (iht.1 rr H0 p ρ0 R0 w0 h0 hf0 hx (hN.imp id fun h => (Bool.and_eq_true_iff.1 h).1) h hI)
      · rename_i hbt
        have : b = false := by simpa using hbt
        subst this
        exact wpIn_cond_false hv (ihe.1 rr H0 p ρ0 R0 w0 h0 hf0 hy (hN.imp id fun h => (Bool.and_eq_true_iff.1 h).2) h hI)
    · exact h.elim
  | block id b ih =>
    refine ⟨?_, fun l rest h => by simp [findLabel] at h⟩
    intro rr H0 p ρ0 R0 w0 h0 hf0
    intro ac Q s ρ R a w hc hN h hI
    simp only [aL, Option.bind_eq_some_iff, Option.some.injEq] at hc
    obtain ⟨x', hx, hc⟩ := hc
    cases ac <;> simp [ACode.strip] at hc
    rename_i id' ax
    obtain ⟨rfl, rfl⟩ := hc
    refine wpIn_block (wpIn_mono (ih.1 rr H0 p ρ0 R0 w0 h0 hf0 hx hN h hI) ?_)
    rintro e a1 w1 ⟨ae, s1, ρ1, R1, rfl, hq, hI1⟩
    cases ae with
    | normal => exact ⟨.normal, s1, ρ1, R1, rfl, hq, hI1⟩
    | exit k =>
      simp only [eG] at hq
      simp only [AEx.ex, Exit.inBlock]
      split at hq
      · rename_i hk; rw [if_pos hk]; exact ⟨.normal, s1, ρ1, R1, rfl, hq, hI1⟩
      · rename_i hk; rw [if_neg hk]; exact ⟨.exit k, s1, ρ1, R1, rfl, hq, hI1⟩
    | ret => exact ⟨.ret, s1, ρ1, R1, rfl, hq, hI1⟩
    | goto l => exact ⟨.goto l, s1, ρ1, R1, rfl, hq, hI1⟩
  | loop b ih =>
    refine ⟨?_, fun l rest h => by simp [findLabel] at h⟩
    intro rr H0 p ρ0 R0 w0 h0 hf0
    intro ac Q s ρ R a w hc hN h hI
    simp only [aL, Option.bind_eq_some_iff, Option.some.injEq] at hc
    obtain ⟨x', hx, hc⟩ := hc
    cases ac <;> simp [ACode.strip] at hc
    rename_i keep ax
    subst hc
    obtain ⟨m, hr⟩ := h
    refine wpIn_loop_rounds m ?_
    induction m generalizing s ρ R a w with
    | zero => exact hr.elim
    | succ m ihm =>
      rw [roundsIn_succ]
      refine wpIn_mono (ih.1 rr H0 p ρ0 R0 w0 h0 hf0 hx hN hr (hI.restrict keep)) ?_
      rintro e a1 w1 ⟨ae, s1, ρ1, R1, rfl, hq, hI1⟩
      cases ae with
      | normal => exact ihm hI1 hq
      | exit id => exact ⟨.exit id, s1, ρ1, R1, rfl, hq, hI1⟩
      | ret => exact ⟨.ret, s1, ρ1, R1, rfl, hq, hI1⟩
      | goto l => exact ⟨.goto l, s1, ρ1, R1, rfl, hq, hI1⟩
  | exit id =>
    refine ⟨?_, fun l rest h => by simp [findLabel] at h⟩
    intro rr H0 p ρ0 R0 w0 h0 hf0
    intro ac Q s ρ R a w hc hN h hI
    cases ac <;> simp [aL, ACode.strip] at hc
    subst hc
    exact wpIn_exit ⟨.exit _, s, ρ, R, rfl, h, hI⟩
  | ret =>
    refine ⟨?_, fun l rest h => by simp [findLabel] at h⟩
    intro rr H0 p ρ0 R0 w0 h0 hf0
    intro ac Q s ρ R a w hc hN h hI
    cases ac <;> simp [aL, ACode.strip] at hc
    exact wpIn_ret ⟨.ret, s, ρ, R, rfl, h, hI⟩
  | rangeFunc f ps x y ihx ihy =>
    refine ⟨?_, fun l rest h => by simp [findLabel] at h⟩
    intro rr H0 p ρ0 R0 w0 h0 hf0
    intro ac Q s ρ R a w hc hN h hI
    simp only [aL, Option.bind_eq_some_iff] at hc
    obtain ⟨z, hz, x', hx, y', hy, hc⟩ := hc
    split at hc
    · rename_i hcond
      simp only [Bool.and_eq_true, List.all_eq_true, decide_eq_true_eq] at hcond
      obtain ⟨⟨hps, hnx⟩, hny⟩ := hcond
      cases ac <;> simp [ACode.strip] at hc
      rename_i z' ps' ax ay
      obtain ⟨rfl, rfl, rfl, rfl⟩ := hc
      rw [ACode.noRF_strip] at hnx hny
      have hrr : rr = none := hN.resolve_right (by simp [ACode.noRF])
      subst hrr
      obtain ⟨gf, caps, hg, Φ, hE, hQ⟩ := h
      exact range_ok (fun l H0 p ρ0 R0 w0 h0 hf0 Q s ρ R a w h hI => ihx.1 (some l) H0 p ρ0 R0 w0 h0 hf0 hx (.inr hnx) h hI) (fun l H0 p ρ0 R0 w0 h0 hf0 Q s ρ R a w h hI => ihy.1 (some l) H0 p ρ0 R0 w0 h0 hf0 hy (.inr hny) h hI) hz (fun t ht => hps t ht) h0 hf0 hI hg hE hQ
    · cases hc
  | refuse why =>
    refine ⟨?_, fun l rest h => by simp [findLabel] at h⟩
    intro rr H0 p ρ0 R0 w0 h0 hf0
    intro ac Q s ρ R a w hc hN h hI
    cases ac <;> simp [aL, ACode.strip] at hc
    exact h.elim
  | scope c ih =>
    refine ⟨?_, fun l rest h => by simp [findLabel] at h⟩
    intro rr H0 p ρ0 R0 w0 h0 hf0
    intro ac Q s ρ R a w hc hN h hI
    simp only [aL, Option.bind_eq_some_iff, Option.some.injEq] at hc
    obtain ⟨l, _, x, hx, y, hy, hc⟩ := hc
    cases ac <;> simp [ACode.strip] at hc
    rename_i l' ab ar
    obtain ⟨rfl, rfl, rfl⟩ := hc
    have hl := eW (l := l) hx
    rw [hy] at hl
    cases hf : findLabel c l with
    | none => simp only [hf] at hl
    | some rest =>
      simp only [hf] at hl
      have hrest : GSoundC rr P n H0 p ρ0 R0 w0 rest := ih.2 l rest hf rr H0 p ρ0 R0 w0 h0 hf0
      refine fZ hf (wpIn_mono (ih.1 rr H0 p ρ0 R0 w0 h0 hf0 hx (hN.imp id fun h => (Bool.and_eq_true_iff.1 h).1) h hI) ?_)
      have key : ∀ m s ρ R a w, cF (gwp P H0 p ar) l Q m s → Inv n H0 ρ0 R0 w0 p s ρ R a w → jE rr P rest l (pC n H0 ρ0 R0 w0 p Q) m a w := by
        intro m
        induction m with
        | zero => intro s ρ R a w h _; exact h.elim
        | succ m ihm =>
          intro s ρ R a w h hI
          refine wpIn_mono (hrest hl (hN.imp id fun h => (Bool.and_eq_true_iff.1 h).2) h hI) ?_
          rintro e a1 w1 ⟨ae, s1, ρ1, R1, rfl, hq, hI1⟩
          cases ae with
          | normal => exact ⟨.normal, s1, ρ1, R1, rfl, hq, hI1⟩
          | exit id => exact ⟨.exit id, s1, ρ1, R1, rfl, hq, hI1⟩
          | ret => exact ⟨.ret, s1, ρ1, R1, rfl, hq, hI1⟩
          | goto k => exact ⟨hq.1, ihm s1 ρ1 R1 a1 w1 hq.2 hI1⟩
      rintro e a1 w1 ⟨ae, s1, ρ1, R1, rfl, hq, hI1⟩
      cases ae with
      | normal => exact ⟨.normal, s1, ρ1, R1, rfl, hq, hI1⟩
      | exit id => exact ⟨.exit id, s1, ρ1, R1, rfl, hq, hI1⟩
      | ret => exact ⟨.ret, s1, ρ1, R1, rfl, hq, hI1⟩
      | goto k => obtain ⟨h1, m, h2⟩ := hq; exact ⟨h1, m, key m s1 ρ1 R1 a1 w1 h2 hI1⟩
  | label l =>
    refine ⟨?_, fun k rest h => ?_⟩
    · intro rr H0 p ρ0 R0 w0 h0 hf0 ac Q s ρ R a w hc hN h hI
      cases ac <;> simp [aL, ACode.strip] at hc
      exact wpIn_label ⟨.normal, s, ρ, R, rfl, h, hI⟩
    · simp only [findLabel] at h
      split at h
      · cases h
        intro rr H0 p ρ0 R0 w0 h0 hf0 ac Q s ρ R a w hc hN h hI
        cases ac <;> simp [aL, ACode.strip] at hc
        exact wpIn_skip ⟨.normal, s, ρ, R, rfl, h, hI⟩
      · cases h
  | goto l =>
    refine ⟨?_, fun l rest h => by simp [findLabel] at h⟩
    intro rr H0 p ρ0 R0 w0 h0 hf0
    intro ac Q s ρ R a w hc hN h hI
    cases ac <;> simp [aL, ACode.strip] at hc
    subst hc
    exact wpIn_goto ⟨.goto _, s, ρ, R, rfl, h, hI⟩
theorem n8 (hm : P.follows .mixedOrders = true) (h0 : Rep H0 ρ0 R0 w0) (hf0 : ∀ l, Under p l → ρ0 l = none) {code : Code} {ac : ACode} {Q : a4} {s : ASt} {ρ : aH} {R : Imm} {a : Act} {w : World} (hc : aL P n code = some ac.strip)
    (h : gwp P H0 p ac Q s) (hI : Inv n H0 ρ0 R0 w0 p s ρ R a w) : code.wpIn (Fw none) 0 P (pC n H0 ρ0 R0 w0 p Q) a w := (gwp_sound_all hm code).1 none H0 p ρ0 R0 w0 h0 hf0 hc (.inl rfl) h hI
end

end Go.Proofs.Ytigjoggpaamodaa
/-! The abstract machine: contracts of functions; what is made and handed back may be taken for what nobody changes. -/
namespace Go.Proofs.Ytigjoggpaamodaa
set_option linter.unusedVariables false
set_option linter.unusedSimpArgs false

/-- what a call yields, proved -/
def aK (P : Program) (f : Nat) (xs : List AV) (H : aB) (q : Lab) (r : Res) : Prop := fG P f ∧ (∀ l, r.u.has l → restr H r.foot l ≠ none ∨ Under q l) ∧
  ∀ ρ R vs, RepL ρ R xs vs → Does (dL P f vs.toArray) (restr H r.foot) r.u (Under q) ρ R r.x
theorem oL {P : Program} {call : aQ} (h : ∀ f xs H q r, call f xs H q = some r → aK P f xs H q r) : aY P call := h

/-- a value taken for what it holds: the labels of Z are changed no more -/
inductive Fr (Z : Lab → Prop) (H : aB) : AV → AV → Prop
  | refl (x : AV) : Fr Z H x x
  | own (l : Lab) (e off n : Nat) (rs rows : List (List AV)) (g : Nat → Nat → AV) (hz : Z l) (hl : H l = some (.rows e rs)) (hn : rows.length = n) (hr : ∀ r ∈ rows, gC e r)
      (h1 : ∀ i j x, aC rows i j = some x → aC rs (off + i) j = some (g i j)) (h2 : ∀ i j x, aC rows i j = some x → Fr Z H (g i j) x) : Fr Z H (.sl l e off n) (.isl e rows)
  | nils (e : Nat) : Fr Z H .nils (.isl e [])
  | ptr (l : Lab) (e i j : Nat) (rs rows : List (List AV)) (g : Nat → Nat → AV) (hz : Z l) (hl : H l = some (.rows e rs))
      (h1 : ∀ i j x, aC rows i j = some x → aC rs i j = some (g i j)) (h2 : ∀ i j x, aC rows i j = some x → Fr Z H (g i j) x) : Fr Z H (.ptr l e i j) (.iptr e rows i j)
  | sl0 (e : Nat) : Fr Z H .sl0 (.isl e [])
  | agg (cs ds : List AV) (hl : cs.length = ds.length) (g : Nat → AV) (h1 : ∀ i d, ds[i]? = some d → cs[i]? = some (g i)) (h2 : ∀ i d, ds[i]? = some d → Fr Z H (g i) d) : Fr Z H (.agg cs) (.agg ds)
  | tuple (cs ds : List AV) (hl : cs.length = ds.length) (g : Nat → AV) (h1 : ∀ i d, ds[i]? = some d → cs[i]? = some (g i)) (h2 : ∀ i d, ds[i]? = some d → Fr Z H (g i) d) : Fr Z H (.tuple cs) (.tuple ds)
/-- the blocks that are changed no more -/
noncomputable def frozenR (Z : Lab → Prop) (ρ : aH) (R : Imm) (w : World) : Imm := fun b => open Classical in if ∃ l L, Z l ∧ ρ l = some L ∧ L.blk = b then w.heap[b]? else R b
section
variable {Z : Lab → Prop} {H : aB} {ρ : aH} {R : Imm} {w : World}
theorem dC (hd : ∀ l L, Z l → ρ l = some L → R L.blk = none ∨ R L.blk = w.heap[L.blk]?) : Ext ρ ρ R (frozenR Z ρ R w) := ⟨fun _ _ h => h, fun b O hb => by
  unfold frozenR
  split
  · rename_i h
    obtain ⟨l, L, hz, hL, rfl⟩ := h
    rcases hd l L hz hL with h1 | h1
    · rw [h1] at hb; cases hb
    · rw [← h1]; exact hb
  · exact hb⟩
theorem oA {l : Lab} {L : Loc} (hz : Z l) (hL : ρ l = some L) : frozenR Z ρ R w L.blk = w.heap[L.blk]? := by
  unfold frozenR
  exact if_pos ⟨l, L, hz, hL, rfl⟩
theorem mM (hR : Rep H ρ R w) (he : Ext ρ ρ R (frozenR Z ρ R w)) {x y : AV} (h : Fr Z H x y) : ∀ {v : Value}, RepV ρ R x v → RepV ρ (frozenR Z ρ R w) y v := by
  induction h with
  | refl x => intro v hv; exact hv.mono he
  | own l e off n rs rows g hz hl hn hr h1 h2 ih =>
    intro v hv
    rcases hv.sl_inv with ⟨L, cap, hL, hlc, ht, hx, rfl⟩ | ⟨rfl, L, ad, hL, hx, rfl⟩
    · obtain ⟨L', O, hL', hO, hrep⟩ := hR.own l _ hl
      rw [hL] at hL'; cases hL'
      cases O <;> simp only [RepO] at hrep
      rename_i c T fz
      obtain ⟨hfz, hsz, hrow, ⟨hext, hfit⟩, hcell⟩ := hrep
      have hb : frozenR Z ρ R w L.blk = some (.cells c T fz) := by rw [oA hz hL]; exact hO
      have key : ∀ i j x, aC rows i j = some x → ∃ u, c[L.off + ((off + i) * e + j)]? = some u ∧ RepV ρ R (g i j) u := fun i j x hx => hcell _ _ _ (h1 i j x hx)
      have := RepV.isl (ρ := ρ) (R := frozenR Z ρ R w) e rows L.blk (L.off + off * e) cap c T fz (fun i j => c.getD (L.off + ((off + i) * e + j)) undef) (by omega) hr hb (fun i j x hx => by
          obtain ⟨u, hu, _⟩ := key i j x hx
          have e1 : L.off + off * e + (i * e + j) = L.off + ((off + i) * e + j) := by rw [Nat.add_mul]; omega
          rw [e1]
          simp [Array.getD_eq_getD_getElem?, hu]) (fun i j x hx => by
          obtain ⟨u, hu, hru⟩ := key i j x hx
          have := ih i j x hx hru
          simpa [Array.getD_eq_getD_getElem?, hu] using this)
      rw [hn] at this
      exact this
    · have : rows = [] := List.length_eq_zero_iff.1 hn
      subst this
      exact .isl0 _ _ _ (fun _ => rfl)
  | nils e => intro v hv; cases hv; exact .isl0 _ _ _ (fun _ => rfl)
  | ptr l e i j rs rows g hz hl h1 h2 ih =>
    intro v hv
    obtain ⟨L, hL, rfl⟩ := hv.ptr_inv
    obtain ⟨L', O, hL', hO, hrep⟩ := hR.own l _ hl
    rw [hL] at hL'; cases hL'
    cases O <;> simp only [RepO] at hrep
    rename_i c T fz
    obtain ⟨hfz, hsz, hrow, ⟨hext, hfit⟩, hcell⟩ := hrep
    have hb : frozenR Z ρ R w L.blk = some (.cells c T fz) := by rw [oA hz hL]; exact hO
    have key : ∀ i j x, aC rows i j = some x → ∃ u, c[L.off + (i * e + j)]? = some u ∧ RepV ρ R (g i j) u := fun i j x hx => hcell _ _ _ (h1 i j x hx)
    exact .iptr e rows i j L.blk L.off c T fz (fun i j => c.getD (L.off + (i * e + j)) undef) hb (fun i j x hx => by
        obtain ⟨u, hu, _⟩ := key i j x hx
        simp [Array.getD_eq_getD_getElem?, hu]) (fun i j x hx => by
        obtain ⟨u, hu, hru⟩ := key i j x hx
        have := ih i j x hx hru
        simpa [Array.getD_eq_getD_getElem?, hu] using this)
  | sl0 e => intro v hv; cases hv; exact .isl0 _ _ _ (fun _ => rfl)
  | agg cs ds hl g h1 h2 ih =>
    intro v hv
    cases hv with
    | agg _ C hC hc =>
      refine .agg _ _ (by omega) (fun i d hd => ?_)
      exact ih i d hd (hc i _ (h1 i d hd))
  | tuple cs ds hl g h1 h2 ih =>
    intro v hv
    cases hv with
    | tuple _ C hC hc =>
      refine .tuple _ _ (by omega) (fun i d hd => ?_)
      exact ih i d hd (hc i _ (h1 i d hd))
/-- a heap without those labels -/
theorem eD (hR : Rep H ρ R w) {G : aB} (hG : ∀ l o, G l = some o → ¬ Z l ∧ H l = some o) (he : Ext ρ ρ R (frozenR Z ρ R w)) (hz : ∀ l, Z l → ∀ L, ρ l = some L → H l ≠ none) : Rep G ρ (frozenR Z ρ R w) w := by
  refine ⟨fun l o h => ?_, fun l l' o o' L L' h h' => hR.sep l l' o o' L L' (hG l o h).2 (hG l' o' h').2, fun l o L h hL => ?_, fun b O h => ?_⟩
  · obtain ⟨L, O, h1, h2, h3⟩ := hR.own l o (hG l o h).2
    exact ⟨L, O, h1, h2, h3.mono he⟩
  · unfold frozenR
    split
    · rename_i hx
      obtain ⟨k, K, hk, hK, hb⟩ := hx
      obtain ⟨o', ho'⟩ := Option.ne_none_iff_exists'.1 (hz k hk K hK)
      have := hR.sep k l o' o K L ho' (hG l o h).2 hK hL hb
      subst this
      exact absurd hk (hG k o h).1
    · exact hR.dis l o L (hG l o h).2 hL
  · unfold frozenR at h
    split at h
    · exact h
    · exact hR.imm b O h
theorem mL {H0 : aB} {ρ0 : aH} {R0 : Imm} {w0 : World} {W : Lab → Prop} (h : Fut H0 ρ0 R0 w0 W ρ R w) (he : Ext ρ ρ R (frozenR Z ρ R w)) (hz : ∀ l L, Z l → ρ l = some L → H0 l ≠ none ∨ ρ0 l = none) : Fut H0 ρ0 R0 w0 W ρ (frozenR Z ρ R w) w := by
  refine ⟨h.ext.trans he, h.win, fun b O hb => ?_, h.os, h.tape, h.output, h.size, h.frame⟩
  unfold frozenR at hb
  split at hb
  · rename_i hx
    obtain ⟨l, L, hl, hL, rfl⟩ := hx
    rcases h.win l L hL with h1 | ⟨_, h2⟩
    · rcases hz l L hl hL with h3 | h3
      · obtain ⟨o, ho⟩ := Option.ne_none_iff_exists'.1 h3
        exact .inr (.inr ⟨l, o, L, ho, h1, rfl⟩)
      · rw [h1] at h3; cases h3
    · exact .inr h2
  · exact h.new b O hb
end
/-- what a body's end is to be: the result, frozen; what is left of the heap -/
def uY (Z : Lab → Prop) (H : aB) (res : List AResV) (y : AV) (u : Chg) : a4 := fun e s => (e = .normal ∨ e = .ret) ∧ ∃ x, cZ (upd s.ov H) s.regs res = some x ∧ Fr (fun l => Z l ∧ upd s.ov H l ≠ none) (upd s.ov H) x y ∧ ∀ l o, upd u H l = some o → ¬ (Z l ∧ upd s.ov H l ≠ none) ∧ upd s.ov H l = some o
section
variable {P : Program} {ρ : aH} {R : Imm}
theorem gcall_does (hm : P.follows .mixedOrders = true) {f : Nat} {A : AFun} (hA : FunOk P f A) {xs : List AV} (hlen : xs.length = A.np) {H : aB} {q : Lab} {Z : Lab → Prop} {y : AV} {u : Chg} (h : gwp P H q A.body (uY Z H A.res y u) (bR xs)) {vs : List Value} (hvs : RepL ρ R xs vs) :
    ∀ w, Rep H ρ R w → (∀ l, Under q l → ρ l = none) → dL P f vs.toArray w (fun v w' => ∃ ρ' R', Fut H ρ R w (Under q) ρ' R' w' ∧ RepV ρ' R' y v ∧ Rep (upd u H) ρ' R' w') := by
  intro w hR hfr
  obtain ⟨⟨fn, c, hf, hb, hn, hnt, hc, hres⟩, hnp⟩ := hA
  have hvl := hvs.1
  have hI : Inv A.nt H ρ R w q (bR xs) ρ R { tmps := vs.toArray ++ Array.replicate (fn.ntmps - vs.toArray.size) undef, defers := [] } w := by
    refine ⟨⟨?_, .nil, fun t x hx => ?_, ?_⟩, Fut.refl _ _ _ _ _, fun l hl => hfr l hl.under, fun k o hk => .inl (by simp only [bR, upd] at hk; rw [hk]; simp)⟩
    · simp; omega
    · simp only [bR, fN, Nat.zero_le, if_true, Nat.sub_zero] at hx
      obtain ⟨v, hv, hr⟩ := hvs.2 t x hx
      have ht : t < vs.length := (List.getElem?_eq_some_iff.1 hv).1
      have : (vs.toArray ++ Array.replicate (fn.ntmps - vs.toArray.size) undef).getD t undef = v := by
        rw [Array.getD_eq_getD_getElem?, Array.getElem?_append_left (by simpa using ht)]
        simp [hv]
      rw [this]; exact hr
    · simpa [bR, upd] using hR
  refine kB hf hb (n8 hm hR hfr hc h hI) ?_
  rintro ae s ρ' R' a' w' ⟨hae, x, hx, hfrz, hsub⟩ hS hF hlab
  obtain ⟨v, hv, hrv⟩ := gM hS hres hx
  have hext : Ext ρ' ρ' R' (frozenR (fun l => Z l ∧ upd s.ov H l ≠ none) ρ' R' w') := dC (fun l L hz hL => by
    obtain ⟨o, ho⟩ := Option.ne_none_iff_exists'.1 hz.2
    exact .inl (hS.heap.dis l o L ho hL))
  exact ⟨hae, v, hv, v, rfl, ρ', _, mL hF hext (fun l L hz hL => by
        obtain ⟨o, ho⟩ := Option.ne_none_iff_exists'.1 hz.2
        rcases hlab l o ho with h1 | h1
        · exact .inl h1
        · exact .inr (hfr l h1)), mM hS.heap hext hfrz hrv, eD hS.heap hsub hext (fun l hz L hL => hz.2)⟩
theorem jD (hm : P.follows .mixedOrders = true) {f : Nat} {A : AFun} (hA : FunOk P f A) {xs : List AV} (hlen : xs.length = A.np) {H : aB} {q : Lab} {Z : Lab → Prop} {y : AV} {u : Chg} {foot : Option (List Lab)} (hu : ∀ l, u.has l → restr H foot l ≠ none ∨ Under q l) (h : gwp P (restr H foot) q A.body (uY Z (restr H foot) A.res y u) (bR xs)) : aK P f xs H q ⟨y, u, foot⟩ := by
  obtain ⟨fn, c, hf, hb, hn, _⟩ := hA.ex
  refine ⟨⟨fn, hf, by rw [hb]; rfl, hn⟩, hu, fun ρ R vs hvs w hR hfr => ?_⟩
  refine Calls.mono (gcall_does hm hA hlen h hvs w hR hfr) ?_
  rintro e w' ⟨v, rfl, hk⟩
  exact ⟨v, rfl, hk⟩
/-- what a body's end is to be, where what comes out is not told ahead -/
def uL (q : Lab) (H : aB) (res : List AResV) (Φ : AV → Chg → Prop) : a4 := fun e s => (e = .normal ∨ e = .ret) ∧ ∃ x y u, cZ (upd s.ov H) s.regs res = some x ∧ Φ y u ∧ (∀ l, u.has l → H l ≠ none ∨ Under q l) ∧ Fr (fun l => upd u H l = none ∧ upd s.ov H l ≠ none) (upd s.ov H) x y ∧ ∀ l o, upd u H l = some o → upd s.ov H l = some o
theorem gcall_doesE (hm : P.follows .mixedOrders = true) {f : Nat} {A : AFun} (hA : FunOk P f A) {xs : List AV} (hlen : xs.length = A.np) {H : aB} {q : Lab} {Φ : AV → Chg → Prop} (h : gwp P H q A.body (uL q H A.res Φ) (bR xs)) {vs : List Value} (hvs : RepL ρ R xs vs) :
    ∀ w, Rep H ρ R w → (∀ l, Under q l → ρ l = none) → dL P f vs.toArray w (fun v w' => ∃ y u ρ' R', Φ y u ∧ (∀ l, u.has l → H l ≠ none ∨ Under q l) ∧ Fut H ρ R w (Under q) ρ' R' w' ∧ RepV ρ' R' y v ∧ Rep (upd u H) ρ' R' w') := by
  intro w hR hfr
  obtain ⟨⟨fn, c, hf, hb, hn, hnt, hc, hres⟩, hnp⟩ := hA
  have hvl := hvs.1
  have hI : Inv A.nt H ρ R w q (bR xs) ρ R { tmps := vs.toArray ++ Array.replicate (fn.ntmps - vs.toArray.size) undef, defers := [] } w := by
    refine ⟨⟨?_, .nil, fun t x hx => ?_, ?_⟩, Fut.refl _ _ _ _ _, fun l hl => hfr l hl.under, fun k o hk => .inl (by simp only [bR, upd] at hk; rw [hk]; simp)⟩
    · simp; omega
    · simp only [bR, fN, Nat.zero_le, if_true, Nat.sub_zero] at hx
      obtain ⟨v, hv, hr⟩ := hvs.2 t x hx
      have ht : t < vs.length := (List.getElem?_eq_some_iff.1 hv).1
      have : (vs.toArray ++ Array.replicate (fn.ntmps - vs.toArray.size) undef).getD t undef = v := by
        rw [Array.getD_eq_getD_getElem?, Array.getElem?_append_left (by simpa using ht)]
        simp [hv]
      rw [this]; exact hr
    · simpa [bR, upd] using hR
  refine kB hf hb (n8 hm hR hfr hc h hI) ?_
  rintro ae s ρ' R' a' w' ⟨hae, x, y, u, hx, hΦ, hu, hfrz, hsub⟩ hS hF hlab
  obtain ⟨v, hv, hrv⟩ := gM hS hres hx
  have hext : Ext ρ' ρ' R' (frozenR (fun l => upd u H l = none ∧ upd s.ov H l ≠ none) ρ' R' w') := dC (fun l L hz hL => by
    obtain ⟨o, ho⟩ := Option.ne_none_iff_exists'.1 hz.2
    exact .inl (hS.heap.dis l o L ho hL))
  exact ⟨hae, v, hv, v, rfl, y, u, ρ', _, hΦ, hu, mL hF hext (fun l L hz hL => by
        obtain ⟨o, ho⟩ := Option.ne_none_iff_exists'.1 hz.2
        rcases hlab l o ho with h1 | h1
        · exact .inl h1
        · exact .inr (hfr l h1)), mM hS.heap hext hfrz hrv, eD hS.heap (fun l o hl => ⟨(fun hn => by rw [hn.1] at hl; cases hl), hsub l o hl⟩) hext (fun l hz L hL => hz.2)⟩
theorem soundE_of_gwp (hm : P.follows .mixedOrders = true) {f : Nat} {A : AFun} (hA : FunOk P f A) {xs : List AV} (hlen : xs.length = A.np) {H : aB} {q : Lab} {Φ : AV → Chg → Prop} (h : gwp P H q A.body (uL q H A.res Φ) (bR xs)) : SoundE P f xs H q Φ := by
  obtain ⟨fn, c, hf, hb, hn, _⟩ := hA.ex
  refine ⟨⟨fn, hf, by rw [hb]; rfl, hn⟩, fun ρ R vs hvs w hR hfr => ?_⟩
  refine Calls.mono (gcall_doesE hm hA hlen h hvs w hR hfr) ?_
  rintro e w' ⟨v, rfl, hk⟩
  exact ⟨v, rfl, hk⟩
/-- a function that only reckons: its arguments are changed by nobody -/
def kD (P : Program) (f : Nat) (xs : List AV) (y : AV) : Prop := ∀ H q, aK P f xs H q ⟨y, [], some []⟩
def PRet (res : List AResV) (y : AV) : a4 := fun e s => (e = .normal ∨ e = .ret) ∧ ∃ x, cZ (upd s.ov (fun _ => none)) s.regs res = some x ∧ Fr (fun l => upd s.ov (fun _ => none) l ≠ none) (upd s.ov (fun _ => none)) x y
theorem dA (H : aB) : restr H (some []) = fun _ => none := by funext l; simp [restr]
theorem pure_of (hm : P.follows .mixedOrders = true) {f : Nat} {A : AFun} (hA : FunOk P f A) {xs : List AV} (hlen : xs.length = A.np) {y : AV} (h : ∀ q, gwp P (fun _ => none) q A.body (PRet A.res y) (bR xs)) : kD P f xs y := by
  intro H q
  refine jD (Z := fun _ => True) hm hA hlen (fun l hl => absurd hl (aF l)) ?_
  rw [dA]
  refine bZ (fun e s he => ?_) (h q)
  obtain ⟨he, x, hx, hf⟩ := he
  refine ⟨he, x, hx, ?_, fun l o h => by simp [upd] at h⟩
  have : (fun l => True ∧ upd s.ov (fun _ => none) l ≠ none) = fun l => upd s.ov (fun _ => (none : Option AO)) l ≠ none := by funext l; simp
  rw [this]; exact hf
end
end Go.Proofs.Ytigjoggpaamodaa
/-! The abstract machine: what is owed at each step, as one formula that can be reckoned out. -/
namespace Go.Proofs.Ytigjoggpaamodaa
set_option linter.unusedVariables false
set_option linter.unusedSimpArgs false

abbrev KF := AV → aB → List Lab → Option (List Lab) → Prop
def e7 : aQ := fun _ _ _ _ => none
def dH (op : BinOp) (c : Cls) (x y : AV) (K : AV → Prop) : Prop := ∃ z, dP op c x y = some z ∧ K z
def sC (x : AV) (K : AV → Prop) : Prop := match x with
  | .bool b => K (.bool (!b))
  | _ => False
def q4 (c x y : AV) (K : AV → Prop) : Prop := match c with
  | .bool true => K x
  | .bool false => K y
  | _ => False
def iS (x : AV) (K : AV → Prop) : Prop := ∃ n, x.len = some n ∧ K (.int .i64 (n : Int))
def vIx (e : Nat) (s i : AV) (K : AV → Prop) : Prop := ∃ z, cD e s i = some z ∧ K z
def vFA (off : Nat) (x : AV) (K : AV → Prop) : Prop := ∃ z, cE off x = some z ∧ K z
def uO (off n : Nat) (agg : Bool) (x : AV) (K : AV → Prop) : Prop := match x with
  | .agg cs => off + n ≤ cs.length ∧ ∃ z, aG agg ((cs.drop off).take n) = some z ∧ K z
  | _ => False
def pO (i : Nat) (x : AV) (K : AV → Prop) : Prop := match x with
  | .tuple vs => ∃ z, vs[i]? = some z ∧ K z
  | _ => False
def oP (x : AV) (K : AV → Prop) : Prop := x.nonNil = true ∧ K x
def s6 (x y : AV) (K : AV → Prop) : Prop := match x, y with
  | .int k a, .int k' b => k = k' ∧ K (.int k (Min.min a b))
  | _, _ => False
def s7 (x y : AV) (K : AV → Prop) : Prop := match x, y with
  | .int k a, .int k' b => k = k' ∧ K (.int k (Max.max a b))
  | _, _ => False
def gH (z : List AV) (ps : List (Nat × Nat)) (xs : List AV) (K : AV → Prop) : Prop := ∃ cs, cA z ps xs = some cs ∧ K (.agg cs)
def fK (e : Nat) (z : List AV) (ps : List (Nat × Nat)) (xs : List AV) (K : List (List AV) → Nat → Prop) : Prop := ∃ cs, cA z ps xs = some cs ∧ (e ≠ 0 ∧ cs.length % e = 0 ∧ cs.all AV.one = true) ∧ K (bF e (cs.length / e) cs) (cs.length / e)
def qT (x : AV) (K : List AV → Prop) : Prop := x.cells.all AV.one = true ∧ K x.cells
def bA (n : Nat) (agg : Bool) (x : AV) (H : aB) (K : AV → Option (List Lab) → Prop) : Prop := ∃ r, aZ n agg x H [] = some r ∧ K r.x r.foot
def bO (k : AK) (xs : List AV) (H : aB) (q : Lab) (K : KF) : Prop := ∃ r, aop e7 k xs H q = some r ∧ K r.x (upd r.u H) (r.u.map (·.1)) r.foot
/-- a call; where operations stand in the order of the text, its outcome may be left open -/
def dS (s : Bool) (P : Program) (f : Nat) (xs : List AV) (H : aB) (q : Lab) (K : KF) : Prop := (∃ r, aK P f xs H q r ∧ K r.x (upd r.u H) (r.u.map (·.1)) r.foot) ∨ (s = true ∧ ∃ Φ, SoundE P f xs H q Φ ∧ ∀ x u, Φ x u → K x (upd u H) (u.map (·.1)) none)
def vop (P : Program) (k : AK) (xs : List AV) (H : aB) (q : Lab) (K : KF) : Prop := match k, xs with
  | .move, [x] => K x H [] (some [])
  | .pick, [c, x, y] => q4 c x y fun z => K z H [] (some [])
  | .bin op c, [x, y] => dH op c x y fun z => K z H [] (some [])
  | .un .not, [x] => sC x fun z => K z H [] (some [])
  | .len .slice, [x] => iS x fun z => K z H [] (some [])
  | .indexAddr e, [x, y] => vIx e x y fun z => K z H [] (some [])
  | .fieldAddr off, [x] => vFA off x fun z => K z H [] (some [])
  | .field off n agg, [x] => uO off n agg x fun z => K z H [] (some [])
  | .extract i, [x] => pO i x fun z => K z H [] (some [])
  | .nilCheck, [x] => oP x fun z => K z H [] (some [])
  | .min, [x, y] => s6 x y fun z => K z H [] (some [])
  | .max, [x, y] => s7 x y fun z => K z H [] (some [])
  | .build z ps, xs => gH z ps xs fun x => K x H [] (some [])
  | .buildSlice e z ps, xs => fK e z ps xs fun rows n => K (.sl q e 0 n) (upd [(q, some (.rows e rows))] H) [q] (some [])
  | .alloc z, [] => K (.ptr q z.length 0 0) (upd [(q, some (.rows z.length [z]))] H) [q] (some [])
  | .box, [x] => qT x fun cs => K (.ptr q cs.length 0 0) (upd [(q, some (.rows cs.length [cs]))] H) [q] (some [])
  | .load n agg, [x] => bA n agg x H fun z foot => K z H [] foot
  | .mkfn f nf, xs => match decide (nf ≤ xs.length) with
    | true => K (.fn f (xs.take nf) (xs.drop nf)) H [] (some [])
    | false => False
  | .call, .fn (.func f) first captured :: args => dS false P f (first ++ args ++ captured) H q K
  | k, xs => bO k xs H q K
/-- a slice that came in against none: whichever, if it is empty -/
def qS (x y : AV) (K : AV → Prop) : Prop := match x, y with
  | .isl _ rows, .nils => ∀ b : Bool, (rows ≠ [] → b = false) → K (.bool b)
  | x, y => dH .eql .slice x y K
/-- a map's next bR: whichever is left -/
def vNext (x : AV) (H : aB) (q : Lab) (K : KF) : Prop := (dop .mnext [x] H fun z u => K z (upd u H) (u.map (·.1)) none) ∨ bO .mnext [x] H q K
/-- a round of the caller's -/
def qR (P : Program) (y : Lab) (xs : List AV) (H : aB) (q : Lab) (K : KF) : Prop := ∃ Φ, SoundY P y xs H q Φ ∧ ∀ x u, Φ x u → K x (upd u H) (u.map (·.1)) none
/-- an operation in the order of the text -/
def qQ (P : Program) (k : AK) (xs : List AV) (H : aB) (q : Lab) (K : KF) : Prop := match k, xs with
  | .bin .eql .slice, [x, y] => qS x y fun z => K z H [] (some [])
  | .mnext, [x] => vNext x H q K
  | .call, .fn (.func f) first captured :: args => dS true P f (first ++ args ++ captured) H q K
  | .call, .yield y :: args => qR P y args H q K
  | k, xs => vop P k xs H q K
/-- a callee as it is taken -/
structure Entry where
  f : Nat
  xs : List AV
  H : aB
  q : Lab
  r : Res
def Agrees (call : aQ) (E : List Entry) : Prop := ∀ e ∈ E, call e.f e.xs e.H e.q = some e.r
def EOk (P : Program) (p : Lab) (c : Nat) (E : List Entry) : Prop := (∀ e ∈ E, aK P e.f e.xs e.H e.q e.r ∧ ∃ j, c ≤ j ∧ e.q = j :: p) ∧ E.Pairwise fun a b => a.q ≠ b.q
theorem aop_noCall {call : aQ} {k : AK} {xs : List AV} {H : aB} {q : Lab} {r : Res} (h : aop e7 k xs H q = some r) : aop call k xs H q = some r := by
  unfold aop at h
  split at h
  all_goals first
    | (cases h; done)
    | (simp only [aop]; exact h)
    | (unfold kS at h; split at h <;> simp [e7] at h; done)
theorem lG {P : Program} {k : AK} {xs : List AV} {H : aB} {q : Lab} {K : KF} (h : bO k xs H q K) : ∃ (E : List Entry) (r : Res), (∀ e ∈ E, aK P e.f e.xs e.H e.q e.r ∧ e.q = q) ∧ E.length ≤ 1 ∧ (∀ call, Agrees call E → aop call k xs H q = some r) ∧ K r.x (upd r.u H) (r.u.map (·.1)) r.foot := by
  obtain ⟨r, h1, h2⟩ := h
  exact ⟨[], r, by simp, by simp, fun call _ => aop_noCall h1, h2⟩
theorem bG {P : Program} {k : AK} {xs : List AV} {H : aB} {q : Lab} {K : KF} (r : Res) (h : ∀ call, aop call k xs H q = some r) (hk : K r.x (upd r.u H) (r.u.map (·.1)) r.foot) : ∃ (E : List Entry) (r : Res), (∀ e ∈ E, aK P e.f e.xs e.H e.q e.r ∧ e.q = q) ∧ E.length ≤ 1 ∧ (∀ call, Agrees call E → aop call k xs H q = some r) ∧ K r.x (upd r.u H) (r.u.map (·.1)) r.foot :=
  ⟨[], r, by simp, by simp, fun call _ => h call, hk⟩
theorem aLoad_u {n : Nat} {agg : Bool} {x : AV} {H : aB} {q : Lab} {r : Res} (h : aZ n agg x H q = some r) : r.u = [] := by
  unfold aZ at h
  split at h
  · split at h
    · split at h
      · simp only [Option.bind_eq_some_iff, Option.some.injEq] at h
        obtain ⟨_, _, _, _, rfl⟩ := h
        rfl
      · cases h
    · cases h
  · simp only [Option.bind_eq_some_iff, Option.some.injEq] at h
    obtain ⟨_, _, _, _, rfl⟩ := h
    rfl
  · cases h
theorem c6 {P : Program} {k : AK} {xs : List AV} {H : aB} {q : Lab} {K : KF} (h : vop P k xs H q K) : ∃ (E : List Entry) (r : Res), (∀ e ∈ E, aK P e.f e.xs e.H e.q e.r ∧ e.q = q) ∧ E.length ≤ 1 ∧ (∀ call, Agrees call E → aop call k xs H q = some r) ∧ K r.x (upd r.u H) (r.u.map (·.1)) r.foot := by
  unfold vop at h
  split at h
  · exact bG (.pure _) (fun _ => rfl) h
  · unfold q4 at h; split at h
    · exact bG (.pure _) (fun _ => rfl) h
    · exact bG (.pure _) (fun _ => rfl) h
    · exact h.elim
  · obtain ⟨z, h1, h2⟩ := h; exact bG (.pure z) (fun _ => by simp [aop, h1]) h2
  · unfold sC at h; split at h
    · exact bG (.pure _) (fun _ => rfl) h
    · exact h.elim
  · obtain ⟨z, h1, h2⟩ := h; refine bG (.pure _) (fun _ => ?_) h2; simp only [aop, qM, h1]; rfl
  · obtain ⟨z, h1, h2⟩ := h; exact bG (.pure z) (fun _ => by simp [aop, h1]) h2
  · obtain ⟨z, h1, h2⟩ := h; exact bG (.pure z) (fun _ => by simp [aop, h1]) h2
  · unfold uO at h; split at h
    · obtain ⟨h0, z, h1, h2⟩ := h; exact bG (.pure z) (fun _ => by simp [aop, h0, h1]) h2
    · exact h.elim
  · unfold pO at h; split at h
    · obtain ⟨z, h1, h2⟩ := h; exact bG (.pure z) (fun _ => by simp [aop, h1]) h2
    · exact h.elim
  · obtain ⟨h1, h2⟩ := h; exact bG (.pure _) (fun _ => by simp [aop, h1]) h2
  · unfold s6 at h; split at h
    · obtain ⟨rfl, h2⟩ := h; exact bG (.pure _) (fun _ => by simp [aop]) h2
    · exact h.elim
  · unfold s7 at h; split at h
    · obtain ⟨rfl, h2⟩ := h; exact bG (.pure _) (fun _ => by simp [aop]) h2
    · exact h.elim
  · obtain ⟨z, h1, h2⟩ := h; exact bG (.pure (.agg z)) (fun _ => by simp [aop, h1]) h2
  · rename_i e z ps
    obtain ⟨cs, h1, ⟨h2, h3, h4⟩, h5⟩ := h
    exact bG (kX e (bF e (cs.length / e) cs) (.sl q e 0 (cs.length / e)) q) (fun _ => by simp [aop, h1, h2, h3]; simpa using h4) h5
  · rename_i z
    exact bG (kX z.length [z] (.ptr q z.length 0 0) q) (fun _ => rfl) h
  · rename_i x
    obtain ⟨h1, h2⟩ := h
    exact bG (kX x.cells.length [x.cells] (.ptr q x.cells.length 0 0) q) (fun _ => by simp only [aop, h1, if_true]) h2
  · obtain ⟨r, h1, h2⟩ := h
    have hu := aLoad_u h1
    obtain ⟨x, u, foot⟩ := r
    simp only at hu
    subst hu
    exact bG ⟨x, [], foot⟩ (fun _ => h1) h2
  · split at h
    · rename_i f nf _ hd
      have hd' := of_decide_eq_true hd
      exact bG (.pure (.fn f _ _)) (fun _ => by simp only [aop, if_pos hd']) h
    · exact h.elim
  · rename_i f first captured args
    obtain ⟨r, h1, h2⟩ := h.resolve_right (fun h => by cases h.1)
    exact ⟨[⟨f, first ++ args ++ captured, H, q, r⟩], r, by simpa using h1, by simp, fun call hc => by simpa [aop, kS] using hc ⟨f, first ++ args ++ captured, H, q, r⟩ (by simp), h2⟩
  · exact lG h

abbrev aD := AEx → RL → aB → Nat → Prop
def cP (v : AV) (A B : Unit → Prop) : Prop := match v with
  | .bool true => A ()
  | .bool false => B ()
  | _ => False
def fB (r : RL) : List AArg → List AV
  | [] => []
  | .t n :: xs => (aI r n).getD .nilf :: fB r xs
  | .c v :: xs => v :: fB r xs
def dF (r : RL) : List AArg → Bool
  | [] => true
  | .t n :: xs => (aI r n).isSome && dF r xs
  | .c _ :: xs => dF r xs
theorem d5 {r : RL} : ∀ {xs : List AArg}, dF r xs = true → bJ r xs = some (fB r xs)
  | [], _ => rfl
  | .t n :: xs, h => by
    simp only [dF, Bool.and_eq_true] at h
    obtain ⟨v, hv⟩ := Option.isSome_iff_exists.1 h.1
    simp [bJ, c3, fB, hv, d5 h.2]
  | .c v :: xs, h => by
    simp only [dF] at h
    simp [bJ, c3, fB, d5 h]
/-- an operation of a drawn region: those that touch nothing are left out -/
def bT (j : Nat) (labs : List Lab) (q : Lab) (foot : Option (List Lab)) (ps : List (Nat × Tr)) : List (Nat × Tr) := match labs, foot with
  | [], some [] => ps
  | labs, foot => (j, ⟨labs, q, foot⟩) :: ps
def cU (masks : List Nat) (ps : List (Nat × Tr)) : Prop := ∀ a ∈ ps, ∀ b ∈ ps, a.1 ≠ b.1 → bM masks a.1 b.1 = false → gT a.1 b.1 a.2 b.2 = false
theorem gS {masks : List Nat} {ps : List (Nat × Tr)} (h : (ps.all fun p => p.2.labs.isEmpty) = true) : cU masks ps := fun a ha b hb _ _ => by
  have := List.all_eq_true.1 h a ha
  simp only [List.isEmpty_iff] at this
  unfold gT
  rw [this]
  split <;> simp
def skip (d : Option Nat) (sk : List Nat) : List Nat := match d with
  | none => sk
  | some t => t :: sk
def gI (d : Option Nat) (sk : List Nat) : List Nat := match d with
  | none => sk
  | some t => sk.filter fun k => !(k == t)
section
variable (P : Program) (p : Lab)
/-- operations one behind the other -/
def kV : List AIns → List Nat → RL → aB → Nat → (RL → aB → Nat → Prop) → Prop
  | [], _, r, H, c, K => K r H c
  | i :: is, sk, r, H, c, K => match i.guard with
    | none => match dF r i.xs with
      | true => qQ P i.k (fB r i.xs) H (c :: p) fun x H' _ _ => kV is (gI i.dst sk) (aW r i.dst x) H' (c + 1) K
      | false => False
    | some (g, want) => match sk.contains g with
      | true => kV is (skip i.dst sk) (aW r i.dst (.tuple [])) H (c + 1) K
      | false => match aI r g with
        | none => False
        | some v => match want with
          | true => cP v (fun _ => match dF r i.xs with
              | true => vop P i.k (fB (eY r g (.bool true)) i.xs) H (c :: p) fun x H' _ _ => kV is (gI i.dst sk) (aW (eY r g (.bool true)) i.dst x) H' (c + 1) K
              | false => False) (fun _ => kV is (skip i.dst sk) (aW (eY r g (.bool false)) i.dst (.tuple [])) H (c + 1) K)
          | false => cP v (fun _ => kV is (skip i.dst sk) (aW (eY r g (.bool true)) i.dst (.tuple [])) H (c + 1) K) (fun _ => match dF r i.xs with
              | true => vop P i.k (fB (eY r g (.bool false)) i.xs) H (c :: p) fun x H' _ _ => kV is (gI i.dst sk) (aW (eY r g (.bool false)) i.dst x) H' (c + 1) K
              | false => False)
/-- and what the check of a drawn order looks at -/
def lA : Nat → List AIns → List Nat → RL → aB → Nat → (List (Nat × Tr) → RL → aB → Nat → Prop) → Prop
  | _, [], _, r, H, c, K => K [] r H c
  | j, i :: is, sk, r, H, c, K => match i.guard with
    | none => match dF r i.xs with
      | true => vop P i.k (fB r i.xs) H (c :: p) fun x H' labs foot => lA (j + 1) is (gI i.dst sk) (aW r i.dst x) H' (c + 1) fun ps => K (bT j labs (c :: p) foot ps)
      | false => False
    | some (g, want) => match sk.contains g with
      | true => lA (j + 1) is (skip i.dst sk) (aW r i.dst (.tuple [])) H (c + 1) K
      | false => match aI r g with
        | none => False
        | some v => match want with
          | true => cP v (fun _ => match dF r i.xs with
              | true => vop P i.k (fB (eY r g (.bool true)) i.xs) H (c :: p) fun x H' labs foot => lA (j + 1) is (gI i.dst sk) (aW (eY r g (.bool true)) i.dst x) H' (c + 1) fun ps => K (bT j labs (c :: p) foot ps)
              | false => False) (fun _ => lA (j + 1) is (skip i.dst sk) (aW (eY r g (.bool false)) i.dst (.tuple [])) H (c + 1) K)
          | false => cP v (fun _ => lA (j + 1) is (skip i.dst sk) (aW (eY r g (.bool true)) i.dst (.tuple [])) H (c + 1) K) (fun _ => match dF r i.xs with
              | true => vop P i.k (fB (eY r g (.bool false)) i.xs) H (c :: p) fun x H' labs foot => lA (j + 1) is (gI i.dst sk) (aW (eY r g (.bool false)) i.dst x) H' (c + 1) fun ps => K (bT j labs (c :: p) foot ps)
              | false => False)
def dR (k : RL → aB → Nat → Prop) (Q : aD) : aD := fun e r H c => match e with
  | .normal => k r H c
  | e => Q e r H c
def fH (id : Nat) (Q : aD) : aD := fun e r H c => match e with
  | .exit k => if k = id then Q .normal r H c else Q (.exit k) r H c
  | e => Q e r H c
def jS (keep : List Nat) (I : Nat → RL → aB → Nat → Prop) (n : Nat) (Q : aD) : aD := fun e r H c => match e with
  | .normal => ∃ n', n' < n ∧ I n' (restrict r keep) H c
  | e => Q e r H c
def vgotoQ (l : Nat) (I : Nat → RL → aB → Nat → Prop) (Q : aD) : aD := fun e r H c => match e with
  | .goto k => k = l ∧ ∃ n, I n r H c
  | e => Q e r H c
def vagainQ (l : Nat) (I : Nat → RL → aB → Nat → Prop) (n : Nat) (Q : aD) : aD := fun e r H c => match e with
  | .goto k => k = l ∧ ∃ n', n' < n ∧ I n' r H c
  | e => Q e r H c
/-- where a drawn region's late calls begin -/
def gP : List AIns → Nat → Option Nat
  | [], _ => none
  | i :: is, j => match i.guard, i.k, i.xs with
    | none, .call, .t _ :: _ => some j
    | _, _, _ => gP is (j + 1)
def sQ (ops : List AIns) (masks : List Nat) : Option Nat := match gP ops 0 with
  | some k => if l3 masks k ops.length then some k else none
  | none => none
def g9 (ps : List (Nat × Tr)) : Prop := (ps.all fun t => t.2.labs.isEmpty) = true
end
/-- what is known of the eB of a loop, by formulas -/
def RoundsV (P : Program) (fa fb : Lab → aD → RL → aB → Nat → Prop) (ps : List Nat) (y : Lab) (lr : Loop) (regs : RL) : Prop := ∀ (G : aB) (q : Lab) (xs : List AV) (Ψ : aD), G y = none → xs.length = ps.length →
  ((∀ l, Under q l → G l = none) → ¬ Under q y → fa q (dR (fun r H c => fb q Ψ r H c) (fun _ _ _ _ => False)) (lR ps xs regs) G 0) →
  SoundY P y xs (upd [(y, some (.loop lr regs))] G) q (fun v u => ∃ e r' H' c', Ψ e r' H' c' ∧ v = .bool (decide (e = .normal)) ∧ upd u (upd [(y, some (.loop lr regs))] G) = upd [(y, some (.loop (after lr e) regs))] H' ∧ H' y = none)
def vc (P : Program) (p : Lab) : ACode → aD → RL → aB → Nat → Prop
  | .skip, Q, r, H, c => Q .normal r H c
  | .region ops none keep, Q, r, H, c => kV P p ops [] r H c fun r' H' c' => Q .normal (restrict r' keep) H' c'
  | .region ops (some masks) keep, Q, r, H, c => match sQ ops masks with
    | none => lA P p 0 ops [] r H c fun ps r' H' c' => cU masks ps ∧ Q .normal (restrict r' keep) H' c'
    | some k => lA P p 0 (ops.take k) [] r H c fun ps r' H' c' => g9 ps ∧ kV P p (ops.drop k) [] r' H' c' fun r' H' c' => Q .normal (restrict r' keep) H' c'
  | .seq a b, Q, r, H, c => vc P p a (dR (vc P p b Q) Q) r H c
  | .cond x t e, Q, r, H, c => match c3 r x with
    | some v => cP v (fun _ => vc P p t Q r H c) (fun _ => vc P p e Q r H c)
    | none => False
  | .block id b, Q, r, H, c => vc P p b (fH id Q) r H c
  | .loop keep b, Q, r, H, c => ∃ (I : Nat → RL → aB → Nat → Prop) (n : Nat), I n (restrict r keep) H c ∧ ∀ n r H c, I n r H c → vc P p b (jS keep I n Q) r H c
  | .exit id, Q, r, H, c => Q (.exit id) r H c
  | .ret, Q, r, H, c => Q .ret r H c
  | .label _, Q, r, H, c => Q .normal r H c
  | .goto l, Q, r, H, c => Q (.goto l) r H c
  | .scope l b a, Q, r, H, c => ∃ (I : Nat → RL → aB → Nat → Prop), vc P p b (vgotoQ l I Q) r H c ∧ ∀ n r H c, I n r H c → vc P p a (vagainQ l I n Q) r H c
  | .rangeF g ps asg b, Q, r, H, c => ∃ gf caps, c3 r g = some (.fn (.func gf) [] caps) ∧ ∃ Φ : Loop → AV → Chg → Prop,
      (∀ lr, kU lr → RoundsV P (fun q => vc P q asg) (fun q => vc P q b) ps (0 :: c :: p) lr r → SoundE P gf (.yield (0 :: c :: p) :: caps) (upd [(0 :: c :: p, some (.loop lr r))] H) (1 :: c :: p) (Φ lr)) ∧
      ∀ lr x u, kU lr → Φ lr x u → ∃ e, upd u (upd [(0 :: c :: p, some (.loop lr r))] H) (0 :: c :: p) = some (.loop (after lr e) r) ∧ Q e r (upd ((0 :: c :: p, none) :: u) H) (c + 1)
  | .bad, _, _, _, _ => False
section
variable {P : Program} {H0 : aB} {p : Lab}
theorem fA {v : AV} {A B : Unit → Prop} (h : cP v A B) : (v = .bool true ∧ A ()) ∨ (v = .bool false ∧ B ()) := by
  unfold cP at h
  split at h
  · exact .inl ⟨rfl, h⟩
  · exact .inr ⟨rfl, h⟩
  · exact h.elim
theorem cI : ∀ {r : RL} {g : Nat} {x : AV}, aI r g = some x → eY r g x = r
  | [], _, _, h => by simp [aI] at h
  | (k, y) :: r, g, x, h => by
    simp only [aI] at h
    simp only [eY]
    split at h
    · rename_i e; subst e; simp at h; simp [h]
    · rename_i e; simp [e, cI h]
def SkOk (sk : List Nat) (r : RL) : Prop := ∀ g ∈ sk, aI r g = some (.tuple [])
theorem SkOk.put {sk : List Nat} {r : RL} (h : SkOk sk r) {d : Option Nat} {x : AV} : SkOk (gI d sk) (aW r d x) := by
  cases d with
  | none => exact h
  | some t =>
    intro g hg
    simp only [gI, List.mem_filter, Bool.not_eq_true', beq_eq_false_iff_ne] at hg
    simp only [aW, cS, if_neg hg.2]
    exact h g hg.1
theorem SkOk.skip {sk : List Nat} {r : RL} (h : SkOk sk r) {d : Option Nat} : SkOk (Ytigjoggpaamodaa.skip d sk) (aW r d (.tuple [])) := by
  cases d with
  | none => exact h
  | some t =>
    intro g hg
    simp only [aW, cS]
    by_cases e : g = t
    · rw [if_pos e]
    · rw [if_neg e]
      simp only [Ytigjoggpaamodaa.skip, List.mem_cons] at hg
      exact h g (by simpa [e] using hg)
theorem SkOk.nil {r : RL} : SkOk [] r := fun g hg => by cases hg
theorem EOk.nil {c : Nat} : EOk P p c [] := ⟨by simp, by simp⟩
theorem EOk.add {c : Nat} {E F : List Entry} (hE : ∀ e ∈ E, aK P e.f e.xs e.H e.q e.r ∧ e.q = c :: p) (hl : E.length ≤ 1) (hF : EOk P p (c + 1) F) : EOk P p c (E ++ F) := by
  refine ⟨fun e he => ?_, ?_⟩
  · rcases List.mem_append.1 he with h | h
    · exact ⟨(hE e h).1, c, Nat.le_refl _, (hE e h).2⟩
    · obtain ⟨h1, j, hj, h2⟩ := hF.1 e h
      exact ⟨h1, j, by omega, h2⟩
  · rw [List.pairwise_append]
    refine ⟨?_, hF.2, fun a ha b hb e => ?_⟩
    · match E, hl with
      | [], _ => exact .nil
      | [x], _ => simp
      | _ :: _ :: _, hl => simp at hl
    · obtain ⟨_, j, hj, h2⟩ := hF.1 b hb
      rw [(hE a ha).2, h2] at e
      simp at e; omega
theorem mP {call : aQ} {i : AIns} {r : RL} {ov : Chg} {c : Nat} {res : Res} (hg : i.guard = none) (ha : dF r i.xs = true) (h : aop call i.k (fB r i.xs) (upd ov H0) (c :: p) = some res) : aN call H0 p i ⟨r, ov, c⟩ = some ⟨false, res.x, res.u, c :: p, res.foot⟩ := by
  simp only [aN, hg, cV, d5 ha, Option.bind_some, h]
theorem hZ {call : aQ} {i : AIns} {r : RL} {ov : Chg} {c : Nat} {res : Res} {g : Nat} {want : Bool} (hg : i.guard = some (g, want)) (hb : aI r g = some (.bool want)) (ha : dF r i.xs = true) (h : aop call i.k (fB r i.xs) (upd ov H0) (c :: p) = some res) : aN call H0 p i ⟨r, ov, c⟩ = some ⟨false, res.x, res.u, c :: p, res.foot⟩ := by
  simp only [aN, hg, hb, if_true, cV, d5 ha, Option.bind_some, h]
theorem fS {call : aQ} {i : AIns} {r : RL} {ov : Chg} {c : Nat} {g : Nat} {want b : Bool} (hg : i.guard = some (g, want)) (hb : aI r g = some (.bool b)) (hne : b ≠ want) : aN call H0 p i ⟨r, ov, c⟩ = some ⟨true, .tuple [], [], c :: p, some []⟩ := by
  simp only [aN, hg, hb, if_neg hne]
theorem kK {call : aQ} {i : AIns} {r : RL} {ov : Chg} {c : Nat} {g : Nat} {want : Bool} (hg : i.guard = some (g, want)) (hb : aI r g = some (.tuple [])) : aN call H0 p i ⟨r, ov, c⟩ = some ⟨true, .tuple [], [], c :: p, some []⟩ := by
  simp only [aN, hg, hb]
theorem Agrees.left {call : aQ} {E F : List Entry} (h : Agrees call (E ++ F)) : Agrees call E := fun e he => h e (by simp [he])
theorem Agrees.right {call : aQ} {E F : List Entry} (h : Agrees call (E ++ F)) : Agrees call F := fun e he => h e (by simp [he])
def PsOk (j : Nat) (ps : List (Nat × Tr)) (trs : List Tr) : Prop := ∀ (i : Nat) tr, trs[i]? = some tr → (tr.labs = [] ∧ tr.foot = some []) ∨ (j + i, tr) ∈ ps
theorem PsOk.nil {j : Nat} : PsOk j [] [] := fun i tr h => by simp at h
theorem PsOk.add {j : Nat} {ps : List (Nat × Tr)} {trs : List Tr} {labs : List Lab} {q : Lab} {foot : Option (List Lab)} (h : PsOk (j + 1) ps trs) : PsOk j (bT j labs q foot ps) (⟨labs, q, foot⟩ :: trs) := fun i tr hi => by
  cases i with
  | zero =>
    simp only [List.getElem?_cons_zero, Option.some.injEq] at hi
    subst hi
    unfold bT
    split
    · exact .inl ⟨rfl, rfl⟩
    · exact .inr (by simp)
  | succ i =>
    rcases h i tr (by simpa using hi) with h1 | h1
    · exact .inl h1
    · right
      rw [show j + (i + 1) = j + 1 + i by omega]
      unfold bT
      split
      · exact h1
      · exact List.mem_cons_of_mem _ h1
theorem kM {masks : List Nat} {i : Nat} {a : Tr} : ∀ {trs : List Tr} {k : Nat}, (∀ (m : Nat) b, trs[m]? = some b → i ≠ k + m → bM masks i (k + m) = false → gT i (k + m) a b = false) → eF masks i a trs k = false
  | [], k, _ => rfl
  | b :: trs, k, h => by
    simp only [eF, Bool.or_eq_false_iff]
    refine ⟨?_, kM fun m b hb hi ho => ?_⟩
    · by_cases hi : i = k
      · simp [hi]
      · cases ho : bM masks i k
        · have := h 0 b rfl (by simpa using hi) (by simpa using ho)
          simp at this
          simp [this]
        · simp
    · have := h (m + 1) b (by simpa using hb) (by omega) (by rw [show k + (m + 1) = k + 1 + m by omega]; exact ho)
      rw [show k + (m + 1) = k + 1 + m by omega] at this
      exact this
theorem kN {masks : List Nat} {all : List Tr} : ∀ {trs : List Tr} {k : Nat}, (∀ (m : Nat) a, trs[m]? = some a → a.labs ≠ [] → eF masks (k + m) a all 0 = false) → cX masks all trs k = false
  | [], k, _ => rfl
  | a :: trs, k, h => by
    simp only [cX, Bool.or_eq_false_iff]
    refine ⟨?_, kN fun m b hb hl => ?_⟩
    · cases hl : a.labs with
      | nil => simp
      | cons x y => simp; have := h 0 a rfl (by simp [hl]); simpa using this
    · have := h (m + 1) b (by simpa using hb) hl
      rw [show k + (m + 1) = k + 1 + m by omega] at this
      exact this
theorem clash_of {masks : List Nat} {ps : List (Nat × Tr)} {trs : List Tr} (h : PsOk 0 ps trs) (hc : cU masks ps) : cX masks trs trs 0 = false := kN fun m a ha hl => kM fun n b hb hi ho => by
  simp only [Nat.zero_add] at hi ho ⊢
  rcases h m a ha with h1 | h1
  · exact absurd h1.1 hl
  · rcases h n b hb with h2 | h2
    · simp [gT, h2.2]
    · simp only [Nat.zero_add] at h1 h2
      exact hc _ h1 _ h2 hi ho
theorem iR : ∀ {j : Nat} {is : List AIns} {sk : List Nat} {r : RL} {ov : Chg} {c : Nat} {K : List (Nat × Tr) → RL → aB → Nat → Prop}, SkOk sk r → lA P p j is sk r (upd ov H0) c K → ∃ E, EOk P p c E ∧ ∃ s' trs ps, PsOk j ps trs ∧ (∀ call, Agrees call E → eO call H0 p is ⟨r, ov, c⟩ = some (s', trs)) ∧ K ps s'.regs (upd s'.ov H0) s'.c
  | j, [], sk, r, ov, c, K, _, h => ⟨[], .nil, ⟨r, ov, c⟩, [], [], .nil, fun _ _ => rfl, h⟩
  | j, i :: is, sk, r, ov, c, K, hsk, h => by
    have go : ∀ {c' : Nat} {x : AV} {u : Chg} {labs : List Lab} {foot : Option (List Lab)} {sk' : List Nat}, labs = u.map (·.1) → c' = c + 1 → SkOk sk' (aW r i.dst x) → lA P p (j + 1) is sk' (aW r i.dst x) (upd u (upd ov H0)) c' (fun ps => K (bT j labs (c :: p) foot ps)) → ∀ E0, (∀ e ∈ E0, aK P e.f e.xs e.H e.q e.r ∧ e.q = c :: p) → E0.length ≤ 1 → ∀ sk, (∀ call, Agrees call E0 → aN call H0 p i ⟨r, ov, c⟩ = some ⟨sk, x, u, c :: p, foot⟩) →
        ∃ E, EOk P p c E ∧ ∃ s' trs ps, PsOk j ps trs ∧ (∀ call, Agrees call E → eO call H0 p (i :: is) ⟨r, ov, c⟩ = some (s', trs)) ∧ K ps s'.regs (upd s'.ov H0) s'.c := by
      intro c' x u labs foot sk' hlabs hc' hs hv E0 hE hl sk hev
      subst hc'
      rw [← aX] at hv
      obtain ⟨F, hF, s', trs, ps, hps, h1, h2⟩ := iR hs hv
      refine ⟨E0 ++ F, .add hE hl hF, s', ⟨labs, c :: p, foot⟩ :: trs, _, hps.add, fun call hc => ?_, h2⟩
      simp only [eO, hev call hc.left, Option.bind_some, aO, kW]
      rw [h1 call hc.right, hlabs]
      rfl
    unfold lA at h
    split at h
    · rename_i hg
      split at h
      · rename_i ha
        obtain ⟨E, res, hE, hl, hrun, hK⟩ := c6 h
        exact go rfl rfl hsk.put hK E hE hl false (fun call hc => mP hg ha (hrun call hc))
      · exact h.elim
    · rename_i g want hg
      split at h
      · rename_i hgs
        have hb := hsk g (by simpa using hgs)
        exact go (u := []) (labs := []) (foot := some []) rfl rfl hsk.skip h [] (by simp) (by simp) true (fun call _ => kK hg hb)
      · split at h
        · exact h.elim
        · rename_i v hv
          split at h
          · replace h := fA h
            rcases h with ⟨rfl, h⟩ | ⟨rfl, h⟩
            · rw [cI hv] at h
              split at h
              · rename_i ha
                obtain ⟨E, res, hE, hl, hrun, hK⟩ := c6 h
                exact go rfl rfl hsk.put hK E hE hl false (fun call hc => hZ hg hv ha (hrun call hc))
              · exact h.elim
            · rw [cI hv] at h
              exact go (u := []) (labs := []) (foot := some []) rfl rfl hsk.skip h [] (by simp) (by simp) true (fun call _ => fS hg hv (by simp))
          · replace h := fA h
            rcases h with ⟨rfl, h⟩ | ⟨rfl, h⟩
            · rw [cI hv] at h
              exact go (u := []) (labs := []) (foot := some []) rfl rfl hsk.skip h [] (by simp) (by simp) true (fun call _ => fS hg hv (by simp))
            · rw [cI hv] at h
              split at h
              · rename_i ha
                obtain ⟨E, res, hE, hl, hrun, hK⟩ := c6 h
                exact go rfl rfl hsk.put hK E hE hl false (fun call hc => hZ hg hv ha (hrun call hc))
              · exact h.elim
/-- one table of callees for a region -/
noncomputable def tabCall (E : List Entry) : aQ := fun f xs H q => (E.find? fun e => @decide (e.f = f ∧ e.xs = xs ∧ e.H = H ∧ e.q = q) (Classical.propDecidable _)).map (·.r)
theorem sD {c : Nat} {E : List Entry} (h : EOk P p c E) : aY P (tabCall E) := fun f xs H q r hr => by
  unfold tabCall at hr
  simp only [Option.map_eq_some_iff] at hr
  obtain ⟨e, he, rfl⟩ := hr
  have h1 := List.find?_some he
  have h2 := List.mem_of_find?_eq_some he
  simp only [decide_eq_true_eq] at h1
  obtain ⟨rfl, rfl, rfl, rfl⟩ := h1
  exact (h.1 e h2).1
theorem j1 : ∀ {E : List Entry} {e e' : Entry}, (E.Pairwise fun a b => a.q ≠ b.q) → e ∈ E → e' ∈ E → e'.q = e.q → e' = e
  | [], _, _, _, h, _, _ => by cases h
  | a :: E, e, e', hp, he, he', hq => by
    rw [List.pairwise_cons] at hp
    rcases List.mem_cons.1 he with h1 | h1
    · rcases List.mem_cons.1 he' with h2 | h2
      · rw [h1, h2]
      · exact absurd (h1 ▸ hq.symm) (hp.1 _ h2)
    · rcases List.mem_cons.1 he' with h2 | h2
      · exact absurd (h2 ▸ hq) (hp.1 _ h1)
      · exact j1 hp.2 h1 h2 hq
theorem lJ {c : Nat} {E : List Entry} (h : EOk P p c E) : Agrees (tabCall E) E := fun e he => by
  unfold tabCall
  have : ∃ e', E.find? (fun e' => @decide (e'.f = e.f ∧ e'.xs = e.xs ∧ e'.H = e.H ∧ e'.q = e.q) (Classical.propDecidable _)) = some e' := by
    cases hf : E.find? (fun e' => @decide (e'.f = e.f ∧ e'.xs = e.xs ∧ e'.H = e.H ∧ e'.q = e.q) (Classical.propDecidable _)) with
    | some e' => exact ⟨e', rfl⟩
    | none => have := List.find?_eq_none.1 hf e he; simp at this
  obtain ⟨e', he'⟩ := this
  have h1 := List.find?_some he'
  have h2 := List.mem_of_find?_eq_some he'
  simp only [decide_eq_true_eq] at h1
  have : e' = e := j1 h.2 he h2 h1.2.2.2
  rw [he', this]
  rfl
theorem vopS_sound {k : AK} {xs : List AV} {H : aB} {q : Lab} {K : KF} (h : qQ P k xs H q K) : (∃ (E : List Entry) (r : Res), (∀ e ∈ E, aK P e.f e.xs e.H e.q e.r ∧ e.q = q) ∧ E.length ≤ 1 ∧ (∀ call, Agrees call E → aop call k xs H q = some r) ∧ K r.x (upd r.u H) (r.u.map (·.1)) r.foot) ∨
    dop k xs H (fun x u => ∃ foot, K x (upd u H) (u.map (·.1)) foot) ∨ (k = .call ∧ ∃ f first captured args, xs = .fn (.func f) first captured :: args ∧ ∃ Φ, SoundE P f (first ++ args ++ captured) H q Φ ∧ ∀ x u, Φ x u → ∃ foot, K x (upd u H) (u.map (·.1)) foot) ∨
    (k = .call ∧ ∃ y args, xs = .yield y :: args ∧ ∃ Φ, SoundY P y args H q Φ ∧ ∀ x u, Φ x u → ∃ foot, K x (upd u H) (u.map (·.1)) foot) := by
  unfold qQ at h
  split at h
  · unfold qS at h
    split at h
    · exact .inr (.inl (fun b hb => ⟨_, h b hb⟩))
    · exact .inl (c6 (k := .bin .eql .slice) h)
  · rcases h with h | h
    · exact .inr (.inl (jN (fun x u hk => ⟨_, hk⟩) h))
    · exact .inl (lG h)
  · rename_i f first captured args
    rcases h with ⟨r, h1, h2⟩ | ⟨_, Φ, h1, h2⟩
    · exact .inl ⟨[⟨f, first ++ args ++ captured, H, q, r⟩], r, by simpa using h1, by simp, fun call hc => by simpa [aop, kS] using hc ⟨f, first ++ args ++ captured, H, q, r⟩ (by simp), h2⟩
    · exact .inr (.inr (.inl ⟨rfl, f, first, captured, args, rfl, Φ, h1, fun x u hx => ⟨_, h2 x u hx⟩⟩))
  · rename_i y args
    obtain ⟨Φ, h1, h2⟩ := h
    exact .inr (.inr (.inr ⟨rfl, y, args, rfl, Φ, h1, fun x u hx => ⟨_, h2 x u hx⟩⟩))
  · exact .inl (c6 h)
theorem oW {q : Lab} {E : List Entry} (h : ∀ e ∈ E, aK P e.f e.xs e.H e.q e.r ∧ e.q = q) (hl : E.length ≤ 1) : aY P (tabCall E) ∧ Agrees (tabCall E) E := by
  have hp : E.Pairwise fun a b => a.q ≠ b.q := by
    match E, hl with
    | [], _ => exact .nil
    | [x], _ => simp
    | _ :: _ :: _, hl => simp at hl
  refine ⟨fun f xs H q' r hr => ?_, fun e he => ?_⟩
  · unfold tabCall at hr
    simp only [Option.map_eq_some_iff] at hr
    obtain ⟨e, he, rfl⟩ := hr
    have h1 := List.find?_some he
    have h2 := List.mem_of_find?_eq_some he
    simp only [decide_eq_true_eq] at h1
    obtain ⟨rfl, rfl, rfl, rfl⟩ := h1
    exact (h e h2).1
  · unfold tabCall
    cases hf : E.find? (fun e' => @decide (e'.f = e.f ∧ e'.xs = e.xs ∧ e'.H = e.H ∧ e'.q = e.q) (Classical.propDecidable _)) with
    | none => have := List.find?_eq_none.1 hf e he; simp at this
    | some e' =>
      have h1 := List.find?_some hf
      have h2 := List.mem_of_find?_eq_some hf
      simp only [decide_eq_true_eq] at h1
      rw [j1 hp he h2 h1.2.2.2]
      rfl
theorem iQ : ∀ {is : List AIns} {sk : List Nat} {r : RL} {ov : Chg} {c : Nat} {K : RL → aB → Nat → Prop}, SkOk sk r → kV P p is sk r (upd ov H0) c K → i5 P H0 p is ⟨r, ov, c⟩ fun s' => K s'.regs (upd s'.ov H0) s'.c
  | [], sk, r, ov, c, K, _, h => h
  | i :: is, sk, r, ov, c, K, hsk, h => by
    have fin : ∀ {x : AV} {u : Chg} {sk' : List Nat}, SkOk sk' (aW r i.dst x) → kV P p is sk' (aW r i.dst x) (upd u (upd ov H0)) (c + 1) K → ∀ q foot b, i5 P H0 p is (aO i ⟨r, ov, c⟩ ⟨b, x, u, q, foot⟩) fun s' => K s'.regs (upd s'.ov H0) s'.c := by
      intro x u sk' hs hv q foot b
      rw [← aX] at hv
      exact iQ hs hv
    have skp : ∀ {b : Bool}, (∀ call, aN call H0 p i ⟨r, ov, c⟩ = some ⟨true, .tuple [], [], c :: p, some []⟩) → kV P p is (skip i.dst sk) (aW r i.dst (.tuple [])) (upd ov H0) (c + 1) K → i5 P H0 p (i :: is) ⟨r, ov, c⟩ fun s' => K s'.regs (upd s'.ov H0) s'.c := fun {b} hev hv =>
      .inl ⟨tabCall [], (oW (q := c :: p) (by simp) (by simp)).1, _, hev _, fin (u := []) hsk.skip hv _ _ _⟩
    unfold kV at h
    split at h
    · rename_i hg
      split at h
      · rename_i ha
        rcases vopS_sound h with ⟨E, res, hE, hl, hrun, hK⟩ | hd | ⟨hkc, f, first, captured, args, hxs, Φ, hE, hK⟩ | ⟨hkc, y, args, hxs, Φ, hE, hK⟩
        · obtain ⟨h1, h2⟩ := oW hE hl
          exact .inl ⟨tabCall E, h1, _, mP hg ha (hrun _ h2), fin hsk.put hK _ _ _⟩
        · refine .inr (.inl ⟨hg, _, d5 ha, jN (fun x u hk => ?_) hd⟩)
          obtain ⟨foot, hk⟩ := hk
          exact fin hsk.put hk _ _ _
        · refine .inr (.inr (.inl ⟨hg, hkc, f, first, captured, args, by rw [← hxs]; exact d5 ha, Φ, hE, fun x u hx => ?_⟩))
          obtain ⟨foot, hk⟩ := hK x u hx
          exact fin hsk.put hk _ _ _
        · refine .inr (.inr (.inr ⟨hg, hkc, y, args, by rw [← hxs]; exact d5 ha, Φ, hE, fun x u hx => ?_⟩))
          obtain ⟨foot, hk⟩ := hK x u hx
          exact fin hsk.put hk _ _ _
      · exact h.elim
    · rename_i g want hg
      split at h
      · rename_i hgs
        have hb := hsk g (by simpa using hgs)
        exact skp (b := true) (fun call => kK hg hb) h
      · split at h
        · exact h.elim
        · rename_i v hv
          split at h
          · replace h := fA h
            rcases h with ⟨rfl, h⟩ | ⟨rfl, h⟩
            · rw [cI hv] at h
              split at h
              · rename_i ha
                obtain ⟨E, res, hE, hl, hrun, hK⟩ := c6 h
                obtain ⟨h1, h2⟩ := oW hE hl
                exact .inl ⟨tabCall E, h1, _, hZ hg hv ha (hrun _ h2), fin hsk.put hK _ _ _⟩
              · exact h.elim
            · rw [cI hv] at h
              exact skp (b := true) (fun call => fS hg hv (by simp)) h
          · replace h := fA h
            rcases h with ⟨rfl, h⟩ | ⟨rfl, h⟩
            · rw [cI hv] at h
              exact skp (b := true) (fun call => fS hg hv (by simp)) h
            · rw [cI hv] at h
              split at h
              · rename_i ha
                obtain ⟨E, res, hE, hl, hrun, hK⟩ := c6 h
                obtain ⟨h1, h2⟩ := oW hE hl
                exact .inl ⟨tabCall E, h1, _, hZ hg hv ha (hrun _ h2), fin hsk.put hK _ _ _⟩
              · exact h.elim
def VQ (H0 : aB) (Q : aD) : a4 := fun e s => Q e s.regs (upd s.ov H0) s.c
theorem jK {b : ACode} {keep : List Nat} {Q : a4} : ∀ {m k : Nat} {s : ASt}, m ≤ k → eB (gwp P H0 p b) keep Q m s → eB (gwp P H0 p b) keep Q k s
  | 0, _, _, _, h => h.elim
  | m + 1, 0, _, hk, _ => by omega
  | m + 1, k + 1, s, hk, h => by
    refine bZ (fun e s' he => ?_) h
    cases e with
    | normal => exact jK (m := m) (k := k) (by omega) he
    | exit id => exact he
    | ret => exact he
    | goto l => exact he
theorem iI {b : ACode} {l : Nat} {Q : a4} : ∀ {m k : Nat} {s : ASt}, m ≤ k → cF (gwp P H0 p b) l Q m s → cF (gwp P H0 p b) l Q k s
  | 0, _, _, _, h => h.elim
  | m + 1, 0, _, hk, _ => by omega
  | m + 1, k + 1, s, hk, h => by
    refine bZ (fun e s' he => ?_) h
    cases e with
    | normal => exact he
    | exit id => exact he
    | ret => exact he
    | goto l => exact ⟨he.1, iI (m := m) (k := k) (by omega) he.2⟩
theorem kJ : ∀ {is : List AIns} {j k : Nat}, gP is j = some k → k ≤ j + is.length
  | [], j, k, h => by simp [gP] at h
  | i :: is, j, k, h => by
    unfold gP at h
    split at h
    · simp only [Option.some.injEq] at h; omega
    · have := kJ h; simp only [List.length_cons]; omega
theorem SoundY.mono {y : Lab} {xs : List AV} {H : aB} {q : Lab} {Φ Φ' : AV → Chg → Prop} (h : SoundY P y xs H q Φ) (hm : ∀ x u, Φ x u → Φ' x u) : SoundY P y xs H q Φ' := fun ρ R vs L hx hL w hR hf => by
  obtain ⟨fn, tmps, a, b, h1, h2⟩ := h ρ R vs L hx hL w hR hf
  refine ⟨fn, tmps, a, b, h1, RoundIn.mono h2 ?_⟩
  rintro e w' ⟨v, rfl, x, u, ρ', R', hΦ, h3⟩
  exact ⟨v, rfl, x, u, ρ', R', hm x u hΦ, h3⟩
theorem rD {call : aQ} : ∀ {is : List AIns} {s s' : ASt} {trs : List Tr}, eO call H0 p is s = some (s', trs) → (∀ tr ∈ trs, tr.labs = []) → oU call H0 p is s = some s'
  | [], s, s', trs, h, _ => by simp only [eO, Option.some.injEq, Prod.mk.injEq] at h; simp only [oU, h.1]
  | i :: is, s, s', trs, h, hq => by
    simp only [eO, Option.bind_eq_some_iff, Option.some.injEq, Prod.mk.injEq] at h
    obtain ⟨rc, h1, ⟨s2, trs2⟩, h2, rfl, rfl⟩ := h
    have hu : rc.u = [] := by have := hq (kW rc) (by simp); simpa [kW] using this
    simp only [oU, h1, Option.bind_some, hu, List.isEmpty_nil, if_true]
    exact rD h2 (fun tr ht => hq tr (by simp [ht]))
theorem lB {a : ACode} : ∀ {H0 : aB} {p : Lab} {Q : aD} {r : RL} {ov : Chg} {c : Nat}, vc P p a Q r (upd ov H0) c → gwp P H0 p a (VQ H0 Q) ⟨r, ov, c⟩ := by
  induction a with
  | skip => intro H0 p Q r ov c h; exact h
  | region ops draw keep =>
    intro H0 p Q r ov c h
    cases draw with
    | none =>
      exact fD (fun s1 hs1 => ⟨⟨restrict s1.regs keep, s1.ov, s1.c⟩, Weak.refl _ _ _, hs1⟩) (iQ .nil h)
    | some masks =>
      simp only [vc] at h
      split at h
      · obtain ⟨E, hE, s', trs, ps, hps, h1, h2, h3⟩ := iR .nil h
        exact .inl ⟨tabCall E, sD hE, _, by simp only [cH]; rw [h1 _ (lJ hE)]; simp only [Option.bind_some, clash_of hps h2]; rfl, ⟨restrict s'.regs keep, s'.ov, s'.c⟩, Weak.refl _ _ _, h3⟩
      · rename_i k hk
        unfold sQ at hk
        split at hk
        · split at hk
          · rename_i hlate
            simp only [Option.some.injEq] at hk
            subst hk
            obtain ⟨E, hE, s', trs, ps, hps, h1, h2, h3⟩ := iR .nil h
            have hkl := kJ (by assumption)
            refine .inr (.inr ⟨tabCall E, sD hE, _, s', by simpa using hkl, hlate, rD (h1 _ (lJ hE)) (fun tr ht => ?_), fD (fun s1 hs1 => ⟨⟨restrict s1.regs keep, s1.ov, s1.c⟩, Weak.refl _ _ _, hs1⟩) (iQ .nil h3)⟩)
            obtain ⟨i, hi⟩ := List.getElem?_of_mem ht
            rcases hps i tr hi with h4 | h4
            · exact h4.1
            · have := List.all_eq_true.1 h2 _ h4
              simpa using this
          · cases hk
        · cases hk
  | seq a b iha ihb =>
    intro H0 p Q r ov c h
    refine (show gwp P H0 p a (sE _ _) _ from bZ (fun e s he => ?_) (iha h))
    cases e with
    | normal => exact ihb he
    | exit id => exact he
    | ret => exact he
    | goto l => exact he
  | cond x t e iht ihe =>
    intro H0 p Q r ov c h
    simp only [vc] at h
    split at h
    · rename_i v hv
      rcases fA h with ⟨rfl, h'⟩ | ⟨rfl, h'⟩
      · simp only [gwp, hv, if_true]; exact iht h'
      · simp only [gwp, hv, Bool.false_eq_true, if_false]; exact ihe h'
    · exact h.elim
  | block id b ih =>
    intro H0 p Q r ov c h
    refine (show gwp P H0 p b (eG _ _) _ from bZ (fun e s he => ?_) (ih h))
    cases e with
    | normal => exact he
    | exit k =>
      simp only [VQ, fH] at he
      simp only [eG]
      split at he
      · rename_i hk; rw [if_pos hk]; exact he
      · rename_i hk; rw [if_neg hk]; exact he
    | ret => exact he
    | goto l => exact he
  | loop keep b ih =>
    intro H0 p Q r ov c h
    obtain ⟨I, n, h0, hI⟩ := h
    have key : ∀ n r ov c, I n (restrict r keep) (upd ov H0) c → eB (gwp P H0 p b) keep (VQ H0 Q) (n + 1) ⟨r, ov, c⟩ := by
      intro n
      induction n using Nat.strongRecOn with
      | ind n ihn =>
        intro r ov c hn
        refine bZ (fun e s he => ?_) (ih (hI n _ _ c hn))
        cases e with
        | normal =>
          obtain ⟨n', hlt, hn'⟩ := he
          exact jK (by omega) (ihn n' hlt s.regs s.ov s.c hn')
        | exit id => exact he
        | ret => exact he
        | goto l => exact he
    exact ⟨n + 1, key n r ov c h0⟩
  | exit id => intro H0 p Q r ov c h; exact h
  | ret => intro H0 p Q r ov c h; exact h
  | label l => intro H0 p Q r ov c h; exact h
  | goto l => intro H0 p Q r ov c h; exact h
  | bad => intro H0 p Q r ov c h; exact h.elim
  | rangeF g ps x y ihx ihy =>
    intro H0 p Q r ov c h
    obtain ⟨gf, caps, hg, Φ, hE, hQ⟩ := h
    refine ⟨gf, caps, hg, Φ, fun lr hr hR => hE lr hr fun G q xs Ψ hy hl hv => ?_, fun lr xv u hr hx => ?_⟩
    · have h2 := hR G q xs (VQ G Ψ) hy hl (fun hf hq => bZ (fun e s he => by
        cases e with
        | normal => exact ihy (H0 := G) he
        | exit id => exact he
        | ret => exact he
        | goto l => exact he) (ihx (H0 := G) (ov := []) (hv hf hq)))
      refine SoundY.mono h2 ?_
      rintro v u ⟨e, s, hΨ, hv, hu, hyn⟩
      exact ⟨e, s.regs, upd s.ov G, s.c, hΨ, hv, hu, hyn⟩
    · obtain ⟨e, h1, h2⟩ := hQ lr xv u hr hx
      refine ⟨e, h1, ?_⟩
      simp only [VQ]
      rw [aX]; exact h2
  | scope l b a ihb iha =>
    intro H0 p Q r ov c h
    obtain ⟨I, h0, hI⟩ := h
    have key : ∀ n r ov c, I n r (upd ov H0) c → cF (gwp P H0 p a) l (VQ H0 Q) (n + 1) ⟨r, ov, c⟩ := by
      intro n
      induction n using Nat.strongRecOn with
      | ind n ihn =>
        intro r ov c hn
        refine bZ (fun e s he => ?_) (iha (hI n r _ c hn))
        cases e with
        | normal => exact he
        | exit id => exact he
        | ret => exact he
        | goto k =>
          obtain ⟨hk, n', hlt, hn'⟩ := he
          exact ⟨hk, iI (by omega) (ihn n' hlt s.regs s.ov s.c hn')⟩
    refine (show gwp P H0 p b (rO _ _ _) _ from bZ (fun e s he => ?_) (ihb h0))
    cases e with
    | normal => exact he
    | exit id => exact he
    | ret => exact he
    | goto k =>
      obtain ⟨hk, n, hn⟩ := he
      exact ⟨hk, n + 1, key n s.regs s.ov s.c hn⟩
end
end Go.Proofs.Ytigjoggpaamodaa
/-! The abstract machine: what is owed at each step, on symbols. -/
namespace Go.Proofs.Ytigjoggpaamodaa
set_option linter.unusedVariables false
set_option linter.unusedSimpArgs false

/-- an element of a list, by its place -/
def nth {α : Type} [Inhabited α] (l : List α) (i : Nat) : α := l.getD i default
theorem lX {α : Type} [Inhabited α] {l : List α} {i : Nat} (h : i < l.length) : l[i]? = some (nth l i) := by
  simp [nth, List.getD_eq_getElem?_getD, h]
theorem nth_of {α : Type} [Inhabited α] {l : List α} {i : Nat} {x : α} (h : l[i]? = some x) : nth l i = x := by
  simp [nth, List.getD_eq_getElem?_getD, h]
def j9 (x : Int) : List AV := [.int .i64 x]
abbrev il (l : List Int) : AV := .isl 1 (l.map j9)
section
variable {P : Program} {p q : Lab} {H : aB} {K : AV → Prop} {A B : Unit → Prop}
/-! choices -/
theorem tO : cP (.bool true) A B = A () := rfl
theorem tQ : cP (.bool false) A B = B () := rfl
theorem tR {φ : Prop} [Decidable φ] (ha : φ → A ()) (hb : ¬ φ → B ()) : cP (.bool (decide φ)) A B := by
  by_cases h : φ
  · rw [decide_eq_true h]; exact ha h
  · rw [decide_eq_false h]; exact hb h
theorem tP {φ : Prop} [Decidable φ] (ha : ¬ φ → A ()) (hb : φ → B ()) : cP (.bool (!decide φ)) A B := by
  by_cases h : φ
  · rw [decide_eq_true h]; exact hb h
  · rw [decide_eq_false h]; exact ha h
theorem sel_b {b : Bool} (ha : b = true → A ()) (hb : b = false → B ()) : cP (.bool b) A B := by
  cases b
  · exact hb rfl
  · exact ha rfl
theorem sel_nb {b : Bool} (ha : b = false → A ()) (hb : b = true → B ()) : cP (.bool (!b)) A B := by
  cases b
  · exact ha rfl
  · exact hb rfl
theorem sH {φ : Prop} [Decidable φ] (h : φ) : cP (.bool (decide φ)) A B = A () := by rw [decide_eq_true h]; rfl
theorem sI {φ : Prop} [Decidable φ] (h : ¬ φ) : cP (.bool (decide φ)) A B = B () := by rw [decide_eq_false h]; rfl
theorem sF {φ : Prop} [Decidable φ] (h : ¬ φ) : cP (.bool (!decide φ)) A B = A () := by rw [decide_eq_false h]; rfl
theorem sG {φ : Prop} [Decidable φ] (h : φ) : cP (.bool (!decide φ)) A B = B () := by rw [decide_eq_true h]; rfl
/-! numbers -/
variable {k : IntKind} {a b : Int} {c : Cls}
theorem dE {op : BinOp} {x y z : AV} (h : dP op c x y = some z) : dH op c x y K = K z := by
  unfold dH; rw [h]; simp
theorem tH : dH .lss c (.int k a) (.int k b) K = K (.bool (decide (a < b))) := dE (by simp [dP, gW])
theorem tI : dH .leq c (.int k a) (.int k b) K = K (.bool (decide (a ≤ b))) := dE (by simp [dP, gW])
theorem tJ : dH .gtr c (.int k a) (.int k b) K = K (.bool (decide (b < a))) := dE (by simp [dP, gW])
theorem tK : dH .geq c (.int k a) (.int k b) K = K (.bool (decide (b ≤ a))) := dE (by simp [dP, gW])
theorem tM : dH .eql c (.int k a) (.int k b) K = K (.bool (decide (a = b))) := dE (by simp [dP, gW])
theorem tE : dH .neq c (.int k a) (.int k b) K = K (.bool (!decide (a = b))) := dE (by simp [dP, gW])
theorem qV (h1 : -9223372036854775808 ≤ a) (h2 : a ≤ 9223372036854775807) : inR a = true := by simp [inR, h1, h2]
theorem sB (h1 : -9223372036854775808 ≤ a + b) (h2 : a + b ≤ 9223372036854775807) : dH .add c (.int .i64 a) (.int .i64 b) K = K (.int .i64 (a + b)) := dE (by simp [dP, gW, eU, qV h1 h2])
theorem tC (h1 : -9223372036854775808 ≤ a - b) (h2 : a - b ≤ 9223372036854775807) : dH .sub c (.int .i64 a) (.int .i64 b) K = K (.int .i64 (a - b)) := dE (by simp [dP, gW, eU, qV h1 h2])
theorem v_mul (h1 : -9223372036854775808 ≤ a * b) (h2 : a * b ≤ 9223372036854775807) : dH .mul c (.int .i64 a) (.int .i64 b) K = K (.int .i64 (a * b)) := dE (by simp [dP, gW, eU, qV h1 h2])
theorem v_or {a b : Nat} (h : dH .or c (.int .i64 a) (.int .i64 b) K) : dH .or c (.int .i64 a) (.int .i64 b) K := h
theorem v_beq {x y : Bool} : dH .eql .bool (.bool x) (.bool y) K = K (.bool (x == y)) := dE (by simp [dP, bQ])
theorem v_bne {x y : Bool} : dH .neq .bool (.bool x) (.bool y) K = K (.bool (!(x == y))) := dE (by simp [dP, bQ])
theorem tD {x : Bool} : sC (.bool x) K = K (.bool (!x)) := rfl
theorem tF : s6 (.int k a) (.int k b) K = K (.int k (Min.min a b)) := by simp [s6]
theorem tG : s7 (.int k a) (.int k b) K = K (.int k (Max.max a b)) := by simp [s7]
theorem pH {x y : AV} : q4 (.bool true) x y K = K x := rfl
theorem pI {x y : AV} : q4 (.bool false) x y K = K y := rfl
/-! rows -/
theorem sA {x : AV} {xs : List AV} : pO 0 (.tuple (x :: xs)) K = K x := by simp [pO]
theorem r9 {x y : AV} {xs : List AV} : pO 1 (.tuple (x :: y :: xs)) K = K y := by simp [pO]
theorem r8 {x y z : AV} {xs : List AV} : pO 2 (.tuple (x :: y :: z :: xs)) K = K z := by simp [pO]
theorem v_len_map {α : Type} {f : α → List AV} {l : List α} {e : Nat} : iS (.isl e (l.map f)) K = K (.int .i64 l.length) := by simp [iS, AV.len]
theorem nL {rows : List (List AV)} {e : Nat} : iS (.isl e rows) K = K (.int .i64 rows.length) := by simp [iS, AV.len]
theorem lE : iS .nils K = K (.int .i64 0) := by simp [iS, AV.len]
theorem nK : iS .sl0 K = K (.int .i64 0) := by simp [iS, AV.len]
theorem pK {l : Lab} {e o n : Nat} : iS (.sl l e o n) K = K (.int .i64 n) := by simp [iS, AV.len]
theorem pL {α : Type} {f : α → List AV} {l : List α} {e : Nat} {i : Int} (h0 : 0 ≤ i) (h1 : i < l.length) : vIx e (.isl e (l.map f)) (.int k i) K = K (.iptr e (l.map f) i.toNat 0) := by simp [vIx, cD, h0, h1]
theorem v_ix_isl {rows : List (List AV)} {e : Nat} {i : Int} (h0 : 0 ≤ i) (h1 : i < rows.length) : vIx e (.isl e rows) (.int k i) K = K (.iptr e rows i.toNat 0) := by simp [vIx, cD, h0, h1]
theorem q3 {l : Lab} {o n e : Nat} {i : Int} (h0 : 0 ≤ i) (h1 : i < n) : vIx e (.sl l e o n) (.int k i) K = K (.ptr l e (o + i.toNat) 0) := by simp [vIx, cD, h0, h1]
theorem nH {l : Lab} {e i j : Nat} : oP (.ptr l e i j) K = K (.ptr l e i j) := by simp [oP, AV.nonNil]
theorem lC {rows : List (List AV)} {e i j : Nat} : oP (.iptr e rows i j) K = K (.iptr e rows i j) := by simp [oP, AV.nonNil]
theorem pM {l : Lab} {e i j o : Nat} : vFA o (.ptr l e i j) K = K (.ptr l e i (j + o)) := by simp [vFA, cE]
theorem nM {rows : List (List AV)} {e i j o : Nat} : vFA o (.iptr e rows i j) K = K (.iptr e rows i (j + o)) := by simp [vFA, cE]
/-- cells of a row -/
def bI (n : Nat) (agg : Bool) (r : List AV) (j : Nat) (K : AV → Prop) : Prop := j + n ≤ r.length ∧ ∃ x, aG agg ((r.drop j).take n) = some x ∧ K x
theorem sY {x : AV} {r : List AV} : bI 1 false (x :: r) 0 K = K x := by simp [bI, aG]
theorem sX {x : AV} {r : List AV} {n j : Nat} {g : Bool} : bI n g (x :: r) (j + 1) K = bI n g r j K := by
  simp only [bI, List.drop_succ_cons, List.length_cons]
  have : (j + 1 + n ≤ r.length + 1) = (j + n ≤ r.length) := by simp; omega
  rw [this]
theorem cell_all {r : List AV} {n : Nat} (h : r.length = n) : bI n true r 0 K = K (.agg r) := by subst h; simp [bI, aG]
theorem rU {a b : AV} {r : List AV} : bI 2 true (a :: b :: r) 0 K = K (.agg [a, b]) := by simp [bI, aG]
theorem rT {a b c : AV} {r : List AV} : bI 3 true (a :: b :: c :: r) 0 K = K (.agg [a, b, c]) := by simp [bI, aG]
theorem rS {a b c d e f g : AV} {r : List AV} : bI 7 true (a :: b :: c :: d :: e :: f :: g :: r) 0 K = K (.agg [a, b, c, d, e, f, g]) := by simp [bI, aG]
theorem qG {a b c d e f g h i j : AV} {r : List AV} : bI 10 true (a :: b :: c :: d :: e :: f :: g :: h :: i :: j :: r) 0 K = K (.agg [a, b, c, d, e, f, g, h, i, j]) := by simp [bI, aG]
variable {KL : AV → Option (List Lab) → Prop}
theorem lD {α : Type} [Inhabited α] {f : α → List AV} {l : List α} {e i j n : Nat} {g : Bool} (h : i < l.length) : bA n g (.iptr e (l.map f) i j) H KL = bI n g (f (nth l i)) j fun x => KL x (some []) := by
  simp only [bA, aZ, AO.cells, bI, List.getElem?_map, lX h, Option.map_some, Option.bind_some]
  by_cases hj : j + n ≤ (f (nth l i)).length
  · simp only [hj, if_true, Option.bind_some, true_and, Option.bind_eq_some_iff, Option.some.injEq]
    apply propext
    constructor
    · rintro ⟨r, ⟨y, hy, rfl⟩, hk⟩; exact ⟨y, hy, hk⟩
    · rintro ⟨y, hy, hk⟩; exact ⟨_, ⟨y, hy, rfl⟩, hk⟩
  · simp [hj]
theorem v_load_ptr {α : Type} [Inhabited α] {f : α → List AV} {L : List α} {l : Lab} {e i j n : Nat} {g : Bool} (hl : H l = some (.rows e (L.map f))) (h : i < L.length) : bA n g (.ptr l e i j) H KL = bI n g (f (nth L i)) j fun x => KL x (some [l]) := by
  simp only [bA, aZ, hl, if_true, AO.cells, bI, List.getElem?_map, lX h, Option.map_some, Option.bind_some]
  by_cases hj : j + n ≤ (f (nth L i)).length
  · simp only [hj, if_true, Option.bind_some, true_and, Option.bind_eq_some_iff, Option.some.injEq]
    apply propext
    constructor
    · rintro ⟨r, ⟨y, hy, rfl⟩, hk⟩; exact ⟨y, hy, hk⟩
    · rintro ⟨y, hy, hk⟩; exact ⟨_, ⟨y, hy, rfl⟩, hk⟩
  · simp [hj]
theorem v_load_one {l : Lab} {r : List AV} {e j n : Nat} {g : Bool} (hl : H l = some (.rows e [r])) : bA n g (.ptr l e 0 j) H KL = bI n g r j fun x => KL x (some [l]) := by
  simp only [bA, aZ, hl, if_true, AO.cells, bI, List.getElem?_cons_zero, Option.bind_some]
  by_cases hj : j + n ≤ r.length
  · simp only [hj, if_true, Option.bind_some, true_and, Option.bind_eq_some_iff, Option.some.injEq]
    apply propext
    constructor
    · rintro ⟨s, ⟨y, hy, rfl⟩, hk⟩; exact ⟨y, hy, hk⟩
    · rintro ⟨y, hy, hk⟩; exact ⟨_, ⟨y, hy, rfl⟩, hk⟩
  · simp [hj]
theorem jA {l : Lab} {o : Option AO} {u : Chg} : upd ((l, o) :: u) H l = o := by simp [upd]
theorem d6 {k l : Lab} {o : Option AO} {u : Chg} (h : k ≠ l) : upd ((l, o) :: u) H k = upd u H k := by simp [upd, h]
theorem bL {k : Lab} : upd [] H k = H k := rfl
theorem v_build {z : List AV} {ps : List (Nat × Nat)} {xs cs : List AV} (h : cA z ps xs = some cs) : gH z ps xs K = K (.agg cs) := by simp [gH, h]
theorem v_buildS {e : Nat} {z : List AV} {ps : List (Nat × Nat)} {xs cs : List AV} {KB : List (List AV) → Nat → Prop} (h : cA z ps xs = some cs) (h1 : e ≠ 0) (h2 : cs.length % e = 0) (h3 : cs.all AV.one = true) : fK e z ps xs KB = KB (bF e (cs.length / e) cs) (cs.length / e) := by simp only [fK, h, Option.some.injEq, exists_eq_left', h2, h3, ne_eq, h1, not_false_eq_true, and_self, true_and]
/-- a slice of one's own, with what it holds (none, if there is nothing yet) -/
def Own (H : aB) (x : AV) (e : Nat) (rows : List (List AV)) : Prop := (x = .nils ∧ rows = []) ∨ ∃ l, x = .sl l e 0 rows.length ∧ H l = some (.rows e rows)
theorem Own.nils {e : Nat} : Own H .nils e [] := .inl ⟨rfl, rfl⟩
theorem v_len_own {x : AV} {e : Nat} {rows : List (List AV)} (h : Own H x e rows) : iS x K = K (.int .i64 rows.length) := by
  rcases h with ⟨rfl, rfl⟩ | ⟨l, rfl, _⟩
  · simp [iS, AV.len]
  · simp [iS, AV.len]
/-- what lies where it lay, but for what a slice held -/
def k7 (x : AV) (H H' : aB) : Prop := ∀ k o, H k = some o → (∀ e i n, x ≠ .sl k e i n) → H' k = some o
variable {KK : KF}
theorem app_own {x y : AV} {e b : Nat} {rows src : List (List AV)} {ls : List Lab} (h : Own H x e rows) (hs : fF e y H = some (src, ls)) (hne : src ≠ []) (he : 0 < e) (h1 : (rows.length + src.length) * b ≤ 140737488355328) (h2 : rows.length + src.length ≤ 4611686018427387904) (hq : H q = none)
    (hk : ∀ x' H' l f, Own H' x' e (rows ++ src) → k7 x H H' → KK x' H' l f) : bO (.append e b) [x, y] H q KK := by
  have hn : src.isEmpty = false := by cases src <;> simp at hne ⊢
  rcases h with ⟨rfl, rfl⟩ | ⟨l, rfl, hl⟩
  · refine ⟨⟨.sl q e 0 src.length, [(q, some (.rows e src))], some ls⟩, ?_, hk _ _ _ _ (.inr ⟨q, by simp, by simp [upd]⟩) (fun k o hk' _ => ?_)⟩
    · simp only [List.length_nil, Nat.zero_add] at h1 h2
      simp [aop, dG, hs, hn, he, h1, h2]
      exact fun h => absurd h hne
    · simp only [upd]
      rw [if_neg (fun e => by rw [e, hq] at hk'; cases hk')]; exact hk'
  · have hlq : q ≠ l := fun e => by rw [e, hl] at hq; cases hq
    refine ⟨⟨.sl q e 0 (rows.length + src.length), [(q, some (.rows e (rows ++ src))), (l, none)], some (l :: ls)⟩, ?_, hk _ _ _ _ (.inr ⟨q, by simp, by simp [upd]⟩) (fun k o hk' hx => ?_)⟩
    · simp [aop, dG, hs, hn, hl, he, h1, h2]
      exact fun h => absurd h hne
    · simp only [upd]
      rw [if_neg (fun e => by rw [e, hq] at hk'; cases hk'), if_neg (fun e' => hx e 0 rows.length (by rw [e']))]; exact hk'
/-- writers that wait for all others, or all others for them -/
inductive PsI : List (Nat × Tr) → List Nat → List Nat → Prop
  | nil : PsI [] [] []
  | read {ps : List (Nat × Tr)} {ws al : List Nat} {j : Nat} {q : Lab} {f : Option (List Lab)} (h : PsI ps ws al) : PsI (bT j [] q f ps) ws (j :: al)
  | write {ps : List (Nat × Tr)} {ws al : List Nat} {j : Nat} {l : List Lab} {q : Lab} {f : Option (List Lab)} (h : PsI ps ws al) : PsI (bT j l q f ps) (j :: ws) (j :: al)
theorem dY {j : Nat} {l : List Lab} {q : Lab} {f : Option (List Lab)} {ps : List (Nat × Tr)} {a : Nat × Tr} (h : a ∈ bT j l q f ps) : a = (j, ⟨l, q, f⟩) ∨ a ∈ ps := by
  unfold bT at h
  split at h
  · exact .inr h
  · exact List.mem_cons.1 h
theorem PsI.all {ps : List (Nat × Tr)} {ws al : List Nat} (h : PsI ps ws al) : ∀ a ∈ ps, a.1 ∈ al ∧ (a.2.labs = [] ∨ a.1 ∈ ws) := by
  induction h with
  | nil => intro a ha; cases ha
  | read h ih =>
    intro a ha
    rcases dY ha with rfl | ha
    · exact ⟨by simp, .inl rfl⟩
    · exact ⟨List.mem_cons_of_mem _ (ih a ha).1, (ih a ha).2⟩
  | write h ih =>
    intro a ha
    rcases dY ha with rfl | ha
    · exact ⟨by simp, .inr (by simp)⟩
    · exact ⟨List.mem_cons_of_mem _ (ih a ha).1, (ih a ha).2.imp id (List.mem_cons_of_mem _)⟩
def ordAll (masks ws al : List Nat) : Bool := ws.all fun i => al.all fun j => i == j || bM masks i j
theorem clash_ord {masks ws al : List Nat} {ps : List (Nat × Tr)} (h : PsI ps ws al) (hc : ordAll masks ws al = true) : cU masks ps := fun a ha b hb hne ho => by
  rcases (h.all a ha).2 with h1 | h1
  · unfold gT; rw [h1]; split <;> simp
  · have := List.all_eq_true.1 (List.all_eq_true.1 hc _ h1) _ (h.all b hb).1
    rw [ho] at this
    simp at this
    exact absurd this hne
/-- the labels of a frame that are still to come are free -/
def Fresh (p : Lab) (c : Nat) (H : aB) : Prop := ∀ k s, c ≤ k → H (s ++ k :: p) = none
theorem Fresh.mono {c d : Nat} (h : Fresh p c H) (hd : c ≤ d) : Fresh p d H := fun k s hk => h k s (by omega)
theorem Fresh.empty {c : Nat} : Fresh p c (fun _ => none) := fun _ _ _ => rfl
theorem Fresh.at {c k : Nat} (h : Fresh p c H) (hk : c ≤ k) : H (k :: p) = none := h k [] hk
theorem mY {j k : Nat} {s : List Nat} (h : j ≠ k) : s ++ j :: p ≠ k :: p := fun e => by
  have hl := congrArg List.length e
  simp at hl
  subst hl
  simp at e
  exact h e
/-- and for a callee -/
theorem Fresh.callee {c : Nat} (h : Fresh p c H) : Fresh (c :: p) 0 H := fun k s _ => by
  have := h c (s ++ [k]) (Nat.le_refl _)
  simpa using this
theorem Fresh.upd {c d k : Nat} {o : Option AO} (h : Fresh p c H) (hd : c ≤ d) (hk : k < d) : Fresh p d (upd [(k :: p, o)] H) := fun j s hj => by
  simp only [Ytigjoggpaamodaa.upd]
  rw [if_neg (mY (by omega))]
  exact h j s (by omega)
theorem Own.upd {x : AV} {e c k : Nat} {rows : List (List AV)} {o : Option AO} (h : Own H x e rows) (hf : Fresh p c H) (hk : c ≤ k) : Own (upd [(k :: p, o)] H) x e rows := by
  rcases h with h | ⟨l, h1, h2⟩
  · exact .inl h
  · refine .inr ⟨l, h1, ?_⟩
    simp only [Ytigjoggpaamodaa.upd]
    rw [if_neg (fun e => by rw [e, hf.at hk] at h2; cases h2)]; exact h2
/-- one more row of the call's own making -/
theorem push_own {x : AV} {e b c k1 k2 : Nat} {rows : List (List AV)} {row : List AV} (h : Own H x e rows) (hf : Fresh p c H) (hc : c ≤ k1) (hk : k1 < k2) (he : 0 < e) (h1 : (rows.length + 1) * b ≤ 140737488355328) (h2 : rows.length + 1 ≤ 4611686018427387904)
    (hK : ∀ x' H' l f, Own H' x' e (rows ++ [row]) → Fresh p (k2 + 1) H' → k7 x H H' → KK x' H' l f) : bO (.append e b) [x, .sl (k1 :: p) e 0 1] (upd [(k1 :: p, some (.rows e [row]))] H) (k2 :: p) KK := by
  have hs : fF e (.sl (k1 :: p) e 0 1) (upd [(k1 :: p, some (.rows e [row]))] H) = some ([row], [k1 :: p]) := by simp [fF, upd]
  have hH : ∀ k, k ≠ k1 :: p → upd [(k1 :: p, some (.rows e [row]))] H k = H k := fun k hk => by simp [upd, hk]
  have hq : (k2 :: p) ≠ (k1 :: p) := fun e => by simp at e; omega
  have hq0 : H (k2 :: p) = none := hf.at (by omega)
  rcases h with ⟨rfl, rfl⟩ | ⟨l, rfl, hl⟩
  · refine ⟨⟨.sl (k2 :: p) e 0 1, [(k2 :: p, some (.rows e [row]))], some [k1 :: p]⟩, ?_, hK _ _ _ _ (.inr ⟨k2 :: p, rfl, by simp [upd]⟩) (fun j s hj => ?_) (fun k o hk' _ => ?_)⟩
    · simp only [List.length_nil, Nat.zero_add] at h1 h2
      simp [aop, dG, hs, he]
      omega
    · have := hf j s (by omega)
      simp only [Ytigjoggpaamodaa.upd, if_neg (mY (p := p) (s := s) (show j ≠ k2 by omega)), if_neg (mY (p := p) (s := s) (show j ≠ k1 by omega)), this]
    · have e1 : k ≠ k2 :: p := fun e => by rw [e, hq0] at hk'; cases hk'
      have e2 : k ≠ k1 :: p := fun e => by rw [e, hf.at hc] at hk'; cases hk'
      simp [upd, e1, e2, hk']
  · have hl1 : l ≠ k1 :: p := fun e => by rw [e, hf.at hc] at hl; cases hl
    have hl2 : l ≠ k2 :: p := fun e => by rw [e, hq0] at hl; cases hl
    have hl' : upd [(k1 :: p, some (.rows e [row]))] H l = some (.rows e rows) := by rw [hH l hl1]; exact hl
    refine ⟨⟨.sl (k2 :: p) e 0 (rows.length + 1), [(k2 :: p, some (.rows e (rows ++ [row]))), (l, none)], some [l, k1 :: p]⟩, ?_, hK _ _ _ _ (.inr ⟨k2 :: p, by simp, by simp [upd]⟩) (fun j s hj => ?_) (fun k o hk' hx => ?_)⟩
    · simp [aop, dG, hs, hl', he, h1, h2]
    · have := hf j s (by omega)
      simp only [Ytigjoggpaamodaa.upd, if_neg (mY (p := p) (s := s) (show j ≠ k2 by omega)), if_neg (mY (p := p) (s := s) (show j ≠ k1 by omega)), this, ite_self]
    · have e1 : k ≠ k2 :: p := fun e => by rw [e, hq0] at hk'; cases hk'
      have e2 : k ≠ k1 :: p := fun e => by rw [e, hf.at hc] at hk'; cases hk'
      have e3 : k ≠ l := fun e' => hx e 0 rows.length (by rw [e'])
      simp [upd, e1, e2, e3, hk']
theorem v_build_eq {z : List AV} {ps : List (Nat × Nat)} {xs : List AV} : gH z ps xs K = match cA z ps xs with
    | some cs => K (.agg cs)
    | none => False := by
  cases h : cA z ps xs <;> simp [gH, h]
theorem v_buildS_eq {e : Nat} {z : List AV} {ps : List (Nat × Nat)} {xs : List AV} {KB : List (List AV) → Nat → Prop} : fK e z ps xs KB = match cA z ps xs with
    | some cs => (e ≠ 0 ∧ cs.length % e = 0 ∧ cs.all AV.one = true) ∧ KB (bF e (cs.length / e) cs) (cs.length / e)
    | none => False := by
  cases h : cA z ps xs <;> simp [fK, h]
theorem rows_sl {l : Lab} {e n : Nat} {rows : List (List AV)} (hl : H l = some (.rows e rows)) (hn : rows.length = n) (h0 : n ≠ 0) : fF e (.sl l e 0 n) H = some (rows, [l]) := by
  subst hn
  simp [fF, h0, hl]
theorem rows_isl {e : Nat} {rows : List (List AV)} : fF e (.isl e rows) H = some (rows, []) := by simp [fF]
/-! calls -/
theorem call_pure {s : Bool} {f : Nat} {xs : List AV} {y : AV} (h : kD P f xs y) (hk : KK y H [] (some [])) : dS s P f xs H q KK := Or.inl ⟨_, h H q, hk⟩
/-! a body's end -/
def VP (res : List AResV) (y : AV) : aD := fun e r H _ => (e = .normal ∨ e = .ret) ∧ ∃ x, cZ H r res = some x ∧ Fr (fun l => H l ≠ none) H x y
theorem rE (hm : P.follows .mixedOrders = true) {f : Nat} {A : AFun} (hA : FunOk P f A) {xs : List AV} (hlen : xs.length = A.np) {y : AV} (h : ∀ q, vc P q A.body (VP A.res y) (params 0 xs) (fun _ => none) 0) : kD P f xs y :=
  pure_of hm hA hlen (fun q => bZ (fun _ _ he => he) (lB (ov := []) (H0 := fun _ => none) (h q)))
theorem vloop {keep : List Nat} {b : ACode} {Q : aD} {r : RL} {c : Nat} (I : Nat → RL → aB → Nat → Prop) (n : Nat) (h0 : I n (restrict r keep) H c) (h : ∀ n r H c, I n r H c → vc P p b (jS keep I n Q) r H c) : vc P p (.loop keep b) Q r H c := ⟨I, n, h0, h⟩
theorem lq_n {keep : List Nat} {I : Nat → RL → aB → Nat → Prop} {n : Nat} {Q : aD} {r : RL} {c : Nat} (m : Nat) (hm : m < n) (h : I m (restrict r keep) H c) : jS keep I n Q .normal r H c := ⟨m, hm, h⟩
theorem uU {keep : List Nat} {I : Nat → RL → aB → Nat → Prop} {n : Nat} {Q : aD} {r : RL} {c i : Nat} : jS keep I n Q (.exit i) r H c = Q (.exit i) r H c := rfl
theorem uT {keep : List Nat} {I : Nat → RL → aB → Nat → Prop} {n : Nat} {Q : aD} {r : RL} {c : Nat} : jS keep I n Q .ret r H c = Q .ret r H c := rfl
/-! freezing -/
variable {Z : Lab → Prop}
theorem Fr.two {a b a' b' : AV} (h : Fr Z H a a') (h' : Fr Z H b b') : Fr Z H (.tuple [a, b]) (.tuple [a', b']) := by
  refine .tuple _ _ rfl (fun i => match i with | 0 => a | _ => b) (fun i d hd => ?_) (fun i d hd => ?_)
  · match i with
    | 0 => rfl
    | 1 => rfl
    | i + 2 => simp at hd
  · match i with
    | 0 => simp at hd; subst hd; exact h
    | 1 => simp at hd; subst hd; exact h'
    | i + 2 => simp at hd
theorem Fr.of_own {x : AV} {e : Nat} {rows : List (List AV)} (h : Own H x e rows) (hr : ∀ r ∈ rows, gC e r) : Fr (fun l => H l ≠ none) H x (.isl e rows) := by
  rcases h with ⟨rfl, rfl⟩ | ⟨l, rfl, hl⟩
  · exact .nils e
  · exact .own l e 0 _ rows rows (fun i j => (aC rows i j).getD .nilf) (by rw [hl]; simp) hl rfl hr (fun i j x hx => by simp [hx]) (fun i j x hx => by simp [hx]; exact .refl _)
theorem vp1 {t c : Nat} {x y : AV} (h : x = y) : VP [.tmp t] y .ret [(t, x)] H c := ⟨.inr rfl, x, by simp [cZ, dN, eV, aI], h ▸ .refl _⟩
theorem vp1f {t c : Nat} {x y : AV} (h : Fr (fun l => H l ≠ none) H x y) : VP [.tmp t] y .ret [(t, x)] H c := ⟨.inr rfl, x, by simp [cZ, dN, eV, aI], h⟩
theorem vp2 {t u c : Nat} {x y x' y' : AV} (h : Fr (fun l => H l ≠ none) H x x') (h' : Fr (fun l => H l ≠ none) H y y') (hn : u ≠ t) : VP [.tmp t, .tmp u] (.tuple [x', y']) .ret [(t, x), (u, y)] H c := ⟨.inr rfl, .tuple [x, y], by simp [cZ, dN, eV, aI, hn], .two h h'⟩
theorem vp2e {t u c : Nat} {x y x' y' : AV} (h : x = x') (h' : y = y') (hn : u ≠ t) : VP [.tmp t, .tmp u] (.tuple [x', y']) .ret [(t, x), (u, y)] H c := vp2 (h ▸ .refl _) (h' ▸ .refl _) hn
theorem Fr.of_ptr {l : Lab} {e i j : Nat} {rows : List (List AV)} (hl : H l = some (.rows e rows)) : Fr (fun l => H l ≠ none) H (.ptr l e i j) (.iptr e rows i j) :=
  .ptr l e i j rows rows (fun i j => (aC rows i j).getD .nilf) (by rw [hl]; simp) hl (fun i j x hx => by simp [hx]) (fun i j x hx => by simp [hx]; exact .refl _)
theorem nN {f : Nat} {fs cs args : List AV} : vop P .call (.fn (.func f) fs cs :: args) H q KK = dS false P f (fs ++ args ++ cs) H q KK := rfl
theorem lF {f : Nat} {fs cs args : List AV} : qQ P .call (.fn (.func f) fs cs :: args) H q KK = dS true P f (fs ++ args ++ cs) H q KK := rfl
theorem v_load_rows {rows : List (List AV)} {r : List AV} {n e i j : Nat} {g : Bool} (h : rows[i]? = some r) : bA n g (.iptr e rows i j) H KL = bI n g r j fun x => KL x (some []) := by
  simp only [bA, aZ, AO.cells, bI, h]
  by_cases hj : j + n ≤ r.length
  · simp only [hj, if_true, Option.bind_some, true_and, Option.bind_eq_some_iff, Option.some.injEq]
    apply propext
    constructor
    · rintro ⟨r, ⟨y, hy, rfl⟩, hk⟩; exact ⟨y, hy, hk⟩
    · rintro ⟨y, hy, hk⟩; exact ⟨_, ⟨y, hy, rfl⟩, hk⟩
  · simp [hj]
theorem nJ {r : List AV} {n e j : Nat} {g : Bool} : bA n g (.iptr e [r] 0 j) H KL = bI n g r j fun x => KL x (some []) := v_load_rows rfl
theorem vp3e {t u v c : Nat} {x y z x' y' z' : AV} (h : x = x') (h' : y = y') (h2 : z = z') (hn : u ≠ t) (hn' : v ≠ t) (hn2 : v ≠ u) : VP [.tmp t, .tmp u, .tmp v] (.tuple [x', y', z']) .ret [(t, x), (u, y), (v, z)] H c := by
  subst h h' h2
  exact ⟨.inr rfl, .tuple [x, y, z], by simp [cZ, dN, eV, aI, hn, hn', hn2], .refl _⟩
theorem rowOk_map {α : Type} {f : α → List AV} {e : Nat} {l : List α} (h : ∀ a, gC e (f a)) : ∀ r ∈ l.map f, gC e r := fun r hr => by
  obtain ⟨a, _, rfl⟩ := List.mem_map.1 hr
  exact h a
end
end Go.Proofs.Ytigjoggpaamodaa
/-! The abstract machine: what is one's own, lent to a function that only reckons; a run without arguments; a law's contract. -/
namespace Go.Proofs.Ytigjoggpaamodaa
set_option linter.unusedVariables false
set_option linter.unusedSimpArgs false
set_option maxRecDepth 100000
open Go.ChangeShapes Go.WideShapes Go.ChangeAt Go.RowKit
/-- plain values: of no memory -/
def AV.flat1 : AV → Bool
  | .bool _ | .int .. | .str _ | .nilp | .nils | .nilm | .nilf => true
  | _ => false
def AV.flat : AV → Bool
  | .tuple cs => cs.all AV.flat1
  | x => x.flat1
section
variable {ρ ρ' : aH} {R R' : Imm} {P : Program}
theorem oC {x : AV} {v : Value} (h : x.flat1 = true) (hv : RepV ρ R x v) : RepV ρ' R' x v := by
  cases hv <;> simp [AV.flat1] at h
  · exact .bool _
  · exact .int _ _
  · exact .str _
  · exact .nilp
  · exact .nils
  · exact .nilm
  · exact .nilf
theorem p8 {x : AV} {v : Value} (h : x.flat = true) (hv : RepV ρ R x v) : RepV ρ' R' x v := by
  by_cases h1 : x.flat1 = true
  · exact oC h1 hv
  · cases x <;> simp [AV.flat, AV.flat1] at h h1
    rename_i cs
    cases hv with
    | tuple _ C hC hc =>
      refine .tuple _ _ hC (fun i x hx => ?_)
      exact oC (h x (List.mem_of_getElem? hx)) (hc i x hx)
/-- a call that makes nothing that is kept -/
theorem lend_does {f : Nat} {xs xs' : List AV} {y : AV} {H : aB} {q : Lab} (h : kD P f xs' y) (hy : y.flat = true) (hfr : ∀ w vs, Rep H ρ R w → RepL ρ R xs vs → RepL ρ (frozenR (fun l => H l ≠ none) ρ R w) xs' vs) {vs : List Value} (hvs : RepL ρ R xs vs) : Does (dL P f vs.toArray) H [] (Under q) ρ R y := by
  intro w hR hfree
  have hext : Ext ρ ρ R (frozenR (fun l => H l ≠ none) ρ R w) := dC (fun l L hz hL => by
    obtain ⟨o, ho⟩ := Option.ne_none_iff_exists'.1 hz
    exact .inl (hR.dis l o L ho hL))
  have hR0 : Rep (fun _ => none) ρ (frozenR (fun l => H l ≠ none) ρ R w) w := eD hR (fun l o h => by cases h) hext (fun l hz L _ => hz)
  have := (h (fun _ => none) q).2.2 ρ _ vs (hfr w vs hR hvs) w (by simpa [restr] using hR0) hfree
  refine Calls.mono this ?_
  rintro e w' ⟨v, rfl, ρ', R', hF, hv, hR'⟩
  refine ⟨v, rfl, ρ, R, ⟨.refl _ _, fun l L h => .inl h, fun b O h => .inl h, hF.os, hF.tape, hF.output, hF.size, fun b hb _ => hF.frame b hb (fun k o K hk => by simp [restr] at hk)⟩, p8 hy hv, ?_⟩
  have same : ∀ b, b < w.heap.size → w'.heap[b]? = w.heap[b]? := fun b hb => hF.frame b hb (fun k o K hk => by simp [restr] at hk)
  refine ⟨fun l o hl => ?_, hR.sep, hR.dis, fun b O hb => ?_⟩
  · obtain ⟨L, O, h1, h2, h3⟩ := hR.own l o hl
    exact ⟨L, O, h1, by rw [same _ (Array.getElem?_eq_some_iff.1 h2).1]; exact h2, h3⟩
  · have := hR.imm b O hb
    rw [same _ (Array.getElem?_eq_some_iff.1 this).1]; exact this
inductive FrL (H : aB) : List AV → List AV → Prop
  | nil : FrL H [] []
  | cons {x y : AV} {xs ys : List AV} : Fr (fun l => H l ≠ none) H x y → FrL H xs ys → FrL H (x :: xs) (y :: ys)
theorem FrL.rep {H : aB} {w : World} (hR : Rep H ρ R w) : ∀ {xs ys : List AV} {vs : List Value}, FrL H xs ys → RepL ρ R xs vs → RepL ρ (frozenR (fun l => H l ≠ none) ρ R w) ys vs
  | [], _, vs, .nil, h => by
    have := h.nil_inv; subst this; exact .nil
  | x :: xs, _, vs, .cons h hs, hv => by
    obtain ⟨v, us, rfl, h1, h2⟩ := hv.head
    have hext : Ext ρ ρ R (frozenR (fun l => H l ≠ none) ρ R w) := dC (fun l L hz hL => by
      obtain ⟨o, ho⟩ := Option.ne_none_iff_exists'.1 hz
      exact .inl (hR.dis l o L ho hL))
    exact .cons (mM hR hext h h1) (FrL.rep hR hs h2)
theorem call_lend {s : Bool} {f : Nat} {xs xs' : List AV} {y : AV} {H : aB} {q : Lab} {KK : KF} (h : kD P f xs' y) (hy : y.flat = true) (hfr : FrL H xs xs') (hk : KK y H [] none) : dS s P f xs H q KK :=
  Or.inl ⟨⟨y, [], none⟩, ⟨(h H q).1, fun l hl => absurd hl (aF l), fun ρ R vs hvs => lend_does h hy (fun w vs hR hv => hfr.rep hR hv) hvs⟩, hk⟩
/-- what a run without arguments yields -/
theorem pure_run {call : aQ} (hcall : aY P call) {f : Nat} {x : AV} (hx : x.flat = true) (h : (call f [] (fun _ => none) []).map (·.x) = some x) : kD P f [] x := by
  intro H q
  simp only [Option.map_eq_some_iff] at h
  obtain ⟨⟨y, u, foot⟩, h1, rfl⟩ := h
  obtain ⟨hc, _, hd⟩ := hcall f [] _ [] _ h1
  refine ⟨hc, fun l hl => absurd hl (aF l), fun ρ R vs hvs w hR hfree => ?_⟩
  have := hvs.nil_inv; subst this
  rw [dA] at hR ⊢
  have e : restr (fun _ => (none : Option AO)) foot = fun _ => none := by cases foot <;> funext l <;> simp [restr]
  have hR0 : Rep (fun _ => none) (fun _ => none) R w := ⟨fun l o h => (by cases h), fun l l' o o' L L' h => (by cases h), fun l o L h => (by cases h), hR.imm⟩
  refine Calls.mono (hd (fun _ => none) R [] .nil w (by rw [e]; exact hR0) (fun l _ => rfl)) ?_
  rintro e' w' ⟨v, rfl, ρ', R', hF, hv, hR'⟩
  have same : ∀ b, b < w.heap.size → w'.heap[b]? = w.heap[b]? := fun b hb => hF.frame b hb (fun k o K hk => by rw [e] at hk; cases hk)
  exact ⟨v, rfl, ρ, R, ⟨.refl _ _, fun l L h => .inl h, fun b O h => .inl h, hF.os, hF.tape, hF.output, hF.size, fun b hb _ => same b hb⟩, p8 hx hv,
    ⟨fun l o h => (by simp [upd] at h), fun l l' o o' L L' h => (by simp [upd] at h), fun l o L h => (by simp [upd] at h), fun b O hb => by
      have := hR.imm b O hb
      rw [same _ (Array.getElem?_eq_some_iff.1 this).1]; exact this⟩⟩
end
section
variable {H : Type} {enc : TypeId × Value → H}
/-- a law that answers true, whatever data it is given: by its contract -/
theorem law_pure {f : Nat} {fn : Func} {A : AFun} {s : ChangeSpec} (hA : FunOk Try.prog f A) (hres : fn.resultTypes = #[4]) (hvars : s.vars = []) (hnp : fn.params.toList.length = A.np)
    (hplain : fn.params.toList.all (fun t => b3 Try.prog 8 t && Try.prog.readableRec t && decide (t < Try.prog.types.size)) = true)
    (hfn : ∀ ds : List (DataW H), ds.length = fn.params.toList.length → s.fn H ds = { results := [.lit (.bool true)], args := ds })
    (hlaw : ∀ ys, jZ Try.prog fn.params.toList ys → kD Try.prog f ys (.bool true))
    (W : World) (base : Nat) (args : Array Value) (ds gs : List (DataW H)) (before : List MemPlace)
    (hval : ∀ (j : Nat) t v, fn.params[j]? = some t → args[j]? = some v → Value.okWide Try.prog W .any base t v)
    (hW : DataW.Whole enc Try.prog fn.params.toList s.vars false W args.toList ds gs before) :
    Calls Try.prog f args W fun e W' => ∃ v, e = .returned v ∧ s.post enc Try.prog fn false true false false W args v W' := by
  have hW' := hW
  have hlt : ∀ p ∈ before, p.block < W.heap.size := fun p hp => hW.lt p hp
  obtain ⟨p, q, hA0, hV, rfl, hfz, hnd⟩ := hW
  rw [hvars] at hV
  obtain ⟨rfl, rfl⟩ := trodVars_none hV
  have hpl : ∀ t ∈ fn.params.toList, b3 Try.prog 8 t = true ∧ Try.prog.readableRec t = true ∧ t < Try.prog.types.size := by
    intro t ht
    have := List.all_eq_true.1 hplain t ht
    simp only [Bool.and_eq_true, decide_eq_true_eq] at this
    exact ⟨this.1.1, this.1.2, this.2⟩
  simp only [List.append_nil] at hW' hlt
  obtain ⟨ys, hr, ha⟩ := mU (b := base) (fun t ht => (hpl t ht).1) (fun j t v ht hv => hval j t v (by simpa using ht) (by simpa using hv)) hA0
  have hd := gJ hA0
  have := (hlaw ys ha (fun _ => none) []).2.2 _ _ _ hr W (by rw [dA]; exact jW W []) (fun l _ => rfl)
  rw [Array.toArray_toList] at this
  refine Calls.mono this ?_
  rintro e W' ⟨v, rfl, ρ', R', hF, hv, _⟩
  have hv' := hv.bool_inv
  subst hv'
  rw [dA] at hF
  have hb := fV hF
  refine ⟨_, rfl, pX hW' ?_ ?_ ?_ hb ?_⟩
  · intro b sp hd'
    rw [hres, List.append_nil, hfn ds hd]
    exact trodAll_cons_mk (shut_bool Try.underlying4 _) trodAll_mk0
  · intro sp hsp
    rw [List.append_nil, hfn ds hd]
    exact eX (fun t ht => (hpl t ht).2) hb hlt hsp hA0
  · intro sp
    rw [hvars, List.append_nil, hfn ds hd]
    exact rfl
  · exact ok_one hres rfl (okWide_bool_mk Try.underlying4 _)
end
end Go.Proofs.Ytigjoggpaamodaa
/-! The abstract machine: memory of a frame's own, on symbols. -/
namespace Go.Proofs.Ytigjoggpaamodaa
set_option linter.unusedVariables false
set_option linter.unusedSimpArgs false
section
variable {P : Program} {p q : Lab} {H : aB} {K : AV → Prop} {KL : AV → Option (List Lab) → Prop} {KK : KF}
def rZ (n : Nat) (g : Bool) (o : Option AO) (l : Lab) (e i j : Nat) (KL : AV → Option (List Lab) → Prop) : Prop := match o with
  | some (.rows e' rs) => e = e' ∧ match rs[i]? with
    | some r => bI n g r j fun x => KL x (some [l])
    | none => False
  | _ => False
theorem pJ {n : Nat} {g : Bool} {l : Lab} {e i j : Nat} : bA n g (.ptr l e i j) H KL = rZ n g (H l) l e i j KL := by
  apply propext
  unfold bA rZ
  cases ho : H l with
  | none => simp [aZ, ho]
  | some o =>
    cases o with
    | rows e' rs =>
      simp only [aZ, ho]
      by_cases he : e = e'
      · subst he
        simp only [if_true, AO.cells, true_and]
        cases hr : rs[i]? with
        | none => simp
        | some r =>
          simp only [bI]
          by_cases hj : j + n ≤ r.length
          · simp only [hj, if_true, Option.bind_some, true_and, Option.bind_eq_some_iff, Option.some.injEq]
            constructor
            · rintro ⟨s, ⟨y, hy, rfl⟩, hk⟩; exact ⟨y, hy, hk⟩
            · rintro ⟨y, hy, hk⟩; exact ⟨_, ⟨y, hy, rfl⟩, hk⟩
          · simp [hj]
      · simp [he]
    | amap es bs ck => simp [aZ, ho]
    | bag es => simp [aZ, ho]
    | iter m s se st => simp [aZ, ho]
    | loop => simp [aZ, ho]
theorem rF {n : Nat} {g : Bool} {r : List AV} {l : Lab} {e j : Nat} : rZ n g (some (.rows e [r])) l e 0 j KL = bI n g r j fun x => KL x (some [l]) := by simp [rZ]
theorem rG {α : Type} [Inhabited α] {f : α → List AV} {L : List α} {n : Nat} {g : Bool} {l : Lab} {e i j : Nat} (h : i < L.length) : rZ n g (some (.rows e (L.map f))) l e i j KL = bI n g (f (nth L i)) j fun x => KL x (some [l]) := by simp [rZ, lX h]
/-- putting cells into a row -/
def s5 (n : Nat) (o : Option AO) (l : Lab) (e i j : Nat) (x : AV) (H : aB) (KK : KF) : Prop := match o with
  | some (.rows e' rs) => e = e' ∧ x.cells.length = n ∧ match rs[i]? with
    | some r => (j + n ≤ r.length ∧ x.cells.all AV.one = true) ∧ KK (.tuple []) (upd [(l, some (.rows e' (rs.set i (putL r j x.cells))))] H) [l] (some [l])
    | none => False
  | _ => False
theorem nG {n : Nat} {x : AV} {l : Lab} {e i j : Nat} : bO (.store n) [.ptr l e i j, x] H q KK = s5 n (H l) l e i j x H KK := by
  apply propext
  unfold bO s5
  cases ho : H l with
  | none => simp [aop, dQ, ho]
  | some o =>
    cases o with
    | rows e' rs =>
      simp only [aop, dQ, ho]
      by_cases he : e = e'
      · subst he
        by_cases hc : x.cells.length = n
        · cases hr : rs[i]? with
          | none => simp [hc]
          | some r =>
            by_cases hj : j + n ≤ r.length ∧ x.cells.all AV.one = true
            · simp only [hc, hj, and_self, if_true, Option.some.injEq, exists_eq_left', true_and, List.map_cons, List.map_nil]
            · simp only [hc, hj, if_true, if_false, and_self, true_and, false_and, true_and, reduceCtorEq, false_and, exists_false]
        · simp [hc]
      · simp [he]
    | amap es bs ck => simp [aop, dQ, ho]
    | bag es => simp [aop, dQ, ho]
    | iter m s se st => simp [aop, dQ, ho]
    | loop => simp [aop, dQ, ho]
theorem oR {n : Nat} {r : List AV} {l : Lab} {e j : Nat} {x : AV} : s5 n (some (.rows e [r])) l e 0 j x H KK = (x.cells.length = n ∧ (j + n ≤ r.length ∧ x.cells.all AV.one = true) ∧ KK (.tuple []) (upd [(l, some (.rows e [putL r j x.cells]))] H) [l] (some [l])) := by simp [s5]
theorem kF {i j : Nat} {o : Option AO} {u : Chg} (h : i ≠ j) : upd ((j :: p, o) :: u) H (i :: p) = upd u H (i :: p) := by simp [upd, h]
theorem tN {x : AV} {KB : List AV → Prop} : qT x KB = (x.cells.all AV.one = true ∧ KB x.cells) := rfl
theorem tL {o n : Nat} {g : Bool} {cs : List AV} : uO o n g (.agg cs) K = bI n g cs o K := rfl
theorem pN {k k' : IntKind} {a b c d : Int} : bO (.eqs .eql [.int, .int]) [.agg [.int k a, .int k' b], .agg [.int k c, .int k' d]] H q KK = KK (.bool (decide (a = c) && decide (b = d))) H [] (some []) := by
  have : aop e7 (.eqs .eql [.int, .int]) [.agg [.int k a, .int k' b], .agg [.int k c, .int k' d]] H q = some (.pure (.bool (decide (a = c) && decide (b = d)))) := by
    simp [aop, gE, bE, AV.isAgg, AV.cells, m5, ceq, bQ]
  simp [bO, this]; rfl
theorem nI {k k' : IntKind} {a b c d : Int} : bO (.eqs .neq [.int, .int]) [.agg [.int k a, .int k' b], .agg [.int k c, .int k' d]] H q KK = KK (.bool (!(decide (a = c) && decide (b = d)))) H [] (some []) := by
  have : aop e7 (.eqs .neq [.int, .int]) [.agg [.int k a, .int k' b], .agg [.int k c, .int k' d]] H q = some (.pure (.bool (!(decide (a = c) && decide (b = d))))) := by
    simp [aop, gE, bE, AV.isAgg, AV.cells, m5, ceq, bQ]
  simp [bO, this]; rfl
/-- both, split into a number each -/
theorem q6 {φ ψ : Prop} [Decidable φ] [Decidable ψ] {A B : Unit → Prop} (ha : φ ∧ ψ → A ()) (hb : ¬ (φ ∧ ψ) → B ()) : cP (.bool (decide φ && decide ψ)) A B := by
  by_cases h1 : φ <;> by_cases h2 : ψ <;> simp only [h1, h2, decide_true, decide_false, Bool.and_self, Bool.and_true, Bool.and_false, Bool.true_and, Bool.false_and]
  · exact ha ⟨h1, h2⟩
  · exact hb (fun h => h2 h.2)
  · exact hb (fun h => h1 h.1)
  · exact hb (fun h => h1 h.1)
theorem pP {φ ψ : Prop} [Decidable φ] [Decidable ψ] {A B : Unit → Prop} (ha : ¬ (φ ∧ ψ) → A ()) (hb : φ ∧ ψ → B ()) : cP (.bool (!(decide φ && decide ψ))) A B := by
  by_cases h1 : φ <;> by_cases h2 : ψ <;> simp only [h1, h2, decide_true, decide_false, Bool.and_self, Bool.and_true, Bool.and_false, Bool.true_and, Bool.false_and, Bool.not_true, Bool.not_false]
  · exact hb ⟨h1, h2⟩
  · exact ha (fun h => h2 h.2)
  · exact ha (fun h => h1 h.1)
  · exact ha (fun h => h1 h.1)
theorem pQ {φ ψ : Prop} [Decidable φ] [Decidable ψ] {A B : Unit → Prop} (h : φ ∧ ψ) : cP (.bool (decide φ && decide ψ)) A B = A () := by simp [h.1, h.2, cP]
theorem pR {φ ψ : Prop} [Decidable φ] [Decidable ψ] {A B : Unit → Prop} (h : ¬ (φ ∧ ψ)) : cP (.bool (decide φ && decide ψ)) A B = B () := by
  have : (decide φ && decide ψ) = false := by rw [Bool.eq_false_iff]; simpa using h
  rw [this]; rfl
theorem nR {φ ψ : Prop} [Decidable φ] [Decidable ψ] {A B : Unit → Prop} (h : ¬ (φ ∧ ψ)) : cP (.bool (!(decide φ && decide ψ))) A B = A () := by
  have : (decide φ && decide ψ) = false := by rw [Bool.eq_false_iff]; simpa using h
  rw [this]; rfl
theorem nS {φ ψ : Prop} [Decidable φ] [Decidable ψ] {A B : Unit → Prop} (h : φ ∧ ψ) : cP (.bool (!(decide φ && decide ψ))) A B = B () := by simp [h.1, h.2, cP]
/-- filling a struct, field by field -/
def lH (cs : List AV) (ps : List (Nat × Nat)) (xs : List AV) (K : List AV → Prop) : Prop := ∃ ds, cA cs ps xs = some ds ∧ K ds
section
variable {K : AV → Prop} {KB : List AV → Prop}
theorem i9 {z : List AV} {ps : List (Nat × Nat)} {xs : List AV} : gH z ps xs K = lH z ps xs fun cs => K (.agg cs) := rfl
theorem p9 {cs : List AV} : lH cs [] [] KB = KB cs := by simp [lH, cA]
theorem oD {cs : List AV} {o s : Nat} {ps : List (Nat × Nat)} {x : AV} {xs : List AV} : lH cs ((o, s) :: ps) (x :: xs) KB = ((x.cells.length = s ∧ o + s ≤ cs.length) ∧ lH (putL cs o x.cells) ps xs KB) := by
  simp only [lH, cA]
  by_cases h : x.cells.length = s ∧ o + s ≤ cs.length
  · rw [if_pos h]; simp [h]
  · rw [if_neg h]; simp [h]
theorem iE {e : Nat} {z : List AV} {ps : List (Nat × Nat)} {xs : List AV} {K2 : List (List AV) → Nat → Prop} : fK e z ps xs K2 = lH z ps xs fun cs => (e ≠ 0 ∧ cs.length % e = 0 ∧ cs.all AV.one = true) ∧ K2 (bF e (cs.length / e) cs) (cs.length / e) := rfl
end
theorem rR {e : Nat} {rows : List (List AV)} (ht : rows = [] → K (.bool true)) (hf : K (.bool false)) : qS (.isl e rows) .nils K := fun b hb => by
  cases b
  · exact hf
  · refine ht ?_
    cases rows with
    | nil => rfl
    | cons r rows => exact absurd (hb (by simp)) (by simp)
theorem qB : qS .nils .nils K = K (.bool true) := by simp [qS, dH, dP, bQ]
theorem sW {l : Lab} {e o n : Nat} : qS (.sl l e o n) .nils K = K (.bool false) := by simp [qS, dH, dP, bQ]
end
end Go.Proofs.Ytigjoggpaamodaa
/-! The abstract machine: contracts of functions that read and change memory. -/
namespace Go.Proofs.Ytigjoggpaamodaa
set_option linter.unusedVariables false
set_option linter.unusedSimpArgs false
/-- a body's end: the result, frozen, and what is left of the heap; what the call has made and is not left is changed no more -/
def VR (H0 : aB) (res : List AResV) (y : AV) (u : Chg) : aD := fun e r H _ => (e = .normal ∨ e = .ret) ∧ ∃ x, cZ H r res = some x ∧ Fr (fun l => upd u H0 l = none ∧ H l ≠ none) H x y ∧ ∀ l o, upd u H0 l = some o → H l = some o
theorem gL {P : Program} (hm : P.follows .mixedOrders = true) {f : Nat} {A : AFun} (hA : FunOk P f A) {xs : List AV} (hlen : xs.length = A.np) {H : aB} {q : Lab} {y : AV} {u : Chg} {foot : Option (List Lab)} (hu : ∀ l, u.has l → restr H foot l ≠ none ∨ Under q l)
    (h : vc P q A.body (VR (restr H foot) A.res y u) (params 0 xs) (restr H foot) 0) : aK P f xs H q ⟨y, u, foot⟩ := by
  refine jD (Z := fun l => upd u (restr H foot) l = none) hm hA hlen hu ?_
  refine bZ (fun e s he => ?_) (lB (ov := []) (H0 := restr H foot) h)
  obtain ⟨he, x, hx, hf, hl⟩ := he
  exact ⟨he, x, hx, hf, fun l o hlo => ⟨(fun hn => by rw [hn.1] at hlo; cases hlo), hl l o hlo⟩⟩
theorem has_cons {l k : Lab} {o : Option AO} {u : Chg} : Chg.has ((l, o) :: u) k ↔ k = l ∨ Chg.has u k := by
  constructor
  · rintro ⟨p, hp, rfl⟩
    rcases List.mem_cons.1 hp with rfl | hp
    · exact .inl rfl
    · exact .inr ⟨p, hp, rfl⟩
  · rintro (rfl | ⟨p, hp, rfl⟩)
    · exact ⟨(k, o), by simp, rfl⟩
    · exact ⟨p, by simp [hp], rfl⟩
section
variable {P : Program} {H : aB} {p q : Lab} {KK : KF}
theorem mS {s : Bool} {f : Nat} {xs : List AV} {y : AV} {u : Chg} {foot : Option (List Lab)} (h : aK P f xs H q ⟨y, u, foot⟩) (hk : KK y (upd u H) (u.map (·.1)) foot) : dS s P f xs H q KK := Or.inl ⟨_, h, hk⟩
/-- behind a call the labels to come are free -/
theorem Fresh.after {c : Nat} {f : Nat} {xs : List AV} {r : Res} (h : Fresh p c H) (hr : aK P f xs H (c :: p) r) : Fresh p (c + 1) (Ytigjoggpaamodaa.upd r.u H) := fun k s hk => by
  by_cases hh : r.u.has (s ++ k :: p)
  · rcases hr.2.1 _ hh with h1 | ⟨t, ht⟩
    · have := h k s (by omega)
      cases hf : r.foot with
      | none => rw [hf] at h1; exact absurd this h1
      | some ls => rw [hf] at h1; simp only [restr] at h1; split at h1 <;> first | exact absurd this h1 | exact absurd rfl h1
    · exfalso
      have := bK (i := k) (j := c) (p := p) (l := s ++ k :: p) ⟨s, rfl⟩ ⟨t, ht⟩
      omega
  · rw [aR hh]; exact h k s (by omega)
theorem jH {ls : List Lab} {l : Lab} (h : l ∈ ls) : restr H (some ls) l = H l := by simp [restr, h]
theorem restr_some {ls : List Lab} {l : Lab} {o : AO} (h : restr H (some ls) l = some o) : l ∈ ls ∧ H l = some o := by
  simp only [restr] at h
  split at h
  · exact ⟨by assumption, h⟩
  · cases h
theorem Fresh.restr {c : Nat} {f : Option (List Lab)} (h : Fresh p c H) : Fresh p c (restr H f) := fun k s hk => by
  cases f with
  | none => exact h k s hk
  | some ls =>
    simp only [Ytigjoggpaamodaa.restr]
    split
    · exact h k s hk
    · rfl
/-! results that lie in memory -/
theorem qU {l : Lab} {r : List AV} {e : Nat} {q' : Lab} (hl : H l = some (.rows e [r])) : aZ r.length true (.ptr l e 0 0) H q' = some ⟨.agg r, [], some [l]⟩ := by
  simp [aZ, hl, AO.cells, aG]
theorem vpc1 {t c n e : Nat} {l : Lab} {r : List AV} {y : AV} (hl : H l = some (.rows e [r])) (hn : r.length = n) (hf : Fr (fun l => H l ≠ none) H (.agg r) y) : VP [.cell t n true] y .ret [(t, .ptr l e 0 0)] H c := by
  subst hn
  exact ⟨.inr rfl, .agg r, by simp [cZ, dN, eV, aI, qU hl], hf⟩
theorem aRes_c1 {t n e : Nat} {l : Lab} {r : List AV} (hl : H l = some (.rows e [r])) (hn : r.length = n) : cZ H [(t, .ptr l e 0 0)] [.cell t n true] = some (.agg r) := by
  subst hn
  simp [cZ, dN, eV, aI, qU hl]
theorem aRes_c2 {t n e u : Nat} {l : Lab} {r : List AV} {x : AV} (hl : H l = some (.rows e [r])) (hn : r.length = n) (hu : u ≠ t) : cZ H [(t, .ptr l e 0 0), (u, x)] [.cell t n true, .tmp u] = some (.tuple [.agg r, x]) := by
  subst hn
  simp [cZ, dN, eV, aI, qU hl, hu]
inductive FrLs (Z : Lab → Prop) (H : aB) : List AV → List AV → Prop
  | nil : FrLs Z H [] []
  | cons {x y : AV} {xs ys : List AV} : Fr Z H x y → FrLs Z H xs ys → FrLs Z H (x :: xs) (y :: ys)
theorem FrLs.same {Z : Lab → Prop} {H : aB} : ∀ {xs : List AV}, FrLs Z H xs xs
  | [] => .nil
  | _ :: _ => .cons (.refl _) .same
theorem FrLs.get {Z : Lab → Prop} {H : aB} : ∀ {xs ys : List AV}, FrLs Z H xs ys → xs.length = ys.length ∧ ∀ (i : Nat) d, ys[i]? = some d → Fr Z H (xs.getD i .nilf) d ∧ xs[i]? = some (xs.getD i .nilf)
  | [], _, .nil => ⟨rfl, fun i d h => by simp at h⟩
  | x :: xs, _, .cons h hs => by
    obtain ⟨h1, h2⟩ := hs.get
    refine ⟨by simp [h1], fun i d hd => ?_⟩
    cases i with
    | zero => simp at hd; subst hd; exact ⟨by simpa using h, by simp⟩
    | succ i => simpa using h2 i d (by simpa using hd)
theorem FrLs.agg {Z : Lab → Prop} {H : aB} {xs ys : List AV} (h : FrLs Z H xs ys) : Fr Z H (.agg xs) (.agg ys) := .agg _ _ h.get.1 (fun i => xs.getD i .nilf) (fun i d hd => (h.get.2 i d hd).2) (fun i d hd => (h.get.2 i d hd).1)
theorem FrLs.tuple {Z : Lab → Prop} {H : aB} {xs ys : List AV} (h : FrLs Z H xs ys) : Fr Z H (.tuple xs) (.tuple ys) := .tuple _ _ h.get.1 (fun i => xs.getD i .nilf) (fun i d hd => (h.get.2 i d hd).2) (fun i d hd => (h.get.2 i d hd).1)
theorem Fr.rows {Z : Lab → Prop} {H : aB} {l : Lab} {e : Nat} {rows : List (List AV)} (hz : Z l) (hl : H l = some (.rows e rows)) (hr : ∀ r ∈ rows, gC e r) {n : Nat} (hn : rows.length = n) : Fr Z H (.sl l e 0 n) (.isl e rows) :=
  .own l e 0 n rows rows (fun i j => (aC rows i j).getD .nilf) hz hl hn hr (fun i j x hx => by simp [hx]) (fun i j x hx => by simp [hx]; exact .refl _)
theorem Own.cells {x : AV} {e : Nat} {rows : List (List AV)} (h : Own H x e rows) : x.cells = [x] ∧ x.one = true := by
  rcases h with ⟨rfl, _⟩ | ⟨l, rfl, _⟩ <;> exact ⟨rfl, rfl⟩
/-- rows that came in, onto one's own -/
theorem app_isl {x : AV} {e b : Nat} {old rows : List (List AV)} (h : Own H x e old) (he : 0 < e) (h1 : (old.length + rows.length) * b ≤ 140737488355328) (h2 : old.length + rows.length ≤ 4611686018427387904) (hq : H q = none)
    (hk : ∀ x' H' l f, Own H' x' e (old ++ rows) → k7 x H H' → KK x' H' l f) : bO (.append e b) [x, .isl e rows] H q KK := by
  cases rows with
  | nil =>
    refine ⟨.pure x, ?_, hk x H [] (some []) (by simpa using h) (fun k o hk _ => hk)⟩
    rcases h with ⟨rfl, rfl⟩ | ⟨l, rfl, hl⟩ <;> simp [aop, dG, fF]
  | cons r rows => exact app_own h (rows_isl (H := H)) (by simp) he h1 h2 hq hk
/-- what reads the same without any change -/
theorem fr0_rep {H : aB} {ρ : aH} {R : Imm} {x y : AV} (h : Fr (fun _ => False) H x y) : ∀ {v : Value}, RepV ρ R x v → RepV ρ R y v := by
  induction h with
  | refl x => intro v hv; exact hv
  | own l e off n rs rows g hz => exact hz.elim
  | ptr l e i j rs rows g hz => exact hz.elim
  | nils e => intro v hv; cases hv; exact .isl0 _ _ _ (fun _ => rfl)
  | sl0 e => intro v hv; cases hv; exact .isl0 _ _ _ (fun _ => rfl)
  | agg cs ds hl g h1 h2 ih =>
    intro v hv
    cases hv with
    | agg _ C hC hc => exact .agg _ _ (by omega) (fun i d hd => ih i d hd (hc i _ (h1 i d hd)))
  | tuple cs ds hl g h1 h2 ih =>
    intro v hv
    cases hv with
    | tuple _ C hC hc => exact .tuple _ _ (by omega) (fun i d hd => ih i d hd (hc i _ (h1 i d hd)))
theorem oB {H : aB} {ρ : aH} {R : Imm} : ∀ {xs ys : List AV} {vs : List Value}, FrLs (fun _ => False) H xs ys → RepL ρ R xs vs → RepL ρ R ys vs
  | [], _, vs, .nil, h => h
  | x :: xs, _, vs, .cons h hs, hv => by
    obtain ⟨v, us, rfl, h1, h2⟩ := hv.head
    exact .cons (fr0_rep h h1) (oB hs h2)
/-- a function that only reckons, at arguments that read as those of its contract -/
theorem call_pure_w {s : Bool} {f : Nat} {xs xs' : List AV} {y : AV} (h : kD P f xs' y) (hw : FrLs (fun _ => False) (fun _ => none) xs xs') (hk : KK y H [] (some [])) : dS s P f xs H q KK :=
  Or.inl ⟨_, ⟨(h H q).1, (h H q).2.1, fun ρ R vs hvs => (h H q).2.2 ρ R vs (oB hw hvs)⟩, hk⟩
end
end Go.Proofs.Ytigjoggpaamodaa
/-! The abstract machine: maps whose keys are two numbers, on symbols. -/
namespace Go.Proofs.Ytigjoggpaamodaa
set_option linter.unusedVariables false
set_option linter.unusedSimpArgs false
section
variable {α : Type} (key : α → Int × Int) (enc : α → AV)
def gR (x : α) : AV × AV := (.agg [.int .i64 (key x).1, .int .i64 (key x).2], enc x)
/-- where a key stands, and with what -/
def gO (a b : Int) : List α → Nat → Option (Nat × α)
  | [], _ => none
  | x :: l, i => if (key x).1 = a ∧ (key x).2 = b then some (i, x) else gO a b l (i + 1)
variable {key enc}
theorem akeq_ii {a b c d : Int} : gE true [.int, .int] (.agg [.int .i64 a, .int .i64 b]) (.agg [.int .i64 c, .int .i64 d]) = some (decide (a = c) && decide (b = d)) := by
  simp [gE, bE, AV.isAgg, AV.cells, m5, ceq]
theorem iB {a b : Int} : ∀ {l : List α} {i : Nat}, cM true [.int, .int] (.agg [.int .i64 a, .int .i64 b]) (l.map (gR key enc)) i = some ((gO key a b l i).map fun p => (p.1, enc p.2))
  | [], i => rfl
  | x :: l, i => by
    simp only [List.map_cons, cM, gR, akeq_ii, Option.bind_some, gO]
    by_cases h : (key x).1 = a ∧ (key x).2 = b
    · simp [h]
    · have : (decide (a = (key x).1) && decide (b = (key x).2)) = false := by
        rw [Bool.eq_false_iff]; intro e; simp at e; exact h ⟨e.1.symm, e.2.symm⟩
      simp only [this, Bool.false_eq_true, if_false, if_neg h]
      exact iB
theorem loc_none {a b : Int} : ∀ {l : List α} {i : Nat}, gO key a b l i = none ↔ ∀ x ∈ l, ¬ ((key x).1 = a ∧ (key x).2 = b)
  | [], i => by simp [gO]
  | x :: l, i => by
    simp only [gO, List.mem_cons, forall_eq_or_imp]
    by_cases h : (key x).1 = a ∧ (key x).2 = b
    · simp [h]
    · rw [if_neg h, loc_none (l := l)]
      exact ⟨fun hx => ⟨h, hx⟩, fun hx => hx.2⟩
theorem loc_some {a b : Int} : ∀ {l : List α} {i j : Nat} {x : α}, gO key a b l i = some (j, x) → i ≤ j ∧ l[j - i]? = some x ∧ (key x).1 = a ∧ (key x).2 = b
  | [], i, j, x, h => by simp [gO] at h
  | y :: l, i, j, x, h => by
    simp only [gO] at h
    split at h
    · rename_i hc; cases h; exact ⟨Nat.le_refl _, by simp, hc.1, hc.2⟩
    · obtain ⟨h1, h2, h3, h4⟩ := loc_some h
      refine ⟨by omega, ?_, h3, h4⟩
      rw [show j - i = (j - (i + 1)) + 1 by omega]; exact h2
variable {H : aB} {q lM : Lab} {KK : KF} {L : List α} {bs : List Nat} {ck : Nat} {a b : Int}
theorem v_lookup (hl : H lM = some (.amap (L.map (gR key enc)) bs ck)) {zero : AV} {ok : Bool} : bO (.lookup true [.int, .int] zero ok) [.map lM, .agg [.int .i64 a, .int .i64 b]] H q KK =
    KK (match gO key a b L 0 with | some p => (if ok then .tuple [enc p.2, .bool true] else enc p.2) | none => (if ok then .tuple [zero, .bool false] else zero)) H [] (some [lM]) := by
  have hs : bE true [.int, .int] (.agg [.int .i64 a, .int .i64 b]) = true := by simp [bE, AV.isAgg, AV.cells]
  have : aop e7 (.lookup true [.int, .int] zero ok) [.map lM, .agg [.int .i64 a, .int .i64 b]] H q = some ⟨match gO key a b L 0 with | some p => (if ok then .tuple [enc p.2, .bool true] else enc p.2) | none => (if ok then .tuple [zero, .bool false] else zero), [], some [lM]⟩ := by
    simp only [aop, cJ, hs, if_true, hl, iB, Option.bind_some]
    cases gO key a b L 0 <;> simp
  simp [bO, this]; rfl
theorem v_len_m (hl : H lM = some (.amap (L.map (gR key enc)) bs ck)) : bO (.len .map) [.map lM] H q KK = KK (.int .i64 L.length) H [] (some [lM]) := by
  have : aop e7 (.len .map) [.map lM] H q = some ⟨.int .i64 L.length, [], some [lM]⟩ := by simp [aop, qM, hl]
  simp [bO, this]; rfl
/-- one more, of a key that is not there -/
theorem v_update (hl : H lM = some (.amap (L.map (gR key enc)) bs ck)) {x : α} (hk : gO key (key x).1 (key x).2 L 0 = none) : bO (.mapUpdate true [.int, .int]) [.map lM, .agg [.int .i64 (key x).1, .int .i64 (key x).2], enc x] H q KK =
    KK (.tuple []) (upd [(lM, some (.amap ((L ++ [x]).map (gR key enc)) (bs ++ [ck]) (ck + 1)))] H) [lM] (some [lM]) := by
  have hs : bE true [.int, .int] (.agg [.int .i64 (key x).1, .int .i64 (key x).2]) = true := by simp [bE, AV.isAgg, AV.cells]
  have : aop e7 (.mapUpdate true [.int, .int]) [.map lM, .agg [.int .i64 (key x).1, .int .i64 (key x).2], enc x] H q = some ⟨.tuple [], [(lM, some (.amap ((L ++ [x]).map (gR key enc)) (bs ++ [ck]) (ck + 1)))], some [lM]⟩ := by
    simp only [aop, cC, hs, if_true, hl, iB, hk, Option.map_none, Option.bind_some]
    simp [gR]
  simp [bO, this]
theorem erase_map {β : Type} {f : α → β} {l : List α} {i : Nat} : (l.map f).eraseIdx i = (l.eraseIdx i).map f := by
  simp [List.eraseIdx_eq_take_drop_succ, List.map_take, List.map_drop]
theorem v_delete (hl : H lM = some (.amap (L.map (gR key enc)) bs ck)) : bO (.delete true [.int, .int]) [.map lM, .agg [.int .i64 a, .int .i64 b]] H q KK =
    match gO key a b L 0 with
    | some p => KK (.tuple []) (upd [(lM, some (.amap ((L.eraseIdx p.1).map (gR key enc)) (bs.eraseIdx p.1) ck))] H) [lM] (some [lM])
    | none => KK (.tuple []) H [] (some [lM]) := by
  have hs : bE true [.int, .int] (.agg [.int .i64 a, .int .i64 b]) = true := by simp [bE, AV.isAgg, AV.cells]
  have : aop e7 (.delete true [.int, .int]) [.map lM, .agg [.int .i64 a, .int .i64 b]] H q = some (match gO key a b L 0 with | some p => ⟨.tuple [], [(lM, some (.amap ((L.eraseIdx p.1).map (gR key enc)) (bs.eraseIdx p.1) ck))], some [lM]⟩ | none => ⟨.tuple [], [], some [lM]⟩) := by
    simp only [aop, iD, hs, if_true, hl, iB, Option.bind_some]
    cases gO key a b L 0 <;> simp [erase_map]
  unfold bO
  rw [this]
  cases gO key a b L 0 <;> simp <;> rfl
theorem v_mkmap : bO .mkmap [] H q KK = KK (.map q) (upd [(q, some (.amap [] [] 0))] H) [q] (some []) := by
  simp [bO, aop]
end
end Go.Proofs.Ytigjoggpaamodaa
/-! The abstract machine: operations in any order that do not meet: pair by pair. -/
namespace Go.Proofs.Ytigjoggpaamodaa
set_option linter.unusedVariables false
set_option linter.unusedSimpArgs false
def rX (φ : Nat → Tr → Prop) (ps : List (Nat × Tr)) : Prop := ∀ b ∈ ps, φ b.1 b.2
theorem cf_nil {m : List Nat} : cU m [] := fun a ha => by cases ha
theorem allp_nil {φ : Nat → Tr → Prop} : rX φ [] := fun a ha => by cases ha
theorem allp_add {φ : Nat → Tr → Prop} {j : Nat} {l : List Lab} {q : Lab} {f : Option (List Lab)} {ps : List (Nat × Tr)} (h1 : φ j ⟨l, q, f⟩) (h2 : rX φ ps) : rX φ (bT j l q f ps) := fun b hb => by
  rcases dY hb with rfl | hb
  · exact h1
  · exact h2 b hb
theorem ordered_symm {m : List Nat} {i j : Nat} : bM m i j = bM m j i := by unfold bM; rw [Bool.or_comm]
theorem cf_add {m : List Nat} {j : Nat} {l : List Lab} {q : Lab} {f : Option (List Lab)} {ps : List (Nat × Tr)} (h : cU m ps) (hb : rX (fun i b => bM m j i = true ∨ (gT j i ⟨l, q, f⟩ b = false ∧ gT i j b ⟨l, q, f⟩ = false)) ps) : cU m (bT j l q f ps) := fun a ha b hb' hne ho => by
  rcases dY ha with rfl | ha
  · rcases dY hb' with rfl | hb'
    · exact absurd rfl hne
    · rcases hb b hb' with h1 | h1
      · rw [h1] at ho; cases ho
      · exact h1.1
  · rcases dY hb' with rfl | hb'
    · rcases hb a ha with h1 | h1
      · rw [ordered_symm, h1] at ho; cases ho
      · exact h1.2
    · exact h a ha b hb' hne ho
theorem fT {s : Bool} {P : Program} {H : aB} {p : Lab} {KK : KF} {c : Nat} {f : Nat} {xs : List AV} {y : AV} {u : Chg} {foot : Option (List Lab)} (h : aK P f xs H (c :: p) ⟨y, u, foot⟩) (hf : Fresh p c H) (hk : ∀ H', (∀ l, H' l = upd u H l) → Fresh p (c + 1) H' → KK y H' (u.map (·.1)) foot) : dS s P f xs H (c :: p) KK :=
  mS h (hk _ (fun _ => rfl) (hf.after h))
theorem Fresh.old {H : aB} {p l : Lab} {c : Nat} {o : Option AO} (h : Fresh p c H) (hl : H l ≠ none) : Fresh p c (Ytigjoggpaamodaa.upd [(l, o)] H) := fun k s hk => by
  rw [d6 (fun e => hl (by rw [← e]; exact h k s hk)), bL]; exact h k s hk
end Go.Proofs.Ytigjoggpaamodaa
/-! The abstract machine: calls that are run out, some of them by contract. -/
namespace Go.Proofs.Ytigjoggpaamodaa
set_option linter.unusedVariables false
set_option linter.unusedSimpArgs false
/-- calls that are run out, so deep; some by what is known of them -/
def kQ (ext : aQ) (tbl : Nat → Option AFun) (fuel : Nat) : Nat → aQ
  | 0, _, _, _, _ => none
  | d + 1, f, xs, H, q => match ext f xs H q with
    | some r => some r
    | none => (tbl f).bind fun A => if xs.length = A.np then (bS (kQ ext tbl fuel d) H q fuel A.body (bR xs)).bind fun r => match r.1 with
      | .exit _ => none
      | .goto _ => none
      | _ => (cZ (upd r.2.ov H) r.2.regs A.res).bind fun x => if s8 H q r.2.ov then some ⟨x, r.2.ov, none⟩ else none
      else none
theorem qH {P : Program} (hm : P.follows .mixedOrders = true) {ext : aQ} (he : aY P ext) {tbl : Nat → Option AFun} (ht : ∀ f A, tbl f = some A → FunOk P f A) (fuel : Nat) : ∀ d, aY P (kQ ext tbl fuel d)
  | 0 => fun f xs H q r h => by simp [kQ] at h
  | d + 1 => fun f xs H q r h => by
    have ih := qH hm he ht fuel d
    simp only [kQ] at h
    split at h
    · rename_i r' hr'
      cases h
      exact he f xs H q _ hr'
    simp only [Option.bind_eq_some_iff] at h
    obtain ⟨A, hA, h⟩ := h
    have hF := ht f A hA
    split at h
    · rename_i hlen
      simp only [Option.bind_eq_some_iff] at h
      obtain ⟨⟨e, s⟩, he, h⟩ := h
      have hne : e = .normal ∨ e = .ret := by
        cases e with
        | normal => exact .inl rfl
        | exit k => cases h
        | ret => exact .inr rfl
        | goto k => cases h
      have h' : (cZ (upd s.ov H) s.regs A.res).bind (fun x => if s8 H q s.ov then some (⟨x, s.ov, none⟩ : Res) else none) = some r := by
        rcases hne with rfl | rfl <;> exact h
      simp only [Option.bind_eq_some_iff] at h'
      obtain ⟨x, hx, h'⟩ := h'
      split at h'
      · rename_i hov
        simp only [Option.some.injEq] at h'
        subst h'
        obtain ⟨fn, c, hf, hb, hn, _⟩ := hF.ex
        refine ⟨⟨fn, hf, by rw [hb]; rfl, hn⟩, ?_, ?_⟩
        · rintro l ⟨pr, hp, rfl⟩
          have := List.all_eq_true.1 hov pr hp
          simp only [Bool.or_eq_true] at this
          rcases this with h1 | h1
          · exact .inr (fP h1)
          · refine .inl ?_
            simp only [restr]
            intro e0; rw [e0] at h1; cases h1
        · intro ρ R vs hvs w hR hfr
          simp only [restr] at hR
          have := h9 hm ih hF hlen (K := fun y u => y = x ∧ u = s.ov) (qA he ⟨hne, x, s.ov, hx, fun l o h => h, rfl, rfl⟩) hvs w hR hfr
          refine Calls.mono this ?_
          rintro e' w' ⟨v, rfl, y, u, ρ', R', ⟨rfl, rfl⟩, hF', hv, hR'⟩
          exact ⟨v, rfl, ρ', R', hF', hv, hR'⟩
      · cases h'
    · cases h
end Go.Proofs.Ytigjoggpaamodaa
/-! Rewriting lemmas, in one. -/
namespace Go.Proofs.Ytigjoggpaamodaa
set_option linter.unusedVariables false
set_option linter.unusedSimpArgs false
set_option maxRecDepth 100000
set_option linter.unusedVariables false
theorem vsb : type_of% (And.intro (@tO) (And.intro (@tQ) (And.intro (@sH) (And.intro (@sI) (And.intro (@sF) (And.intro (@sG) (And.intro (@tH) (And.intro (@tI) (And.intro (@tJ) (And.intro (@tK) (And.intro (@tM) (And.intro (@tE) (And.intro (@sB) (And.intro (@tC) (And.intro (@tD) (And.intro (@tF) (And.intro (@tG) (And.intro (@pH) (And.intro (@pI) (And.intro (@sA) (And.intro (@r9) (And.intro (@r8) (And.intro (@nL) (And.intro (@List.length_map.{0,0}) (And.intro (@lE) (And.intro (@nK) (And.intro (@pK) (And.intro (@pL) (And.intro (@q3) (And.intro (@nH) (And.intro (@lC) (And.intro (@pM) (And.intro (@nM) (And.intro (@sY) (And.intro (@sX) (And.intro (@rU) (And.intro (@rT) (And.intro (@rS) (And.intro (@qG) (And.intro (@lD) (And.intro (@nJ) (And.intro (@nN) (And.intro (@lF) (And.intro (@pJ) (And.intro (@rF) (And.intro (@rG) (And.intro (@nG) (And.intro (@oR) (And.intro (@jA) (And.intro (@kF) (And.intro (@bL) (And.intro (@tN) (And.intro (@tL) (And.intro (@qB) (And.intro (@sW) (And.intro (@pN) (And.intro (@nI) (And.intro (@pQ) (And.intro (@pR) (And.intro (@nR) (And.intro (@nS) (And.intro (@Int.toNat_natCast) (And.intro (@uU) (And.intro (@uT) (And.intro (@Bool.not_true) (And.intro (@Bool.not_false) (And.intro (@Bool.false_eq_true) (And.intro (@decide_true) (And.intro (@decide_false) (And.intro (@i9) (And.intro (@iE) (And.intro (@p9) (And.intro (@oD) (And.intro (@List.length_cons.{0}) (And.intro (@List.length_nil.{0}) (And.intro (@List.take_succ_cons.{0}) (And.intro (@List.take_zero.{0}) (And.intro (@List.take_nil.{0}) (And.intro (@List.drop_succ_cons.{0}) (And.intro (@List.drop_zero.{0}) (And.intro (@List.drop_nil.{0}) (And.intro (@List.cons_append.{0}) (And.intro (@List.nil_append.{0}) (And.intro (@List.append_nil.{0}) (And.intro (@List.all_cons.{0}) (And.intro (@List.all_nil.{0}) (And.intro (@and_self) (And.intro (@and_true) (And.intro (@true_and) (And.intro (@Nat.zero_add) (And.intro (@ne_eq.{1}) (And.intro (@Nat.succ_ne_zero) (And.intro (@not_false_eq_true) (And.intro (@Bool.and_self) (@Nat.le_refl))))))))))))))))))))))))))))))))))))))))))))))))))))))))))))))))))))))))))))))))))))))))))))))) := And.intro (@tO) (And.intro (@tQ) (And.intro (@sH) (And.intro (@sI) (And.intro (@sF) (And.intro (@sG) (And.intro (@tH) (And.intro (@tI) (And.intro (@tJ) (And.intro (@tK) (And.intro (@tM) (And.intro (@tE) (And.intro (@sB) (And.intro (@tC) (And.intro (@tD) (And.intro (@tF) (And.intro (@tG) (And.intro (@pH) (And.intro (@pI) (And.intro (@sA) (And.intro (@r9) (And.intro (@r8) (And.intro (@nL) (And.intro (@List.length_map.{0,0}) (And.intro (@lE) (And.intro (@nK) (And.intro (@pK) (And.intro (@pL) (And.intro (@q3) (And.intro (@nH) (And.intro (@lC) (And.intro (@pM) (And.intro (@nM) (And.intro (@sY) (And.intro (@sX) (And.intro (@rU) (And.intro (@rT) (And.intro (@rS) (And.intro (@qG) (And.intro (@lD) (And.intro (@nJ) (And.intro (@nN) (And.intro (@lF) (And.intro (@pJ) (And.intro (@rF) (And.intro (@rG) (And.intro (@nG) (And.intro (@oR) (And.intro (@jA) (And.intro (@kF) (And.intro (@bL) (And.intro (@tN) (And.intro (@tL) (And.intro (@qB) (And.intro (@sW) (And.intro (@pN) (And.intro (@nI) (And.intro (@pQ) (And.intro (@pR) (And.intro (@nR) (And.intro (@nS) (And.intro (@Int.toNat_natCast) (And.intro (@uU) (And.intro (@uT) (And.intro (@Bool.not_true) (And.intro (@Bool.not_false) (And.intro (@Bool.false_eq_true) (And.intro (@decide_true) (And.intro (@decide_false) (And.intro (@i9) (And.intro (@iE) (And.intro (@p9) (And.intro (@oD) (And.intro (@List.length_cons.{0}) (And.intro (@List.length_nil.{0}) (And.intro (@List.take_succ_cons.{0}) (And.intro (@List.take_zero.{0}) (And.intro (@List.take_nil.{0}) (And.intro (@List.drop_succ_cons.{0}) (And.intro (@List.drop_zero.{0}) (And.intro (@List.drop_nil.{0}) (And.intro (@List.cons_append.{0}) (And.intro (@List.nil_append.{0}) (And.intro (@List.append_nil.{0}) (And.intro (@List.all_cons.{0}) (And.intro (@List.all_nil.{0}) (And.intro (@and_self) (And.intro (@and_true) (And.intro (@true_and) (And.intro (@Nat.zero_add) (And.intro (@ne_eq.{1}) (And.intro (@Nat.succ_ne_zero) (And.intro (@not_false_eq_true) (And.intro (@Bool.and_self) (@Nat.le_refl))))))))))))))))))))))))))))))))))))))))))))))))))))))))))))))))))))))))))))))))))))))))))))))
end Go.Proofs.Ytigjoggpaamodaa
/-! The abstract machine: a map's literal, its entries laid in whatever order. -/
namespace Go.Proofs.Ytigjoggpaamodaa
set_option linter.unusedVariables false
set_option linter.unusedSimpArgs false
def s3 (Q : Nat → AIns → Prop) : Nat → List AIns → Prop
  | _, [] => True
  | k, x :: l => Q k x ∧ s3 Q (k + 1) l
theorem all_idx {Q : Nat → AIns → Prop} : ∀ {l : List AIns} {k : Nat}, s3 Q k l → ∀ j i, l[j]? = some i → Q (k + j) i
  | [], _, _, j, i, h => by simp at h
  | x :: l, k, hq, j, i, h => by
    cases j with
    | zero => simp at h; subst h; exact hq.1
    | succ j =>
      have := all_idx hq.2 j i (by simpa using h)
      rwa [show k + 1 + j = k + (j + 1) by omega] at this
theorem v_conv {H : aB} {q : Lab} {KK : KF} {k : IntKind} {n : Int} (h1 : -9223372036854775808 ≤ n) (h2 : n ≤ 9223372036854775807) : bO (.conv .i64) [.int k n] H q KK = KK (.int .i64 n) H [] (some []) := by
  have : aop e7 (.conv .i64) [.int k n] H q = some (.pure (.int .i64 n)) := by simp [aop, eU, inR, h1, h2]
  simp [bO, this]; rfl
theorem qK {agg : Bool} {ks : List CK} {k : AV} : ∀ {es : List (AV × AV)} {i : Nat}, (∀ e ∈ es, gE agg ks k e.1 = some false) → cM agg ks k es i = some none
  | [], _, _ => rfl
  | e :: es, i, h => by
    simp only [cM, h e (by simp), Option.bind_some, Bool.false_eq_true, if_false]
    exact qK (fun x hx => h x (by simp [hx]))
theorem kL {rl V : RL} : ∀ {xs : List AArg}, (∀ a, AArg.t a ∈ xs → aI rl a = aI V a) → bJ rl xs = bJ V xs
  | [], _ => rfl
  | x :: xs, h => by
    have ih := kL (xs := xs) (fun a ha => h a (by simp [ha]))
    simp only [bJ, ih]
    cases x with
    | t a => simp only [c3, h a (by simp)]
    | c v => rfl
def qX (ops : List AIns) (masks base : List Nat) (j : Nat) (xs : List AArg) : Bool := xs.all fun
  | .t a => base.contains a || (List.range ops.length).any fun k => (masks.getD j 0).testBit k && ((ops[k]?).bind (·.dst)) == some a
  | .c _ => true
/-- the entries of those that are done -/
def bD (U : List (Nat × (AV × AV))) (D : Nat → Bool) : List (AV × AV) := (U.filter fun u => D u.1).map (·.2)
theorem ents_add {U : List (Nat × (AV × AV))} {D : Nat → Bool} {j : Nat} {e : AV × AV} (hn : (U.map (·.1)).Nodup) (hj : (j, e) ∈ U) (hD : D j = false) : (bD U D ++ [e]).Perm (bD U (a7 D j)) := by
  induction U with
  | nil => cases hj
  | cons u U ih =>
    rw [List.map_cons, List.nodup_cons] at hn
    have rest : ∀ V : List (Nat × (AV × AV)), j ∉ V.map (·.1) → bD V (a7 D j) = bD V D := by
      intro V hV
      unfold bD
      congr 1
      refine List.filter_congr fun x hx => ?_
      have : x.1 ≠ j := fun e => hV (e ▸ List.mem_map_of_mem hx)
      simp [a7, this]
    rcases List.mem_cons.1 hj with h | h
    · subst h
      have e1 : bD ((j, e) :: U) D = bD U D := by simp [bD, hD]
      have e2 : bD ((j, e) :: U) (a7 D j) = e :: bD U (a7 D j) := by simp [bD, a7]
      rw [e1, e2, rest U hn.1]
      exact List.perm_append_singleton _ _
    · have hne : u.1 ≠ j := fun e' => hn.1 (e' ▸ List.mem_map_of_mem (f := (·.1)) h)
      have ih := ih hn.2 h
      cases hu : D u.1
      · have e1 : bD (u :: U) D = bD U D := by simp [bD, hu]
        have e2 : bD (u :: U) (a7 D j) = bD U (a7 D j) := by simp [bD, a7, hu, hne]
        rw [e1, e2]; exact ih
      · have e1 : bD (u :: U) D = u.2 :: bD U D := by simp [bD, hu]
        have e2 : bD (u :: U) (a7 D j) = u.2 :: bD U (a7 D j) := by simp [bD, a7, hu]
        rw [e1, e2]; exact ih.cons _
section
variable (P : Program) (call : aQ) (ops : List AIns) (masks base : List Nat) (V : RL) (U : List (Nat × (AV × AV))) (agg : Bool) (ks : List CK) (lM : Lab)
/-- an operation of a map's literal -/
inductive LitOp : Nat → AIns → Prop
  | mk (t : Nat) (hv : aI V t = some (.map lM)) : LitOp 0 ⟨some t, none, .mkmap, []⟩
  | upd (j : Nat) (m k v : AArg) (kv vv : AV) (hd : qX ops masks base j [m, k, v] = true) (h0 : (masks.getD j 0).testBit 0 = true) (he : bJ V [m, k, v] = some [.map lM, kv, vv]) (hu : (j, (kv, vv)) ∈ U) : LitOp j ⟨none, none, .mapUpdate agg ks, [m, k, v]⟩
  | val (j t : Nat) (ak : AK) (xs : List AArg) (ys : List AV) (x : AV) (f : Option (List Lab)) (hd : qX ops masks base j xs = true) (he : bJ V xs = some ys) (hr : ∀ H q, aop call ak ys H q = some ⟨x, [], f⟩) (hv : aI V t = some x) (hj : j ≠ 0) (hu : j ∉ U.map (·.1)) : LitOp j ⟨some t, none, ak, xs⟩
end
section
variable {P : Program} {call : aQ} {ops : List AIns} {masks base : List Nat} {V : RL} {U : List (Nat × (AV × AV))} {agg : Bool} {ks : List CK} {H0 : aB} {p : Lab}
theorem nd_lit {s : ASt} {keep : List Nat} {Q : a4} (hb : ∀ a ∈ base, aI s.regs a = aI V a) (hops : ∀ j i, ops[j]? = some i → LitOp call ops masks base V U agg ks (s.c :: p) j i)
    (hU : (U.map (·.1)).Nodup) (hk : ∀ u ∈ U, bE agg ks u.2.1 = true ∧ ∀ u' ∈ U, u'.1 ≠ u.1 → gE agg ks u.2.1 u'.2.1 = some false) (hUo : ∀ u ∈ U, u.1 < ops.length ∧ u.1 ≠ 0) (h0 : 0 < ops.length)
    (hQ : ∀ rl ov es, (∀ (k : Nat) i t, ops[k]? = some i → i.dst = some t → aI rl t = aI V t) → upd ov H0 (s.c :: p) = some (.amap es (List.range es.length) es.length) → es.Perm (U.map (·.2)) → (∀ l, l ≠ s.c :: p → upd ov H0 l = upd s.ov H0 l) → ∃ s', Weak H0 p ⟨restrict rl keep, ov, s.c + ops.length⟩ s' ∧ Q .normal s') :
    uX H0 p call ops masks keep Q s := by
  refine ⟨fun D rl ov => (∀ a ∈ base, aI rl a = aI V a) ∧ (∀ (k : Nat) i t, D k = true → ops[k]? = some i → i.dst = some t → aI rl t = aI V t) ∧
    (D 0 = true → ∃ es, upd ov H0 (s.c :: p) = some (.amap es (List.range es.length) es.length) ∧ es.Perm (bD U D)) ∧ (∀ u ∈ U, D u.1 = true → D 0 = true) ∧ ∀ l, l ≠ s.c :: p → upd ov H0 l = upd s.ov H0 l,
    ⟨hb, fun k i t h => (by cases h), fun h => (by cases h), fun u _ h => (by cases h), fun l _ => rfl⟩, ?_, ?_⟩
  · rintro D rl ov j i ⟨h1, h2, h3, h4, h5⟩ hi hj hm
    have deps : ∀ {xs : List AArg}, qX ops masks base j xs = true → bJ rl xs = bJ V xs := fun {xs} hd => kL fun a ha => by
      have := List.all_eq_true.1 hd _ ha
      simp only [Bool.or_eq_true, List.contains_iff_mem, List.any_eq_true, List.mem_range, Bool.and_eq_true, beq_iff_eq] at this
      rcases this with hb' | ⟨k, _, hk1, hk2⟩
      · exact h1 a hb'
      · cases hok : ops[k]? with
        | none => rw [hok] at hk2; cases hk2
        | some ik => rw [hok] at hk2; exact h2 k ik a (hm k hk1) hok hk2
    cases hops j i hi with
    | mk t hv =>
      have hnone : bD U D = [] := by
        unfold bD
        rw [List.map_eq_nil_iff, List.filter_eq_nil_iff]
        intro u hu hDu
        rw [h4 u hu hDu] at hj; cases hj
      refine ⟨⟨false, .map (s.c :: p), [(s.c :: p, some (.amap [] [] 0))], s.c :: p, some []⟩, by simp [aN, cV, bJ, aop], fun a ha => ?_, fun k i' t' hDk hik hdt => ?_, fun _ => ⟨[], ?_, ?_⟩, fun u hu _ => by simp [a7], fun l hl => ?_⟩
      · simp only [aW, cS]
        split
        · rename_i e; rw [e, hv]
        · exact h1 a ha
      · simp only [aW, cS]
        split
        · rename_i e; rw [e, hv]
        · rename_i hne
          simp only [a7, Bool.or_eq_true, beq_iff_eq] at hDk
          rcases hDk with rfl | hDk
          · rw [hi] at hik; cases hik; simp only [Option.some.injEq] at hdt; exact absurd hdt.symm hne
          · exact h2 k i' t' hDk hik hdt
      · rw [aX]; simp [upd]
      · have e : bD U (a7 D 0) = bD U D := by
          unfold bD
          congr 1
          refine List.filter_congr fun u hu => ?_
          have e := (hUo u hu).2
          simp [a7, e]
        rw [e, hnone]
      · rw [aX]
        simp only [upd]
        rw [if_neg hl]
        exact h5 l hl
    | upd _ m k v kv vv hd hm0 he hu =>
      obtain ⟨es, g1, g2⟩ := h3 (hm 0 hm0)
      have hev := (deps hd).trans he
      have hno : cM agg ks kv es 0 = some none := qK (fun e he' => by
        have h6 := g2.subset he'
        obtain ⟨u', hu', rfl⟩ := List.mem_map.1 h6
        obtain ⟨hu1, hu2⟩ := List.mem_filter.1 hu'
        exact (hk _ hu).2 u' hu1 (fun e => by simp only at e; rw [e, hj] at hu2; cases hu2))
      have hup : cC agg ks (.map (s.c :: p)) kv vv (upd ov H0) = some ⟨.tuple [], [(s.c :: p, some (.amap (es ++ [(kv, vv)]) (List.range es.length ++ [es.length]) (es.length + 1)))], some [s.c :: p]⟩ := by
        simp only [cC, (hk _ hu).1, if_true, g1, hno, Option.bind_some]
      have hrun : cV call H0 p ⟨none, none, .mapUpdate agg ks, [m, k, v]⟩ ⟨rl, ov, s.c + j⟩ = some ⟨false, .tuple [], [(s.c :: p, some (.amap (es ++ [(kv, vv)]) (List.range es.length ++ [es.length]) (es.length + 1)))], (s.c + j) :: p, some [s.c :: p]⟩ := by
        simp only [cV, hev, Option.bind_some, aop, hup]
      have hj0 : D 0 = true := hm 0 hm0
      refine ⟨_, by simpa only [aN] using hrun, h1, fun k' i' t' hDk hik hdt => ?_, fun _ => ⟨es ++ [(kv, vv)], ?_, ?_⟩, fun u _ _ => by simp [a7, hj0], fun l hl => ?_⟩
      · simp only [a7, Bool.or_eq_true, beq_iff_eq] at hDk
        rcases hDk with rfl | hDk
        · rw [hi] at hik; cases hik; cases hdt
        · exact h2 k' i' t' hDk hik hdt
      · rw [aX]; simp [upd, List.range_succ]
      · exact (g2.append_right _).trans (ents_add hU hu hj)
      · rw [aX]
        simp only [upd]
        rw [if_neg hl]
        exact h5 l hl
    | val _ t ak xs ys x f hd he hr hv hj0 hu =>
      have hev := (deps hd).trans he
      have hrun : cV call H0 p ⟨some t, none, ak, xs⟩ ⟨rl, ov, s.c + j⟩ = some ⟨false, x, [], (s.c + j) :: p, f⟩ := by
        simp only [cV, hev, Option.bind_some, hr]
      have hents : bD U (a7 D j) = bD U D := by
        unfold bD
        congr 1
        refine List.filter_congr fun u hu' => ?_
        have e : u.1 ≠ j := fun e => hu (e ▸ List.mem_map_of_mem (f := (·.1)) hu')
        simp [a7, e]
      refine ⟨_, by simpa only [aN] using hrun, fun a ha => ?_, fun k' i' t' hDk hik hdt => ?_, fun hD0 => ?_, fun u hu' hDu => ?_, fun l hl => by rw [aX]; exact h5 l hl⟩
      · simp only [aW, cS]
        split
        · rename_i e; rw [e, hv]
        · exact h1 a ha
      · simp only [aW, cS]
        split
        · rename_i e; rw [e, hv]
        · rename_i hne
          simp only [a7, Bool.or_eq_true, beq_iff_eq] at hDk
          rcases hDk with rfl | hDk
          · rw [hi] at hik; cases hik; simp only [Option.some.injEq] at hdt; exact absurd hdt.symm hne
          · exact h2 k' i' t' hDk hik hdt
      · simp only [a7, Bool.or_eq_true, beq_iff_eq] at hD0
        rcases hD0 with e | hD0
        · exact absurd e.symm hj0
        · obtain ⟨es, g1, g2⟩ := h3 hD0
          exact ⟨es, by rw [aX]; exact g1, by rw [hents]; exact g2⟩
      · simp only [a7, Bool.or_eq_true, beq_iff_eq] at hDu ⊢
        rcases hDu with e | hDu
        · exact absurd (e ▸ List.mem_map_of_mem (f := (·.1)) hu') hu
        · exact .inr (h4 u hu' hDu)
  · rintro D rl ov hD ⟨h1, h2, h3, h4, h5⟩
    obtain ⟨es, g1, g2⟩ := h3 (hD 0 h0)
    have hall : bD U D = U.map (·.2) := by
      unfold bD
      rw [List.filter_eq_self.2 (fun u hu => hD u.1 (hUo u hu).1)]
    rw [hall] at g2
    exact hQ rl ov es (fun k i t hik hdt => h2 k i t (hD k (List.getElem?_eq_some_iff.1 hik).1) hik hdt) g1 g2 h5
end
end Go.Proofs.Ytigjoggpaamodaa
/-! The abstract machine: contracts that leave open which of its outcomes a call yields. -/
namespace Go.Proofs.Ytigjoggpaamodaa
set_option linter.unusedVariables false
set_option linter.unusedSimpArgs false
/-- a body's end, where what comes out is not told ahead -/
def VRE (q : Lab) (H0 : aB) (res : List AResV) (Φ : AV → Chg → Prop) : aD := fun e r H _ => (e = .normal ∨ e = .ret) ∧ ∃ x y u, cZ H r res = some x ∧ Φ y u ∧ (∀ l, u.has l → H0 l ≠ none ∨ Under q l) ∧ Fr (fun l => upd u H0 l = none ∧ H l ≠ none) H x y ∧ ∀ l o, upd u H0 l = some o → H l = some o
theorem soundE_vc {P : Program} (hm : P.follows .mixedOrders = true) {f : Nat} {A : AFun} (hA : FunOk P f A) {xs : List AV} (hlen : xs.length = A.np) {H : aB} {q : Lab} {Φ : AV → Chg → Prop}
    (h : vc P q A.body (VRE q H A.res Φ) (params 0 xs) H 0) : SoundE P f xs H q Φ := by
  refine soundE_of_gwp hm hA hlen ?_
  refine bZ (fun e s he => ?_) (lB (ov := []) (H0 := H) h)
  obtain ⟨he, x, y, u, hx, hΦ, hu, hf, hl⟩ := he
  exact ⟨he, x, y, u, hx, hΦ, hu, hf, hl⟩
theorem SoundE.mono {P : Program} {f : Nat} {xs : List AV} {H : aB} {q : Lab} {Φ Ψ : AV → Chg → Prop} (h : SoundE P f xs H q Φ) (hk : ∀ x u, Φ x u → (∀ l, u.has l → H l ≠ none ∨ Under q l) → Ψ x u) : SoundE P f xs H q Ψ := by
  refine ⟨h.1, fun ρ R vs hvs w hR hfr => ?_⟩
  refine Calls.mono (h.2 ρ R vs hvs w hR hfr) ?_
  rintro e w' ⟨v, rfl, x, u, ρ', R', h1, h2, h3, h4, h5⟩
  exact ⟨v, rfl, x, u, ρ', R', hk x u h1 h2, h2, h3, h4, h5⟩
section
variable {P : Program} {H : aB} {p q : Lab} {KK : KF}
theorem call_e {f : Nat} {xs : List AV} {Φ : AV → Chg → Prop} (h : SoundE P f xs H q Φ) (hk : ∀ x u, Φ x u → KK x (upd u H) (u.map (·.1)) none) : dS true P f xs H q KK := Or.inr ⟨rfl, Φ, h, hk⟩
/-- .. and the labels to come are free -/
theorem call_e_gen {c : Nat} {f : Nat} {xs : List AV} {Φ : AV → Chg → Prop} (h : SoundE P f xs H (c :: p) Φ) (hf : Fresh p c H) (hk : ∀ x u H', Φ x u → (∀ l, H' l = upd u H l) → Fresh p (c + 1) H' → KK x H' (u.map (·.1)) none) : dS true P f xs H (c :: p) KK := by
  refine Or.inr ⟨rfl, _, h.mono (Ψ := fun x u => Φ x u ∧ ∀ l, u.has l → H l ≠ none ∨ Under (c :: p) l) (fun x u h1 h2 => ⟨h1, h2⟩), ?_⟩
  rintro x u ⟨h1, h2⟩
  refine hk x u _ h1 (fun _ => rfl) (fun k s hk => ?_)
  by_cases hh : u.has (s ++ k :: p)
  · rcases h2 _ hh with h3 | ⟨t, ht⟩
    · exact absurd (hf k s (by omega)) h3
    · exfalso
      have := bK (i := k) (j := c) (p := p) (l := s ++ k :: p) ⟨s, rfl⟩ ⟨t, ht⟩
      omega
  · rw [aR hh]; exact hf k s (by omega)
end
end Go.Proofs.Ytigjoggpaamodaa
/-! The abstract machine: one's own memory given away to a function that only reckons. -/
namespace Go.Proofs.Ytigjoggpaamodaa
set_option linter.unusedVariables false
set_option linter.unusedSimpArgs false
theorem fU {P : Program} {f : FuncId} {args : Array Value} {w : World} {K K' : Value → World → Prop} (hk : ∀ v w', K v w' → K' v w') (h : dL P f args w K) : dL P f args w K' :=
  Calls.mono h (by rintro e w' ⟨v, rfl, h'⟩; exact ⟨v, rfl, hk _ _ h'⟩)
theorem FrLs.rep {H : aB} {Z : Lab → Prop} {ρ : aH} {R : Imm} {w : World} (hR : Rep H ρ R w) (he : Ext ρ ρ R (frozenR Z ρ R w)) : ∀ {xs ys : List AV} {vs : List Value}, FrLs Z H xs ys → RepL ρ R xs vs → RepL ρ (frozenR Z ρ R w) ys vs
  | [], _, vs, .nil, h => by
    have := h.nil_inv; subst this; exact .nil
  | x :: xs, _, vs, .cons h hs, hv => by
    obtain ⟨v, us, rfl, h1, h2⟩ := hv.head
    exact .cons (mM hR he h h1) (FrLs.rep hR he hs h2)
theorem give_res {P : Program} {f : Nat} {xs xs' : List AV} {y : AV} {H : aB} {q : Lab} {ls : List Lab} (h : kD P f xs' y) (hfr : FrLs (fun l => l ∈ ls ∧ H l ≠ none) H xs xs') (hls : ∀ l ∈ ls, H l ≠ none) : aK P f xs H q ⟨y, ls.map (fun l => (l, none)), none⟩ := by
  have hhas : ∀ l, Chg.has (ls.map fun l => (l, (none : Option AO))) l → l ∈ ls := fun l ⟨p, hp, e⟩ => by
    obtain ⟨k, hk, rfl⟩ := List.mem_map.1 hp
    exact e ▸ hk
  have hnone : ∀ l o, upd (ls.map fun l => (l, (none : Option AO))) H l = some o → l ∉ ls ∧ H l = some o := fun l o hl => by
    by_cases hm : l ∈ ls
    · exfalso
      have : Chg.has (ls.map fun l => (l, (none : Option AO))) l := ⟨(l, none), List.mem_map.2 ⟨l, hm, rfl⟩, rfl⟩
      have hall : ∀ (ks : List Lab), l ∈ ks → upd (ks.map fun l => (l, (none : Option AO))) H l = none := fun ks => by
        induction ks with
        | nil => intro h; cases h
        | cons k ks ih =>
          intro h
          simp only [List.map_cons, upd]
          split
          · rfl
          · rename_i hne
            exact ih ((List.mem_cons.1 h).resolve_left hne)
      rw [hall ls hm] at hl; cases hl
    · exact ⟨hm, by rwa [aR (fun hh => hm (hhas l hh))] at hl⟩
  refine ⟨(h H q).1, fun l hl => .inl (hls l (hhas l hl)), fun ρ R vs hvs w hR hfree => ?_⟩
  have hR : Rep H ρ R w := hR
  have hext : Ext ρ ρ R (frozenR (fun l => l ∈ ls ∧ H l ≠ none) ρ R w) := dC (fun l L hz hL => by
    obtain ⟨o, ho⟩ := Option.ne_none_iff_exists'.1 hz.2
    exact .inl (hR.dis l o L ho hL))
  have hR1 : Rep (upd (ls.map fun l => (l, (none : Option AO))) H) ρ (frozenR (fun l => l ∈ ls ∧ H l ≠ none) ρ R w) w :=
    eD hR (fun l o hl => ⟨fun hz => (hnone l o hl).1 hz.1, (hnone l o hl).2⟩) hext (fun l hz L _ => hz.2)
  have hd : Does (fun w K => dL P f vs.toArray w K) (fun _ => none) [] (Under q) ρ (frozenR (fun l => l ∈ ls ∧ H l ≠ none) ρ R w) y := by
    have := (h H q).2.2 ρ (frozenR (fun l => l ∈ ls ∧ H l ≠ none) ρ R w) vs (hfr.rep hR hext hvs)
    simp only [dA] at this
    exact this
  have hd' := Does.frame (C := fun w K => dL P f vs.toArray w K) (G := upd (ls.map fun l => (l, (none : Option AO))) H) (fun w K K' hk hc => fU hk hc) hd (fun l o (e : (none : Option AO) = some o) => by cases e) (fun l hl => absurd hl (aF l)) w hR1 hfree
  refine fU ?_ hd'
  rintro v w' ⟨ρ', R', hF, hv, hRe⟩
  refine ⟨ρ', R', ?_, hv, hRe⟩
  refine { ext := hext.trans hF.ext, win := fun l L e => ?_, new := fun b O e => ?_, os := hF.os, tape := hF.tape, output := hF.output, size := hF.size, frame := fun b hb hno => hF.frame b hb (fun k o K hk => hno k o K (hnone k o hk).2) }
  · rcases hF.win l L e with h1 | ⟨h2, h3 | ⟨k, o, K, h4, h5, h6⟩⟩
    · exact .inl h1
    · exact .inr ⟨h2, .inl h3⟩
    · exact .inr ⟨h2, .inr ⟨k, o, K, (hnone k o h4).2, h5, h6⟩⟩
  · rcases hF.new b O e with h1 | h1 | ⟨k, o, K, h4, h5, h6⟩
    · unfold frozenR at h1
      split at h1
      · rename_i hx
        obtain ⟨k, K, hk, hK, hb⟩ := hx
        obtain ⟨o', ho'⟩ := Option.ne_none_iff_exists'.1 hk.2
        exact .inr (.inr ⟨k, o', K, ho', hK, hb⟩)
      · exact .inl h1
    · exact .inr (.inl h1)
    · exact .inr (.inr ⟨k, o, K, (hnone k o h4).2, h5, h6⟩)
/-- an object that reads another one's rows, some of them frozen -/
def FrO (Z : Lab → Prop) (H : aB) (o o' : AO) : Prop := o = o' ∨ ∃ e rs rs', o = .rows e rs ∧ o' = .rows e rs' ∧ rs'.length = rs.length ∧ (∀ r ∈ rs', gC e r) ∧ ∀ i j x, aC rs' i j = some x → ∃ g, aC rs i j = some g ∧ Fr Z H g x
/-- a call that only reckons; memory of one's own that is changed no more is frozen, and what points to it is read so -/
theorem give_any {P : Program} {f : Nat} {xs xs' : List AV} {y : AV} {H : aB} {q : Lab} {ls : List Lab} {u : Chg} (h : kD P f xs' y) (hfr : FrLs (fun l => l ∈ ls ∧ H l ≠ none) H xs xs') (hls : ∀ l ∈ ls, H l ≠ none) (hhas : ∀ l, u.has l → H l ≠ none)
    (hu : ∀ l o', upd u H l = some o' → l ∉ ls ∧ ∃ o, H l = some o ∧ FrO (fun l => l ∈ ls ∧ H l ≠ none) H o o') : aK P f xs H q ⟨y, u, none⟩ := by
  refine ⟨(h H q).1, fun l hl => .inl (hhas l hl), fun ρ R vs hvs w hR hfree => ?_⟩
  have hR : Rep H ρ R w := hR
  have hext : Ext ρ ρ R (frozenR (fun l => l ∈ ls ∧ H l ≠ none) ρ R w) := dC (fun l L hz hL => by
    obtain ⟨o, ho⟩ := Option.ne_none_iff_exists'.1 hz.2
    exact .inl (hR.dis l o L ho hL))
  have hold : ∀ l o', upd u H l = some o' → ∃ o, H l = some o := fun l o' hl => by
    obtain ⟨_, o, ho, _⟩ := hu l o' hl
    exact ⟨o, ho⟩
  have hR1 : Rep (upd u H) ρ (frozenR (fun l => l ∈ ls ∧ H l ≠ none) ρ R w) w := by
    have hbase : Rep (fun l => if l ∈ ls then none else H l) ρ (frozenR (fun l => l ∈ ls ∧ H l ≠ none) ρ R w) w := eD hR (fun l o hl => by
      split at hl
      · cases hl
      · rename_i hn; exact ⟨fun hz => hn hz.1, hl⟩) hext (fun l hz L _ => hz.2)
    refine ⟨fun l o' hl => ?_, fun l l' o o' L L' h1 h2 => ?_, fun l o L h1 hL => ?_, hbase.imm⟩
    · obtain ⟨hn, o, ho, hf⟩ := hu l o' hl
      obtain ⟨L, O, h1, h2, h3⟩ := hR.own l o ho
      refine ⟨L, O, h1, h2, ?_⟩
      rcases hf with rfl | ⟨e, rs, rs', rfl, rfl, g1, g2, g3⟩
      · exact h3.mono hext
      · cases O <;> simp only [RepO] at h3 ⊢
        obtain ⟨k1, k2, k3, k4, k5⟩ := h3
        refine ⟨k1, k2, g2, by rw [g1]; exact k4, fun i j x hx => ?_⟩
        obtain ⟨g, hg, hfg⟩ := g3 i j x hx
        obtain ⟨v, hv, hr⟩ := k5 i j g hg
        exact ⟨v, hv, mM hR hext hfg hr⟩
    · obtain ⟨n1, p, hp, _⟩ := hu l o h1
      obtain ⟨n2, p', hp', _⟩ := hu l' o' h2
      exact hbase.sep l l' p p' L L' (by rw [if_neg n1]; exact hp) (by rw [if_neg n2]; exact hp')
    · obtain ⟨n1, p, hp, _⟩ := hu l o h1
      exact hbase.dis l p L (by rw [if_neg n1]; exact hp) hL
  have hd : Does (fun w K => dL P f vs.toArray w K) (fun _ => none) [] (Under q) ρ (frozenR (fun l => l ∈ ls ∧ H l ≠ none) ρ R w) y := by
    have := (h H q).2.2 ρ (frozenR (fun l => l ∈ ls ∧ H l ≠ none) ρ R w) vs (hfr.rep hR hext hvs)
    simp only [dA] at this
    exact this
  have hd' := Does.frame (C := fun w K => dL P f vs.toArray w K) (G := upd u H) (fun w K K' hk hc => fU hk hc) hd (fun l o (e : (none : Option AO) = some o) => by cases e) (fun l hl => absurd hl (aF l)) w hR1 hfree
  refine fU ?_ hd'
  rintro v w' ⟨ρ', R', hF, hv, hRe⟩
  refine ⟨ρ', R', ?_, hv, hRe⟩
  refine { ext := hext.trans hF.ext, win := fun l L e => ?_, new := fun b O e => ?_, os := hF.os, tape := hF.tape, output := hF.output, size := hF.size, frame := fun b hb hno => hF.frame b hb (fun k o K hk => by obtain ⟨o', ho'⟩ := hold k o hk; exact hno k o' K ho') }
  · rcases hF.win l L e with h1 | ⟨h2, h3 | ⟨k, o, K, h4, h5, h6⟩⟩
    · exact .inl h1
    · exact .inr ⟨h2, .inl h3⟩
    · obtain ⟨o', ho'⟩ := hold k o h4
      exact .inr ⟨h2, .inr ⟨k, o', K, ho', h5, h6⟩⟩
  · rcases hF.new b O e with h1 | h1 | ⟨k, o, K, h4, h5, h6⟩
    · unfold frozenR at h1
      split at h1
      · rename_i hx
        obtain ⟨k, K, hk, hK, hb⟩ := hx
        obtain ⟨o', ho'⟩ := Option.ne_none_iff_exists'.1 hk.2
        exact .inr (.inr ⟨k, o', K, ho', hK, hb⟩)
      · exact .inl h1
    · exact .inr (.inl h1)
    · obtain ⟨o', ho'⟩ := hold k o h4
      exact .inr (.inr ⟨k, o', K, ho', h5, h6⟩)
theorem res_foot {P : Program} {f : Nat} {xs : List AV} {y : AV} {H : aB} {q : Lab} {u : Chg} {F : List Lab} (h : aK P f xs (restr H (some F)) q ⟨y, u, none⟩) : aK P f xs H q ⟨y, u, some F⟩ := h
end Go.Proofs.Ytigjoggpaamodaa
/-! The abstract machine: what is left as it was, step by step. -/
namespace Go.Proofs.Ytigjoggpaamodaa
set_option linter.unusedVariables false
set_option linter.unusedSimpArgs false
/-- all but what stands at ls is as it was -/
def Kp (ls : List Lab) (H G : aB) : Prop := ∀ l o, H l = some o → l ∉ ls → G l = some o
section
variable {ls : List Lab} {H G G' : aB} {k : Lab} {o : Option AO}
theorem Kp.refl : Kp ls H H := fun _ _ h _ => h
theorem Kp.new (h : Kp ls H G) (hn : H k = none) : Kp ls H (upd [(k, o)] G) := fun l o' hl hm => by
  have hne : l ≠ k := fun e => by rw [e, hn] at hl; cases hl
  simp only [upd, if_neg hne]
  exact h l o' hl hm
theorem Kp.old (h : Kp ls H G) (hm : k ∈ ls) : Kp ls H (upd [(k, o)] G) := fun l o' hl hn => by
  have hne : l ≠ k := fun e => hn (e ▸ hm)
  simp only [upd, if_neg hne]
  exact h l o' hl hn
theorem Kp.then (h : Kp ls H G) (h2 : ∀ l o, H l = some o → l ∉ ls → G l = some o → G' l = some o) : Kp ls H G' := fun l o hl hm => h2 l o hl hm (h l o hl hm)
theorem Kp.mono {ls' : List Lab} (h : Kp ls H G) (hs : ∀ l ∈ ls, l ∈ ls') : Kp ls' H G := fun l o hl hm => h l o hl fun hm' => hm (hs l hm')
theorem Kp.trans {ls' : List Lab} (h : Kp ls H G) (h2 : Kp ls' G G') (hs : ∀ l ∈ ls', H l = none ∨ l ∈ ls) : Kp ls H G' := fun l o hl hm => by
  refine h2 l o (h l o hl hm) fun hm' => ?_
  rcases hs l hm' with h3 | h3
  · rw [h3] at hl; cases hl
  · exact hm h3
end
/-- the label of a slice -/
def labs : AV → List Lab
  | .sl l _ _ _ => [l]
  | _ => []
/-- changes told by where they are, and what stands there in the end -/
theorem vre_of {Hend H : aB} {q : Lab} {ls : List Lab} (h1 : ∀ l ∈ ls, H l ≠ none ∨ Under q l) (h2 : ∀ l o, H l = some o → l ∉ ls → Hend l = some o) :
    (∀ l, Chg.has (ls.map fun l => (l, Hend l)) l → H l ≠ none ∨ Under q l) ∧ (∀ l o, upd (ls.map fun l => (l, Hend l)) H l = some o → Hend l = some o) ∧ (∀ l o, Hend l = some o → (l ∈ ls ∨ H l = some o) → upd (ls.map fun l => (l, Hend l)) H l = some o) := by
  have hu : ∀ l, upd (ls.map fun l => (l, Hend l)) H l = if l ∈ ls then Hend l else H l := by
    intro l
    clear h1 h2
    induction ls with
    | nil => simp [upd]
    | cons k ls ih =>
      simp only [List.map_cons, upd, ih, List.mem_cons]
      by_cases e : l = k
      · simp [e]
      · simp [e]
  refine ⟨fun l ⟨p, hp, e⟩ => ?_, fun l o h => ?_, fun l o h hl => ?_⟩
  · obtain ⟨k, hk, rfl⟩ := List.mem_map.1 hp
    exact h1 l (e ▸ hk)
  · rw [hu] at h
    split at h
    · exact h
    · rename_i hn; exact h2 l o h hn
  · rw [hu]
    split
    · exact h
    · rename_i hn; exact hl.resolve_left hn
theorem Kp.push {ls : List Lab} {H G G' : aB} {x : AV} (h : Kp ls H G) (hk : k7 x G G') (hx : ∀ l ∈ labs x, l ∈ ls ∨ H l = none) : Kp ls H G' := fun l o hl hm => by
  refine hk l o (h l o hl hm) fun e j n hx' => ?_
  rcases hx l (by rw [hx']; simp [labs]) with h1 | h1
  · exact hm h1
  · rw [h1] at hl; cases hl
/-- a body's end, by what is left as it was -/
theorem vre_fin {H He : aB} {q : Lab} {ls : List Lab} {res : List AResV} {Φ : AV → Chg → Prop} {r : RL} {x y : AV} {c : Nat} {e : AEx} (he : e = .normal ∨ e = .ret) (hx : cZ He r res = some x) (h1 : ∀ l ∈ ls, H l ≠ none ∨ Under q l) (hk : Kp ls H He)
    (hy : ∀ u, (∀ l o, He l = some o → (l ∈ ls ∨ H l = some o) → upd u H l = some o) → (∀ l o, upd u H l = some o → He l = some o) → (∀ l, l ∉ ls → upd u H l = H l) → Φ y u ∧ Fr (fun l => upd u H l = none ∧ He l ≠ none) He x y) : VRE q H res Φ e r He c := by
  obtain ⟨h3, h4, h5⟩ := vre_of h1 hk
  obtain ⟨h6, h7⟩ := hy _ h5 h4 (fun l hl => aR fun ⟨p, hp, e⟩ => by
    obtain ⟨k, hk, rfl⟩ := List.mem_map.1 hp
    exact hl (e ▸ hk))
  exact ⟨he, x, y, _, hx, h6, h3, h7, h4⟩
theorem Fr.own_at {Z : Lab → Prop} {H : aB} {x : AV} {e : Nat} {rows : List (List AV)} (h : Own H x e rows) (hz : ∀ l ∈ labs x, Z l) (hr : ∀ r ∈ rows, gC e r) : Fr Z H x (.isl e rows) := by
  rcases h with ⟨rfl, rfl⟩ | ⟨l, rfl, hl⟩
  · exact .nils e
  · exact .own l e 0 _ rows rows (fun i j => (aC rows i j).getD .nilf) (hz l (by simp [labs])) hl rfl hr (fun i j x hx => by simp [hx]) (fun i j x hx => by simp [hx]; exact .refl _)
theorem Own.mono2 {H H' : aB} {x : AV} {e : Nat} {rows : List (List AV)} (h : Own H x e rows) (hk : ∀ lab ∈ labs x, H' lab = H lab) : Own H' x e rows := by
  rcases h with h | ⟨l, rfl, h⟩
  · exact .inl h
  · exact .inr ⟨l, rfl, by rw [hk l (by simp [labs])]; exact h⟩
theorem Own.keep {H H' : aB} {x : AV} {e : Nat} {rows : List (List AV)} (h : Own H x e rows) (hk : ∀ lab o, lab ∈ labs x → H lab = some o → H' lab = some o) : Own H' x e rows := by
  rcases h with h | ⟨l, rfl, h⟩
  · exact .inl h
  · exact .inr ⟨l, rfl, hk l _ (by simp [labs]) h⟩
theorem Own.lab {H : aB} {x : AV} {e : Nat} {rows : List (List AV)} (h : Own H x e rows) {k : Lab} (hk : k ∈ labs x) : H k = some (.rows e rows) := by
  rcases h with ⟨rfl, rfl⟩ | ⟨lab, rfl, h⟩
  · cases hk
  · obtain rfl := List.mem_singleton.1 hk
    exact h
theorem Own.ne {H : aB} {x : AV} {e e' : Nat} {rows rs : List (List AV)} (h : Own H x e rows) {k : Lab} (hk : H k = some (.rows e' rs)) (hne : e' ≠ e) : k ∉ labs x := fun hm => by
  rw [h.lab hm] at hk; cases hk; exact hne rfl
theorem nolab {k : Lab} {x : AV} (h : k ∉ labs x) : ∀ e i n, x ≠ .sl k e i n := fun e i n hx => h (by rw [hx]; simp [labs])
theorem Own.out {H : aB} {x : AV} {e : Nat} {rows : List (List AV)} (h : Own H x e rows) {k : Lab} (hk : H k = none) : k ∉ labs x := fun hm => by rw [h.lab hm] at hk; cases hk
theorem Own.grow {H : aB} {x : AV} {e : Nat} {rows : List (List AV)} {k : Lab} {o : Option AO} (h : Own H x e rows) (hk : H k = none) : Own (Ytigjoggpaamodaa.upd [(k, o)] H) x e rows := h.keep fun lab o' _ ho => by
  simp only [Ytigjoggpaamodaa.upd]
  rw [if_neg (fun e => by rw [e, hk] at ho; cases ho)]; exact ho
theorem Own.store {H : aB} {x : AV} {e : Nat} {rows : List (List AV)} {k : Lab} {o : Option AO} (h : Own H x e rows) (hk : k ∉ labs x) : Own (Ytigjoggpaamodaa.upd [(k, o)] H) x e rows := h.keep fun lab o' hl ho => by
  simp only [Ytigjoggpaamodaa.upd]
  rw [if_neg (fun e => hk (by rw [← e]; exact hl))]; exact ho
theorem Fresh.more {H : aB} {q : Lab} {c k : Nat} {o : Option AO} (h : Fresh q c H) (hk : k < c) : Fresh q c (Ytigjoggpaamodaa.upd [(k :: q, o)] H) := h.upd (Nat.le_refl _) hk
theorem Fresh.over {H : aB} {q l : Lab} {c : Nat} {o : Option AO} {o' : AO} (h : Fresh q c H) (hl : H l = some o') : Fresh q c (Ytigjoggpaamodaa.upd [(l, o)] H) := fun j s hj => by
  simp only [Ytigjoggpaamodaa.upd]
  rw [if_neg (fun e => by rw [← e, h j s hj] at hl; cases hl)]
  exact h j s hj
theorem Own.to {H H' : aB} {x : AV} {e : Nat} {rows : List (List AV)} (h : Own H x e rows) (he : H = H') : Own H' x e rows := he ▸ h
theorem Kp.to {ls : List Lab} {H G G' : aB} (h : Kp ls H G) (he : G = G') : Kp ls H G' := he ▸ h
theorem Fresh.to {H H' : aB} {q : Lab} {c : Nat} (h : Fresh q c H) (he : H = H') : Fresh q c H' := he ▸ h
/-- what stands where a change does not reach -/
theorem at_ne {H H' : aB} {k l : Lab} {o : Option AO} {v : Option AO} (he : upd [(k, o)] H = H') (hn : l ≠ k) (h : H l = v) : H' l = v := by
  rw [← he]; simp only [upd, if_neg hn]; exact h
theorem at_eq {H H' : aB} {k : Lab} {o : Option AO} (he : upd [(k, o)] H = H') : H' k = o := by
  rw [← he]; simp only [upd, if_true]
end Go.Proofs.Ytigjoggpaamodaa
/-! The abstract machine: functions that are ranged over. -/
namespace Go.Proofs.Ytigjoggpaamodaa
set_option linter.unusedVariables false
set_option linter.unusedSimpArgs false

theorem fJ {K : AV → Prop} : dH .eql .ptr .nilp .nilp K = K (.bool true) := dE rfl
theorem fI {l : Lab} {e i j : Nat} {K : AV → Prop} : dH .eql .ptr (.ptr l e i j) .nilp K = K (.bool false) := dE rfl
theorem pA {a b c d e f : AV} {r : List AV} {K : AV → Prop} : bI 6 true (a :: b :: c :: d :: e :: f :: r) 0 K = K (.agg [a, b, c, d, e, f]) := by simp [bI, aG]
def Sub (G H : aB) : Prop := ∀ l o, G l = some o → H l = some o
theorem Sub.refl {H : aB} : Sub H H := fun _ _ h => h
theorem Sub.trans {F G H : aB} (h : Sub F G) (k : Sub G H) : Sub F H := fun l o e => k l o (h l o e)
theorem Sub.nil {G H : aB} (h : Sub G H) {l : Lab} (hl : H l = none) : G l = none := by
  cases hx : G l with
  | none => rfl
  | some o => rw [h l o hx] at hl; cases hl
theorem Sub.ne {G H : aB} (h : Sub G H) {l : Lab} (hl : G l ≠ none) : H l ≠ none := fun e => hl (h.nil e)
section
variable {P : Program}
/-- what is done over a part of the heap, its outcome left open -/
theorem soundE_frame {f : Nat} {xs : List AV} {H G : aB} {q : Lab} {Φ : AV → Chg → Prop} (h : SoundE P f xs H q Φ) (hsub : Sub H G) : SoundE P f xs G q fun x u => Φ x u ∧ ∀ l, u.has l → H l ≠ none ∨ Under q l := by
  refine ⟨h.1, fun ρ R vs hvs w hG hfr => ?_⟩
  refine Calls.mono (h.2 ρ R vs hvs w (hG.drop hsub) hfr) ?_
  rintro e w' ⟨v, rfl, x, u, ρ', R', hΦ, hu, hF, hx, hR⟩
  have hd : Does (fun w0 K => w0 = w → K v w') H u (Under q) ρ R x := fun w0 _ _ e => by subst e; exact ⟨ρ', R', hF, hx, hR⟩
  obtain ⟨ρ2, R2, h1, h2, h3⟩ := hd.frame (fun w0 K K' hk hc e => hk _ _ (hc e)) hsub hu w hG hfr rfl
  exact ⟨v, rfl, x, u, ρ2, R2, ⟨hΦ, hu⟩, fun l hl => (hu l hl).imp hsub.ne id, h1, h2, h3⟩
theorem soundY_frame {y : Lab} {xs : List AV} {H G : aB} {q : Lab} {Φ : AV → Chg → Prop} (h : SoundY P y xs H q Φ) (hsub : Sub H G) : SoundY P y xs G q fun x u => Φ x u ∧ ∀ l, u.has l → H l ≠ none ∨ Under q l := by
  intro ρ R vs L hvs hL w hG hfr
  obtain ⟨fn, tmps, a, b, h1, h2⟩ := h ρ R vs L hvs hL w (hG.drop hsub) hfr
  refine ⟨fn, tmps, a, b, h1, RoundIn.mono h2 ?_⟩
  rintro e w' ⟨v, rfl, x, u, ρ', R', hΦ, hu, hF, hx, hR⟩
  have hd : Does (fun w0 K => w0 = w → K v w') H u (Under q) ρ R x := fun w0 _ _ e => by subst e; exact ⟨ρ', R', hF, hx, hR⟩
  obtain ⟨ρ2, R2, k1, k2, k3⟩ := hd.frame (fun w0 K K' hk hc e => hk _ _ (hc e)) hsub hu w hG hfr rfl
  exact ⟨v, rfl, x, u, ρ2, R2, ⟨hΦ, hu⟩, fun l hl => (hu l hl).imp hsub.ne id, k1, k2, k3⟩
/-- the caller's part of the heap, G of H, has become G' of H'; the rest stands; what is new is of q -/
structure Moved (q : Lab) (G H G' H' : aB) : Prop where
  sub : Sub G' H'
  kept : ∀ l o, H l = some o → G l = none → H' l = some o
  new : ∀ l, G' l ≠ none → G l ≠ none ∨ H l = none
  lab : ∀ l, H' l ≠ none → H l ≠ none ∨ Under q l
  chg : ∃ u, H' = upd u H ∧ ∀ l, u.has l → G l ≠ none ∨ Under q l
theorem Moved.refl {q : Lab} {G H : aB} (h : Sub G H) : Moved q G H G H := ⟨h, fun _ _ h _ => h, fun _ h => .inl h, fun _ h => .inl h, [], rfl, fun l hl => absurd hl (aF l)⟩
theorem o8 {u v : Chg} {l : Lab} (h : Chg.has (u ++ v) l) : u.has l ∨ v.has l := by
  obtain ⟨p, hp, e⟩ := h
  rcases List.mem_append.1 hp with g | g
  · exact .inl ⟨p, g, e⟩
  · exact .inr ⟨p, g, e⟩
theorem upd_app {u v : Chg} {H : aB} : upd (u ++ v) H = upd u (upd v H) := by
  induction u with
  | nil => rfl
  | cons p u ih => obtain ⟨l, o⟩ := p; simp only [List.cons_append, upd, ih]
theorem Moved.trans {q q1 q2 : Lab} {G H G1 H1 G2 H2 : aB} (h : Moved q1 G H G1 H1) (k : Moved q2 G1 H1 G2 H2) (h1 : ∀ l, Under q1 l → Under q l) (h2 : ∀ l, Under q2 l → Under q l) : Moved q G H G2 H2 := by
  have hn : ∀ l o, H l = some o → G l = none → G1 l = none := fun l o e1 e2 => by
    cases hx : G1 l with
    | none => rfl
    | some o' =>
      rcases h.new l (by rw [hx]; simp) with g | g
      · exact absurd e2 g
      · rw [e1] at g; cases g
  refine ⟨k.sub, fun l o e1 e2 => k.kept l o (h.kept l o e1 e2) (hn l o e1 e2), fun l hl => ?_, fun l hl => ?_, ?_⟩
  · cases hx : H l with
    | none => exact .inr rfl
    | some o =>
      refine .inl fun hg => ?_
      rcases k.new l hl with g | g
      · exact g (hn l o hx hg)
      · rw [h.kept l o hx hg] at g; cases g
  · rcases k.lab l hl with g | g
    · exact (h.lab l g).imp id (h1 l)
    · exact .inr (h2 l g)
  · obtain ⟨u1, rfl, a1⟩ := h.chg
    obtain ⟨u2, rfl, a2⟩ := k.chg
    refine ⟨u2 ++ u1, upd_app.symm, fun l hl => ?_⟩
    rcases o8 hl with hl | hl
    · rcases a2 l hl with g | g
      · rcases h.new l g with g2 | g2
        · exact .inl g2
        · rcases h.lab l (h.sub.ne g) with g3 | g3
          · exact absurd g2 g3
          · exact .inr (h1 l g3)
      · exact .inr (h2 l g)
    · exact (a1 l hl).imp id (h1 l)
theorem Moved.alloc {q k : Lab} {G H : aB} {o : Option AO} (h : Sub G H) (hk : H k = none) (hu : Under q k) : Moved q G H G (upd [(k, o)] H) := by
  have hne : ∀ l o', H l = some o' → upd [(k, o)] H l = some o' := fun l o' hl => by
    have : l ≠ k := fun e => by rw [e, hk] at hl; cases hl
    simp [upd, this, hl]
  refine ⟨fun l o' hl => hne l o' (h l o' hl), fun l o' hl _ => hne l o' hl, fun _ h => .inl h, fun l hl => ?_, [(k, o)], rfl, fun l hl => by rw [bC hl]; exact .inr hu⟩
  by_cases e : l = k
  · subst e; exact .inr hu
  · simp only [upd, if_neg e] at hl; exact .inl hl
/-- what is new of one's own changes -/
theorem Moved.own {q k : Lab} {G H G1 H1 : aB} {o : Option AO} (h : Moved q G H G1 H1) (hk : H k = none) (hg : G1 k = none) (hu : Under q k) : Moved q G H G1 (upd [(k, o)] H1) := by
  refine ⟨fun l o' hl => ?_, fun l o' hl hgl => ?_, h.new, fun l hl => ?_, ?_⟩
  · have : l ≠ k := fun e => by rw [e, hg] at hl; cases hl
    simp [upd, this, h.sub l o' hl]
  · have : l ≠ k := fun e => by rw [e, hk] at hl; cases hl
    simp [upd, this, h.kept l o' hl hgl]
  · by_cases e : l = k
    · subst e; exact .inr hu
    · simp only [upd, if_neg e] at hl; exact h.lab l hl
  · obtain ⟨u, rfl, a1⟩ := h.chg
    refine ⟨(k, o) :: u, rfl, fun l hl => ?_⟩
    rcases o8 (u := [(k, o)]) hl with g | g
    · rw [bC g]; exact .inr hu
    · exact a1 l g
/-- a part that has an object of the holder's own in it -/
theorem Moved.inner {q b : Lab} {G H G1 H1 G2 : aB} {o : AO} (h : Moved q (upd [(b, some o)] G) H G1 H1) (hb : H b = some o) (hs : Sub G2 G1) (h2 : G2 b = none) (h1 : G1 b = some o) : Moved q G H G2 H1 := by
  refine ⟨hs.trans h.sub, fun l o' hl hg => ?_, fun l hl => ?_, h.lab, ?_⟩
  · by_cases e : l = b
    · subst e; rw [hb] at hl; cases hl; exact h.sub _ _ h1
    · exact h.kept l o' hl (by simp [upd, e, hg])
  · have e : l ≠ b := fun e => hl (by rw [e, h2])
    have := h.new l (hs.ne hl)
    simpa [upd, e] using this
  · obtain ⟨u, rfl, a1⟩ := h.chg
    refine ⟨u.filter fun p => !(p.1 == b), ?_, fun l hl => ?_⟩
    · refine (lI (f := fun l => !(l == b)) fun l hl => ?_).symm
      have : l = b := by simpa using hl
      rw [this, h.sub _ _ h1, hb]
    · obtain ⟨p, hp, e⟩ := hl
      rw [List.mem_filter] at hp
      have hne : l ≠ b := fun e2 => by rw [e, e2] at hp; simp at hp
      have := a1 l ⟨p, hp.1, e⟩
      simpa [upd, hne] using this
/-- what is no part of the caller's and was there is none of it behind -/
theorem Moved.out {q l : Lab} {G H G1 H1 : aB} (h : Moved q G H G1 H1) (hH : H l ≠ none) (hG : G l = none) : G1 l = none := by
  cases hx : G1 l with
  | none => rfl
  | some o =>
    rcases h.new l (by rw [hx]; simp) with g | g
    · exact absurd hG g
    · exact absurd g hH
theorem Moved.fresh {p : Lab} {c : Nat} {G H G' H' : aB} (h : Moved (c :: p) G H G' H') (hf : Fresh p c H) : Fresh p (c + 1) H' := fun k s hk => by
  cases hx : H' (s ++ k :: p) with
  | none => rfl
  | some o =>
    rcases h.lab _ (by rw [hx]; simp) with g | g
    · exact absurd (hf k s (by omega)) g
    · have := bK (i := k) (j := c) (p := p) ⟨s, rfl⟩ g
      omega
/-- each round does its part -/
def sZ (P : Program) (y : Lab) (ys : List AV) (J : Nat → aB → Prop) (X : aB → Prop) : Prop := ∀ i x, ys[i]? = some x → ∀ G q, J i G → SoundY P y [x] G q (fun v u => (v = .bool true ∧ J (i + 1) (upd u G)) ∨ (v = .bool false ∧ X (upd u G)))
/-- a function that yields so many values, one behind the other; it reads F -/
def tB (P : Program) (gf : Nat) (caps ys : List AV) (F : aB) : Prop := ∀ (y : Lab) (J : Nat → aB → Prop) (X : aB → Prop), sZ P y ys J X → ∀ (G H : aB) (q : Lab), J 0 G → Sub G H → Sub F H → (∀ l, F l ≠ none → G l = none) → (∀ l, Under q l → H l = none) →
  SoundE P gf (.yield y :: caps) H q (fun _ u => ∃ G', (J ys.length G' ∨ X G') ∧ Moved q G H G' (upd u H))
theorem Fresh.under {q : Lab} {H : aB} {c : Nat} (h : Fresh q 0 H) : ∀ k, Under (c :: q) k → H k = none := fun k hk => by
  obtain ⟨s, hs⟩ := hk
  rw [hs]; exact h c s (by omega)
theorem p7 {q : Lab} {H : aB} (h : ∀ l, Under q l → H l = none) : Fresh q 0 H := fun k s _ => h _ ⟨s ++ [k], by simp⟩
/-- a round is asked for -/
theorem nD {y : Lab} {ys : List AV} {J : Nat → aB → Prop} {X : aB → Prop} (hY : sZ P y ys J X) {i : Nat} {x : AV} (hx : ys[i]? = some x) {G H : aB} (hJ : J i G) (hs : Sub G H) {q : Lab} (hf : ∀ l, Under q l → H l = none) {K : KF}
    (h1 : ∀ G' H' labs, J (i + 1) G' → Moved q G H G' H' → K (.bool true) H' labs none) (h2 : ∀ G' H' labs, X G' → Moved q G H G' H' → K (.bool false) H' labs none) : qR P y [x] H q K := by
  have mv : ∀ u : Chg, (∀ l, u.has l → G l ≠ none ∨ Under q l) → Moved q G H (upd u G) (upd u H) := by
    intro u hu
    refine ⟨fun l o hl => ?_, fun l o hl hg => ?_, fun l hl => ?_, fun l hl => ?_, u, rfl, hu⟩
    · by_cases h : u.has l
      · rw [dV (H' := G) h]; exact hl
      · rw [aR h] at hl ⊢; exact hs l o hl
    · rw [aR]; exact hl
      intro h
      rcases hu l h with g | g
      · exact g hg
      · rw [hf l g] at hl; cases hl
    · by_cases h : u.has l
      · exact (hu l h).imp id (hf l)
      · rw [aR h] at hl; exact .inl hl
    · by_cases h : u.has l
      · exact (hu l h).imp hs.ne id
      · rw [aR h] at hl; exact .inl hl
  refine ⟨_, soundY_frame (hY i x hx G q hJ) hs, ?_⟩
  rintro v u ⟨⟨rfl, hJ'⟩ | ⟨rfl, hX⟩, hu⟩
  · exact h1 _ _ _ hJ' (mv u hu)
  · exact h2 _ _ _ hX (mv u hu)
theorem vopS_yield {y : Lab} {xs : List AV} {H : aB} {q : Lab} {K : KF} : qQ P .call (.yield y :: xs) H q K = qR P y xs H q K := rfl
/-- code that does not jump -/
def _root_.Go.Proofs.Ytigjoggpaamodaa.ACode.flat : ACode → Bool
  | .skip => true
  | .region .. => true
  | .seq a b => a.flat && b.flat
  | _ => false
theorem vc_flat {a : ACode} : ∀ {p : Lab} {K : RL → aB → Nat → Prop} {Q Q' : aD} {r : RL} {H : aB} {c : Nat}, a.flat = true → vc P p a (dR K Q) r H c → vc P p a (dR K Q') r H c := by
  induction a with
  | skip => intro p K Q Q' r H c _ h; exact h
  | region ops d keep => intro p K Q Q' r H c _ h; cases d <;> exact h
  | seq a b iha ihb =>
    intro p K Q Q' r H c hf h
    simp only [ACode.flat, Bool.and_eq_true] at hf
    have h1 : vc P p a (dR (vc P p b (dR K Q)) (dR K Q)) r H c := h
    have e : (vc P p b (dR K Q)) = (vc P p b (dR K Q')) := by
      funext r H c
      exact propext ⟨ihb hf.2, ihb hf.2⟩
    rw [e] at h1
    have h2 := iha (Q' := Q') hf.1 (show vc P p a (dR (vc P p b (dR K Q')) Q) r H c from iha (Q := dR K Q) hf.1 h1)
    exact iha (Q := Q') (Q' := dR K Q') hf.1 h2
  | cond => intro p K Q Q' r H c hf; cases hf
  | block => intro p K Q Q' r H c hf; cases hf
  | loop => intro p K Q Q' r H c hf; cases hf
  | exit => intro p K Q Q' r H c hf; cases hf
  | ret => intro p K Q Q' r H c hf; cases hf
  | label => intro p K Q Q' r H c hf; cases hf
  | goto => intro p K Q Q' r H c hf; cases hf
  | scope => intro p K Q Q' r H c hf; cases hf
  | rangeF => intro p K Q Q' r H c hf; cases hf
  | bad => intro p K Q Q' r H c hf; cases hf
/-- a round's end -/
def RQ (J : Nat → aB → Prop) (X : AEx → aB → Prop) (i : Nat) : aD := fun e _ H _ => (e = .normal ∧ J (i + 1) H) ∨ (e ≠ .normal ∧ X e H)
/-- A LOOP OVER A FUNCTION. -/
theorem qP {p : Lab} {g : AArg} {t : Nat} {asg b : ACode} {Q : aD} {r : RL} {H : aB} {c gf : Nat} {caps ys : List AV} {F G : aB} (hg : c3 r g = some (.fn (.func gf) [] caps)) (hI : tB P gf caps ys F) (hfl : asg.flat = true) (J : Nat → aB → Prop) (X : AEx → aB → Prop)
    (h0 : J 0 G) (hs : Sub G H) (hF : Sub F H) (hd : ∀ l, F l ≠ none → G l = none) (hfr : Fresh p c H)
    (hround : ∀ i x G q, ys[i]? = some x → J i G → Fresh q 0 G → vc P q (.seq asg b) (RQ J X i) (lR [t] [x] r) G 0)
    (hn : ∀ G' H', J ys.length G' → Moved (c :: p) G H G' H' → Fresh p (c + 1) H' → Q .normal r H' (c + 1))
    (hx : ∀ e G' H', X e G' → e ≠ .normal → Moved (c :: p) G H G' H' → Fresh p (c + 1) H' → Q e r H' (c + 1)) : vc P p (.rangeF g [t] asg b) Q r H c := by
  generalize hy : (0 :: c :: p : Lab) = y
  have hyU : Under (c :: p) y := ⟨[0], by rw [← hy]; rfl⟩
  have hHy : H y = none := by rw [← hy]; exact hfr c [0] (Nat.le_refl _)
  have hGy : G y = none := hs.nil hHy
  have h1U : ∀ l, Under (1 :: c :: p) l → Under (c :: p) l ∧ l ≠ y := fun l hl => ⟨aP hl, fun e => by
    obtain ⟨t, ht⟩ := hl
    rw [e, ← hy] at ht
    have := (List.append_inj' (show ([0] : Lab) ++ (c :: p) = (t ++ [1]) ++ (c :: p) by simpa using ht) rfl).1
    cases t <;> simp at this⟩
  let J' : Loop → Nat → aB → Prop := fun lr i G => ∃ G0, J i G0 ∧ G0 y = none ∧ G = upd [(y, some (.loop lr r))] G0
  let X' : Loop → aB → Prop := fun lr G => ∃ e G0, e ≠ .normal ∧ X e G0 ∧ G0 y = none ∧ G = upd [(y, some (.loop (after lr e) r))] G0
  refine ⟨gf, caps, hg, fun lr _ u => ∃ G', (J' lr ys.length G' ∨ X' lr G') ∧ Moved (1 :: c :: p) (upd [(y, some (.loop lr r))] G) (upd [(y, some (.loop lr r))] H) G' (upd u (upd [(y, some (.loop lr r))] H)), fun lr hr hR => ?_, fun lr x u hr hΦ => ?_⟩
  · rw [hy] at hR ⊢
    refine hI y (J' lr) (X' lr) (fun i x hx G1 q hJ1 => ?_) _ _ _ ⟨G, h0, hGy, rfl⟩ (fun l o hl => ?_) (fun l o hl => ?_) (fun l hl => ?_) (fun l hl => ?_)
    · obtain ⟨G0, hJ0, hG0, rfl⟩ := hJ1
      refine SoundY.mono (hR G0 q [x] (RQ J X i) hG0 rfl (fun hf hq => ?_)) ?_
      · exact vc_flat (Q := RQ J X i) hfl (hround i x G0 q hx hJ0 (p7 hf))
      · rintro v u ⟨e, r', H', c', hΨ, rfl, hu, hyn⟩
        rcases hΨ with ⟨rfl, hJ⟩ | ⟨he, hX⟩
        · exact .inl ⟨by simp, H', hJ, hyn, hu⟩
        · exact .inr ⟨by simp [he], e, H', he, hX, hyn, hu⟩
    · by_cases e : l = y
      · subst e; simpa [upd] using hl
      · simp only [upd, if_neg e] at hl ⊢; exact hs l o hl
    · have : l ≠ y := fun e => by rw [e, hF.nil hHy] at hl; cases hl
      simp only [upd, if_neg this]; exact hF l o hl
    · have : l ≠ y := fun e => hl (by rw [e]; exact hF.nil hHy)
      simp only [upd, if_neg this]; exact hd l hl
    · obtain ⟨k1, k2⟩ := h1U l hl
      simp only [upd, if_neg k2]
      obtain ⟨s, hs⟩ := k1
      rw [hs]; exact hfr c s (Nat.le_refl _)
  · rw [hy]
    obtain ⟨G', hJX, hM⟩ := hΦ
    have h2 : ∀ l, l ≠ y → upd ((y, none) :: u) H l = upd u (upd [(y, some (.loop lr r))] H) l := fun l hl => by
      simp only [upd, if_neg hl]
      by_cases h : u.has l
      · exact dV h
      · rw [aR h, aR h]; simp [upd, hl]
    have h2y : upd ((y, none) :: u) H y = none := by simp [upd]
    have key : ∀ (G0 : aB) (lr' : Loop), G0 y = none → G' = upd [(y, some (.loop lr' r))] G0 → Moved (c :: p) G H G0 (upd ((y, none) :: u) H) := by
      rintro G0 lr' hG0 rfl
      refine ⟨fun l o hl => ?_, fun l o hl hgl => ?_, fun l hl => ?_, fun l hl => ?_, ?_⟩
      · have e : l ≠ y := fun e => by rw [e, hG0] at hl; cases hl
        rw [h2 l e]; exact hM.sub l o (by simp [upd, e, hl])
      · have e : l ≠ y := fun e => by rw [e, hHy] at hl; cases hl
        rw [h2 l e]; exact hM.kept l o (by simp [upd, e, hl]) (by simp [upd, e, hgl])
      · have e : l ≠ y := fun e => hl (by rw [e, hG0])
        have := hM.new l (by simpa [upd, e] using hl)
        simpa [upd, e] using this
      · have e : l ≠ y := fun e => hl (by rw [e, h2y])
        rw [h2 l e] at hl
        have := hM.lab l hl
        simp only [upd, if_neg e] at this
        exact this.imp id (fun g => (h1U l g).1)
      · obtain ⟨u', hu', a1⟩ := hM.chg
        refine ⟨(y, none) :: u', ?_, fun l hl => ?_⟩
        · funext l
          by_cases e : l = y
          · rw [e, h2y]; simp [upd]
          · rw [h2 l e, hu']
            simp only [upd, if_neg e]
            by_cases h : Chg.has u' l
            · exact dV h
            · rw [aR h, aR h]; simp [upd, e]
        · rcases o8 (u := [(y, none)]) hl with g | g
          · rw [bC g]; exact .inr hyU
          · by_cases e : l = y
            · rw [e]; exact .inr hyU
            · have := a1 l g
              simp only [upd, if_neg e] at this
              exact this.imp id (fun g => (h1U l g).1)
    rcases hJX with ⟨G0, hJ, hG0, rfl⟩ | ⟨e, G0, he, hX, hG0, rfl⟩
    · have hm := key G0 lr hG0 rfl
      exact ⟨.normal, hM.sub y _ (by simp [upd, after]), hn G0 _ hJ hm (hm.fresh hfr)⟩
    · have hm := key G0 _ hG0 rfl
      exact ⟨e, hM.sub y _ (by simp [upd]), hx e G0 _ hX he hm (hm.fresh hfr)⟩
end
end Go.Proofs.Ytigjoggpaamodaa
/-! What is owed of functions of the program, as formulas. -/
namespace Go.Proofs.Ytigjoggpaamodaa
set_option maxRecDepth 100000
set_option linter.unusedVariables false
set_option linter.unusedSimpArgs false
/-- (*duet/weave.Line).own -/
def c54 : AFun := ⟨2, 6, [.tmp 4],
  (.seq (.region [⟨(some 2), none, .box, [.t 0]⟩, ⟨(some 3), none, .box, [.t 1]⟩, ⟨(some 4), none, .move, [.c .nilf]⟩] none [2, 3])
  (.seq (.region [⟨(some 5), none, (.mkfn (.func 66) 0), [.t 2, .t 3]⟩, ⟨(some 4), none, .move, [.t 5]⟩] none [4])
  .ret))⟩
theorem ok54 : FunOk Try.prog 54 c54 := ⟨⟨Try.f54, _, Try.func54, rfl, by kernel_rfl, by kernel_rfl, by kernel_rfl, by kernel_rfl⟩, by decide⟩
theorem res54 : c54.res = [.tmp 4] := rfl
def V54 (P : Program) (p : Lab) (Q : aD) (x0 x1 : AV) (H : aB) (c : Nat) : Prop :=
  qT x0 fun w0 =>
  (fun (H0 : aB) =>
  qT x1 fun w1 =>
  (fun (H1 : aB) =>
  Q .ret [(4, (.fn (.func 66) [] [(.ptr (c :: p) w0.length 0 0), (.ptr ((c + 1) :: p) w1.length 0 0)]))] H1 (c + 5)) (upd [(((c + 1) :: p), some (.rows w1.length [w1]))] H0)) (upd [((c :: p), some (.rows w0.length [w0]))] H)
theorem vt54 (P : Program) (p : Lab) (Q : aD) (x0 x1 : AV) (H : aB) (c : Nat) : vc P p c54.body Q [(0, x0), (1, x1)] H c = V54 P p Q x0 x1 H c := by kernel_rfl

def uG : ACode := (.region [⟨(some 6), none, (.alloc [(.int .i64 0), (.int .i64 0), (.int .i64 0), (.int .i64 0), (.int .i64 0), .nils]), []⟩, ⟨none, none, (.store 6), [.t 6, .t 36]⟩] none [3, 6])
def uC : ACode := (.block 3 (.seq (.region [⟨(some 37), none, (.load 1 false), [.t 3]⟩, ⟨(some 38), none, (.load 6 true), [.t 6]⟩, ⟨(some 39), none, .call, [.t 37, .t 38]⟩, ⟨(some 40), none, (.un .not), [.t 39]⟩] none [40])
  (.cond (.t 40) .ret
  .skip)))
def tT : ACode := .seq uG uC
def tX : ACode := .rangeF (.t 35) [36] uG uC
def rB : ACode := (.region [⟨(some 41), none, (.bin .add .num), [.t 17, .c (.int .i64 1)]⟩, ⟨(some 17), none, .move, [.t 41]⟩] none [1, 3, 15, 16, 17])
def uD : ACode := (.seq (.region [⟨(some 18), none, (.bin .lss .num), [.t 17, .t 16]⟩] none [1, 3, 15, 16, 17, 18])
  (.seq (.cond (.t 18) .skip
  (.exit 0))
  (.seq (.block 1 (.seq (.region [⟨(some 19), none, (.indexAddr 2), [.t 15, .t 17]⟩, ⟨(some 20), none, (.load 2 true), [.t 19]⟩, ⟨(some 5), none, (.alloc [(.int .i64 0), (.int .i64 0)]), []⟩, ⟨none, none, (.store 2), [.t 5, .t 20]⟩] none [1, 3, 5, 15, 16, 17])
  (.seq (.seq (.region [⟨(some 21), none, (.load 1 false), [.t 3]⟩, ⟨(some 22), none, (.load 1 false), [.t 1]⟩, ⟨(some 23), none, .nilCheck, [.t 22]⟩, ⟨(some 24), none, (.fieldAddr 0), [.t 23]⟩, ⟨(some 25), none, (.load 1 false), [.t 24]⟩, ⟨(some 26), none, (.load 2 true), [.t 5]⟩, ⟨(some 27), none, (.lookup true [.int, .int] .nilp false), [.t 25, .t 26]⟩, ⟨(some 28), none, .nilCheck, [.t 27]⟩, ⟨(some 29), none, (.fieldAddr 0), [.t 28]⟩, ⟨(some 30), none, (.load 6 true), [.t 29]⟩, ⟨(some 31), none, .call, [.t 21, .t 30]⟩, ⟨(some 32), none, (.un .not), [.t 31]⟩] (some [0, 0, 2, 6, 14, 0, 62, 126, 254, 510, 1023, 2047]) [1, 3, 5, 15, 16, 17, 32])
  (.cond (.t 32) .ret
  .skip))
  (.seq (.region [⟨(some 33), none, (.load 1 false), [.t 1]⟩, ⟨(some 34), none, (.load 2 true), [.t 5]⟩, ⟨(some 35), none, .call, [.c (.fn (.func 54) [] []), .t 33, .t 34]⟩] none [1, 3, 15, 16, 17, 35])
  (.block 2 tX))))) rB)))
def tY : ACode := .loop [1, 3, 15, 16, 17] uD
/-- (*duet/weave.Line).own$1 -/
def c66 : AFun := ⟨3, 42, [],
  (.seq (.region [⟨(some 3), none, .box, [.t 0]⟩] none [1, 2, 3])
  (.seq (.region [⟨(some 7), none, (.load 1 false), [.t 1]⟩, ⟨(some 8), none, .nilCheck, [.t 7]⟩, ⟨(some 9), none, (.fieldAddr 0), [.t 8]⟩, ⟨(some 10), none, (.load 1 false), [.t 9]⟩, ⟨(some 11), none, (.load 2 true), [.t 2]⟩, ⟨(some 12), none, (.lookup true [.int, .int] .nilp false), [.t 10, .t 11]⟩, ⟨(some 13), none, .nilCheck, [.t 12]⟩, ⟨(some 14), none, (.fieldAddr 6), [.t 13]⟩, ⟨(some 15), none, (.load 1 false), [.t 14]⟩, ⟨(some 16), none, (.len .slice), [.t 15]⟩, ⟨(some 17), none, .move, [.c (.int .i64 0)]⟩] (some [0, 1, 3, 7, 0, 31, 63, 127, 255, 511, 0]) [1, 3, 15, 16, 17])
  (.block 0 tY)))⟩
theorem ok66 : FunOk Try.prog 66 c66 := ⟨⟨Try.f66, _, Try.func66, rfl, by kernel_rfl, by kernel_rfl, by kernel_rfl, by kernel_rfl⟩, by decide⟩
theorem res66 : c66.res = [] := rfl
def sN (P : Program) (p : Lab) (Q : aD) : aD := (fH 0 Q)
theorem q66_0_ret (P : Program) (p : Lab) (Q : aD) (r : RL) (H : aB) (c : Nat) : sN P p Q .ret r H c = Q .ret r H c := rfl
def t9 (P : Program) (p : Lab) (Q : aD) (f5 : Option (List Lab)) (f4 : Option (List Lab)) (f1 : Option (List Lab)) (w0 : List AV) (x1 : AV) (c : Nat) (v12_6 : AV) (H6 : aB) (l6 : List Lab) (f6 : Option (List Lab)) : Prop :=
  oP v12_6 fun v13_7 =>
  vFA 6 v13_7 fun v14_8 =>
  bA 1 false v14_8 H6 fun v15_9 f9 =>
  iS v15_9 fun v16_10 =>
  cU [0, 1, 3, 7, 0, 31, 63, 127, 255, 511, 0] (bT 0 [] ((c + 1) :: p) f1 (bT 3 [] ((c + 4) :: p) f4 (bT 4 [] ((c + 5) :: p) f5 (bT 5 l6 ((c + 6) :: p) f6 (bT 8 [] ((c + 9) :: p) f9 []))))) ∧
  vc P p tY (sN P p Q) [(1, x1), (3, (.ptr (c :: p) w0.length 0 0)), (15, v15_9), (16, v16_10), (17, (.int .i64 0))] H6 (c + 12)
def V66 (P : Program) (p : Lab) (Q : aD) (x0 x1 x2 : AV) (H : aB) (c : Nat) : Prop :=
  qT x0 fun w0 =>
  (fun (H0 : aB) =>
  bA 1 false x1 H0 fun v7_1 f1 =>
  oP v7_1 fun v8_2 =>
  vFA 0 v8_2 fun v9_3 =>
  bA 1 false v9_3 H0 fun v10_4 f4 =>
  bA 2 true x2 H0 fun v11_5 f5 =>
  bO (.lookup true [.int, .int] .nilp false) [v10_4, v11_5] H0 ((c + 6) :: p) (t9 P p Q f5 f4 f1 w0 x1 c)) (upd [((c :: p), some (.rows w0.length [w0]))] H)
theorem vt66 (P : Program) (p : Lab) (Q : aD) (x0 x1 x2 : AV) (H : aB) (c : Nat) : vc P p c66.body Q [(0, x0), (1, x1), (2, x2)] H c = V66 P p Q x0 x1 x2 H c := by kernel_rfl
def sM (P : Program) (p : Lab) (Q : aD) : aD := (fH 2 (fH 1 (dR (vc P p rB Q) Q)))
theorem q66_1_ret (P : Program) (p : Lab) (Q : aD) (r : RL) (H : aB) (c : Nat) : sM P p Q .ret r H c = Q .ret r H c := rfl
theorem q66_1_n (P : Program) (p : Lab) (Q : aD) (r : RL) (H : aB) (c : Nat) : sM P p Q .normal r H c = (vc P p rB Q r H c) := rfl
def t7 (P : Program) (p : Lab) (Q : aD) (y1 : AV) (y3 : AV) (y5 : AV) (y15 : AV) (y16 : AV) (y17 : AV) (y32 : AV) (H : aB) (c : Nat) : Prop :=
  bA 1 false y1 H fun v33_29 _ =>
  bA 2 true y5 H fun v34_30 _ =>
  dS true P 54 [v33_29, v34_30] H ((c + 2) :: p) (fun v35_31 H31 l31 f31 =>
  vc P p tX (sM P p Q) [(1, y1), (3, y3), (15, y15), (16, y16), (17, y17), (35, v35_31)] H31 (c + 3))
def sS (P : Program) (p : Lab) (Q : aD) (v32_28 : AV) (H27 : aB) (y1 : AV) (y3 : AV) (y15 : AV) (y16 : AV) (y17 : AV) (c : Nat) (_ : Unit) : Prop :=
  (t7 P p Q y1 y3 (.ptr ((c + 2) :: p) 2 0 0) y15 y16 y17 v32_28 H27 (c + 16))
def t6 (P : Program) (p : Lab) (Q : aD) (y1 : AV) (y3 : AV) (y15 : AV) (y16 : AV) (y17 : AV) (c : Nat) (v31_27 : AV) (H27 : aB) (l27 : List Lab) (f27 : Option (List Lab)) : Prop :=
  sC v31_27 fun v32_28 =>
  cP v32_28
  (fun _ =>
  Q .ret [(1, y1), (3, y3), (5, (.ptr ((c + 2) :: p) 2 0 0)), (15, y15), (16, y16), (17, y17), (32, v32_28)] H27 (c + 16))
  (sS P p Q v32_28 H27 y1 y3 y15 y16 y17 c)
def t5 (P : Program) (p : Lab) (Q : aD) (f22 : Option (List Lab)) (f21 : Option (List Lab)) (f18 : Option (List Lab)) (v21_17 : AV) (f17 : Option (List Lab)) (y1 : AV) (y3 : AV) (y15 : AV) (y16 : AV) (y17 : AV) (c : Nat) (v27_23 : AV) (H23 : aB) (l23 : List Lab) (f23 : Option (List Lab)) : Prop :=
  oP v27_23 fun v28_24 =>
  vFA 0 v28_24 fun v29_25 =>
  bA 6 true v29_25 H23 fun v30_26 f26 =>
  g9 (bT 0 [] ((c + 4) :: p) f17 (bT 1 [] ((c + 5) :: p) f18 (bT 4 [] ((c + 8) :: p) f21 (bT 5 [] ((c + 9) :: p) f22 (bT 6 l23 ((c + 10) :: p) f23 (bT 9 [] ((c + 13) :: p) f26 [])))))) ∧
  qQ P .call [v21_17, v30_26] H23 ((c + 14) :: p) (t6 P p Q y1 y3 y15 y16 y17 c)
def t4 (P : Program) (p : Lab) (Q : aD) (y1 : AV) (y3 : AV) (y15 : AV) (y16 : AV) (y17 : AV) (c : Nat) (v_16 : AV) (H16 : aB) (l16 : List Lab) (f16 : Option (List Lab)) : Prop :=
  bA 1 false y3 H16 fun v21_17 f17 =>
  bA 1 false y1 H16 fun v22_18 f18 =>
  oP v22_18 fun v23_19 =>
  vFA 0 v23_19 fun v24_20 =>
  bA 1 false v24_20 H16 fun v25_21 f21 =>
  bA 2 true (.ptr ((c + 2) :: p) 2 0 0) H16 fun v26_22 f22 =>
  bO (.lookup true [.int, .int] .nilp false) [v25_21, v26_22] H16 ((c + 10) :: p) (t5 P p Q f22 f21 f18 v21_17 f17 y1 y3 y15 y16 y17 c)
def t8 (P : Program) (p : Lab) (Q : aD) (y1 : AV) (y3 : AV) (y15 : AV) (y16 : AV) (y17 : AV) (y18 : AV) (H : aB) (c : Nat) : Prop :=
  vIx 2 y15 y17 fun v19_13 =>
  bA 2 true v19_13 H fun v20_14 _ =>
  (fun (H15 : aB) =>
  bO (.store 2) [(.ptr ((c + 2) :: p) 2 0 0), v20_14] H15 ((c + 3) :: p) (t4 P p Q y1 y3 y15 y16 y17 c)) (upd [(((c + 2) :: p), some (.rows 2 [[(.int .i64 0), (.int .i64 0)]]))] H)
def sR (P : Program) (p : Lab) (Q : aD) (v18_12 : AV) (x1 : AV) (x3 : AV) (x15 : AV) (x16 : AV) (x17 : AV) (H : aB) (c : Nat) (_ : Unit) : Prop :=
  (t8 P p Q x1 x3 x15 x16 x17 v18_12 H (c + 1))
def uK (P : Program) (p : Lab) (Q : aD) (x1 x3 x15 x16 x17 : AV) (H : aB) (c : Nat) : Prop :=
  dH .lss .num x17 x16 fun v18_12 =>
  cP v18_12
  (sR P p Q v18_12 x1 x3 x15 x16 x17 H c)
  (fun _ =>
  Q (.exit 0) [(1, x1), (3, x3), (15, x15), (16, x16), (17, x17), (18, v18_12)] H (c + 1))
theorem vt66_1 (P : Program) (p : Lab) (Q : aD) (x1 x3 x15 x16 x17 : AV) (H : aB) (c : Nat) : vc P p uD Q [(1, x1), (3, x3), (15, x15), (16, x16), (17, x17)] H c = uK P p Q x1 x3 x15 x16 x17 H c := by kernel_rfl
theorem q66_0_e0 (P : Program) (p : Lab) (Q : aD) (r : RL) (H : aB) (c : Nat) : sN P p Q (.exit 0) r H c = (Q .normal r H c) := rfl
def k66_8 (P : Program) (p : Lab) (Q : aD) (c : Nat) (v39_36 : AV) (H36 : aB) (l36 : List Lab) (f36 : Option (List Lab)) : Prop :=
  sC v39_36 fun v40_37 =>
  cP v40_37
  (fun _ =>
  Q .ret [(40, v40_37)] H36 (c + 6))
  (fun _ =>
  Q .normal [(40, v40_37)] H36 (c + 6))
def t0 (P : Program) (p : Lab) (Q : aD) (x3 : AV) (c : Nat) (v_33 : AV) (H33 : aB) (l33 : List Lab) (f33 : Option (List Lab)) : Prop :=
  bA 1 false x3 H33 fun v37_34 _ =>
  bA 6 true (.ptr (c :: p) 6 0 0) H33 fun v38_35 _ =>
  qQ P .call [v37_34, v38_35] H33 ((c + 4) :: p) (k66_8 P p Q c)
def uJ (P : Program) (p : Lab) (Q : aD) (x1 x3 x15 x16 x17 x35 x36 : AV) (H : aB) (c : Nat) : Prop :=
  (fun (H32 : aB) =>
  bO (.store 6) [(.ptr (c :: p) 6 0 0), x36] H32 ((c + 1) :: p) (t0 P p Q x3 c)) (upd [((c :: p), some (.rows 6 [[(.int .i64 0), (.int .i64 0), (.int .i64 0), (.int .i64 0), (.int .i64 0), .nils]]))] H)
theorem vt66_2 (P : Program) (p : Lab) (Q : aD) (x1 x3 x15 x16 x17 x35 x36 : AV) (H : aB) (c : Nat) : vc P p tT Q [(1, x1), (3, x3), (15, x15), (16, x16), (17, x17), (35, x35), (36, x36)] H c = uJ P p Q x1 x3 x15 x16 x17 x35 x36 H c := by kernel_rfl
def uI (P : Program) (p : Lab) (Q : aD) (x1 x3 x15 x16 x17 x35 : AV) (H : aB) (c : Nat) : Prop :=
  dH .add .num x17 (.int .i64 1) fun v41_38 =>
  Q .normal [(1, x1), (3, x3), (15, x15), (16, x16), (17, v41_38)] H (c + 2)
theorem vt66_3 (P : Program) (p : Lab) (Q : aD) (x1 x3 x15 x16 x17 x35 : AV) (H : aB) (c : Nat) : vc P p rB Q [(1, x1), (3, x3), (15, x15), (16, x16), (17, x17), (35, x35)] H c = uI P p Q x1 x3 x15 x16 x17 x35 H c := by kernel_rfl

def uH : ACode := (.region [⟨(some 7), none, (.alloc [(.int .i64 0), (.int .i64 0), (.int .i64 0), (.int .i64 0), (.int .i64 0), .nils]), []⟩, ⟨none, none, (.store 6), [.t 7, .t 13]⟩] none [3, 4, 5, 6, 7])
def uE : ACode := (.block 1 (.seq (.seq (.region [⟨(some 14), none, (.fieldAddr 0), [.t 7]⟩, ⟨(some 15), none, (.load 2 true), [.t 14]⟩, ⟨(some 16), none, (.load 2 true), [.t 3]⟩, ⟨(some 17), none, (.eqs .eql [.int, .int]), [.t 15, .t 16]⟩] none [4, 5, 6, 17])
  (.cond (.t 17) (.seq (.region [⟨(some 18), none, (.load 1 false), [.t 6]⟩, ⟨none, none, (.store 1), [.t 4, .t 18]⟩, ⟨none, none, (.store 1), [.t 5, .c (.bool true)]⟩] none [])
  .ret)
  .skip))
  (.region [⟨(some 19), none, (.load 1 false), [.t 6]⟩, ⟨(some 20), none, (.bin .add .num), [.t 19, .c (.int .i64 1)]⟩, ⟨none, none, (.store 1), [.t 6, .t 20]⟩] none [])))
def tU : ACode := .seq uH uE
def tZ : ACode := .rangeF (.t 12) [13] uH uE
def rC : ACode := (.seq (.region [⟨none, none, (.store 1), [.t 4, .c (.int .i64 0)]⟩, ⟨none, none, (.store 1), [.t 5, .c (.bool false)]⟩] none [4, 5])
  .ret)
/-- (*duet/weave.Line).Place -/
def c19 : AFun := ⟨2, 21, [.cell 4 1 false, .cell 5 1 false],
  (.seq (.region [⟨(some 3), none, .box, [.t 1]⟩, ⟨(some 4), none, (.alloc [(.int .i64 0)]), []⟩, ⟨(some 5), none, (.alloc [(.bool false)]), []⟩] none [0, 3, 4, 5])
  (.seq (.seq (.region [⟨(some 8), none, .move, [.t 0]⟩, ⟨(some 9), none, (.bin .eql .ptr), [.t 8, .c .nilp]⟩] none [0, 3, 4, 5, 9])
  (.cond (.t 9) (.seq (.region [⟨none, none, (.store 1), [.t 4, .c (.int .i64 0)]⟩, ⟨none, none, (.store 1), [.t 5, .c (.bool false)]⟩] none [4, 5])
  .ret)
  .skip))
  (.seq (.region [⟨(some 6), none, (.alloc [(.int .i64 0)]), []⟩, ⟨none, none, (.store 1), [.t 6, .c (.int .i64 0)]⟩] none [0, 3, 4, 5, 6])
  (.seq (.seq (.region [⟨(some 10), none, .move, [.t 0]⟩, ⟨(some 11), none, (.build [(.int .i64 0), (.int .i64 0)] []), []⟩, ⟨(some 12), none, .call, [.c (.fn (.func 54) [] []), .t 10, .t 11]⟩] none [3, 4, 5, 6, 12])
  (.block 0 tZ)) rC))))⟩
theorem uQ : FunOk Try.prog 19 c19 := ⟨⟨Try.f19, _, Try.func19, rfl, by kernel_rfl, by kernel_rfl, by kernel_rfl, by kernel_rfl⟩, by decide⟩
theorem nY : c19.res = [.cell 4 1 false, .cell 5 1 false] := rfl
def mJ (P : Program) (p : Lab) (Q : aD) (y4 : AV) (y5 : AV) (H : aB) (c : Nat) : Prop :=
  Q .ret [(4, y4), (5, y5)] H c
def mI (P : Program) (p : Lab) (Q : aD) (c : Nat) (v_6 : AV) (H6 : aB) (l6 : List Lab) (f6 : Option (List Lab)) : Prop :=
  (mJ P p Q (.ptr ((c + 1) :: p) 1 0 0) (.ptr ((c + 2) :: p) 1 0 0) H6 (c + 7))
def mH (P : Program) (p : Lab) (Q : aD) (c : Nat) (v_5 : AV) (H5 : aB) (l5 : List Lab) (f5 : Option (List Lab)) : Prop :=
  bO (.store 1) [(.ptr ((c + 2) :: p) 1 0 0), (.bool false)] H5 ((c + 6) :: p) (mI P p Q c)
def mG (P : Program) (p : Lab) (Q : aD) (H2 : aB) (c : Nat) (_ : Unit) : Prop :=
  bO (.store 1) [(.ptr ((c + 1) :: p) 1 0 0), (.int .i64 0)] H2 ((c + 5) :: p) (mH P p Q c)
def sO (P : Program) (p : Lab) (Q : aD) : aD := (fH 0 (dR (vc P p rC Q) Q))
theorem dB (P : Program) (p : Lab) (Q : aD) (r : RL) (H : aB) (c : Nat) : sO P p Q .ret r H c = Q .ret r H c := rfl
theorem fM (P : Program) (p : Lab) (Q : aD) (r : RL) (H : aB) (c : Nat) : sO P p Q .normal r H c = (vc P p rC Q r H c) := rfl
def mE (P : Program) (p : Lab) (Q : aD) (y0 : AV) (y3 : AV) (y4 : AV) (y5 : AV) (c : Nat) (v_8 : AV) (H8 : aB) (l8 : List Lab) (f8 : Option (List Lab)) : Prop :=
  gH [(.int .i64 0), (.int .i64 0)] [] [] fun v11_10 =>
  dS true P 54 [y0, v11_10] H8 ((c + 4) :: p) (fun v12_11 H11 l11 f11 =>
  vc P p tZ (sO P p Q) [(3, y3), (4, y4), (5, y5), (6, (.ptr (c :: p) 1 0 0)), (12, v12_11)] H11 (c + 5))
def mF (P : Program) (p : Lab) (Q : aD) (y0 : AV) (y3 : AV) (y4 : AV) (y5 : AV) (y9 : AV) (H : aB) (c : Nat) : Prop :=
  (fun (H7 : aB) =>
  bO (.store 1) [(.ptr (c :: p) 1 0 0), (.int .i64 0)] H7 ((c + 1) :: p) (mE P p Q y0 y3 y4 y5 c)) (upd [((c :: p), some (.rows 1 [[(.int .i64 0)]]))] H)
def mD (P : Program) (p : Lab) (Q : aD) (v9_4 : AV) (H2 : aB) (w0 : List AV) (x0 : AV) (c : Nat) (_ : Unit) : Prop :=
  (mF P p Q x0 (.ptr (c :: p) w0.length 0 0) (.ptr ((c + 1) :: p) 1 0 0) (.ptr ((c + 2) :: p) 1 0 0) v9_4 H2 (c + 5))
def V19 (P : Program) (p : Lab) (Q : aD) (x0 x1 : AV) (H : aB) (c : Nat) : Prop :=
  qT x1 fun w0 =>
  (fun (H0 : aB) =>
  (fun (H1 : aB) =>
  (fun (H2 : aB) =>
  dH .eql .ptr x0 .nilp fun v9_4 =>
  cP v9_4
  (mG P p Q H2 c)
  (mD P p Q v9_4 H2 w0 x0 c)) (upd [(((c + 2) :: p), some (.rows 1 [[(.bool false)]]))] H1)) (upd [(((c + 1) :: p), some (.rows 1 [[(.int .i64 0)]]))] H0)) (upd [((c :: p), some (.rows w0.length [w0]))] H)
theorem rY (P : Program) (p : Lab) (Q : aD) (x0 x1 : AV) (H : aB) (c : Nat) : vc P p c19.body Q [(0, x0), (1, x1)] H c = V19 P p Q x0 x1 H c := by kernel_rfl
def mC (P : Program) (p : Lab) (Q : aD)  (H : aB) (c : Nat) : Prop :=
  Q .ret [] H c
def mB (P : Program) (p : Lab) (Q : aD) (c : Nat) (v_20 : AV) (H20 : aB) (l20 : List Lab) (f20 : Option (List Lab)) : Prop :=
  (mC P p Q  H20 (c + 9))
def mA (P : Program) (p : Lab) (Q : aD) (x5 : AV) (c : Nat) (v_19 : AV) (H19 : aB) (l19 : List Lab) (f19 : Option (List Lab)) : Prop :=
  bO (.store 1) [x5, (.bool true)] H19 ((c + 8) :: p) (mB P p Q c)
def i3 (P : Program) (p : Lab) (Q : aD) (H17 : aB) (x4 : AV) (x5 : AV) (x6 : AV) (c : Nat) (_ : Unit) : Prop :=
  bA 1 false x6 H17 fun v18_18 _ =>
  bO (.store 1) [x4, v18_18] H17 ((c + 7) :: p) (mA P p Q x5 c)
def i2 (P : Program) (p : Lab) (Q : aD) (y4 : AV) (y5 : AV) (y6 : AV) (y17 : AV) (H : aB) (c : Nat) : Prop :=
  bA 1 false y6 H fun v19_21 _ =>
  dH .add .num v19_21 (.int .i64 1) fun v20_22 =>
  bO (.store 1) [y6, v20_22] H ((c + 2) :: p) (fun v_23 H23 l23 f23 =>
  Q .normal [] H23 (c + 3))
def i1 (P : Program) (p : Lab) (Q : aD) (v17_17 : AV) (H17 : aB) (x4 : AV) (x5 : AV) (x6 : AV) (c : Nat) (_ : Unit) : Prop :=
  (i2 P p Q x4 x5 x6 v17_17 H17 (c + 6))
def i0 (P : Program) (p : Lab) (Q : aD) (x4 : AV) (x5 : AV) (x6 : AV) (c : Nat) (v17_17 : AV) (H17 : aB) (l17 : List Lab) (f17 : Option (List Lab)) : Prop :=
  cP v17_17
  (i3 P p Q H17 x4 x5 x6 c)
  (i1 P p Q v17_17 H17 x4 x5 x6 c)
def iZ (P : Program) (p : Lab) (Q : aD) (x3 : AV) (x4 : AV) (x5 : AV) (x6 : AV) (c : Nat) (v_13 : AV) (H13 : aB) (l13 : List Lab) (f13 : Option (List Lab)) : Prop :=
  vFA 0 (.ptr (c :: p) 6 0 0) fun v14_14 =>
  bA 2 true v14_14 H13 fun v15_15 _ =>
  bA 2 true x3 H13 fun v16_16 _ =>
  bO (.eqs .eql [.int, .int]) [v15_15, v16_16] H13 ((c + 5) :: p) (i0 P p Q x4 x5 x6 c)
def kT (P : Program) (p : Lab) (Q : aD) (x3 x4 x5 x6 x12 x13 : AV) (H : aB) (c : Nat) : Prop :=
  (fun (H12 : aB) =>
  bO (.store 6) [(.ptr (c :: p) 6 0 0), x13] H12 ((c + 1) :: p) (iZ P p Q x3 x4 x5 x6 c)) (upd [((c :: p), some (.rows 6 [[(.int .i64 0), (.int .i64 0), (.int .i64 0), (.int .i64 0), (.int .i64 0), .nils]]))] H)
theorem iP (P : Program) (p : Lab) (Q : aD) (x3 x4 x5 x6 x12 x13 : AV) (H : aB) (c : Nat) : vc P p tU Q [(3, x3), (4, x4), (5, x5), (6, x6), (12, x12), (13, x13)] H c = kT P p Q x3 x4 x5 x6 x12 x13 H c := by kernel_rfl
def iY (P : Program) (p : Lab) (Q : aD) (x4 : AV) (x5 : AV) (c : Nat) (v_24 : AV) (H24 : aB) (l24 : List Lab) (f24 : Option (List Lab)) : Prop :=
  bO (.store 1) [x5, (.bool false)] H24 ((c + 1) :: p) (fun v_25 H25 l25 f25 =>
  Q .ret [(4, x4), (5, x5)] H25 (c + 2))
def m8 (P : Program) (p : Lab) (Q : aD) (x3 x4 x5 x6 x12 : AV) (H : aB) (c : Nat) : Prop :=
  bO (.store 1) [x4, (.int .i64 0)] H (c :: p) (iY P p Q x4 x5 c)
theorem jR (P : Program) (p : Lab) (Q : aD) (x3 x4 x5 x6 x12 : AV) (H : aB) (c : Nat) : vc P p rC Q [(3, x3), (4, x4), (5, x5), (6, x6), (12, x12)] H c = m8 P p Q x3 x4 x5 x6 x12 H c := by kernel_rfl

def uF : ACode := (.region [⟨(some 5), none, (.alloc [(.int .i64 0), (.int .i64 0), (.int .i64 0), (.int .i64 0), (.int .i64 0), .nils]), []⟩, ⟨none, none, (.store 6), [.t 5, .t 7]⟩] none [2, 5])
def uB : ACode := (.block 1 (.region [⟨(some 8), none, (.load 1 false), [.t 2]⟩, ⟨(some 9), none, (.load 6 true), [.t 5]⟩, ⟨(some 10), none, (.buildSlice 6 [(.int .i64 0), (.int .i64 0), (.int .i64 0), (.int .i64 0), (.int .i64 0), .nils] [(0, 6)]), [.t 9]⟩, ⟨(some 11), none, (.append 6 64), [.t 8, .t 10]⟩, ⟨none, none, (.store 1), [.t 2, .t 11]⟩] none []))
def tS : ACode := .seq uF uB
def tW : ACode := .rangeF (.t 6) [7] uF uB
def rA : ACode := (.seq (.region [⟨(some 12), none, (.load 1 false), [.t 2]⟩, ⟨(some 4), none, .move, [.t 12]⟩] none [4])
  .ret)
/-- slices.AppendSeq[[]duet/api.Element,duet/api.Element] -/
def c67 : AFun := ⟨2, 13, [.tmp 4],
  (.seq (.region [⟨(some 2), none, .box, [.t 0]⟩, ⟨(some 4), none, .move, [.c .nils]⟩] none [1, 2, 4])
  (.seq (.seq (.region [⟨(some 6), none, .move, [.t 1]⟩] none [2, 4, 6])
  (.block 0 tW)) rA))⟩
theorem ok67 : FunOk Try.prog 67 c67 := ⟨⟨Try.f67, _, Try.func67, rfl, by kernel_rfl, by kernel_rfl, by kernel_rfl, by kernel_rfl⟩, by decide⟩
theorem sJ : c67.res = [.tmp 4] := rfl
def sL (P : Program) (p : Lab) (Q : aD) : aD := (fH 0 (dR (vc P p rA Q) Q))
theorem jY (P : Program) (p : Lab) (Q : aD) (r : RL) (H : aB) (c : Nat) : sL P p Q .ret r H c = Q .ret r H c := rfl
theorem kZ (P : Program) (p : Lab) (Q : aD) (r : RL) (H : aB) (c : Nat) : sL P p Q .normal r H c = (vc P p rA Q r H c) := rfl
def V67 (P : Program) (p : Lab) (Q : aD) (x0 x1 : AV) (H : aB) (c : Nat) : Prop :=
  qT x0 fun w0 =>
  (fun (H0 : aB) =>
  vc P p tW (sL P p Q) [(2, (.ptr (c :: p) w0.length 0 0)), (4, .nils), (6, x1)] H0 (c + 3)) (upd [((c :: p), some (.rows w0.length [w0]))] H)
theorem uM (P : Program) (p : Lab) (Q : aD) (x0 x1 : AV) (H : aB) (c : Nat) : vc P p c67.body Q [(0, x0), (1, x1)] H c = V67 P p Q x0 x1 H c := by kernel_rfl
def rI (P : Program) (p : Lab) (Q : aD) (x2 : AV) (c : Nat) (v_4 : AV) (H4 : aB) (l4 : List Lab) (f4 : Option (List Lab)) : Prop :=
  bA 1 false x2 H4 fun v8_5 _ =>
  bA 6 true (.ptr (c :: p) 6 0 0) H4 fun v9_6 _ =>
  fK 6 [(.int .i64 0), (.int .i64 0), (.int .i64 0), (.int .i64 0), (.int .i64 0), .nils] [(0, 6)] [v9_6] fun w7 n7 =>
  (fun (H7 : aB) =>
  bO (.append 6 64) [v8_5, (.sl ((c + 4) :: p) 6 0 n7)] H7 ((c + 5) :: p) (fun v11_8 H8 l8 f8 =>
  bO (.store 1) [x2, v11_8] H8 ((c + 6) :: p) (fun v_9 H9 l9 f9 =>
  Q .normal [] H9 (c + 7)))) (upd [(((c + 4) :: p), some (.rows 6 w7))] H4)
def qN (P : Program) (p : Lab) (Q : aD) (x2 x4 x6 x7 : AV) (H : aB) (c : Nat) : Prop :=
  (fun (H3 : aB) =>
  bO (.store 6) [(.ptr (c :: p) 6 0 0), x7] H3 ((c + 1) :: p) (rI P p Q x2 c)) (upd [((c :: p), some (.rows 6 [[(.int .i64 0), (.int .i64 0), (.int .i64 0), (.int .i64 0), (.int .i64 0), .nils]]))] H)
theorem oO (P : Program) (p : Lab) (Q : aD) (x2 x4 x6 x7 : AV) (H : aB) (c : Nat) : vc P p tS Q [(2, x2), (4, x4), (6, x6), (7, x7)] H c = qN P p Q x2 x4 x6 x7 H c := by kernel_rfl
def rW (P : Program) (p : Lab) (Q : aD) (x2 x4 x6 : AV) (H : aB) (c : Nat) : Prop :=
  bA 1 false x2 H fun v12_10 _ =>
  Q .ret [(4, v12_10)] H (c + 2)
theorem qO (P : Program) (p : Lab) (Q : aD) (x2 x4 x6 : AV) (H : aB) (c : Nat) : vc P p rA Q [(2, x2), (4, x4), (6, x6)] H c = rW P p Q x2 x4 x6 H c := by kernel_rfl


/-- slices.Collect[duet/api.Element] -/
def c56 : AFun := ⟨1, 5, [.tmp 2],
  (.seq (.region [⟨(some 2), none, .move, [.c .nils]⟩] none [0])
  (.seq (.region [⟨(some 3), none, .move, [.t 0]⟩, ⟨(some 4), none, .call, [.c (.fn (.func 67) [] []), .c .nils, .t 3]⟩, ⟨(some 2), none, .move, [.t 4]⟩] none [2])
  .ret))⟩
theorem ok56 : FunOk Try.prog 56 c56 := ⟨⟨Try.f56, _, Try.func56, rfl, by kernel_rfl, by kernel_rfl, by kernel_rfl, by kernel_rfl⟩, by decide⟩
theorem res56 : c56.res = [.tmp 2] := rfl
def V56 (P : Program) (p : Lab) (Q : aD) (x0 : AV) (H : aB) (c : Nat) : Prop :=
  dS true P 67 [.nils, x0] H ((c + 2) :: p) (fun v4_2 H2 l2 f2 =>
  Q .ret [(2, v4_2)] H2 (c + 4))
theorem vt56 (P : Program) (p : Lab) (Q : aD) (x0 : AV) (H : aB) (c : Nat) : vc P p c56.body Q [(0, x0)] H c = V56 P p Q x0 H c := by kernel_rfl


/-- (*duet/weave.Line).Elements -/
def c22 : AFun := ⟨1, 9, [.tmp 2],
  (.seq (.region [⟨(some 2), none, .move, [.c .nils]⟩] none [0])
  (.seq (.seq (.region [⟨(some 3), none, .move, [.t 0]⟩, ⟨(some 4), none, (.bin .eql .ptr), [.t 3, .c .nilp]⟩] none [0, 4])
  (.cond (.t 4) (.seq (.region [⟨(some 2), none, .move, [.c .nils]⟩] none [2])
  .ret)
  .skip))
  (.seq (.region [⟨(some 5), none, .move, [.t 0]⟩, ⟨(some 6), none, (.build [(.int .i64 0), (.int .i64 0)] []), []⟩, ⟨(some 7), none, .call, [.c (.fn (.func 54) [] []), .t 5, .t 6]⟩, ⟨(some 8), none, .call, [.c (.fn (.func 56) [] []), .t 7]⟩, ⟨(some 2), none, .move, [.t 8]⟩] none [2])
  .ret)))⟩
theorem uP : FunOk Try.prog 22 c22 := ⟨⟨Try.f22, _, Try.func22, rfl, by kernel_rfl, by kernel_rfl, by kernel_rfl, by kernel_rfl⟩, by decide⟩
theorem sK : c22.res = [.tmp 2] := rfl
def rN (P : Program) (p : Lab) (Q : aD)  (H : aB) (c : Nat) : Prop :=
  Q .ret [(2, .nils)] H c
def rM (P : Program) (p : Lab) (Q : aD) (H : aB) (c : Nat) (_ : Unit) : Prop :=
  (rN P p Q  H (c + 4))
def rK (P : Program) (p : Lab) (Q : aD) (c : Nat) (v7_6 : AV) (H6 : aB) (l6 : List Lab) (f6 : Option (List Lab)) : Prop :=
  dS true P 56 [v7_6] H6 ((c + 3) :: p) (fun v8_7 H7 l7 f7 =>
  Q .ret [(2, v8_7)] H7 (c + 5))
def rL (P : Program) (p : Lab) (Q : aD) (y0 : AV) (y4 : AV) (H : aB) (c : Nat) : Prop :=
  gH [(.int .i64 0), (.int .i64 0)] [] [] fun v6_5 =>
  dS true P 54 [y0, v6_5] H ((c + 2) :: p) (rK P p Q c)
def rJ (P : Program) (p : Lab) (Q : aD) (v4_2 : AV) (x0 : AV) (H : aB) (c : Nat) (_ : Unit) : Prop :=
  (rL P p Q x0 v4_2 H (c + 3))
def V22 (P : Program) (p : Lab) (Q : aD) (x0 : AV) (H : aB) (c : Nat) : Prop :=
  dH .eql .ptr x0 .nilp fun v4_2 =>
  cP v4_2
  (rM P p Q H c)
  (rJ P p Q v4_2 x0 H c)
theorem uN (P : Program) (p : Lab) (Q : aD) (x0 : AV) (H : aB) (c : Nat) : vc P p c22.body Q [(0, x0)] H c = V22 P p Q x0 H c := by kernel_rfl



end Go.Proofs.Ytigjoggpaamodaa
/-! weave: what a line's elements are, by its memory. -/
namespace Go.Proofs.Ytigjoggpaamodaa
set_option linter.unusedVariables false
set_option linter.unusedSimpArgs false
set_option maxRecDepth 100000
def idA (k : Int × Int) : AV := .agg [.int .i64 k.1, .int .i64 k.2]
def uS : AV → Option (Int × Int)
  | .agg [.int .i64 t, .int .i64 s] => some (t, s)
  | _ => none
theorem asId_some {v : AV} {k : Int × Int} (h : uS v = some k) : v = idA k := by
  unfold uS at h
  split at h
  · cases h; rfl
  · cases h
def qZ : AV → Option AV
  | .agg [.int .i64 a, .int .i64 b, .int .i64 c, .int .i64 d, .int .i64 e, u] => if u.one = true then some (.agg [.int .i64 a, .int .i64 b, .int .i64 c, .int .i64 d, .int .i64 e, u]) else none
  | _ => none
def ElemOk (x : AV) : Prop := ∃ (a b c d e : Int) (u : AV), x = .agg [.int .i64 a, .int .i64 b, .int .i64 c, .int .i64 d, .int .i64 e, u] ∧ u.one = true
theorem ElemOk.cells {x : AV} (h : ElemOk x) : ∃ cs, x = .agg cs ∧ cs.length = 6 ∧ cs.all AV.one = true := by
  obtain ⟨a, b, c, d, e, u, rfl, hu⟩ := h
  exact ⟨_, rfl, rfl, by simp only [List.all_cons, hu, List.all_nil]; rfl⟩
theorem kP {v e : AV} (h : qZ v = some e) : v = e ∧ ElemOk e := by
  unfold qZ at h
  split at h
  · split at h
    · rename_i hc; cases h; exact ⟨rfl, _, _, _, _, _, _, rfl, hc⟩
    · cases h
  · cases h
def ld (n : Nat) (agg : Bool) (a : AV) (F : aB) : Option AV := (aZ n agg a F []).map (·.x)
def k8 (F : aB) (ll : Lab) (k : Int × Int) : Option AV := (ld 1 false (.ptr ll 1 0 0) F).bind fun m => (cJ true [.int, .int] .nilp false m (idA k) F).bind fun r => if r.x.nonNil then some r.x else none
def k9 (F : aB) (ll : Lab) (k : Int × Int) : Option AV := (k8 F ll k).bind fun nd => (cE 0 nd).bind fun a => (ld 6 true a F).bind qZ
def pF (F : aB) (ll : Lab) (k : Int × Int) : Option AV := (k8 F ll k).bind fun nd => (cE 6 nd).bind fun a => ld 1 false a F
def r7 (F : aB) (s : AV) (i : Nat) : Option (Int × Int) := (cD 2 s (.int .i64 i)).bind fun a => (ld 2 true a F).bind uS
def pG (F : aB) (s : AV) : Option (List (Int × Int)) := s.len.bind fun n => if n ≤ 1000000000 then (List.range n).mapM (r7 F s) else none
def e9 (F : aB) (ll : Lab) : Nat → Int × Int → Option (List AV)
  | 0, _ => none
  | n + 1, k => (pF F ll k).bind fun s => (pG F s).bind fun ks => (ks.mapM fun j => (k9 F ll j).bind fun e => (e9 F ll n j).map fun r => e :: r).map List.flatten
section
variable {P : Program} {F H : aB} {q : Lab}
theorem oN {n : Nat} {agg : Bool} {a : AV} {r : Res} (h : aZ n agg a F [] = some r) (hs : Sub F H) : aZ n agg a H [] = some r := by
  unfold aZ at h ⊢
  split at h
  · split at h
    · rename_i hl; rw [hs _ _ hl]; exact h
    · cases h
  · exact h
  · cases h
theorem o3 {n : Nat} {agg : Bool} {a v : AV} (h : ld n agg a F = some v) (hs : Sub F H) : ld n agg a H = some v := by
  simp only [ld, Option.map_eq_some_iff] at h ⊢
  obtain ⟨r, h1, h2⟩ := h
  exact ⟨r, oN h1 hs, h2⟩
theorem i8 {n : Nat} {agg : Bool} {a v : AV} {K : AV → Option (List Lab) → Prop} (h : ld n agg a F = some v) (hs : Sub F H) (hk : ∀ f, K v f) : bA n agg a H K := by
  simp only [ld, Option.map_eq_some_iff] at h
  obtain ⟨r, h1, rfl⟩ := h
  exact ⟨r, oN h1 hs, hk _⟩
theorem kR {agg : Bool} {ks : List CK} {z : AV} {ok : Bool} {m k : AV} {r : Res} (h : cJ agg ks z ok m k F = some r) (hs : Sub F H) : cJ agg ks z ok m k H = some r := by
  unfold cJ at h ⊢
  split at h
  · rename_i hsh
    rw [if_pos hsh]
    split at h
    · exact h
    · split at h
      · rename_i hl; rw [hs _ _ hl]; exact h
      · rename_i hl; rw [hs _ _ hl]; exact h
      · cases h
    · cases h
  · cases h
theorem aLookup_u {agg : Bool} {ks : List CK} {z : AV} {ok : Bool} {m k : AV} {r : Res} (h : cJ agg ks z ok m k F = some r) : r.u = [] := by
  unfold cJ at h
  split at h
  · split at h
    · cases h; rfl
    · split at h
      · simp only [Option.bind_eq_some_iff] at h
        obtain ⟨y, _, h⟩ := h
        split at h <;> (cases h; rfl)
      · simp only [Option.bind_eq_some_iff] at h
        obtain ⟨y, _, h⟩ := h
        split at h
        · cases h; rfl
        · cases h; rfl
        · cases h
      · cases h
    · cases h
  · cases h
theorem q0 {agg : Bool} {ks : List CK} {z : AV} {ok : Bool} {m k : AV} {r : Res} {K : KF} (h : cJ agg ks z ok m k F = some r) (hs : Sub F H) (hk : ∀ f, K r.x H [] f) : bO (.lookup agg ks z ok) [m, k] H q K := by
  refine ⟨r, kR h hs, ?_⟩
  rw [aLookup_u h]
  exact hk _
theorem bP {j : Nat} {c : Lab} {f : Option (List Lab)} {ps : List (Nat × Tr)} (h : g9 ps) : g9 (bT j [] c f ps) := by
  unfold bT
  split
  · exact h
  · simp only [g9, List.all_cons, List.isEmpty_nil, Bool.true_and]; exact h
theorem n3 : g9 [] := rfl
theorem kY {ll : Lab} : ∀ {n : Nat} {k : Int × Int} {ys : List AV}, e9 F ll n k = some ys → ∀ x ∈ ys, ElemOk x
  | 0, k, ys, h, x, hx => by cases h
  | n + 1, k, ys, h, x, hx => by
    simp only [e9, Option.bind_eq_some_iff, Option.map_eq_some_iff] at h
    obtain ⟨s, _, ks, _, ps, hps, rfl⟩ := h
    obtain ⟨pl, hpl, hx⟩ := List.mem_flatten.1 hx
    have key : ∀ {ks : List (Int × Int)} {ps : List (List AV)}, (ks.mapM fun j => (k9 F ll j).bind fun e => (e9 F ll n j).map fun r => e :: r) = some ps → pl ∈ ps → ElemOk x := by
      intro ks
      induction ks with
      | nil => intro ps h hm; simp at h; subst h; cases hm
      | cons j ks ih =>
        intro ps h hm
        simp only [List.mapM_cons, Option.bind_eq_bind, Option.bind_eq_some_iff, Option.map_eq_some_iff, Option.pure_def, Option.some.injEq] at h
        obtain ⟨p, ⟨e, he, r, hr, rfl⟩, ps', hps', rfl⟩ := h
        rcases List.mem_cons.1 hm with rfl | hm
        · rcases List.mem_cons.1 hx with rfl | hx
          · simp only [k9, Option.bind_eq_some_iff] at he
            obtain ⟨_, _, _, _, v, _, hv⟩ := he
            exact (kP hv).2
          · exact kY hr x hx
        · exact ih hps' hm
    exact key hps hpl
theorem l0 {α β : Type} {f : α → Option β} : ∀ {l : List α} {r : List β}, l.mapM f = some r → r.length = l.length ∧ ∀ (i : Nat) (x : α), l[i]? = some x → ∃ y, r[i]? = some y ∧ f x = some y
  | [], r, h => by simp at h; subst h; exact ⟨rfl, fun i x hx => by simp at hx⟩
  | a :: l, r, h => by
    simp only [List.mapM_cons, Option.bind_eq_bind, Option.bind_eq_some_iff, Option.pure_def, Option.some.injEq] at h
    obtain ⟨y, hy, r', hr, rfl⟩ := h
    obtain ⟨h1, h2⟩ := l0 hr
    refine ⟨by simp [h1], fun i x hx => ?_⟩
    cases i with
    | zero => simp at hx; subst hx; exact ⟨y, by simp, hy⟩
    | succ i => exact h2 i x (by simpa using hx)
theorem nE {ll : Lab} {k : Int × Int} {v : AV} (h : k8 F ll k = some v) (hs : Sub F H) : k8 H ll k = some v := by
  simp only [k8, Option.bind_eq_some_iff] at h ⊢
  obtain ⟨m, h1, r, h2, h3⟩ := h
  exact ⟨m, o3 h1 hs, r, kR h2 hs, h3⟩
end
end Go.Proofs.Ytigjoggpaamodaa
/-! weave: what own yields. -/
namespace Go.Proofs.Ytigjoggpaamodaa
set_option linter.unusedVariables false
set_option linter.unusedSimpArgs false
set_option maxRecDepth 100000
theorem wElem_sub {F H : aB} {ll : Lab} {k : Int × Int} {v : AV} (h : k9 F ll k = some v) (hs : Sub F H) : k9 H ll k = some v := by
  simp only [k9, Option.bind_eq_some_iff] at h ⊢
  obtain ⟨nd, h1, a, h2, w, h3, h4⟩ := h
  exact ⟨nd, nE h1 hs, a, h2, w, o3 h3 hs, h4⟩
theorem wList_sub {F H : aB} {ll : Lab} {k : Int × Int} {v : AV} (h : pF F ll k = some v) (hs : Sub F H) : pF H ll k = some v := by
  simp only [pF, Option.bind_eq_some_iff] at h ⊢
  obtain ⟨nd, h1, a, h2, h3⟩ := h
  exact ⟨nd, nE h1 hs, a, h2, o3 h3 hs⟩
theorem wKid_sub {F H : aB} {s : AV} {i : Nat} {k : Int × Int} (h : r7 F s i = some k) (hs : Sub F H) : r7 H s i = some k := by
  simp only [r7, Option.bind_eq_some_iff] at h ⊢
  obtain ⟨a, h1, w, h2, h3⟩ := h
  exact ⟨a, h1, w, o3 h2 hs, h3⟩
theorem lZ {α β : Type} {f g : α → Option β} (hfg : ∀ x y, f x = some y → g x = some y) : ∀ {l : List α} {r : List β}, l.mapM f = some r → l.mapM g = some r
  | [], r, h => by simpa using h
  | a :: l, r, h => by
    simp only [List.mapM_cons, Option.bind_eq_bind, Option.bind_eq_some_iff, Option.pure_def, Option.some.injEq] at h ⊢
    obtain ⟨y, hy, r', hr, rfl⟩ := h
    exact ⟨y, hfg _ _ hy, r', lZ hfg hr, rfl⟩
theorem wKids_sub {F H : aB} {s : AV} {ks : List (Int × Int)} (h : pG F s = some ks) (hs : Sub F H) : pG H s = some ks := by
  simp only [pG, Option.bind_eq_some_iff] at h ⊢
  obtain ⟨n, h1, h2⟩ := h
  refine ⟨n, h1, ?_⟩
  split at h2
  · rename_i hb; rw [if_pos hb]; exact lZ (fun _ _ h => wKid_sub h hs) h2
  · cases h2
theorem i7 {F H : aB} {ll : Lab} (hs : Sub F H) : ∀ {n : Nat} {k : Int × Int} {ys : List AV}, e9 F ll n k = some ys → e9 H ll n k = some ys
  | 0, k, ys, h => by cases h
  | n + 1, k, ys, h => by
    simp only [e9, Option.bind_eq_some_iff, Option.map_eq_some_iff] at h ⊢
    obtain ⟨s, h1, ks, h2, ps, h3, rfl⟩ := h
    refine ⟨s, wList_sub h1 hs, ks, wKids_sub h2 hs, ps, lZ (fun j r hj => ?_) h3, rfl⟩
    simp only [Option.bind_eq_some_iff, Option.map_eq_some_iff] at hj ⊢
    obtain ⟨e, he, t, ht, rfl⟩ := hj
    exact ⟨e, wElem_sub he hs, t, i7 hs ht, rfl⟩
/-- what is not the caller's part -/
noncomputable def rest (G H : aB) : aB := fun l => @ite _ (G l = none) (Classical.propDecidable _) (H l) none
theorem g8 {G H : aB} {l : Lab} (h : G l = none) : rest G H l = H l := by simp [rest, h]
theorem pS {G H : aB} : Sub (rest G H) H := fun l o h => by
  unfold rest at h
  split at h
  · exact h
  · cases h
theorem pT {G H : aB} {l : Lab} (h : rest G H l ≠ none) : G l = none := by
  unfold rest at h
  split at h
  · assumption
  · exact absurd rfl h
theorem j3 {H : aB} {q : Lab} {x : AV} {k : Int × Int} (hx : x.cells = [x]) (hx1 : x.one = true) : aK Try.prog 54 [x, idA k] H q ⟨.fn (.func 66) [] [.ptr (0 :: q) 1 0 0, .ptr (1 :: q) 2 0 0], [(1 :: q, some (.rows 2 [[.int .i64 k.1, .int .i64 k.2]])), (0 :: q, some (.rows 1 [[x]]))], some []⟩ := by
  refine gL Try.mixed ok54 rfl (fun l hl => ?_) ?_
  · obtain ⟨p, hp, rfl⟩ := hl
    simp only [List.mem_cons, List.not_mem_nil, or_false] at hp
    rcases hp with rfl | rfl
    · exact .inr ⟨[1], rfl⟩
    · exact .inr ⟨[0], rfl⟩
  · simp only [params, Nat.zero_add, Nat.reduceAdd]
    rw [vt54]
    unfold V54
    refine ⟨by rw [hx]; simp [hx1], ?_⟩
    dsimp only
    refine ⟨rfl, ?_⟩
    dsimp only
    rw [dA, hx]
    exact ⟨.inr rfl, _, rfl, .refl _, fun l o h => h⟩
theorem s4 {l q : Lab} {n e : Nat} {row : List AV} {x : AV} {H : aB} {K : KF} (hl : H l = some (.rows e [row])) (hlen : x.cells.length = n) (hrow : row.length = n) (hone : x.cells.all AV.one = true) (hk : K (.tuple []) (upd [(l, some (.rows e [x.cells]))] H) [l] (some [l])) : bO (.store n) [.ptr l e 0 0, x] H q K := by
  refine ⟨⟨.tuple [], [(l, some (.rows e [x.cells]))], some [l]⟩, ?_, hk⟩
  simp [aop, dQ, hl, hlen, hrow, hone, putL, List.drop_eq_nil_of_le]
theorem flat_head {α : Type} {parts : List (List α)} {i : Nat} {e : α} {r : List α} (h : parts[i]? = some (e :: r)) : parts.flatten[(parts.take i).flatten.length]? = some e ∧ (∀ k x, r[k]? = some x → parts.flatten[(parts.take i).flatten.length + 1 + k]? = some x) ∧ (parts.take (i + 1)).flatten.length = (parts.take i).flatten.length + 1 + r.length := by
  obtain ⟨hi, he⟩ := List.getElem?_eq_some_iff.1 h
  have h1 : parts = parts.take i ++ (e :: r) :: parts.drop (i + 1) := by
    rw [← he, ← List.drop_eq_getElem_cons hi, List.take_append_drop]
  have h2 : parts.flatten = (parts.take i).flatten ++ ((e :: r) ++ (parts.drop (i + 1)).flatten) := by
    conv => lhs; rw [h1]
    simp
  refine ⟨?_, fun k x hk => ?_, ?_⟩
  · rw [h2, List.getElem?_append_right (Nat.le_refl _)]; simp
  · rw [h2, List.getElem?_append_right (by omega)]
    have hk' := (List.getElem?_eq_some_iff.1 hk).1
    rw [show (parts.take i).flatten.length + 1 + k - (parts.take i).flatten.length = k + 1 by omega]
    rw [List.getElem?_append_left (by simp; omega)]
    simpa using hk
  · rw [List.take_add_one, h]
    simp; omega
theorem j6 : ∀ {n : Nat} {F : aB} {ll bl bx : Lab} {k : Int × Int} {ys : List AV}, F bl = some (.rows 1 [[.ptr ll 1 0 0]]) → F bx = some (.rows 2 [[.int .i64 k.1, .int .i64 k.2]]) → e9 F ll n k = some ys → tB Try.prog 66 [.ptr bl 1 0 0, .ptr bx 2 0 0] ys F
  | 0, _, _, _, _, _, _, _, _, h => by cases h
  | n + 1, F, ll, bl, bx, k, ys, hbl, hbx, h => by
    simp only [e9, Option.bind_eq_some_iff, Option.map_eq_some_iff] at h
    obtain ⟨s, hlist, ks, hkids, parts, hparts, rfl⟩ := h
    intro y J X hY G H q h0 hs hF hd hfr
    have hlist' := hlist
    simp only [pF, k8, Option.bind_eq_some_iff] at hlist'
    obtain ⟨nd, ⟨m, hm, r, hr, hnn⟩, a6, ha6, hs6⟩ := hlist'
    split at hnn
    · rename_i hnn2
      cases hnn
      refine soundE_vc Try.mixed ok66 rfl ?_
      simp only [params, Nat.zero_add, Nat.reduceAdd]
      rw [vt66]
      unfold V66
      refine ⟨rfl, ?_⟩
      dsimp only
      have hk0 : H (0 :: q) = none := hfr _ ⟨[0], rfl⟩
      generalize hH1 : upd [(0 :: q, some (AO.rows (AV.yield y).cells.length [(AV.yield y).cells]))] H = H1
      have hM1 : Moved q G H G H1 := by subst hH1; exact .alloc hs hk0 ⟨[0], rfl⟩
      have hF1 : Sub F H1 := fun l o hl => hM1.kept l o (hF l o hl) (hd l (by rw [hl]; simp))
      refine i8 (F := F) (v := .ptr ll 1 0 0) (by simp [ld, aZ, hbl, AO.cells, aG]) hF1 fun f1 => ?_
      refine ⟨rfl, ⟨_, rfl, ?_⟩⟩
      refine i8 hm hF1 fun f4 => ?_
      refine i8 (F := F) (v := idA k) (by simp [ld, aZ, hbx, AO.cells, aG, idA]) hF1 fun f5 => ?_
      refine q0 hr hF1 fun f6 => ?_
      unfold t9
      refine ⟨hnn2, ⟨_, ha6, ?_⟩⟩
      refine i8 hs6 hF1 fun f9 => ?_
      have hkids' := hkids
      simp only [pG, Option.bind_eq_some_iff] at hkids'
      obtain ⟨len, hlen, hget⟩ := hkids'
      split at hget
      · rename_i hbig
        refine ⟨len, hlen, gS (bP (bP (bP (bP (bP n3))))), ?_⟩
        obtain ⟨hkl, hkg⟩ := l0 hget
        obtain ⟨hpl, hpg⟩ := l0 hparts
        rw [List.length_range] at hkl
        have hbox : ∀ {Hh : aB} {G1 : aB}, Moved q G H G1 Hh → Sub F Hh := fun hM l o hl => hM.kept l o (hF l o hl) (hd l (by rw [hl]; simp))
        have hend : ∀ {G1 Hh : aB} {e : AEx} {r : RL} {c : Nat}, e = .normal ∨ e = .ret → (J parts.flatten.length G1 ∨ X G1) → Moved q G H G1 Hh → VRE q H c66.res (fun _ u => ∃ G', (J parts.flatten.length G' ∨ X G') ∧ Moved q G H G' (upd u H)) e r Hh c := by
          intro G1 Hh e r c he hJX hM
          obtain ⟨u, rfl, hu⟩ := hM.chg
          exact ⟨he, .tuple [], .tuple [], u, rfl, ⟨G1, hJX, hM⟩, fun l hl => (hu l hl).imp hs.ne id, .refl _, fun l o h => h⟩
        refine vloop (fun n' r Hh c => ∃ i G1, i ≤ len ∧ n' = len - i ∧ r = [(1, .ptr bl 1 0 0), (3, .ptr (0 :: q) 1 0 0), (15, s), (16, .int .i64 len), (17, .int .i64 i)] ∧ J (parts.take i).flatten.length G1 ∧ Moved q G H G1 Hh ∧ Hh (0 :: q) = some (.rows 1 [[.yield y]]) ∧ G1 (0 :: q) = none ∧ Fresh q c Hh ∧ 1 ≤ c) len ?_ ?_
        · refine ⟨0, G, by omega, by omega, rfl, by simpa using h0, hM1, by subst hH1; simp [upd, AV.cells], hs.nil hk0, fun k s hk => ?_, by omega⟩
          subst hH1
          have hne : s ++ k :: q ≠ 0 :: q := fun e => by
            have := bK (i := k) (j := 0) (p := q) ⟨s, rfl⟩ ⟨[], e⟩
            omega
          simp only [upd, if_neg hne]
          exact hfr _ ⟨s ++ [k], by simp⟩
        · rintro n' r' Hh c ⟨i, G1, hi, rfl, rfl, hJ, hM, hb3, hg3, hfc, hc1⟩
          generalize hQ : jS [1, 3, 15, 16, 17] _ (len - i) _ = QL
          rw [vt66_1]
          unfold uK
          refine ⟨.bool (decide ((i : Int) < len)), rfl, ?_⟩
          by_cases hil : i < len
          · have hdec : decide ((i : Int) < len) = true := by simp; omega
            rw [hdec]
            show sR _ _ _ _ _ _ _ _ _ _ _ ()
            unfold sR t8
            obtain ⟨j, hj, hkid⟩ := hkg i i (by simp [hil])
            simp only [r7, Option.bind_eq_some_iff] at hkid
            obtain ⟨aj, haj, vj, hvj, hid⟩ := hkid
            obtain rfl := asId_some hid
            obtain ⟨part, hpart, hpe⟩ := hpg i j hj
            simp only [Option.bind_eq_some_iff, Option.map_eq_some_iff] at hpe
            obtain ⟨e, he, rj, hrj, rfl⟩ := hpe
            obtain ⟨t1, t2, t3⟩ := flat_head hpart
            refine ⟨aj, haj, ?_⟩
            refine i8 hvj (hbox hM) fun _ => ?_
            dsimp only
            have hl5 : Hh ((c + 1 + 2) :: q) = none := hfc.at (by omega)
            have hH5 : H ((c + 1 + 2) :: q) = none := hfr _ ⟨[c + 1 + 2], rfl⟩
            refine s4 (row := [.int .i64 0, .int .i64 0]) (by simp [upd]) rfl rfl rfl ?_
            generalize hH2 : upd [((c + 1 + 2) :: q, some (AO.rows 2 [(idA j).cells]))] (upd [((c + 1 + 2) :: q, some (.rows 2 [[.int .i64 0, .int .i64 0]]))] Hh) = H2
            have hG5 : G1 ((c + 1 + 2) :: q) = none := hM.sub.nil hl5
            have hM2 : Moved q G H G1 H2 := by subst hH2; exact (hM.own hH5 hG5 ⟨[_], rfl⟩).own hH5 hG5 ⟨[_], rfl⟩
            have h52 : H2 ((c + 1 + 2) :: q) = some (.rows 2 [[.int .i64 j.1, .int .i64 j.2]]) := by subst hH2; simp [upd, idA, AV.cells]
            have hb32 : H2 (0 :: q) = some (.rows 1 [[.yield y]]) := by
              subst hH2
              simp [upd, hb3]
            have hf2 : Fresh q (c + 1 + 3) H2 := by
              subst hH2
              exact ((hfc.mono (by omega)).more (by omega)).more (by omega)
            have hF2 : Sub F H2 := hbox hM2
            unfold t4
            refine i8 (F := H2) (v := .yield y) (by simp [ld, aZ, hb32, AO.cells, aG]) .refl fun f17 => ?_
            refine i8 (F := F) (v := .ptr ll 1 0 0) (by simp [ld, aZ, hbl, AO.cells, aG]) hF2 fun f18 => ?_
            refine ⟨rfl, ⟨_, rfl, ?_⟩⟩
            refine i8 hm hF2 fun f21 => ?_
            refine i8 (F := H2) (v := idA j) (by simp [ld, aZ, h52, AO.cells, aG, idA]) .refl fun f22 => ?_
            have he' := he
            simp only [k9, k8, Option.bind_eq_some_iff] at he'
            obtain ⟨ndj, ⟨mj, hmj, rj', hrj', hnnj⟩, aj0, haj0, vj, hvj6, hej⟩ := he'
            rw [hm] at hmj
            cases hmj
            split at hnnj
            · rename_i hnnj2
              cases hnnj
              obtain ⟨rfl, hEok⟩ := kP hej
              refine q0 hrj' hF2 fun f23 => ?_
              unfold t5
              refine ⟨hnnj2, ⟨_, haj0, ?_⟩⟩
              refine i8 hvj6 hF2 fun f26 => ?_
              refine ⟨bP (bP (bP (bP (bP (bP n3))))), ?_⟩
              refine nD hY t1 hJ hM2.sub (fun l hl => ?_) (fun G2 H3 labs hJ2 hMy => ?_) (fun G2 H3 labs hX2 hMy => ?_)
              · obtain ⟨s', hs'⟩ := hl
                rw [hs']; exact hf2 _ s' (by omega)
              · show sS _ _ _ (.bool (!true)) _ _ _ _ _ _ _ ()
                unfold sS t7
                have hM3 : Moved q G H G2 H3 := hM2.trans hMy (fun _ h => h) (fun l hl => aP hl)
                have hF3 : Sub F H3 := hbox hM3
                have hg32 : G2 (0 :: q) = none := hMy.out (by rw [hb32]; simp) hg3
                have hb33 : H3 (0 :: q) = some (.rows 1 [[.yield y]]) := hMy.kept _ _ hb32 hg3
                have h53 : H3 ((c + 1 + 2) :: q) = some (.rows 2 [[.int .i64 j.1, .int .i64 j.2]]) := hMy.kept _ _ h52 hG5
                have hf3 : Fresh q (c + 1 + 14 + 1) H3 := hMy.fresh (hf2.mono (by omega))
                refine i8 (F := F) (v := .ptr ll 1 0 0) (by simp [ld, aZ, hbl, AO.cells, aG]) hF3 fun _ => ?_
                refine i8 (F := H3) (v := idA j) (by simp [ld, aZ, h53, AO.cells, aG, idA]) .refl fun _ => ?_
                refine fT (j3 rfl rfl) (hf3.mono (by omega)) fun H4 hH4 hf4 => ?_
                have hM4 : Moved q G H G2 H4 := by
                  have e4 : H4 = upd [(1 :: (c + 1 + 16 + 2) :: q, some (.rows 2 [[.int .i64 j.1, .int .i64 j.2]]))] (upd [(0 :: (c + 1 + 16 + 2) :: q, some (.rows 1 [[.ptr ll 1 0 0]]))] H3) := funext hH4
                  rw [e4]
                  have a1 : ∀ k : Nat, Under q (k :: (c + 1 + 16 + 2) :: q) := fun k => ⟨[k, c + 1 + 16 + 2], rfl⟩
                  have a2 : ∀ k : Nat, G2 (k :: (c + 1 + 16 + 2) :: q) = none := fun k => hM3.sub.nil (hf3 (c + 1 + 16 + 2) [k] (by omega))
                  exact (hM3.own (hfr _ (a1 0)) (a2 0) (a1 0)).own (hfr _ (a1 1)) (a2 1) (a1 1)
                have hb34 : H4 (0 :: q) = some (.rows 1 [[.yield y]]) := by
                  rw [hH4]; simp [upd, hb33]
                have hb4 : H4 (0 :: (c + 1 + 16 + 2) :: q) = some (.rows 1 [[.ptr ll 1 0 0]]) := by rw [hH4]; simp [upd]
                have hx4 : H4 (1 :: (c + 1 + 16 + 2) :: q) = some (.rows 2 [[.int .i64 j.1, .int .i64 j.2]]) := by rw [hH4]; simp [upd]
                have hF4 : Sub F H4 := hbox hM4
                have hG4 : ∀ l, l ≠ 0 :: q → upd [(0 :: q, some (AO.rows 1 [[.yield y]]))] G2 l = G2 l := fun l hl => by simp [upd, hl]
                have hng : ∀ k : Nat, G2 (k :: (c + 1 + 16 + 2) :: q) = none := fun k => hM3.sub.nil (hf3 (c + 1 + 16 + 2) [k] (by omega))
                have hFG : ∀ l o, F l = some o → upd [(0 :: q, some (AO.rows 1 [[.yield y]]))] G2 l = none := fun l o hl => by
                  have : l ≠ 0 :: q := fun e => by rw [e, hF.nil hk0] at hl; cases hl
                  rw [hG4 l this]
                  exact hM3.out (by rw [hF l o hl]; simp) (hd l (by rw [hl]; simp))
                refine qP (F := rest (upd [(0 :: q, some (.rows 1 [[.yield y]]))] G2) H4) (G := upd [(0 :: q, some (.rows 1 [[.yield y]]))] G2) (ys := rj) rfl
                  (j6 (ll := ll) (k := j) (by rw [g8]; exact hb4; rw [hG4 _ (by simp)]; exact hng 0) (by rw [g8]; exact hx4; rw [hG4 _ (by simp)]; exact hng 1) (i7 (fun l o hl => by rw [g8 (hFG l o hl)]; exact hF4 l o hl) hrj)) rfl
                  (fun i' G' => ∃ G0, J ((parts.take i).flatten.length + 1 + i') G0 ∧ Sub G0 G' ∧ G0 (0 :: q) = none ∧ G' (0 :: q) = some (.rows 1 [[.yield y]]))
                  (fun e G' => e = .ret ∧ ∃ G0, X G0 ∧ Sub G0 G' ∧ G0 (0 :: q) = none ∧ G' (0 :: q) = some (.rows 1 [[.yield y]]))
                  ⟨G2, hJ2, fun l o hl => ?_, hg32, by simp [upd]⟩ (fun l o hl => ?_) pS (fun l hl => pT hl) (hf4.mono (by omega)) ?_ ?_ ?_
                · rw [hG4 l (fun e => by rw [e, hg32] at hl; cases hl)]; exact hl
                · by_cases e : l = 0 :: q
                  · subst e; simp [upd] at hl; rw [← hl]; exact hb34
                  · rw [hG4 l e] at hl; exact hM4.sub l o hl
                · rintro i' x G' q' hx ⟨G0, hJ0, hs0, hg0, hb0⟩ hf'
                  obtain ⟨cs, rfl, hl6, h16⟩ := (kY hrj x (List.mem_of_getElem? hx)).cells
                  show vc Try.prog q' tT _ [(1, .ptr bl 1 0 0), (3, .ptr (0 :: q) 1 0 0), (15, s), (16, .int .i64 len), (17, .int .i64 i), (35, .fn (.func 66) [] [.ptr (0 :: (c + 1 + 16 + 2) :: q) 1 0 0, .ptr (1 :: (c + 1 + 16 + 2) :: q) 2 0 0]), (36, .agg cs)] G' 0
                  rw [vt66_2]
                  unfold uJ
                  dsimp only
                  have hn' : G' (0 :: q') = none := hf'.at (by omega)
                  have hne : (0 :: q : Lab) ≠ 0 :: q' := fun e => by rw [e, hn'] at hb0; cases hb0
                  refine s4 (row := [.int .i64 0, .int .i64 0, .int .i64 0, .int .i64 0, .int .i64 0, .nils]) (by simp [upd]) hl6 rfl h16 ?_
                  have hM' : Moved q' G0 G' G0 (upd [(0 :: q', some (AO.rows 6 [(AV.agg cs).cells]))] (upd [(0 :: q', some (.rows 6 [[.int .i64 0, .int .i64 0, .int .i64 0, .int .i64 0, .int .i64 0, .nils]]))] G')) :=
                    (Moved.alloc hs0 hn' ⟨[0], rfl⟩).own hn' (hs0.nil hn') ⟨[0], rfl⟩
                  have hff : Fresh q' 1 (upd [(0 :: q', some (AO.rows 6 [(AV.agg cs).cells]))] (upd [(0 :: q', some (.rows 6 [[.int .i64 0, .int .i64 0, .int .i64 0, .int .i64 0, .int .i64 0, .nils]]))] G')) :=
                    ((hf'.mono (by omega)).more (by omega)).more (by omega)
                  have hbb : upd [(0 :: q', some (AO.rows 6 [(AV.agg cs).cells]))] (upd [(0 :: q', some (.rows 6 [[.int .i64 0, .int .i64 0, .int .i64 0, .int .i64 0, .int .i64 0, .nils]]))] G') (0 :: q) = some (.rows 1 [[.yield y]]) := hM'.kept _ _ hb0 hg0
                  have hee : upd [(0 :: q', some (AO.rows 6 [(AV.agg cs).cells]))] (upd [(0 :: q', some (.rows 6 [[.int .i64 0, .int .i64 0, .int .i64 0, .int .i64 0, .int .i64 0, .nils]]))] G') (0 :: q') = some (.rows 6 [cs]) := by simp [upd, AV.cells]
                  generalize upd [(0 :: q', some (AO.rows 6 [(AV.agg cs).cells]))] (upd [(0 :: q', some (.rows 6 [[.int .i64 0, .int .i64 0, .int .i64 0, .int .i64 0, .int .i64 0, .nils]]))] G') = G'' at hM' hff hbb hee ⊢
                  unfold t0
                  refine i8 (F := G'') (v := .yield y) (by simp [ld, aZ, hbb, AO.cells, aG]) .refl fun _ => ?_
                  refine i8 (F := G'') (v := .agg cs) (by simp [ld, aZ, hee, AO.cells, aG, hl6, List.take_of_length_le]) .refl fun _ => ?_
                  refine nD hY (t2 i' _ hx) hJ0 hM'.sub (fun l hl => ?_) (fun G3 H5 labs hJ3 hMy3 => ?_) (fun G3 H5 labs hX3 hMy3 => ?_)
                  · obtain ⟨s', hs'⟩ := hl
                    rw [hs']; exact hff _ s' (by omega)
                  · exact .inl ⟨rfl, G3, hJ3, hMy3.sub, hMy3.out (by rw [hbb]; simp) hg0, hMy3.kept _ _ hbb hg0⟩
                  · exact .inr ⟨by simp, rfl, G3, hX3, hMy3.sub, hMy3.out (by rw [hbb]; simp) hg0, hMy3.kept _ _ hbb hg0⟩
                · rintro G' H' ⟨G0, hJ0, hs0, hg0, hb0⟩ hm hfH
                  rw [q66_1_n, vt66_3]
                  unfold uI
                  rw [sB (by omega) (by omega)]
                  subst hQ
                  refine ⟨len - (i + 1), by omega, i + 1, G0, by omega, rfl, by simp [restrict, aI], by rw [t3]; exact hJ0, hM4.trans (hm.inner hb34 hs0 hg0 hb0) (fun _ h => h) (fun l hl => aP hl), hm.sub _ _ hb0, hg0, hfH.mono (by omega), by omega⟩
                · rintro e G' H' ⟨rfl, G0, hX0, hs0, hg0, hb0⟩ he hm hfH
                  rw [q66_1_ret]
                  subst hQ
                  show VRE q H c66.res _ .ret _ H' 0
                  exact hend (.inr rfl) (.inr hX0) (hM4.trans (hm.inner hb34 hs0 hg0 hb0) (fun _ h => h) (fun l hl => aP hl))
              · unfold t6
                show QL .ret _ _ _
                subst hQ
                show VRE q H c66.res _ .ret _ H3 (c + 1 + 16)
                exact hend (.inr rfl) (.inr hX2) (hM2.trans hMy (fun _ h => h) (fun l hl => aP hl))
            · cases hnnj
          · have hdec : decide ((i : Int) < len) = false := by simp; omega
            rw [hdec]
            show QL (.exit 0) _ _ _
            subst hQ
            have : i = len := by omega
            subst this
            rw [List.take_of_length_le (by omega)] at hJ
            show VRE q H c66.res _ .normal _ Hh (c + 1)
            exact hend (.inl rfl) (.inl hJ) hM
      · cases hget
    · cases hnn
end Go.Proofs.Ytigjoggpaamodaa
/-! weave: Place. -/
namespace Go.Proofs.Ytigjoggpaamodaa
set_option linter.unusedVariables false
set_option linter.unusedSimpArgs false
set_option maxRecDepth 100000
def sU : AV → Int × Int
  | .agg (.int .i64 a :: .int .i64 b :: _) => (a, b)
  | _ => (0, 0)
/-- the place of an element among those that were yielded -/
def oV (ys : List AV) (k : Int × Int) : Option Nat := ys.findIdx? fun e => decide (sU e = k)
def plA (ys : List AV) (k : Int × Int) : AV := match oV ys k with
  | some i => .tuple [.int .i64 i, .bool true]
  | none => .tuple [.int .i64 0, .bool false]
theorem place_nil {k : Int × Int} : kD Try.prog 19 [.nilp, idA k] (.tuple [.int .i64 0, .bool false]) := by
  refine rE Try.mixed uQ rfl (fun q => ?_)
  simp only [params, Nat.zero_add, Nat.reduceAdd]
  repeat' (first | (simp (disch := omega) only [vsb, j9, reduceIte, AV.cells, putL, bF, Nat.reduceAdd, Nat.reduceDiv, Nat.reduceMod, AV.one, Nat.reduceLeDiff, Nat.reduceEqDiff, nY, dB, fM, rY, iP, jR, V19, kT, m8, mJ, mI, mH, mG, mE, mF, mD, mC, mB, mA, i3, i2, i1, i0, iZ, iY, idA, fJ, fI]) | (refine tR (fun _ => ?_) (fun _ => ?_)) | (refine tP (fun _ => ?_) (fun _ => ?_)) | (refine q6 (fun _ => ?_) (fun _ => ?_)) | (refine pP (fun _ => ?_) (fun _ => ?_)) | (refine And.intro (gS rfl) ?_) | (refine rR (fun _ => ?_) ?_) | (exfalso; omega; done))
  exact ⟨.inr rfl, _, by simp [cZ, dN, eV, aZ, upd, aI, AO.cells, aG], .refl _⟩
theorem place_at {ys : List AV} {k : Int × Int} {i : Nat} {e : AV} (he : ys[i]? = some e) (hk : sU e = k) (hno : ∀ j e, j < i → ys[j]? = some e → sU e ≠ k) : oV ys k = some i := by
  obtain ⟨hi, rfl⟩ := List.getElem?_eq_some_iff.1 he
  refine List.findIdx?_eq_some_iff_getElem.2 ⟨hi, by simp [hk], fun j hj => ?_⟩
  have := hno j ys[j] hj (by simp)
  simp [this]
theorem place_no {ys : List AV} {k : Int × Int} (hno : ∀ j e, j < ys.length → ys[j]? = some e → sU e ≠ k) : oV ys k = none := by
  refine List.findIdx?_eq_none_iff.2 fun x hx => ?_
  obtain ⟨j, hj⟩ := List.getElem?_of_mem hx
  have := hno j x (List.getElem?_eq_some_iff.1 hj).1 hj
  simp [this]
theorem place_sound {H : aB} {q ll : Lab} {n : Nat} {ys : List AV} {k : Int × Int} (hw : e9 H ll n (0, 0) = some ys) (hlen : ys.length ≤ 1000000000) (hf : Fresh q 0 H) : aK Try.prog 19 [.ptr ll 1 0 0, idA k] H q ⟨plA ys k, [], none⟩ := by
  refine gL Try.mixed uQ rfl (fun l hl => absurd hl (aF l)) ?_
  show vc Try.prog q _ (VR H _ _ _) _ H 0
  simp only [params, Nat.zero_add, Nat.reduceAdd]
  simp (disch := omega) only [vsb, j9, reduceIte, AV.cells, putL, bF, Nat.reduceAdd, Nat.reduceDiv, Nat.reduceMod, AV.one, Nat.reduceLeDiff, Nat.reduceEqDiff, nY, dB, fM, rY, iP, jR, V19, kT, m8, mJ, mI, mH, mG, mE, mF, mD, mC, mB, mA, i3, i2, i1, i0, iZ, iY, idA, fJ, fI]
  have hn : ∀ k : Nat, H (k :: q) = none := fun k => hf.at (by omega)
  have hs5 : Sub H (upd [(5 :: q, some (AO.rows 1 [[AV.int IntKind.i64 0]]))] (upd [(5 :: q, some (AO.rows 1 [[AV.int IntKind.i64 0]]))] (upd [(2 :: q, some (AO.rows 1 [[AV.bool false]]))] (upd [(1 :: q, some (AO.rows 1 [[AV.int IntKind.i64 0]]))] (upd [(0 :: q, some (AO.rows 2 [[AV.int IntKind.i64 k.fst, AV.int IntKind.i64 k.snd]]))] H))))) := fun l o hl => by
    have hne : ∀ k : Nat, l ≠ k :: q := fun k e => by rw [e, hn] at hl; cases hl
    simp [upd, hne, hl]
  refine fT (j3 (k := (0, 0)) rfl rfl) (((((hf.mono (by omega)).more (by omega)).more (by omega)).more (by omega)).more (by omega) |>.more (by omega)) fun H1 hH1 hf1 => ?_
  have hs1 : Sub H H1 := fun l o hl => by
    have hne1 : ∀ k : Nat, l ≠ k :: q := fun k e => by rw [e, hn] at hl; cases hl
    have hne2 : ∀ j k : Nat, l ≠ j :: k :: q := fun j k e => by
      have := hf k [j] (by omega)
      rw [e] at hl
      simp only [List.cons_append, List.nil_append] at this
      rw [this] at hl; cases hl
    rw [hH1]
    simp [upd, hne1, hne2, hl]
  have a0 : H1 (0 :: q) = some (.rows 2 [[.int .i64 k.1, .int .i64 k.2]]) := by rw [hH1]; simp [upd]
  have a1 : H1 (1 :: q) = some (.rows 1 [[.int .i64 0]]) := by rw [hH1]; simp [upd]
  have a2 : H1 (2 :: q) = some (.rows 1 [[.bool false]]) := by rw [hH1]; simp [upd]
  have a5 : H1 (5 :: q) = some (.rows 1 [[.int .i64 0]]) := by rw [hH1]; simp [upd]
  have b0 : H1 (0 :: 9 :: q) = some (.rows 1 [[.ptr ll 1 0 0]]) := by rw [hH1]; simp [upd]
  have b1 : H1 (1 :: 9 :: q) = some (.rows 2 [[.int .i64 0, .int .i64 0]]) := by rw [hH1]; simp [upd]
  clear hH1 hs5
  let G : aB := upd [(0 :: q, some (.rows 2 [[.int .i64 k.1, .int .i64 k.2]])), (1 :: q, some (.rows 1 [[.int .i64 0]])), (2 :: q, some (.rows 1 [[.bool false]])), (5 :: q, some (.rows 1 [[.int .i64 0]]))] fun _ => none
  have hG : Sub G H1 := fun l o hl => by
    simp only [G, upd] at hl
    split at hl
    · rename_i e; subst e; rw [a0]; exact hl
    split at hl
    · rename_i e; subst e; rw [a1]; exact hl
    split at hl
    · rename_i e; subst e; rw [a2]; exact hl
    split at hl
    · rename_i e; subst e; rw [a5]; exact hl
    · cases hl
  have hGn : ∀ l, (∀ k : Nat, l ≠ k :: q) → G l = none := fun l h => by simp [G, upd, h]
  refine qP (F := rest G H1) (G := G) (ys := ys) rfl
    (j6 (ll := ll) (k := (0, 0)) (by rw [g8 (hGn _ (by simp))]; exact b0) (by rw [g8 (hGn _ (by simp))]; exact b1) (i7 (fun l o hl => by rw [g8 (hGn _ (fun k e => by rw [e, hn] at hl; cases hl))]; exact hs1 l o hl) hw)) rfl
    (fun i G' => G' (0 :: q) = some (.rows 2 [[.int .i64 k.1, .int .i64 k.2]]) ∧ G' (1 :: q) = some (.rows 1 [[.int .i64 0]]) ∧ G' (2 :: q) = some (.rows 1 [[.bool false]]) ∧ G' (5 :: q) = some (.rows 1 [[.int .i64 i]]) ∧ ∀ j e, j < i → ys[j]? = some e → sU e ≠ k)
    (fun e G' => e = .ret ∧ ∃ i : Nat, oV ys k = some i ∧ G' (1 :: q) = some (.rows 1 [[.int .i64 i]]) ∧ G' (2 :: q) = some (.rows 1 [[.bool true]]))
    ⟨by simp [G, upd], by simp [G, upd], by simp [G, upd], by simp [G, upd], fun j e h => by omega⟩ hG pS (fun l hl => pT hl) hf1 ?_ ?_ ?_
  · rintro i x G' q' hx ⟨g0, g1, g2, g5, hno⟩ hf'
    obtain ⟨a, b, c, d, e, u, rfl, hu⟩ := kY hw x (List.mem_of_getElem? hx)
    show vc Try.prog q' tU _ [(3, .ptr (0 :: q) 2 0 0), (4, .ptr (1 :: q) 1 0 0), (5, .ptr (2 :: q) 1 0 0), (6, .ptr (5 :: q) 1 0 0), (12, .fn (.func 66) [] [.ptr (0 :: 9 :: q) 1 0 0, .ptr (1 :: 9 :: q) 2 0 0]), (13, .agg [.int .i64 a, .int .i64 b, .int .i64 c, .int .i64 d, .int .i64 e, u])] G' 0
    have hne : ∀ k : Nat, (k = 0 ∨ k = 1 ∨ k = 2 ∨ k = 5) → ¬ (k :: q = 0 :: q') := fun k hk he => by
      have := hf'.at (k := 0) (by omega)
      rw [← he] at this
      rcases hk with rfl | rfl | rfl | rfl <;> (first | (rw [this] at g0; cases g0) | (rw [this] at g1; cases g1) | (rw [this] at g2; cases g2) | (rw [this] at g5; cases g5))
    have n0 := hne 0 (by simp); have n1 := hne 1 (by simp); have n2 := hne 2 (by simp); have n5 := hne 5 (by simp)
    have h16 : [AV.int .i64 a, AV.int .i64 b, AV.int .i64 c, AV.int .i64 d, AV.int .i64 e, u].all AV.one = true := by simp only [List.all_cons, hu, List.all_nil]; rfl
    rw [iP]
    unfold kT
    dsimp only
    refine s4 (row := [.int .i64 0, .int .i64 0, .int .i64 0, .int .i64 0, .int .i64 0, .nils]) (by simp [upd]) rfl rfl h16 ?_
    have hff : Fresh q' 1 (upd [(0 :: q', some (AO.rows 6 [(AV.agg [.int .i64 a, .int .i64 b, .int .i64 c, .int .i64 d, .int .i64 e, u]).cells]))] (upd [(0 :: q', some (.rows 6 [[.int .i64 0, .int .i64 0, .int .i64 0, .int .i64 0, .int .i64 0, .nils]]))] G')) :=
      ((hf'.mono (by omega)).more (by omega)).more (by omega)
    generalize hG2 : upd [(0 :: q', some (AO.rows 6 [(AV.agg [.int .i64 a, .int .i64 b, .int .i64 c, .int .i64 d, .int .i64 e, u]).cells]))] (upd [(0 :: q', some (.rows 6 [[.int .i64 0, .int .i64 0, .int .i64 0, .int .i64 0, .int .i64 0, .nils]]))] G') = G2 at hff ⊢
    have c0 : G2 (0 :: q) = some (.rows 2 [[.int .i64 k.1, .int .i64 k.2]]) := by rw [← hG2, d6 n0, bL, d6 n0, bL]; exact g0
    have c1 : G2 (1 :: q) = some (.rows 1 [[.int .i64 0]]) := by rw [← hG2, d6 n1, bL, d6 n1, bL]; exact g1
    have c2 : G2 (2 :: q) = some (.rows 1 [[.bool false]]) := by rw [← hG2, d6 n2, bL, d6 n2, bL]; exact g2
    have c5 : G2 (5 :: q) = some (.rows 1 [[.int .i64 i]]) := by rw [← hG2, d6 n5, bL, d6 n5, bL]; exact g5
    have ce : G2 (0 :: q') = some (.rows 6 [[.int .i64 a, .int .i64 b, .int .i64 c, .int .i64 d, .int .i64 e, u]]) := by rw [← hG2, jA]; rfl
    clear hG2
    simp (disch := omega) only [vsb, j9, reduceIte, AV.cells, putL, bF, Nat.reduceAdd, Nat.reduceDiv, Nat.reduceMod, AV.one, Nat.reduceLeDiff, Nat.reduceEqDiff, nY, dB, fM, rY, iP, jR, V19, kT, m8, mJ, mI, mH, mG, mE, mF, mD, mC, mB, mA, i3, i2, i1, i0, iZ, iY, idA, fJ, fI, c0, c5, ce]
    by_cases hk : (a, b) = k
    · subst hk
      simp (disch := omega) only [vsb, j9, reduceIte, AV.cells, putL, bF, Nat.reduceAdd, Nat.reduceDiv, Nat.reduceMod, AV.one, Nat.reduceLeDiff, Nat.reduceEqDiff, nY, dB, fM, rY, iP, jR, V19, kT, m8, mJ, mI, mH, mG, mE, mF, mD, mC, mB, mA, i3, i2, i1, i0, iZ, iY, idA, fJ, fI, c1, c2, c5, decide_true, Bool.and_self]
      refine .inr ⟨by simp, rfl, i, place_at hx rfl hno, ?_, ?_⟩
      · simp [upd]
      · simp [upd]
    · have hd : (decide (a = k.1) && decide (b = k.2)) = false := by
        simp only [Bool.and_eq_false_imp, decide_eq_true_eq, decide_eq_false_iff_not]
        intro h1 h2
        exact hk (by rw [h1, h2])
      rw [hd]
      have hil := (List.getElem?_eq_some_iff.1 hx).1
      simp (disch := omega) only [vsb, j9, reduceIte, AV.cells, putL, bF, Nat.reduceAdd, Nat.reduceDiv, Nat.reduceMod, AV.one, Nat.reduceLeDiff, Nat.reduceEqDiff, nY, dB, fM, rY, iP, jR, V19, kT, m8, mJ, mI, mH, mG, mE, mF, mD, mC, mB, mA, i3, i2, i1, i0, iZ, iY, idA, fJ, fI, c5]
      refine .inl ⟨rfl, by simp [upd, c0], by simp [upd, c1], by simp [upd, c2], by simp [upd], fun j e hj he => ?_⟩
      by_cases hji : j = i
      · subst hji
        rw [hx] at he; cases he
        exact hk
      · exact hno j e (by omega) he
  · rintro G' H' ⟨g0, g1, g2, g5, hno⟩ hM hfr'
    have d1 := hM.sub _ _ g1
    have d2 := hM.sub _ _ g2
    rw [fM]
    simp (disch := omega) only [vsb, j9, reduceIte, AV.cells, putL, bF, Nat.reduceAdd, Nat.reduceDiv, Nat.reduceMod, AV.one, Nat.reduceLeDiff, Nat.reduceEqDiff, nY, dB, fM, rY, iP, jR, V19, kT, m8, mJ, mI, mH, mG, mE, mF, mD, mC, mB, mA, i3, i2, i1, i0, iZ, iY, idA, fJ, fI, d1, d2]
    refine ⟨.inr rfl, .tuple [.int .i64 0, .bool false], by simp [cZ, dN, eV, aZ, upd, aI, AO.cells, aG], by rw [plA, place_no hno]; exact .refl _, fun l o hl => ?_⟩
    have hne1 : ∀ k : Nat, l ≠ k :: q := fun k e => by rw [e] at hl; rw [bL, hn] at hl; cases hl
    simp only [upd, if_neg (hne1 _)]
    exact hM.kept l o (hs1 l o hl) (hGn l hne1)
  · rintro e G' H' ⟨rfl, i, hi, g1, g2⟩ _ hM hfr'
    have d1 := hM.sub _ _ g1
    have d2 := hM.sub _ _ g2
    rw [dB]
    refine ⟨.inr rfl, .tuple [.int .i64 i, .bool true], by simp [cZ, dN, eV, aZ, d1, d2, aI, AO.cells, aG], by rw [plA, hi]; exact .refl _, fun l o hl => ?_⟩
    have hne1 : ∀ k : Nat, l ≠ k :: q := fun k e => by rw [e] at hl; rw [bL, hn] at hl; cases hl
    exact hM.kept l o (hs1 l o hl) (hGn l hne1)
end Go.Proofs.Ytigjoggpaamodaa
