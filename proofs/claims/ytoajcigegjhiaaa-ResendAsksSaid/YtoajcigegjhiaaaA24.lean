/- The abstract machine: code whose callees may be taken as they were proved, and whose state may be taken for a weaker one. -/
import Derived.Test.YtoajcigegjhiaaaA14
namespace Go.Proofs.Ytoajcigegjhiaaa
set_option linter.unusedVariables false
set_option linter.unusedSimpArgs false

/-- a state that may be taken for another one -/
def Weak (H0 : Heap) (p : Lab) (s s' : ASt) : Prop := ∀ {n : Nat} {ρ0 : Locs} {R0 : Imm} {w0 : World} {ρ : Locs} {R : Imm} {a : Act} {w : World}, Rep H0 ρ0 R0 w0 → (∀ l, Under p l → ρ0 l = none) → Inv n H0 ρ0 R0 w0 p s ρ R a w → ∃ ρ' R', Inv n H0 ρ0 R0 w0 p s' ρ' R' a w
theorem Weak.refl (H0 : Heap) (p : Lab) (s : ASt) : Weak H0 p s s := fun _ _ h => ⟨_, _, h⟩
theorem Weak.trans {H0 : Heap} {p : Lab} {s s' s'' : ASt} (h : Weak H0 p s s') (k : Weak H0 p s' s'') : Weak H0 p s s'' := fun a b c => by
  obtain ⟨_, _, h1⟩ := h a b c
  exact k a b h1
section
variable (P : Program) (H0 : Heap) (p : Lab)
def gwp : ACode → APost → ASt → Prop
  | .skip, Q, s => Q .normal s
  | .region ops draw keep, Q, s => ∃ call, CallOk P call ∧ ∃ s1, runRegion call H0 p ops draw keep s = some s1 ∧ ∃ s', Weak H0 p s1 s' ∧ Q .normal s'
  | .seq a b, Q, s => gwp a (seqQ (gwp b Q) Q) s
  | .cond c t e, Q, s => match evArg s.regs c with
    | some (.bool b) => if b then gwp t Q s else gwp e Q s
    | _ => False
  | .block id b, Q, s => gwp b (blockQ id Q) s
  | .loop keep b, Q, s => ∃ m, rounds (gwp b) keep Q m s
  | .exit id, Q, s => Q (.exit id) s
  | .ret, Q, s => Q .ret s
  | .label _, Q, s => Q .normal s
  | .goto l, Q, s => Q (.goto l) s
  | .scope l b r, Q, s => gwp b (jumpQ l (fun s' => ∃ m, srounds (gwp r) l Q m s') Q) s
  | .bad, _, _ => False
end
section
variable {P : Program} {n : Nat} {H0 : Heap} {p : Lab} {ρ0 : Locs} {R0 : Imm} {w0 : World}
theorem gwp_mono {c : ACode} : ∀ {Q Q' : APost} {s : ASt}, (∀ e s, Q e s → Q' e s) → gwp P H0 p c Q s → gwp P H0 p c Q' s := by
  induction c with
  | skip => intro Q Q' s h hs; exact h _ _ hs
  | region ops draw keep => intro Q Q' s h ⟨call, hc, s1, h1, s', hw, h2⟩; exact ⟨call, hc, s1, h1, s', hw, h _ _ h2⟩
  | seq a b iha ihb =>
    intro Q Q' s h hs
    refine iha (fun e s he => ?_) hs
    cases e with
    | normal => exact ihb h he
    | exit id => exact h _ _ he
    | ret => exact h _ _ he
    | goto l => exact h _ _ he
  | cond c t e iht ihe =>
    intro Q Q' s h hs
    simp only [gwp] at hs ⊢
    split at hs
    · split at hs
      · rename_i hb; rw [if_pos hb]; exact iht h hs
      · rename_i hb; rw [if_neg hb]; exact ihe h hs
    · exact hs.elim
  | block id b ih =>
    intro Q Q' s h hs
    refine ih (fun e s he => ?_) hs
    cases e with
    | normal => exact h _ _ he
    | exit k =>
      simp only [blockQ] at he ⊢
      split at he
      · rename_i hk; rw [if_pos hk]; exact h _ _ he
      · rename_i hk; rw [if_neg hk]; exact h _ _ he
    | ret => exact h _ _ he
    | goto l => exact h _ _ he
  | loop keep b ih =>
    intro Q Q' s h ⟨m, hm⟩
    refine ⟨m, ?_⟩
    induction m generalizing s with
    | zero => exact hm
    | succ m ihm =>
      refine ih (fun e s he => ?_) hm
      cases e with
      | normal => exact ihm he
      | exit id => exact h _ _ he
      | ret => exact h _ _ he
      | goto l => exact h _ _ he
  | exit id => intro Q Q' s h hs; exact h _ _ hs
  | ret => intro Q Q' s h hs; exact h _ _ hs
  | label l => intro Q Q' s h hs; exact h _ _ hs
  | goto l => intro Q Q' s h hs; exact h _ _ hs
  | bad => intro Q Q' s h hs; exact hs
  | scope l b r ihb ihr =>
    intro Q Q' s h hs
    have hr : ∀ m s, srounds (gwp P H0 p r) l Q m s → srounds (gwp P H0 p r) l Q' m s := by
      intro m
      induction m with
      | zero => intro s hs; exact hs
      | succ m ihm =>
        intro s hs
        refine ihr (fun e s he => ?_) hs
        cases e with
        | normal => exact h _ _ he
        | exit id => exact h _ _ he
        | ret => exact h _ _ he
        | goto k => exact ⟨he.1, ihm _ he.2⟩
    refine ihb (fun e s he => ?_) hs
    cases e with
    | normal => exact h _ _ he
    | exit id => exact h _ _ he
    | ret => exact h _ _ he
    | goto k => obtain ⟨h1, m, h2⟩ := he; exact ⟨h1, m, hr m _ h2⟩

def GSoundC (P : Program) (n : Nat) (H0 : Heap) (p : Lab) (ρ0 : Locs) (R0 : Imm) (w0 : World) (code : Code) : Prop := ∀ {ac : ACode} {Q : APost} {s : ASt} {ρ : Locs} {R : Imm} {a : Act} {w : World}, compC P n code = some ac.strip →
    gwp P H0 p ac Q s → Inv n H0 ρ0 R0 w0 p s ρ R a w → code.wp P (Post n H0 ρ0 R0 w0 p Q) a w
theorem GSoundC.seq {x y : Code} (ihx : GSoundC P n H0 p ρ0 R0 w0 x) (ihy : GSoundC P n H0 p ρ0 R0 w0 y) : GSoundC P n H0 p ρ0 R0 w0 (.seq x y) := by
  intro ac Q s ρ R a w hc h hI
  simp only [compC, Option.bind_eq_some_iff, Option.some.injEq] at hc
  obtain ⟨x', hx, y', hy, hc⟩ := hc
  cases ac <;> simp [ACode.strip] at hc
  rename_i ax ay
  obtain ⟨rfl, rfl⟩ := hc
  refine wp_seq (wp_mono (ihx hx h hI) ?_)
  rintro e a1 w1 ⟨ae, s1, ρ1, R1, rfl, hq, hI1⟩
  cases ae with
  | normal => exact ihy hy hq hI1
  | exit id => exact ⟨.exit id, s1, ρ1, R1, rfl, hq, hI1⟩
  | ret => exact ⟨.ret, s1, ρ1, R1, rfl, hq, hI1⟩
  | goto l => exact ⟨.goto l, s1, ρ1, R1, rfl, hq, hI1⟩
theorem gwp_sound_all (hm : P.follows .mixedOrders = true) (h0 : Rep H0 ρ0 R0 w0) (hf0 : ∀ l, Under p l → ρ0 l = none) (code : Code) : GSoundC P n H0 p ρ0 R0 w0 code ∧ ∀ l rest, findLabel code l = some rest → GSoundC P n H0 p ρ0 R0 w0 rest := by
  induction code with
  | skip =>
    refine ⟨?_, fun l rest h => by simp [findLabel] at h⟩
    intro ac Q s ρ R a w hc h hI
    cases ac <;> simp [compC, ACode.strip] at hc
    exact wp_skip ⟨.normal, s, ρ, R, rfl, h, hI⟩
  | region id ops draw =>
    refine ⟨?_, fun l rest h => by simp [findLabel] at h⟩
    intro ac Q s ρ R a w hc h hI
    simp only [compC, Option.bind_eq_some_iff] at hc
    obtain ⟨is, his, hc⟩ := hc
    cases draw with
    | false =>
      simp only [Bool.false_eq_true, if_false, Option.some.injEq] at hc
      cases ac <;> simp [ACode.strip] at hc
      rename_i ops' draw' keep
      obtain ⟨rfl, rfl⟩ := hc
      obtain ⟨call, hcall, s', h1, s2, hwk, h2⟩ := h
      simp only [runRegion, Option.bind_eq_some_iff, Option.some.injEq] at h1
      obtain ⟨s1, h1, rfl⟩ := h1
      exact seq_sound hcall his h0 hf0 h1 hI (fun ρ R a w hI' => by
        obtain ⟨ρ2, R2, hI2⟩ := hwk h0 hf0 (hI'.restrict keep)
        exact ⟨.normal, _, ρ2, R2, rfl, h2, hI2⟩)
    | true =>
      simp only [if_true] at hc
      split at hc
      · rename_i hst
        simp only [Bool.and_eq_true] at hst
        simp only [Option.some.injEq] at hc
        cases ac <;> simp [ACode.strip] at hc
        rename_i ops' draw' keep
        obtain ⟨rfl, rfl⟩ := hc
        obtain ⟨call, hcall, s', h1, s2, hwk, h2⟩ := h
        simp only [runRegion, Option.bind_eq_some_iff] at h1
        obtain ⟨⟨s1, trs⟩, h1, h3⟩ := h1
        split at h3
        · cases h3
        · rename_i hcl
          simp only [Option.some.injEq] at h3
          subst h3
          exact draw_sound hm hcall his hst.1 hst.2 h0 hf0 h1 (by simpa using hcl) hI (fun ρ R a w hI' => by
            obtain ⟨ρ2, R2, hI2⟩ := hwk h0 hf0 (hI'.restrict keep)
            exact ⟨.normal, _, ρ2, R2, rfl, h2, hI2⟩)
      · cases hc
  | seq x y ihx ihy =>
    refine ⟨GSoundC.seq ihx.1 ihy.1, fun l rest h => ?_⟩
    simp only [findLabel] at h
    cases hf : findLabel x l with
    | some r => simp only [hf, Option.some.injEq] at h; subst h; exact GSoundC.seq (ihx.2 l r hf) ihy.1
    | none => simp only [hf] at h; exact ihy.2 l rest h
  | cond c t e iht ihe =>
    refine ⟨?_, fun l rest h => by simp [findLabel] at h⟩
    intro ac Q s ρ R a w hc h hI
    simp only [compC, Option.bind_eq_some_iff, Option.some.injEq] at hc
    obtain ⟨z, hz, x', hx, y', hy, hc⟩ := hc
    cases ac <;> simp [ACode.strip] at hc
    rename_i z' ax ay
    obtain ⟨rfl, rfl, rfl⟩ := hc
    simp only [gwp] at h
    split at h
    · rename_i b hb
      have hv := (argOf_rep (ρ := ρ) (R := R) (a := a) hz hb (fun t ht y hy => hI.rs.regs t y hy)).bool_inv
      split at h
      · rename_i hbt; subst hbt
        exact wp_cond_true hv (iht.1 hx h hI)
      · rename_i hbt
        have : b = false := by simpa using hbt
        subst this
        exact wp_cond_false hv (ihe.1 hy h hI)
    · exact h.elim
  | block id b ih =>
    refine ⟨?_, fun l rest h => by simp [findLabel] at h⟩
    intro ac Q s ρ R a w hc h hI
    simp only [compC, Option.bind_eq_some_iff, Option.some.injEq] at hc
    obtain ⟨x', hx, hc⟩ := hc
    cases ac <;> simp [ACode.strip] at hc
    rename_i id' ax
    obtain ⟨rfl, rfl⟩ := hc
    refine wp_block (wp_mono (ih.1 hx h hI) ?_)
    rintro e a1 w1 ⟨ae, s1, ρ1, R1, rfl, hq, hI1⟩
    cases ae with
    | normal => exact ⟨.normal, s1, ρ1, R1, rfl, hq, hI1⟩
    | exit k =>
      simp only [blockQ] at hq
      simp only [AEx.ex, Exit.inBlock]
      split at hq
      · rename_i hk; rw [if_pos hk]; exact ⟨.normal, s1, ρ1, R1, rfl, hq, hI1⟩
      · rename_i hk; rw [if_neg hk]; exact ⟨.exit k, s1, ρ1, R1, rfl, hq, hI1⟩
    | ret => exact ⟨.ret, s1, ρ1, R1, rfl, hq, hI1⟩
    | goto l => exact ⟨.goto l, s1, ρ1, R1, rfl, hq, hI1⟩
  | loop b ih =>
    refine ⟨?_, fun l rest h => by simp [findLabel] at h⟩
    intro ac Q s ρ R a w hc h hI
    simp only [compC, Option.bind_eq_some_iff, Option.some.injEq] at hc
    obtain ⟨x', hx, hc⟩ := hc
    cases ac <;> simp [ACode.strip] at hc
    rename_i keep ax
    subst hc
    obtain ⟨m, hr⟩ := h
    refine wp_loop_rounds m ?_
    induction m generalizing s ρ R a w with
    | zero => exact hr.elim
    | succ m ihm =>
      rw [rounds_succ]
      refine wp_mono (ih.1 hx hr (hI.restrict keep)) ?_
      rintro e a1 w1 ⟨ae, s1, ρ1, R1, rfl, hq, hI1⟩
      cases ae with
      | normal => exact ihm hI1 hq
      | exit id => exact ⟨.exit id, s1, ρ1, R1, rfl, hq, hI1⟩
      | ret => exact ⟨.ret, s1, ρ1, R1, rfl, hq, hI1⟩
      | goto l => exact ⟨.goto l, s1, ρ1, R1, rfl, hq, hI1⟩
  | exit id =>
    refine ⟨?_, fun l rest h => by simp [findLabel] at h⟩
    intro ac Q s ρ R a w hc h hI
    cases ac <;> simp [compC, ACode.strip] at hc
    subst hc
    exact wp_exit ⟨.exit _, s, ρ, R, rfl, h, hI⟩
  | ret =>
    refine ⟨?_, fun l rest h => by simp [findLabel] at h⟩
    intro ac Q s ρ R a w hc h hI
    cases ac <;> simp [compC, ACode.strip] at hc
    exact wp_ret ⟨.ret, s, ρ, R, rfl, h, hI⟩
  | rangeFunc f ps x y =>
    refine ⟨?_, fun l rest h => by simp [findLabel] at h⟩
    intro ac Q s ρ R a w hc h hI
    cases ac <;> simp [compC, ACode.strip] at hc
    exact h.elim
  | refuse why =>
    refine ⟨?_, fun l rest h => by simp [findLabel] at h⟩
    intro ac Q s ρ R a w hc h hI
    cases ac <;> simp [compC, ACode.strip] at hc
    exact h.elim
  | scope c ih =>
    refine ⟨?_, fun l rest h => by simp [findLabel] at h⟩
    intro ac Q s ρ R a w hc h hI
    simp only [compC, Option.bind_eq_some_iff, Option.some.injEq] at hc
    obtain ⟨l, _, x, hx, y, hy, hc⟩ := hc
    cases ac <;> simp [ACode.strip] at hc
    rename_i l' ab ar
    obtain ⟨rfl, rfl, rfl⟩ := hc
    have hl := aLabel_comp (l := l) hx
    rw [hy] at hl
    cases hf : findLabel c l with
    | none => simp only [hf] at hl
    | some rest =>
      simp only [hf] at hl
      have hrest : GSoundC P n H0 p ρ0 R0 w0 rest := ih.2 l rest hf
      refine wp_scope_rounds hf (wp_mono (ih.1 hx h hI) ?_)
      have key : ∀ m s ρ R a w, srounds (gwp P H0 p ar) l Q m s → Inv n H0 ρ0 R0 w0 p s ρ R a w → sRounds P rest l (Post n H0 ρ0 R0 w0 p Q) m a w := by
        intro m
        induction m with
        | zero => intro s ρ R a w h _; exact h.elim
        | succ m ihm =>
          intro s ρ R a w h hI
          refine wp_mono (hrest hl h hI) ?_
          rintro e a1 w1 ⟨ae, s1, ρ1, R1, rfl, hq, hI1⟩
          cases ae with
          | normal => exact ⟨.normal, s1, ρ1, R1, rfl, hq, hI1⟩
          | exit id => exact ⟨.exit id, s1, ρ1, R1, rfl, hq, hI1⟩
          | ret => exact ⟨.ret, s1, ρ1, R1, rfl, hq, hI1⟩
          | goto k => exact ⟨hq.1, ihm s1 ρ1 R1 a1 w1 hq.2 hI1⟩
      rintro e a1 w1 ⟨ae, s1, ρ1, R1, rfl, hq, hI1⟩
      cases ae with
      | normal => exact ⟨.normal, s1, ρ1, R1, rfl, hq, hI1⟩
      | exit id => exact ⟨.exit id, s1, ρ1, R1, rfl, hq, hI1⟩
      | ret => exact ⟨.ret, s1, ρ1, R1, rfl, hq, hI1⟩
      | goto k => obtain ⟨h1, m, h2⟩ := hq; exact ⟨h1, m, key m s1 ρ1 R1 a1 w1 h2 hI1⟩
  | label l =>
    refine ⟨?_, fun k rest h => ?_⟩
    · intro ac Q s ρ R a w hc h hI
      cases ac <;> simp [compC, ACode.strip] at hc
      exact wp_label ⟨.normal, s, ρ, R, rfl, h, hI⟩
    · simp only [findLabel] at h
      split at h
      · cases h
        intro ac Q s ρ R a w hc h hI
        cases ac <;> simp [compC, ACode.strip] at hc
        exact wp_skip ⟨.normal, s, ρ, R, rfl, h, hI⟩
      · cases h
  | goto l =>
    refine ⟨?_, fun l rest h => by simp [findLabel] at h⟩
    intro ac Q s ρ R a w hc h hI
    cases ac <;> simp [compC, ACode.strip] at hc
    subst hc
    exact wp_goto ⟨.goto _, s, ρ, R, rfl, h, hI⟩
theorem gwp_sound (hm : P.follows .mixedOrders = true) (h0 : Rep H0 ρ0 R0 w0) (hf0 : ∀ l, Under p l → ρ0 l = none) {code : Code} {ac : ACode} {Q : APost} {s : ASt} {ρ : Locs} {R : Imm} {a : Act} {w : World} (hc : compC P n code = some ac.strip)
    (h : gwp P H0 p ac Q s) (hI : Inv n H0 ρ0 R0 w0 p s ρ R a w) : code.wp P (Post n H0 ρ0 R0 w0 p Q) a w := (gwp_sound_all hm h0 hf0 code).1 hc h hI
end

/-! What a body's end is, once. -/
section
variable {P : Program} {H0 : Heap} {p : Lab}
def Sing (e : AEx) (s : ASt) : APost := fun e' s' => e' = e ∧ s' = s
theorem gwp_det {c : ACode} : ∀ {Q : APost} {s : ASt}, gwp P H0 p c Q s → ∃ e s', Q e s' ∧ gwp P H0 p c (Sing e s') s := by
  induction c with
  | skip => intro Q s h; exact ⟨_, _, h, rfl, rfl⟩
  | region ops draw keep => intro Q s ⟨call, hc, s1, h1, s', hw, h2⟩; exact ⟨_, _, h2, call, hc, s1, h1, s', hw, rfl, rfl⟩
  | seq a b iha ihb =>
    intro Q s h
    obtain ⟨e, s1, h1, h2⟩ := iha h
    cases e with
    | normal =>
      obtain ⟨e, s', h3, h4⟩ := ihb h1
      refine ⟨e, s', h3, (show gwp P H0 p a (seqQ _ _) _ from gwp_mono (fun e2 s2 he => ?_) h2)⟩
      obtain ⟨rfl, rfl⟩ := he
      exact h4
    | exit id => refine ⟨_, _, h1, (show gwp P H0 p a (seqQ _ _) _ from gwp_mono (fun e2 s2 he => ?_) h2)⟩; obtain ⟨rfl, rfl⟩ := he; exact ⟨rfl, rfl⟩
    | ret => refine ⟨_, _, h1, (show gwp P H0 p a (seqQ _ _) _ from gwp_mono (fun e2 s2 he => ?_) h2)⟩; obtain ⟨rfl, rfl⟩ := he; exact ⟨rfl, rfl⟩
    | goto l => refine ⟨_, _, h1, (show gwp P H0 p a (seqQ _ _) _ from gwp_mono (fun e2 s2 he => ?_) h2)⟩; obtain ⟨rfl, rfl⟩ := he; exact ⟨rfl, rfl⟩
  | cond c t e iht ihe =>
    intro Q s h
    simp only [gwp] at h ⊢
    split at h
    · rename_i b hb
      split at h
      · rename_i ht; obtain ⟨e, s', h1, h2⟩ := iht h; refine ⟨e, s', h1, ?_⟩; simp [hb, ht]; exact h2
      · rename_i ht; obtain ⟨e, s', h1, h2⟩ := ihe h; refine ⟨e, s', h1, ?_⟩; simp [hb, ht]; exact h2
    · exact h.elim
  | block id b ih =>
    intro Q s h
    obtain ⟨e, s1, h1, h2⟩ := ih h
    cases e with
    | normal => refine ⟨_, _, h1, (show gwp P H0 p b (blockQ _ _) _ from gwp_mono (fun e2 s2 he => ?_) h2)⟩; obtain ⟨rfl, rfl⟩ := he; exact ⟨rfl, rfl⟩
    | exit k =>
      simp only [blockQ] at h1
      split at h1
      · rename_i hk; refine ⟨_, _, h1, (show gwp P H0 p b (blockQ _ _) _ from gwp_mono (fun e2 s2 he => ?_) h2)⟩; obtain ⟨rfl, rfl⟩ := he; simp only [blockQ, if_pos hk]; exact ⟨rfl, rfl⟩
      · rename_i hk; refine ⟨_, _, h1, (show gwp P H0 p b (blockQ _ _) _ from gwp_mono (fun e2 s2 he => ?_) h2)⟩; obtain ⟨rfl, rfl⟩ := he; simp only [blockQ, if_neg hk]; exact ⟨rfl, rfl⟩
    | ret => refine ⟨_, _, h1, (show gwp P H0 p b (blockQ _ _) _ from gwp_mono (fun e2 s2 he => ?_) h2)⟩; obtain ⟨rfl, rfl⟩ := he; exact ⟨rfl, rfl⟩
    | goto l => refine ⟨_, _, h1, (show gwp P H0 p b (blockQ _ _) _ from gwp_mono (fun e2 s2 he => ?_) h2)⟩; obtain ⟨rfl, rfl⟩ := he; exact ⟨rfl, rfl⟩
  | loop keep b ih =>
    intro Q s ⟨m, hm⟩
    have key : ∀ m s, rounds (gwp P H0 p b) keep Q m s → ∃ e s', Q e s' ∧ rounds (gwp P H0 p b) keep (Sing e s') m s := by
      intro m
      induction m with
      | zero => intro s h; exact h.elim
      | succ m ihm =>
        intro s h
        obtain ⟨e, s1, h1, h2⟩ := ih h
        cases e with
        | normal =>
          obtain ⟨e, s', h3, h4⟩ := ihm s1 h1
          refine ⟨e, s', h3, gwp_mono (fun e2 s2 he => ?_) h2⟩
          obtain ⟨rfl, rfl⟩ := he
          exact h4
        | exit id => refine ⟨_, _, h1, gwp_mono (fun e2 s2 he => ?_) h2⟩; obtain ⟨rfl, rfl⟩ := he; exact ⟨rfl, rfl⟩
        | ret => refine ⟨_, _, h1, gwp_mono (fun e2 s2 he => ?_) h2⟩; obtain ⟨rfl, rfl⟩ := he; exact ⟨rfl, rfl⟩
        | goto l => refine ⟨_, _, h1, gwp_mono (fun e2 s2 he => ?_) h2⟩; obtain ⟨rfl, rfl⟩ := he; exact ⟨rfl, rfl⟩
    obtain ⟨e, s', h1, h2⟩ := key m s hm
    exact ⟨e, s', h1, m, h2⟩
  | exit id => intro Q s h; exact ⟨_, _, h, rfl, rfl⟩
  | ret => intro Q s h; exact ⟨_, _, h, rfl, rfl⟩
  | label l => intro Q s h; exact ⟨_, _, h, rfl, rfl⟩
  | goto l => intro Q s h; exact ⟨_, _, h, rfl, rfl⟩
  | bad => intro Q s h; exact h.elim
  | scope l b r ihb ihr =>
    intro Q s h
    have key : ∀ m s, srounds (gwp P H0 p r) l Q m s → ∃ e s', Q e s' ∧ srounds (gwp P H0 p r) l (Sing e s') m s := by
      intro m
      induction m with
      | zero => intro s h; exact h.elim
      | succ m ihm =>
        intro s h
        obtain ⟨e, s1, h1, h2⟩ := ihr h
        cases e with
        | normal => refine ⟨_, _, h1, gwp_mono (fun e2 s2 he => ?_) h2⟩; obtain ⟨rfl, rfl⟩ := he; exact ⟨rfl, rfl⟩
        | exit id => refine ⟨_, _, h1, gwp_mono (fun e2 s2 he => ?_) h2⟩; obtain ⟨rfl, rfl⟩ := he; exact ⟨rfl, rfl⟩
        | ret => refine ⟨_, _, h1, gwp_mono (fun e2 s2 he => ?_) h2⟩; obtain ⟨rfl, rfl⟩ := he; exact ⟨rfl, rfl⟩
        | goto k =>
          obtain ⟨e, s', h3, h4⟩ := ihm s1 h1.2
          refine ⟨e, s', h3, gwp_mono (fun e2 s2 he => ?_) h2⟩
          obtain ⟨rfl, rfl⟩ := he
          exact ⟨h1.1, h4⟩
    obtain ⟨e, s1, h1, h2⟩ := ihb h
    cases e with
    | normal => refine ⟨_, _, h1, (show gwp P H0 p b (jumpQ _ _ _) _ from gwp_mono (fun e2 s2 he => ?_) h2)⟩; obtain ⟨rfl, rfl⟩ := he; exact ⟨rfl, rfl⟩
    | exit id => refine ⟨_, _, h1, (show gwp P H0 p b (jumpQ _ _ _) _ from gwp_mono (fun e2 s2 he => ?_) h2)⟩; obtain ⟨rfl, rfl⟩ := he; exact ⟨rfl, rfl⟩
    | ret => refine ⟨_, _, h1, (show gwp P H0 p b (jumpQ _ _ _) _ from gwp_mono (fun e2 s2 he => ?_) h2)⟩; obtain ⟨rfl, rfl⟩ := he; exact ⟨rfl, rfl⟩
    | goto k =>
      obtain ⟨h0, m, hm⟩ := h1
      obtain ⟨e, s', h3, h4⟩ := key m s1 hm
      refine ⟨e, s', h3, (show gwp P H0 p b (jumpQ _ _ _) _ from gwp_mono (fun e2 s2 he => ?_) h2)⟩
      obtain ⟨rfl, rfl⟩ := he
      exact ⟨h0, m, h4⟩
end
end Go.Proofs.Ytoajcigegjhiaaa
