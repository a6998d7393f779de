/- The abstract machine: code, functions, calls. -/
import Derived.Test.YtbngfbpegdcpkaaA12
import Derived.LoopN
import Derived.ScopeJumps
namespace Go.Proofs.Ytbngfbpegdcpkaa
set_option linter.unusedVariables false
set_option linter.unusedSimpArgs false

inductive AEx where
  | normal
  | exit (id : Nat)
  | ret
  | goto (l : Nat)
deriving DecidableEq
def AEx.ex : AEx → Exit
  | .normal => .normal
  | .exit id => .exit id
  | .ret => .ret
  | .goto l => .goto l
def ACode.strip : ACode → ACode
  | .region ops draw _ => .region ops draw []
  | .seq a b => .seq a.strip b.strip
  | .cond c t e => .cond c t.strip e.strip
  | .block id b => .block id b.strip
  | .loop _ b => .loop [] b.strip
  | .scope l b r => .scope l b.strip r.strip
  | c => c
/-- what follows a label -/
def aLabel : ACode → Nat → Option ACode
  | .seq a b, l => match aLabel a l with
    | some r => some (.seq r b)
    | none => aLabel b l
  | .label l', l => if l' == l then some .skip else none
  | _, _ => none
def firstLabel : Code → Option Nat
  | .seq a b => match firstLabel a with
    | some l => some l
    | none => firstLabel b
  | .label l => some l
  | _ => none
def compC (P : Program) (n : Nat) : Code → Option ACode
  | .skip => some .skip
  | .region _ ops draw => (compOps P n ops ops.toList).bind fun is => if draw then (if backOk ops.toList 0 && apartAll ops (masksOf ops.toList []) ops.toList 0 then some (.region is (some (masksOf ops.toList [])) []) else none) else some (.region is none [])
  | .seq a b => (compC P n a).bind fun x => (compC P n b).bind fun y => some (.seq x y)
  | .cond c t e => (argOf c).bind fun z => (compC P n t).bind fun x => (compC P n e).bind fun y => some (.cond z x y)
  | .block id b => (compC P n b).bind fun x => some (.block id x)
  | .loop b => (compC P n b).bind fun x => some (.loop [] x)
  | .exit id => some (.exit id)
  | .ret => some .ret
  | .label l => some (.label l)
  | .goto l => some (.goto l)
  | .scope c => (firstLabel c).bind fun l => (compC P n c).bind fun x => (aLabel x l).bind fun y => some (.scope l x y)
  | .rangeFunc .. => some .bad
  | .refuse _ => some .bad
abbrev APost := AEx → ASt → Prop
def seqQ (k : ASt → Prop) (Q : APost) : APost := fun e s => match e with
  | .normal => k s
  | e => Q e s
def jumpQ (l : Nat) (J : ASt → Prop) (Q : APost) : APost := fun e s => match e with
  | .goto k => k = l ∧ J s
  | e => Q e s
def srounds (f : APost → ASt → Prop) (l : Nat) (Q : APost) : Nat → ASt → Prop
  | 0, _ => False
  | m + 1, s => f (jumpQ l (srounds f l Q m) Q) s
def blockQ (id : Nat) (Q : APost) : APost := fun e s => match e with
  | .exit k => if k = id then Q .normal s else Q (.exit k) s
  | e => Q e s
section
variable (call : CallF) (H0 : Heap) (p : Lab)
def rounds (f : APost → ASt → Prop) (keep : List Nat) (Q : APost) : Nat → ASt → Prop
  | 0, _ => False
  | m + 1, s => f (seqQ (rounds f keep Q m) Q) { s with regs := restrict s.regs keep }
def awp : ACode → APost → ASt → Prop
  | .skip, Q, s => Q .normal s
  | .region ops draw keep, Q, s => ∃ s', runRegion call H0 p ops draw keep s = some s' ∧ Q .normal s'
  | .seq a b, Q, s => awp a (seqQ (awp b Q) Q) s
  | .cond c t e, Q, s => match evArg s.regs c with
    | some (.bool b) => if b then awp t Q s else awp e Q s
    | _ => False
  | .block id b, Q, s => awp b (blockQ id Q) s
  | .loop keep b, Q, s => ∃ m, rounds (awp b) keep Q m s
  | .exit id, Q, s => Q (.exit id) s
  | .ret, Q, s => Q .ret s
  | .label _, Q, s => Q .normal s
  | .goto l, Q, s => Q (.goto l) s
  | .scope l b r, Q, s => awp b (jumpQ l (fun s' => ∃ m, srounds (awp r) l Q m s') Q) s
  | .bad, _, _ => False
end
section
variable {P : Program} {n : Nat} {call : CallF} {H0 : Heap} {p : Lab} {ρ0 : Locs} {R0 : Imm} {w0 : World}
def Post (n : Nat) (H0 : Heap) (ρ0 : Locs) (R0 : Imm) (w0 : World) (p : Lab) (Q : APost) : Exit → Act → World → Prop := fun e a w => ∃ ae s ρ R, e = AEx.ex ae ∧ Q ae s ∧ Inv n H0 ρ0 R0 w0 p s ρ R a w
theorem rget_restrict {r : RL} {t : Nat} {x : AV} : ∀ {keep : List Nat}, rget (restrict r keep) t = some x → rget r t = some x
  | [], h => by simp [restrict, rget] at h
  | k :: keep, h => by
    unfold restrict at h
    rw [List.filterMap_cons] at h
    cases hk : rget r k with
    | none => simp only [hk, Option.map_none] at h; exact rget_restrict (keep := keep) h
    | some y =>
      simp only [hk, Option.map_some, rget] at h
      split at h
      · rename_i e; subst e; rw [hk]; exact h
      · exact rget_restrict (keep := keep) h
theorem Inv.restrict {s : ASt} {ρ : Locs} {R : Imm} {a : Act} {w : World} (h : Inv n H0 ρ0 R0 w0 p s ρ R a w) (keep : List Nat) : Inv n H0 ρ0 R0 w0 p { s with regs := Ytbngfbpegdcpkaa.restrict s.regs keep } ρ R a w :=
  ⟨⟨h.rs.size, h.rs.defers, fun t x hx => h.rs.regs t x (rget_restrict hx), h.rs.heap⟩, h.fut, h.fresh, h.lab⟩
theorem awp_mono {c : ACode} : ∀ {Q Q' : APost} {s : ASt}, (∀ e s, Q e s → Q' e s) → awp call H0 p c Q s → awp call H0 p c Q' s := by
  induction c with
  | skip => intro Q Q' s h hs; exact h _ _ hs
  | region ops draw keep => intro Q Q' s h ⟨s', h1, h2⟩; exact ⟨s', h1, h _ _ h2⟩
  | seq a b iha ihb =>
    intro Q Q' s h hs
    refine iha (fun e s he => ?_) hs
    cases e with
    | normal => exact ihb h he
    | exit id => exact h _ _ he
    | ret => exact h _ _ he
    | goto l => exact h _ _ he
  | cond c t e iht ihe =>
    intro Q Q' s h hs
    simp only [awp] at hs ⊢
    split at hs
    · split at hs
      · rename_i hb; rw [if_pos hb]; exact iht h hs
      · rename_i hb; rw [if_neg hb]; exact ihe h hs
    · exact hs.elim
  | block id b ih =>
    intro Q Q' s h hs
    refine ih (fun e s he => ?_) hs
    cases e with
    | normal => exact h _ _ he
    | exit k =>
      simp only [blockQ] at he ⊢
      split at he
      · rename_i hk; rw [if_pos hk]; exact h _ _ he
      · rename_i hk; rw [if_neg hk]; exact h _ _ he
    | ret => exact h _ _ he
    | goto l => exact h _ _ he
  | loop keep b ih =>
    intro Q Q' s h ⟨m, hm⟩
    refine ⟨m, ?_⟩
    induction m generalizing s with
    | zero => exact hm
    | succ m ihm =>
      refine ih (fun e s he => ?_) hm
      cases e with
      | normal => exact ihm he
      | exit id => exact h _ _ he
      | ret => exact h _ _ he
      | goto l => exact h _ _ he
  | exit id => intro Q Q' s h hs; exact h _ _ hs
  | ret => intro Q Q' s h hs; exact h _ _ hs
  | label l => intro Q Q' s h hs; exact h _ _ hs
  | goto l => intro Q Q' s h hs; exact h _ _ hs
  | bad => intro Q Q' s h hs; exact hs
  | scope l b r ihb ihr =>
    intro Q Q' s h hs
    have hr : ∀ m s, srounds (awp call H0 p r) l Q m s → srounds (awp call H0 p r) l Q' m s := by
      intro m
      induction m with
      | zero => intro s hs; exact hs
      | succ m ihm =>
        intro s hs
        refine ihr (fun e s he => ?_) hs
        cases e with
        | normal => exact h _ _ he
        | exit id => exact h _ _ he
        | ret => exact h _ _ he
        | goto k => exact ⟨he.1, ihm _ he.2⟩
    refine ihb (fun e s he => ?_) hs
    cases e with
    | normal => exact h _ _ he
    | exit id => exact h _ _ he
    | ret => exact h _ _ he
    | goto k => obtain ⟨h1, m, h2⟩ := he; exact ⟨h1, m, hr m _ h2⟩

/-- what a piece of code does, by the abstract machine -/
def SoundC (P : Program) (n : Nat) (call : CallF) (H0 : Heap) (p : Lab) (ρ0 : Locs) (R0 : Imm) (w0 : World) (code : Code) : Prop := ∀ {ac : ACode} {Q : APost} {s : ASt} {ρ : Locs} {R : Imm} {a : Act} {w : World}, compC P n code = some ac.strip →
    awp call H0 p ac Q s → Inv n H0 ρ0 R0 w0 p s ρ R a w → code.wp P (Post n H0 ρ0 R0 w0 p Q) a w
theorem SoundC.seq {x y : Code} (ihx : SoundC P n call H0 p ρ0 R0 w0 x) (ihy : SoundC P n call H0 p ρ0 R0 w0 y) : SoundC P n call H0 p ρ0 R0 w0 (.seq x y) := by
  intro ac Q s ρ R a w hc h hI
  simp only [compC, Option.bind_eq_some_iff, Option.some.injEq] at hc
  obtain ⟨x', hx, y', hy, hc⟩ := hc
  cases ac <;> simp [ACode.strip] at hc
  rename_i ax ay
  obtain ⟨rfl, rfl⟩ := hc
  refine wp_seq (wp_mono (ihx hx h hI) ?_)
  rintro e a1 w1 ⟨ae, s1, ρ1, R1, rfl, hq, hI1⟩
  cases ae with
  | normal => exact ihy hy hq hI1
  | exit id => exact ⟨.exit id, s1, ρ1, R1, rfl, hq, hI1⟩
  | ret => exact ⟨.ret, s1, ρ1, R1, rfl, hq, hI1⟩
  | goto l => exact ⟨.goto l, s1, ρ1, R1, rfl, hq, hI1⟩
theorem aLabel_comp : ∀ {c : Code} {x : ACode} {l : Nat}, compC P n c = some x → match findLabel c l, aLabel x l with
    | some r, some y => compC P n r = some y
    | none, none => True
    | _, _ => False
  | .seq a b, x, l, h => by
    simp only [compC, Option.bind_eq_some_iff, Option.some.injEq] at h
    obtain ⟨x', hx, y', hy, rfl⟩ := h
    have h1 := aLabel_comp (l := l) hx
    have h2 := aLabel_comp (l := l) hy
    simp only [findLabel, aLabel]
    cases hf : findLabel a l <;> cases hg : aLabel x' l <;> simp only [hf, hg] at h1 ⊢
    · exact h2
    · simp [compC, h1, hy]
  | .label k, x, l, h => by
    simp only [compC, Option.some.injEq] at h; subst h
    simp only [findLabel, aLabel]
    by_cases e : k == l <;> simp [e, compC]
  | .skip, x, l, h => by simp only [compC, Option.some.injEq] at h; subst h; simp [findLabel, aLabel]
  | .ret, x, l, h => by simp only [compC, Option.some.injEq] at h; subst h; simp [findLabel, aLabel]
  | .exit k, x, l, h => by simp only [compC, Option.some.injEq] at h; subst h; simp [findLabel, aLabel]
  | .goto k, x, l, h => by simp only [compC, Option.some.injEq] at h; subst h; simp [findLabel, aLabel]
  | .rangeFunc .., x, l, h => by simp only [compC, Option.some.injEq] at h; subst h; simp [findLabel, aLabel]
  | .refuse _, x, l, h => by simp only [compC, Option.some.injEq] at h; subst h; simp [findLabel, aLabel]
  | .region _ ops d, x, l, h => by
    simp only [compC, Option.bind_eq_some_iff] at h
    obtain ⟨is, _, h⟩ := h
    split at h
    · split at h
      · simp only [Option.some.injEq] at h; subst h; simp [findLabel, aLabel]
      · cases h
    · simp only [Option.some.injEq] at h; subst h; simp [findLabel, aLabel]
  | .cond c t e, x, l, h => by
    simp only [compC, Option.bind_eq_some_iff, Option.some.injEq] at h
    obtain ⟨_, _, _, _, _, _, rfl⟩ := h
    simp [findLabel, aLabel]
  | .block _ b, x, l, h => by
    simp only [compC, Option.bind_eq_some_iff, Option.some.injEq] at h
    obtain ⟨_, _, rfl⟩ := h
    simp [findLabel, aLabel]
  | .loop b, x, l, h => by
    simp only [compC, Option.bind_eq_some_iff, Option.some.injEq] at h
    obtain ⟨_, _, rfl⟩ := h
    simp [findLabel, aLabel]
  | .scope c, x, l, h => by
    simp only [compC, Option.bind_eq_some_iff, Option.some.injEq] at h
    obtain ⟨_, _, _, _, _, _, rfl⟩ := h
    simp [findLabel, aLabel]
/-- rounds from a label on -/
def sRounds (P : Program) (rest : Code) (l : Nat) (Q : Exit → Act → World → Prop) : Nat → Act → World → Prop
  | 0, _, _ => False
  | m + 1, a, w => rest.wp P (Exit.jump l (sRounds P rest l Q m) Q) a w
theorem wp_scope_rounds {c rest : Code} {l : Nat} {a : Act} {w : World} {Q : Exit → Act → World → Prop} (hf : findLabel c l = some rest) (h : c.wp P (Exit.jump l (fun a w => ∃ m, sRounds P rest l Q m a w) Q) a w) : (Code.scope c).wp P Q a w := by
  intro b k cs
  have hg : gotoIn l (.inScope c :: k) = some (.code rest :: .inScope c :: k) := by simp [gotoIn, hf]
  have key : ∀ m a w, sRounds P rest l Q m a w → ∃ e a' w', Q e a' w' ∧ Arrives P (lone (b.at a (.code rest :: .inScope c :: k)) cs w) b k cs e a' w' := by
    intro m
    induction m with
    | zero => intro a w h; exact h.elim
    | succ m ih =>
      intro a w h
      obtain ⟨e, a₁, w₁, hq, harr⟩ := h b (.inScope c :: k) cs
      cases e with
      | normal => exact ⟨.normal, a₁, w₁, hq, Steps.trans harr (.one step_inScope)⟩
      | exit id => exact ⟨.exit id, a₁, w₁, hq, fun k' hk => harr k' (by simp [exitTo, hk])⟩
      | goto l' =>
        obtain ⟨rfl, hJ⟩ := hq
        obtain ⟨e₂, a₂, w₂, hq₂, harr₂⟩ := ih a₁ w₁ hJ
        exact ⟨e₂, a₂, w₂, hq₂, .of_steps (harr _ hg) harr₂⟩
      | ret => exact ⟨_, a₁, w₁, hq, harr⟩
      | panic ch => exact ⟨_, a₁, w₁, hq, harr⟩
      | outgrown => exact ⟨_, a₁, w₁, hq, harr⟩
  obtain ⟨e, a₁, w₁, hq, harr⟩ := h b (.inScope c :: k) cs
  cases e with
  | normal => exact ⟨.normal, a₁, w₁, hq, .head step_scope (Steps.trans harr (.one step_inScope))⟩
  | exit id => exact ⟨.exit id, a₁, w₁, hq, fun k' hk => .head step_scope (harr k' (by simp [exitTo, hk]))⟩
  | goto l' =>
    obtain ⟨rfl, m, hJ⟩ := hq
    obtain ⟨e₂, a₂, w₂, hq₂, harr₂⟩ := key m a₁ w₁ hJ
    exact ⟨e₂, a₂, w₂, hq₂, .of_steps (.head step_scope (harr _ hg)) harr₂⟩
  | ret => exact ⟨_, a₁, w₁, hq, .of_steps (.one step_scope) harr⟩
  | panic ch => exact ⟨_, a₁, w₁, hq, .of_steps (.one step_scope) harr⟩
  | outgrown => exact ⟨_, a₁, w₁, hq, .of_steps (.one step_scope) harr⟩
theorem awp_sound_all (hm : P.follows .mixedOrders = true) (hcall : CallOk P call) (h0 : Rep H0 ρ0 R0 w0) (hf0 : ∀ l, Under p l → ρ0 l = none) (code : Code) : SoundC P n call H0 p ρ0 R0 w0 code ∧ ∀ l rest, findLabel code l = some rest → SoundC P n call H0 p ρ0 R0 w0 rest := by
  induction code with
  | skip =>
    refine ⟨?_, fun l rest h => by simp [findLabel] at h⟩
    intro ac Q s ρ R a w hc h hI
    cases ac <;> simp [compC, ACode.strip] at hc
    exact wp_skip ⟨.normal, s, ρ, R, rfl, h, hI⟩
  | region id ops draw =>
    refine ⟨?_, fun l rest h => by simp [findLabel] at h⟩
    intro ac Q s ρ R a w hc h hI
    simp only [compC, Option.bind_eq_some_iff] at hc
    obtain ⟨is, his, hc⟩ := hc
    cases draw with
    | false =>
      simp only [Bool.false_eq_true, if_false, Option.some.injEq] at hc
      cases ac <;> simp [ACode.strip] at hc
      rename_i ops' draw' keep
      obtain ⟨rfl, rfl⟩ := hc
      obtain ⟨s', h1, h2⟩ := h
      simp only [runRegion, Option.bind_eq_some_iff, Option.some.injEq] at h1
      obtain ⟨s1, h1, rfl⟩ := h1
      exact seq_sound hcall his h0 hf0 h1 hI (fun ρ R a w hI' => ⟨.normal, _, ρ, R, rfl, h2, hI'.restrict keep⟩)
    | true =>
      simp only [if_true] at hc
      split at hc
      · rename_i hst
        simp only [Bool.and_eq_true] at hst
        simp only [Option.some.injEq] at hc
        cases ac <;> simp [ACode.strip] at hc
        rename_i ops' draw' keep
        obtain ⟨rfl, rfl⟩ := hc
        obtain ⟨s', h1, h2⟩ := h
        simp only [runRegion, Option.bind_eq_some_iff] at h1
        obtain ⟨⟨s1, trs⟩, h1, h3⟩ := h1
        split at h3
        · cases h3
        · rename_i hcl
          simp only [Option.some.injEq] at h3
          subst h3
          exact draw_sound hm hcall his hst.1 hst.2 h0 hf0 h1 (by simpa using hcl) hI (fun ρ R a w hI' => ⟨.normal, _, ρ, R, rfl, h2, hI'.restrict keep⟩)
      · cases hc
  | seq x y ihx ihy =>
    refine ⟨SoundC.seq ihx.1 ihy.1, fun l rest h => ?_⟩
    simp only [findLabel] at h
    cases hf : findLabel x l with
    | some r => simp only [hf, Option.some.injEq] at h; subst h; exact SoundC.seq (ihx.2 l r hf) ihy.1
    | none => simp only [hf] at h; exact ihy.2 l rest h
  | cond c t e iht ihe =>
    refine ⟨?_, fun l rest h => by simp [findLabel] at h⟩
    intro ac Q s ρ R a w hc h hI
    simp only [compC, Option.bind_eq_some_iff, Option.some.injEq] at hc
    obtain ⟨z, hz, x', hx, y', hy, hc⟩ := hc
    cases ac <;> simp [ACode.strip] at hc
    rename_i z' ax ay
    obtain ⟨rfl, rfl, rfl⟩ := hc
    simp only [awp] at h
    split at h
    · rename_i b hb
      have hv := (argOf_rep (ρ := ρ) (R := R) (a := a) hz hb (fun t ht y hy => hI.rs.regs t y hy)).bool_inv
      split at h
      · rename_i hbt; subst hbt
        exact wp_cond_true hv (iht.1 hx h hI)
      · rename_i hbt
        have : b = false := by simpa using hbt
        subst this
        exact wp_cond_false hv (ihe.1 hy h hI)
    · exact h.elim
  | block id b ih =>
    refine ⟨?_, fun l rest h => by simp [findLabel] at h⟩
    intro ac Q s ρ R a w hc h hI
    simp only [compC, Option.bind_eq_some_iff, Option.some.injEq] at hc
    obtain ⟨x', hx, hc⟩ := hc
    cases ac <;> simp [ACode.strip] at hc
    rename_i id' ax
    obtain ⟨rfl, rfl⟩ := hc
    refine wp_block (wp_mono (ih.1 hx h hI) ?_)
    rintro e a1 w1 ⟨ae, s1, ρ1, R1, rfl, hq, hI1⟩
    cases ae with
    | normal => exact ⟨.normal, s1, ρ1, R1, rfl, hq, hI1⟩
    | exit k =>
      simp only [blockQ] at hq
      simp only [AEx.ex, Exit.inBlock]
      split at hq
      · rename_i hk; rw [if_pos hk]; exact ⟨.normal, s1, ρ1, R1, rfl, hq, hI1⟩
      · rename_i hk; rw [if_neg hk]; exact ⟨.exit k, s1, ρ1, R1, rfl, hq, hI1⟩
    | ret => exact ⟨.ret, s1, ρ1, R1, rfl, hq, hI1⟩
    | goto l => exact ⟨.goto l, s1, ρ1, R1, rfl, hq, hI1⟩
  | loop b ih =>
    refine ⟨?_, fun l rest h => by simp [findLabel] at h⟩
    intro ac Q s ρ R a w hc h hI
    simp only [compC, Option.bind_eq_some_iff, Option.some.injEq] at hc
    obtain ⟨x', hx, hc⟩ := hc
    cases ac <;> simp [ACode.strip] at hc
    rename_i keep ax
    subst hc
    obtain ⟨m, hr⟩ := h
    refine wp_loop_rounds m ?_
    induction m generalizing s ρ R a w with
    | zero => exact hr.elim
    | succ m ihm =>
      rw [rounds_succ]
      refine wp_mono (ih.1 hx hr (hI.restrict keep)) ?_
      rintro e a1 w1 ⟨ae, s1, ρ1, R1, rfl, hq, hI1⟩
      cases ae with
      | normal => exact ihm hI1 hq
      | exit id => exact ⟨.exit id, s1, ρ1, R1, rfl, hq, hI1⟩
      | ret => exact ⟨.ret, s1, ρ1, R1, rfl, hq, hI1⟩
      | goto l => exact ⟨.goto l, s1, ρ1, R1, rfl, hq, hI1⟩
  | exit id =>
    refine ⟨?_, fun l rest h => by simp [findLabel] at h⟩
    intro ac Q s ρ R a w hc h hI
    cases ac <;> simp [compC, ACode.strip] at hc
    subst hc
    exact wp_exit ⟨.exit _, s, ρ, R, rfl, h, hI⟩
  | ret =>
    refine ⟨?_, fun l rest h => by simp [findLabel] at h⟩
    intro ac Q s ρ R a w hc h hI
    cases ac <;> simp [compC, ACode.strip] at hc
    exact wp_ret ⟨.ret, s, ρ, R, rfl, h, hI⟩
  | rangeFunc f ps x y =>
    refine ⟨?_, fun l rest h => by simp [findLabel] at h⟩
    intro ac Q s ρ R a w hc h hI
    cases ac <;> simp [compC, ACode.strip] at hc
    exact h.elim
  | refuse why =>
    refine ⟨?_, fun l rest h => by simp [findLabel] at h⟩
    intro ac Q s ρ R a w hc h hI
    cases ac <;> simp [compC, ACode.strip] at hc
    exact h.elim
  | scope c ih =>
    refine ⟨?_, fun l rest h => by simp [findLabel] at h⟩
    intro ac Q s ρ R a w hc h hI
    simp only [compC, Option.bind_eq_some_iff, Option.some.injEq] at hc
    obtain ⟨l, _, x, hx, y, hy, hc⟩ := hc
    cases ac <;> simp [ACode.strip] at hc
    rename_i l' ab ar
    obtain ⟨rfl, rfl, rfl⟩ := hc
    have hl := aLabel_comp (l := l) hx
    rw [hy] at hl
    cases hf : findLabel c l with
    | none => simp only [hf] at hl
    | some rest =>
      simp only [hf] at hl
      have hrest : SoundC P n call H0 p ρ0 R0 w0 rest := ih.2 l rest hf
      refine wp_scope_rounds hf (wp_mono (ih.1 hx h hI) ?_)
      have key : ∀ m s ρ R a w, srounds (awp call H0 p ar) l Q m s → Inv n H0 ρ0 R0 w0 p s ρ R a w → sRounds P rest l (Post n H0 ρ0 R0 w0 p Q) m a w := by
        intro m
        induction m with
        | zero => intro s ρ R a w h _; exact h.elim
        | succ m ihm =>
          intro s ρ R a w h hI
          refine wp_mono (hrest hl h hI) ?_
          rintro e a1 w1 ⟨ae, s1, ρ1, R1, rfl, hq, hI1⟩
          cases ae with
          | normal => exact ⟨.normal, s1, ρ1, R1, rfl, hq, hI1⟩
          | exit id => exact ⟨.exit id, s1, ρ1, R1, rfl, hq, hI1⟩
          | ret => exact ⟨.ret, s1, ρ1, R1, rfl, hq, hI1⟩
          | goto k => exact ⟨hq.1, ihm s1 ρ1 R1 a1 w1 hq.2 hI1⟩
      rintro e a1 w1 ⟨ae, s1, ρ1, R1, rfl, hq, hI1⟩
      cases ae with
      | normal => exact ⟨.normal, s1, ρ1, R1, rfl, hq, hI1⟩
      | exit id => exact ⟨.exit id, s1, ρ1, R1, rfl, hq, hI1⟩
      | ret => exact ⟨.ret, s1, ρ1, R1, rfl, hq, hI1⟩
      | goto k => obtain ⟨h1, m, h2⟩ := hq; exact ⟨h1, m, key m s1 ρ1 R1 a1 w1 h2 hI1⟩
  | label l =>
    refine ⟨?_, fun k rest h => ?_⟩
    · intro ac Q s ρ R a w hc h hI
      cases ac <;> simp [compC, ACode.strip] at hc
      exact wp_label ⟨.normal, s, ρ, R, rfl, h, hI⟩
    · simp only [findLabel] at h
      split at h
      · cases h
        intro ac Q s ρ R a w hc h hI
        cases ac <;> simp [compC, ACode.strip] at hc
        exact wp_skip ⟨.normal, s, ρ, R, rfl, h, hI⟩
      · cases h
  | goto l =>
    refine ⟨?_, fun l rest h => by simp [findLabel] at h⟩
    intro ac Q s ρ R a w hc h hI
    cases ac <;> simp [compC, ACode.strip] at hc
    subst hc
    exact wp_goto ⟨.goto _, s, ρ, R, rfl, h, hI⟩
theorem awp_sound (hm : P.follows .mixedOrders = true) (hcall : CallOk P call) (h0 : Rep H0 ρ0 R0 w0) (hf0 : ∀ l, Under p l → ρ0 l = none) {code : Code} {ac : ACode} {Q : APost} {s : ASt} {ρ : Locs} {R : Imm} {a : Act} {w : World} (hc : compC P n code = some ac.strip)
    (h : awp call H0 p ac Q s) (hI : Inv n H0 ρ0 R0 w0 p s ρ R a w) : code.wp P (Post n H0 ρ0 R0 w0 p Q) a w := (awp_sound_all hm hcall h0 hf0 code).1 hc h hI
end

/-! Functions. -/
inductive AResV where
  | tmp (t : Nat)
  | cell (t n : Nat) (agg : Bool)
structure AFun where
  np : Nat
  nt : Nat
  res : List AResV
  body : ACode
def compRes (P : Program) : List ResultVar → Option (List AResV)
  | [] => some []
  | .tmp t :: rs => (compRes P rs).bind fun l => some (.tmp t :: l)
  | .cell t T :: rs => (P.underlying T).bind fun d => (P.info? T).bind fun i => if aggD d = true ∨ i.size = 1 then (compRes P rs).bind fun l => some (.cell t i.size (aggD d) :: l) else none
structure FunOk (P : Program) (f : Nat) (A : AFun) : Prop where
  ex : ∃ fn c, P.funcs[f]? = some fn ∧ fn.body = some c ∧ (fn.name == "runtime.NumGoroutine") = false ∧ fn.ntmps = A.nt ∧ compC P A.nt c = some A.body.strip ∧ compRes P fn.results.toList = some A.res
  np : A.np ≤ A.nt
def aRes1 (H : Heap) (r : RL) : AResV → Option AV
  | .tmp t => rget r t
  | .cell t n agg => (rget r t).bind fun x => (aLoad n agg x H []).map (·.x)
def aResL (H : Heap) (r : RL) : List AResV → Option (List AV)
  | [] => some []
  | x :: xs => (aRes1 H r x).bind fun v => (aResL H r xs).bind fun vs => some (v :: vs)
def aRes (H : Heap) (r : RL) (l : List AResV) : Option AV := (aResL H r l).map fun vs => match vs with
  | [x] => x
  | vs => .tuple vs
def params : Nat → List AV → RL
  | _, [] => []
  | k, x :: xs => (k, x) :: params (k + 1) xs
def entry (xs : List AV) : ASt := ⟨params 0 xs, [], 0⟩
end Go.Proofs.Ytbngfbpegdcpkaa
