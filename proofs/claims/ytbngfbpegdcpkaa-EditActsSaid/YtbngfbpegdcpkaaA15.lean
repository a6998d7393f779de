/- The abstract machine: running a function out where some tests are not known: a list says how they are taken to come out, and what was tested is told. -/
import Derived.Test.YtbngfbpegdcpkaaA14
namespace Go.Proofs.Ytbngfbpegdcpkaa
set_option linter.unusedVariables false
set_option linter.unusedSimpArgs false
/-- a run's end: how, the state, the answers that are left, what was tested against which answer -/
structure XR where
  e : AEx
  s : ASt
  os : List Bool
  cons : List (Bool × Bool)
def ConsOk (l : List (Bool × Bool)) : Prop := ∀ p ∈ l, p.1 = p.2
theorem ConsOk.left {l m : List (Bool × Bool)} (h : ConsOk (l ++ m)) : ConsOk l := fun p hp => h p (by simp [hp])
theorem ConsOk.right {l m : List (Bool × Bool)} (h : ConsOk (l ++ m)) : ConsOk m := fun p hp => h p (by simp [hp])
/-- a register's truth, taken to be what a list says -/
def askX (asks : List (Nat × Bool)) (d : Option Nat) (x : AV) : AV × List (Bool × Bool) := match d, x with
  | some t, .bool b => match asks.lookup t with
    | some ans => (.bool ans, [(b, ans)])
    | none => (x, [])
  | _, x => (x, [])
theorem askX_ok {asks : List (Nat × Bool)} {d : Option Nat} {x : AV} (h : ConsOk (askX asks d x).2) : (askX asks d x).1 = x := by
  unfold askX at h ⊢
  split
  · rename_i t b
    simp only at h
    split
    · rename_i ans ha
      rw [ha] at h
      have : b = ans := h (b, ans) (by simp)
      rw [this]
    · rfl
  · rfl
section
variable (call : CallF) (H0 : Heap) (p : Lab) (asks : List (Nat × Bool))
def runSeqQ : List AIns → ASt → Option (ASt × List (Bool × Bool))
  | [], s => some (s, [])
  | i :: is, s => (evalIns call H0 p i s).bind fun rc => (runSeqQ is (applyRc i s { rc with x := (askX asks i.dst rc.x).1 })).bind fun r => some (r.1, (askX asks i.dst rc.x).2 ++ r.2)
def runTrQ : List AIns → ASt → Option ((ASt × List Tr) × List (Bool × Bool))
  | [], s => some ((s, []), [])
  | i :: is, s => (evalIns call H0 p i s).bind fun rc => (runTrQ is (applyRc i s { rc with x := (askX asks i.dst rc.x).1 })).bind fun r => some ((r.1.1, trOf rc :: r.1.2), (askX asks i.dst rc.x).2 ++ r.2)
def runRegionQ (ops : List AIns) (draw : Option (List Nat)) (keep : List Nat) (s : ASt) : Option (ASt × List (Bool × Bool)) := match draw with
  | none => (runSeqQ call H0 p asks ops s).bind fun r => some ({ r.1 with regs := restrict r.1.regs keep }, r.2)
  | some masks => (runTrQ call H0 p asks ops s).bind fun r => if clashAll masks r.1.2 r.1.2 0 then none else some ({ r.1.1 with regs := restrict r.1.1.regs keep }, r.2)
end
theorem runSeqQ_ok {call : CallF} {H0 : Heap} {p : Lab} {asks : List (Nat × Bool)} : ∀ {is : List AIns} {s : ASt} {r : ASt × List (Bool × Bool)}, runSeqQ call H0 p asks is s = some r → ConsOk r.2 → runSeq call H0 p is s = some r.1
  | [], s, r, h, _ => by
    simp only [runSeqQ, Option.some.injEq] at h; subst h
    rfl
  | i :: is, s, r, h, hc => by
    simp only [runSeqQ, Option.bind_eq_some_iff, Option.some.injEq] at h
    obtain ⟨rc, h1, q, h2, rfl⟩ := h
    have e := askX_ok hc.left
    rw [e] at h2
    simp only [runSeq, h1, Option.bind_some]
    exact runSeqQ_ok h2 hc.right
theorem runTrQ_ok {call : CallF} {H0 : Heap} {p : Lab} {asks : List (Nat × Bool)} : ∀ {is : List AIns} {s : ASt} {r : (ASt × List Tr) × List (Bool × Bool)}, runTrQ call H0 p asks is s = some r → ConsOk r.2 → runTr call H0 p is s = some r.1
  | [], s, r, h, _ => by
    simp only [runTrQ, Option.some.injEq] at h; subst h
    rfl
  | i :: is, s, r, h, hc => by
    simp only [runTrQ, Option.bind_eq_some_iff, Option.some.injEq] at h
    obtain ⟨rc, h1, q, h2, rfl⟩ := h
    have e := askX_ok hc.left
    rw [e] at h2
    simp only [runTr, h1, Option.bind_some]
    have := runTrQ_ok h2 hc.right
    rw [this]
    rfl
theorem runRegionQ_ok {call : CallF} {H0 : Heap} {p : Lab} {asks : List (Nat × Bool)} {ops : List AIns} {draw : Option (List Nat)} {keep : List Nat} {s : ASt} {r : ASt × List (Bool × Bool)} (h : runRegionQ call H0 p asks ops draw keep s = some r) (hc : ConsOk r.2) : runRegion call H0 p ops draw keep s = some r.1 := by
  unfold runRegionQ at h
  unfold runRegion
  split at h
  · simp only [Option.bind_eq_some_iff, Option.some.injEq] at h
    obtain ⟨q, h1, rfl⟩ := h
    rw [runSeqQ_ok h1 hc]
    rfl
  · simp only [Option.bind_eq_some_iff] at h
    obtain ⟨q, h1, h2⟩ := h
    split at h2
    · cases h2
    · rename_i hcl
      simp only [Option.some.injEq] at h2
      subst h2
      rw [runTrQ_ok h1 hc]
      simp only [Option.bind_some]
      rw [if_neg hcl]
section
variable (call : CallF) (H0 : Heap) (p : Lab) (asks : List (Nat × Bool))
def xloop (f : List Bool → ASt → Option XR) (keep : List Nat) : Nat → List Bool → ASt → Option XR
  | 0, _, _ => none
  | m + 1, os, s => (f os { s with regs := restrict s.regs keep }).bind fun r => match r.e with
    | .normal => (xloop f keep m r.os r.s).bind fun q => some { q with cons := r.cons ++ q.cons }
    | _ => some r
def axb (fuel : Nat) : ACode → List Bool → ASt → Option XR
  | .skip, os, s => some ⟨.normal, s, os, []⟩
  | .region ops draw keep, os, s => (runRegionQ call H0 p asks ops draw keep s).bind fun r => some ⟨.normal, r.1, os, r.2⟩
  | .seq a b, os, s => (axb fuel a os s).bind fun r => match r.e with
    | .normal => (axb fuel b r.os r.s).bind fun q => some { q with cons := r.cons ++ q.cons }
    | _ => some r
  | .cond c t e, os, s => match evArg s.regs c with
    | some (.bool b) => match os with
      | true :: os => (axb fuel t os s).bind fun q => some { q with cons := (b, true) :: q.cons }
      | false :: os => (axb fuel e os s).bind fun q => some { q with cons := (b, false) :: q.cons }
      | [] => match b with
        | true => axb fuel t [] s
        | false => axb fuel e [] s
    | _ => none
  | .block id b, os, s => (axb fuel b os s).bind fun r => match r.e with
    | .exit k => if k = id then some { r with e := .normal } else some r
    | _ => some r
  | .loop keep b, os, s => xloop (axb fuel b) keep fuel os s
  | .exit id, os, s => some ⟨.exit id, s, os, []⟩
  | .ret, os, s => some ⟨.ret, s, os, []⟩
  | _, _, _ => none
end
theorem axb_awp {call : CallF} {H0 : Heap} {p : Lab} {asks : List (Nat × Bool)} {fuel : Nat} {c : ACode} : ∀ {os : List Bool} {s : ASt} {r : XR} {Q : APost}, axb call H0 p asks fuel c os s = some r → ConsOk r.cons → Q r.e r.s → awp call H0 p c Q s := by
  induction c with
  | skip => intro os s r Q h _ hQ; simp only [axb, Option.some.injEq] at h; subst h; exact hQ
  | region ops draw keep =>
    intro os s r Q h hc hQ
    simp only [axb, Option.bind_eq_some_iff, Option.some.injEq] at h
    obtain ⟨s1, h1, rfl⟩ := h
    exact ⟨_, runRegionQ_ok h1 hc, hQ⟩
  | seq a b iha ihb =>
    intro os s r Q h hc hQ
    simp only [axb, Option.bind_eq_some_iff] at h
    obtain ⟨⟨e1, s1, os1, c1⟩, h1, h2⟩ := h
    cases e1 with
    | normal =>
      simp only [Option.bind_eq_some_iff, Option.some.injEq] at h2
      obtain ⟨q, h2, rfl⟩ := h2
      exact iha h1 hc.left (ihb h2 hc.right hQ)
    | exit id => simp only [Option.some.injEq] at h2; subst h2; exact iha h1 hc hQ
    | ret => simp only [Option.some.injEq] at h2; subst h2; exact iha h1 hc hQ
    | goto l => simp only [Option.some.injEq] at h2; subst h2; exact iha h1 hc hQ
  | cond c t e iht ihe =>
    intro os s r Q h hc hQ
    simp only [axb] at h
    simp only [awp]
    split at h
    · rename_i b hb
      rw [hb]
      split at h
      · simp only [Option.bind_eq_some_iff, Option.some.injEq] at h
        obtain ⟨q, h2, rfl⟩ := h
        have : b = true := hc (b, true) (by simp)
        subst this
        exact iht h2 (fun p hp => hc p (by simp [hp])) hQ
      · simp only [Option.bind_eq_some_iff, Option.some.injEq] at h
        obtain ⟨q, h2, rfl⟩ := h
        have : b = false := hc (b, false) (by simp)
        subst this
        exact ihe h2 (fun p hp => hc p (by simp [hp])) hQ
      · cases b with
        | true => exact iht h hc hQ
        | false => exact ihe h hc hQ
    · cases h
  | block id b ih =>
    intro os s r Q h hc hQ
    simp only [axb, Option.bind_eq_some_iff] at h
    obtain ⟨⟨e1, s1, os1, c1⟩, h1, h2⟩ := h
    cases e1 with
    | normal => simp only [Option.some.injEq] at h2; subst h2; exact ih h1 hc hQ
    | exit k =>
      simp only at h2
      split at h2
      · rename_i hk; simp only [Option.some.injEq] at h2; subst h2
        exact ih h1 hc (by simp only [blockQ]; rw [if_pos hk]; exact hQ)
      · rename_i hk; simp only [Option.some.injEq] at h2; subst h2
        exact ih h1 hc (by simp only [blockQ]; rw [if_neg hk]; exact hQ)
    | ret => simp only [Option.some.injEq] at h2; subst h2; exact ih h1 hc hQ
    | goto l => simp only [Option.some.injEq] at h2; subst h2; exact ih h1 hc hQ
  | loop keep b ih =>
    intro os s r Q h hc hQ
    simp only [axb] at h
    refine ⟨fuel, ?_⟩
    have key : ∀ m os s r, xloop (axb call H0 p asks fuel b) keep m os s = some r → ConsOk r.cons → Q r.e r.s → rounds (awp call H0 p b) keep Q m s := by
      intro m
      induction m with
      | zero => intro os s r h; simp [xloop] at h
      | succ m ihm =>
        intro os s r h hc hQ
        simp only [xloop, Option.bind_eq_some_iff] at h
        obtain ⟨⟨e1, s1, os1, c1⟩, h1, h2⟩ := h
        cases e1 with
        | normal =>
          simp only [Option.bind_eq_some_iff, Option.some.injEq] at h2
          obtain ⟨q, h2, rfl⟩ := h2
          exact ih h1 hc.left (ihm _ _ _ h2 hc.right hQ)
        | exit id => simp only [Option.some.injEq] at h2; subst h2; exact ih h1 hc hQ
        | ret => simp only [Option.some.injEq] at h2; subst h2; exact ih h1 hc hQ
        | goto l => simp only [Option.some.injEq] at h2; subst h2; exact ih h1 hc hQ
    exact key fuel os s r h hc hQ
  | exit id => intro os s r Q h _ hQ; simp only [axb, Option.some.injEq] at h; subst h; exact hQ
  | ret => intro os s r Q h _ hQ; simp only [axb, Option.some.injEq] at h; subst h; exact hQ
  | label l => intro os s r Q h; simp [axb] at h
  | goto l => intro os s r Q h; simp [axb] at h
  | scope l b r => intro os s r Q h; simp [axb] at h
  | bad => intro os s r Q h; simp [axb] at h
/-- what a law's body comes to -/
def lawOut (call : CallF) (fuel : Nat) (A : AFun) (xs : List AV) (os : List Bool) (asks : List (Nat × Bool) := []) : Option (AV × List (Bool × Bool)) := (axb call (fun _ => none) [] asks fuel A.body os (entry xs)).bind fun r => match r.e with
  | .normal | .ret => (aRes (upd r.s.ov (fun _ => none)) r.s.regs A.res).bind fun x => some (x, r.cons)
  | _ => none
theorem law_awp {call : CallF} {fuel : Nat} {A : AFun} {xs : List AV} {os : List Bool} {asks : List (Nat × Bool)} {x : AV} {cons : List (Bool × Bool)} (h : lawOut call fuel A xs os asks = some (x, cons)) (hc : ConsOk cons) :
    awp call (fun _ => none) [] A.body (RetQ (fun _ => none) A.res (fun y u => y = x ∧ u = [])) (entry xs) := by
  unfold lawOut at h
  simp only [Option.bind_eq_some_iff] at h
  obtain ⟨r, h1, h2⟩ := h
  have key : (r.e = .normal ∨ r.e = .ret) ∧ aRes (upd r.s.ov (fun _ => none)) r.s.regs A.res = some x ∧ r.cons = cons := by
    split at h2
    · rename_i he
      simp only [Option.bind_eq_some_iff, Option.some.injEq, Prod.mk.injEq] at h2
      obtain ⟨y, h2, rfl, rfl⟩ := h2
      exact ⟨.inl he, h2, rfl⟩
    · rename_i he
      simp only [Option.bind_eq_some_iff, Option.some.injEq, Prod.mk.injEq] at h2
      obtain ⟨y, h2, rfl, rfl⟩ := h2
      exact ⟨.inr he, h2, rfl⟩
    · cases h2
  obtain ⟨he, hx, rfl⟩ := key
  exact axb_awp h1 hc ⟨he, x, [], hx, fun l o h => by simp [upd] at h, rfl, rfl⟩
theorem lookup_ok {P : Program} {l : List (Nat × AFun)} (h : ∀ p ∈ l, FunOk P p.1 p.2) : ∀ f A, l.lookup f = some A → FunOk P f A := by
  induction l with
  | nil => intro f A h; simp at h
  | cons p l ih =>
    intro f A hf
    rw [List.lookup_cons] at hf
    split at hf
    · rename_i e
      cases hf
      have := h p (by simp)
      rw [beq_iff_eq] at e
      subst e
      exact this
    · exact ih (fun q hq => h q (by simp [hq])) f A hf
end Go.Proofs.Ytbngfbpegdcpkaa
