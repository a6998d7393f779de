/- The abstract machine: calls that are run out, some of them by contract. -/
import Derived.Test.YtbngfbpegdcpkaaA32
namespace Go.Proofs.Ytbngfbpegdcpkaa
set_option linter.unusedVariables false
set_option linter.unusedSimpArgs false
/-- calls that are run out, so deep; some by what is known of them -/
def arunX (ext : CallF) (tbl : Nat → Option AFun) (fuel : Nat) : Nat → CallF
  | 0, _, _, _, _ => none
  | d + 1, f, xs, H, q => match ext f xs H q with
    | some r => some r
    | none => (tbl f).bind fun A => if xs.length = A.np then (aexec (arunX ext tbl fuel d) H q fuel A.body (entry xs)).bind fun r => match r.1 with
      | .exit _ => none
      | .goto _ => none
      | _ => (aRes (upd r.2.ov H) r.2.regs A.res).bind fun x => if ovOk H q r.2.ov then some ⟨x, r.2.ov, none⟩ else none
      else none
theorem arunX_ok {P : Program} (hm : P.follows .mixedOrders = true) {ext : CallF} (he : CallOk P ext) {tbl : Nat → Option AFun} (ht : ∀ f A, tbl f = some A → FunOk P f A) (fuel : Nat) : ∀ d, CallOk P (arunX ext tbl fuel d)
  | 0 => fun f xs H q r h => by simp [arunX] at h
  | d + 1 => fun f xs H q r h => by
    have ih := arunX_ok hm he ht fuel d
    simp only [arunX] at h
    split at h
    · rename_i r' hr'
      cases h
      exact he f xs H q _ hr'
    simp only [Option.bind_eq_some_iff] at h
    obtain ⟨A, hA, h⟩ := h
    have hF := ht f A hA
    split at h
    · rename_i hlen
      simp only [Option.bind_eq_some_iff] at h
      obtain ⟨⟨e, s⟩, he, h⟩ := h
      have hne : e = .normal ∨ e = .ret := by
        cases e with
        | normal => exact .inl rfl
        | exit k => cases h
        | ret => exact .inr rfl
        | goto k => cases h
      have h' : (aRes (upd s.ov H) s.regs A.res).bind (fun x => if ovOk H q s.ov then some (⟨x, s.ov, none⟩ : Res) else none) = some r := by
        rcases hne with rfl | rfl <;> exact h
      simp only [Option.bind_eq_some_iff] at h'
      obtain ⟨x, hx, h'⟩ := h'
      split at h'
      · rename_i hov
        simp only [Option.some.injEq] at h'
        subst h'
        obtain ⟨fn, c, hf, hb, hn, _⟩ := hF.ex
        refine ⟨⟨fn, hf, by rw [hb]; rfl, hn⟩, ?_, ?_⟩
        · rintro l ⟨pr, hp, rfl⟩
          have := List.all_eq_true.1 hov pr hp
          simp only [Bool.or_eq_true] at this
          rcases this with h1 | h1
          · exact .inr (isUnder_spec h1)
          · refine .inl ?_
            simp only [restr]
            intro e0; rw [e0] at h1; cases h1
        · intro ρ R vs hvs w hR hfr
          simp only [restr] at hR
          have := call_does hm ih hF hlen (K := fun y u => y = x ∧ u = s.ov) (exec_awp he ⟨hne, x, s.ov, hx, fun l o h => h, rfl, rfl⟩) hvs w hR hfr
          refine Calls.mono this ?_
          rintro e' w' ⟨v, rfl, y, u, ρ', R', ⟨rfl, rfl⟩, hF', hv, hR'⟩
          exact ⟨v, rfl, ρ', R', hF', hv, hR'⟩
      · cases h'
    · cases h
end Go.Proofs.Ytbngfbpegdcpkaa
