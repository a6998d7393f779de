/- The abstract machine: contracts that leave open which of its outcomes a call yields. -/
import Derived.Test.YtbngfbpegdcpkaaA35
namespace Go.Proofs.Ytbngfbpegdcpkaa
set_option linter.unusedVariables false
set_option linter.unusedSimpArgs false
/-- a body's end, where what comes out is not told ahead -/
def VRE (q : Lab) (H0 : Heap) (res : List AResV) (Φ : AV → Chg → Prop) : VPost := fun e r H _ => (e = .normal ∨ e = .ret) ∧ ∃ x y u, aRes H r res = some x ∧ Φ y u ∧ (∀ l, u.has l → H0 l ≠ none ∨ Under q l) ∧ Fr (fun l => upd u H0 l = none ∧ H l ≠ none) H x y ∧ ∀ l o, upd u H0 l = some o → H l = some o
theorem soundE_vc {P : Program} (hm : P.follows .mixedOrders = true) {f : Nat} {A : AFun} (hA : FunOk P f A) {xs : List AV} (hlen : xs.length = A.np) {H : Heap} {q : Lab} {Φ : AV → Chg → Prop}
    (h : vc P q A.body (VRE q H A.res Φ) (params 0 xs) H 0) : SoundE P f xs H q Φ := by
  refine soundE_of_gwp hm hA hlen ?_
  refine gwp_mono (fun e s he => ?_) (vc_sound (ov := []) (H0 := H) h)
  obtain ⟨he, x, y, u, hx, hΦ, hu, hf, hl⟩ := he
  exact ⟨he, x, y, u, hx, hΦ, hu, hf, hl⟩
theorem SoundE.mono {P : Program} {f : Nat} {xs : List AV} {H : Heap} {q : Lab} {Φ Ψ : AV → Chg → Prop} (h : SoundE P f xs H q Φ) (hk : ∀ x u, Φ x u → (∀ l, u.has l → H l ≠ none ∨ Under q l) → Ψ x u) : SoundE P f xs H q Ψ := by
  refine ⟨h.1, fun ρ R vs hvs w hR hfr => ?_⟩
  refine Calls.mono (h.2 ρ R vs hvs w hR hfr) ?_
  rintro e w' ⟨v, rfl, x, u, ρ', R', h1, h2, h3, h4, h5⟩
  exact ⟨v, rfl, x, u, ρ', R', hk x u h1 h2, h2, h3, h4, h5⟩
section
variable {P : Program} {H : Heap} {p q : Lab} {KK : KF}
theorem call_e {f : Nat} {xs : List AV} {Φ : AV → Chg → Prop} (h : SoundE P f xs H q Φ) (hk : ∀ x u, Φ x u → KK x (upd u H) (u.map (·.1)) none) : vCall true P f xs H q KK := Or.inr ⟨rfl, Φ, h, hk⟩
/-- .. and the labels to come are free -/
theorem call_e_gen {c : Nat} {f : Nat} {xs : List AV} {Φ : AV → Chg → Prop} (h : SoundE P f xs H (c :: p) Φ) (hf : Fresh p c H) (hk : ∀ x u H', Φ x u → (∀ l, H' l = upd u H l) → Fresh p (c + 1) H' → KK x H' (u.map (·.1)) none) : vCall true P f xs H (c :: p) KK := by
  refine Or.inr ⟨rfl, _, h.mono (Ψ := fun x u => Φ x u ∧ ∀ l, u.has l → H l ≠ none ∨ Under (c :: p) l) (fun x u h1 h2 => ⟨h1, h2⟩), ?_⟩
  rintro x u ⟨h1, h2⟩
  refine hk x u _ h1 (fun _ => rfl) (fun k s hk => ?_)
  by_cases hh : u.has (s ++ k :: p)
  · rcases h2 _ hh with h3 | ⟨t, ht⟩
    · exact absurd (hf k s (by omega)) h3
    · exfalso
      have := under_inj (i := k) (j := c) (p := p) (l := s ++ k :: p) ⟨s, rfl⟩ ⟨t, ht⟩
      omega
  · rw [upd_not hh]; exact hf k s (by omega)
end
end Go.Proofs.Ytbngfbpegdcpkaa
