/- A law's shell: from the abstract machine's run to the given statement. -/
import Derived.Test.YtbngfbpegdcpkaaRows
import Derived.Test.YtbngfbpegdcpkaaA15
import Derived.Test.YtbngfbpegdcpkaaA20
import Derived.ProofKit
import Derived.OpenShut
import Derived.ChangeSame
namespace Go.Proofs.Ytbngfbpegdcpkaa
set_option linter.unusedVariables false
set_option linter.unusedSimpArgs false
open Go.ChangeShapes Go.WideShapes Go.ChangeAt Go.RowKit
theorem Try.laidOut : laidOutB Try.prog = true := by kernel_rfl
theorem Try.mixed : Try.prog.follows .mixedOrders = true := by kernel_rfl
theorem Try.ownKnob : ownKnob Try.prog.godebug = none := by kernel_rfl
section
variable {H : Type} {enc : TypeId × Value → H} {P : Program}
/-- a law's end, where below the heap's old size nothing has turned -/
theorem post_law {f : Func} {s : ChangeSpec} {apart fresh handsOn again : Bool} {W W' : World} {args : Array Value} {v : Value} {ds gs : List (DataW H)} {before : List MemPlace}
    (hW : DataW.Whole enc P f.params.toList s.vars apart W args.toList ds gs before)
    (hres : ∀ (b : Nat) (sp : Nat → Bool) (hd : Bool), DataW.TrodAll enc P W' b sp hd f.resultTypes.toList (v.resultList f.resultTypes.size) (s.fn H (ds ++ gs)).results [])
    (hargs : ∀ sp : Nat → Bool, (∀ p ∈ before, sp p.block = true) → DataW.TrodAll enc P W' 0 sp true f.params.toList args.toList (s.fn H (ds ++ gs)).args before)
    (hvars : ∀ sp : Nat → Bool, DataW.TrodVars enc P W' sp s.vars (s.fn H (ds ++ gs)).vars [])
    (hb : Below W.heap.size W W')
    (hok : ∀ (j : Nat) (t : TypeId) (r : Value), f.resultTypes[j]? = some t → (v.resultList f.resultTypes.size)[j]? = some r → Value.okWide P W' .any 0 t r) :
    s.post enc P f apart fresh handsOn again W args v W' := by
  have hlt : ∀ p ∈ before, p.block < W.heap.size := fun p hp => hW.lt p hp
  have hold : ∀ p ∈ before, (fun b => decide (b < W.heap.size)) p.block = true := fun p hp => by simpa using hlt p hp
  refine ⟨ds, gs, before, [], before, [], hW, hres _ _ _, hargs _ hold, hvars _, World.keptBut_mono (fun p hp => ⟨hp, .inr (.inl hp)⟩) (hb.frame (· ∈ before)), fun _ => ?_⟩
  obtain ⟨_, _, _, _, _, hz, hn⟩ := hW
  refine ⟨hok, _, _, ([] ++ before) ++ [], ⟨[] ++ before, [], trodAll_append (hargs _ (fun _ _ => rfl)) (hres _ _ _), hvars _, rfl, ?_, ?_⟩, ?_⟩
  · intro b off hp
    have hin : MemPlace.cell b off ∈ before := by simpa using hp
    rw [hb.frozen (hlt _ hin)]
    exact hz b off hin
  · intro ha
    simpa using hn ha
  · intro p hp _
    simpa using hp
end
/-- an argument's cells in the abstract machine's terms -/
theorem arg_shape {H : Type} {enc : TypeId × Value → H} {W : World} {t : TypeId} {v : Value} {d : DataW H} {ps : List MemPlace} (hp : plainT Try.prog 8 t = true) (h : DataW.Trod enc Try.prog W 0 (fun _ => true) true t v d ps) :
    ∃ xs, RepL (fun _ => none) (immOf W) xs v.cells.toList ∧ shapeOf Try.prog 8 t xs := by
  obtain ⟨fuel, h⟩ := h
  exact trod_shape 8 fuel t _ _ hp h
/-- the law's call, out of its run -/
theorem law_calls {call : CallF} (hcall : CallOk Try.prog call) {f : Nat} {A : AFun} (hA : FunOk Try.prog f A) {xs : List AV} (hlen : xs.length = A.np) {fuel : Nat} {os : List Bool} {asks : List (Nat × Bool)} {cons : List (Bool × Bool)} (h : lawOut call fuel A xs os asks = some (.bool true, cons)) (hc : ConsOk cons) {W : World} {vs : List Value} (hvs : RepL (fun _ => none) (immOf W) xs vs) :
    Calls Try.prog f vs.toArray W fun e W' => e = .returned (.bool true) ∧ Below W.heap.size W W' := by
  have := call_does Try.mixed hcall hA hlen (law_awp h hc) hvs W (rep_start W []) (fun l _ => rfl)
  refine Calls.mono this ?_
  rintro e W' ⟨v, rfl, x, u, ρ', R', ⟨rfl, rfl⟩, hF, hv, _⟩
  exact ⟨by rw [hv.bool_inv], below_of_fut hF⟩
end Go.Proofs.Ytbngfbpegdcpkaa
