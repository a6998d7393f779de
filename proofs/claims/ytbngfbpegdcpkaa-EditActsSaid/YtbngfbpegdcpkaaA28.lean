/- The abstract machine: what is one's own, lent to a function that only reckons; a run without arguments; a law's contract. -/
import Derived.Test.YtbngfbpegdcpkaaA27
import Derived.Test.YtbngfbpegdcpkaaA22
namespace Go.Proofs.Ytbngfbpegdcpkaa
set_option linter.unusedVariables false
set_option linter.unusedSimpArgs false
set_option maxRecDepth 100000
open Go.ChangeShapes Go.WideShapes Go.ChangeAt Go.RowKit
/-- plain values: of no memory -/
def AV.flat1 : AV → Bool
  | .bool _ | .int .. | .str _ | .nilp | .nils | .nilm | .nilf => true
  | _ => false
def AV.flat : AV → Bool
  | .tuple cs => cs.all AV.flat1
  | x => x.flat1
section
variable {ρ ρ' : Locs} {R R' : Imm} {P : Program}
theorem flat1_rep {x : AV} {v : Value} (h : x.flat1 = true) (hv : RepV ρ R x v) : RepV ρ' R' x v := by
  cases hv <;> simp [AV.flat1] at h
  · exact .bool _
  · exact .int _ _
  · exact .str _
  · exact .nilp
  · exact .nils
  · exact .nilm
  · exact .nilf
theorem flat_rep {x : AV} {v : Value} (h : x.flat = true) (hv : RepV ρ R x v) : RepV ρ' R' x v := by
  by_cases h1 : x.flat1 = true
  · exact flat1_rep h1 hv
  · cases x <;> simp [AV.flat, AV.flat1] at h h1
    rename_i cs
    cases hv with
    | tuple _ C hC hc =>
      refine .tuple _ _ hC (fun i x hx => ?_)
      exact flat1_rep (h x (List.mem_of_getElem? hx)) (hc i x hx)
/-- a call that makes nothing that is kept -/
theorem lend_does {f : Nat} {xs xs' : List AV} {y : AV} {H : Heap} {q : Lab} (h : Pure P f xs' y) (hy : y.flat = true) (hfr : ∀ w vs, Rep H ρ R w → RepL ρ R xs vs → RepL ρ (frozenR (fun l => H l ≠ none) ρ R w) xs' vs) {vs : List Value} (hvs : RepL ρ R xs vs) : Does (callC P f vs.toArray) H [] (Under q) ρ R y := by
  intro w hR hfree
  have hext : Ext ρ ρ R (frozenR (fun l => H l ≠ none) ρ R w) := frozen_ext (fun l L hz hL => by
    obtain ⟨o, ho⟩ := Option.ne_none_iff_exists'.1 hz
    exact .inl (hR.dis l o L ho hL))
  have hR0 : Rep (fun _ => none) ρ (frozenR (fun l => H l ≠ none) ρ R w) w := rep_frozen hR (fun l o h => by cases h) hext (fun l hz L _ => hz)
  have := (h (fun _ => none) q).2.2 ρ _ vs (hfr w vs hR hvs) w (by simpa [restr] using hR0) hfree
  refine Calls.mono this ?_
  rintro e w' ⟨v, rfl, ρ', R', hF, hv, hR'⟩
  refine ⟨v, rfl, ρ, R, ⟨.refl _ _, fun l L h => .inl h, fun b O h => .inl h, hF.os, hF.tape, hF.output, hF.size, fun b hb _ => hF.frame b hb (fun k o K hk => by simp [restr] at hk)⟩, flat_rep hy hv, ?_⟩
  have same : ∀ b, b < w.heap.size → w'.heap[b]? = w.heap[b]? := fun b hb => hF.frame b hb (fun k o K hk => by simp [restr] at hk)
  refine ⟨fun l o hl => ?_, hR.sep, hR.dis, fun b O hb => ?_⟩
  · obtain ⟨L, O, h1, h2, h3⟩ := hR.own l o hl
    exact ⟨L, O, h1, by rw [same _ (Array.getElem?_eq_some_iff.1 h2).1]; exact h2, h3⟩
  · have := hR.imm b O hb
    rw [same _ (Array.getElem?_eq_some_iff.1 this).1]; exact this
inductive FrL (H : Heap) : List AV → List AV → Prop
  | nil : FrL H [] []
  | cons {x y : AV} {xs ys : List AV} : Fr (fun l => H l ≠ none) H x y → FrL H xs ys → FrL H (x :: xs) (y :: ys)
theorem FrL.rep {H : Heap} {w : World} (hR : Rep H ρ R w) : ∀ {xs ys : List AV} {vs : List Value}, FrL H xs ys → RepL ρ R xs vs → RepL ρ (frozenR (fun l => H l ≠ none) ρ R w) ys vs
  | [], _, vs, .nil, h => by
    have := h.nil_inv; subst this; exact .nil
  | x :: xs, _, vs, .cons h hs, hv => by
    obtain ⟨v, us, rfl, h1, h2⟩ := hv.head
    have hext : Ext ρ ρ R (frozenR (fun l => H l ≠ none) ρ R w) := frozen_ext (fun l L hz hL => by
      obtain ⟨o, ho⟩ := Option.ne_none_iff_exists'.1 hz
      exact .inl (hR.dis l o L ho hL))
    exact .cons (fr_rep hR hext h h1) (FrL.rep hR hs h2)
theorem call_lend {s : Bool} {f : Nat} {xs xs' : List AV} {y : AV} {H : Heap} {q : Lab} {KK : KF} (h : Pure P f xs' y) (hy : y.flat = true) (hfr : FrL H xs xs') (hk : KK y H [] none) : vCall s P f xs H q KK :=
  Or.inl ⟨⟨y, [], none⟩, ⟨(h H q).1, fun l hl => absurd hl (not_has_nil l), fun ρ R vs hvs => lend_does h hy (fun w vs hR hv => hfr.rep hR hv) hvs⟩, hk⟩
/-- what a run without arguments yields -/
theorem pure_run {call : CallF} (hcall : CallOk P call) {f : Nat} {x : AV} (hx : x.flat = true) (h : (call f [] (fun _ => none) []).map (·.x) = some x) : Pure P f [] x := by
  intro H q
  simp only [Option.map_eq_some_iff] at h
  obtain ⟨⟨y, u, foot⟩, h1, rfl⟩ := h
  obtain ⟨hc, _, hd⟩ := hcall f [] _ [] _ h1
  refine ⟨hc, fun l hl => absurd hl (not_has_nil l), fun ρ R vs hvs w hR hfree => ?_⟩
  have := hvs.nil_inv; subst this
  rw [restr_nil] at hR ⊢
  have e : restr (fun _ => (none : Option AO)) foot = fun _ => none := by cases foot <;> funext l <;> simp [restr]
  have hR0 : Rep (fun _ => none) (fun _ => none) R w := ⟨fun l o h => (by cases h), fun l l' o o' L L' h => (by cases h), fun l o L h => (by cases h), hR.imm⟩
  refine Calls.mono (hd (fun _ => none) R [] .nil w (by rw [e]; exact hR0) (fun l _ => rfl)) ?_
  rintro e' w' ⟨v, rfl, ρ', R', hF, hv, hR'⟩
  have same : ∀ b, b < w.heap.size → w'.heap[b]? = w.heap[b]? := fun b hb => hF.frame b hb (fun k o K hk => by rw [e] at hk; cases hk)
  exact ⟨v, rfl, ρ, R, ⟨.refl _ _, fun l L h => .inl h, fun b O h => .inl h, hF.os, hF.tape, hF.output, hF.size, fun b hb _ => same b hb⟩, flat_rep hx hv,
    ⟨fun l o h => (by simp [upd] at h), fun l l' o o' L L' h => (by simp [upd] at h), fun l o L h => (by simp [upd] at h), fun b O hb => by
      have := hR.imm b O hb
      rw [same _ (Array.getElem?_eq_some_iff.1 this).1]; exact this⟩⟩
end
section
variable {H : Type} {enc : TypeId × Value → H}
/-- a law that answers true, whatever data it is given: by its contract -/
theorem law_pure {f : Nat} {fn : Func} {A : AFun} {s : ChangeSpec} (hA : FunOk Try.prog f A) (hres : fn.resultTypes = #[4]) (hvars : s.vars = []) (hnp : fn.params.toList.length = A.np)
    (hplain : fn.params.toList.all (fun t => plainT Try.prog 8 t && Try.prog.readableRec t && decide (t < Try.prog.types.size)) = true)
    (hfn : ∀ ds : List (DataW H), ds.length = fn.params.toList.length → s.fn H ds = { results := [.lit (.bool true)], args := ds })
    (hlaw : ∀ ys, parsOf Try.prog fn.params.toList ys → Pure Try.prog f ys (.bool true))
    (W : World) (base : Nat) (args : Array Value) (ds gs : List (DataW H)) (before : List MemPlace)
    (hval : ∀ (j : Nat) t v, fn.params[j]? = some t → args[j]? = some v → Value.okWide Try.prog W .any base t v)
    (hW : DataW.Whole enc Try.prog fn.params.toList s.vars false W args.toList ds gs before) :
    Calls Try.prog f args W fun e W' => ∃ v, e = .returned v ∧ s.post enc Try.prog fn false true false false W args v W' := by
  have hW' := hW
  have hlt : ∀ p ∈ before, p.block < W.heap.size := fun p hp => hW.lt p hp
  obtain ⟨p, q, hA0, hV, rfl, hfz, hnd⟩ := hW
  rw [hvars] at hV
  obtain ⟨rfl, rfl⟩ := trodVars_none hV
  have hpl : ∀ t ∈ fn.params.toList, plainT Try.prog 8 t = true ∧ Try.prog.readableRec t = true ∧ t < Try.prog.types.size := by
    intro t ht
    have := List.all_eq_true.1 hplain t ht
    simp only [Bool.and_eq_true, decide_eq_true_eq] at this
    exact ⟨this.1.1, this.1.2, this.2⟩
  simp only [List.append_nil] at hW' hlt
  obtain ⟨ys, hr, ha⟩ := args_rep (b := base) (fun t ht => (hpl t ht).1) (fun j t v ht hv => hval j t v (by simpa using ht) (by simpa using hv)) hA0
  have hd := trodAll_len hA0
  have := (hlaw ys ha (fun _ => none) []).2.2 _ _ _ hr W (by rw [restr_nil]; exact rep_start W []) (fun l _ => rfl)
  rw [Array.toArray_toList] at this
  refine Calls.mono this ?_
  rintro e W' ⟨v, rfl, ρ', R', hF, hv, _⟩
  have hv' := hv.bool_inv
  subst hv'
  rw [restr_nil] at hF
  have hb := below_of_fut hF
  refine ⟨_, rfl, post_law hW' ?_ ?_ ?_ hb ?_⟩
  · intro b sp hd'
    rw [hres, List.append_nil, hfn ds hd]
    exact trodAll_cons_mk (shut_bool Try.underlying4 _) trodAll_mk0
  · intro sp hsp
    rw [List.append_nil, hfn ds hd]
    exact trodAll_stays (fun t ht => (hpl t ht).2) hb hlt hsp hA0
  · intro sp
    rw [hvars, List.append_nil, hfn ds hd]
    exact rfl
  · exact ok_one hres rfl (okWide_bool_mk Try.underlying4 _)
end
end Go.Proofs.Ytbngfbpegdcpkaa
