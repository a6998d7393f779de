/- A law's shell, 2: every argument at once; from a law's run to its contract. -/
import Derived.Test.YtbngfbpegdcpkaaA21
namespace Go.Proofs.Ytbngfbpegdcpkaa
set_option linter.unusedVariables false
set_option linter.unusedSimpArgs false
open Go.ChangeShapes Go.WideShapes Go.ChangeAt Go.RowKit
set_option maxRecDepth 100000
/-- an argument of a type, out of its cells -/
def parOf (P : Program) (t : TypeId) (xs : List AV) : AV := match P.underlying t with
  | some (.struct _) => .agg xs
  | _ => xs.headD .nilp
def parsOf (P : Program) : List TypeId → List AV → Prop
  | [], ys => ys = []
  | t :: ts, ys => ∃ xs zs, ys = parOf P t xs :: zs ∧ shapeOf P 8 t xs ∧ parsOf P ts zs
section
variable {H : Type} {enc : TypeId × Value → H} {W W' : World}
theorem one_rep {t : TypeId} {v : Value} {d : DataW H} {ps : List MemPlace} {b : Nat} (hp : plainT Try.prog 8 t = true) (hv : Value.okWide Try.prog W .any b t v) (h : DataW.Trod enc Try.prog W 0 (fun _ => true) true t v d ps) :
    ∃ xs, RepV (fun _ => none) (immOf W) (parOf Try.prog t xs) v ∧ shapeOf Try.prog 8 t xs := by
  obtain ⟨xs, h1, h2⟩ := arg_shape hp h
  refine ⟨xs, ?_, h2⟩
  have hlen := (shape_len hp h2).1
  unfold plainT at hp
  cases hu : Try.prog.underlying t with
  | none => simp [hu] at hp
  | some u =>
    simp only [hu] at hp
    have one : ∀ {v : Value}, v.cells.toList = [v] → Try.prog.cellsOf t = 1 → RepL (fun _ => none) (immOf W) xs v.cells.toList → RepV (fun _ => none) (immOf W) (xs.headD .nilp) v := by
      intro v hc h3 h1
      rw [hc] at h1
      rw [h3] at hlen
      match xs, hlen with
      | [x], _ =>
        obtain ⟨w, hw, hr⟩ := h1.2 0 x rfl
        simp at hw
        subst hw
        exact hr
    cases u <;> simp only at hp <;> try (cases hp; done)
    all_goals simp only [parOf, hu]
    · obtain ⟨b, rfl⟩ := okWide_bool hu hv
      exact one rfl (by simpa using hp) h1
    · obtain ⟨b, rfl⟩ := okWide_int hu hv
      exact one rfl (by simpa using hp) h1
    · obtain ⟨b, rfl⟩ := okWide_string hu hv
      exact one rfl (by simpa using hp) h1
    · obtain ⟨a, l, c, rfl⟩ := okWide_slice hu hv
      simp only [Bool.and_eq_true, beq_iff_eq] at hp
      exact one rfl hp.1.1 h1
    · obtain ⟨cs, rfl, _⟩ := okWide_struct hu hv
      exact agg_of_cells h1 ⟨_, rfl⟩
theorem args_rep {b : Nat} : ∀ {ts : List TypeId} {vs : List Value} {ds : List (DataW H)} {ps : List MemPlace}, (∀ t ∈ ts, plainT Try.prog 8 t = true) → (∀ (j : Nat) t v, ts[j]? = some t → vs[j]? = some v → Value.okWide Try.prog W .any b t v) →
    DataW.TrodAll enc Try.prog W 0 (fun _ => true) true ts vs ds ps → ∃ ys, RepL (fun _ => none) (immOf W) ys vs ∧ parsOf Try.prog ts ys
  | [], vs, ds, ps, _, _, h => by
    obtain ⟨rfl, rfl, rfl⟩ := trodAll_nil h
    exact ⟨[], .nil, rfl⟩
  | t :: ts, vs, ds, ps, hp, hv, h => by
    obtain ⟨v, vs', d, ds', p, q, rfl, rfl, rfl, h1, h2⟩ := trodAll_cons h
    obtain ⟨xs, h3, h4⟩ := one_rep (hp t (by simp)) (hv 0 t v rfl rfl) h1
    obtain ⟨zs, h5, h6⟩ := args_rep (fun t ht => hp t (by simp [ht])) (fun j t v ht hv' => hv (j + 1) t v (by simpa using ht) (by simpa using hv')) h2
    exact ⟨_, .cons h3 h5, xs, zs, rfl, h4, h6⟩
theorem parsOf_len {P : Program} : ∀ {ts : List TypeId} {ys : List AV}, parsOf P ts ys → ys.length = ts.length
  | [], ys, h => by cases h; rfl
  | t :: ts, ys, h => by
    obtain ⟨xs, zs, rfl, _, h⟩ := h
    simp [parsOf_len h]
theorem trodAll_len : ∀ {ts : List TypeId} {vs : List Value} {ds : List (DataW H)} {ps : List MemPlace}, DataW.TrodAll enc Try.prog W 0 (fun _ => true) true ts vs ds ps → ds.length = ts.length
  | [], vs, ds, ps, h => by
    obtain ⟨rfl, rfl, rfl⟩ := trodAll_nil h
    rfl
  | t :: ts, vs, ds, ps, h => by
    obtain ⟨v, vs', d, ds', p, q, rfl, rfl, rfl, h1, h2⟩ := trodAll_cons h
    simp [trodAll_len h2]
theorem trodAll_stays {sp : Nat → Bool} : ∀ {ts : List TypeId} {vs : List Value} {ds : List (DataW H)} {ps : List MemPlace}, (∀ t ∈ ts, Try.prog.readableRec t = true ∧ t < Try.prog.types.size) → Below W.heap.size W W' → (∀ p ∈ ps, p.block < W.heap.size) → (∀ p ∈ ps, sp p.block = true) →
    DataW.TrodAll enc Try.prog W 0 (fun _ => true) true ts vs ds ps → DataW.TrodAll enc Try.prog W' 0 sp true ts vs ds ps
  | [], vs, ds, ps, _, _, _, _, h => by
    obtain ⟨rfl, rfl, rfl⟩ := trodAll_nil h
    exact trodAll_mk0
  | t :: ts, vs, ds, ps, ht, hb, hlt, hsp, h => by
    obtain ⟨v, vs', d, ds', p, q, rfl, rfl, rfl, h1, h2⟩ := trodAll_cons h
    exact ⟨p, q, Go.WideElems.Trod_stays Try.laidOut (ht t (by simp)).1 (ht t (by simp)).2 h1 (fun x hx => hb.same (hlt x (by simp [hx]))) (fun x hx => hsp x (by simp [hx])),
      trodAll_stays (fun t h => ht t (by simp [h])) hb (fun x hx => hlt x (by simp [hx])) (fun x hx => hsp x (by simp [hx])) h2, rfl⟩
/-- a law that answers true, whatever data it is given -/
theorem law_contract {call : CallF} (hcall : CallOk Try.prog call) {f : Nat} {fn : Func} {A : AFun} {s : ChangeSpec} (hA : FunOk Try.prog f A) (hres : fn.resultTypes = #[4]) (hvars : s.vars = []) (hnp : fn.params.toList.length = A.np)
    (hplain : fn.params.toList.all (fun t => plainT Try.prog 8 t && Try.prog.readableRec t && decide (t < Try.prog.types.size)) = true)
    (hfn : ∀ ds : List (DataW H), ds.length = fn.params.toList.length → s.fn H ds = { results := [.lit (.bool true)], args := ds })
    (hlaw : ∀ ys, parsOf Try.prog fn.params.toList ys → awp call (fun _ => none) [] A.body (RetQ (fun _ => none) A.res (fun y u => y = .bool true ∧ u = [])) (entry ys))
    (W : World) (base : Nat) (args : Array Value) (ds gs : List (DataW H)) (before : List MemPlace)
    (hval : ∀ (j : Nat) t v, fn.params[j]? = some t → args[j]? = some v → Value.okWide Try.prog W .any base t v)
    (hW : DataW.Whole enc Try.prog fn.params.toList s.vars false W args.toList ds gs before) :
    Calls Try.prog f args W fun e W' => ∃ v, e = .returned v ∧ s.post enc Try.prog fn false true false false W args v W' := by
  have hW' := hW
  have hlt : ∀ p ∈ before, p.block < W.heap.size := fun p hp => hW.lt p hp
  obtain ⟨p, q, hA0, hV, rfl, hfz, hnd⟩ := hW
  rw [hvars] at hV
  obtain ⟨rfl, rfl⟩ := trodVars_none hV
  have hpl : ∀ t ∈ fn.params.toList, plainT Try.prog 8 t = true ∧ Try.prog.readableRec t = true ∧ t < Try.prog.types.size := by
    intro t ht
    have := List.all_eq_true.1 hplain t ht
    simp only [Bool.and_eq_true, decide_eq_true_eq] at this
    exact ⟨this.1.1, this.1.2, this.2⟩
  simp only [List.append_nil] at hW' hlt
  obtain ⟨ys, hr, ha⟩ := args_rep (b := base) (fun t ht => (hpl t ht).1) (fun j t v ht hv => hval j t v (by simpa using ht) (by simpa using hv)) hA0
  have hd := trodAll_len hA0
  have := call_does Try.mixed hcall hA ((parsOf_len ha).trans hnp) (hlaw ys ha) hr W (rep_start W []) (fun l _ => rfl)
  rw [Array.toArray_toList] at this
  refine Calls.mono this ?_
  rintro e W' ⟨v, rfl, x, u, ρ', R', ⟨rfl, rfl⟩, hF, hv, _⟩
  have hv' := hv.bool_inv
  subst hv'
  have hb := below_of_fut hF
  refine ⟨_, rfl, post_law hW' ?_ ?_ ?_ hb ?_⟩
  · intro b sp hd'
    rw [hres, List.append_nil, hfn ds hd]
    exact trodAll_cons_mk (shut_bool Try.underlying4 _) trodAll_mk0
  · intro sp hsp
    rw [List.append_nil, hfn ds hd]
    exact trodAll_stays (fun t ht => (hpl t ht).2) hb hlt hsp hA0
  · intro sp
    rw [hvars, List.append_nil, hfn ds hd]
    exact rfl
  · exact ok_one hres rfl (okWide_bool_mk Try.underlying4 _)
end
end Go.Proofs.Ytbngfbpegdcpkaa
