/- The abstract machine: a program's operations in its terms. -/
import Derived.Test.YtbngfbpegdcpkaaA8d
import Derived.Test.YtbngfbpegdcpkaaA8e
namespace Go.Proofs.Ytbngfbpegdcpkaa
set_option linter.unusedVariables false
set_option linter.unusedSimpArgs false
section
variable {P : Program} {o : Oper} {a : Act} {ρ : Locs} {R : Imm} {H : Heap} {nx : Lab} {r : Res}
theorem RepL.one {xs : List AV} {v : Value} (h : RepL ρ R xs [v]) : ∃ x, xs = [x] ∧ RepV ρ R x v := by
  match xs, h with
  | [x], h => obtain ⟨u, us, e, h1, _⟩ := h.head; cases e; exact ⟨x, rfl, h1⟩
  | [], h => exact absurd h.1 (by simp)
  | _ :: _ :: _, h => exact absurd h.1 (by simp)
theorem RepL.two {xs : List AV} {v u : Value} (h : RepL ρ R xs [v, u]) : ∃ x y, xs = [x, y] ∧ RepV ρ R x v ∧ RepV ρ R y u := by
  match xs, h with
  | x :: ys, h =>
    obtain ⟨v', us, e, h1, h2⟩ := h.head
    cases e
    obtain ⟨y, rfl, h3⟩ := h2.one
    exact ⟨x, y, rfl, h1, h3⟩
  | [], h => exact absurd h.1 (by simp)
theorem RepL.three {xs : List AV} {v u t : Value} (h : RepL ρ R xs [v, u, t]) : ∃ x y z, xs = [x, y, z] ∧ RepV ρ R x v ∧ RepV ρ R y u ∧ RepV ρ R z t := by
  match xs, h with
  | x :: ys, h =>
    obtain ⟨v', us, e, h1, h2⟩ := h.head
    cases e
    obtain ⟨y, z, rfl, h3⟩ := h2.two
    exact ⟨x, y, z, rfl, h1, h3⟩
  | [], h => exact absurd h.1 (by simp)
theorem RepL.four {xs : List AV} {v u t s : Value} (h : RepL ρ R xs [v, u, t, s]) : ∃ x y z q, xs = [x, y, z, q] ∧ RepV ρ R x v ∧ RepV ρ R y u ∧ RepV ρ R z t ∧ RepV ρ R q s := by
  match xs, h with
  | x :: ys, h =>
    obtain ⟨v', us, e, h1, h2⟩ := h.head
    cases e
    obtain ⟨y, z, q, rfl, h3⟩ := h2.three
    exact ⟨x, y, z, q, rfl, h1, h3⟩
  | [], h => exact absurd h.1 (by simp)

def clsOf : TypeDesc → Cls
  | .bool => .bool
  | .pointer _ => .ptr
  | .slice _ => .slice
  | .map _ _ => .map
  | .func _ _ _ => .func
  | _ => .num
def placesOf (P : Program) (fs : Array Field) : List (Nat × Operand) → Option (List (Nat × Nat))
  | [] => some []
  | p :: ps => (fs[p.1]?).bind fun f => (placesOf P fs ps).map fun l => (f.offset, P.cellsOf f.type) :: l
def appK (P : Program) (c : Call) : Option (AK × List Operand) := if c.args.size = 2 ∧ c.argTypes.size = 2 then (c.argTypes[0]?).bind fun T => (c.argTypes[1]?).bind fun U => match P.underlying T, P.underlying U with
  | some (.slice E), some (.slice _) => (P.info? E).bind fun i => i.zero.bind fun z => if z.cells.size = i.size then some (.append i.size i.bytes, c.args.toList) else none
  | _, _ => some (.bad, [])
  else none
def eqK (P : Program) (op : BinOp) (T : TypeId) (x y : Operand) : Option (AK × List Operand) := match P.underlying T with
  | some (.struct _) => (kindsOf P 20 T).bind fun ks => if P.eqGuardType P.depth T = false then some (.eqs op ks, [x, y]) else none
  | _ => some (.bad, [])
def mapK (P : Program) (T : TypeId) (f : Bool → List CK → AV → Option (AK × List Operand)) : Option (AK × List Operand) := match P.underlying T with
  | some (.map K E) => (P.underlying K).bind fun D => (kindsOf P 20 K).bind fun ks => (P.info? E).bind fun i => i.zero.bind fun z => (ofC z).bind fun zero => f (aggD D) ks zero
  | _ => none
def delK (P : Program) (c : Call) : Option (AK × List Operand) := if c.args.size = 2 then (c.argTypes[0]?).bind fun T => mapK P T fun agg ks _ => some (.delete agg ks, c.args.toList) else none
def compK (P : Program) (o : Oper) : Option (AK × List Operand) := match o.op with
  | .move x | .assign x => some (.move, [x])
  | .pick c x y => some (.pick, [c, x, y])
  | .alloc T => (P.info? T).bind fun i => i.zero.bind fun z => (ofCs z.cells.toList).bind fun zs => some (.alloc zs, [])
  | .box _ x => some (.box, [x])
  | .build T parts => match P.underlying T with
    | some (.struct fs) => (P.info? T).bind fun i => i.zero.bind fun z => (ofCs z.cells.toList).bind fun zs => (placesOf P fs parts.toList).bind fun ps =>
      if fs.toList.all (fun f => (P.info? f.type).isSome) then some (.build zs ps, parts.toList.map (·.2)) else none
    | _ => none
  | .buildSlice T len parts => match P.underlying T with
    | some (.slice E) => (P.info? E).bind fun i => i.zero.bind fun z => (ofCs ((Array.range (len * i.size)).map (z.cells[· % z.cells.size]!)).toList).bind fun zs =>
      if z.cells.size = i.size ∧ 0 < i.size ∧ len * i.size ≤ 16777216 then some (.buildSlice i.size zs (parts.toList.map fun p => (p.1 * i.size, i.size)), parts.toList.map (·.2)) else none
    | _ => none
  | .load T p => (P.underlying T).bind fun d => (P.info? T).bind fun i => if aggD d = true ∨ i.size = 1 then some (.load i.size (aggD d), [p]) else none
  | .store T p q => (P.info? T).bind fun i => some (.store i.size, [p, q])
  | .nilCheck x => some (.nilCheck, [x])
  | .binOp op T x y _ => (P.underlying T).bind fun d => if aggD d = true then eqK P op T x y else some (.bin op (clsOf d), [x, y])
  | .unOp .not _ x => some (.un .not, [x])
  | .unOp .neg _ x => some (.un .neg, [x])
  | .convert S T x => (P.underlying S).bind fun _ => match P.underlying T with
    | some (.int k) => some (.conv k, [x])
    | _ => none
  | .makeFunc f first captured => some (.mkfn f first.size, first.toList ++ captured.toList)
  | .makeSlice T l c => match P.underlying T with
    | some (.slice E) => (P.info? E).bind fun i => i.zero.bind fun z => (ofCs z.cells.toList).bind fun zs => if z.cells.size = i.size then some (.mkslice i.size zs i.bytes, [l, c]) else none
    | _ => none
  | .slice T x lo hi mx => match P.underlying T with
    | some (.slice E) => (P.info? E).bind fun i => some (.slice i.size lo.isSome hi.isSome mx.isSome, [x] ++ lo.toList ++ hi.toList ++ mx.toList)
    | _ => none
  | .fieldAddr T x n => match P.underlying T with
    | some (.struct fs) => (fs[n]?).bind fun f => (P.info? f.type).bind fun i => if i.size = 0 then none else some (.fieldAddr f.offset, [x])
    | _ => none
  | .field T x n => match P.underlying T with
    | some (.struct fs) => (fs[n]?).bind fun f => (P.info? f.type).bind fun i => (P.underlying f.type).bind fun d => if aggD d = true ∨ i.size = 1 then some (.field f.offset i.size (aggD d), [x]) else none
    | _ => none
  | .indexAddr T x i => match P.underlying T with
    | some (.slice E) => (P.info? E).bind fun j => some (.indexAddr j.size, [x, i])
    | some (.array len E) => (P.info? E).bind fun j => some (.indexAddrA j.size len, [x, i])
    | _ => none
  | .extract x i => some (.extract i, [x])
  | .call c => match c.callee with
    | .value f => some (.call, f :: c.args.toList)
    | .builtin .len => (c.argTypes[0]?).bind fun T => match P.underlying T with
      | some (.slice _) => if c.args.size = 1 then some (.len .slice, c.args.toList) else none
      | some .string => if c.args.size = 1 then some (.len .num, c.args.toList) else none
      | some (.map _ _) => if c.args.size = 1 then some (.len .map, c.args.toList) else none
      | _ => none
    | .builtin .min => if c.args.size = 2 then some (.min, c.args.toList) else none
    | .builtin .max => if c.args.size = 2 then some (.max, c.args.toList) else none
    | .builtin .append => appK P c
    | .builtin .delete => delK P c
    | _ => some (.bad, [])
  | .lookup T m k ok => mapK P T fun agg ks zero => some (.lookup agg ks zero ok, [m, k])
  | .mapUpdate T m k x => mapK P T fun agg ks _ => some (.mapUpdate agg ks, [m, k, x])
  | .insert T m k x => mapK P T fun agg ks _ => some (.mapUpdate agg ks, [m, k, x])
  | .range T m => match P.underlying T with
    | some (.map _ _) => some (.mrange, [m])
    | _ => none
  | .next it false => some (.mnext, [it])
  | .entry it => some (.mentry, [it])
  | .makeMap _ none => some (.mkmap, [])
  | .makeMap T (some x) => match P.underlying T with
    | some (.map _ _) => some (.mkmap, [x])
    | _ => none
  | .index T x i => match P.underlying T with
    | some .string => some (.strAt, [x, i])
    | _ => some (.bad, [])
  | _ => some (.bad, [])
theorem places_len {fs : Array Field} : ∀ {l : List (Nat × Operand)} {ps : List (Nat × Nat)}, placesOf P fs l = some ps → l.length = ps.length
  | [], ps, h => by simp [placesOf] at h; subst h; rfl
  | p :: l, ps, h => by
    simp only [placesOf, Option.bind_eq_some_iff, Option.map_eq_some_iff] at h
    obtain ⟨f, _, qs, hq, rfl⟩ := h
    simp [places_len hq]
theorem places_get {fs : Array Field} : ∀ {l : List (Nat × Operand)} {ps : List (Nat × Nat)}, placesOf P fs l = some ps → ∀ (k : Nat) p q, l[k]? = some p → ps[k]? = some q → ∃ f, fs[p.1]? = some f ∧ q = (f.offset, P.cellsOf f.type)
  | [], ps, h, k, p, q, hp, hq => by simp at hp
  | p0 :: l, ps, h, k, p, q, hp, hq => by
    simp only [placesOf, Option.bind_eq_some_iff, Option.map_eq_some_iff] at h
    obtain ⟨f, hf, qs, hqs, rfl⟩ := h
    cases k with
    | zero => simp at hp hq; subst hp; subst hq; exact ⟨f, hf, rfl⟩
    | succ k => exact places_get hqs k p q (by simpa using hp) (by simpa using hq)
theorem cls_ok {T : TypeId} {d : TypeDesc} (h : P.underlying T = some d) : clsOk P T (clsOf d) = true := by
  cases d <;> simp [clsOf, clsOk, h]
theorem args_one {c : Call} (h : c.args.size = 1) : ∃ p, c.args = #[p] := by
  have : c.args.toList.length = 1 := by simpa using h
  match hc : c.args.toList, this with
  | [p], _ => exact ⟨p, by apply Array.ext'; simp [hc]⟩
theorem args_two {c : Call} (h : c.args.size = 2) : ∃ p q, c.args = #[p, q] := by
  have : c.args.toList.length = 2 := by simpa using h
  match hc : c.args.toList, this with
  | [p, q], _ => exact ⟨p, q, by apply Array.ext'; simp [hc]⟩

theorem mapK_inv {T : TypeId} {f : Bool → List CK → AV → Option (AK × List Operand)} {k : AK × List Operand} (h : mapK P T f = some k) : ∃ K E D ks i z zero, P.underlying T = some (.map K E) ∧ P.underlying K = some D ∧ kindsOf P 20 K = some ks ∧ P.info? E = some i ∧ i.zero = some z ∧ ofC z = some zero ∧ f (aggD D) ks zero = some k := by
  unfold mapK at h
  split at h
  · rename_i K E hT
    simp only [Option.bind_eq_some_iff] at h
    obtain ⟨D, hD, ks, hks, i, hi, z, hz, zero, hzz, h⟩ := h
    exact ⟨K, E, D, ks, i, z, zero, hT, hD, hks, hi, hz, hzz, h⟩
  · cases h
theorem aop_sound {call : CallF} (hcall : CallOk P call) {k : AK} {ops : List Operand} {xs : List AV} (hk : compK P o = some (k, ops)) (hx : RepL ρ R xs (ops.map a.eval)) (h : aop call k xs H nx = some r) : Sound P o a ρ R H nx r := by
  unfold compK at hk
  split at hk <;> rename_i ho
  · -- move
    cases hk
    have hq := hx; clear hx; obtain ⟨x, rfl, hx⟩ := hq.one
    simp only [aop, Option.some.injEq] at h; subst h
    exact sound_move (.inl ho) hx
  · cases hk
    have hq := hx; clear hx; obtain ⟨x, rfl, hx⟩ := hq.one
    simp only [aop, Option.some.injEq] at h; subst h
    exact sound_move (.inr ho) hx
  · cases hk
    have hq := hx; clear hx; obtain ⟨x, y, z, rfl, hx, hy, hz⟩ := hq.three
    cases x <;> simp only [aop] at h <;> try (cases h; done)
    simp only [Option.some.injEq] at h; subst h
    exact sound_pick ho hx hy hz
  · -- alloc
    simp only [Option.bind_eq_some_iff] at hk
    obtain ⟨i, hi, z, hz, zs, hzs, hk⟩ := hk
    cases hk
    have : xs = [] := List.length_eq_zero_iff.1 (by simpa using hx.1.symm)
    subst this
    simp only [aop, Option.some.injEq] at h; subst h
    exact sound_alloc ho hi hz hzs
  · cases hk
    have hq := hx; clear hx; obtain ⟨x, rfl, hx⟩ := hq.one
    simp only [aop] at h
    split at h
    · rename_i hone
      simp only [Option.some.injEq] at h; subst h
      exact sound_box ho hx hone
    · cases h
  · -- build
    split at hk
    · rename_i fs hd
      simp only [Option.bind_eq_some_iff] at hk
      obtain ⟨i, hi, z, hz, zs, hzs, ps, hps, hk⟩ := hk
      split at hk
      · rename_i hall
        cases hk
        simp only [aop, Option.map_eq_some_iff] at h
        obtain ⟨cs, hcs, rfl⟩ := h
        refine sound_build ho hd hi hz (fun f hf => ?_) hzs (by simpa using places_len hps) (fun k p q hp hq => places_get hps k p q (by simpa using hp) hq) (by simpa [Function.comp_def] using hx) hcs
        exact Option.isSome_iff_exists.1 (List.all_eq_true.1 hall f (by simpa using hf))
      · cases hk
    · cases hk
  · -- buildSlice
    split at hk
    · rename_i E hd
      simp only [Option.bind_eq_some_iff] at hk
      obtain ⟨i, hi, z, hz, zs, hzs, hk⟩ := hk
      split at hk
      · rename_i hc
        cases hk
        simp only [aop, Option.bind_eq_some_iff] at h
        obtain ⟨cs, hcs, h⟩ := h
        split at h
        · cases h
        · rename_i hne
          simp only [Option.some.injEq] at h; subst h
          exact sound_buildSlice (hone := by simp only [not_or, Bool.not_eq_false] at hne; exact hne.2.2) ho hd hi hz hc.1 hc.2.1 hc.2.2 hzs (by simp) (fun k p q hp hq => by
            simp only [List.getElem?_map, Array.getElem?_toList, hp, Option.map_some, Option.some.injEq] at hq
            exact hq.symm) (by simpa [Function.comp_def] using hx) hcs
      · cases hk
    · cases hk
  · -- load
    simp only [Option.bind_eq_some_iff] at hk
    obtain ⟨d, hd, i, hi, hk⟩ := hk
    split at hk
    · rename_i hc
      cases hk
      have hq := hx; clear hx; obtain ⟨x, rfl, hx⟩ := hq.one
      simp only [aop] at h
      exact sound_load ho hd hi (fun e => by simpa [e] using hc) hx h
    · cases hk
  · simp only [Option.bind_eq_some_iff] at hk
    obtain ⟨i, hi, hk⟩ := hk
    cases hk
    have hq := hx; clear hx; obtain ⟨x, y, rfl, hx, hy⟩ := hq.two
    simp only [aop] at h
    exact sound_store ho hi hx hy h
  · cases hk
    have hq := hx; clear hx; obtain ⟨x, rfl, hx⟩ := hq.one
    simp only [aop] at h
    split at h
    · rename_i hn
      simp only [Option.some.injEq] at h; subst h
      exact sound_nilCheck ho hx hn
    · cases h
  · -- bin
    simp only [Option.bind_eq_some_iff] at hk
    obtain ⟨d, hd, hk⟩ := hk
    split at hk
    · unfold eqK at hk
      split at hk
      · rename_i fs hT
        simp only [Option.bind_eq_some_iff] at hk
        obtain ⟨ks, hks, hk⟩ := hk
        split at hk
        · rename_i hg
          cases hk
          have hq := hx; clear hx; obtain ⟨x, y, rfl, hx, hy⟩ := hq.two
          simp only [aop, Option.bind_eq_some_iff, Option.map_eq_some_iff] at h
          obtain ⟨b, hb, z, hz, rfl⟩ := h
          exact sound_eqs ho hT hks hg hx hy hb hz
        · cases hk
      · cases hk
        simp [aop] at h
    · cases hk
      have hq := hx; clear hx; obtain ⟨x, y, rfl, hx, hy⟩ := hq.two
      simp only [aop, Option.map_eq_some_iff] at h
      obtain ⟨z, hz, rfl⟩ := h
      exact sound_bin ho (cls_ok hd) hx hy hz
  · cases hk
    have hq := hx; clear hx; obtain ⟨x, rfl, hx⟩ := hq.one
    cases x <;> simp only [aop] at h <;> try (cases h; done)
    simp only [Option.some.injEq] at h; subst h
    exact sound_not ho hx
  · cases hk
    have hq := hx; clear hx; obtain ⟨x, rfl, hx⟩ := hq.one
    cases x <;> simp only [aop] at h <;> try (cases h; done)
    simp only [Option.map_eq_some_iff] at h
    obtain ⟨z, hz, rfl⟩ := h
    exact sound_neg ho hx hz
  · -- conv
    simp only [Option.bind_eq_some_iff] at hk
    obtain ⟨d, hd, hk⟩ := hk
    split at hk
    · rename_i k' ht
      cases hk
      have hq := hx; clear hx; obtain ⟨x, rfl, hx⟩ := hq.one
      cases x <;> simp only [aop] at h <;> try (cases h; done)
      simp only [Option.map_eq_some_iff] at h
      obtain ⟨z, hz, rfl⟩ := h
      exact sound_conv ho hd ht hx hz
    · cases hk
  · cases hk
    simp only [aop] at h
    split at h
    · simp only [Option.some.injEq] at h; subst h
      exact sound_mkfn ho rfl (by simpa using hx)
    · cases h
  · -- makeSlice
    split at hk
    · rename_i E hd
      simp only [Option.bind_eq_some_iff] at hk
      obtain ⟨i, hi, z, hz, zs, hzs, hk⟩ := hk
      split at hk
      · rename_i hc
        cases hk
        have hq := hx; clear hx; obtain ⟨x, y, rfl, hx, hy⟩ := hq.two
        cases x <;> cases y <;> simp only [aop] at h <;> try (cases h; done)
        split at h
        · rename_i hc2
          simp only [Option.some.injEq] at h; subst h
          exact sound_mkslice ho hd hi hz hc hzs hx hy hc2
        · cases h
      · cases hk
    · cases hk
  · -- slice
    rename_i T p lo hi mx
    split at hk
    · rename_i E hd
      simp only [Option.bind_eq_some_iff] at hk
      obtain ⟨i, hi', hk⟩ := hk
      cases hk
      simp only [aop, Option.map_eq_some_iff] at h
      obtain ⟨z, hz, rfl⟩ := h
      cases lo <;> cases hi <;> cases mx <;> simp only [Option.toList, List.append_nil, List.cons_append, List.nil_append, List.map_cons, List.map_nil, Option.isSome] at hx hz
      · have hq := hx; clear hx; obtain ⟨x, rfl, hx⟩ := hq.one
        simp only [aSliceOp, Option.bind_eq_some_iff] at hz
        obtain ⟨n, hn, hz⟩ := hz
        exact sound_slice ho hd hi' hx rfl ⟨by simpa using hn, by omega⟩ hz
      · have hq := hx; clear hx; obtain ⟨x, y, rfl, hx, hy⟩ := hq.two
        cases y <;> simp [aSliceOp] at hz
      · have hq := hx; clear hx; obtain ⟨x, y, rfl, hx, hy⟩ := hq.two
        cases y <;> simp only [aSliceOp] at hz <;> try (cases hz; done)
        exact sound_slice ho hd hi' hx rfl ⟨_, hy.int_inv⟩ hz
      · have hq := hx; clear hx; obtain ⟨x, y, u, rfl, hx, hy, hu⟩ := hq.three
        cases y <;> cases u <;> simp only [aSliceOp] at hz <;> try (cases hz; done)
        have hz' := hz
        unfold aSlice3 at hz
        split at hz
        · rename_i hc
          obtain ⟨_, rfl, rfl⟩ := hc
          exact sound_slice3 ho hd hi' hx trivial ⟨_, hy.int_inv⟩ ⟨_, hu.int_inv⟩ hz'
        · cases hz
      · have hq := hx; clear hx; obtain ⟨x, y, rfl, hx, hy⟩ := hq.two
        cases y <;> simp only [aSliceOp] at hz <;> try (cases hz; done)
        simp only [Option.bind_eq_some_iff] at hz
        obtain ⟨n, hn, hz⟩ := hz
        exact sound_slice ho hd hi' hx ⟨_, hy.int_inv⟩ ⟨by simpa using hn, by omega⟩ hz
      · have hq := hx; clear hx; obtain ⟨x, y, u, rfl, hx, hy, hu⟩ := hq.three
        cases y <;> cases u <;> simp [aSliceOp] at hz
      · have hq := hx; clear hx; obtain ⟨x, y, u, rfl, hx, hy, hu⟩ := hq.three
        cases y <;> cases u <;> simp only [aSliceOp] at hz <;> try (cases hz; done)
        exact sound_slice ho hd hi' hx ⟨_, hy.int_inv⟩ ⟨_, hu.int_inv⟩ hz
      · have hq := hx; clear hx; obtain ⟨x, y, u, t, rfl, hx, hy, hu, ht⟩ := hq.four
        cases y <;> cases u <;> cases t <;> simp only [aSliceOp] at hz <;> try (cases hz; done)
        have hz' := hz
        unfold aSlice3 at hz
        split at hz
        · rename_i hc
          obtain ⟨rfl, rfl, rfl⟩ := hc
          exact sound_slice3 ho hd hi' hx ⟨_, hy.int_inv⟩ ⟨_, hu.int_inv⟩ ⟨_, ht.int_inv⟩ hz'
        · cases hz
    · cases hk
  · -- fieldAddr
    split at hk
    · rename_i fs hd
      simp only [Option.bind_eq_some_iff] at hk
      obtain ⟨f, hf, i, hi, hk⟩ := hk
      split at hk
      · cases hk
      · rename_i h0
        cases hk
        have hq := hx; clear hx; obtain ⟨x, rfl, hx⟩ := hq.one
        simp only [aop, Option.map_eq_some_iff] at h
        obtain ⟨z, hz, rfl⟩ := h
        exact sound_fieldAddr ho hd hf hi h0 hx hz
    · cases hk
  · split at hk
    · rename_i fs hd
      simp only [Option.bind_eq_some_iff] at hk
      obtain ⟨f, hf, i, hi, d, hft, hk⟩ := hk
      split at hk
      · rename_i hc
        cases hk
        have hq := hx; clear hx; obtain ⟨x, rfl, hx⟩ := hq.one
        cases x <;> simp only [aop] at h <;> try (cases h; done)
        split at h
        · rename_i hle
          simp only [Option.map_eq_some_iff] at h
          obtain ⟨z, hz, rfl⟩ := h
          exact sound_field ho hd hf hi hft (fun e => by simpa [e] using hc) hx hle hz
        · cases h
      · cases hk
    · cases hk
  · -- indexAddr
    split at hk
    · rename_i E hd
      simp only [Option.bind_eq_some_iff] at hk
      obtain ⟨i, hi, hk⟩ := hk
      cases hk
      have hq := hx; clear hx; obtain ⟨x, y, rfl, hx, hy⟩ := hq.two
      simp only [aop, Option.map_eq_some_iff] at h
      obtain ⟨z, hz, rfl⟩ := h
      exact sound_indexAddr ho hd hi hx hy hz
    · rename_i len E hd
      simp only [Option.bind_eq_some_iff] at hk
      obtain ⟨i, hi, hk⟩ := hk
      cases hk
      have hq := hx; clear hx; obtain ⟨x, y, rfl, hx, hy⟩ := hq.two
      simp only [aop, Option.map_eq_some_iff] at h
      obtain ⟨z, hz, rfl⟩ := h
      exact sound_indexAddrA ho hd hi hx hy hz
    · cases hk
  · cases hk
    have hq := hx; clear hx; obtain ⟨x, rfl, hx⟩ := hq.one
    cases x <;> simp only [aop] at h <;> try (cases h; done)
    simp only [Option.map_eq_some_iff] at h
    obtain ⟨z, hz, rfl⟩ := h
    exact sound_extract ho hx hz
  · -- call
    rename_i c
    split at hk
    · rename_i g hc
      cases hk
      simp only [aop] at h
      exact sound_call hcall ho hc (by simpa using hx) h
    · rename_i hc
      simp only [Option.bind_eq_some_iff] at hk
      obtain ⟨T, hT, hk⟩ := hk
      split at hk
      · rename_i E hd
        split at hk
        · rename_i h1
          obtain ⟨p, hp⟩ := args_one h1
          cases hk
          rw [hp] at hx
          have hq := hx; clear hx; obtain ⟨x, rfl, hx⟩ := hq.one
          simp only [aop, aLen, Option.map_eq_some_iff] at h
          obtain ⟨n, hn, rfl⟩ := h
          exact sound_len_slice ho hc hp hT hd hx hn
        · cases hk
      · rename_i hd
        split at hk
        · rename_i h1
          obtain ⟨p, hp⟩ := args_one h1
          cases hk
          rw [hp] at hx
          have hq := hx; clear hx; obtain ⟨x, rfl, hx⟩ := hq.one
          cases x <;> simp only [aop, aLen] at h <;> try (cases h; done)
          simp only [Option.some.injEq] at h; subst h
          exact sound_len_str ho hc hp hT hd hx
        · cases hk
      · rename_i K E hd
        split at hk
        · rename_i h1
          obtain ⟨p, hp⟩ := args_one h1
          cases hk
          rw [hp] at hx
          have hq := hx; clear hx; obtain ⟨x, rfl, hx⟩ := hq.one
          cases x <;> simp only [aop, aLen] at h <;> try (cases h; done)
          · simp only [Option.some.injEq] at h; subst h
            exact sound_len_nilm ho hc hp hT hd hx
          · split at h
            · rename_i es hl
              simp only [Option.some.injEq] at h; subst h
              exact sound_len_map ho hc hp hT hd hx hl
            · cases h
        · cases hk
      · cases hk
    · rename_i hc
      split at hk
      · rename_i h1
        obtain ⟨p, q, hp⟩ := args_two h1
        cases hk
        rw [hp] at hx
        have hq := hx; clear hx; obtain ⟨x, y, rfl, hx, hy⟩ := hq.two
        cases x <;> cases y <;> simp only [aop] at h <;> try (cases h; done)
        split at h
        · rename_i hkk; subst hkk
          simp only [Option.some.injEq] at h; subst h
          exact sound_min ho hc hp hx hy
        · cases h
      · cases hk
    · rename_i hc
      split at hk
      · rename_i h1
        obtain ⟨p, q, hp⟩ := args_two h1
        cases hk
        rw [hp] at hx
        have hq := hx; clear hx; obtain ⟨x, y, rfl, hx, hy⟩ := hq.two
        cases x <;> cases y <;> simp only [aop] at h <;> try (cases h; done)
        split at h
        · rename_i hkk; subst hkk
          simp only [Option.some.injEq] at h; subst h
          exact sound_max ho hc hp hx hy
        · cases h
      · cases hk
    · -- append
      rename_i hc
      unfold appK at hk
      split at hk
      · rename_i h2
        obtain ⟨p, q, hp⟩ := args_two h2.1
        simp only [Option.bind_eq_some_iff] at hk
        obtain ⟨T, hT, U, hU, hk⟩ := hk
        split at hk
        · rename_i E E' hd hd'
          simp only [Option.bind_eq_some_iff] at hk
          obtain ⟨i, hi, z, hz, hk⟩ := hk
          split at hk
          · rename_i hzs
            cases hk
            rw [hp] at hx
            have hq := hx; clear hx; obtain ⟨x, y, rfl, hx, hy⟩ := hq.two
            simp only [aop] at h
            exact sound_append ho hc hp h2.2 hT hU hd hd' hi hz hzs hx hy h
          · cases hk
        · cases hk
          simp [aop] at h
      · cases hk
    · -- delete
      rename_i hc
      unfold delK at hk
      split at hk
      · rename_i h2
        obtain ⟨p, p', hp⟩ := args_two h2
        simp only [Option.bind_eq_some_iff] at hk
        obtain ⟨T, hT, hk⟩ := hk
        obtain ⟨K, E, D, ks, i, z, zero, hM, hD, hks, hi, hz, hzz, hk⟩ := mapK_inv hk
        cases hk
        rw [hp] at hx
        have hq := hx; clear hx; obtain ⟨x, y, rfl, hx, hy⟩ := hq.two
        simp only [aop] at h
        exact sound_delete ho hc hp hT hM hD hks hx hy h
      · cases hk
    · cases hk
      simp [aop] at h
  · -- lookup
    obtain ⟨K, E, D, ks, i, z, zero, hM, hD, hks, hi, hz, hzz, hk⟩ := mapK_inv hk
    cases hk
    have hq := hx; clear hx; obtain ⟨x, y, rfl, hx, hy⟩ := hq.two
    simp only [aop] at h
    exact sound_lookup ho hM hD hks hi hz hzz hx hy h
  · obtain ⟨K, E, D, ks, i, z, zero, hM, hD, hks, hi, hz, hzz, hk⟩ := mapK_inv hk
    cases hk
    have hq := hx; clear hx; obtain ⟨x, y, t, rfl, hx, hy, ht⟩ := hq.three
    simp only [aop] at h
    exact sound_mapUpdate (.inl ho) hM hD hks hx hy ht h
  · obtain ⟨K, E, D, ks, i, z, zero, hM, hD, hks, hi, hz, hzz, hk⟩ := mapK_inv hk
    cases hk
    have hq := hx; clear hx; obtain ⟨x, y, t, rfl, hx, hy, ht⟩ := hq.three
    simp only [aop] at h
    exact sound_mapUpdate (.inr ho) hM hD hks hx hy ht h
  · split at hk
    · rename_i K E hM
      cases hk
      have hq := hx; clear hx; obtain ⟨x, rfl, hx⟩ := hq.one
      simp only [aop, aRange] at h
      split at h
      · simp only [Option.some.injEq] at h; subst h
        exact sound_range_nil ho hM hx
      · split at h
        · rename_i hl
          simp only [Option.some.injEq] at h; subst h
          exact sound_range ho hM hx hl
        · cases h
      · cases h
    · cases hk
  · cases hk
    have hq := hx; clear hx; obtain ⟨x, rfl, hx⟩ := hq.one
    simp only [aop] at h
    exact sound_next ho hx h
  · cases hk
    have hq := hx; clear hx; obtain ⟨x, rfl, hx⟩ := hq.one
    simp only [aop] at h
    exact sound_entry ho hx h
  · cases hk
    have : xs = [] := List.length_eq_zero_iff.1 (by simpa using hx.1.symm)
    subst this
    simp only [aop, Option.some.injEq] at h; subst h
    exact sound_mkmap ho
  · split at hk
    · rename_i K E hM
      cases hk
      have hq := hx; clear hx; obtain ⟨x, rfl, hx⟩ := hq.one
      cases x <;> simp only [aop] at h <;> try (cases h; done)
      simp only [Option.some.injEq] at h; subst h
      exact sound_mkmap1 ho hM hx
    · cases hk
  · split at hk
    · rename_i hT
      cases hk
      have hq := hx; clear hx; obtain ⟨x, y, rfl, hx, hy⟩ := hq.two
      cases x <;> cases y <;> simp only [aop] at h <;> try (cases h; done)
      split at h
      · rename_i h0
        simp only [Option.map_eq_some_iff] at h
        obtain ⟨b, hb, rfl⟩ := h
        exact sound_strAt ho hT hx hy h0 hb
      · cases h
    · cases hk
      simp [aop] at h
  · cases hk
    simp [aop] at h
end
end Go.Proofs.Ytbngfbpegdcpkaa
