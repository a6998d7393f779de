/- Texts of the proof, joined. -/
import Derived.Test.YtbngfbpegdcpkaaQ1
import Derived.LoopN
import Derived.ScopeJumps
/-! The abstract machine: a program's operations in its terms. -/
namespace Go.Proofs.Ytbngfbpegdcpkaa
set_option linter.unusedVariables false
set_option linter.unusedSimpArgs false
section
variable {P : Program} {o : Oper} {a : Act} {ρ : bF} {R : Imm} {H : aB} {nx : Lab} {r : Res}
theorem RepL.one {xs : List AV} {v : Value} (h : RepL ρ R xs [v]) : ∃ x, xs = [x] ∧ RepV ρ R x v := by
  match xs, h with
  | [x], h => obtain ⟨u, us, e, h1, _⟩ := h.head; cases e; exact ⟨x, rfl, h1⟩
  | [], h => exact absurd h.1 (by simp)
  | _ :: _ :: _, h => exact absurd h.1 (by simp)
theorem RepL.two {xs : List AV} {v u : Value} (h : RepL ρ R xs [v, u]) : ∃ x y, xs = [x, y] ∧ RepV ρ R x v ∧ RepV ρ R y u := by
  match xs, h with
  | x :: ys, h =>
    obtain ⟨v', us, e, h1, h2⟩ := h.head
    cases e
    obtain ⟨y, rfl, h3⟩ := h2.one
    exact ⟨x, y, rfl, h1, h3⟩
  | [], h => exact absurd h.1 (by simp)
theorem RepL.three {xs : List AV} {v u t : Value} (h : RepL ρ R xs [v, u, t]) : ∃ x y z, xs = [x, y, z] ∧ RepV ρ R x v ∧ RepV ρ R y u ∧ RepV ρ R z t := by
  match xs, h with
  | x :: ys, h =>
    obtain ⟨v', us, e, h1, h2⟩ := h.head
    cases e
    obtain ⟨y, z, rfl, h3⟩ := h2.two
    exact ⟨x, y, z, rfl, h1, h3⟩
  | [], h => exact absurd h.1 (by simp)
theorem RepL.four {xs : List AV} {v u t s : Value} (h : RepL ρ R xs [v, u, t, s]) : ∃ x y z q, xs = [x, y, z, q] ∧ RepV ρ R x v ∧ RepV ρ R y u ∧ RepV ρ R z t ∧ RepV ρ R q s := by
  match xs, h with
  | x :: ys, h =>
    obtain ⟨v', us, e, h1, h2⟩ := h.head
    cases e
    obtain ⟨y, z, q, rfl, h3⟩ := h2.three
    exact ⟨x, y, z, q, rfl, h1, h3⟩
  | [], h => exact absurd h.1 (by simp)

def NS : TypeDesc → Cls
  | .bool => .bool
  | .pointer _ => .ptr
  | .slice _ => .slice
  | .map _ _ => .map
  | .func _ _ _ => .func
  | _ => .num
def tT (P : Program) (fs : Array Field) : List (Nat × Operand) → Option (List (Nat × Nat))
  | [] => some []
  | p :: ps => (fs[p.1]?).bind fun f => (tT P fs ps).map fun l => (f.offset, P.cellsOf f.type) :: l
def QL (P : Program) (c : Call) : Option (AK × List Operand) := if c.args.size = 2 ∧ c.argTypes.size = 2 then (c.argTypes[0]?).bind fun T => (c.argTypes[1]?).bind fun U => match P.underlying T, P.underlying U with
  | some (.slice E), some (.slice _) => (P.info? E).bind fun i => i.zero.bind fun z => if z.cells.size = i.size then some (.append i.size i.bytes, c.args.toList) else none
  | _, _ => some (.bad, [])
  else none
def eqK (P : Program) (op : BinOp) (T : TypeId) (x y : Operand) : Option (AK × List Operand) := match P.underlying T with
  | some (.struct _) => (bH P 20 T).bind fun ks => if P.eqGuardType P.depth T = false then some (.eqs op ks, [x, y]) else none
  | _ => some (.bad, [])
def LO (P : Program) (T : TypeId) (f : Bool → List CK → AV → Option (AK × List Operand)) : Option (AK × List Operand) := match P.underlying T with
  | some (.map K E) => (P.underlying K).bind fun D => (bH P 20 K).bind fun ks => (P.info? E).bind fun i => i.zero.bind fun z => (ofC z).bind fun zero => f (gJ D) ks zero
  | _ => none
def QK (P : Program) (c : Call) : Option (AK × List Operand) := if c.args.size = 2 then (c.argTypes[0]?).bind fun T => LO P T fun agg ks _ => some (.delete agg ks, c.args.toList) else none
def xL (P : Program) (o : Oper) : Option (AK × List Operand) := match o.op with
  | .move x | .assign x => some (.move, [x])
  | .pick c x y => some (.pick, [c, x, y])
  | .alloc T => (P.info? T).bind fun i => i.zero.bind fun z => (zU z.cells.toList).bind fun zs => some (.alloc zs, [])
  | .box _ x => some (.box, [x])
  | .build T parts => match P.underlying T with
    | some (.struct fs) => (P.info? T).bind fun i => i.zero.bind fun z => (zU z.cells.toList).bind fun zs => (tT P fs parts.toList).bind fun ps =>
      if fs.toList.all (fun f => (P.info? f.type).isSome) then some (.build zs ps, parts.toList.map (·.2)) else none
    | _ => none
  | .buildSlice T len parts => match P.underlying T with
    | some (.slice E) => (P.info? E).bind fun i => i.zero.bind fun z => (zU ((Array.range (len * i.size)).map (z.cells[· % z.cells.size]!)).toList).bind fun zs =>
      if z.cells.size = i.size ∧ 0 < i.size ∧ len * i.size ≤ 16777216 then some (.buildSlice i.size zs (parts.toList.map fun p => (p.1 * i.size, i.size)), parts.toList.map (·.2)) else none
    | _ => none
  | .load T p => (P.underlying T).bind fun d => (P.info? T).bind fun i => if gJ d = true ∨ i.size = 1 then some (.load i.size (gJ d), [p]) else none
  | .store T p q => (P.info? T).bind fun i => some (.store i.size, [p, q])
  | .nilCheck x => some (.nilCheck, [x])
  | .binOp op T x y _ => (P.underlying T).bind fun d => if gJ d = true then eqK P op T x y else some (.bin op (NS d), [x, y])
  | .unOp .not _ x => some (.un .not, [x])
  | .unOp .neg _ x => some (.un .neg, [x])
  | .convert S T x => (P.underlying S).bind fun _ => match P.underlying T with
    | some (.int k) => some (.conv k, [x])
    | _ => none
  | .makeFunc f first captured => some (.mkfn f first.size, first.toList ++ captured.toList)
  | .makeSlice T l c => match P.underlying T with
    | some (.slice E) => (P.info? E).bind fun i => i.zero.bind fun z => (zU z.cells.toList).bind fun zs => if z.cells.size = i.size then some (.mkslice i.size zs i.bytes, [l, c]) else none
    | _ => none
  | .slice T x lo hi mx => match P.underlying T with
    | some (.slice E) => (P.info? E).bind fun i => some (.slice i.size lo.isSome hi.isSome mx.isSome, [x] ++ lo.toList ++ hi.toList ++ mx.toList)
    | _ => none
  | .fieldAddr T x n => match P.underlying T with
    | some (.struct fs) => (fs[n]?).bind fun f => (P.info? f.type).bind fun i => if i.size = 0 then none else some (.fieldAddr f.offset, [x])
    | _ => none
  | .field T x n => match P.underlying T with
    | some (.struct fs) => (fs[n]?).bind fun f => (P.info? f.type).bind fun i => (P.underlying f.type).bind fun d => if gJ d = true ∨ i.size = 1 then some (.field f.offset i.size (gJ d), [x]) else none
    | _ => none
  | .indexAddr T x i => match P.underlying T with
    | some (.slice E) => (P.info? E).bind fun j => some (.indexAddr j.size, [x, i])
    | some (.array len E) => (P.info? E).bind fun j => some (.indexAddrA j.size len, [x, i])
    | _ => none
  | .extract x i => some (.extract i, [x])
  | .call c => match c.callee with
    | .value f => some (.call, f :: c.args.toList)
    | .builtin .len => (c.argTypes[0]?).bind fun T => match P.underlying T with
      | some (.slice _) => if c.args.size = 1 then some (.len .slice, c.args.toList) else none
      | some .string => if c.args.size = 1 then some (.len .num, c.args.toList) else none
      | some (.map _ _) => if c.args.size = 1 then some (.len .map, c.args.toList) else none
      | _ => none
    | .builtin .min => if c.args.size = 2 then some (.min, c.args.toList) else none
    | .builtin .max => if c.args.size = 2 then some (.max, c.args.toList) else none
    | .builtin .append => QL P c
    | .builtin .delete => QK P c
    | _ => some (.bad, [])
  | .lookup T m k ok => LO P T fun agg ks zero => some (.lookup agg ks zero ok, [m, k])
  | .mapUpdate T m k x => LO P T fun agg ks _ => some (.mapUpdate agg ks, [m, k, x])
  | .insert T m k x => LO P T fun agg ks _ => some (.mapUpdate agg ks, [m, k, x])
  | .range T m => match P.underlying T with
    | some (.map _ _) => some (.mrange, [m])
    | _ => none
  | .next it false => some (.mnext, [it])
  | .entry it => some (.mentry, [it])
  | .makeMap _ none => some (.mkmap, [])
  | .makeMap T (some x) => match P.underlying T with
    | some (.map _ _) => some (.mkmap, [x])
    | _ => none
  | .index T x i => match P.underlying T with
    | some .string => some (.strAt, [x, i])
    | _ => some (.bad, [])
  | _ => some (.bad, [])
theorem HL {fs : Array Field} : ∀ {l : List (Nat × Operand)} {ps : List (Nat × Nat)}, tT P fs l = some ps → l.length = ps.length
  | [], ps, h => by simp [tT] at h; subst h; rfl
  | p :: l, ps, h => by
    simp only [tT, Option.bind_eq_some_iff, Option.map_eq_some_iff] at h
    obtain ⟨f, _, qs, hq, rfl⟩ := h
    simp [HL hq]
theorem HM {fs : Array Field} : ∀ {l : List (Nat × Operand)} {ps : List (Nat × Nat)}, tT P fs l = some ps → ∀ (k : Nat) p q, l[k]? = some p → ps[k]? = some q → ∃ f, fs[p.1]? = some f ∧ q = (f.offset, P.cellsOf f.type)
  | [], ps, h, k, p, q, hp, hq => by simp at hp
  | p0 :: l, ps, h, k, p, q, hp, hq => by
    simp only [tT, Option.bind_eq_some_iff, Option.map_eq_some_iff] at h
    obtain ⟨f, hf, qs, hqs, rfl⟩ := h
    cases k with
    | zero => simp at hp hq; subst hp; subst hq; exact ⟨f, hf, rfl⟩
    | succ k => exact HM hqs k p q (by simpa using hp) (by simpa using hq)
theorem cls_ok {T : TypeId} {d : TypeDesc} (h : P.underlying T = some d) : wB P T (NS d) = true := by
  cases d <;> simp [NS, wB, h]
theorem IR {c : Call} (h : c.args.size = 1) : ∃ p, c.args = #[p] := by
  have : c.args.toList.length = 1 := by simpa using h
  match hc : c.args.toList, this with
  | [p], _ => exact ⟨p, by apply Array.ext'; simp [hc]⟩
theorem EX {c : Call} (h : c.args.size = 2) : ∃ p q, c.args = #[p, q] := by
  have : c.args.toList.length = 2 := by simpa using h
  match hc : c.args.toList, this with
  | [p, q], _ => exact ⟨p, q, by apply Array.ext'; simp [hc]⟩

theorem r7 {T : TypeId} {f : Bool → List CK → AV → Option (AK × List Operand)} {k : AK × List Operand} (h : LO P T f = some k) : ∃ K E D ks i z zero, P.underlying T = some (.map K E) ∧ P.underlying K = some D ∧ bH P 20 K = some ks ∧ P.info? E = some i ∧ i.zero = some z ∧ ofC z = some zero ∧ f (gJ D) ks zero = some k := by
  unfold LO at h
  split at h
  · rename_i K E hT
    simp only [Option.bind_eq_some_iff] at h
    obtain ⟨D, hD, ks, hks, i, hi, z, hz, zero, hzz, h⟩ := h
    exact ⟨K, E, D, ks, i, z, zero, hT, hD, hks, hi, hz, hzz, h⟩
  · cases h
theorem aop_sound {call : b9} (hcall : iS P call) {k : AK} {ops : List Operand} {xs : List AV} (hk : xL P o = some (k, ops)) (hx : RepL ρ R xs (ops.map a.eval)) (h : aop call k xs H nx = some r) : cE P o a ρ R H nx r := by
  unfold xL at hk
  split at hk <;> rename_i ho
  · -- move
    cases hk
    have hq := hx; clear hx; obtain ⟨x, rfl, hx⟩ := hq.one
    simp only [aop, Option.some.injEq] at h; subst h
    exact HD (.inl ho) hx
  · cases hk
    have hq := hx; clear hx; obtain ⟨x, rfl, hx⟩ := hq.one
    simp only [aop, Option.some.injEq] at h; subst h
    exact HD (.inr ho) hx
  · cases hk
    have hq := hx; clear hx; obtain ⟨x, y, z, rfl, hx, hy, hz⟩ := hq.three
    cases x <;> simp only [aop] at h <;> try (cases h; done)
    simp only [Option.some.injEq] at h; subst h
    exact sound_pick ho hx hy hz
  · -- alloc
    simp only [Option.bind_eq_some_iff] at hk
    obtain ⟨i, hi, z, hz, zs, hzs, hk⟩ := hk
    cases hk
    have : xs = [] := List.length_eq_zero_iff.1 (by simpa using hx.1.symm)
    subst this
    simp only [aop, Option.some.injEq] at h; subst h
    exact sound_alloc ho hi hz hzs
  · cases hk
    have hq := hx; clear hx; obtain ⟨x, rfl, hx⟩ := hq.one
    simp only [aop] at h
    split at h
    · rename_i hone
      simp only [Option.some.injEq] at h; subst h
      exact sound_box ho hx hone
    · cases h
  · -- build
    split at hk
    · rename_i fs hd
      simp only [Option.bind_eq_some_iff] at hk
      obtain ⟨i, hi, z, hz, zs, hzs, ps, hps, hk⟩ := hk
      split at hk
      · rename_i hall
        cases hk
        simp only [aop, Option.map_eq_some_iff] at h
        obtain ⟨cs, hcs, rfl⟩ := h
        refine sound_build ho hd hi hz (fun f hf => ?_) hzs (by simpa using HL hps) (fun k p q hp hq => HM hps k p q (by simpa using hp) hq) (by simpa [Function.comp_def] using hx) hcs
        exact Option.isSome_iff_exists.1 (List.all_eq_true.1 hall f (by simpa using hf))
      · cases hk
    · cases hk
  · -- buildSlice
    split at hk
    · rename_i E hd
      simp only [Option.bind_eq_some_iff] at hk
      obtain ⟨i, hi, z, hz, zs, hzs, hk⟩ := hk
      split at hk
      · rename_i hc
        cases hk
        simp only [aop, Option.bind_eq_some_iff] at h
        obtain ⟨cs, hcs, h⟩ := h
        split at h
        · cases h
        · rename_i hne
          simp only [Option.some.injEq] at h; subst h
          exact sound_buildSlice (hone := by simp only [not_or, Bool.not_eq_false] at hne; exact hne.2.2) ho hd hi hz hc.1 hc.2.1 hc.2.2 hzs (by simp) (fun k p q hp hq => by
            simp only [List.getElem?_map, Array.getElem?_toList, hp, Option.map_some, Option.some.injEq] at hq
            exact hq.symm) (by simpa [Function.comp_def] using hx) hcs
      · cases hk
    · cases hk
  · -- load
    simp only [Option.bind_eq_some_iff] at hk
    obtain ⟨d, hd, i, hi, hk⟩ := hk
    split at hk
    · rename_i hc
      cases hk
      have hq := hx; clear hx; obtain ⟨x, rfl, hx⟩ := hq.one
      simp only [aop] at h
      exact sound_load ho hd hi (fun e => by simpa [e] using hc) hx h
    · cases hk
  · simp only [Option.bind_eq_some_iff] at hk
    obtain ⟨i, hi, hk⟩ := hk
    cases hk
    have hq := hx; clear hx; obtain ⟨x, y, rfl, hx, hy⟩ := hq.two
    simp only [aop] at h
    exact sound_store ho hi hx hy h
  · cases hk
    have hq := hx; clear hx; obtain ⟨x, rfl, hx⟩ := hq.one
    simp only [aop] at h
    split at h
    · rename_i hn
      simp only [Option.some.injEq] at h; subst h
      exact sound_nilCheck ho hx hn
    · cases h
  · -- bin
    simp only [Option.bind_eq_some_iff] at hk
    obtain ⟨d, hd, hk⟩ := hk
    split at hk
    · unfold eqK at hk
      split at hk
      · rename_i fs hT
        simp only [Option.bind_eq_some_iff] at hk
        obtain ⟨ks, hks, hk⟩ := hk
        split at hk
        · rename_i hg
          cases hk
          have hq := hx; clear hx; obtain ⟨x, y, rfl, hx, hy⟩ := hq.two
          simp only [aop, Option.bind_eq_some_iff, Option.map_eq_some_iff] at h
          obtain ⟨b, hb, z, hz, rfl⟩ := h
          exact sound_eqs ho hT hks hg hx hy hb hz
        · cases hk
      · cases hk
        simp [aop] at h
    · cases hk
      have hq := hx; clear hx; obtain ⟨x, y, rfl, hx, hy⟩ := hq.two
      simp only [aop, Option.map_eq_some_iff] at h
      obtain ⟨z, hz, rfl⟩ := h
      exact sound_bin ho (cls_ok hd) hx hy hz
  · cases hk
    have hq := hx; clear hx; obtain ⟨x, rfl, hx⟩ := hq.one
    cases x <;> simp only [aop] at h <;> try (cases h; done)
    simp only [Option.some.injEq] at h; subst h
    exact sound_not ho hx
  · cases hk
    have hq := hx; clear hx; obtain ⟨x, rfl, hx⟩ := hq.one
    cases x <;> simp only [aop] at h <;> try (cases h; done)
    simp only [Option.map_eq_some_iff] at h
    obtain ⟨z, hz, rfl⟩ := h
    exact sound_neg ho hx hz
  · -- conv
    simp only [Option.bind_eq_some_iff] at hk
    obtain ⟨d, hd, hk⟩ := hk
    split at hk
    · rename_i k' ht
      cases hk
      have hq := hx; clear hx; obtain ⟨x, rfl, hx⟩ := hq.one
      cases x <;> simp only [aop] at h <;> try (cases h; done)
      simp only [Option.map_eq_some_iff] at h
      obtain ⟨z, hz, rfl⟩ := h
      exact sound_conv ho hd ht hx hz
    · cases hk
  · cases hk
    simp only [aop] at h
    split at h
    · simp only [Option.some.injEq] at h; subst h
      exact sound_mkfn ho rfl (by simpa using hx)
    · cases h
  · -- makeSlice
    split at hk
    · rename_i E hd
      simp only [Option.bind_eq_some_iff] at hk
      obtain ⟨i, hi, z, hz, zs, hzs, hk⟩ := hk
      split at hk
      · rename_i hc
        cases hk
        have hq := hx; clear hx; obtain ⟨x, y, rfl, hx, hy⟩ := hq.two
        cases x <;> cases y <;> simp only [aop] at h <;> try (cases h; done)
        split at h
        · rename_i hc2
          simp only [Option.some.injEq] at h; subst h
          exact sound_mkslice ho hd hi hz hc hzs hx hy hc2
        · cases h
      · cases hk
    · cases hk
  · -- slice
    rename_i T p lo hi mx
    split at hk
    · rename_i E hd
      simp only [Option.bind_eq_some_iff] at hk
      obtain ⟨i, hi', hk⟩ := hk
      cases hk
      simp only [aop, Option.map_eq_some_iff] at h
      obtain ⟨z, hz, rfl⟩ := h
      cases lo <;> cases hi <;> cases mx <;> simp only [Option.toList, List.append_nil, List.cons_append, List.nil_append, List.map_cons, List.map_nil, Option.isSome] at hx hz
      · have hq := hx; clear hx; obtain ⟨x, rfl, hx⟩ := hq.one
        simp only [iU, Option.bind_eq_some_iff] at hz
        obtain ⟨n, hn, hz⟩ := hz
        exact vI ho hd hi' hx rfl ⟨by simpa using hn, by omega⟩ hz
      · have hq := hx; clear hx; obtain ⟨x, y, rfl, hx, hy⟩ := hq.two
        cases y <;> simp [iU] at hz
      · have hq := hx; clear hx; obtain ⟨x, y, rfl, hx, hy⟩ := hq.two
        cases y <;> simp only [iU] at hz <;> try (cases hz; done)
        exact vI ho hd hi' hx rfl ⟨_, hy.int_inv⟩ hz
      · have hq := hx; clear hx; obtain ⟨x, y, u, rfl, hx, hy, hu⟩ := hq.three
        cases y <;> cases u <;> simp only [iU] at hz <;> try (cases hz; done)
        have hz' := hz
        unfold yK at hz
        split at hz
        · rename_i hc
          obtain ⟨_, rfl, rfl⟩ := hc
          exact D2 ho hd hi' hx trivial ⟨_, hy.int_inv⟩ ⟨_, hu.int_inv⟩ hz'
        · cases hz
      · have hq := hx; clear hx; obtain ⟨x, y, rfl, hx, hy⟩ := hq.two
        cases y <;> simp only [iU] at hz <;> try (cases hz; done)
        simp only [Option.bind_eq_some_iff] at hz
        obtain ⟨n, hn, hz⟩ := hz
        exact vI ho hd hi' hx ⟨_, hy.int_inv⟩ ⟨by simpa using hn, by omega⟩ hz
      · have hq := hx; clear hx; obtain ⟨x, y, u, rfl, hx, hy, hu⟩ := hq.three
        cases y <;> cases u <;> simp [iU] at hz
      · have hq := hx; clear hx; obtain ⟨x, y, u, rfl, hx, hy, hu⟩ := hq.three
        cases y <;> cases u <;> simp only [iU] at hz <;> try (cases hz; done)
        exact vI ho hd hi' hx ⟨_, hy.int_inv⟩ ⟨_, hu.int_inv⟩ hz
      · have hq := hx; clear hx; obtain ⟨x, y, u, t, rfl, hx, hy, hu, ht⟩ := hq.four
        cases y <;> cases u <;> cases t <;> simp only [iU] at hz <;> try (cases hz; done)
        have hz' := hz
        unfold yK at hz
        split at hz
        · rename_i hc
          obtain ⟨rfl, rfl, rfl⟩ := hc
          exact D2 ho hd hi' hx ⟨_, hy.int_inv⟩ ⟨_, hu.int_inv⟩ ⟨_, ht.int_inv⟩ hz'
        · cases hz
    · cases hk
  · -- fieldAddr
    split at hk
    · rename_i fs hd
      simp only [Option.bind_eq_some_iff] at hk
      obtain ⟨f, hf, i, hi, hk⟩ := hk
      split at hk
      · cases hk
      · rename_i h0
        cases hk
        have hq := hx; clear hx; obtain ⟨x, rfl, hx⟩ := hq.one
        simp only [aop, Option.map_eq_some_iff] at h
        obtain ⟨z, hz, rfl⟩ := h
        exact sound_fieldAddr ho hd hf hi h0 hx hz
    · cases hk
  · split at hk
    · rename_i fs hd
      simp only [Option.bind_eq_some_iff] at hk
      obtain ⟨f, hf, i, hi, d, hft, hk⟩ := hk
      split at hk
      · rename_i hc
        cases hk
        have hq := hx; clear hx; obtain ⟨x, rfl, hx⟩ := hq.one
        cases x <;> simp only [aop] at h <;> try (cases h; done)
        split at h
        · rename_i hle
          simp only [Option.map_eq_some_iff] at h
          obtain ⟨z, hz, rfl⟩ := h
          exact sound_field ho hd hf hi hft (fun e => by simpa [e] using hc) hx hle hz
        · cases h
      · cases hk
    · cases hk
  · -- indexAddr
    split at hk
    · rename_i E hd
      simp only [Option.bind_eq_some_iff] at hk
      obtain ⟨i, hi, hk⟩ := hk
      cases hk
      have hq := hx; clear hx; obtain ⟨x, y, rfl, hx, hy⟩ := hq.two
      simp only [aop, Option.map_eq_some_iff] at h
      obtain ⟨z, hz, rfl⟩ := h
      exact sound_indexAddr ho hd hi hx hy hz
    · rename_i len E hd
      simp only [Option.bind_eq_some_iff] at hk
      obtain ⟨i, hi, hk⟩ := hk
      cases hk
      have hq := hx; clear hx; obtain ⟨x, y, rfl, hx, hy⟩ := hq.two
      simp only [aop, Option.map_eq_some_iff] at h
      obtain ⟨z, hz, rfl⟩ := h
      exact sound_indexAddrA ho hd hi hx hy hz
    · cases hk
  · cases hk
    have hq := hx; clear hx; obtain ⟨x, rfl, hx⟩ := hq.one
    cases x <;> simp only [aop] at h <;> try (cases h; done)
    simp only [Option.map_eq_some_iff] at h
    obtain ⟨z, hz, rfl⟩ := h
    exact sound_extract ho hx hz
  · -- call
    rename_i c
    split at hk
    · rename_i g hc
      cases hk
      simp only [aop] at h
      exact sound_call hcall ho hc (by simpa using hx) h
    · rename_i hc
      simp only [Option.bind_eq_some_iff] at hk
      obtain ⟨T, hT, hk⟩ := hk
      split at hk
      · rename_i E hd
        split at hk
        · rename_i h1
          obtain ⟨p, hp⟩ := IR h1
          cases hk
          rw [hp] at hx
          have hq := hx; clear hx; obtain ⟨x, rfl, hx⟩ := hq.one
          simp only [aop, N2, Option.map_eq_some_iff] at h
          obtain ⟨n, hn, rfl⟩ := h
          exact sound_len_slice ho hc hp hT hd hx hn
        · cases hk
      · rename_i hd
        split at hk
        · rename_i h1
          obtain ⟨p, hp⟩ := IR h1
          cases hk
          rw [hp] at hx
          have hq := hx; clear hx; obtain ⟨x, rfl, hx⟩ := hq.one
          cases x <;> simp only [aop, N2] at h <;> try (cases h; done)
          simp only [Option.some.injEq] at h; subst h
          exact sound_len_str ho hc hp hT hd hx
        · cases hk
      · rename_i K E hd
        split at hk
        · rename_i h1
          obtain ⟨p, hp⟩ := IR h1
          cases hk
          rw [hp] at hx
          have hq := hx; clear hx; obtain ⟨x, rfl, hx⟩ := hq.one
          cases x <;> simp only [aop, N2] at h <;> try (cases h; done)
          · simp only [Option.some.injEq] at h; subst h
            exact sound_len_nilm ho hc hp hT hd hx
          · split at h
            · rename_i es hl
              simp only [Option.some.injEq] at h; subst h
              exact sound_len_map ho hc hp hT hd hx hl
            · cases h
        · cases hk
      · cases hk
    · rename_i hc
      split at hk
      · rename_i h1
        obtain ⟨p, q, hp⟩ := EX h1
        cases hk
        rw [hp] at hx
        have hq := hx; clear hx; obtain ⟨x, y, rfl, hx, hy⟩ := hq.two
        cases x <;> cases y <;> simp only [aop] at h <;> try (cases h; done)
        split at h
        · rename_i hkk; subst hkk
          simp only [Option.some.injEq] at h; subst h
          exact sound_min ho hc hp hx hy
        · cases h
      · cases hk
    · rename_i hc
      split at hk
      · rename_i h1
        obtain ⟨p, q, hp⟩ := EX h1
        cases hk
        rw [hp] at hx
        have hq := hx; clear hx; obtain ⟨x, y, rfl, hx, hy⟩ := hq.two
        cases x <;> cases y <;> simp only [aop] at h <;> try (cases h; done)
        split at h
        · rename_i hkk; subst hkk
          simp only [Option.some.injEq] at h; subst h
          exact sound_max ho hc hp hx hy
        · cases h
      · cases hk
    · -- append
      rename_i hc
      unfold QL at hk
      split at hk
      · rename_i h2
        obtain ⟨p, q, hp⟩ := EX h2.1
        simp only [Option.bind_eq_some_iff] at hk
        obtain ⟨T, hT, U, hU, hk⟩ := hk
        split at hk
        · rename_i E E' hd hd'
          simp only [Option.bind_eq_some_iff] at hk
          obtain ⟨i, hi, z, hz, hk⟩ := hk
          split at hk
          · rename_i hzs
            cases hk
            rw [hp] at hx
            have hq := hx; clear hx; obtain ⟨x, y, rfl, hx, hy⟩ := hq.two
            simp only [aop] at h
            exact sound_append ho hc hp h2.2 hT hU hd hd' hi hz hzs hx hy h
          · cases hk
        · cases hk
          simp [aop] at h
      · cases hk
    · -- delete
      rename_i hc
      unfold QK at hk
      split at hk
      · rename_i h2
        obtain ⟨p, p', hp⟩ := EX h2
        simp only [Option.bind_eq_some_iff] at hk
        obtain ⟨T, hT, hk⟩ := hk
        obtain ⟨K, E, D, ks, i, z, zero, hM, hD, hks, hi, hz, hzz, hk⟩ := r7 hk
        cases hk
        rw [hp] at hx
        have hq := hx; clear hx; obtain ⟨x, y, rfl, hx, hy⟩ := hq.two
        simp only [aop] at h
        exact sound_delete ho hc hp hT hM hD hks hx hy h
      · cases hk
    · cases hk
      simp [aop] at h
  · -- lookup
    obtain ⟨K, E, D, ks, i, z, zero, hM, hD, hks, hi, hz, hzz, hk⟩ := r7 hk
    cases hk
    have hq := hx; clear hx; obtain ⟨x, y, rfl, hx, hy⟩ := hq.two
    simp only [aop] at h
    exact sound_lookup ho hM hD hks hi hz hzz hx hy h
  · obtain ⟨K, E, D, ks, i, z, zero, hM, hD, hks, hi, hz, hzz, hk⟩ := r7 hk
    cases hk
    have hq := hx; clear hx; obtain ⟨x, y, t, rfl, hx, hy, ht⟩ := hq.three
    simp only [aop] at h
    exact yO (.inl ho) hM hD hks hx hy ht h
  · obtain ⟨K, E, D, ks, i, z, zero, hM, hD, hks, hi, hz, hzz, hk⟩ := r7 hk
    cases hk
    have hq := hx; clear hx; obtain ⟨x, y, t, rfl, hx, hy, ht⟩ := hq.three
    simp only [aop] at h
    exact yO (.inr ho) hM hD hks hx hy ht h
  · split at hk
    · rename_i K E hM
      cases hk
      have hq := hx; clear hx; obtain ⟨x, rfl, hx⟩ := hq.one
      simp only [aop, LV] at h
      split at h
      · simp only [Option.some.injEq] at h; subst h
        exact sound_range_nil ho hM hx
      · split at h
        · rename_i hl
          simp only [Option.some.injEq] at h; subst h
          exact sound_range ho hM hx hl
        · cases h
      · cases h
    · cases hk
  · cases hk
    have hq := hx; clear hx; obtain ⟨x, rfl, hx⟩ := hq.one
    simp only [aop] at h
    exact sound_next ho hx h
  · cases hk
    have hq := hx; clear hx; obtain ⟨x, rfl, hx⟩ := hq.one
    simp only [aop] at h
    exact sound_entry ho hx h
  · cases hk
    have : xs = [] := List.length_eq_zero_iff.1 (by simpa using hx.1.symm)
    subst this
    simp only [aop, Option.some.injEq] at h; subst h
    exact sound_mkmap ho
  · split at hk
    · rename_i K E hM
      cases hk
      have hq := hx; clear hx; obtain ⟨x, rfl, hx⟩ := hq.one
      cases x <;> simp only [aop] at h <;> try (cases h; done)
      simp only [Option.some.injEq] at h; subst h
      exact sound_mkmap1 ho hM hx
    · cases hk
  · split at hk
    · rename_i hT
      cases hk
      have hq := hx; clear hx; obtain ⟨x, y, rfl, hx, hy⟩ := hq.two
      cases x <;> cases y <;> simp only [aop] at h <;> try (cases h; done)
      split at h
      · rename_i h0
        simp only [Option.map_eq_some_iff] at h
        obtain ⟨b, hb, rfl⟩ := h
        exact sound_strAt ho hT hx hy h0 hb
      · cases h
    · cases hk
      simp [aop] at h
  · cases hk
    simp [aop] at h
end
end Go.Proofs.Ytbngfbpegdcpkaa
/-! The abstract machine: regions, and what a program's text is in its terms. -/
namespace Go.Proofs.Ytbngfbpegdcpkaa
set_option linter.unusedVariables false
set_option linter.unusedSimpArgs false

inductive AArg where
  | t (n : Nat)
  | c (v : AV)
structure AIns where
  dst : Option Nat
  guard : Option (Nat × Bool)
  k : AK
  xs : List AArg
abbrev RL := List (Nat × AV)
def bE : RL → Nat → Option AV
  | [], _ => none
  | (k, x) :: r, t => if t = k then some x else bE r t
def xX : RL → Nat → AV → RL
  | [], t, x => [(t, x)]
  | (k, y) :: r, t, x => if t = k then (k, x) :: r else (k, y) :: xX r t x
theorem rM (r : RL) (t : Nat) (x : AV) : bE (xX r t x) = fun k => if k = t then some x else bE r k := by
  funext k
  induction r with
  | nil => simp [xX, bE]
  | cons p r ih =>
    obtain ⟨j, y⟩ := p
    simp only [xX]
    by_cases h : t = j
    · subst h; simp only [if_true, bE]; split <;> rfl
    · simp only [h, if_false, bE, ih]
      by_cases h2 : k = j
      · subst h2; simp [Ne.symm h]
      · simp [h2]
def RU : Chg → Lab → Option AO → Chg
  | [], l, o => [(l, o)]
  | (k, y) :: r, l, o => if l = k then (k, o) :: r else (k, y) :: RU r l o
theorem upd_oset (u : Chg) (l : Lab) (o : Option AO) (H : aB) : upd (RU u l o) H = fun k => if k = l then o else upd u H k := by
  funext k
  induction u with
  | nil => simp [RU, upd]
  | cons p r ih =>
    obtain ⟨j, y⟩ := p
    simp only [RU]
    by_cases h : l = j
    · subst h; simp only [if_true, upd]; split <;> rfl
    · simp only [h, if_false, upd, ih]
      by_cases h2 : k = j
      · subst h2; simp [Ne.symm h]
      · simp [h2]
/-- changes on top of changes -/
def yB : Chg → Chg → Chg
  | [], ov => ov
  | (l, o) :: u, ov => RU (yB u ov) l o
theorem jU (u ov : Chg) (H : aB) : upd (yB u ov) H = upd u (upd ov H) := by
  induction u with
  | nil => rfl
  | cons p u ih =>
    obtain ⟨l, o⟩ := p
    simp only [yB, upd_oset, upd, ih]
def zC (r : RL) : AArg → Option AV
  | .t n => bE r n
  | .c v => some v
def nO (r : RL) : List AArg → Option (List AV)
  | [] => some []
  | x :: xs => (zC r x).bind fun v => (nO r xs).bind fun vs => some (v :: vs)

/-- the machine's state: registers, what has changed in the heap, how many operations have been -/
structure ASt where
  regs : RL
  ov : Chg
  c : Nat
section
variable (call : b9) (H0 : aB) (p : Lab)
def tO (i : AIns) (s : ASt) : Option Rc := (nO s.regs i.xs).bind fun xs => (aop call i.k xs (upd s.ov H0) (s.c :: p)).bind fun r => some ⟨false, r.x, r.u, s.c :: p, r.foot⟩
def cK (i : AIns) (s : ASt) : Option Rc := match i.guard with
  | none => tO call H0 p i s
  | some (g, want) => match bE s.regs g with
    | some (.bool b) => if b = want then tO call H0 p i s else some ⟨true, .tuple [], [], s.c :: p, some []⟩
    | some (.tuple []) => some ⟨true, .tuple [], [], s.c :: p, some []⟩
    | _ => none
def cU (r : RL) (d : Option Nat) (x : AV) : RL := match d with
  | none => r
  | some t => xX r t x
def cZ (i : AIns) (s : ASt) (rc : Rc) : ASt := ⟨cU s.regs i.dst rc.x, yB rc.u s.ov, s.c + 1⟩
def tN : List AIns → ASt → Option ASt
  | [], s => some s
  | i :: is, s => (cK call H0 p i s).bind fun rc => tN is (cZ i s rc)
/-- what the check of a drawn region looks at -/
structure Tr where
  labs : List Lab
  q : Lab
  foot : Option (List Lab)
def I3 (rc : Rc) : Tr := ⟨rc.u.map (·.1), rc.q, rc.foot⟩
def zM : List AIns → ASt → Option (ASt × List Tr)
  | [], s => some (s, [])
  | i :: is, s => (cK call H0 p i s).bind fun rc => (zM is (cZ i s rc)).bind fun r => some (r.1, I3 rc :: r.2)
end
def GM (q : Lab) (l : Lab) : Bool := q.isSuffixOf l
def mI (masks : List Nat) (i j : Nat) : Bool := (masks.getD j 0).testBit i || (masks.getD i 0).testBit j
def a6 (i j : Nat) (a b : Tr) : Bool := match b.foot with
  | some ls => a.labs.any (fun l => ls.contains l)
  | none => if i < j then !a.labs.isEmpty else a.labs.any (fun l => !GM a.q l)
def vC (masks : List Nat) (i : Nat) (a : Tr) : List Tr → Nat → Bool
  | [], _ => false
  | b :: trs, j => (i != j && !mI masks i j && a6 i j a b) || vC masks i a trs (j + 1)
def rB (masks : List Nat) (all : List Tr) : List Tr → Nat → Bool
  | [], _ => false
  | a :: trs, i => (!a.labs.isEmpty && vC masks i a all 0) || rB masks all trs (i + 1)
def restrict (r : RL) (keep : List Nat) : RL := keep.filterMap fun t => (bE r t).map fun x => (t, x)
inductive ACode where
  | skip
  | region (ops : List AIns) (draw : Option (List Nat)) (keep : List Nat)
  | seq (a b : ACode)
  | cond (c : AArg) (t e : ACode)
  | block (id : Nat) (b : ACode)
  | loop (keep : List Nat) (b : ACode)
  | exit (id : Nat)
  | ret
  | label (l : Nat)
  | goto (l : Nat)
  | scope (l : Nat) (b r : ACode)
  | bad
def oO (call : b9) (H0 : aB) (p : Lab) (ops : List AIns) (draw : Option (List Nat)) (keep : List Nat) (s : ASt) : Option ASt := match draw with
  | none => (tN call H0 p ops s).bind fun s' => some { s' with regs := restrict s'.regs keep }
  | some masks => (zM call H0 p ops s).bind fun r => if rB masks r.2 r.2 0 then none else some { r.1 with regs := restrict r.1.regs keep }

/-! The program's text. -/
def QE : Operand → Option AArg
  | .tmp t => some (.t t)
  | .const v => (ofC v).map .c
  | .func f => some (.c (.fn (.func f) [] []))
  | .global _ => none
def FK : List Operand → Option (List AArg)
  | [] => some []
  | x :: xs => (QE x).bind fun y => (FK xs).bind fun ys => some (y :: ys)
def yF (ops : Array Oper) (o : Oper) : Option (Option (Nat × Bool)) := match o.guard with
  | none => some none
  | some (g, want) => ((ops[g]?).bind (·.dst)).bind fun t => some (some (t, want))
def ZE (n : Nat) : Option Nat → Bool
  | none => true
  | some d => decide (d < n)
def rA (P : Program) (n : Nat) (ops : Array Oper) (o : Oper) : Option AIns := (xL P o).bind fun k => (FK k.2).bind fun xs => (yF ops o).bind fun g =>
  if ZE n o.dst = true then some ⟨o.dst, g, k.1, xs⟩ else none
def s9 (P : Program) (n : Nat) (ops : Array Oper) : List Oper → Option (List AIns)
  | [] => some []
  | o :: os => (rA P n ops o).bind fun i => (s9 P n ops os).bind fun is => some (i :: is)
def LN (ms : List Nat) (o : Oper) : Nat := o.after.toList.foldl (fun m e => if Region.binds .any e then m ||| 2 ^ e.on ||| ms.getD e.on 0 else m) 0
def vN : List Oper → List Nat → List Nat
  | [], ms => ms
  | o :: os, ms => vN os (ms ++ [LN ms o])
def FJ : List Oper → Nat → Bool
  | [], _ => true
  | o :: os, j => o.after.all (fun e => !Region.binds .any e || decide (e.on < j)) && FJ os (j + 1)
def EY (ops : Array Oper) (masks : List Nat) (i : Nat) (a : Oper) : List Oper → Nat → Bool
  | [], _ => true
  | b :: os, j => (i == j || mI masks i j || a.apart ops b) && EY ops masks i a os (j + 1)
def BP (ops : Array Oper) (masks : List Nat) : List Oper → Nat → Bool
  | [], _ => true
  | a :: os, i => EY ops masks i a ops.toList 0 && BP ops masks os (i + 1)
end Go.Proofs.Ytbngfbpegdcpkaa
/-! The abstract machine: regions are sound. -/
namespace Go.Proofs.Ytbngfbpegdcpkaa
set_option linter.unusedVariables false
set_option linter.unusedSimpArgs false
section
variable {P : Program} {o : Oper} {a : Act} {ρ : bF} {R : Imm} {n : Nat} {ops : Array Oper}

theorem FL {x : Operand} {y : AArg} {r : RL} {v : AV} (h : QE x = some y) (hv : zC r y = some v) (hx : ∀ t, x = .tmp t → ∀ z, bE r t = some z → RepV ρ R z (a.tmps.getD t undef)) : RepV ρ R v (a.eval x) := by
  cases x <;> simp only [QE] at h
  · cases h; exact hx _ rfl v hv
  · simp only [Option.map_eq_some_iff] at h
    obtain ⟨z, hz, rfl⟩ := h
    simp only [zC, Option.some.injEq] at hv
    subst hv
    exact O0 hz
  · cases h
  · cases h
    simp only [zC, Option.some.injEq] at hv
    subst hv
    exact (RepL.fn (f := .func _) .nil .nil)
theorem yJ : ∀ {xs : List Operand} {ys : List AArg} {r : RL} {vs : List AV}, FK xs = some ys → nO r ys = some vs → (∀ x ∈ xs, ∀ t, x = .tmp t → ∀ z, bE r t = some z → RepV ρ R z (a.tmps.getD t undef)) → RepL ρ R vs (xs.map a.eval)
  | [], ys, r, vs, h, hv, _ => by
    simp only [FK, Option.some.injEq] at h; subst h
    simp only [nO, Option.some.injEq] at hv; subst hv
    exact .nil
  | x :: xs, ys, r, vs, h, hv, hx => by
    simp only [FK, Option.bind_eq_some_iff, Option.some.injEq] at h
    obtain ⟨y, hy, ys', hys, rfl⟩ := h
    simp only [nO, Option.bind_eq_some_iff, Option.some.injEq] at hv
    obtain ⟨v, hv, vs', hvs, rfl⟩ := hv
    exact .cons (FL hy hv (hx x (by simp))) (yJ hys hvs (fun z hz => hx z (by simp [hz])))
theorem compK_sub {k : AK} {xs : List Operand} (h : xL P o = some (k, xs)) : ∀ x ∈ xs, x ∈ o.op.operands := by
  have fin : ∀ {k' : AK} {ys : List Operand}, (∀ x ∈ ys, x ∈ o.op.operands) → some (k', ys) = some (k, xs) → ∀ x ∈ xs, x ∈ o.op.operands := by
    intro k' ys h1 h2; cases h2; exact h1
  unfold xL at h
  split at h
  case h_32 => exact fin (by simp) h
  all_goals (rename_i ho; rw [ho] at fin ⊢)
  · exact fin (by simp [Op.operands]) h
  · exact fin (by simp [Op.operands]) h
  · exact fin (by simp [Op.operands]) h
  · simp only [Option.bind_eq_some_iff] at h
    obtain ⟨_, _, _, _, _, _, h⟩ := h
    exact fin (by simp) h
  · exact fin (by simp [Op.operands]) h
  · split at h
    · simp only [Option.bind_eq_some_iff] at h
      obtain ⟨_, _, _, _, _, _, _, _, h⟩ := h
      split at h
      · exact fin (by simp [Op.operands]) h
      · cases h
    · cases h
  · split at h
    · simp only [Option.bind_eq_some_iff] at h
      obtain ⟨_, _, _, _, _, _, h⟩ := h
      split at h
      · exact fin (by simp [Op.operands]) h
      · cases h
    · cases h
  · simp only [Option.bind_eq_some_iff] at h
    obtain ⟨_, _, _, _, h⟩ := h
    split at h
    · exact fin (by simp [Op.operands]) h
    · cases h
  · simp only [Option.bind_eq_some_iff] at h
    obtain ⟨_, _, h⟩ := h
    exact fin (by simp [Op.operands]) h
  · exact fin (by simp [Op.operands]) h
  · simp only [Option.bind_eq_some_iff] at h
    obtain ⟨_, _, h⟩ := h
    split at h
    · unfold eqK at h
      split at h
      · simp only [Option.bind_eq_some_iff] at h
        obtain ⟨_, _, h⟩ := h
        split at h
        · exact fin (by simp [Op.operands]) h
        · cases h
      · exact fin (by simp) h
    · exact fin (by simp [Op.operands]) h
  · exact fin (by simp [Op.operands]) h
  · exact fin (by simp [Op.operands]) h
  · simp only [Option.bind_eq_some_iff] at h
    obtain ⟨_, _, h⟩ := h
    split at h
    · exact fin (by simp [Op.operands]) h
    · cases h
  · exact fin (by simp [Op.operands]) h
  · split at h
    · simp only [Option.bind_eq_some_iff] at h
      obtain ⟨_, _, _, _, _, _, h⟩ := h
      split at h
      · exact fin (by simp [Op.operands]) h
      · cases h
    · cases h
  · split at h
    · simp only [Option.bind_eq_some_iff] at h
      obtain ⟨_, _, h⟩ := h
      exact fin (by simp [Op.operands]) h
    · cases h
  · split at h
    · simp only [Option.bind_eq_some_iff] at h
      obtain ⟨_, _, _, _, h⟩ := h
      split at h
      · cases h
      · exact fin (by simp [Op.operands]) h
    · cases h
  · split at h
    · simp only [Option.bind_eq_some_iff] at h
      obtain ⟨_, _, _, _, _, _, h⟩ := h
      split at h
      · exact fin (by simp [Op.operands]) h
      · cases h
    · cases h
  · split at h
    · simp only [Option.bind_eq_some_iff] at h
      obtain ⟨_, _, h⟩ := h
      exact fin (by simp [Op.operands]) h
    · simp only [Option.bind_eq_some_iff] at h
      obtain ⟨_, _, h⟩ := h
      exact fin (by simp [Op.operands]) h
    · cases h
  · exact fin (by simp [Op.operands]) h
  · split at h
    · rename_i hc
      refine fin (fun x hx => ?_) h
      simp [Op.operands, Call.operands, hc] at hx ⊢
      exact hx
    · rename_i hc
      simp only [Option.bind_eq_some_iff] at h
      obtain ⟨_, _, h⟩ := h
      repeat' (first | (cases h; done) | (split at h))
      all_goals first
        | (cases h; done)
        | (refine fin (fun x hx => ?_) h; simp [Op.operands, Call.operands, hc] at hx ⊢; exact hx)
    · rename_i hc
      split at h
      · refine fin (fun x hx => ?_) h
        simp [Op.operands, Call.operands, hc] at hx ⊢; exact hx
      · cases h
    · rename_i hc
      split at h
      · refine fin (fun x hx => ?_) h
        simp [Op.operands, Call.operands, hc] at hx ⊢; exact hx
      · cases h
    · rename_i hc
      unfold QL at h
      split at h
      · simp only [Option.bind_eq_some_iff] at h
        obtain ⟨_, _, _, _, h⟩ := h
        split at h
        · simp only [Option.bind_eq_some_iff] at h
          obtain ⟨_, _, _, _, h⟩ := h
          split at h
          · refine fin (fun x hx => ?_) h
            simp [Op.operands, Call.operands, hc] at hx ⊢; exact hx
          · cases h
        · exact fin (by simp) h
      · cases h
    · rename_i hc
      unfold QK at h
      split at h
      · simp only [Option.bind_eq_some_iff] at h
        obtain ⟨T, hT, h⟩ := h
        obtain ⟨K, E, D, ks, i, z, zero, _, _, _, _, _, _, h⟩ := r7 h
        refine fin (fun x hx => ?_) h
        simp [Op.operands, Call.operands, hc] at hx ⊢; exact hx
      · cases h
    · exact fin (by simp) h
  · obtain ⟨K, E, D, ks, i, z, zero, _, _, _, _, _, _, h⟩ := r7 h
    exact fin (by simp [Op.operands]) h
  · obtain ⟨K, E, D, ks, i, z, zero, _, _, _, _, _, _, h⟩ := r7 h
    exact fin (by simp [Op.operands]) h
  · obtain ⟨K, E, D, ks, i, z, zero, _, _, _, _, _, _, h⟩ := r7 h
    exact fin (by simp [Op.operands]) h
  · split at h
    · exact fin (by simp [Op.operands]) h
    · cases h
  · exact fin (by simp [Op.operands]) h
  · exact fin (by simp [Op.operands]) h
  · exact fin (by simp) h
  · split at h
    · exact fin (by simp [Op.operands]) h
    · cases h
  · split at h
    · exact fin (by simp [Op.operands]) h
    · exact fin (by simp) h

def qF (H : aB) (q : Lab) (r : Res) : Prop := ∀ l, r.u.has l → restr H r.foot l ≠ none ∨ Under q l
theorem nK {H : aB} {q : Lab} {x : AV} : qF H q (.pure x) := fun l hl => absurd hl (aS l)
theorem LR {H : aB} {q : Lab} {e : Nat} {rs : List (List AV)} {x : AV} : qF H q (GJ e rs x q) := fun l hl => .inr (by rw [cR hl]; exact .self _)
theorem r8 {H : aB} {q : Lab} {x : AV} {ls : List Lab} : qF H q ⟨x, [], some ls⟩ := fun l hl => absurd hl (aS l)
theorem LQ {H : aB} {q l : Lab} {x : AV} {ob ob' : AO} (h : H l = some ob) : qF H q ⟨x, [(l, some ob')], some [l]⟩ := fun k hk => .inl (by rw [cR hk]; simp [restr, h])
theorem aLoad_lab {m : Nat} {agg : Bool} {x : AV} {H : aB} {q : Lab} {r : Res} (h : oW m agg x H q = some r) : qF H q r := by
  unfold oW at h
  split at h
  · split at h
    · split at h
      · simp only [Option.bind_eq_some_iff, Option.some.injEq] at h
        obtain ⟨_, _, _, _, rfl⟩ := h
        exact r8
      · cases h
    · cases h
  · simp only [Option.bind_eq_some_iff, Option.some.injEq] at h
    obtain ⟨_, _, _, _, rfl⟩ := h
    exact nK
  · cases h
theorem aStore_lab {m : Nat} {x y : AV} {H : aB} {q : Lab} {r : Res} (h : wO m x y H q = some r) : qF H q r := by
  unfold wO at h
  split at h
  · split at h
    · rename_i hl
      split at h
      · split at h
        · split at h
          · simp only [Option.some.injEq] at h; subst h
            exact LQ hl
          · cases h
        · cases h
      · cases h
    · cases h
  · cases h
theorem aLen_lab {c : Cls} {x : AV} {H : aB} {q : Lab} {r : Res} (h : N2 c x H q = some r) : qF H q r := by
  unfold N2 at h
  split at h
  · split at h
    · simp only [Option.some.injEq] at h; subst h; exact r8
    · cases h
  · simp only [Option.some.injEq] at h; subst h; exact nK
  · simp only [Option.map_eq_some_iff] at h
    obtain ⟨_, _, rfl⟩ := h; exact nK
  · simp only [Option.some.injEq] at h; subst h; exact nK
  · cases h
theorem aAppend_lab {e b : Nat} {x y : AV} {H : aB} {q : Lab} {r : Res} (h : gI e b x y H q = some r) : qF H q r := by
  simp only [gI, Option.bind_eq_some_iff] at h
  obtain ⟨src, hsrc, h⟩ := h
  split at h
  · split at h <;> first | (cases h; done) | (simp only [Option.some.injEq] at h; subst h; exact nK)
  · split at h
    · split at h
      · simp only [Option.some.injEq] at h; subst h
        exact fun l hl => .inr (by rw [cR hl]; exact .self _)
      · cases h
    · split at h
      · simp only [Option.some.injEq] at h; subst h
        exact fun l hl => .inr (by rw [cR hl]; exact .self _)
      · cases h
    · split at h
      · rename_i hl
        split at h
        · simp only [Option.some.injEq] at h; subst h
          intro k hk
          obtain ⟨pr, hp, rfl⟩ := hk
          simp at hp
          rcases hp with rfl | rfl
          · exact .inr (.self _)
          · exact .inl (by simp [restr, hl])
        · cases h
      · cases h
    · cases h
theorem aLookup_lab {agg ok : Bool} {ks : List CK} {z m k : AV} {H : aB} {q : Lab} {r : Res} (h : yL agg ks z ok m k H = some r) : qF H q r := by
  unfold yL at h
  split at h
  · split at h
    · simp only [Option.some.injEq] at h; subst h; exact nK
    · split at h
      · simp only [Option.bind_eq_some_iff] at h
        obtain ⟨c, hc, h⟩ := h
        split at h <;> (simp only [Option.some.injEq] at h; subst h; exact r8)
      · simp only [Option.bind_eq_some_iff] at h
        obtain ⟨c, hc, h⟩ := h
        split at h <;> first | (cases h; done) | (simp only [Option.some.injEq] at h; subst h; exact r8)
      · cases h
    · cases h
  · cases h
theorem aMapUpdate_lab {agg : Bool} {ks : List CK} {m k x : AV} {H : aB} {q : Lab} {r : Res} (h : oD agg ks m k x H = some r) : qF H q r := by
  unfold oD at h
  split at h
  · split at h
    · split at h
      · rename_i hl
        simp only [Option.bind_eq_some_iff] at h
        obtain ⟨c, hc, h⟩ := h
        split at h <;> (simp only [Option.some.injEq] at h; subst h; exact LQ hl)
      · cases h
    · cases h
  · cases h
theorem aDelete_lab {agg : Bool} {ks : List CK} {m k : AV} {H : aB} {q : Lab} {r : Res} (h : B8 agg ks m k H = some r) : qF H q r := by
  unfold B8 at h
  split at h
  · split at h
    · simp only [Option.some.injEq] at h; subst h; exact nK
    · split at h
      · rename_i hl
        simp only [Option.bind_eq_some_iff] at h
        obtain ⟨c, hc, h⟩ := h
        split at h <;> (simp only [Option.some.injEq] at h; subst h; first | exact LQ hl | exact r8)
      · cases h
    · cases h
  · cases h
theorem aRange_lab {m : AV} {H : aB} {q : Lab} {r : Res} (h : LV m H q = some r) : qF H q r := by
  unfold LV at h
  repeat' (first | (cases h; done) | (simp only [Option.some.injEq] at h; subst h; exact fun l hl => .inr (by rw [cR hl]; exact .self _)) | (split at h))
theorem aEntry_lab {x : AV} {H : aB} {q : Lab} {r : Res} (h : IX x H = some r) : qF H q r := by
  unfold IX at h
  repeat' (first | (cases h; done) | (simp only [Option.bind_eq_some_iff, Option.map_eq_some_iff] at h; obtain ⟨_, _, _, _, _, _, rfl⟩ := h; exact r8) | (split at h))
theorem aNext_lab {x : AV} {H : aB} {q : Lab} {r : Res} (h : N1 x H = some r) : qF H q r := by
  unfold N1 at h
  split at h
  · split at h
    · simp only [Option.some.injEq] at h; subst h; exact r8
    · rename_i hr
      split at h
      · split at h
        · split at h
          · simp only [Option.some.injEq] at h; subst h; exact r8
          · simp only [Option.some.injEq] at h; subst h
            exact fun k hk => .inl (by rw [cR hk]; simp [restr, hr])
          · cases h
        · cases h
      · cases h
    · cases h
  · cases h
theorem aop_lab {call : b9} (hcall : iS P call) {k : AK} {xs : List AV} {H : aB} {q : Lab} {r : Res} (h : aop call k xs H q = some r) : qF H q r := by
  unfold aop at h
  split at h
  all_goals first
    | (cases h; done)
    | (simp only [Option.some.injEq] at h; subst h; first | exact nK | exact LR)
    | exact aLoad_lab h
    | exact aStore_lab h
    | exact aLen_lab h
    | exact aAppend_lab h
    | exact aLookup_lab h
    | exact aMapUpdate_lab h
    | exact aDelete_lab h
    | exact aRange_lab h
    | exact aEntry_lab h
    | exact aNext_lab h
    | (simp only [Option.some.injEq] at h; subst h; exact fun l hl => .inr (by rw [cR hl]; exact .self _))
    | (simp only [Option.bind_eq_some_iff, Option.map_eq_some_iff] at h; obtain ⟨_, _, _, _, rfl⟩ := h; exact nK)
    | (simp only [Option.map_eq_some_iff] at h; obtain ⟨_, _, rfl⟩ := h; exact nK)
    | (split at h <;> first | (cases h; done) | (simp only [Option.some.injEq] at h; subst h; first | exact nK | exact LR) | (simp only [Option.map_eq_some_iff] at h; obtain ⟨_, _, rfl⟩ := h; exact nK))
    | (simp only [Option.bind_eq_some_iff] at h; obtain ⟨_, _, h⟩ := h; split at h <;> first | (cases h; done) | (simp only [Option.some.injEq] at h; subst h; exact LR))
    | skip
  unfold GF at h
  split at h
  · exact (hcall _ _ _ _ _ h).2.1
  · cases h
theorem oS {i : AIns} (h : rA P n ops o = some i) : ∃ xs, xL P o = some (i.k, xs) ∧ FK xs = some i.xs ∧ yF ops o = some i.guard ∧ i.dst = o.dst ∧ (∀ d, o.dst = some d → d < n) ∧
    (∀ x ∈ xs, ∀ t, x = .tmp t → t ∈ o.looksAt ops) ∧ (∀ g want, i.guard = some (g, want) → g ∈ o.looksAt ops) := by
  unfold rA at h
  simp only [Option.bind_eq_some_iff] at h
  obtain ⟨⟨k, xs⟩, hk, ys, hys, g, hg, h⟩ := h
  split at h
  · rename_i hd
    simp only [Option.some.injEq] at h
    subst h
    refine ⟨xs, hk, hys, hg, rfl, fun d hd' => ?_, fun x hx t ht => ?_, fun t want he => ?_⟩
    · rw [hd'] at hd; simpa [ZE] using hd
    · subst ht
      have := compK_sub hk _ hx
      exact List.mem_append_left _ (List.mem_filterMap.2 ⟨.tmp t, by simpa using this, rfl⟩)
    · simp only at he
      subst he
      unfold yF at hg
      split at hg
      · cases hg
      · rename_i j w' hgd
        simp only [Option.bind_eq_some_iff, Option.some.injEq, Prod.mk.injEq] at hg
        obtain ⟨t', ⟨oj, hoj, hdj⟩, rfl, rfl⟩ := hg
        refine List.mem_append_right _ ?_
        simp [hgd, hoj, hdj]
  · cases h
theorem zH {i : AIns} (hg : yF ops o = some i.guard) (h : i.guard = none) (y : Nat → Option Bool) : Region.wanted o y = true := by
  rw [h] at hg
  unfold yF at hg
  unfold Region.wanted
  split at hg
  · rename_i h1; rw [h1]
  · simp only [Option.bind_eq_some_iff] at hg
    obtain ⟨_, _, h2⟩ := hg
    cases h2
theorem zG {i : AIns} {t : Nat} {want : Bool} {x : AV} (hg : yF ops o = some i.guard) (h : i.guard = some (t, want)) (hx : RepV ρ R x (a.tmps.getD t undef)) :
    (∀ b, x = .bool b → Region.wanted o (yielded ops a.tmps) = decide (b = want)) ∧ (x = .tuple [] → Region.wanted o (yielded ops a.tmps) = false) := by
  rw [h] at hg
  unfold yF at hg
  split at hg
  · cases hg
  · rename_i j w' hgd
    simp only [Option.bind_eq_some_iff, Option.some.injEq, Prod.mk.injEq] at hg
    obtain ⟨t', ⟨oj, hoj, hdj⟩, rfl, rfl⟩ := hg
    constructor
    · intro b hb
      subst hb
      have hv := hx.bool_inv
      have : a.tmps[t']? = some (.bool b) := by
        cases hq : a.tmps[t']? with
        | none => simp [Array.getD_eq_getD_getElem?, hq, undef] at hv
        | some v => simp [Array.getD_eq_getD_getElem?, hq] at hv; rw [hv]
      simp [Region.wanted, hgd, yielded, hoj, hdj, this]
      cases b <;> cases w' <;> rfl
    · intro hb
      subst hb
      obtain ⟨vs, hv, _⟩ := hx.tuple_inv
      have : yielded ops a.tmps j = none := by
        unfold yielded
        simp only [hoj, Option.bind_some, hdj]
        cases hq : a.tmps[t']? with
        | none => rfl
        | some v =>
          simp [Array.getD_eq_getD_getElem?, hq] at hv
          rw [hv]
      simp [Region.wanted, hgd, this]

/-- what is known of an operation once it is reckoned out -/
theorem DW {call : b9} (hcall : iS P call) {H0 : aB} {p : Lab} {i : AIns} {s : ASt} {rc : Rc} (hi : rA P n ops o = some i) (h : cK call H0 p i s = some rc) :
    rc.q = s.c :: p ∧
    (rc.skip = true → rc.x = .tuple [] ∧ rc.u = [] ∧ rc.foot = some [] ∧ ∀ ρ R a, I6 ops o (bE s.regs) ρ R a → a.tmps.size = n → Region.wanted o (yielded ops a.tmps) = false) ∧
    (rc.skip = false → (∀ l, rc.u.has l → restr (upd s.ov H0) rc.foot l ≠ none ∨ Under rc.q l) ∧
      ∀ ρ R a, I6 ops o (bE s.regs) ρ R a → a.tmps.size = n → Region.wanted o (yielded ops a.tmps) = true ∧ Does (opC P o a) (restr (upd s.ov H0) rc.foot) rc.u (Under rc.q) ρ R rc.x) := by
  obtain ⟨xs, hk, hxs, hg, hd, hdn, hl1, hl2⟩ := oS hi
  have run : ∀ rc, tO call H0 p i s = some rc → rc.q = s.c :: p ∧ rc.skip = false ∧ (∀ l, rc.u.has l → restr (upd s.ov H0) rc.foot l ≠ none ∨ Under rc.q l) ∧
      ∀ ρ R a, I6 ops o (bE s.regs) ρ R a → Does (opC P o a) (restr (upd s.ov H0) rc.foot) rc.u (Under rc.q) ρ R rc.x := by
    intro rc hr
    unfold tO at hr
    simp only [Option.bind_eq_some_iff, Option.some.injEq] at hr
    obtain ⟨vs, hvs, r, hr, rfl⟩ := hr
    have key : ∀ ρ R a, I6 ops o (bE s.regs) ρ R a → cE P o a ρ R (upd s.ov H0) (s.c :: p) r := by
      intro ρ R a hlook
      exact aop_sound hcall hk (yJ hxs hvs (fun x hx t ht z hz => hlook t (hl1 x hx t ht) z hz)) hr
    refine ⟨rfl, rfl, ?_, fun ρ R a hlook => (key ρ R a hlook).2⟩
    -- the labels do not hang on the frame
    exact aop_lab hcall hr
  unfold cK at h
  split at h
  · rename_i hgn
    obtain ⟨h1, h2, h3, h4⟩ := run rc h
    refine ⟨h1, (fun e => by rw [h2] at e; cases e), fun _ => ⟨h3, fun ρ R a hlook hs => ⟨zH hg hgn _, h4 ρ R a hlook⟩⟩⟩
  · rename_i g want hgn
    have hgl := hl2 g want hgn
    split at h
    · rename_i b hb
      split at h
      · rename_i hw
        obtain ⟨h1, h2, h3, h4⟩ := run rc h
        refine ⟨h1, (fun e => by rw [h2] at e; cases e), fun _ => ⟨h3, fun ρ R a hlook hs => ⟨?_, h4 ρ R a hlook⟩⟩⟩
        rw [(zG hg hgn (hlook g hgl _ hb)).1 b rfl]
        simp [hw]
      · rename_i hw
        cases h
        refine ⟨rfl, fun _ => ⟨rfl, rfl, rfl, fun ρ R a hlook hs => ?_⟩, (fun e => by cases e)⟩
        rw [(zG hg hgn (hlook g hgl _ hb)).1 b rfl]
        simp [hw]
    · rename_i hb
      cases h
      refine ⟨rfl, fun _ => ⟨rfl, rfl, rfl, fun ρ R a hlook hs => ?_⟩, (fun e => by cases e)⟩
      exact (zG hg hgn (hlook g hgl _ hb)).2 rfl
    · cases h
end
end Go.Proofs.Ytbngfbpegdcpkaa
/-! The abstract machine: whole regions are sound. -/
namespace Go.Proofs.Ytbngfbpegdcpkaa
set_option linter.unusedVariables false
set_option linter.unusedSimpArgs false

theorem qI {i j : Nat} {p l : Lab} (h : Under (i :: p) l) (h' : Under (j :: p) l) : i = j := by
  obtain ⟨s, hs⟩ := h
  obtain ⟨t, ht⟩ := h'
  rw [hs] at ht
  have h1 := List.append_inj' ht (by simp)
  have := h1.2
  simp at this
  exact this
theorem nD {k : Nat} {p l : Lab} (h : Under (k :: p) l) : Under p l := by
  obtain ⟨s, hs⟩ := h
  exact ⟨s ++ [k], by simp [hs]⟩
/-- the labels of a function's own that are not taken yet -/
def Ns (p : Lab) (c : Nat) (l : Lab) : Prop := ∃ k, c ≤ k ∧ Under (k :: p) l
theorem Ns.under {p l : Lab} {c : Nat} (h : Ns p c l) : Under p l := by obtain ⟨k, _, h⟩ := h; exact nD h
theorem Ns.mono {p l : Lab} {c d : Nat} (h : Ns p d l) (hc : c ≤ d) : Ns p c l := by obtain ⟨k, hk, h⟩ := h; exact ⟨k, by omega, h⟩

section
variable {P : Program} {n : Nat} {ops : Array Oper} {call : b9} {H0 : aB} {p : Lab} {ρ0 : bF} {R0 : Imm} {w0 : World}
structure Inv (n : Nat) (H0 : aB) (ρ0 : bF) (R0 : Imm) (w0 : World) (p : Lab) (s : ASt) (ρ : bF) (R : Imm) (a : Act) (w : World) : Prop where
  rs : RepS n (bE s.regs) (upd s.ov H0) ρ R a w
  fut : Fut H0 ρ0 R0 w0 (Under p) ρ R w
  fresh : ∀ l, Ns p s.c l → ρ l = none
  lab : ∀ k o, upd s.ov H0 k = some o → H0 k ≠ none ∨ Under p k

theorem D5 : ∀ {is : List AIns} {s s' : ASt} {trs : List Tr}, zM call H0 p is s = some (s', trs) →
    ∃ (S : Nat → ASt) (rc : Nat → Rc), S 0 = s ∧ S is.length = s' ∧ (∀ (j : Nat) i, is[j]? = some i → cK call H0 p i (S j) = some (rc j) ∧ S (j + 1) = cZ i (S j) (rc j)) ∧ trs.length = is.length ∧ ∀ j, j < is.length → trs[j]? = some (I3 (rc j))
  | [], s, s', trs, h => by
    simp only [zM, Option.some.injEq, Prod.mk.injEq] at h
    obtain ⟨rfl, rfl⟩ := h
    exact ⟨fun _ => s, fun _ => ⟨true, .nilp, [], [], none⟩, rfl, rfl, fun j i hi => by simp at hi, rfl, fun j hj => by simp at hj⟩
  | i :: is, s, s', trs, h => by
    simp only [zM, Option.bind_eq_some_iff, Option.some.injEq, Prod.mk.injEq] at h
    obtain ⟨r0, hr0, ⟨s1, t1⟩, h1, rfl, rfl⟩ := h
    obtain ⟨S, rc, e1, e2, e3, e4, e5⟩ := D5 h1
    refine ⟨fun | 0 => s | j + 1 => S j, fun | 0 => r0 | j + 1 => rc j, rfl, e2, fun j x hx => ?_, by simp [e4], fun j hj => ?_⟩
    · cases j with
      | zero => simp at hx; subst hx; exact ⟨hr0, e1⟩
      | succ j => exact e3 j x (by simpa using hx)
    · cases j with
      | zero => rfl
      | succ j => simpa using e5 j (by simpa using hj)
theorem CF : ∀ {is : List AIns} {s s' : ASt}, tN call H0 p is s = some s' →
    ∃ (S : Nat → ASt) (rc : Nat → Rc), S 0 = s ∧ S is.length = s' ∧ (∀ (j : Nat) i, is[j]? = some i → cK call H0 p i (S j) = some (rc j) ∧ S (j + 1) = cZ i (S j) (rc j))
  | [], s, s', h => by
    simp only [tN, Option.some.injEq] at h
    subst h
    exact ⟨fun _ => s, fun _ => ⟨true, .nilp, [], [], none⟩, rfl, rfl, fun j i hi => by simp at hi⟩
  | i :: is, s, s', h => by
    simp only [tN, Option.bind_eq_some_iff] at h
    obtain ⟨r0, hr0, h1⟩ := h
    obtain ⟨S, rc, e1, e2, e3⟩ := CF h1
    refine ⟨fun | 0 => s | j + 1 => S j, fun | 0 => r0 | j + 1 => rc j, rfl, e2, fun j x hx => ?_⟩
    cases j with
    | zero => simp at hx; subst hx; exact ⟨hr0, e1⟩
    | succ j => exact e3 j x (by simpa using hx)
theorem qU : ∀ {os : List Oper} {is : List AIns}, s9 P n ops os = some is → is.length = os.length ∧ ∀ (j : Nat) o, os[j]? = some o → ∃ i, is[j]? = some i ∧ rA P n ops o = some i
  | [], is, h => by simp only [s9, Option.some.injEq] at h; subst h; exact ⟨rfl, fun j o ho => by simp at ho⟩
  | o :: os, is, h => by
    simp only [s9, Option.bind_eq_some_iff, Option.some.injEq] at h
    obtain ⟨i, hi, is', his, rfl⟩ := h
    obtain ⟨h1, h2⟩ := qU his
    refine ⟨by simp [h1], fun j x hx => ?_⟩
    cases j with
    | zero => simp at hx; subst hx; exact ⟨i, rfl, hi⟩
    | succ j => simpa using h2 j x (by simpa using hx)

/-- the order of a region's operations -/
theorem maskOf_spec {ms : List Nat} {o : Oper} {i : Nat} (h : (LN ms o).testBit i = true) : ∃ e ∈ o.after.toList, Region.binds .any e = true ∧ (i = e.on ∨ (ms.getD e.on 0).testBit i = true) := by
  have key : ∀ (l : List Edge) (m : Nat), (l.foldl (fun m e => if Region.binds .any e then m ||| 2 ^ e.on ||| ms.getD e.on 0 else m) m).testBit i = true → m.testBit i = true ∨ ∃ e ∈ l, Region.binds .any e = true ∧ (i = e.on ∨ (ms.getD e.on 0).testBit i = true) := by
    intro l
    induction l with
    | nil => intro m h; exact .inl h
    | cons e l ih =>
      intro m h
      simp only [List.foldl_cons] at h
      rcases ih _ h with h1 | ⟨e', he', h1⟩
      · split at h1
        · rename_i hb
          simp only [Nat.testBit_or, Bool.or_eq_true, Nat.testBit_two_pow, decide_eq_true_eq] at h1
          rcases h1 with (h1 | h1) | h1
          · exact .inl h1
          · exact .inr ⟨e, by simp, hb, .inl h1.symm⟩
          · exact .inr ⟨e, by simp, hb, .inr h1⟩
        · exact .inl h1
      · exact .inr ⟨e', by simp [he'], h1⟩
  rcases key _ 0 h with h1 | h1
  · simp at h1
  · exact h1
theorem zW {i j : Nat} (h : ((vN ops.toList []).getD j 0).testBit i = true) : Anc ops i j := by
  have key : ∀ (os : List Oper) (ms : List Nat), (∀ k, os[k]? = ops[ms.length + k]?) → (∀ j i, (ms.getD j 0).testBit i = true → Anc ops i j) → ∀ j i, ((vN os ms).getD j 0).testBit i = true → Anc ops i j := by
    intro os
    induction os with
    | nil => intro ms _ h; exact h
    | cons o os ih =>
      intro ms hos h j i hj
      refine ih (ms ++ [LN ms o]) (fun k => ?_) ?_ j i hj
      · have := hos (k + 1)
        rw [List.getElem?_cons_succ] at this
        rw [this]; congr 1; simp; omega
      · intro j i hj
        rcases Nat.lt_trichotomy j ms.length with h1 | h1 | h1
        · refine h j i ?_
          simpa [List.getD_eq_getElem?_getD, List.getElem?_append_left h1] using hj
        · subst h1
          have ho : ops[ms.length]? = some o := by simpa using (hos 0).symm
          have hj' : (LN ms o).testBit i = true := by simpa [List.getD_eq_getElem?_getD] using hj
          obtain ⟨e, he, hb, h2⟩ := maskOf_spec hj'
          have hs : Anc ops e.on ms.length := .step ho (by simpa using he) hb
          rcases h2 with h2 | h2
          · rw [h2]; exact hs
          · exact .trans (h _ _ h2) hs
        · rw [List.getD_eq_getElem?_getD, List.getElem?_eq_none (by simp; omega)] at hj
          simp at hj
  exact key ops.toList [] (fun k => by simp) (fun j i h => by simp at h) j i h
theorem HO {i j : Nat} (h1 : ¬ Anc ops i j) (h2 : ¬ Anc ops j i) : mI (vN ops.toList []) i j = false := by
  unfold mI
  rw [Bool.or_eq_false_iff]
  constructor
  · rw [Bool.eq_false_iff]; exact fun h => h1 (zW h)
  · rw [Bool.eq_false_iff]; exact fun h => h2 (zW h)
theorem BN : ∀ {os : List Oper} {k : Nat}, FJ os k = true → ∀ (j : Nat) o e, os[j]? = some o → e ∈ o.after → Region.binds .any e = true → e.on < k + j
  | [], _, _, j, o, e, h, _, _ => by simp at h
  | o' :: os, k, hb, j, o, e, h, he, hbe => by
    simp only [FJ, Bool.and_eq_true] at hb
    cases j with
    | zero =>
      simp at h; subst h
      have := Array.all_eq_true_iff_forall_mem.1 hb.1 e he
      simp [hbe] at this
      omega
    | succ j =>
      have := BN hb.2 j o e (by simpa using h) he hbe
      omega
theorem C9 {masks : List Nat} {i : Nat} {x : Oper} : ∀ {os : List Oper} {k : Nat}, EY ops masks i x os k = true → ∀ (j : Nat) y, os[j]? = some y → i ≠ k + j → mI masks i (k + j) = false → x.apart ops y = true
  | [], _, _, j, y, h, _, _ => by simp at h
  | b :: os, k, hb, j, y, h, hne, ho => by
    simp only [EY, Bool.and_eq_true, Bool.or_eq_true, beq_iff_eq] at hb
    cases j with
    | zero =>
      simp at h; subst h
      simp only [Nat.add_zero] at hne ho
      rcases hb.1 with (h1 | h1) | h1
      · exact absurd h1 hne
      · rw [ho] at h1; cases h1
      · exact h1
    | succ j => exact C9 hb.2 j y (by simpa using h) (by omega) (by rwa [show k + 1 + j = k + (j + 1) by omega])
theorem DA {masks : List Nat} : ∀ {os : List Oper} {k : Nat}, BP ops masks os k = true → ∀ (i j : Nat) x y, os[i]? = some x → ops[j]? = some y → k + i ≠ j → mI masks (k + i) j = false → x.apart ops y = true
  | [], _, _, i, j, x, y, h, _, _, _ => by simp at h
  | a :: os, k, hb, i, j, x, y, h, hy, hne, ho => by
    simp only [BP, Bool.and_eq_true] at hb
    cases i with
    | zero =>
      simp at h; subst h
      exact C9 hb.1 j y (by simpa using hy) (by simpa using hne) (by simpa using ho)
    | succ i => exact DA hb.2 i j x y (by simpa using h) hy (by omega) (by rwa [show k + 1 + i = k + (i + 1) by omega])
theorem C7 {masks : List Nat} {i : Nat} {x : Tr} : ∀ {trs : List Tr} {k : Nat}, vC masks i x trs k = false → ∀ (j : Nat) y, trs[j]? = some y → i ≠ k + j → mI masks i (k + j) = false → a6 i (k + j) x y = false
  | [], _, _, j, y, h, _, _ => by simp at h
  | b :: trs, k, hb, j, y, h, hne, ho => by
    simp only [vC, Bool.or_eq_false_iff] at hb
    cases j with
    | zero =>
      simp at h; subst h
      simp only [Nat.add_zero] at hne ho ⊢
      have := hb.1
      simp only [ho, Bool.not_false, Bool.and_true] at this
      have hne' : (i != k) = true := by simpa using hne
      simpa [hne'] using this
    | succ j =>
      have := C7 hb.2 j y (by simpa using h) (by omega) (by rwa [show k + 1 + j = k + (j + 1) by omega])
      rwa [show k + 1 + j = k + (j + 1) by omega] at this
theorem C8 {masks : List Nat} {all : List Tr} : ∀ {trs : List Tr} {k : Nat}, rB masks all trs k = false → ∀ (i j : Nat) x y, trs[i]? = some x → all[j]? = some y → x.labs ≠ [] → k + i ≠ j → mI masks (k + i) j = false → a6 (k + i) j x y = false
  | [], _, _, i, j, x, y, h, _, _, _, _ => by simp at h
  | a :: trs, k, hb, i, j, x, y, h, hy, hl, hne, ho => by
    simp only [rB, Bool.or_eq_false_iff] at hb
    cases i with
    | zero =>
      simp at h; subst h
      have h1 := hb.1
      have : a.labs.isEmpty = false := by cases hq : a.labs with | nil => exact absurd hq hl | cons _ _ => rfl
      simp only [this, Bool.not_false, Bool.true_and] at h1
      have := C7 h1 j y hy (by simpa using hne) (by simpa using ho)
      simpa using this
    | succ i =>
      have := C8 hb.2 i j x y (by simpa using h) hy hl (by omega) (by rwa [show k + 1 + i = k + (i + 1) by omega])
      rwa [show k + 1 + i = k + (i + 1) by omega] at this
theorem yE {q l : Lab} (h : GM q l = true) : Under q l := by
  unfold GM at h
  rw [List.isSuffixOf_iff_suffix] at h
  obtain ⟨s, hs⟩ := h
  exact ⟨s, hs.symm⟩
theorem vK (r : RL) (d : Option Nat) (x : AV) : bE (cU r d x) = zL (bE r) d x := by
  cases d with
  | none => rfl
  | some t => exact rM r t x

theorem JH {is : List AIns} {S : Nat → ASt} {rc : Nat → Rc} (hlen : is.length = ops.size) (hget : ∀ (j : Nat) o, ops[j]? = some o → ∃ i, is[j]? = some i ∧ rA P n ops o = some i)
    (hst : ∀ (j : Nat) i, is[j]? = some i → cK call H0 p i (S j) = some (rc j) ∧ S (j + 1) = cZ i (S j) (rc j)) :
    ∀ j, j ≤ ops.size → stR ops rc (fun _ => true) (bE (S 0).regs) j = bE (S j).regs ∧ stH rc (fun _ => true) (upd (S 0).ov H0) j = upd (S j).ov H0 ∧ (S j).c = (S 0).c + j
  | 0, _ => ⟨rfl, rfl, rfl⟩
  | j + 1, hj => by
    obtain ⟨h1, h2, h3⟩ := JH hlen hget hst j (by omega)
    obtain ⟨o, ho⟩ : ∃ o, ops[j]? = some o := ⟨_, Array.getElem?_eq_getElem (by omega)⟩
    obtain ⟨i, hi, hc⟩ := hget j o ho
    obtain ⟨h4, h5⟩ := hst j i hi
    obtain ⟨_, _, _, _, hd, _⟩ := oS hc
    refine ⟨?_, ?_, ?_⟩
    · simp only [stR, if_true, h1, ho, Option.bind_some]
      rw [h5, cZ, vK, hd]
    · simp only [stH, if_true, h2]
      rw [h5, cZ, jU]
    · rw [h5, cZ]; simp only; omega

/-- a region in the order of the text -/
theorem seq_sound (hcall : iS P call) {is : List AIns} (hcomp : s9 P n ops ops.toList = some is) (h0 : Rep H0 ρ0 R0 w0) (hf0 : ∀ l, Under p l → ρ0 l = none) {s s' : ASt} (hrun : tN call H0 p is s = some s') {ρ : bF} {R : Imm} {a : Act} {w : World}
    (hI : Inv n H0 ρ0 R0 w0 p s ρ R a w) {id : Nat} {Q : Exit → Act → World → Prop} (hQ : ∀ ρ R a w, Inv n H0 ρ0 R0 w0 p s' ρ R a w → Q .normal a w) : (Code.region id ops false).wp P Q a w := by
  obtain ⟨S, rc, e1, e2, e3⟩ := CF hrun
  obtain ⟨hlen, hget⟩ := qU hcomp
  simp only [Array.length_toList] at hlen
  have hget' : ∀ (j : Nat) o, ops[j]? = some o → ∃ i, is[j]? = some i ∧ rA P n ops o = some i := fun j o ho => hget j o (by simpa using ho)
  refine wp_region ?_
  have key : ∀ m k, k + m = ops.size → ∀ ρ R a w, Inv n H0 ρ0 R0 w0 p (S k) ρ R a w → wpOps P ops Q (List.range' k m) a w := by
    intro m
    induction m with
    | zero =>
      intro k hk ρ R a w hI
      simp only [List.range'_zero, wpOps]
      refine hQ ρ R a w ?_
      rw [← e2, hlen, show ops.size = k by omega]
      exact hI
    | succ m ih =>
      intro k hk ρ R a w hI
      rw [List.range'_succ, wpOps_cons]
      obtain ⟨o, ho⟩ : ∃ o, ops[k]? = some o := ⟨_, Array.getElem?_eq_getElem (by omega)⟩
      obtain ⟨i, hi, hc⟩ := hget' k o ho
      obtain ⟨h4, h5⟩ := e3 k i hi
      obtain ⟨hq, hsk, hru⟩ := DW hcall hc h4
      obtain ⟨_, _, _, _, hd, hdn, _⟩ := oS hc
      have hlook : I6 ops o (bE (S k).regs) ρ R a := fun t ht y hy => hI.rs.regs t y hy
      have hreg : bE (S (k + 1)).regs = zL (bE (S k).regs) o.dst (rc k).x := by rw [h5, cZ, vK, hd]
      have hheap : upd (S (k + 1)).ov H0 = upd (rc k).u (upd (S k).ov H0) := by rw [h5, cZ, jU]
      have hcc : (S (k + 1)).c = (S k).c + 1 := by rw [h5, cZ]
      unfold wpOp
      simp only [ho]
      cases hs : (rc k).skip with
      | true =>
        obtain ⟨hx, hu, _, hw⟩ := hsk hs
        rw [hw ρ R a hlook hI.rs.size]
        simp only [Bool.false_eq_true, if_false]
        refine ih (k + 1) (by omega) ρ R _ w ⟨?_, hI.fut, fun l hl => hI.fresh l (hl.mono (by omega)), ?_⟩
        · rw [hreg, hheap, hx, hu]
          exact hI.rs.put hdn (.refl _ _) (.tuple [] #[] rfl (fun i x hx => by simp at hx)) hI.rs.heap
        · rw [hheap, hu]; exact hI.lab
      | false =>
        obtain ⟨hlab, hrun'⟩ := hru hs
        obtain ⟨hw, hdoes⟩ := hrun' ρ R a hlook hI.rs.size
        rw [hw]
        simp only [if_true]
        have hsub : ∀ l ob, restr (upd (S k).ov H0) (rc k).foot l = some ob → upd (S k).ov H0 l = some ob := by
          intro l ob
          cases (rc k).foot with
          | none => exact fun h => h
          | some ls => simp only [restr]; split <;> simp
        have hd2 := hdoes.frame ED hsub hlab
        refine .inl (hd2 w hI.rs.heap (fun l h1 => hI.fresh l ⟨(S k).c, Nat.le_refl _, by rw [hq] at h1; exact h1⟩) _ Q ?_)
        rintro v w' ⟨ρ', R', hF', hx, hRep⟩
        refine ih (k + 1) (by omega) ρ' R' _ w' ⟨?_, ?_, ?_, ?_⟩
        · rw [hreg, hheap]
          exact hI.rs.put hdn hF'.ext hx hRep
        · refine hI.fut.trans h0 hF' (fun j ob hj => ?_) (fun _ h => h) (fun l hl => by rw [hq] at hl; exact nD hl)
          rcases hI.lab j ob hj with h1 | h1
          · exact .inl h1
          · exact .inr (hf0 j h1)
        · intro l hl
          obtain ⟨j, hj, hl⟩ := hl
          have hfr := hI.fresh l ⟨j, by omega, hl⟩
          cases hρ : ρ' l with
          | none => rfl
          | some L =>
            rcases hF'.win l L hρ with h6 | ⟨h6, _⟩
            · rw [hfr] at h6; cases h6
            · rw [hq] at h6
              have := qI hl h6
              omega
        · rw [hheap]
          intro j ob hj
          rcases GK hj with h1 | h1
          · rcases hlab j h1 with h2 | h2
            · have : ∃ ob', upd (S k).ov H0 j = some ob' := by
                obtain ⟨ob', h3⟩ := Option.ne_none_iff_exists'.1 h2
                exact ⟨ob', hsub j ob' h3⟩
              obtain ⟨ob', h3⟩ := this
              exact hI.lab j ob' h3
            · rw [hq] at h2; exact .inr (nD h2)
          · exact hI.lab j ob h1
  have := key ops.size 0 (by omega) ρ R a w (by rw [e1]; exact hI)
  rwa [← List.range_eq_range'] at this

/-- a region that draws its order -/
theorem IL (hm : P.follows .mixedOrders = true) (hcall : iS P call) {is : List AIns} (hcomp : s9 P n ops ops.toList = some is) (hb : FJ ops.toList 0 = true) (hap : BP ops (vN ops.toList []) ops.toList 0 = true)
    (h0 : Rep H0 ρ0 R0 w0) (hf0 : ∀ l, Under p l → ρ0 l = none) {s s' : ASt} {trs : List Tr} (hrun : zM call H0 p is s = some (s', trs)) (hcl : rB (vN ops.toList []) trs trs 0 = false) {ρ : bF} {R : Imm} {a : Act} {w : World}
    (hI : Inv n H0 ρ0 R0 w0 p s ρ R a w) {id : Nat} {Q : Exit → Act → World → Prop} (hQ : ∀ ρ R a w, Inv n H0 ρ0 R0 w0 p s' ρ R a w → Q .normal a w) : (Code.region id ops true).wp P Q a w := by
  obtain ⟨S, rc, e1, e2, e3, e4, e5⟩ := D5 hrun
  obtain ⟨hlen, hget⟩ := qU hcomp
  simp only [Array.length_toList] at hlen
  have hget' : ∀ (j : Nat) o, ops[j]? = some o → ∃ i, is[j]? = some i ∧ rA P n ops o = some i := fun j o ho => hget j o (by simpa using ho)
  have hst := JH hlen hget' e3
  rw [e1] at hst
  have hlt : ∀ (j : Nat) (o : Oper), ops[j]? = some o → j < ops.size := fun j o ho => (Array.getElem?_eq_some_iff.1 ho).1
  have hins : ∀ (j : Nat) (o : Oper), ops[j]? = some o → ∃ i, rA P n ops o = some i ∧ cK call H0 p i (S j) = some (rc j) := by
    intro j o ho
    obtain ⟨i, hi, hc⟩ := hget' j o ho
    exact ⟨i, hc, (e3 j i hi).1⟩
  have hq : ∀ j, j < ops.size → (rc j).q = (s.c + j) :: p := by
    intro j hj
    obtain ⟨i, hc, he⟩ := hins j _ (Array.getElem?_eq_getElem hj)
    rw [(DW hcall hc he).1, (hst j (by omega)).2.2]
  -- a label's last word: whatever an operation changes was there, or is one of its own
  have hlabs : ∀ j o, ops[j]? = some o → ∀ l, (rc j).u.has l → restr (stH rc (fun _ => true) (upd s.ov H0) j) (rc j).foot l ≠ none ∨ Under (rc j).q l := by
    intro j o ho l hl
    obtain ⟨i, hc, he⟩ := hins j o ho
    obtain ⟨_, hsk, hru⟩ := DW hcall hc he
    rw [(hst j (by have := hlt j o ho; omega)).2.1]
    cases hs : (rc j).skip with
    | true => rw [(hsk hs).2.1] at hl; exact absurd hl (aS l)
    | false => exact (hru hs).1 l hl
  have hlabOf : ∀ j l, (rc j).u.has l → l ∈ (I3 (rc j)).labs := by
    rintro j l ⟨pr, hp, rfl⟩
    exact List.mem_map.2 ⟨pr, hp, rfl⟩
  have hok : RegOk P ops n rc (bE s.regs) (upd s.ov H0) (fun l => ∃ j, s.c ≤ j ∧ j < s.c + ops.size ∧ Under (j :: p) l) := by
    refine { skip := ?_, run := ?_, back := ?_, win := ?_, wid := ?_, regs := ?_, heap := ?_, dst := ?_ }
    · intro j o ho hs
      obtain ⟨i, hc, he⟩ := hins j o ho
      obtain ⟨h1, h2, _, h4⟩ := (DW hcall hc he).2.1 hs
      refine ⟨h1, h2, fun ρ R a hl hn => h4 ρ R a ?_ hn⟩
      rw [← (hst j (by have := hlt j o ho; omega)).1]
      exact hl
    · intro j o ho hs
      obtain ⟨i, hc, he⟩ := hins j o ho
      obtain ⟨_, h2⟩ := (DW hcall hc he).2.2 hs
      refine ⟨hlabs j o ho, fun ρ R a hl hn => ?_⟩
      rw [(hst j (by have := hlt j o ho; omega)).2.1]
      refine h2 ρ R a ?_ hn
      rw [← (hst j (by have := hlt j o ho; omega)).1]
      exact hl
    · intro j o e ho he hbe
      have := BN hb j o e (by simpa using ho) he hbe
      omega
    · intro i j hij hi hj l h1 h2
      rw [hq i hi] at h1
      rw [hq j hj] at h2
      have := qI h1 h2
      omega
    · intro j hj l hl
      rw [hq j hj] at hl
      exact ⟨s.c + j, by omega, by omega, hl⟩
    · intro i j oi oj hij hoi hoj h1 h2
      exact DA hap i j oi oj (by simpa using hoi) hoj (by omega) (by simpa using HO h1 h2)
    · intro i j hij hi hj h1 h2 l hl
      have hcs := C8 hcl i j (I3 (rc i)) (I3 (rc j)) (e5 i (by omega)) (e5 j (by omega)) (fun e => by have := hlabOf i l hl; rw [e] at this; cases this) (by omega) (by simpa using HO h1 h2)
      simp only [Nat.zero_add] at hcs
      unfold a6 at hcs
      have hmem := hlabOf i l hl
      cases hf : (rc j).foot with
      | some ls =>
        simp only [I3, hf] at hcs
        simp only [restr]
        rw [if_neg]
        intro hlm
        rw [List.any_eq_false] at hcs
        exact hcs l hmem (by simpa using hlm)
      | none =>
        simp only [I3, hf] at hcs
        simp only [restr]
        split at hcs
        · simp only [Bool.not_eq_false', List.isEmpty_iff] at hcs
          simp only [I3] at hmem
          rw [hcs] at hmem; cases hmem
        · rename_i hlt'
          have hu : Under (rc i).q l := by
            rw [List.any_eq_false] at hcs
            have := hcs l hmem
            simp only [Bool.not_eq_true', Bool.not_eq_false] at this
            exact yE this
          -- the label is a later one's own
          have : ∀ k, k ≤ j → stH rc (fun _ => true) (upd s.ov H0) k l = none := by
            intro k
            induction k with
            | zero =>
              intro _
              simp only [stH]
              cases hh : upd s.ov H0 l with
              | none => rfl
              | some ob =>
                obtain ⟨L, O, h3, _⟩ := hI.rs.heap.own l ob hh
                rw [hq i hi] at hu
                rw [hI.fresh l ⟨s.c + i, by omega, hu⟩] at h3; cases h3
            | succ k ih =>
              intro hk
              simp only [stH, if_true]
              by_cases hk2 : (rc k).u.has l
              · rcases hlabs k _ (Array.getElem?_eq_getElem (by omega)) l hk2 with h3 | h3
                · have hn := ih (by omega)
                  revert h3
                  cases (rc k).foot with
                  | none => simp only [restr]; intro h3; exact absurd hn h3
                  | some ls => simp only [restr]; split <;> intro h3 <;> first | exact absurd hn h3 | exact absurd rfl h3
                · rw [hq k (by omega)] at h3
                  rw [hq i hi] at hu
                  have := qI h3 hu
                  omega
              · rw [bQ hk2]; exact ih (by omega)
          exact this j (Nat.le_refl _)
    · intro j o d ho hd
      obtain ⟨i, hc, he⟩ := hins j o ho
      obtain ⟨_, _, _, _, _, hdn, _⟩ := oS hc
      exact hdn d hd
  refine wp_region_am hm hok hI.rs (fun l hl => by obtain ⟨j, h1, _, h2⟩ := hl; exact hI.fresh l ⟨j, h1, h2⟩) (fun a' ρ' R' w' hF hS => ?_)
  have hfin := hst ops.size (Nat.le_refl _)
  rw [hfin.1, hfin.2.1] at hS
  rw [← hlen, e2] at hfin hS
  refine hQ ρ' R' a' w' ⟨hS, ?_, ?_, ?_⟩
  · refine hI.fut.trans h0 hF (fun j ob hj => ?_) (fun _ h => h) (fun l hl => by obtain ⟨j, _, _, h2⟩ := hl; exact nD h2)
    rcases hI.lab j ob hj with h1 | h1
    · exact .inl h1
    · exact .inr (hf0 j h1)
  · intro l hl
    obtain ⟨j, hj, hl⟩ := hl
    have hjc : s.c + ops.size ≤ j := by rw [← hlen]; rw [hfin.2.2] at hj; omega
    have hfr := hI.fresh l ⟨j, by omega, hl⟩
    cases hρ : ρ' l with
    | none => rfl
    | some L =>
      rcases hF.win l L hρ with h6 | ⟨⟨i, _, h6, h7⟩, _⟩
      · rw [hfr] at h6; cases h6
      · have := qI hl h7
        omega
  · intro j ob hj
    have hfin2 := (hst ops.size (Nat.le_refl _)).2.1
    rw [← hlen, e2] at hfin2
    rw [← hfin2] at hj
    rcases D1 is.length hj with h2 | ⟨i, hi, h2⟩
    · obtain ⟨ob', h3⟩ := Option.ne_none_iff_exists'.1 h2
      exact hI.lab j ob' h3
    · rcases hok.lab i (by omega) h2 with h3 | h3
      · obtain ⟨ob', h4⟩ := Option.ne_none_iff_exists'.1 h3
        exact hI.lab j ob' h4
      · obtain ⟨k, _, _, h4⟩ := h3; exact .inr (nD h4)
end
end Go.Proofs.Ytbngfbpegdcpkaa
/-! The abstract machine: code, functions, calls. -/
namespace Go.Proofs.Ytbngfbpegdcpkaa
set_option linter.unusedVariables false
set_option linter.unusedSimpArgs false

inductive AEx where
  | normal
  | exit (id : Nat)
  | ret
  | goto (l : Nat)
deriving DecidableEq
def AEx.ex : AEx → Exit
  | .normal => .normal
  | .exit id => .exit id
  | .ret => .ret
  | .goto l => .goto l
def ACode.strip : ACode → ACode
  | .region ops draw _ => .region ops draw []
  | .seq a b => .seq a.strip b.strip
  | .cond c t e => .cond c t.strip e.strip
  | .block id b => .block id b.strip
  | .loop _ b => .loop [] b.strip
  | .scope l b r => .scope l b.strip r.strip
  | c => c
/-- what follows a label -/
def nG : ACode → Nat → Option ACode
  | .seq a b, l => match nG a l with
    | some r => some (.seq r b)
    | none => nG b l
  | .label l', l => if l' == l then some .skip else none
  | _, _ => none
def DX : Code → Option Nat
  | .seq a b => match DX a with
    | some l => some l
    | none => DX b
  | .label l => some l
  | _ => none
def bJ (P : Program) (n : Nat) : Code → Option ACode
  | .skip => some .skip
  | .region _ ops draw => (s9 P n ops ops.toList).bind fun is => if draw then (if FJ ops.toList 0 && BP ops (vN ops.toList []) ops.toList 0 then some (.region is (some (vN ops.toList [])) []) else none) else some (.region is none [])
  | .seq a b => (bJ P n a).bind fun x => (bJ P n b).bind fun y => some (.seq x y)
  | .cond c t e => (QE c).bind fun z => (bJ P n t).bind fun x => (bJ P n e).bind fun y => some (.cond z x y)
  | .block id b => (bJ P n b).bind fun x => some (.block id x)
  | .loop b => (bJ P n b).bind fun x => some (.loop [] x)
  | .exit id => some (.exit id)
  | .ret => some .ret
  | .label l => some (.label l)
  | .goto l => some (.goto l)
  | .scope c => (DX c).bind fun l => (bJ P n c).bind fun x => (nG x l).bind fun y => some (.scope l x y)
  | .rangeFunc .. => some .bad
  | .refuse _ => some .bad
abbrev lH := AEx → ASt → Prop
def WZ (k : ASt → Prop) (Q : lH) : lH := fun e s => match e with
  | .normal => k s
  | e => Q e s
def P1 (l : Nat) (J : ASt → Prop) (Q : lH) : lH := fun e s => match e with
  | .goto k => k = l ∧ J s
  | e => Q e s
def oM (f : lH → ASt → Prop) (l : Nat) (Q : lH) : Nat → ASt → Prop
  | 0, _ => False
  | m + 1, s => f (P1 l (oM f l Q m) Q) s
def vD (id : Nat) (Q : lH) : lH := fun e s => match e with
  | .exit k => if k = id then Q .normal s else Q (.exit k) s
  | e => Q e s
section
variable (call : b9) (H0 : aB) (p : Lab)
def xY (f : lH → ASt → Prop) (keep : List Nat) (Q : lH) : Nat → ASt → Prop
  | 0, _ => False
  | m + 1, s => f (WZ (xY f keep Q m) Q) { s with regs := restrict s.regs keep }
def awp : ACode → lH → ASt → Prop
  | .skip, Q, s => Q .normal s
  | .region ops draw keep, Q, s => ∃ s', oO call H0 p ops draw keep s = some s' ∧ Q .normal s'
  | .seq a b, Q, s => awp a (WZ (awp b Q) Q) s
  | .cond c t e, Q, s => match zC s.regs c with
    | some (.bool b) => if b then awp t Q s else awp e Q s
    | _ => False
  | .block id b, Q, s => awp b (vD id Q) s
  | .loop keep b, Q, s => ∃ m, xY (awp b) keep Q m s
  | .exit id, Q, s => Q (.exit id) s
  | .ret, Q, s => Q .ret s
  | .label _, Q, s => Q .normal s
  | .goto l, Q, s => Q (.goto l) s
  | .scope l b r, Q, s => awp b (P1 l (fun s' => ∃ m, oM (awp r) l Q m s') Q) s
  | .bad, _, _ => False
end
section
variable {P : Program} {n : Nat} {call : b9} {H0 : aB} {p : Lab} {ρ0 : bF} {R0 : Imm} {w0 : World}
def QM (n : Nat) (H0 : aB) (ρ0 : bF) (R0 : Imm) (w0 : World) (p : Lab) (Q : lH) : Exit → Act → World → Prop := fun e a w => ∃ ae s ρ R, e = AEx.ex ae ∧ Q ae s ∧ Inv n H0 ρ0 R0 w0 p s ρ R a w
theorem wG {r : RL} {t : Nat} {x : AV} : ∀ {keep : List Nat}, bE (restrict r keep) t = some x → bE r t = some x
  | [], h => by simp [restrict, bE] at h
  | k :: keep, h => by
    unfold restrict at h
    rw [List.filterMap_cons] at h
    cases hk : bE r k with
    | none => simp only [hk, Option.map_none] at h; exact wG (keep := keep) h
    | some y =>
      simp only [hk, Option.map_some, bE] at h
      split at h
      · rename_i e; subst e; rw [hk]; exact h
      · exact wG (keep := keep) h
theorem Inv.restrict {s : ASt} {ρ : bF} {R : Imm} {a : Act} {w : World} (h : Inv n H0 ρ0 R0 w0 p s ρ R a w) (keep : List Nat) : Inv n H0 ρ0 R0 w0 p { s with regs := Ytbngfbpegdcpkaa.restrict s.regs keep } ρ R a w :=
  ⟨⟨h.rs.size, h.rs.defers, fun t x hx => h.rs.regs t x (wG hx), h.rs.heap⟩, h.fut, h.fresh, h.lab⟩
theorem awp_mono {c : ACode} : ∀ {Q Q' : lH} {s : ASt}, (∀ e s, Q e s → Q' e s) → awp call H0 p c Q s → awp call H0 p c Q' s := by
  induction c with
  | skip => intro Q Q' s h hs; exact h _ _ hs
  | region ops draw keep => intro Q Q' s h ⟨s', h1, h2⟩; exact ⟨s', h1, h _ _ h2⟩
  | seq a b iha ihb =>
    intro Q Q' s h hs
    refine iha (fun e s he => ?_) hs
    cases e with
    | normal => exact ihb h he
    | exit id => exact h _ _ he
    | ret => exact h _ _ he
    | goto l => exact h _ _ he
  | cond c t e iht ihe =>
    intro Q Q' s h hs
    simp only [awp] at hs ⊢
    split at hs
    · split at hs
      · rename_i hb; rw [if_pos hb]; exact iht h hs
      · rename_i hb; rw [if_neg hb]; exact ihe h hs
    · exact hs.elim
  | block id b ih =>
    intro Q Q' s h hs
    refine ih (fun e s he => ?_) hs
    cases e with
    | normal => exact h _ _ he
    | exit k =>
      simp only [vD] at he ⊢
      split at he
      · rename_i hk; rw [if_pos hk]; exact h _ _ he
      · rename_i hk; rw [if_neg hk]; exact h _ _ he
    | ret => exact h _ _ he
    | goto l => exact h _ _ he
  | loop keep b ih =>
    intro Q Q' s h ⟨m, hm⟩
    refine ⟨m, ?_⟩
    induction m generalizing s with
    | zero => exact hm
    | succ m ihm =>
      refine ih (fun e s he => ?_) hm
      cases e with
      | normal => exact ihm he
      | exit id => exact h _ _ he
      | ret => exact h _ _ he
      | goto l => exact h _ _ he
  | exit id => intro Q Q' s h hs; exact h _ _ hs
  | ret => intro Q Q' s h hs; exact h _ _ hs
  | label l => intro Q Q' s h hs; exact h _ _ hs
  | goto l => intro Q Q' s h hs; exact h _ _ hs
  | bad => intro Q Q' s h hs; exact hs
  | scope l b r ihb ihr =>
    intro Q Q' s h hs
    have hr : ∀ m s, oM (awp call H0 p r) l Q m s → oM (awp call H0 p r) l Q' m s := by
      intro m
      induction m with
      | zero => intro s hs; exact hs
      | succ m ihm =>
        intro s hs
        refine ihr (fun e s he => ?_) hs
        cases e with
        | normal => exact h _ _ he
        | exit id => exact h _ _ he
        | ret => exact h _ _ he
        | goto k => exact ⟨he.1, ihm _ he.2⟩
    refine ihb (fun e s he => ?_) hs
    cases e with
    | normal => exact h _ _ he
    | exit id => exact h _ _ he
    | ret => exact h _ _ he
    | goto k => obtain ⟨h1, m, h2⟩ := he; exact ⟨h1, m, hr m _ h2⟩

/-- what a piece of code does, by the abstract machine -/
def SoundC (P : Program) (n : Nat) (call : b9) (H0 : aB) (p : Lab) (ρ0 : bF) (R0 : Imm) (w0 : World) (code : Code) : Prop := ∀ {ac : ACode} {Q : lH} {s : ASt} {ρ : bF} {R : Imm} {a : Act} {w : World}, bJ P n code = some ac.strip →
    awp call H0 p ac Q s → Inv n H0 ρ0 R0 w0 p s ρ R a w → code.wp P (QM n H0 ρ0 R0 w0 p Q) a w
theorem SoundC.seq {x y : Code} (ihx : SoundC P n call H0 p ρ0 R0 w0 x) (ihy : SoundC P n call H0 p ρ0 R0 w0 y) : SoundC P n call H0 p ρ0 R0 w0 (.seq x y) := by
  intro ac Q s ρ R a w hc h hI
  simp only [bJ, Option.bind_eq_some_iff, Option.some.injEq] at hc
  obtain ⟨x', hx, y', hy, hc⟩ := hc
  cases ac <;> simp [ACode.strip] at hc
  rename_i ax ay
  obtain ⟨rfl, rfl⟩ := hc
  refine wp_seq (wp_mono (ihx hx h hI) ?_)
  rintro e a1 w1 ⟨ae, s1, ρ1, R1, rfl, hq, hI1⟩
  cases ae with
  | normal => exact ihy hy hq hI1
  | exit id => exact ⟨.exit id, s1, ρ1, R1, rfl, hq, hI1⟩
  | ret => exact ⟨.ret, s1, ρ1, R1, rfl, hq, hI1⟩
  | goto l => exact ⟨.goto l, s1, ρ1, R1, rfl, hq, hI1⟩
theorem wD : ∀ {c : Code} {x : ACode} {l : Nat}, bJ P n c = some x → match findLabel c l, nG x l with
    | some r, some y => bJ P n r = some y
    | none, none => True
    | _, _ => False
  | .seq a b, x, l, h => by
    simp only [bJ, Option.bind_eq_some_iff, Option.some.injEq] at h
    obtain ⟨x', hx, y', hy, rfl⟩ := h
    have h1 := wD (l := l) hx
    have h2 := wD (l := l) hy
    simp only [findLabel, nG]
    cases hf : findLabel a l <;> cases hg : nG x' l <;> simp only [hf, hg] at h1 ⊢
    · exact h2
    · simp [bJ, h1, hy]
  | .label k, x, l, h => by
    simp only [bJ, Option.some.injEq] at h; subst h
    simp only [findLabel, nG]
    by_cases e : k == l <;> simp [e, bJ]
  | .skip, x, l, h => by simp only [bJ, Option.some.injEq] at h; subst h; simp [findLabel, nG]
  | .ret, x, l, h => by simp only [bJ, Option.some.injEq] at h; subst h; simp [findLabel, nG]
  | .exit k, x, l, h => by simp only [bJ, Option.some.injEq] at h; subst h; simp [findLabel, nG]
  | .goto k, x, l, h => by simp only [bJ, Option.some.injEq] at h; subst h; simp [findLabel, nG]
  | .rangeFunc .., x, l, h => by simp only [bJ, Option.some.injEq] at h; subst h; simp [findLabel, nG]
  | .refuse _, x, l, h => by simp only [bJ, Option.some.injEq] at h; subst h; simp [findLabel, nG]
  | .region _ ops d, x, l, h => by
    simp only [bJ, Option.bind_eq_some_iff] at h
    obtain ⟨is, _, h⟩ := h
    split at h
    · split at h
      · simp only [Option.some.injEq] at h; subst h; simp [findLabel, nG]
      · cases h
    · simp only [Option.some.injEq] at h; subst h; simp [findLabel, nG]
  | .cond c t e, x, l, h => by
    simp only [bJ, Option.bind_eq_some_iff, Option.some.injEq] at h
    obtain ⟨_, _, _, _, _, _, rfl⟩ := h
    simp [findLabel, nG]
  | .block _ b, x, l, h => by
    simp only [bJ, Option.bind_eq_some_iff, Option.some.injEq] at h
    obtain ⟨_, _, rfl⟩ := h
    simp [findLabel, nG]
  | .loop b, x, l, h => by
    simp only [bJ, Option.bind_eq_some_iff, Option.some.injEq] at h
    obtain ⟨_, _, rfl⟩ := h
    simp [findLabel, nG]
  | .scope c, x, l, h => by
    simp only [bJ, Option.bind_eq_some_iff, Option.some.injEq] at h
    obtain ⟨_, _, _, _, _, _, rfl⟩ := h
    simp [findLabel, nG]
/-- xY from a label on -/
def D3 (P : Program) (rest : Code) (l : Nat) (Q : Exit → Act → World → Prop) : Nat → Act → World → Prop
  | 0, _, _ => False
  | m + 1, a, w => rest.wp P (Exit.jump l (D3 P rest l Q m) Q) a w
theorem yN {c rest : Code} {l : Nat} {a : Act} {w : World} {Q : Exit → Act → World → Prop} (hf : findLabel c l = some rest) (h : c.wp P (Exit.jump l (fun a w => ∃ m, D3 P rest l Q m a w) Q) a w) : (Code.scope c).wp P Q a w := by
  intro b k cs
  have hg : gotoIn l (.inScope c :: k) = some (.code rest :: .inScope c :: k) := by simp [gotoIn, hf]
  have key : ∀ m a w, D3 P rest l Q m a w → ∃ e a' w', Q e a' w' ∧ Arrives P (lone (b.at a (.code rest :: .inScope c :: k)) cs w) b k cs e a' w' := by
    intro m
    induction m with
    | zero => intro a w h; exact h.elim
    | succ m ih =>
      intro a w h
      obtain ⟨e, a₁, w₁, hq, harr⟩ := h b (.inScope c :: k) cs
      cases e with
      | normal => exact ⟨.normal, a₁, w₁, hq, Steps.trans harr (.one step_inScope)⟩
      | exit id => exact ⟨.exit id, a₁, w₁, hq, fun k' hk => harr k' (by simp [exitTo, hk])⟩
      | goto l' =>
        obtain ⟨rfl, hJ⟩ := hq
        obtain ⟨e₂, a₂, w₂, hq₂, harr₂⟩ := ih a₁ w₁ hJ
        exact ⟨e₂, a₂, w₂, hq₂, .of_steps (harr _ hg) harr₂⟩
      | ret => exact ⟨_, a₁, w₁, hq, harr⟩
      | panic ch => exact ⟨_, a₁, w₁, hq, harr⟩
      | outgrown => exact ⟨_, a₁, w₁, hq, harr⟩
  obtain ⟨e, a₁, w₁, hq, harr⟩ := h b (.inScope c :: k) cs
  cases e with
  | normal => exact ⟨.normal, a₁, w₁, hq, .head step_scope (Steps.trans harr (.one step_inScope))⟩
  | exit id => exact ⟨.exit id, a₁, w₁, hq, fun k' hk => .head step_scope (harr k' (by simp [exitTo, hk]))⟩
  | goto l' =>
    obtain ⟨rfl, m, hJ⟩ := hq
    obtain ⟨e₂, a₂, w₂, hq₂, harr₂⟩ := key m a₁ w₁ hJ
    exact ⟨e₂, a₂, w₂, hq₂, .of_steps (.head step_scope (harr _ hg)) harr₂⟩
  | ret => exact ⟨_, a₁, w₁, hq, .of_steps (.one step_scope) harr⟩
  | panic ch => exact ⟨_, a₁, w₁, hq, .of_steps (.one step_scope) harr⟩
  | outgrown => exact ⟨_, a₁, w₁, hq, .of_steps (.one step_scope) harr⟩
theorem awp_sound_all (hm : P.follows .mixedOrders = true) (hcall : iS P call) (h0 : Rep H0 ρ0 R0 w0) (hf0 : ∀ l, Under p l → ρ0 l = none) (code : Code) : SoundC P n call H0 p ρ0 R0 w0 code ∧ ∀ l rest, findLabel code l = some rest → SoundC P n call H0 p ρ0 R0 w0 rest := by
  induction code with
  | skip =>
    refine ⟨?_, fun l rest h => by simp [findLabel] at h⟩
    intro ac Q s ρ R a w hc h hI
    cases ac <;> simp [bJ, ACode.strip] at hc
    exact wp_skip ⟨.normal, s, ρ, R, rfl, h, hI⟩
  | region id ops draw =>
    refine ⟨?_, fun l rest h => by simp [findLabel] at h⟩
    intro ac Q s ρ R a w hc h hI
    simp only [bJ, Option.bind_eq_some_iff] at hc
    obtain ⟨is, his, hc⟩ := hc
    cases draw with
    | false =>
      simp only [Bool.false_eq_true, if_false, Option.some.injEq] at hc
      cases ac <;> simp [ACode.strip] at hc
      rename_i ops' draw' keep
      obtain ⟨rfl, rfl⟩ := hc
      obtain ⟨s', h1, h2⟩ := h
      simp only [oO, Option.bind_eq_some_iff, Option.some.injEq] at h1
      obtain ⟨s1, h1, rfl⟩ := h1
      exact seq_sound hcall his h0 hf0 h1 hI (fun ρ R a w hI' => ⟨.normal, _, ρ, R, rfl, h2, hI'.restrict keep⟩)
    | true =>
      simp only [if_true] at hc
      split at hc
      · rename_i hst
        simp only [Bool.and_eq_true] at hst
        simp only [Option.some.injEq] at hc
        cases ac <;> simp [ACode.strip] at hc
        rename_i ops' draw' keep
        obtain ⟨rfl, rfl⟩ := hc
        obtain ⟨s', h1, h2⟩ := h
        simp only [oO, Option.bind_eq_some_iff] at h1
        obtain ⟨⟨s1, trs⟩, h1, h3⟩ := h1
        split at h3
        · cases h3
        · rename_i hcl
          simp only [Option.some.injEq] at h3
          subst h3
          exact IL hm hcall his hst.1 hst.2 h0 hf0 h1 (by simpa using hcl) hI (fun ρ R a w hI' => ⟨.normal, _, ρ, R, rfl, h2, hI'.restrict keep⟩)
      · cases hc
  | seq x y ihx ihy =>
    refine ⟨SoundC.seq ihx.1 ihy.1, fun l rest h => ?_⟩
    simp only [findLabel] at h
    cases hf : findLabel x l with
    | some r => simp only [hf, Option.some.injEq] at h; subst h; exact SoundC.seq (ihx.2 l r hf) ihy.1
    | none => simp only [hf] at h; exact ihy.2 l rest h
  | cond c t e iht ihe =>
    refine ⟨?_, fun l rest h => by simp [findLabel] at h⟩
    intro ac Q s ρ R a w hc h hI
    simp only [bJ, Option.bind_eq_some_iff, Option.some.injEq] at hc
    obtain ⟨z, hz, x', hx, y', hy, hc⟩ := hc
    cases ac <;> simp [ACode.strip] at hc
    rename_i z' ax ay
    obtain ⟨rfl, rfl, rfl⟩ := hc
    simp only [awp] at h
    split at h
    · rename_i b hb
      have hv := (FL (ρ := ρ) (R := R) (a := a) hz hb (fun t ht y hy => hI.rs.regs t y hy)).bool_inv
      split at h
      · rename_i hbt; subst hbt
        exact wp_cond_true hv (iht.1 hx h hI)
      · rename_i hbt
        have : b = false := by simpa using hbt
        subst this
        exact wp_cond_false hv (ihe.1 hy h hI)
    · exact h.elim
  | block id b ih =>
    refine ⟨?_, fun l rest h => by simp [findLabel] at h⟩
    intro ac Q s ρ R a w hc h hI
    simp only [bJ, Option.bind_eq_some_iff, Option.some.injEq] at hc
    obtain ⟨x', hx, hc⟩ := hc
    cases ac <;> simp [ACode.strip] at hc
    rename_i id' ax
    obtain ⟨rfl, rfl⟩ := hc
    refine wp_block (wp_mono (ih.1 hx h hI) ?_)
    rintro e a1 w1 ⟨ae, s1, ρ1, R1, rfl, hq, hI1⟩
    cases ae with
    | normal => exact ⟨.normal, s1, ρ1, R1, rfl, hq, hI1⟩
    | exit k =>
      simp only [vD] at hq
      simp only [AEx.ex, Exit.inBlock]
      split at hq
      · rename_i hk; rw [if_pos hk]; exact ⟨.normal, s1, ρ1, R1, rfl, hq, hI1⟩
      · rename_i hk; rw [if_neg hk]; exact ⟨.exit k, s1, ρ1, R1, rfl, hq, hI1⟩
    | ret => exact ⟨.ret, s1, ρ1, R1, rfl, hq, hI1⟩
    | goto l => exact ⟨.goto l, s1, ρ1, R1, rfl, hq, hI1⟩
  | loop b ih =>
    refine ⟨?_, fun l rest h => by simp [findLabel] at h⟩
    intro ac Q s ρ R a w hc h hI
    simp only [bJ, Option.bind_eq_some_iff, Option.some.injEq] at hc
    obtain ⟨x', hx, hc⟩ := hc
    cases ac <;> simp [ACode.strip] at hc
    rename_i keep ax
    subst hc
    obtain ⟨m, hr⟩ := h
    refine wp_loop_rounds m ?_
    induction m generalizing s ρ R a w with
    | zero => exact hr.elim
    | succ m ihm =>
      rw [rounds_succ]
      refine wp_mono (ih.1 hx hr (hI.restrict keep)) ?_
      rintro e a1 w1 ⟨ae, s1, ρ1, R1, rfl, hq, hI1⟩
      cases ae with
      | normal => exact ihm hI1 hq
      | exit id => exact ⟨.exit id, s1, ρ1, R1, rfl, hq, hI1⟩
      | ret => exact ⟨.ret, s1, ρ1, R1, rfl, hq, hI1⟩
      | goto l => exact ⟨.goto l, s1, ρ1, R1, rfl, hq, hI1⟩
  | exit id =>
    refine ⟨?_, fun l rest h => by simp [findLabel] at h⟩
    intro ac Q s ρ R a w hc h hI
    cases ac <;> simp [bJ, ACode.strip] at hc
    subst hc
    exact wp_exit ⟨.exit _, s, ρ, R, rfl, h, hI⟩
  | ret =>
    refine ⟨?_, fun l rest h => by simp [findLabel] at h⟩
    intro ac Q s ρ R a w hc h hI
    cases ac <;> simp [bJ, ACode.strip] at hc
    exact wp_ret ⟨.ret, s, ρ, R, rfl, h, hI⟩
  | rangeFunc f ps x y =>
    refine ⟨?_, fun l rest h => by simp [findLabel] at h⟩
    intro ac Q s ρ R a w hc h hI
    cases ac <;> simp [bJ, ACode.strip] at hc
    exact h.elim
  | refuse why =>
    refine ⟨?_, fun l rest h => by simp [findLabel] at h⟩
    intro ac Q s ρ R a w hc h hI
    cases ac <;> simp [bJ, ACode.strip] at hc
    exact h.elim
  | scope c ih =>
    refine ⟨?_, fun l rest h => by simp [findLabel] at h⟩
    intro ac Q s ρ R a w hc h hI
    simp only [bJ, Option.bind_eq_some_iff, Option.some.injEq] at hc
    obtain ⟨l, _, x, hx, y, hy, hc⟩ := hc
    cases ac <;> simp [ACode.strip] at hc
    rename_i l' ab ar
    obtain ⟨rfl, rfl, rfl⟩ := hc
    have hl := wD (l := l) hx
    rw [hy] at hl
    cases hf : findLabel c l with
    | none => simp only [hf] at hl
    | some rest =>
      simp only [hf] at hl
      have hrest : SoundC P n call H0 p ρ0 R0 w0 rest := ih.2 l rest hf
      refine yN hf (wp_mono (ih.1 hx h hI) ?_)
      have key : ∀ m s ρ R a w, oM (awp call H0 p ar) l Q m s → Inv n H0 ρ0 R0 w0 p s ρ R a w → D3 P rest l (QM n H0 ρ0 R0 w0 p Q) m a w := by
        intro m
        induction m with
        | zero => intro s ρ R a w h _; exact h.elim
        | succ m ihm =>
          intro s ρ R a w h hI
          refine wp_mono (hrest hl h hI) ?_
          rintro e a1 w1 ⟨ae, s1, ρ1, R1, rfl, hq, hI1⟩
          cases ae with
          | normal => exact ⟨.normal, s1, ρ1, R1, rfl, hq, hI1⟩
          | exit id => exact ⟨.exit id, s1, ρ1, R1, rfl, hq, hI1⟩
          | ret => exact ⟨.ret, s1, ρ1, R1, rfl, hq, hI1⟩
          | goto k => exact ⟨hq.1, ihm s1 ρ1 R1 a1 w1 hq.2 hI1⟩
      rintro e a1 w1 ⟨ae, s1, ρ1, R1, rfl, hq, hI1⟩
      cases ae with
      | normal => exact ⟨.normal, s1, ρ1, R1, rfl, hq, hI1⟩
      | exit id => exact ⟨.exit id, s1, ρ1, R1, rfl, hq, hI1⟩
      | ret => exact ⟨.ret, s1, ρ1, R1, rfl, hq, hI1⟩
      | goto k => obtain ⟨h1, m, h2⟩ := hq; exact ⟨h1, m, key m s1 ρ1 R1 a1 w1 h2 hI1⟩
  | label l =>
    refine ⟨?_, fun k rest h => ?_⟩
    · intro ac Q s ρ R a w hc h hI
      cases ac <;> simp [bJ, ACode.strip] at hc
      exact wp_label ⟨.normal, s, ρ, R, rfl, h, hI⟩
    · simp only [findLabel] at h
      split at h
      · cases h
        intro ac Q s ρ R a w hc h hI
        cases ac <;> simp [bJ, ACode.strip] at hc
        exact wp_skip ⟨.normal, s, ρ, R, rfl, h, hI⟩
      · cases h
  | goto l =>
    refine ⟨?_, fun l rest h => by simp [findLabel] at h⟩
    intro ac Q s ρ R a w hc h hI
    cases ac <;> simp [bJ, ACode.strip] at hc
    subst hc
    exact wp_goto ⟨.goto _, s, ρ, R, rfl, h, hI⟩
theorem awp_sound (hm : P.follows .mixedOrders = true) (hcall : iS P call) (h0 : Rep H0 ρ0 R0 w0) (hf0 : ∀ l, Under p l → ρ0 l = none) {code : Code} {ac : ACode} {Q : lH} {s : ASt} {ρ : bF} {R : Imm} {a : Act} {w : World} (hc : bJ P n code = some ac.strip)
    (h : awp call H0 p ac Q s) (hI : Inv n H0 ρ0 R0 w0 p s ρ R a w) : code.wp P (QM n H0 ρ0 R0 w0 p Q) a w := (awp_sound_all hm hcall h0 hf0 code).1 hc h hI
end

/-! Functions. -/
inductive AResV where
  | tmp (t : Nat)
  | cell (t n : Nat) (agg : Bool)
structure AFun where
  np : Nat
  nt : Nat
  res : List AResV
  body : ACode
def wA (P : Program) : List ResultVar → Option (List AResV)
  | [] => some []
  | .tmp t :: rs => (wA P rs).bind fun l => some (.tmp t :: l)
  | .cell t T :: rs => (P.underlying T).bind fun d => (P.info? T).bind fun i => if gJ d = true ∨ i.size = 1 then (wA P rs).bind fun l => some (.cell t i.size (gJ d) :: l) else none
structure FunOk (P : Program) (f : Nat) (A : AFun) : Prop where
  ex : ∃ fn c, P.funcs[f]? = some fn ∧ fn.body = some c ∧ (fn.name == "runtime.NumGoroutine") = false ∧ fn.ntmps = A.nt ∧ bJ P A.nt c = some A.body.strip ∧ wA P fn.results.toList = some A.res
  np : A.np ≤ A.nt
def nA (H : aB) (r : RL) : AResV → Option AV
  | .tmp t => bE r t
  | .cell t n agg => (bE r t).bind fun x => (oW n agg x H []).map (·.x)
def iV (H : aB) (r : RL) : List AResV → Option (List AV)
  | [] => some []
  | x :: xs => (nA H r x).bind fun v => (iV H r xs).bind fun vs => some (v :: vs)
def j1 (H : aB) (r : RL) (l : List AResV) : Option AV := (iV H r l).map fun vs => match vs with
  | [x] => x
  | vs => .tuple vs
def params : Nat → List AV → RL
  | _, [] => []
  | k, x :: xs => (k, x) :: params (k + 1) xs
def m9 (xs : List AV) : ASt := ⟨params 0 xs, [], 0⟩
end Go.Proofs.Ytbngfbpegdcpkaa
/-! The abstract machine: calls; running it out. -/
namespace Go.Proofs.Ytbngfbpegdcpkaa
set_option linter.unusedVariables false
set_option linter.unusedSimpArgs false
section
variable {P : Program} {n : Nat} {call : b9} {H : aB} {q : Lab} {ρ : bF} {R : Imm} {a : Act} {w : World}

theorem load_run {T : TypeId} {x : AV} {v : Value} {d : TypeDesc} {i : TypeInfo} {r : Res} (hd : P.underlying T = some d) (hi : P.info? T = some i) (h1 : gJ d = false → i.size = 1) (hx : RepV ρ R x v) (hR : Rep H ρ R w)
    (h : oW i.size (gJ d) x H q = some r) : ∃ ad u, v = .pointer (some ad) ∧ (loadVar T ad).run P w = .ok u w ∧ RepV ρ R r.x u := by
  cases x <;> simp only [oW] at h <;> try (cases h; done)
  case ptr l e ii j =>
    cases hl : H l with
    | none => simp [hl] at h
    | some ob =>
      cases ob with
      | amap es bs ck => simp [hl] at h
      | bag es => simp [hl] at h
      | iter => simp [hl] at h
      | rows e' rs =>
        simp only [hl] at h
        split at h
        · rename_i he; subst he
          simp only [Option.bind_eq_some_iff, Option.some.injEq] at h
          obtain ⟨cs, hc, y, hw, rfl⟩ := h
          obtain ⟨L, O, h2, h3, h4⟩ := hR.own l _ hl
          obtain ⟨vs, hvl, hvc, hvr⟩ := K1 h4 hc (fun _ _ e => by cases e; rfl) h3
          obtain ⟨L', hL', hv⟩ := hx.ptr_inv
          rw [h2] at hL'; cases hL'
          exact ⟨_, _, hv, vJ hd hi w _ vs hvc hvl h1, zF hw (hvl.trans (rS hc).1.symm) hvr⟩
        · cases h
  case iptr e rows ii j =>
    simp only [Option.bind_eq_some_iff, Option.some.injEq] at h
    obtain ⟨cs, hc, y, hw, rfl⟩ := h
    obtain ⟨b, o', c, T', fz, g, hb, hcc, hr, hv⟩ := hx.iptr_inv
    obtain ⟨vs, hvl, hvc, hvr⟩ := P3 hc hcc hr (hR.imm _ _ hb)
    exact ⟨_, _, hv, vJ hd hi w _ vs hvc hvl h1, zF hw (hvl.trans (rS hc).1.symm) hvr⟩
/-- what one result variable holds -/
def E5 (tmps : Array Value) : ResultVar → Sem Value
  | .tmp t => pure (tmps.getD t undef)
  | .cell b t => do loadVar t (← asAddr (tmps.getD b undef))
theorem LK {r : RL} (hS : RepS n (bE r) H ρ R a w) : ∀ {l : List ResultVar} {rs : List AResV} {xs : List AV}, wA P l = some rs → iV H r rs = some xs → ∃ vs, (l.mapM (E5 a.tmps)).run P w = .ok vs w ∧ RepL ρ R xs vs
  | [], rs, xs, h, hx => by
    simp only [wA, Option.some.injEq] at h; subst h
    simp only [iV, Option.some.injEq] at hx; subst hx
    exact ⟨[], rfl, .nil⟩
  | .tmp t :: l, rs, xs, h, hx => by
    simp only [wA, Option.bind_eq_some_iff, Option.some.injEq] at h
    obtain ⟨rs', hrs, rfl⟩ := h
    simp only [iV, nA, Option.bind_eq_some_iff, Option.some.injEq] at hx
    obtain ⟨v, hv, vs, hvs, rfl⟩ := hx
    obtain ⟨us, h1, h2⟩ := LK hS hrs hvs
    exact ⟨a.tmps.getD t undef :: us, by simp [List.mapM_cons, E5, h1], .cons (hS.regs t v hv) h2⟩
  | .cell t T :: l, rs, xs, h, hx => by
    simp only [wA, Option.bind_eq_some_iff] at h
    obtain ⟨d, hd, i, hi, h⟩ := h
    split at h
    · rename_i hc
      simp only [Option.bind_eq_some_iff, Option.some.injEq] at h
      obtain ⟨rs', hrs, rfl⟩ := h
      simp only [iV, nA, Option.bind_eq_some_iff, Option.some.injEq, Option.map_eq_some_iff] at hx
      obtain ⟨_, ⟨v, hv, r0, hr0, rfl⟩, vs, hvs, rfl⟩ := hx
      obtain ⟨us, h1, h2⟩ := LK hS hrs hvs
      obtain ⟨ad, u, h3, h4, h5⟩ := load_run (P := P) hd hi (fun e => by simpa [e] using hc) (hS.regs t v hv) hS.heap hr0
      refine ⟨u :: us, ?_, .cons h5 h2⟩
      have ha : (asAddr (a.tmps.getD t undef)).run P w = .ok ad w := by rw [h3]; rfl
      have hcell : (E5 a.tmps (.cell t T)).run P w = .ok u w := by
        simp only [E5, Sem.run_bind, ha, Result.andThen_ok, h4]
      simp [List.mapM_cons, hcell, h1]
    · cases h
theorem results_eq (fn : Func) (tmps : Array Value) : results fn tmps = (do let vs ← fn.results.mapM (E5 tmps); pure (if h : vs.size = 1 then vs[0] else .tuple vs)) := by
  unfold results
  congr 1
theorem zN {fn : Func} {r : RL} {rs : List AResV} {x : AV} (hS : RepS n (bE r) H ρ R a w) (hc : wA P fn.results.toList = some rs) (hx : j1 H r rs = some x) : ∃ v, (results fn a.tmps).run P w = .ok v w ∧ RepV ρ R x v := by
  unfold j1 at hx
  simp only [Option.map_eq_some_iff] at hx
  obtain ⟨xs, hxs, hx⟩ := hx
  obtain ⟨vs, h1, h2⟩ := LK hS hc hxs
  have hm : (fn.results.mapM (E5 a.tmps)).run P w = .ok vs.toArray w := by
    rw [Array.mapM_eq_mapM_toList, Sem.run_map, h1]; rfl
  rw [results_eq]
  simp only [Sem.run_bind, hm, Result.andThen_ok, Sem.run_pure]
  refine ⟨_, rfl, ?_⟩
  match xs, vs, h2, hx with
  | [y], vs, h2, hx =>
    obtain ⟨v, us, rfl, hv, hus⟩ := h2.head
    have := hus.nil_inv; subst this
    simp only at hx; subst hx
    simpa using hv
  | [], vs, h2, hx =>
    have := h2.nil_inv; subst this
    simp only at hx; subst hx
    exact RepL.tuple .nil
  | y :: z :: ys, vs, h2, hx =>
    simp only at hx; subst hx
    have hl := h2.1
    have : ¬ vs.toArray.size = 1 := by simp at hl ⊢; omega
    rw [dif_neg this]
    exact h2.tuple
theorem yA : ∀ (xs : List AV) (k t : Nat), bE (params k xs) t = if k ≤ t then xs[t - k]? else none
  | [], k, t => by simp [params, bE]
  | x :: xs, k, t => by
    simp only [params, bE, yA xs (k + 1) t]
    by_cases h : t = k
    · subst h; simp
    · rw [if_neg h]
      by_cases h2 : k ≤ t
      · rw [if_pos (by omega), if_pos h2, show t - k = (t - (k + 1)) + 1 by omega, List.getElem?_cons_succ]
      · rw [if_neg (by omega), if_neg h2]
/-- what a body's end is to be for its caller -/
def Z9 (H : aB) (res : List AResV) (K : AV → Chg → Prop) : lH := fun e s => (e = .normal ∨ e = .ret) ∧ ∃ x u, j1 (upd s.ov H) s.regs res = some x ∧ (∀ l o, upd u H l = some o → upd s.ov H l = some o) ∧ K x u
theorem B6 (hm : P.follows .mixedOrders = true) (hcall : iS P call) {f : Nat} {A : AFun} (hA : FunOk P f A) {xs : List AV} (hlen : xs.length = A.np) {K : AV → Chg → Prop} (h : awp call H q A.body (Z9 H A.res K) (m9 xs)) {vs : List Value} (hvs : RepL ρ R xs vs) :
    ∀ w, Rep H ρ R w → (∀ l, Under q l → ρ l = none) → sA P f vs.toArray w (fun v w' => ∃ x u ρ' R', K x u ∧ Fut H ρ R w (Under q) ρ' R' w' ∧ RepV ρ' R' x v ∧ Rep (upd u H) ρ' R' w') := by
  intro w hR hfr
  obtain ⟨⟨fn, c, hf, hb, hn, hnt, hc, hres⟩, hnp⟩ := hA
  have hvl := hvs.1
  refine calls_of_wp hf hb ?_
  have hI : Inv A.nt H ρ R w q (m9 xs) ρ R { tmps := vs.toArray ++ Array.replicate (fn.ntmps - vs.toArray.size) undef, defers := [] } w := by
    refine ⟨⟨?_, rfl, fun t x hx => ?_, ?_⟩, Fut.refl _ _ _ _ _, fun l hl => hfr l hl.under, fun k o hk => .inl (by simp only [m9, upd] at hk; rw [hk]; simp)⟩
    · simp; omega
    · simp only [m9, yA, Nat.zero_le, if_true, Nat.sub_zero] at hx
      obtain ⟨v, hv, hr⟩ := hvs.2 t x hx
      have ht : t < vs.length := (List.getElem?_eq_some_iff.1 hv).1
      have : (vs.toArray ++ Array.replicate (fn.ntmps - vs.toArray.size) undef).getD t undef = v := by
        rw [Array.getD_eq_getD_getElem?, Array.getElem?_append_left (by simpa using ht)]
        simp [hv]
      rw [this]; exact hr
    · simpa [m9, upd] using hR
  refine wp_mono (awp_sound hm hcall hR hfr hc h hI) ?_
  rintro e a' w' ⟨ae, s, ρ', R', rfl, ⟨hae, x, u, hx, hsub, hK⟩, hI'⟩
  obtain ⟨v, hv, hrv⟩ := zN hI'.rs hres hx
  have hpost : a'.defers = [] ∧ ∃ v, (results fn a'.tmps).run P w' = .ok v w' ∧ ∃ v', Ending.returned v = .returned v' ∧ ∃ x u ρ' R', K x u ∧ Fut H ρ R w (Under q) ρ' R' w' ∧ RepV ρ' R' x v' ∧ Rep (upd u H) ρ' R' w' :=
    ⟨hI'.rs.defers, v, hv, v, rfl, x, u, ρ', R', hK, hI'.fut, hrv, hI'.rs.heap.drop hsub⟩
  rcases hae with rfl | rfl <;> exact hpost
end

/-! Running it out. -/
section
variable (call : b9) (H0 : aB) (p : Lab)
def NY (f : ASt → Option (AEx × ASt)) (keep : List Nat) : Nat → ASt → Option (AEx × ASt)
  | 0, _ => none
  | m + 1, s => (f { s with regs := restrict s.regs keep }).bind fun r => match r.1 with
    | .normal => NY f keep m r.2
    | e => some (e, r.2)
def IP (f : ASt → Option (AEx × ASt)) (l : Nat) : Nat → ASt → Option (AEx × ASt)
  | 0, _ => none
  | m + 1, s => (f s).bind fun q => match q.1 with
    | .goto k => if k = l then IP f l m q.2 else none
    | e => some (e, q.2)
def nL (fuel : Nat) : ACode → ASt → Option (AEx × ASt)
  | .skip, s => some (.normal, s)
  | .region ops draw keep, s => (oO call H0 p ops draw keep s).bind fun s' => some (.normal, s')
  | .seq a b, s => (nL fuel a s).bind fun r => match r.1 with
    | .normal => nL fuel b r.2
    | e => some (e, r.2)
  | .cond c t e, s => match zC s.regs c with
    | some (.bool true) => nL fuel t s
    | some (.bool false) => nL fuel e s
    | _ => none
  | .block id b, s => (nL fuel b s).bind fun r => match r.1 with
    | .exit k => if k = id then some (.normal, r.2) else some (.exit k, r.2)
    | e => some (e, r.2)
  | .loop keep b, s => NY (nL fuel b) keep fuel s
  | .exit id, s => some (.exit id, s)
  | .ret, s => some (.ret, s)
  | .label _, s => some (.normal, s)
  | .goto l, s => some (.goto l, s)
  | .scope l b r, s => (nL fuel b s).bind fun q => match q.1 with
    | .goto k => if k = l then IP (nL fuel r) l fuel q.2 else none
    | e => some (e, q.2)
  | .bad, _ => none
end
theorem NN {call : b9} {H0 : aB} {p : Lab} {fuel : Nat} {c : ACode} : ∀ {s s' : ASt} {e : AEx} {Q : lH}, nL call H0 p fuel c s = some (e, s') → Q e s' → awp call H0 p c Q s := by
  induction c with
  | skip => intro s s' e Q h hQ; simp only [nL, Option.some.injEq, Prod.mk.injEq] at h; obtain ⟨rfl, rfl⟩ := h; exact hQ
  | region ops draw keep =>
    intro s s' e Q h hQ
    simp only [nL, Option.bind_eq_some_iff, Option.some.injEq, Prod.mk.injEq] at h
    obtain ⟨s1, h1, rfl, rfl⟩ := h
    exact ⟨_, h1, hQ⟩
  | seq a b iha ihb =>
    intro s s' e Q h hQ
    simp only [nL, Option.bind_eq_some_iff] at h
    obtain ⟨⟨e1, s1⟩, h1, h2⟩ := h
    refine iha h1 ?_
    cases e1 with
    | normal => exact ihb h2 hQ
    | exit id => simp only [Option.some.injEq, Prod.mk.injEq] at h2; obtain ⟨rfl, rfl⟩ := h2; exact hQ
    | ret => simp only [Option.some.injEq, Prod.mk.injEq] at h2; obtain ⟨rfl, rfl⟩ := h2; exact hQ
    | goto l => simp only [Option.some.injEq, Prod.mk.injEq] at h2; obtain ⟨rfl, rfl⟩ := h2; exact hQ
  | cond c t e iht ihe =>
    intro s s' e' Q h hQ
    simp only [nL] at h
    simp only [awp]
    split at h
    · rename_i hc; rw [hc]; exact iht h hQ
    · rename_i hc; rw [hc]; exact ihe h hQ
    · cases h
  | block id b ih =>
    intro s s' e Q h hQ
    simp only [nL, Option.bind_eq_some_iff] at h
    obtain ⟨⟨e1, s1⟩, h1, h2⟩ := h
    refine ih h1 ?_
    cases e1 with
    | normal => simp only [Option.some.injEq, Prod.mk.injEq] at h2; obtain ⟨rfl, rfl⟩ := h2; exact hQ
    | exit k =>
      simp only [vD]
      simp only at h2
      split at h2
      · rename_i hk; rw [if_pos hk]; simp only [Option.some.injEq, Prod.mk.injEq] at h2; obtain ⟨rfl, rfl⟩ := h2; exact hQ
      · rename_i hk; rw [if_neg hk]; simp only [Option.some.injEq, Prod.mk.injEq] at h2; obtain ⟨rfl, rfl⟩ := h2; exact hQ
    | ret => simp only [Option.some.injEq, Prod.mk.injEq] at h2; obtain ⟨rfl, rfl⟩ := h2; exact hQ
    | goto l => simp only [Option.some.injEq, Prod.mk.injEq] at h2; obtain ⟨rfl, rfl⟩ := h2; exact hQ
  | loop keep b ih =>
    intro s s' e Q h hQ
    simp only [nL] at h
    refine ⟨fuel, ?_⟩
    have key : ∀ m s, NY (nL call H0 p fuel b) keep m s = some (e, s') → xY (awp call H0 p b) keep Q m s := by
      intro m
      induction m with
      | zero => intro s h; simp [NY] at h
      | succ m ihm =>
        intro s h
        simp only [NY, Option.bind_eq_some_iff] at h
        obtain ⟨⟨e1, s1⟩, h1, h2⟩ := h
        refine ih h1 ?_
        cases e1 with
        | normal => exact ihm s1 h2
        | exit id => simp only [Option.some.injEq, Prod.mk.injEq] at h2; obtain ⟨rfl, rfl⟩ := h2; exact hQ
        | ret => simp only [Option.some.injEq, Prod.mk.injEq] at h2; obtain ⟨rfl, rfl⟩ := h2; exact hQ
        | goto l => simp only [Option.some.injEq, Prod.mk.injEq] at h2; obtain ⟨rfl, rfl⟩ := h2; exact hQ
    exact key fuel s h
  | label l => intro s s' e Q h hQ; simp only [nL, Option.some.injEq, Prod.mk.injEq] at h; obtain ⟨rfl, rfl⟩ := h; exact hQ
  | goto l => intro s s' e Q h hQ; simp only [nL, Option.some.injEq, Prod.mk.injEq] at h; obtain ⟨rfl, rfl⟩ := h; exact hQ
  | bad => intro s s' e Q h hQ; simp [nL] at h
  | scope l b r ihb ihr =>
    intro s s' e Q h hQ
    simp only [nL, Option.bind_eq_some_iff] at h
    obtain ⟨⟨e1, s1⟩, h1, h2⟩ := h
    have key : ∀ m s, IP (nL call H0 p fuel r) l m s = some (e, s') → oM (awp call H0 p r) l Q m s := by
      intro m
      induction m with
      | zero => intro s h; simp [IP] at h
      | succ m ihm =>
        intro s h
        simp only [IP, Option.bind_eq_some_iff] at h
        obtain ⟨⟨e1, s1⟩, h1, h2⟩ := h
        refine ihr h1 ?_
        cases e1 with
        | normal => simp only [Option.some.injEq, Prod.mk.injEq] at h2; obtain ⟨rfl, rfl⟩ := h2; exact hQ
        | exit id => simp only [Option.some.injEq, Prod.mk.injEq] at h2; obtain ⟨rfl, rfl⟩ := h2; exact hQ
        | ret => simp only [Option.some.injEq, Prod.mk.injEq] at h2; obtain ⟨rfl, rfl⟩ := h2; exact hQ
        | goto k =>
          simp only at h2
          split at h2
          · rename_i hk; exact ⟨hk, ihm s1 h2⟩
          · cases h2
    refine ihb h1 ?_
    cases e1 with
    | normal => simp only [Option.some.injEq, Prod.mk.injEq] at h2; obtain ⟨rfl, rfl⟩ := h2; exact hQ
    | exit id => simp only [Option.some.injEq, Prod.mk.injEq] at h2; obtain ⟨rfl, rfl⟩ := h2; exact hQ
    | ret => simp only [Option.some.injEq, Prod.mk.injEq] at h2; obtain ⟨rfl, rfl⟩ := h2; exact hQ
    | goto k =>
      simp only at h2
      split at h2
      · rename_i hk; exact ⟨hk, fuel, key fuel s1 h2⟩
      · cases h2
  | exit id => intro s s' e Q h hQ; simp only [nL, Option.some.injEq, Prod.mk.injEq] at h; obtain ⟨rfl, rfl⟩ := h; exact hQ
  | ret => intro s s' e Q h hQ; simp only [nL, Option.some.injEq, Prod.mk.injEq] at h; obtain ⟨rfl, rfl⟩ := h; exact hQ
def W0 (H : aB) (q : Lab) (u : Chg) : Bool := u.all fun p => GM q p.1 || (H p.1).isSome
/-- calls that are run out, so deep -/
def WN (tbl : Nat → Option AFun) (fuel : Nat) : Nat → b9
  | 0, _, _, _, _ => none
  | d + 1, f, xs, H, q => (tbl f).bind fun A => if xs.length = A.np then (nL (WN tbl fuel d) H q fuel A.body (m9 xs)).bind fun r => match r.1 with
    | .exit _ => none
    | .goto _ => none
    | _ => (j1 (upd r.2.ov H) r.2.regs A.res).bind fun x => if W0 H q r.2.ov then some ⟨x, r.2.ov, none⟩ else none
    else none
theorem QD {P : Program} (hm : P.follows .mixedOrders = true) {tbl : Nat → Option AFun} (ht : ∀ f A, tbl f = some A → FunOk P f A) (fuel : Nat) : ∀ d, iS P (WN tbl fuel d)
  | 0 => fun f xs H q r h => by simp [WN] at h
  | d + 1 => fun f xs H q r h => by
    have ih := QD hm ht fuel d
    simp only [WN, Option.bind_eq_some_iff] at h
    obtain ⟨A, hA, h⟩ := h
    have hF := ht f A hA
    split at h
    · rename_i hlen
      simp only [Option.bind_eq_some_iff] at h
      obtain ⟨⟨e, s⟩, he, h⟩ := h
      have hne : e = .normal ∨ e = .ret := by
        cases e with
        | normal => exact .inl rfl
        | exit k => cases h
        | ret => exact .inr rfl
        | goto k => cases h
      have h' : (j1 (upd s.ov H) s.regs A.res).bind (fun x => if W0 H q s.ov then some (⟨x, s.ov, none⟩ : Res) else none) = some r := by
        rcases hne with rfl | rfl <;> exact h
      simp only [Option.bind_eq_some_iff] at h'
      obtain ⟨x, hx, h'⟩ := h'
      split at h'
      · rename_i hov
        simp only [Option.some.injEq] at h'
        subst h'
        obtain ⟨fn, c, hf, hb, hn, _⟩ := hF.ex
        refine ⟨⟨fn, hf, by rw [hb]; rfl, hn⟩, ?_, ?_⟩
        · rintro l ⟨pr, hp, rfl⟩
          have := List.all_eq_true.1 hov pr hp
          simp only [Bool.or_eq_true] at this
          rcases this with h1 | h1
          · exact .inr (yE h1)
          · refine .inl ?_
            simp only [restr]
            intro e0; rw [e0] at h1; cases h1
        · intro ρ R vs hvs w hR hfr
          simp only [restr] at hR
          have := B6 hm ih hF hlen (K := fun y u => y = x ∧ u = s.ov) (NN he ⟨hne, x, s.ov, hx, fun l o h => h, rfl, rfl⟩) hvs w hR hfr
          refine Calls.mono this ?_
          rintro e' w' ⟨v, rfl, y, u, ρ', R', ⟨rfl, rfl⟩, hF', hv, hR'⟩
          exact ⟨v, rfl, ρ', R', hF', hv, hR'⟩
      · cases h'
    · cases h
end Go.Proofs.Ytbngfbpegdcpkaa
/-! The abstract machine: a region that draws its order, step by step: an invariant over what is done. -/
namespace Go.Proofs.Ytbngfbpegdcpkaa
set_option linter.unusedVariables false
set_option linter.unusedSimpArgs false
section
variable {P : Program} {H0 : aB} {p : Lab} {n : Nat} {ρ0 : bF} {R0 : Imm} {w0 : World} {ops : Array Oper} {call : b9}
theorem count_set : ∀ (l : List Bool) (j : Nat) (hj : j < l.length), l[j] = false → ((l.set j true).filter (!·)).length + 1 = (l.filter (!·)).length := by
  intro l
  induction l with
  | nil => intro j hj; simp at hj
  | cons b l ihl =>
    intro j hj hb
    cases j with
    | zero => simp at hb; subst hb; simp
    | succ j =>
      have := ihl j (by simpa using hj) (by simpa using hb)
      cases b <;> simp at this ⊢ <;> omega
theorem draw_nd (hm : P.follows .mixedOrders = true) (hcall : iS P call) {is : List AIns} (hcomp : s9 P n ops ops.toList = some is) (hb : FJ ops.toList 0 = true)
    (h0 : Rep H0 ρ0 R0 w0) (hf0 : ∀ l, Under p l → ρ0 l = none) (I : (Nat → Bool) → RL → Chg → Prop) {s : ASt}
    (hstep : ∀ D rl ov j o i, I D rl ov → ops[j]? = some o → is[j]? = some i → D j = false → (∀ e ∈ o.after, Region.binds .any e = true → D e.on = true) → ∃ rc, cK call H0 p i ⟨rl, ov, s.c + j⟩ = some rc ∧ I (kW D j) (cU rl i.dst rc.x) (yB rc.u ov))
    (hs : I (fun _ => false) s.regs s.ov) {ρ : bF} {R : Imm} {a : Act} {w : World} (hI : Inv n H0 ρ0 R0 w0 p s ρ R a w) {id : Nat} {Q : Exit → Act → World → Prop}
    (hQ : ∀ D rl ov ρ R a w, (∀ j, j < ops.size → D j = true) → I D rl ov → Inv n H0 ρ0 R0 w0 p ⟨rl, ov, s.c + ops.size⟩ ρ R a w → Q .normal a w) : (Code.region id ops true).wp P Q a w := by
  obtain ⟨hlen, hget⟩ := qU hcomp
  simp only [Array.length_toList] at hlen
  have hget' : ∀ (j : Nat) o, ops[j]? = some o → ∃ i, is[j]? = some i ∧ rA P n ops o = some i := fun j o ho => hget j o (by simpa using ho)
  refine wp_region_any hm ?_
  have done : ∀ listed : Array Bool, listed.size = ops.size → Region.ready .any ops listed = [] → ∀ i, i < ops.size → listed.getD i false = true := by
    intro listed hsz hr i
    induction i using Nat.strongRecOn with
    | _ i ih =>
      intro hi
      cases hl : listed.getD i false with
      | true => rfl
      | false =>
        have : i ∈ Region.ready .any ops listed := by
          rw [mem_ready]
          refine ⟨?_, ops[i], Array.getElem?_eq_getElem hi, fun e he hbe => ?_⟩
          · have : i < listed.size := by omega
            simp [this] at hl ⊢
            exact hl
          · have := BN hb i ops[i] e (by simp [hi]) he hbe
            exact ih e.on (by omega) (by omega)
        rw [hr] at this; cases this
  have key : ∀ fuel (listed : Array Bool) rl ov ρ R a w, listed.size = ops.size → I (fun i => listed.getD i false) rl ov → RepS n (bE rl) (upd ov H0) ρ R a w → Fut H0 ρ0 R0 w0 (Under p) ρ R w →
      (∀ j l, s.c ≤ j → (j < s.c + ops.size → listed.getD (j - s.c) false = false) → Under (j :: p) l → ρ l = none) → (∀ k o, upd ov H0 k = some o → H0 k ≠ none ∨ Under p k) →
      (listed.toList.filter (!·)).length ≤ fuel → wpAny P .any ops Q fuel listed a w := by
    intro fuel
    have fin : ∀ (listed : Array Bool) rl ov ρ R a w, (∀ i, i < ops.size → listed.getD i false = true) → I (fun i => listed.getD i false) rl ov → RepS n (bE rl) (upd ov H0) ρ R a w → Fut H0 ρ0 R0 w0 (Under p) ρ R w →
        (∀ j l, s.c ≤ j → (j < s.c + ops.size → listed.getD (j - s.c) false = false) → Under (j :: p) l → ρ l = none) → (∀ k o, upd ov H0 k = some o → H0 k ≠ none ∨ Under p k) → Q .normal a w := by
      intro listed rl ov ρ R a w hall hIv hS hF hfr hlab
      refine hQ _ rl ov ρ R a w hall hIv ⟨hS, hF, fun l hl => ?_, hlab⟩
      obtain ⟨j, hj, hl⟩ := hl
      simp only at hj
      exact hfr j l (by omega) (fun h => by omega) hl
    induction fuel with
    | zero =>
      intro listed rl ov ρ R a w hsz hIv hS hF hfr hlab hcnt
      have hall : ∀ i, i < ops.size → listed.getD i false = true := by
        intro i hi
        have h0 : listed.toList.filter (!·) = [] := List.length_eq_zero_iff.1 (by omega)
        have hi' : i < listed.size := by omega
        have hm : listed[i] ∈ listed.toList := by simp
        have := List.filter_eq_nil_iff.1 h0 _ hm
        simpa [hi'] using this
      refine ⟨?_, fin listed rl ov ρ R a w hall hIv hS hF hfr hlab⟩
      rw [List.eq_nil_iff_forall_not_mem]
      intro i hi
      obtain ⟨h1, o, ho, _⟩ := mem_ready.1 hi
      have hi' : i < ops.size := (Array.getElem?_eq_some_iff.1 ho).1
      have h2 := hall i hi'
      have hi'' : i < listed.size := by omega
      simp [hi''] at h1 h2
      rw [h1] at h2; cases h2
    | succ fuel ih =>
      intro listed rl ov ρ R a w hsz hIv hS hF hfr hlab hcnt
      refine ⟨fun hr => fin listed rl ov ρ R a w (done listed hsz hr) hIv hS hF hfr hlab, fun j hj => ?_⟩
      obtain ⟨h1, o, ho, hpre⟩ := mem_ready.1 hj
      have hjs : j < ops.size := (Array.getElem?_eq_some_iff.1 ho).1
      have hjl : j < listed.size := by omega
      have hj0 : listed.getD j false = false := by simp [hjl] at h1 ⊢; exact h1
      obtain ⟨i, hi, hci⟩ := hget' j o ho
      obtain ⟨rc, he, hI2⟩ := hstep _ rl ov j o i hIv ho hi hj0 (fun e hee hbe => hpre e hee hbe)
      have hadd : (fun i => (listed.setIfInBounds j true).getD i false) = kW (fun i => listed.getD i false) j := by
        funext i
        simp only [kW]
        by_cases hij : i = j
        · subst hij; simp [hjl]
        · rw [getD_set_ne false (Ne.symm hij)]
          simp [hij]
      have hsz' : (listed.setIfInBounds j true).size = ops.size := by simpa using hsz
      have hlen' : ((listed.setIfInBounds j true).toList.filter (!·)).length ≤ fuel := by
        have h2 := count_set listed.toList j (by simpa using hjl) (by simpa [hjl] using hj0)
        have h3 : (listed.setIfInBounds j true).toList = listed.toList.set j true := by simp
        rw [h3]
        omega
      obtain ⟨oxs, hok, hoxs, hog, hd, hdn, hl1, _⟩ := oS hci
      have hlook : I6 ops o (bE rl) ρ R a := fun t ht y hy => hS.regs t y hy
      obtain ⟨hq, hsk, hru⟩ := DW hcall hci he
      obtain ⟨sk, x, u, q, foot⟩ := rc
      simp only at hq hsk hru hI2
      subst hq
      unfold wpOp
      simp only [ho]
      have next : ∀ (ρ' : bF) (R' : Imm) (v : Value) (w' : World), (∀ l, u.has l → upd ov H0 l ≠ none ∨ Under ((s.c + j) :: p) l) →
          Fut (upd ov H0) ρ R w (Under ((s.c + j) :: p)) ρ' R' w' → RepV ρ' R' x v → Rep (upd u (upd ov H0)) ρ' R' w' → wpAny P .any ops Q fuel (listed.setIfInBounds j true) (a.put o.dst v) w' := by
        intro ρ' R' v w' hlabu hF' hx hRep
        have hreg : bE (cU rl i.dst x) = zL (bE rl) o.dst x := by rw [vK, hd]
        have hheap : upd (yB u ov) H0 = upd u (upd ov H0) := jU _ _ _
        refine ih _ (cU rl i.dst x) (yB u ov) ρ' R' _ w' hsz' (by rw [hadd]; exact hI2) ?_ ?_ ?_ ?_ hlen'
        · rw [hreg, hheap]
          exact hS.put hdn hF'.ext hx hRep
        · refine hF.trans h0 hF' (fun k ob hk => ?_) (fun _ h => h) (fun l hl => nD hl)
          rcases hlab k ob hk with h1 | h1
          · exact .inl h1
          · exact .inr (hf0 k h1)
        · intro k l hk hkd hl
          have e := congrFun hadd (k - s.c)
          have hold : k < s.c + ops.size → listed.getD (k - s.c) false = false := fun hlt => by
            have := hkd hlt
            rw [e] at this
            simp only [kW, Bool.or_eq_false_iff] at this
            exact this.2
          have hne : k ≠ s.c + j := fun e2 => by
            have := hkd (by omega)
            rw [e] at this
            simp only [kW, Bool.or_eq_false_iff, beq_eq_false_iff_ne] at this
            omega
          have h5 := hfr k l hk hold hl
          cases hρ : ρ' l with
          | none => rfl
          | some L =>
            rcases hF'.win l L hρ with h6 | ⟨h6, _⟩
            · rw [h5] at h6; cases h6
            · have := qI hl h6
              omega
        · rw [hheap]
          intro k ob hk
          rcases GK hk with h1 | h1
          · rcases hlabu k h1 with h2 | h2
            · obtain ⟨ob', h3⟩ := Option.ne_none_iff_exists'.1 h2
              exact hlab k ob' h3
            · exact .inr (nD h2)
          · exact hlab k ob h1
      cases sk with
      | true =>
        obtain ⟨rfl, rfl, _, hw⟩ := hsk rfl
        rw [hw ρ R a hlook hS.size]
        simp only [Bool.false_eq_true, if_false]
        exact next ρ R (.tuple #[]) w (fun l hl => absurd hl (aS l)) (Fut.refl _ _ _ _ _) (.tuple [] #[] rfl (fun i x hx => by simp at hx)) hS.heap
      | false =>
        obtain ⟨hlab2, hrun'⟩ := hru rfl
        obtain ⟨hw, hdoes⟩ := hrun' ρ R a hlook hS.size
        rw [hw]
        simp only [if_true]
        have hsub : ∀ l ob, restr (upd ov H0) foot l = some ob → upd ov H0 l = some ob := by
          intro l ob
          cases foot with
          | none => exact fun h => h
          | some ls => simp only [restr]; split <;> simp
        have hd2 := hdoes.frame ED hsub hlab2
        refine .inl (hd2 w hS.heap (fun l h1 => hfr (s.c + j) l (by omega) (fun _ => by rw [Nat.add_sub_cancel_left]; exact hj0) h1) _ Q ?_)
        rintro v w' ⟨ρ', R', hF', hx, hRep⟩
        refine next ρ' R' v w' (fun l hl => ?_) hF' hx hRep
        rcases hlab2 l hl with h2 | h2
        · obtain ⟨ob', h3⟩ := Option.ne_none_iff_exists'.1 h2
          exact .inl (by rw [hsub l ob' h3]; simp)
        · exact .inr h2
  have hfalse : ∀ i : Nat, (Array.replicate ops.size false).getD i false = false := by
    intro i; simp [Array.getD]
  have hfun : (fun i : Nat => (Array.replicate ops.size false).getD i false) = fun _ => false := funext hfalse
  refine key ops.size (Array.replicate ops.size false) s.regs s.ov ρ R a _ (by simp) (by rw [hfun]; exact hs) ⟨hI.rs.size, hI.rs.defers, hI.rs.regs, ⟨hI.rs.heap.own, hI.rs.heap.sep, hI.rs.heap.dis, hI.rs.heap.imm⟩⟩ ⟨hI.fut.ext, hI.fut.win, hI.fut.new, hI.fut.os, hI.fut.tape, hI.fut.output, hI.fut.size, hI.fut.frame⟩ (fun j l hj _ hl => hI.fresh l ⟨j, hj, hl⟩) hI.lab (by simp)
end
end Go.Proofs.Ytbngfbpegdcpkaa
/-! The abstract machine: code whose callees may be taken as they were proved, and whose state may be taken for a weaker one. -/
namespace Go.Proofs.Ytbngfbpegdcpkaa
set_option linter.unusedVariables false
set_option linter.unusedSimpArgs false

/-- a state that may be taken for another one -/
def Weak (H0 : aB) (p : Lab) (s s' : ASt) : Prop := ∀ {n : Nat} {ρ0 : bF} {R0 : Imm} {w0 : World} {ρ : bF} {R : Imm} {a : Act} {w : World}, Rep H0 ρ0 R0 w0 → (∀ l, Under p l → ρ0 l = none) → Inv n H0 ρ0 R0 w0 p s ρ R a w → ∃ ρ' R', Inv n H0 ρ0 R0 w0 p s' ρ' R' a w
theorem Weak.refl (H0 : aB) (p : Lab) (s : ASt) : Weak H0 p s s := fun _ _ h => ⟨_, _, h⟩
theorem Weak.trans {H0 : aB} {p : Lab} {s s' s'' : ASt} (h : Weak H0 p s s') (k : Weak H0 p s' s'') : Weak H0 p s s'' := fun a b c => by
  obtain ⟨_, _, h1⟩ := h a b c
  exact k a b h1
/-- a map whose entries' order is forgotten -/
theorem weak_bag {H0 : aB} {p : Lab} {r : RL} {ov ov' : Chg} {c : Nat} {l : Lab} {es E : List (AV × AV)} {bs : List Nat} {ck : Nat} (hl : upd ov H0 l = some (.amap es bs ck)) (hp : es.Perm E) (ho : upd ov' H0 = upd [(l, some (.bag E))] (upd ov H0)) : Weak H0 p ⟨r, ov, c⟩ ⟨r, ov', c⟩ := fun h0 hf hI => by
  rename_i n ρ0 R0 w0 ρ R a w
  have hk : ∀ k o, upd [(l, some (.bag E))] (upd ov H0) k = some o → (k = l ∧ o = .bag E) ∨ (k ≠ l ∧ upd ov H0 k = some o) := fun k o h => by
    by_cases e : k = l
    · subst e; simp [upd] at h; exact .inl ⟨rfl, h.symm⟩
    · simp [upd, e] at h; exact .inr ⟨e, h⟩
  have hex : ∀ k o, upd [(l, some (.bag E))] (upd ov H0) k = some o → ∃ o', upd ov H0 k = some o' := fun k o h => by
    rcases hk k o h with ⟨rfl, _⟩ | ⟨_, h⟩
    · exact ⟨_, hl⟩
    · exact ⟨_, h⟩
  have hR := hI.rs.heap
  refine ⟨ρ, R, ⟨hI.rs.size, hI.rs.defers, hI.rs.regs, ?_⟩, hI.fut, hI.fresh, fun k o h => ?_⟩
  · simp only
    rw [ho]
    refine ⟨fun k o h => ?_, fun k k' o o' L L' h h' => ?_, fun k o L h hL => ?_, hR.imm⟩
    · rcases hk k o h with ⟨rfl, rfl⟩ | ⟨_, h⟩
      · obtain ⟨L, O, h1, h2, h3⟩ := hR.own _ _ hl
        refine ⟨L, O, h1, h2, ?_⟩
        cases O <;> simp only [RepO] at h3 ⊢
        obtain ⟨g1, g2, g3, _, g4⟩ := h3
        exact ⟨es, hp, g1, g2, g3, g4⟩
      · exact hR.own k o h
    · obtain ⟨o1, h1⟩ := hex k o h
      obtain ⟨o2, h2⟩ := hex k' o' h'
      exact hR.sep k k' o1 o2 L L' h1 h2
    · obtain ⟨o1, h1⟩ := hex k o h
      exact hR.dis k o1 L h1 hL
  · rw [ho] at h
    obtain ⟨o1, h1⟩ := hex k o h
    exact hI.lab k o1 h1
/-- operations whose outcome is left open: what each outcome is to lead to -/
def dop (k : AK) (xs : List AV) (H : aB) (K : AV → Chg → Prop) : Prop := match k, xs with
  | .bin .eql .slice, [.isl _ rows, .nils] => ∀ b : Bool, (rows ≠ [] → b = false) → K (.bool b) []
  | .mnext, [.ptr r 1 0 0] => ∃ l since seen st es bs ck, H r = some (.iter (some l) since seen st) ∧ H l = some (.amap es bs ck) ∧ (bs.all (fun b => decide (b < since)) = true ∧ since ≤ st) ∧
      (IW es bs seen = [] → K (.tuple [.bool false]) []) ∧ ∀ e b, (e, b) ∈ IW es bs seen → K (.tuple [.bool true, e.1, e.2]) [(r, some (.iter (some l) since (seen ++ [b]) ck))]
  | _, _ => False
theorem IM {k : AK} {xs : List AV} {H : aB} {K K' : AV → Chg → Prop} (hK : ∀ x u, K x u → K' x u) (h : dop k xs H K) : dop k xs H K' := by
  unfold dop at h ⊢
  split at h
  · intro b hb; exact hK _ _ (h b hb)
  · obtain ⟨l, since, seen, st, es, bs, ck, h1, h2, h3, h4, h5⟩ := h
    exact ⟨l, since, seen, st, es, bs, ck, h1, h2, h3, fun e => hK _ _ (h4 e), fun e b hb => hK _ _ (h5 e b hb)⟩
  · exact h.elim
section
open Go.ChangeMaps (setBlock)
variable {P : Program} {o : Oper} {a : Act} {ρ : bF} {R : Imm} {H : aB}
theorem compK_bin {op : BinOp} {c : Cls} {ops : List Operand} (h : xL P o = some (.bin op c, ops)) : ∃ T p q T' d, o.op = .binOp op T p q T' ∧ P.underlying T = some d ∧ NS d = c ∧ ops = [p, q] := by
  unfold xL at h
  split at h
  all_goals repeat' (first | (cases h; done) | (simp only [Option.bind_eq_some_iff] at h) | (refine Exists.elim h ?_; clear h; intro _ h) | (refine And.elim ?_ h; clear h; intro _ h) | (unfold LO at h) | (unfold QL at h) | (unfold QK at h) | (unfold eqK at h) | split at h)
  all_goals (cases h; exact ⟨_, _, _, _, _, by assumption, by assumption, rfl, rfl⟩)
theorem compK_next {ops : List Operand} (h : xL P o = some (.mnext, ops)) : ∃ p, o.op = .next p false ∧ ops = [p] := by
  unfold xL at h
  split at h
  all_goals repeat' (first | (cases h; done) | (simp only [Option.bind_eq_some_iff] at h) | (refine Exists.elim h ?_; clear h; intro _ h) | (refine And.elim ?_ h; clear h; intro _ h) | (unfold LO at h) | (unfold QL at h) | (unfold QK at h) | (unfold eqK at h) | split at h)
  all_goals (cases h; exact ⟨_, by assumption, rfl⟩)
theorem dop_sound {k : AK} {ops : List Operand} {xs : List AV} {K : AV → Chg → Prop} {w : World} (hk : xL P o = some (k, ops)) (hx : RepL ρ R xs (ops.map a.eval)) (h : dop k xs H K) (hR : Rep H ρ R w) :
    opC P o a w (fun v w' => ∃ x u ρ' R', K x u ∧ (∀ l, u.has l → H l ≠ none) ∧ Fut H ρ R w (fun _ => False) ρ' R' w' ∧ RepV ρ' R' x v ∧ Rep (upd u H) ρ' R' w') := by
  unfold dop at h
  split at h
  · -- a slice against none
    rename_i e rows
    obtain ⟨T, p, q, T', d, ho, hd, hcl, rfl⟩ := compK_bin hk
    obtain ⟨E, hE⟩ : ∃ E, P.underlying T = some (.slice E) := by
      cases d <;> simp [NS] at hcl
      exact ⟨_, hd⟩
    obtain ⟨u, us, he, hu, hus⟩ := hx.head
    obtain ⟨v, vs, he2, hv, _⟩ := hus.head
    simp only [List.map_cons, List.map_nil, List.cons.injEq] at he
    obtain ⟨rfl, rfl⟩ := he
    simp only [List.cons.injEq] at he2
    obtain ⟨rfl, _⟩ := he2
    have key : ∀ ad n cap, a.eval p = .slice ad n cap → (rows ≠ [] → ad.isNone = false) → opC P o a w (fun v w' => ∃ x u ρ' R', K x u ∧ (∀ l, u.has l → H l ≠ none) ∧ Fut H ρ R w (fun _ => False) ρ' R' w' ∧ RepV ρ' R' x v ∧ Rep (upd u H) ρ' R' w') := by
      intro ad n cap hp hb
      have hq : a.eval q = .slice none 0 0 := by
        generalize a.eval q = z at hv
        cases hv
        rfl
      have hg : (eqGuard .eql T p q (.slice ad n cap) (.slice none 0 0)).run P w = .ok () w := by simp [eqGuard]
      have h1 : (binOp .eql T (.slice ad n cap) (.slice none 0 0)).run P w = .ok (.bool (ad.isNone && true)) w := by
        show (do pure (Value.bool (← Op.equal T (.slice ad n cap) (.slice none 0 0))) : Sem Value).run P w = _
        have := NP hE ad none n cap 0 0 w (.inr rfl)
        simp only [Option.isNone_none] at this
        simp [this]
      refine cD (v := .bool ad.isNone) (by simp [execOp, ho, hp, hq, hg, h1]) ⟨.bool ad.isNone, [], ρ, R, h _ hb, fun l hl => absurd hl (aS l), Fut.refl _ _ _ _ _, .bool _, hR⟩
    rcases hu.isl_inv with ⟨b, o', cap, c, T2, fz, g, hl, hw, hb, hc, hr, hp⟩ | ⟨rfl, ad, cap, hn, hp⟩
    · exact key _ _ _ hp (fun _ => rfl)
    · exact key _ _ _ hp (fun h => absurd rfl h)
  · rename_i r'
    obtain ⟨p, ho, rfl⟩ := compK_next hk
    obtain ⟨l, since, seen, st, es, bs, ck, hr, hl, hc, h0, h1⟩ := h
    obtain ⟨u, us, he, hu, _⟩ := hx.head
    simp only [List.map_cons, List.map_nil, List.cons.injEq] at he
    obtain ⟨rfl, _⟩ := he
    obtain ⟨L', hL', hg⟩ := hu.ptr_inv
    obtain ⟨L, O, h1', h2, h3⟩ := hR.own l _ hl
    obtain ⟨L2, O2, k1, k2, k3⟩ := hR.own r' _ hr
    have h3' := h3
    cases O <;> simp only [RepO] at h3'
    rename_i ents clock
    cases O2 <;> simp only [RepO] at k3
    rename_i m' since' seen' st'
    obtain ⟨g1, g2, g3, g5, g4⟩ := h3'
    obtain ⟨j0, rfl, j2, rfl, j4⟩ := k3
    rcases j4 with ⟨j4, _⟩ | ⟨l', M, j4, j5, rfl⟩
    · cases j4
    cases j4
    rw [h1'] at j5; cases j5
    have eL : L2 = L' := by rw [k1] at hL'; exact Option.some.inj hL'
    subst eL
    rw [j0] at hg
    obtain ⟨g6, rfl⟩ := g5
    have hborn : ∀ m ∈ ents.toList, m.born < since' := by
      intro m hm
      have : m.born ∈ bs := by rw [← g6]; exact List.mem_map_of_mem hm
      simpa using List.all_eq_true.1 hc.1 _ this
    rcases run_next_at (P := P) w o.type L2.blk L.blk since' st' seen' ents clock k2 h2 hborn hc.2 with ⟨hz, hrun⟩ | ⟨m, hm, w1, hw1, hrun⟩
    · refine cD (v := .tuple #[.bool false]) (by simp [execOp, ho, hg, hrun]) ⟨_, [], ρ, R, h0 (MN j2 g1 g6 hz), fun l hl => absurd hl (aS l), Fut.refl _ _ _ _ _, (RepL.cons (.bool false) .nil).tuple, hR⟩
    · obtain ⟨i, e', hmi, hei, hin⟩ := LP j2 g1 g6 hm
      have ho' : RepO ρ R L2 (.iter (some l) since' (seen ++ [m.born]) clock) (.mapIter (some L.blk) since' (seen'.push m.born) clock) := ⟨j0, rfl, by simp [j2], rfl, .inr ⟨l, L, rfl, h1', rfl⟩⟩
      have hv : RepV ρ R (.tuple [.bool true, e'.1, e'.2]) (.tuple #[.bool true, m.key, m.val]) := (RepL.cons (.bool true) (.cons (g4 i e' m hei hmi).1 (.cons (g4 i e' m hei hmi).2 .nil))).tuple
      obtain ⟨hF, hR'⟩ := GN (W := fun _ => False) hR hr k1 k2 ho'
      have hex : (execOp a.eval o).run P w = .ok (.value (.tuple #[.bool true, m.key, m.val])) (setBlock w1 L2.blk (.mapIter (some L.blk) since' (seen'.push m.born) clock)) := by
        simp [execOp, ho, hg, hrun]
      have hlab : ∀ k, Chg.has [(r', some (AO.iter (some l) since' (seen ++ [m.born]) clock))] k → H k ≠ none := fun k hk => by rw [cR hk, hr]; simp
      rcases hw1 with rfl | rfl
      · exact cD hex ⟨_, _, ρ, R, h1 _ _ hin, hlab, hF, hv, hR'⟩
      · exact cD hex ⟨_, _, ρ, R, h1 _ _ hin, hlab, hF.heap rfl rfl rfl rfl, hv, hR'.heap rfl⟩
  · exact h.elim
end
/-- what a call may yield, proved: of its outcomes one -/
def SoundE (P : Program) (f : Nat) (xs : List AV) (H : aB) (q : Lab) (Φ : AV → Chg → Prop) : Prop := xO P f ∧ ∀ (ρ : bF) (R : Imm) vs, RepL ρ R xs vs → ∀ w, Rep H ρ R w → (∀ l, Under q l → ρ l = none) →
  sA P f vs.toArray w (fun v w' => ∃ x u ρ' R', Φ x u ∧ (∀ l, u.has l → H l ≠ none ∨ Under q l) ∧ Fut H ρ R w (Under q) ρ' R' w' ∧ RepV ρ' R' x v ∧ Rep (upd u H) ρ' R' w')
section
variable {P : Program} {o : Oper} {a : Act} {ρ : bF} {R : Imm} {H : aB} {q : Lab}
theorem compK_call {ops : List Operand} (h : xL P o = some (.call, ops)) : ∃ c g, o.op = .call c ∧ c.callee = .value g ∧ ops = g :: c.args.toList := by
  unfold xL at h
  split at h
  all_goals repeat' (first | (cases h; done) | (simp only [Option.bind_eq_some_iff] at h) | (refine Exists.elim h ?_; clear h; intro _ h) | (refine And.elim ?_ h; clear h; intro _ h) | (unfold LO at h) | (unfold QL at h) | (unfold QK at h) | (unfold eqK at h) | split at h)
  all_goals (cases h; exact ⟨_, _, by assumption, by assumption, rfl⟩)
theorem call_E {c : Call} {g : Operand} {f : Nat} {first captured args : List AV} {Φ : AV → Chg → Prop} {w : World} (ho : o.op = .call c) (hc : c.callee = .value g) (hx : RepL ρ R (.fn (.func f) first captured :: args) (a.eval g :: (c.args.map a.eval).toList)) (h : SoundE P f (first ++ args ++ captured) H q Φ) (hR : Rep H ρ R w) (hfr : ∀ l, Under q l → ρ l = none) :
    opC P o a w (fun v w' => ∃ x u ρ' R', Φ x u ∧ (∀ l, u.has l → H l ≠ none ∨ Under q l) ∧ Fut H ρ R w (Under q) ρ' R' w' ∧ RepV ρ' R' x v ∧ Rep (upd u H) ρ' R' w') := by
  obtain ⟨v, us, he, hv, hus⟩ := hx.head
  simp only [List.cons.injEq] at he
  obtain ⟨rfl, rfl⟩ := he
  obtain ⟨⟨fn, hf, hb, hn⟩, h3⟩ := h
  generalize hg : a.eval g = gv at hv
  cases hv with | fn _ _ _ F C hF hC hf1 hf2 => ?_
  have hrF : RepL ρ R first F.toList := ⟨by simpa using hF, fun k x hk => by
    have hk' : k < F.size := by have := (List.getElem?_eq_some_iff.1 hk).1; omega
    have := hf1 k x hk
    exact ⟨F[k], by simp [hk'], by simpa [Array.getD, hk'] using this⟩⟩
  have hrC : RepL ρ R captured C.toList := ⟨by simpa using hC, fun k x hk => by
    have hk' : k < C.size := by have := (List.getElem?_eq_some_iff.1 hk).1; omega
    have := hf2 k x hk
    exact ⟨C[k], by simp [hk'], by simpa [Array.getD, hk'] using this⟩⟩
  have hall := (hrF.append hus).append hrC
  have hd := h3 ρ R _ hall w hR hfr
  have e : (F.toList ++ (c.args.map a.eval).toList ++ C.toList).toArray = F ++ c.args.map a.eval ++ C := by
    apply Array.ext'; simp
  rw [e] at hd
  intro next Q hnext
  unfold Oper.wp
  have hrun : (execOp a.eval o).run P w = .ok (.enter f (F ++ c.args.map a.eval ++ C)) w := by
    have hn' : ¬ fn.name = "runtime.NumGoroutine" := by simpa using hn
    have hb' : ¬ fn.body = none := by intro e; rw [e] at hb; cases hb
    simp [execOp, ho, resolve, hc, hg, Deferred.ofValue, invoke, callFunc, hf, hn', hb']
  rw [hrun]
  simp only [Oper.upon]
  refine Calls.mono hd ?_
  rintro e w' ⟨v, rfl, hK⟩
  exact hnext v w' hK
end
section
variable (P : Program) (H0 : aB) (p : Lab)
def Z6 (i : AIns) (s : ASt) (K : ASt → Prop) : Prop := (∃ call, iS P call ∧ ∃ rc, cK call H0 p i s = some rc ∧ K (cZ i s rc)) ∨
  (i.guard = none ∧ ∃ xs, nO s.regs i.xs = some xs ∧ dop i.k xs (upd s.ov H0) fun x u => K (cZ i s ⟨false, x, u, s.c :: p, none⟩)) ∨
  (i.guard = none ∧ i.k = .call ∧ ∃ f first captured args, nO s.regs i.xs = some (.fn (.func f) first captured :: args) ∧ ∃ Φ, SoundE P f (first ++ args ++ captured) (upd s.ov H0) (s.c :: p) Φ ∧ ∀ x u, Φ x u → K (cZ i s ⟨false, x, u, s.c :: p, none⟩))
/-- operations one behind the other -/
def IE : List AIns → ASt → (ASt → Prop) → Prop
  | [], s, K => K s
  | i :: is, s, K => Z6 P H0 p i s fun s' => IE is s' K
end
section
variable {P : Program} {H0 : aB} {p : Lab} {n : Nat} {ρ0 : bF} {R0 : Imm} {w0 : World} {ops : Array Oper}
theorem gins_mono {i : AIns} {s : ASt} {K K' : ASt → Prop} (hK : ∀ s, K s → K' s) (h : Z6 P H0 p i s K) : Z6 P H0 p i s K' := by
  rcases h with ⟨call, hc, rc, h1, h2⟩ | ⟨hg, xs, h1, h2⟩ | ⟨hg, hk, f, first, captured, args, h1, Φ, h2, h3⟩
  · exact .inl ⟨call, hc, rc, h1, hK _ h2⟩
  · exact .inr (.inl ⟨hg, xs, h1, IM (fun x u => hK _) h2⟩)
  · exact .inr (.inr ⟨hg, hk, f, first, captured, args, h1, Φ, h2, fun x u hx => hK _ (h3 x u hx)⟩)
theorem FE : ∀ {is : List AIns} {s : ASt} {K K' : ASt → Prop}, (∀ s, K s → K' s) → IE P H0 p is s K → IE P H0 p is s K'
  | [], _, _, _, hK, h => hK _ h
  | _ :: _, _, _, _, hK, h => gins_mono (fun _ hs => FE hK hs) h
theorem ER {call : b9} (hc : iS P call) : ∀ {is : List AIns} {s s' : ASt} {K : ASt → Prop}, tN call H0 p is s = some s' → K s' → IE P H0 p is s K
  | [], s, s', K, h, hk => by simp only [tN, Option.some.injEq] at h; subst h; exact hk
  | i :: is, s, s', K, h, hk => by
    simp only [tN, Option.bind_eq_some_iff] at h
    obtain ⟨rc, h1, h2⟩ := h
    exact .inl ⟨call, hc, rc, h1, ER hc h2 hk⟩
theorem gseq_sound {is : List AIns} (hcomp : s9 P n ops ops.toList = some is) (h0 : Rep H0 ρ0 R0 w0) (hf0 : ∀ l, Under p l → ρ0 l = none) {s : ASt} {K : ASt → Prop} (hs : IE P H0 p is s K) {ρ : bF} {R : Imm} {a : Act} {w : World}
    (hI : Inv n H0 ρ0 R0 w0 p s ρ R a w) {id : Nat} {Q : Exit → Act → World → Prop} (hQ : ∀ s' ρ R a w, K s' → Inv n H0 ρ0 R0 w0 p s' ρ R a w → Q .normal a w) : (Code.region id ops false).wp P Q a w := by
  obtain ⟨hlen, hget⟩ := qU hcomp
  simp only [Array.length_toList] at hlen
  have hget' : ∀ (j : Nat) o, ops[j]? = some o → ∃ i, is[j]? = some i ∧ rA P n ops o = some i := fun j o ho => hget j o (by simpa using ho)
  refine wp_region ?_
  have key : ∀ m k, k + m = ops.size → ∀ s ρ R a w, IE P H0 p (is.drop k) s K → Inv n H0 ρ0 R0 w0 p s ρ R a w → wpOps P ops Q (List.range' k m) a w := by
    intro m
    induction m with
    | zero =>
      intro k hk s ρ R a w hs hI
      simp only [List.range'_zero, wpOps]
      rw [List.drop_eq_nil_of_le (by omega)] at hs
      exact hQ s ρ R a w hs hI
    | succ m ih =>
      intro k hk s ρ R a w hs hI
      rw [List.range'_succ, wpOps_cons]
      obtain ⟨o, ho⟩ : ∃ o, ops[k]? = some o := ⟨_, Array.getElem?_eq_getElem (by omega)⟩
      obtain ⟨i, hi, hc⟩ := hget' k o ho
      have hdrop : is.drop k = i :: is.drop (k + 1) := by
        have hlt : k < is.length := by omega
        rw [List.drop_eq_getElem_cons hlt]
        rw [List.getElem?_eq_getElem hlt] at hi
        simp only [Option.some.injEq] at hi
        rw [hi]
      rw [hdrop] at hs
      obtain ⟨oxs, hok, hoxs, hog, hd, hdn, hl1, _⟩ := oS hc
      have hlook : I6 ops o (bE s.regs) ρ R a := fun t ht y hy => hI.rs.regs t y hy
      unfold wpOp
      simp only [ho]
      -- what follows an operation that was carried out
      have next : ∀ (x : AV) (u : Chg) (ρ' : bF) (R' : Imm) (v : Value) (w' : World) (W : Lab → Prop) (foot : Option (List Lab)) (sk : Bool), (∀ l, W l → Under (s.c :: p) l) → (∀ l, u.has l → upd s.ov H0 l ≠ none ∨ Under (s.c :: p) l) → IE P H0 p (is.drop (k + 1)) (cZ i s ⟨sk, x, u, s.c :: p, foot⟩) K →
          Fut (upd s.ov H0) ρ R w W ρ' R' w' → RepV ρ' R' x v → Rep (upd u (upd s.ov H0)) ρ' R' w' → wpOps P ops Q (List.range' (k + 1) m) (a.put o.dst v) w' := by
        intro x u ρ' R' v w' W foot sk hW hlab hg' hF' hx hRep
        have hreg : bE (cZ i s ⟨sk, x, u, s.c :: p, foot⟩).regs = zL (bE s.regs) o.dst x := by rw [cZ, vK, hd]
        have hheap : upd (cZ i s ⟨sk, x, u, s.c :: p, foot⟩).ov H0 = upd u (upd s.ov H0) := by rw [cZ, jU]
        refine ih (k + 1) (by omega) _ ρ' R' _ w' hg' ⟨?_, ?_, ?_, ?_⟩
        · rw [hreg, hheap]
          exact hI.rs.put hdn hF'.ext hx hRep
        · refine hI.fut.trans h0 hF' (fun j ob hj => ?_) (fun _ h => h) (fun l hl => nD (hW l hl))
          rcases hI.lab j ob hj with h1 | h1
          · exact .inl h1
          · exact .inr (hf0 j h1)
        · intro l hl
          obtain ⟨j, hj, hl⟩ := hl
          simp only [cZ] at hj
          have hfr := hI.fresh l ⟨j, by omega, hl⟩
          cases hρ : ρ' l with
          | none => rfl
          | some L =>
            rcases hF'.win l L hρ with h6 | ⟨h6, _⟩
            · rw [hfr] at h6; cases h6
            · have := qI hl (hW l h6)
              omega
        · rw [hheap]
          intro j ob hj
          rcases GK hj with h1 | h1
          · rcases hlab j h1 with h2 | h2
            · obtain ⟨ob', h3⟩ := Option.ne_none_iff_exists'.1 h2
              exact hI.lab j ob' h3
            · exact .inr (nD h2)
          · exact hI.lab j ob h1
      rcases hs with ⟨call, hcall, rc, h4, hg'⟩ | ⟨hgn, xs, hxs, hdop⟩ | ⟨hgn, hkc, f, first, captured, args, hxs, Φ, hE, hK⟩
      · obtain ⟨hq, hsk, hru⟩ := DW hcall hc h4
        obtain ⟨sk, x, u, q, foot⟩ := rc
        simp only at hq hsk hru
        subst hq
        cases sk with
        | true =>
          obtain ⟨rfl, rfl, _, hw⟩ := hsk rfl
          rw [hw ρ R a hlook hI.rs.size]
          simp only [Bool.false_eq_true, if_false]
          refine next (.tuple []) [] ρ R (.tuple #[]) w (fun _ => False) foot true (fun l hl => hl.elim) (fun l hl => absurd hl (aS l)) hg' (Fut.refl _ _ _ _ _) (.tuple [] #[] rfl (fun i x hx => by simp at hx)) hI.rs.heap
        | false =>
          obtain ⟨hlab, hrun'⟩ := hru rfl
          obtain ⟨hw, hdoes⟩ := hrun' ρ R a hlook hI.rs.size
          rw [hw]
          simp only [if_true]
          have hsub : ∀ l ob, restr (upd s.ov H0) foot l = some ob → upd s.ov H0 l = some ob := by
            intro l ob
            cases foot with
            | none => exact fun h => h
            | some ls => simp only [restr]; split <;> simp
          have hd2 := hdoes.frame ED hsub hlab
          refine .inl (hd2 w hI.rs.heap (fun l h1 => hI.fresh l ⟨s.c, Nat.le_refl _, h1⟩) _ Q ?_)
          rintro v w' ⟨ρ', R', hF', hx, hRep⟩
          refine next x u ρ' R' v w' _ foot false (fun l hl => hl) (fun l hl => ?_) hg' hF' hx hRep
          rcases hlab l hl with h2 | h2
          · obtain ⟨ob', h3⟩ := Option.ne_none_iff_exists'.1 h2
            exact .inl (by rw [hsub l ob' h3]; simp)
          · exact .inr h2
      · rw [zH hog hgn]
        simp only [if_true]
        have hxr := yJ (ρ := ρ) (R := R) (a := a) hoxs hxs (fun x hx t ht z hz => hlook t (hl1 x hx t ht) z hz)
        refine .inl (dop_sound hok hxr hdop hI.rs.heap _ Q ?_)
        rintro v w' ⟨x, u, ρ', R', hg', hlab, hF', hx, hRep⟩
        exact next x u ρ' R' v w' _ none false (fun l hl => hl.elim) (fun l hl => .inl (hlab l hl)) hg' hF' hx hRep
      · rw [zH hog hgn]
        simp only [if_true]
        have hxr := yJ (ρ := ρ) (R := R) (a := a) hoxs hxs (fun x hx t ht z hz => hlook t (hl1 x hx t ht) z hz)
        rw [hkc] at hok
        obtain ⟨c, g, ho', hc', rfl⟩ := compK_call hok
        refine .inl (call_E ho' hc' (by simpa using hxr) hE hI.rs.heap (fun l hl => hI.fresh l ⟨s.c, Nat.le_refl _, hl⟩) _ Q ?_)
        rintro v w' ⟨x, u, ρ', R', hΦ, hlab, hF', hx, hRep⟩
        exact next x u ρ' R' v w' _ none false (fun l hl => hl) hlab (hK x u hΦ) hF' hx hRep
  have := key ops.size 0 (by omega) s ρ R a w (by simpa using hs) hI
  rwa [← List.range_eq_range'] at this
end
section
variable (P : Program) (H0 : aB) (p : Lab)
/-- a region that draws its order, step by step -/
def aAr (call : b9) (ops : List AIns) (masks : List Nat) (keep : List Nat) (Q : lH) (s : ASt) : Prop := ∃ I : (Nat → Bool) → RL → Chg → Prop, I (fun _ => false) s.regs s.ov ∧
  (∀ D rl ov j i, I D rl ov → ops[j]? = some i → D j = false → (∀ k, (masks.getD j 0).testBit k = true → D k = true) → ∃ rc, cK call H0 p i ⟨rl, ov, s.c + j⟩ = some rc ∧ I (kW D j) (cU rl i.dst rc.x) (yB rc.u ov)) ∧
  ∀ D rl ov, (∀ j, j < ops.length → D j = true) → I D rl ov → ∃ s', Weak H0 p ⟨restrict rl keep, ov, s.c + ops.length⟩ s' ∧ Q .normal s'
def gwp : ACode → lH → ASt → Prop
  | .skip, Q, s => Q .normal s
  | .region ops none keep, Q, s => IE P H0 p ops s fun s1 => ∃ s', Weak H0 p { s1 with regs := restrict s1.regs keep } s' ∧ Q .normal s'
  | .region ops (some masks) keep, Q, s => (∃ call, iS P call ∧ ∃ s1, oO call H0 p ops (some masks) keep s = some s1 ∧ ∃ s', Weak H0 p s1 s' ∧ Q .normal s') ∨ ∃ call, iS P call ∧ aAr H0 p call ops masks keep Q s
  | .seq a b, Q, s => gwp a (WZ (gwp b Q) Q) s
  | .cond c t e, Q, s => match zC s.regs c with
    | some (.bool b) => if b then gwp t Q s else gwp e Q s
    | _ => False
  | .block id b, Q, s => gwp b (vD id Q) s
  | .loop keep b, Q, s => ∃ m, xY (gwp b) keep Q m s
  | .exit id, Q, s => Q (.exit id) s
  | .ret, Q, s => Q .ret s
  | .label _, Q, s => Q .normal s
  | .goto l, Q, s => Q (.goto l) s
  | .scope l b r, Q, s => gwp b (P1 l (fun s' => ∃ m, oM (gwp r) l Q m s') Q) s
  | .bad, _, _ => False
end
section
variable {P : Program} {n : Nat} {H0 : aB} {p : Lab} {ρ0 : bF} {R0 : Imm} {w0 : World}
theorem oB {c : ACode} : ∀ {Q Q' : lH} {s : ASt}, (∀ e s, Q e s → Q' e s) → gwp P H0 p c Q s → gwp P H0 p c Q' s := by
  induction c with
  | skip => intro Q Q' s h hs; exact h _ _ hs
  | region ops draw keep =>
    intro Q Q' s h hs
    cases draw with
    | none => exact FE (fun s1 hs1 => by obtain ⟨s', hw, h2⟩ := hs1; exact ⟨s', hw, h _ _ h2⟩) hs
    | some masks =>
      rcases hs with ⟨call, hc, s1, h1, s', hw, h2⟩ | ⟨call, hc, I, h1, h2, h3⟩
      · exact .inl ⟨call, hc, s1, h1, s', hw, h _ _ h2⟩
      · exact .inr ⟨call, hc, I, h1, h2, fun D rl ov hD hI => by obtain ⟨s', hw, h4⟩ := h3 D rl ov hD hI; exact ⟨s', hw, h _ _ h4⟩⟩
  | seq a b iha ihb =>
    intro Q Q' s h hs
    refine iha (fun e s he => ?_) hs
    cases e with
    | normal => exact ihb h he
    | exit id => exact h _ _ he
    | ret => exact h _ _ he
    | goto l => exact h _ _ he
  | cond c t e iht ihe =>
    intro Q Q' s h hs
    simp only [gwp] at hs ⊢
    split at hs
    · split at hs
      · rename_i hb; rw [if_pos hb]; exact iht h hs
      · rename_i hb; rw [if_neg hb]; exact ihe h hs
    · exact hs.elim
  | block id b ih =>
    intro Q Q' s h hs
    refine ih (fun e s he => ?_) hs
    cases e with
    | normal => exact h _ _ he
    | exit k =>
      simp only [vD] at he ⊢
      split at he
      · rename_i hk; rw [if_pos hk]; exact h _ _ he
      · rename_i hk; rw [if_neg hk]; exact h _ _ he
    | ret => exact h _ _ he
    | goto l => exact h _ _ he
  | loop keep b ih =>
    intro Q Q' s h ⟨m, hm⟩
    refine ⟨m, ?_⟩
    induction m generalizing s with
    | zero => exact hm
    | succ m ihm =>
      refine ih (fun e s he => ?_) hm
      cases e with
      | normal => exact ihm he
      | exit id => exact h _ _ he
      | ret => exact h _ _ he
      | goto l => exact h _ _ he
  | exit id => intro Q Q' s h hs; exact h _ _ hs
  | ret => intro Q Q' s h hs; exact h _ _ hs
  | label l => intro Q Q' s h hs; exact h _ _ hs
  | goto l => intro Q Q' s h hs; exact h _ _ hs
  | bad => intro Q Q' s h hs; exact hs
  | scope l b r ihb ihr =>
    intro Q Q' s h hs
    have hr : ∀ m s, oM (gwp P H0 p r) l Q m s → oM (gwp P H0 p r) l Q' m s := by
      intro m
      induction m with
      | zero => intro s hs; exact hs
      | succ m ihm =>
        intro s hs
        refine ihr (fun e s he => ?_) hs
        cases e with
        | normal => exact h _ _ he
        | exit id => exact h _ _ he
        | ret => exact h _ _ he
        | goto k => exact ⟨he.1, ihm _ he.2⟩
    refine ihb (fun e s he => ?_) hs
    cases e with
    | normal => exact h _ _ he
    | exit id => exact h _ _ he
    | ret => exact h _ _ he
    | goto k => obtain ⟨h1, m, h2⟩ := he; exact ⟨h1, m, hr m _ h2⟩

def GSoundC (P : Program) (n : Nat) (H0 : aB) (p : Lab) (ρ0 : bF) (R0 : Imm) (w0 : World) (code : Code) : Prop := ∀ {ac : ACode} {Q : lH} {s : ASt} {ρ : bF} {R : Imm} {a : Act} {w : World}, bJ P n code = some ac.strip →
    gwp P H0 p ac Q s → Inv n H0 ρ0 R0 w0 p s ρ R a w → code.wp P (QM n H0 ρ0 R0 w0 p Q) a w
theorem GSoundC.seq {x y : Code} (ihx : GSoundC P n H0 p ρ0 R0 w0 x) (ihy : GSoundC P n H0 p ρ0 R0 w0 y) : GSoundC P n H0 p ρ0 R0 w0 (.seq x y) := by
  intro ac Q s ρ R a w hc h hI
  simp only [bJ, Option.bind_eq_some_iff, Option.some.injEq] at hc
  obtain ⟨x', hx, y', hy, hc⟩ := hc
  cases ac <;> simp [ACode.strip] at hc
  rename_i ax ay
  obtain ⟨rfl, rfl⟩ := hc
  refine wp_seq (wp_mono (ihx hx h hI) ?_)
  rintro e a1 w1 ⟨ae, s1, ρ1, R1, rfl, hq, hI1⟩
  cases ae with
  | normal => exact ihy hy hq hI1
  | exit id => exact ⟨.exit id, s1, ρ1, R1, rfl, hq, hI1⟩
  | ret => exact ⟨.ret, s1, ρ1, R1, rfl, hq, hI1⟩
  | goto l => exact ⟨.goto l, s1, ρ1, R1, rfl, hq, hI1⟩
theorem gwp_sound_all (hm : P.follows .mixedOrders = true) (h0 : Rep H0 ρ0 R0 w0) (hf0 : ∀ l, Under p l → ρ0 l = none) (code : Code) : GSoundC P n H0 p ρ0 R0 w0 code ∧ ∀ l rest, findLabel code l = some rest → GSoundC P n H0 p ρ0 R0 w0 rest := by
  induction code with
  | skip =>
    refine ⟨?_, fun l rest h => by simp [findLabel] at h⟩
    intro ac Q s ρ R a w hc h hI
    cases ac <;> simp [bJ, ACode.strip] at hc
    exact wp_skip ⟨.normal, s, ρ, R, rfl, h, hI⟩
  | region id ops draw =>
    refine ⟨?_, fun l rest h => by simp [findLabel] at h⟩
    intro ac Q s ρ R a w hc h hI
    simp only [bJ, Option.bind_eq_some_iff] at hc
    obtain ⟨is, his, hc⟩ := hc
    cases draw with
    | false =>
      simp only [Bool.false_eq_true, if_false, Option.some.injEq] at hc
      cases ac <;> simp [ACode.strip] at hc
      rename_i ops' draw' keep
      obtain ⟨rfl, rfl⟩ := hc
      exact gseq_sound his h0 hf0 h hI (fun s' ρ R a w hk hI' => by
        obtain ⟨s2, hwk, h2⟩ := hk
        obtain ⟨ρ2, R2, hI2⟩ := hwk h0 hf0 (hI'.restrict _)
        exact ⟨.normal, _, ρ2, R2, rfl, h2, hI2⟩)
    | true =>
      simp only [if_true] at hc
      split at hc
      · rename_i hst
        simp only [Bool.and_eq_true] at hst
        simp only [Option.some.injEq] at hc
        cases ac <;> simp [ACode.strip] at hc
        rename_i ops' draw' keep
        obtain ⟨rfl, rfl⟩ := hc
        rcases h with ⟨call, hcall, s', h1, s2, hwk, h2⟩ | ⟨call, hcall, I, h1, h2, h3⟩
        · simp only [oO, Option.bind_eq_some_iff] at h1
          obtain ⟨⟨s1, trs⟩, h1, h3⟩ := h1
          split at h3
          · cases h3
          · rename_i hcl
            simp only [Option.some.injEq] at h3
            subst h3
            exact IL hm hcall his hst.1 hst.2 h0 hf0 h1 (by simpa using hcl) hI (fun ρ R a w hI' => by
              obtain ⟨ρ2, R2, hI2⟩ := hwk h0 hf0 (hI'.restrict keep)
              exact ⟨.normal, _, ρ2, R2, rfl, h2, hI2⟩)
        · have hlen : is.length = ops.size := by simpa using (qU his).1
          have hstep : ∀ D rl ov j o i, (I D rl ov ∧ ∀ i k, D k = true → Anc ops i k → D i = true) → ops[j]? = some o → is[j]? = some i → D j = false → (∀ e ∈ o.after, Region.binds .any e = true → D e.on = true) → ∃ rc, cK call H0 p i ⟨rl, ov, s.c + j⟩ = some rc ∧ (I (kW D j) (cU rl i.dst rc.x) (yB rc.u ov) ∧ ∀ i k, kW D j k = true → Anc ops i k → kW D j i = true) := by
            intro D rl ov j o i hID ho hi hj hpre
            have hanc : ∀ i, Anc ops i j → D i = true := by
              intro i hi
              generalize hk : j = k at hi
              induction hi with
              | step ho' he hb => subst hk; rw [ho] at ho'; cases ho'; exact hpre _ he hb
              | trans h1 h2 _ ih2 => exact hID.2 _ _ (ih2 hk) h1
            obtain ⟨rc, he, hI'⟩ := h2 D rl ov j i hID.1 hi hj (fun k hk => hanc k (zW hk))
            refine ⟨rc, he, hI', fun i k hk ha => ?_⟩
            simp only [kW, Bool.or_eq_true, beq_iff_eq] at hk ⊢
            rcases hk with rfl | hk
            · exact .inr (hanc i ha)
            · exact .inr (hID.2 i k hk ha)
          refine draw_nd hm hcall his hst.1 h0 hf0 (fun D rl ov => I D rl ov ∧ ∀ i k, D k = true → Anc ops i k → D i = true) hstep ⟨h1, fun i k hk => by cases hk⟩ hI (fun D rl ov ρ R a w hD hID hI' => ?_)
          obtain ⟨s2, hwk, h4⟩ := h3 D rl ov (by rw [hlen]; exact hD) hID.1
          rw [hlen] at hwk
          obtain ⟨ρ2, R2, hI2⟩ := hwk h0 hf0 (hI'.restrict keep)
          exact ⟨.normal, _, ρ2, R2, rfl, h4, hI2⟩
      · cases hc
  | seq x y ihx ihy =>
    refine ⟨GSoundC.seq ihx.1 ihy.1, fun l rest h => ?_⟩
    simp only [findLabel] at h
    cases hf : findLabel x l with
    | some r => simp only [hf, Option.some.injEq] at h; subst h; exact GSoundC.seq (ihx.2 l r hf) ihy.1
    | none => simp only [hf] at h; exact ihy.2 l rest h
  | cond c t e iht ihe =>
    refine ⟨?_, fun l rest h => by simp [findLabel] at h⟩
    intro ac Q s ρ R a w hc h hI
    simp only [bJ, Option.bind_eq_some_iff, Option.some.injEq] at hc
    obtain ⟨z, hz, x', hx, y', hy, hc⟩ := hc
    cases ac <;> simp [ACode.strip] at hc
    rename_i z' ax ay
    obtain ⟨rfl, rfl, rfl⟩ := hc
    simp only [gwp] at h
    split at h
    · rename_i b hb
      have hv := (FL (ρ := ρ) (R := R) (a := a) hz hb (fun t ht y hy => hI.rs.regs t y hy)).bool_inv
      split at h
      · rename_i hbt; subst hbt
        exact wp_cond_true hv (iht.1 hx h hI)
      · rename_i hbt
        have : b = false := by simpa using hbt
        subst this
        exact wp_cond_false hv (ihe.1 hy h hI)
    · exact h.elim
  | block id b ih =>
    refine ⟨?_, fun l rest h => by simp [findLabel] at h⟩
    intro ac Q s ρ R a w hc h hI
    simp only [bJ, Option.bind_eq_some_iff, Option.some.injEq] at hc
    obtain ⟨x', hx, hc⟩ := hc
    cases ac <;> simp [ACode.strip] at hc
    rename_i id' ax
    obtain ⟨rfl, rfl⟩ := hc
    refine wp_block (wp_mono (ih.1 hx h hI) ?_)
    rintro e a1 w1 ⟨ae, s1, ρ1, R1, rfl, hq, hI1⟩
    cases ae with
    | normal => exact ⟨.normal, s1, ρ1, R1, rfl, hq, hI1⟩
    | exit k =>
      simp only [vD] at hq
      simp only [AEx.ex, Exit.inBlock]
      split at hq
      · rename_i hk; rw [if_pos hk]; exact ⟨.normal, s1, ρ1, R1, rfl, hq, hI1⟩
      · rename_i hk; rw [if_neg hk]; exact ⟨.exit k, s1, ρ1, R1, rfl, hq, hI1⟩
    | ret => exact ⟨.ret, s1, ρ1, R1, rfl, hq, hI1⟩
    | goto l => exact ⟨.goto l, s1, ρ1, R1, rfl, hq, hI1⟩
  | loop b ih =>
    refine ⟨?_, fun l rest h => by simp [findLabel] at h⟩
    intro ac Q s ρ R a w hc h hI
    simp only [bJ, Option.bind_eq_some_iff, Option.some.injEq] at hc
    obtain ⟨x', hx, hc⟩ := hc
    cases ac <;> simp [ACode.strip] at hc
    rename_i keep ax
    subst hc
    obtain ⟨m, hr⟩ := h
    refine wp_loop_rounds m ?_
    induction m generalizing s ρ R a w with
    | zero => exact hr.elim
    | succ m ihm =>
      rw [rounds_succ]
      refine wp_mono (ih.1 hx hr (hI.restrict keep)) ?_
      rintro e a1 w1 ⟨ae, s1, ρ1, R1, rfl, hq, hI1⟩
      cases ae with
      | normal => exact ihm hI1 hq
      | exit id => exact ⟨.exit id, s1, ρ1, R1, rfl, hq, hI1⟩
      | ret => exact ⟨.ret, s1, ρ1, R1, rfl, hq, hI1⟩
      | goto l => exact ⟨.goto l, s1, ρ1, R1, rfl, hq, hI1⟩
  | exit id =>
    refine ⟨?_, fun l rest h => by simp [findLabel] at h⟩
    intro ac Q s ρ R a w hc h hI
    cases ac <;> simp [bJ, ACode.strip] at hc
    subst hc
    exact wp_exit ⟨.exit _, s, ρ, R, rfl, h, hI⟩
  | ret =>
    refine ⟨?_, fun l rest h => by simp [findLabel] at h⟩
    intro ac Q s ρ R a w hc h hI
    cases ac <;> simp [bJ, ACode.strip] at hc
    exact wp_ret ⟨.ret, s, ρ, R, rfl, h, hI⟩
  | rangeFunc f ps x y =>
    refine ⟨?_, fun l rest h => by simp [findLabel] at h⟩
    intro ac Q s ρ R a w hc h hI
    cases ac <;> simp [bJ, ACode.strip] at hc
    exact h.elim
  | refuse why =>
    refine ⟨?_, fun l rest h => by simp [findLabel] at h⟩
    intro ac Q s ρ R a w hc h hI
    cases ac <;> simp [bJ, ACode.strip] at hc
    exact h.elim
  | scope c ih =>
    refine ⟨?_, fun l rest h => by simp [findLabel] at h⟩
    intro ac Q s ρ R a w hc h hI
    simp only [bJ, Option.bind_eq_some_iff, Option.some.injEq] at hc
    obtain ⟨l, _, x, hx, y, hy, hc⟩ := hc
    cases ac <;> simp [ACode.strip] at hc
    rename_i l' ab ar
    obtain ⟨rfl, rfl, rfl⟩ := hc
    have hl := wD (l := l) hx
    rw [hy] at hl
    cases hf : findLabel c l with
    | none => simp only [hf] at hl
    | some rest =>
      simp only [hf] at hl
      have hrest : GSoundC P n H0 p ρ0 R0 w0 rest := ih.2 l rest hf
      refine yN hf (wp_mono (ih.1 hx h hI) ?_)
      have key : ∀ m s ρ R a w, oM (gwp P H0 p ar) l Q m s → Inv n H0 ρ0 R0 w0 p s ρ R a w → D3 P rest l (QM n H0 ρ0 R0 w0 p Q) m a w := by
        intro m
        induction m with
        | zero => intro s ρ R a w h _; exact h.elim
        | succ m ihm =>
          intro s ρ R a w h hI
          refine wp_mono (hrest hl h hI) ?_
          rintro e a1 w1 ⟨ae, s1, ρ1, R1, rfl, hq, hI1⟩
          cases ae with
          | normal => exact ⟨.normal, s1, ρ1, R1, rfl, hq, hI1⟩
          | exit id => exact ⟨.exit id, s1, ρ1, R1, rfl, hq, hI1⟩
          | ret => exact ⟨.ret, s1, ρ1, R1, rfl, hq, hI1⟩
          | goto k => exact ⟨hq.1, ihm s1 ρ1 R1 a1 w1 hq.2 hI1⟩
      rintro e a1 w1 ⟨ae, s1, ρ1, R1, rfl, hq, hI1⟩
      cases ae with
      | normal => exact ⟨.normal, s1, ρ1, R1, rfl, hq, hI1⟩
      | exit id => exact ⟨.exit id, s1, ρ1, R1, rfl, hq, hI1⟩
      | ret => exact ⟨.ret, s1, ρ1, R1, rfl, hq, hI1⟩
      | goto k => obtain ⟨h1, m, h2⟩ := hq; exact ⟨h1, m, key m s1 ρ1 R1 a1 w1 h2 hI1⟩
  | label l =>
    refine ⟨?_, fun k rest h => ?_⟩
    · intro ac Q s ρ R a w hc h hI
      cases ac <;> simp [bJ, ACode.strip] at hc
      exact wp_label ⟨.normal, s, ρ, R, rfl, h, hI⟩
    · simp only [findLabel] at h
      split at h
      · cases h
        intro ac Q s ρ R a w hc h hI
        cases ac <;> simp [bJ, ACode.strip] at hc
        exact wp_skip ⟨.normal, s, ρ, R, rfl, h, hI⟩
      · cases h
  | goto l =>
    refine ⟨?_, fun l rest h => by simp [findLabel] at h⟩
    intro ac Q s ρ R a w hc h hI
    cases ac <;> simp [bJ, ACode.strip] at hc
    subst hc
    exact wp_goto ⟨.goto _, s, ρ, R, rfl, h, hI⟩
theorem KO (hm : P.follows .mixedOrders = true) (h0 : Rep H0 ρ0 R0 w0) (hf0 : ∀ l, Under p l → ρ0 l = none) {code : Code} {ac : ACode} {Q : lH} {s : ASt} {ρ : bF} {R : Imm} {a : Act} {w : World} (hc : bJ P n code = some ac.strip)
    (h : gwp P H0 p ac Q s) (hI : Inv n H0 ρ0 R0 w0 p s ρ R a w) : code.wp P (QM n H0 ρ0 R0 w0 p Q) a w := (gwp_sound_all hm h0 hf0 code).1 hc h hI
end

end Go.Proofs.Ytbngfbpegdcpkaa
/-! The abstract machine: contracts of functions; what is made and handed back may be taken for what nobody changes. -/
namespace Go.Proofs.Ytbngfbpegdcpkaa
set_option linter.unusedVariables false
set_option linter.unusedSimpArgs false

/-- what a call yields, proved -/
def aZ (P : Program) (f : Nat) (xs : List AV) (H : aB) (q : Lab) (r : Res) : Prop := xO P f ∧ (∀ l, r.u.has l → restr H r.foot l ≠ none ∨ Under q l) ∧
  ∀ ρ R vs, RepL ρ R xs vs → Does (sA P f vs.toArray) (restr H r.foot) r.u (Under q) ρ R r.x
theorem FI {P : Program} {call : b9} (h : ∀ f xs H q r, call f xs H q = some r → aZ P f xs H q r) : iS P call := h

/-- a value taken for what it holds: the labels of Z are changed no more -/
inductive Fr (Z : Lab → Prop) (H : aB) : AV → AV → Prop
  | refl (x : AV) : Fr Z H x x
  | own (l : Lab) (e off n : Nat) (rs rows : List (List AV)) (g : Nat → Nat → AV) (hz : Z l) (hl : H l = some (.rows e rs)) (hn : rows.length = n) (hr : ∀ r ∈ rows, sY e r)
      (h1 : ∀ i j x, aQ rows i j = some x → aQ rs (off + i) j = some (g i j)) (h2 : ∀ i j x, aQ rows i j = some x → Fr Z H (g i j) x) : Fr Z H (.sl l e off n) (.isl e rows)
  | nils (e : Nat) : Fr Z H .nils (.isl e [])
  | ptr (l : Lab) (e i j : Nat) (rs rows : List (List AV)) (g : Nat → Nat → AV) (hz : Z l) (hl : H l = some (.rows e rs))
      (h1 : ∀ i j x, aQ rows i j = some x → aQ rs i j = some (g i j)) (h2 : ∀ i j x, aQ rows i j = some x → Fr Z H (g i j) x) : Fr Z H (.ptr l e i j) (.iptr e rows i j)
  | sl0 (e : Nat) : Fr Z H .sl0 (.isl e [])
  | agg (cs ds : List AV) (hl : cs.length = ds.length) (g : Nat → AV) (h1 : ∀ i d, ds[i]? = some d → cs[i]? = some (g i)) (h2 : ∀ i d, ds[i]? = some d → Fr Z H (g i) d) : Fr Z H (.agg cs) (.agg ds)
  | tuple (cs ds : List AV) (hl : cs.length = ds.length) (g : Nat → AV) (h1 : ∀ i d, ds[i]? = some d → cs[i]? = some (g i)) (h2 : ∀ i d, ds[i]? = some d → Fr Z H (g i) d) : Fr Z H (.tuple cs) (.tuple ds)
/-- the blocks that are changed no more -/
noncomputable def frozenR (Z : Lab → Prop) (ρ : bF) (R : Imm) (w : World) : Imm := fun b => open Classical in if ∃ l L, Z l ∧ ρ l = some L ∧ L.blk = b then w.heap[b]? else R b
section
variable {Z : Lab → Prop} {H : aB} {ρ : bF} {R : Imm} {w : World}
theorem rR (hd : ∀ l L, Z l → ρ l = some L → R L.blk = none ∨ R L.blk = w.heap[L.blk]?) : Ext ρ ρ R (frozenR Z ρ R w) := ⟨fun _ _ h => h, fun b O hb => by
  unfold frozenR
  split
  · rename_i h
    obtain ⟨l, L, hz, hL, rfl⟩ := h
    rcases hd l L hz hL with h1 | h1
    · rw [h1] at hb; cases hb
    · rw [← h1]; exact hb
  · exact hb⟩
theorem KP {l : Lab} {L : Loc} (hz : Z l) (hL : ρ l = some L) : frozenR Z ρ R w L.blk = w.heap[L.blk]? := by
  unfold frozenR
  exact if_pos ⟨l, L, hz, hL, rfl⟩
theorem II (hR : Rep H ρ R w) (he : Ext ρ ρ R (frozenR Z ρ R w)) {x y : AV} (h : Fr Z H x y) : ∀ {v : Value}, RepV ρ R x v → RepV ρ (frozenR Z ρ R w) y v := by
  induction h with
  | refl x => intro v hv; exact hv.mono he
  | own l e off n rs rows g hz hl hn hr h1 h2 ih =>
    intro v hv
    rcases hv.sl_inv with ⟨L, cap, hL, hlc, ht, hx, rfl⟩ | ⟨rfl, L, ad, hL, hx, rfl⟩
    · obtain ⟨L', O, hL', hO, hrep⟩ := hR.own l _ hl
      rw [hL] at hL'; cases hL'
      cases O <;> simp only [RepO] at hrep
      rename_i c T fz
      obtain ⟨hfz, hsz, hrow, ⟨hext, hfit⟩, hcell⟩ := hrep
      have hb : frozenR Z ρ R w L.blk = some (.cells c T fz) := by rw [KP hz hL]; exact hO
      have key : ∀ i j x, aQ rows i j = some x → ∃ u, c[L.off + ((off + i) * e + j)]? = some u ∧ RepV ρ R (g i j) u := fun i j x hx => hcell _ _ _ (h1 i j x hx)
      have := RepV.isl (ρ := ρ) (R := frozenR Z ρ R w) e rows L.blk (L.off + off * e) cap c T fz (fun i j => c.getD (L.off + ((off + i) * e + j)) undef) (by omega) hr hb (fun i j x hx => by
          obtain ⟨u, hu, _⟩ := key i j x hx
          have e1 : L.off + off * e + (i * e + j) = L.off + ((off + i) * e + j) := by rw [Nat.add_mul]; omega
          rw [e1]
          simp [Array.getD_eq_getD_getElem?, hu]) (fun i j x hx => by
          obtain ⟨u, hu, hru⟩ := key i j x hx
          have := ih i j x hx hru
          simpa [Array.getD_eq_getD_getElem?, hu] using this)
      rw [hn] at this
      exact this
    · have : rows = [] := List.length_eq_zero_iff.1 hn
      subst this
      exact .isl0 _ _ _ (fun _ => rfl)
  | nils e => intro v hv; cases hv; exact .isl0 _ _ _ (fun _ => rfl)
  | ptr l e i j rs rows g hz hl h1 h2 ih =>
    intro v hv
    obtain ⟨L, hL, rfl⟩ := hv.ptr_inv
    obtain ⟨L', O, hL', hO, hrep⟩ := hR.own l _ hl
    rw [hL] at hL'; cases hL'
    cases O <;> simp only [RepO] at hrep
    rename_i c T fz
    obtain ⟨hfz, hsz, hrow, ⟨hext, hfit⟩, hcell⟩ := hrep
    have hb : frozenR Z ρ R w L.blk = some (.cells c T fz) := by rw [KP hz hL]; exact hO
    have key : ∀ i j x, aQ rows i j = some x → ∃ u, c[L.off + (i * e + j)]? = some u ∧ RepV ρ R (g i j) u := fun i j x hx => hcell _ _ _ (h1 i j x hx)
    exact .iptr e rows i j L.blk L.off c T fz (fun i j => c.getD (L.off + (i * e + j)) undef) hb (fun i j x hx => by
        obtain ⟨u, hu, _⟩ := key i j x hx
        simp [Array.getD_eq_getD_getElem?, hu]) (fun i j x hx => by
        obtain ⟨u, hu, hru⟩ := key i j x hx
        have := ih i j x hx hru
        simpa [Array.getD_eq_getD_getElem?, hu] using this)
  | sl0 e => intro v hv; cases hv; exact .isl0 _ _ _ (fun _ => rfl)
  | agg cs ds hl g h1 h2 ih =>
    intro v hv
    cases hv with
    | agg _ C hC hc =>
      refine .agg _ _ (by omega) (fun i d hd => ?_)
      exact ih i d hd (hc i _ (h1 i d hd))
  | tuple cs ds hl g h1 h2 ih =>
    intro v hv
    cases hv with
    | tuple _ C hC hc =>
      refine .tuple _ _ (by omega) (fun i d hd => ?_)
      exact ih i d hd (hc i _ (h1 i d hd))
/-- a heap without those labels -/
theorem tS (hR : Rep H ρ R w) {G : aB} (hG : ∀ l o, G l = some o → ¬ Z l ∧ H l = some o) (he : Ext ρ ρ R (frozenR Z ρ R w)) (hz : ∀ l, Z l → ∀ L, ρ l = some L → H l ≠ none) : Rep G ρ (frozenR Z ρ R w) w := by
  refine ⟨fun l o h => ?_, fun l l' o o' L L' h h' => hR.sep l l' o o' L L' (hG l o h).2 (hG l' o' h').2, fun l o L h hL => ?_, fun b O h => ?_⟩
  · obtain ⟨L, O, h1, h2, h3⟩ := hR.own l o (hG l o h).2
    exact ⟨L, O, h1, h2, h3.mono he⟩
  · unfold frozenR
    split
    · rename_i hx
      obtain ⟨k, K, hk, hK, hb⟩ := hx
      obtain ⟨o', ho'⟩ := Option.ne_none_iff_exists'.1 (hz k hk K hK)
      have := hR.sep k l o' o K L ho' (hG l o h).2 hK hL hb
      subst this
      exact absurd hk (hG k o h).1
    · exact hR.dis l o L (hG l o h).2 hL
  · unfold frozenR at h
    split at h
    · exact h
    · exact hR.imm b O h
theorem IH {H0 : aB} {ρ0 : bF} {R0 : Imm} {w0 : World} {W : Lab → Prop} (h : Fut H0 ρ0 R0 w0 W ρ R w) (he : Ext ρ ρ R (frozenR Z ρ R w)) (hz : ∀ l L, Z l → ρ l = some L → H0 l ≠ none ∨ ρ0 l = none) : Fut H0 ρ0 R0 w0 W ρ (frozenR Z ρ R w) w := by
  refine ⟨h.ext.trans he, h.win, fun b O hb => ?_, h.os, h.tape, h.output, h.size, h.frame⟩
  unfold frozenR at hb
  split at hb
  · rename_i hx
    obtain ⟨l, L, hl, hL, rfl⟩ := hx
    rcases h.win l L hL with h1 | ⟨_, h2⟩
    · rcases hz l L hl hL with h3 | h3
      · obtain ⟨o, ho⟩ := Option.ne_none_iff_exists'.1 h3
        exact .inr (.inr ⟨l, o, L, ho, h1, rfl⟩)
      · rw [h1] at h3; cases h3
    · exact .inr h2
  · exact h.new b O hb
end
/-- what a body's end is to be: the result, frozen; what is left of the heap -/
def aAs (Z : Lab → Prop) (H : aB) (res : List AResV) (y : AV) (u : Chg) : lH := fun e s => (e = .normal ∨ e = .ret) ∧ ∃ x, j1 (upd s.ov H) s.regs res = some x ∧ Fr (fun l => Z l ∧ upd s.ov H l ≠ none) (upd s.ov H) x y ∧ ∀ l o, upd u H l = some o → ¬ (Z l ∧ upd s.ov H l ≠ none) ∧ upd s.ov H l = some o
section
variable {P : Program} {ρ : bF} {R : Imm}
theorem gcall_does (hm : P.follows .mixedOrders = true) {f : Nat} {A : AFun} (hA : FunOk P f A) {xs : List AV} (hlen : xs.length = A.np) {H : aB} {q : Lab} {Z : Lab → Prop} {y : AV} {u : Chg} (h : gwp P H q A.body (aAs Z H A.res y u) (m9 xs)) {vs : List Value} (hvs : RepL ρ R xs vs) :
    ∀ w, Rep H ρ R w → (∀ l, Under q l → ρ l = none) → sA P f vs.toArray w (fun v w' => ∃ ρ' R', Fut H ρ R w (Under q) ρ' R' w' ∧ RepV ρ' R' y v ∧ Rep (upd u H) ρ' R' w') := by
  intro w hR hfr
  obtain ⟨⟨fn, c, hf, hb, hn, hnt, hc, hres⟩, hnp⟩ := hA
  have hvl := hvs.1
  refine calls_of_wp hf hb ?_
  have hI : Inv A.nt H ρ R w q (m9 xs) ρ R { tmps := vs.toArray ++ Array.replicate (fn.ntmps - vs.toArray.size) undef, defers := [] } w := by
    refine ⟨⟨?_, rfl, fun t x hx => ?_, ?_⟩, Fut.refl _ _ _ _ _, fun l hl => hfr l hl.under, fun k o hk => .inl (by simp only [m9, upd] at hk; rw [hk]; simp)⟩
    · simp; omega
    · simp only [m9, yA, Nat.zero_le, if_true, Nat.sub_zero] at hx
      obtain ⟨v, hv, hr⟩ := hvs.2 t x hx
      have ht : t < vs.length := (List.getElem?_eq_some_iff.1 hv).1
      have : (vs.toArray ++ Array.replicate (fn.ntmps - vs.toArray.size) undef).getD t undef = v := by
        rw [Array.getD_eq_getD_getElem?, Array.getElem?_append_left (by simpa using ht)]
        simp [hv]
      rw [this]; exact hr
    · simpa [m9, upd] using hR
  refine wp_mono (KO hm hR hfr hc h hI) ?_
  rintro e a' w' ⟨ae, s, ρ', R', rfl, ⟨hae, x, hx, hfrz, hsub⟩, hI'⟩
  obtain ⟨v, hv, hrv⟩ := zN hI'.rs hres hx
  have hext : Ext ρ' ρ' R' (frozenR (fun l => Z l ∧ upd s.ov H l ≠ none) ρ' R' w') := rR (fun l L hz hL => by
    obtain ⟨o, ho⟩ := Option.ne_none_iff_exists'.1 hz.2
    exact .inl (hI'.rs.heap.dis l o L ho hL))
  have hpost : a'.defers = [] ∧ ∃ v, (results fn a'.tmps).run P w' = .ok v w' ∧ ∃ v', Ending.returned v = .returned v' ∧ ∃ ρ' R', Fut H ρ R w (Under q) ρ' R' w' ∧ RepV ρ' R' y v' ∧ Rep (upd u H) ρ' R' w' :=
    ⟨hI'.rs.defers, v, hv, v, rfl, ρ', _, IH hI'.fut hext (fun l L hz hL => by
        obtain ⟨o, ho⟩ := Option.ne_none_iff_exists'.1 hz.2
        rcases hI'.lab l o ho with h1 | h1
        · exact .inl h1
        · exact .inr (hfr l h1)), II hI'.rs.heap hext hfrz hrv, tS hI'.rs.heap hsub hext (fun l hz L hL => hz.2)⟩
  rcases hae with rfl | rfl <;> exact hpost
theorem xV (hm : P.follows .mixedOrders = true) {f : Nat} {A : AFun} (hA : FunOk P f A) {xs : List AV} (hlen : xs.length = A.np) {H : aB} {q : Lab} {Z : Lab → Prop} {y : AV} {u : Chg} {foot : Option (List Lab)} (hu : ∀ l, u.has l → restr H foot l ≠ none ∨ Under q l) (h : gwp P (restr H foot) q A.body (aAs Z (restr H foot) A.res y u) (m9 xs)) : aZ P f xs H q ⟨y, u, foot⟩ := by
  obtain ⟨fn, c, hf, hb, hn, _⟩ := hA.ex
  refine ⟨⟨fn, hf, by rw [hb]; rfl, hn⟩, hu, fun ρ R vs hvs w hR hfr => ?_⟩
  refine Calls.mono (gcall_does hm hA hlen h hvs w hR hfr) ?_
  rintro e w' ⟨v, rfl, hk⟩
  exact ⟨v, rfl, hk⟩
/-- what a body's end is to be, where what comes out is not told ahead -/
def ZX (q : Lab) (H : aB) (res : List AResV) (Φ : AV → Chg → Prop) : lH := fun e s => (e = .normal ∨ e = .ret) ∧ ∃ x y u, j1 (upd s.ov H) s.regs res = some x ∧ Φ y u ∧ (∀ l, u.has l → H l ≠ none ∨ Under q l) ∧ Fr (fun l => upd u H l = none ∧ upd s.ov H l ≠ none) (upd s.ov H) x y ∧ ∀ l o, upd u H l = some o → upd s.ov H l = some o
theorem gcall_doesE (hm : P.follows .mixedOrders = true) {f : Nat} {A : AFun} (hA : FunOk P f A) {xs : List AV} (hlen : xs.length = A.np) {H : aB} {q : Lab} {Φ : AV → Chg → Prop} (h : gwp P H q A.body (ZX q H A.res Φ) (m9 xs)) {vs : List Value} (hvs : RepL ρ R xs vs) :
    ∀ w, Rep H ρ R w → (∀ l, Under q l → ρ l = none) → sA P f vs.toArray w (fun v w' => ∃ y u ρ' R', Φ y u ∧ (∀ l, u.has l → H l ≠ none ∨ Under q l) ∧ Fut H ρ R w (Under q) ρ' R' w' ∧ RepV ρ' R' y v ∧ Rep (upd u H) ρ' R' w') := by
  intro w hR hfr
  obtain ⟨⟨fn, c, hf, hb, hn, hnt, hc, hres⟩, hnp⟩ := hA
  have hvl := hvs.1
  refine calls_of_wp hf hb ?_
  have hI : Inv A.nt H ρ R w q (m9 xs) ρ R { tmps := vs.toArray ++ Array.replicate (fn.ntmps - vs.toArray.size) undef, defers := [] } w := by
    refine ⟨⟨?_, rfl, fun t x hx => ?_, ?_⟩, Fut.refl _ _ _ _ _, fun l hl => hfr l hl.under, fun k o hk => .inl (by simp only [m9, upd] at hk; rw [hk]; simp)⟩
    · simp; omega
    · simp only [m9, yA, Nat.zero_le, if_true, Nat.sub_zero] at hx
      obtain ⟨v, hv, hr⟩ := hvs.2 t x hx
      have ht : t < vs.length := (List.getElem?_eq_some_iff.1 hv).1
      have : (vs.toArray ++ Array.replicate (fn.ntmps - vs.toArray.size) undef).getD t undef = v := by
        rw [Array.getD_eq_getD_getElem?, Array.getElem?_append_left (by simpa using ht)]
        simp [hv]
      rw [this]; exact hr
    · simpa [m9, upd] using hR
  refine wp_mono (KO hm hR hfr hc h hI) ?_
  rintro e a' w' ⟨ae, s, ρ', R', rfl, ⟨hae, x, y, u, hx, hΦ, hu, hfrz, hsub⟩, hI'⟩
  obtain ⟨v, hv, hrv⟩ := zN hI'.rs hres hx
  have hext : Ext ρ' ρ' R' (frozenR (fun l => upd u H l = none ∧ upd s.ov H l ≠ none) ρ' R' w') := rR (fun l L hz hL => by
    obtain ⟨o, ho⟩ := Option.ne_none_iff_exists'.1 hz.2
    exact .inl (hI'.rs.heap.dis l o L ho hL))
  have hpost : a'.defers = [] ∧ ∃ v, (results fn a'.tmps).run P w' = .ok v w' ∧ ∃ v', Ending.returned v = .returned v' ∧ ∃ y u ρ' R', Φ y u ∧ (∀ l, u.has l → H l ≠ none ∨ Under q l) ∧ Fut H ρ R w (Under q) ρ' R' w' ∧ RepV ρ' R' y v' ∧ Rep (upd u H) ρ' R' w' :=
    ⟨hI'.rs.defers, v, hv, v, rfl, y, u, ρ', _, hΦ, hu, IH hI'.fut hext (fun l L hz hL => by
        obtain ⟨o, ho⟩ := Option.ne_none_iff_exists'.1 hz.2
        rcases hI'.lab l o ho with h1 | h1
        · exact .inl h1
        · exact .inr (hfr l h1)), II hI'.rs.heap hext hfrz hrv, tS hI'.rs.heap (fun l o hl => ⟨(fun hn => by rw [hn.1] at hl; cases hl), hsub l o hl⟩) hext (fun l hz L hL => hz.2)⟩
  rcases hae with rfl | rfl <;> exact hpost
theorem soundE_of_gwp (hm : P.follows .mixedOrders = true) {f : Nat} {A : AFun} (hA : FunOk P f A) {xs : List AV} (hlen : xs.length = A.np) {H : aB} {q : Lab} {Φ : AV → Chg → Prop} (h : gwp P H q A.body (ZX q H A.res Φ) (m9 xs)) : SoundE P f xs H q Φ := by
  obtain ⟨fn, c, hf, hb, hn, _⟩ := hA.ex
  refine ⟨⟨fn, hf, by rw [hb]; rfl, hn⟩, fun ρ R vs hvs w hR hfr => ?_⟩
  refine Calls.mono (gcall_doesE hm hA hlen h hvs w hR hfr) ?_
  rintro e w' ⟨v, rfl, hk⟩
  exact ⟨v, rfl, hk⟩
/-- a function that only reckons: its arguments are changed by nobody -/
def lV (P : Program) (f : Nat) (xs : List AV) (y : AV) : Prop := ∀ H q, aZ P f xs H q ⟨y, [], some []⟩
def PRet (res : List AResV) (y : AV) : lH := fun e s => (e = .normal ∨ e = .ret) ∧ ∃ x, j1 (upd s.ov (fun _ => none)) s.regs res = some x ∧ Fr (fun l => upd s.ov (fun _ => none) l ≠ none) (upd s.ov (fun _ => none)) x y
theorem rN (H : aB) : restr H (some []) = fun _ => none := by funext l; simp [restr]
theorem pure_of (hm : P.follows .mixedOrders = true) {f : Nat} {A : AFun} (hA : FunOk P f A) {xs : List AV} (hlen : xs.length = A.np) {y : AV} (h : ∀ q, gwp P (fun _ => none) q A.body (PRet A.res y) (m9 xs)) : lV P f xs y := by
  intro H q
  refine xV (Z := fun _ => True) hm hA hlen (fun l hl => absurd hl (aS l)) ?_
  rw [rN]
  refine oB (fun e s he => ?_) (h q)
  obtain ⟨he, x, hx, hf⟩ := he
  refine ⟨he, x, hx, ?_, fun l o h => by simp [upd] at h⟩
  have : (fun l => True ∧ upd s.ov (fun _ => none) l ≠ none) = fun l => upd s.ov (fun _ => (none : Option AO)) l ≠ none := by funext l; simp
  rw [this]; exact hf
end
end Go.Proofs.Ytbngfbpegdcpkaa
/-! The abstract machine: what is owed at each step, as one formula that can be reckoned out. -/
namespace Go.Proofs.Ytbngfbpegdcpkaa
set_option linter.unusedVariables false
set_option linter.unusedSimpArgs false

abbrev KF := AV → aB → List Lab → Option (List Lab) → Prop
def nU : b9 := fun _ _ _ _ => none
def aJ (op : BinOp) (c : Cls) (x y : AV) (K : AV → Prop) : Prop := ∃ z, rF op c x y = some z ∧ K z
def xU (x : AV) (K : AV → Prop) : Prop := match x with
  | .bool b => K (.bool (!b))
  | _ => False
def OO (c x y : AV) (K : AV → Prop) : Prop := match c with
  | .bool true => K x
  | .bool false => K y
  | _ => False
def cS (x : AV) (K : AV → Prop) : Prop := ∃ n, x.len = some n ∧ K (.int .i64 (n : Int))
def vIx (e : Nat) (s i : AV) (K : AV → Prop) : Prop := ∃ z, nH e s i = some z ∧ K z
def vFA (off : Nat) (x : AV) (K : AV → Prop) : Prop := ∃ z, rW off x = some z ∧ K z
def Z4 (off n : Nat) (agg : Bool) (x : AV) (K : AV → Prop) : Prop := match x with
  | .agg cs => off + n ≤ cs.length ∧ ∃ z, cT agg ((cs.drop off).take n) = some z ∧ K z
  | _ => False
def qX (i : Nat) (x : AV) (K : AV → Prop) : Prop := match x with
  | .tuple vs => ∃ z, vs[i]? = some z ∧ K z
  | _ => False
def aW (x : AV) (K : AV → Prop) : Prop := x.nonNil = true ∧ K x
def I2 (x y : AV) (K : AV → Prop) : Prop := match x, y with
  | .int k a, .int k' b => k = k' ∧ K (.int k (Min.min a b))
  | _, _ => False
def LG (x y : AV) (K : AV → Prop) : Prop := match x, y with
  | .int k a, .int k' b => k = k' ∧ K (.int k (Max.max a b))
  | _, _ => False
def gB (z : List AV) (ps : List (Nat × Nat)) (xs : List AV) (K : AV → Prop) : Prop := ∃ cs, oC z ps xs = some cs ∧ K (.agg cs)
def jP (e : Nat) (z : List AV) (ps : List (Nat × Nat)) (xs : List AV) (K : List (List AV) → Nat → Prop) : Prop := ∃ cs, oC z ps xs = some cs ∧ (e ≠ 0 ∧ cs.length % e = 0 ∧ cs.all AV.one = true) ∧ K (aC e (cs.length / e) cs) (cs.length / e)
def zI (x : AV) (K : List AV → Prop) : Prop := x.cells.all AV.one = true ∧ K x.cells
def aF (n : Nat) (agg : Bool) (x : AV) (H : aB) (K : AV → Option (List Lab) → Prop) : Prop := ∃ r, oW n agg x H [] = some r ∧ K r.x r.foot
def aM (k : AK) (xs : List AV) (H : aB) (q : Lab) (K : KF) : Prop := ∃ r, aop nU k xs H q = some r ∧ K r.x (upd r.u H) (r.u.map (·.1)) r.foot
/-- a call; where operations stand in the order of the text, its outcome may be left open -/
def aN (s : Bool) (P : Program) (f : Nat) (xs : List AV) (H : aB) (q : Lab) (K : KF) : Prop := (∃ r, aZ P f xs H q r ∧ K r.x (upd r.u H) (r.u.map (·.1)) r.foot) ∨ (s = true ∧ ∃ Φ, SoundE P f xs H q Φ ∧ ∀ x u, Φ x u → K x (upd u H) (u.map (·.1)) none)
def vop (P : Program) (k : AK) (xs : List AV) (H : aB) (q : Lab) (K : KF) : Prop := match k, xs with
  | .move, [x] => K x H [] (some [])
  | .pick, [c, x, y] => OO c x y fun z => K z H [] (some [])
  | .bin op c, [x, y] => aJ op c x y fun z => K z H [] (some [])
  | .un .not, [x] => xU x fun z => K z H [] (some [])
  | .len .slice, [x] => cS x fun z => K z H [] (some [])
  | .indexAddr e, [x, y] => vIx e x y fun z => K z H [] (some [])
  | .fieldAddr off, [x] => vFA off x fun z => K z H [] (some [])
  | .field off n agg, [x] => Z4 off n agg x fun z => K z H [] (some [])
  | .extract i, [x] => qX i x fun z => K z H [] (some [])
  | .nilCheck, [x] => aW x fun z => K z H [] (some [])
  | .min, [x, y] => I2 x y fun z => K z H [] (some [])
  | .max, [x, y] => LG x y fun z => K z H [] (some [])
  | .build z ps, xs => gB z ps xs fun x => K x H [] (some [])
  | .buildSlice e z ps, xs => jP e z ps xs fun rows n => K (.sl q e 0 n) (upd [(q, some (.rows e rows))] H) [q] (some [])
  | .alloc z, [] => K (.ptr q z.length 0 0) (upd [(q, some (.rows z.length [z]))] H) [q] (some [])
  | .box, [x] => zI x fun cs => K (.ptr q cs.length 0 0) (upd [(q, some (.rows cs.length [cs]))] H) [q] (some [])
  | .load n agg, [x] => aF n agg x H fun z foot => K z H [] foot
  | .mkfn f nf, xs => match decide (nf ≤ xs.length) with
    | true => K (.fn f (xs.take nf) (xs.drop nf)) H [] (some [])
    | false => False
  | .call, .fn (.func f) first captured :: args => aN false P f (first ++ args ++ captured) H q K
  | k, xs => aM k xs H q K
/-- a slice that came in against none: whichever, if it is empty -/
def L7 (x y : AV) (K : AV → Prop) : Prop := match x, y with
  | .isl _ rows, .nils => ∀ b : Bool, (rows ≠ [] → b = false) → K (.bool b)
  | x, y => aJ .eql .slice x y K
/-- a map's next m9: whichever is left -/
def vNext (x : AV) (H : aB) (q : Lab) (K : KF) : Prop := (dop .mnext [x] H fun z u => K z (upd u H) (u.map (·.1)) none) ∨ aM .mnext [x] H q K
/-- an operation in the order of the text -/
def QH (P : Program) (k : AK) (xs : List AV) (H : aB) (q : Lab) (K : KF) : Prop := match k, xs with
  | .bin .eql .slice, [x, y] => L7 x y fun z => K z H [] (some [])
  | .mnext, [x] => vNext x H q K
  | .call, .fn (.func f) first captured :: args => aN true P f (first ++ args ++ captured) H q K
  | k, xs => vop P k xs H q K
/-- a callee as it is taken -/
structure Entry where
  f : Nat
  xs : List AV
  H : aB
  q : Lab
  r : Res
def Agrees (call : b9) (E : List Entry) : Prop := ∀ e ∈ E, call e.f e.xs e.H e.q = some e.r
def EOk (P : Program) (p : Lab) (c : Nat) (E : List Entry) : Prop := (∀ e ∈ E, aZ P e.f e.xs e.H e.q e.r ∧ ∃ j, c ≤ j ∧ e.q = j :: p) ∧ E.Pairwise fun a b => a.q ≠ b.q
theorem aop_noCall {call : b9} {k : AK} {xs : List AV} {H : aB} {q : Lab} {r : Res} (h : aop nU k xs H q = some r) : aop call k xs H q = some r := by
  unfold aop at h
  split at h
  all_goals first
    | (cases h; done)
    | (simp only [aop]; exact h)
    | (unfold GF at h; split at h <;> simp [nU] at h; done)
theorem HB {P : Program} {k : AK} {xs : List AV} {H : aB} {q : Lab} {K : KF} (h : aM k xs H q K) : ∃ (E : List Entry) (r : Res), (∀ e ∈ E, aZ P e.f e.xs e.H e.q e.r ∧ e.q = q) ∧ E.length ≤ 1 ∧ (∀ call, Agrees call E → aop call k xs H q = some r) ∧ K r.x (upd r.u H) (r.u.map (·.1)) r.foot := by
  obtain ⟨r, h1, h2⟩ := h
  exact ⟨[], r, by simp, by simp, fun call _ => aop_noCall h1, h2⟩
theorem jX {P : Program} {k : AK} {xs : List AV} {H : aB} {q : Lab} {K : KF} (r : Res) (h : ∀ call, aop call k xs H q = some r) (hk : K r.x (upd r.u H) (r.u.map (·.1)) r.foot) : ∃ (E : List Entry) (r : Res), (∀ e ∈ E, aZ P e.f e.xs e.H e.q e.r ∧ e.q = q) ∧ E.length ≤ 1 ∧ (∀ call, Agrees call E → aop call k xs H q = some r) ∧ K r.x (upd r.u H) (r.u.map (·.1)) r.foot :=
  ⟨[], r, by simp, by simp, fun call _ => h call, hk⟩
theorem aLoad_u {n : Nat} {agg : Bool} {x : AV} {H : aB} {q : Lab} {r : Res} (h : oW n agg x H q = some r) : r.u = [] := by
  unfold oW at h
  split at h
  · split at h
    · split at h
      · simp only [Option.bind_eq_some_iff, Option.some.injEq] at h
        obtain ⟨_, _, _, _, rfl⟩ := h
        rfl
      · cases h
    · cases h
  · simp only [Option.bind_eq_some_iff, Option.some.injEq] at h
    obtain ⟨_, _, _, _, rfl⟩ := h
    rfl
  · cases h
theorem rI {P : Program} {k : AK} {xs : List AV} {H : aB} {q : Lab} {K : KF} (h : vop P k xs H q K) : ∃ (E : List Entry) (r : Res), (∀ e ∈ E, aZ P e.f e.xs e.H e.q e.r ∧ e.q = q) ∧ E.length ≤ 1 ∧ (∀ call, Agrees call E → aop call k xs H q = some r) ∧ K r.x (upd r.u H) (r.u.map (·.1)) r.foot := by
  unfold vop at h
  split at h
  · exact jX (.pure _) (fun _ => rfl) h
  · unfold OO at h; split at h
    · exact jX (.pure _) (fun _ => rfl) h
    · exact jX (.pure _) (fun _ => rfl) h
    · exact h.elim
  · obtain ⟨z, h1, h2⟩ := h; exact jX (.pure z) (fun _ => by simp [aop, h1]) h2
  · unfold xU at h; split at h
    · exact jX (.pure _) (fun _ => rfl) h
    · exact h.elim
  · obtain ⟨z, h1, h2⟩ := h; refine jX (.pure _) (fun _ => ?_) h2; simp only [aop, N2, h1]; rfl
  · obtain ⟨z, h1, h2⟩ := h; exact jX (.pure z) (fun _ => by simp [aop, h1]) h2
  · obtain ⟨z, h1, h2⟩ := h; exact jX (.pure z) (fun _ => by simp [aop, h1]) h2
  · unfold Z4 at h; split at h
    · obtain ⟨h0, z, h1, h2⟩ := h; exact jX (.pure z) (fun _ => by simp [aop, h0, h1]) h2
    · exact h.elim
  · unfold qX at h; split at h
    · obtain ⟨z, h1, h2⟩ := h; exact jX (.pure z) (fun _ => by simp [aop, h1]) h2
    · exact h.elim
  · obtain ⟨h1, h2⟩ := h; exact jX (.pure _) (fun _ => by simp [aop, h1]) h2
  · unfold I2 at h; split at h
    · obtain ⟨rfl, h2⟩ := h; exact jX (.pure _) (fun _ => by simp [aop]) h2
    · exact h.elim
  · unfold LG at h; split at h
    · obtain ⟨rfl, h2⟩ := h; exact jX (.pure _) (fun _ => by simp [aop]) h2
    · exact h.elim
  · obtain ⟨z, h1, h2⟩ := h; exact jX (.pure (.agg z)) (fun _ => by simp [aop, h1]) h2
  · rename_i e z ps
    obtain ⟨cs, h1, ⟨h2, h3, h4⟩, h5⟩ := h
    exact jX (GJ e (aC e (cs.length / e) cs) (.sl q e 0 (cs.length / e)) q) (fun _ => by simp [aop, h1, h2, h3]; simpa using h4) h5
  · rename_i z
    exact jX (GJ z.length [z] (.ptr q z.length 0 0) q) (fun _ => rfl) h
  · rename_i x
    obtain ⟨h1, h2⟩ := h
    exact jX (GJ x.cells.length [x.cells] (.ptr q x.cells.length 0 0) q) (fun _ => by simp only [aop, h1, if_true]) h2
  · obtain ⟨r, h1, h2⟩ := h
    have hu := aLoad_u h1
    obtain ⟨x, u, foot⟩ := r
    simp only at hu
    subst hu
    exact jX ⟨x, [], foot⟩ (fun _ => h1) h2
  · split at h
    · rename_i f nf _ hd
      have hd' := of_decide_eq_true hd
      exact jX (.pure (.fn f _ _)) (fun _ => by simp only [aop, if_pos hd']) h
    · exact h.elim
  · rename_i f first captured args
    obtain ⟨r, h1, h2⟩ := h.resolve_right (fun h => by cases h.1)
    exact ⟨[⟨f, first ++ args ++ captured, H, q, r⟩], r, by simpa using h1, by simp, fun call hc => by simpa [aop, GF] using hc ⟨f, first ++ args ++ captured, H, q, r⟩ (by simp), h2⟩
  · exact HB h

abbrev aA := AEx → RL → aB → Nat → Prop
def aL (v : AV) (A B : Unit → Prop) : Prop := match v with
  | .bool true => A ()
  | .bool false => B ()
  | _ => False
def wR (r : RL) : List AArg → List AV
  | [] => []
  | .t n :: xs => (bE r n).getD .nilf :: wR r xs
  | .c v :: xs => v :: wR r xs
def rU (r : RL) : List AArg → Bool
  | [] => true
  | .t n :: xs => (bE r n).isSome && rU r xs
  | .c _ :: xs => rU r xs
theorem wQ {r : RL} : ∀ {xs : List AArg}, rU r xs = true → nO r xs = some (wR r xs)
  | [], _ => rfl
  | .t n :: xs, h => by
    simp only [rU, Bool.and_eq_true] at h
    obtain ⟨v, hv⟩ := Option.isSome_iff_exists.1 h.1
    simp [nO, zC, wR, hv, wQ h.2]
  | .c v :: xs, h => by
    simp only [rU] at h
    simp [nO, zC, wR, wQ h]
/-- an operation of a drawn region: those that touch nothing are left out -/
def aH (j : Nat) (labs : List Lab) (q : Lab) (foot : Option (List Lab)) (ps : List (Nat × Tr)) : List (Nat × Tr) := match labs, foot with
  | [], some [] => ps
  | labs, foot => (j, ⟨labs, q, foot⟩) :: ps
def aI (masks : List Nat) (ps : List (Nat × Tr)) : Prop := ∀ a ∈ ps, ∀ b ∈ ps, a.1 ≠ b.1 → mI masks a.1 b.1 = false → a6 a.1 b.1 a.2 b.2 = false
theorem aV {masks : List Nat} {ps : List (Nat × Tr)} (h : (ps.all fun p => p.2.labs.isEmpty) = true) : aI masks ps := fun a ha b hb _ _ => by
  have := List.all_eq_true.1 h a ha
  simp only [List.isEmpty_iff] at this
  unfold a6
  rw [this]
  split <;> simp
def skip (d : Option Nat) (sk : List Nat) : List Nat := match d with
  | none => sk
  | some t => t :: sk
def zJ (d : Option Nat) (sk : List Nat) : List Nat := match d with
  | none => sk
  | some t => sk.filter fun k => !(k == t)
section
variable (P : Program) (p : Lab)
/-- operations one behind the other -/
def GU : List AIns → List Nat → RL → aB → Nat → (RL → aB → Nat → Prop) → Prop
  | [], _, r, H, c, K => K r H c
  | i :: is, sk, r, H, c, K => match i.guard with
    | none => match rU r i.xs with
      | true => QH P i.k (wR r i.xs) H (c :: p) fun x H' _ _ => GU is (zJ i.dst sk) (cU r i.dst x) H' (c + 1) K
      | false => False
    | some (g, want) => match sk.contains g with
      | true => GU is (skip i.dst sk) (cU r i.dst (.tuple [])) H (c + 1) K
      | false => match bE r g with
        | none => False
        | some v => match want with
          | true => aL v (fun _ => match rU r i.xs with
              | true => vop P i.k (wR (xX r g (.bool true)) i.xs) H (c :: p) fun x H' _ _ => GU is (zJ i.dst sk) (cU (xX r g (.bool true)) i.dst x) H' (c + 1) K
              | false => False) (fun _ => GU is (skip i.dst sk) (cU (xX r g (.bool false)) i.dst (.tuple [])) H (c + 1) K)
          | false => aL v (fun _ => GU is (skip i.dst sk) (cU (xX r g (.bool true)) i.dst (.tuple [])) H (c + 1) K) (fun _ => match rU r i.xs with
              | true => vop P i.k (wR (xX r g (.bool false)) i.xs) H (c :: p) fun x H' _ _ => GU is (zJ i.dst sk) (cU (xX r g (.bool false)) i.dst x) H' (c + 1) K
              | false => False)
/-- and what the check of a drawn order looks at -/
def I0 : Nat → List AIns → List Nat → RL → aB → Nat → (List (Nat × Tr) → RL → aB → Nat → Prop) → Prop
  | _, [], _, r, H, c, K => K [] r H c
  | j, i :: is, sk, r, H, c, K => match i.guard with
    | none => match rU r i.xs with
      | true => vop P i.k (wR r i.xs) H (c :: p) fun x H' labs foot => I0 (j + 1) is (zJ i.dst sk) (cU r i.dst x) H' (c + 1) fun ps => K (aH j labs (c :: p) foot ps)
      | false => False
    | some (g, want) => match sk.contains g with
      | true => I0 (j + 1) is (skip i.dst sk) (cU r i.dst (.tuple [])) H (c + 1) K
      | false => match bE r g with
        | none => False
        | some v => match want with
          | true => aL v (fun _ => match rU r i.xs with
              | true => vop P i.k (wR (xX r g (.bool true)) i.xs) H (c :: p) fun x H' labs foot => I0 (j + 1) is (zJ i.dst sk) (cU (xX r g (.bool true)) i.dst x) H' (c + 1) fun ps => K (aH j labs (c :: p) foot ps)
              | false => False) (fun _ => I0 (j + 1) is (skip i.dst sk) (cU (xX r g (.bool false)) i.dst (.tuple [])) H (c + 1) K)
          | false => aL v (fun _ => I0 (j + 1) is (skip i.dst sk) (cU (xX r g (.bool true)) i.dst (.tuple [])) H (c + 1) K) (fun _ => match rU r i.xs with
              | true => vop P i.k (wR (xX r g (.bool false)) i.xs) H (c :: p) fun x H' labs foot => I0 (j + 1) is (zJ i.dst sk) (cU (xX r g (.bool false)) i.dst x) H' (c + 1) fun ps => K (aH j labs (c :: p) foot ps)
              | false => False)
def qG (k : RL → aB → Nat → Prop) (Q : aA) : aA := fun e r H c => match e with
  | .normal => k r H c
  | e => Q e r H c
def jO (id : Nat) (Q : aA) : aA := fun e r H c => match e with
  | .exit k => if k = id then Q .normal r H c else Q (.exit k) r H c
  | e => Q e r H c
def GV (keep : List Nat) (I : Nat → RL → aB → Nat → Prop) (n : Nat) (Q : aA) : aA := fun e r H c => match e with
  | .normal => ∃ n', n' < n ∧ I n' (restrict r keep) H c
  | e => Q e r H c
def vgotoQ (l : Nat) (I : Nat → RL → aB → Nat → Prop) (Q : aA) : aA := fun e r H c => match e with
  | .goto k => k = l ∧ ∃ n, I n r H c
  | e => Q e r H c
def vagainQ (l : Nat) (I : Nat → RL → aB → Nat → Prop) (n : Nat) (Q : aA) : aA := fun e r H c => match e with
  | .goto k => k = l ∧ ∃ n', n' < n ∧ I n' r H c
  | e => Q e r H c
def vc : ACode → aA → RL → aB → Nat → Prop
  | .skip, Q, r, H, c => Q .normal r H c
  | .region ops none keep, Q, r, H, c => GU P p ops [] r H c fun r' H' c' => Q .normal (restrict r' keep) H' c'
  | .region ops (some masks) keep, Q, r, H, c => I0 P p 0 ops [] r H c fun ps r' H' c' => aI masks ps ∧ Q .normal (restrict r' keep) H' c'
  | .seq a b, Q, r, H, c => vc a (qG (vc b Q) Q) r H c
  | .cond x t e, Q, r, H, c => match zC r x with
    | some v => aL v (fun _ => vc t Q r H c) (fun _ => vc e Q r H c)
    | none => False
  | .block id b, Q, r, H, c => vc b (jO id Q) r H c
  | .loop keep b, Q, r, H, c => ∃ (I : Nat → RL → aB → Nat → Prop) (n : Nat), I n (restrict r keep) H c ∧ ∀ n r H c, I n r H c → vc b (GV keep I n Q) r H c
  | .exit id, Q, r, H, c => Q (.exit id) r H c
  | .ret, Q, r, H, c => Q .ret r H c
  | .label _, Q, r, H, c => Q .normal r H c
  | .goto l, Q, r, H, c => Q (.goto l) r H c
  | .scope l b a, Q, r, H, c => ∃ (I : Nat → RL → aB → Nat → Prop), vc b (vgotoQ l I Q) r H c ∧ ∀ n r H c, I n r H c → vc a (vagainQ l I n Q) r H c
  | .bad, _, _, _, _ => False
end
section
variable {P : Program} {H0 : aB} {p : Lab}
theorem wP {v : AV} {A B : Unit → Prop} (h : aL v A B) : (v = .bool true ∧ A ()) ∨ (v = .bool false ∧ B ()) := by
  unfold aL at h
  split at h
  · exact .inl ⟨rfl, h⟩
  · exact .inr ⟨rfl, h⟩
  · exact h.elim
theorem oP : ∀ {r : RL} {g : Nat} {x : AV}, bE r g = some x → xX r g x = r
  | [], _, _, h => by simp [bE] at h
  | (k, y) :: r, g, x, h => by
    simp only [bE] at h
    simp only [xX]
    split at h
    · rename_i e; subst e; simp at h; simp [h]
    · rename_i e; simp [e, oP h]
def SkOk (sk : List Nat) (r : RL) : Prop := ∀ g ∈ sk, bE r g = some (.tuple [])
theorem SkOk.put {sk : List Nat} {r : RL} (h : SkOk sk r) {d : Option Nat} {x : AV} : SkOk (zJ d sk) (cU r d x) := by
  cases d with
  | none => exact h
  | some t =>
    intro g hg
    simp only [zJ, List.mem_filter, Bool.not_eq_true', beq_eq_false_iff_ne] at hg
    simp only [cU, rM, if_neg hg.2]
    exact h g hg.1
theorem SkOk.skip {sk : List Nat} {r : RL} (h : SkOk sk r) {d : Option Nat} : SkOk (Ytbngfbpegdcpkaa.skip d sk) (cU r d (.tuple [])) := by
  cases d with
  | none => exact h
  | some t =>
    intro g hg
    simp only [cU, rM]
    by_cases e : g = t
    · rw [if_pos e]
    · rw [if_neg e]
      simp only [Ytbngfbpegdcpkaa.skip, List.mem_cons] at hg
      exact h g (by simpa [e] using hg)
theorem SkOk.nil {r : RL} : SkOk [] r := fun g hg => by cases hg
theorem EOk.nil {c : Nat} : EOk P p c [] := ⟨by simp, by simp⟩
theorem EOk.add {c : Nat} {E F : List Entry} (hE : ∀ e ∈ E, aZ P e.f e.xs e.H e.q e.r ∧ e.q = c :: p) (hl : E.length ≤ 1) (hF : EOk P p (c + 1) F) : EOk P p c (E ++ F) := by
  refine ⟨fun e he => ?_, ?_⟩
  · rcases List.mem_append.1 he with h | h
    · exact ⟨(hE e h).1, c, Nat.le_refl _, (hE e h).2⟩
    · obtain ⟨h1, j, hj, h2⟩ := hF.1 e h
      exact ⟨h1, j, by omega, h2⟩
  · rw [List.pairwise_append]
    refine ⟨?_, hF.2, fun a ha b hb e => ?_⟩
    · match E, hl with
      | [], _ => exact .nil
      | [x], _ => simp
      | _ :: _ :: _, hl => simp at hl
    · obtain ⟨_, j, hj, h2⟩ := hF.1 b hb
      rw [(hE a ha).2, h2] at e
      simp at e; omega
theorem IK {call : b9} {i : AIns} {r : RL} {ov : Chg} {c : Nat} {res : Res} (hg : i.guard = none) (ha : rU r i.xs = true) (h : aop call i.k (wR r i.xs) (upd ov H0) (c :: p) = some res) : cK call H0 p i ⟨r, ov, c⟩ = some ⟨false, res.x, res.u, c :: p, res.foot⟩ := by
  simp only [cK, hg, tO, wQ ha, Option.bind_some, h]
theorem B5 {call : b9} {i : AIns} {r : RL} {ov : Chg} {c : Nat} {res : Res} {g : Nat} {want : Bool} (hg : i.guard = some (g, want)) (hb : bE r g = some (.bool want)) (ha : rU r i.xs = true) (h : aop call i.k (wR r i.xs) (upd ov H0) (c :: p) = some res) : cK call H0 p i ⟨r, ov, c⟩ = some ⟨false, res.x, res.u, c :: p, res.foot⟩ := by
  simp only [cK, hg, hb, if_true, tO, wQ ha, Option.bind_some, h]
theorem yG {call : b9} {i : AIns} {r : RL} {ov : Chg} {c : Nat} {g : Nat} {want b : Bool} (hg : i.guard = some (g, want)) (hb : bE r g = some (.bool b)) (hne : b ≠ want) : cK call H0 p i ⟨r, ov, c⟩ = some ⟨true, .tuple [], [], c :: p, some []⟩ := by
  simp only [cK, hg, hb, if_neg hne]
theorem F9 {call : b9} {i : AIns} {r : RL} {ov : Chg} {c : Nat} {g : Nat} {want : Bool} (hg : i.guard = some (g, want)) (hb : bE r g = some (.tuple [])) : cK call H0 p i ⟨r, ov, c⟩ = some ⟨true, .tuple [], [], c :: p, some []⟩ := by
  simp only [cK, hg, hb]
theorem Agrees.left {call : b9} {E F : List Entry} (h : Agrees call (E ++ F)) : Agrees call E := fun e he => h e (by simp [he])
theorem Agrees.right {call : b9} {E F : List Entry} (h : Agrees call (E ++ F)) : Agrees call F := fun e he => h e (by simp [he])
def PsOk (j : Nat) (ps : List (Nat × Tr)) (trs : List Tr) : Prop := ∀ (i : Nat) tr, trs[i]? = some tr → (tr.labs = [] ∧ tr.foot = some []) ∨ (j + i, tr) ∈ ps
theorem PsOk.nil {j : Nat} : PsOk j [] [] := fun i tr h => by simp at h
theorem PsOk.add {j : Nat} {ps : List (Nat × Tr)} {trs : List Tr} {labs : List Lab} {q : Lab} {foot : Option (List Lab)} (h : PsOk (j + 1) ps trs) : PsOk j (aH j labs q foot ps) (⟨labs, q, foot⟩ :: trs) := fun i tr hi => by
  cases i with
  | zero =>
    simp only [List.getElem?_cons_zero, Option.some.injEq] at hi
    subst hi
    unfold aH
    split
    · exact .inl ⟨rfl, rfl⟩
    · exact .inr (by simp)
  | succ i =>
    rcases h i tr (by simpa using hi) with h1 | h1
    · exact .inl h1
    · right
      rw [show j + (i + 1) = j + 1 + i by omega]
      unfold aH
      split
      · exact h1
      · exact List.mem_cons_of_mem _ h1
theorem GB {masks : List Nat} {i : Nat} {a : Tr} : ∀ {trs : List Tr} {k : Nat}, (∀ (m : Nat) b, trs[m]? = some b → i ≠ k + m → mI masks i (k + m) = false → a6 i (k + m) a b = false) → vC masks i a trs k = false
  | [], k, _ => rfl
  | b :: trs, k, h => by
    simp only [vC, Bool.or_eq_false_iff]
    refine ⟨?_, GB fun m b hb hi ho => ?_⟩
    · by_cases hi : i = k
      · simp [hi]
      · cases ho : mI masks i k
        · have := h 0 b rfl (by simpa using hi) (by simpa using ho)
          simp at this
          simp [this]
        · simp
    · have := h (m + 1) b (by simpa using hb) (by omega) (by rw [show k + (m + 1) = k + 1 + m by omega]; exact ho)
      rw [show k + (m + 1) = k + 1 + m by omega] at this
      exact this
theorem GC {masks : List Nat} {all : List Tr} : ∀ {trs : List Tr} {k : Nat}, (∀ (m : Nat) a, trs[m]? = some a → a.labs ≠ [] → vC masks (k + m) a all 0 = false) → rB masks all trs k = false
  | [], k, _ => rfl
  | a :: trs, k, h => by
    simp only [rB, Bool.or_eq_false_iff]
    refine ⟨?_, GC fun m b hb hl => ?_⟩
    · cases hl : a.labs with
      | nil => simp
      | cons x y => simp; have := h 0 a rfl (by simp [hl]); simpa using this
    · have := h (m + 1) b (by simpa using hb) hl
      rw [show k + (m + 1) = k + 1 + m by omega] at this
      exact this
theorem clash_of {masks : List Nat} {ps : List (Nat × Tr)} {trs : List Tr} (h : PsOk 0 ps trs) (hc : aI masks ps) : rB masks trs trs 0 = false := GC fun m a ha hl => GB fun n b hb hi ho => by
  simp only [Nat.zero_add] at hi ho ⊢
  rcases h m a ha with h1 | h1
  · exact absurd h1.1 hl
  · rcases h n b hb with h2 | h2
    · simp [a6, h2.2]
    · simp only [Nat.zero_add] at h1 h2
      exact hc _ h1 _ h2 hi ho
theorem GW : ∀ {j : Nat} {is : List AIns} {sk : List Nat} {r : RL} {ov : Chg} {c : Nat} {K : List (Nat × Tr) → RL → aB → Nat → Prop}, SkOk sk r → I0 P p j is sk r (upd ov H0) c K → ∃ E, EOk P p c E ∧ ∃ s' trs ps, PsOk j ps trs ∧ (∀ call, Agrees call E → zM call H0 p is ⟨r, ov, c⟩ = some (s', trs)) ∧ K ps s'.regs (upd s'.ov H0) s'.c
  | j, [], sk, r, ov, c, K, _, h => ⟨[], .nil, ⟨r, ov, c⟩, [], [], .nil, fun _ _ => rfl, h⟩
  | j, i :: is, sk, r, ov, c, K, hsk, h => by
    have go : ∀ {c' : Nat} {x : AV} {u : Chg} {labs : List Lab} {foot : Option (List Lab)} {sk' : List Nat}, labs = u.map (·.1) → c' = c + 1 → SkOk sk' (cU r i.dst x) → I0 P p (j + 1) is sk' (cU r i.dst x) (upd u (upd ov H0)) c' (fun ps => K (aH j labs (c :: p) foot ps)) → ∀ E0, (∀ e ∈ E0, aZ P e.f e.xs e.H e.q e.r ∧ e.q = c :: p) → E0.length ≤ 1 → ∀ sk, (∀ call, Agrees call E0 → cK call H0 p i ⟨r, ov, c⟩ = some ⟨sk, x, u, c :: p, foot⟩) →
        ∃ E, EOk P p c E ∧ ∃ s' trs ps, PsOk j ps trs ∧ (∀ call, Agrees call E → zM call H0 p (i :: is) ⟨r, ov, c⟩ = some (s', trs)) ∧ K ps s'.regs (upd s'.ov H0) s'.c := by
      intro c' x u labs foot sk' hlabs hc' hs hv E0 hE hl sk hev
      subst hc'
      rw [← jU] at hv
      obtain ⟨F, hF, s', trs, ps, hps, h1, h2⟩ := GW hs hv
      refine ⟨E0 ++ F, .add hE hl hF, s', ⟨labs, c :: p, foot⟩ :: trs, _, hps.add, fun call hc => ?_, h2⟩
      simp only [zM, hev call hc.left, Option.bind_some, cZ, I3]
      rw [h1 call hc.right, hlabs]
      rfl
    unfold I0 at h
    split at h
    · rename_i hg
      split at h
      · rename_i ha
        obtain ⟨E, res, hE, hl, hrun, hK⟩ := rI h
        exact go rfl rfl hsk.put hK E hE hl false (fun call hc => IK hg ha (hrun call hc))
      · exact h.elim
    · rename_i g want hg
      split at h
      · rename_i hgs
        have hb := hsk g (by simpa using hgs)
        exact go (u := []) (labs := []) (foot := some []) rfl rfl hsk.skip h [] (by simp) (by simp) true (fun call _ => F9 hg hb)
      · split at h
        · exact h.elim
        · rename_i v hv
          split at h
          · replace h := wP h
            rcases h with ⟨rfl, h⟩ | ⟨rfl, h⟩
            · rw [oP hv] at h
              split at h
              · rename_i ha
                obtain ⟨E, res, hE, hl, hrun, hK⟩ := rI h
                exact go rfl rfl hsk.put hK E hE hl false (fun call hc => B5 hg hv ha (hrun call hc))
              · exact h.elim
            · rw [oP hv] at h
              exact go (u := []) (labs := []) (foot := some []) rfl rfl hsk.skip h [] (by simp) (by simp) true (fun call _ => yG hg hv (by simp))
          · replace h := wP h
            rcases h with ⟨rfl, h⟩ | ⟨rfl, h⟩
            · rw [oP hv] at h
              exact go (u := []) (labs := []) (foot := some []) rfl rfl hsk.skip h [] (by simp) (by simp) true (fun call _ => yG hg hv (by simp))
            · rw [oP hv] at h
              split at h
              · rename_i ha
                obtain ⟨E, res, hE, hl, hrun, hK⟩ := rI h
                exact go rfl rfl hsk.put hK E hE hl false (fun call hc => B5 hg hv ha (hrun call hc))
              · exact h.elim
/-- one table of callees for a region -/
noncomputable def tabCall (E : List Entry) : b9 := fun f xs H q => (E.find? fun e => @decide (e.f = f ∧ e.xs = xs ∧ e.H = H ∧ e.q = q) (Classical.propDecidable _)).map (·.r)
theorem tab_ok {c : Nat} {E : List Entry} (h : EOk P p c E) : iS P (tabCall E) := fun f xs H q r hr => by
  unfold tabCall at hr
  simp only [Option.map_eq_some_iff] at hr
  obtain ⟨e, he, rfl⟩ := hr
  have h1 := List.find?_some he
  have h2 := List.mem_of_find?_eq_some he
  simp only [decide_eq_true_eq] at h1
  obtain ⟨rfl, rfl, rfl, rfl⟩ := h1
  exact (h.1 e h2).1
theorem FB : ∀ {E : List Entry} {e e' : Entry}, (E.Pairwise fun a b => a.q ≠ b.q) → e ∈ E → e' ∈ E → e'.q = e.q → e' = e
  | [], _, _, _, h, _, _ => by cases h
  | a :: E, e, e', hp, he, he', hq => by
    rw [List.pairwise_cons] at hp
    rcases List.mem_cons.1 he with h1 | h1
    · rcases List.mem_cons.1 he' with h2 | h2
      · rw [h1, h2]
      · exact absurd (h1 ▸ hq.symm) (hp.1 _ h2)
    · rcases List.mem_cons.1 he' with h2 | h2
      · exact absurd (h2 ▸ hq) (hp.1 _ h1)
      · exact FB hp.2 h1 h2 hq
theorem tab_agrees {c : Nat} {E : List Entry} (h : EOk P p c E) : Agrees (tabCall E) E := fun e he => by
  unfold tabCall
  have : ∃ e', E.find? (fun e' => @decide (e'.f = e.f ∧ e'.xs = e.xs ∧ e'.H = e.H ∧ e'.q = e.q) (Classical.propDecidable _)) = some e' := by
    cases hf : E.find? (fun e' => @decide (e'.f = e.f ∧ e'.xs = e.xs ∧ e'.H = e.H ∧ e'.q = e.q) (Classical.propDecidable _)) with
    | some e' => exact ⟨e', rfl⟩
    | none => have := List.find?_eq_none.1 hf e he; simp at this
  obtain ⟨e', he'⟩ := this
  have h1 := List.find?_some he'
  have h2 := List.mem_of_find?_eq_some he'
  simp only [decide_eq_true_eq] at h1
  have : e' = e := FB h.2 he h2 h1.2.2.2
  rw [he', this]
  rfl
theorem vopS_sound {k : AK} {xs : List AV} {H : aB} {q : Lab} {K : KF} (h : QH P k xs H q K) : (∃ (E : List Entry) (r : Res), (∀ e ∈ E, aZ P e.f e.xs e.H e.q e.r ∧ e.q = q) ∧ E.length ≤ 1 ∧ (∀ call, Agrees call E → aop call k xs H q = some r) ∧ K r.x (upd r.u H) (r.u.map (·.1)) r.foot) ∨
    dop k xs H (fun x u => ∃ foot, K x (upd u H) (u.map (·.1)) foot) ∨ (k = .call ∧ ∃ f first captured args, xs = .fn (.func f) first captured :: args ∧ ∃ Φ, SoundE P f (first ++ args ++ captured) H q Φ ∧ ∀ x u, Φ x u → ∃ foot, K x (upd u H) (u.map (·.1)) foot) := by
  unfold QH at h
  split at h
  · unfold L7 at h
    split at h
    · exact .inr (.inl (fun b hb => ⟨_, h b hb⟩))
    · exact .inl (rI (k := .bin .eql .slice) h)
  · rcases h with h | h
    · exact .inr (.inl (IM (fun x u hk => ⟨_, hk⟩) h))
    · exact .inl (HB h)
  · rename_i f first captured args
    rcases h with ⟨r, h1, h2⟩ | ⟨_, Φ, h1, h2⟩
    · exact .inl ⟨[⟨f, first ++ args ++ captured, H, q, r⟩], r, by simpa using h1, by simp, fun call hc => by simpa [aop, GF] using hc ⟨f, first ++ args ++ captured, H, q, r⟩ (by simp), h2⟩
    · exact .inr (.inr ⟨rfl, f, first, captured, args, rfl, Φ, h1, fun x u hx => ⟨_, h2 x u hx⟩⟩)
  · exact .inl (rI h)
theorem LM {q : Lab} {E : List Entry} (h : ∀ e ∈ E, aZ P e.f e.xs e.H e.q e.r ∧ e.q = q) (hl : E.length ≤ 1) : iS P (tabCall E) ∧ Agrees (tabCall E) E := by
  have hp : E.Pairwise fun a b => a.q ≠ b.q := by
    match E, hl with
    | [], _ => exact .nil
    | [x], _ => simp
    | _ :: _ :: _, hl => simp at hl
  refine ⟨fun f xs H q' r hr => ?_, fun e he => ?_⟩
  · unfold tabCall at hr
    simp only [Option.map_eq_some_iff] at hr
    obtain ⟨e, he, rfl⟩ := hr
    have h1 := List.find?_some he
    have h2 := List.mem_of_find?_eq_some he
    simp only [decide_eq_true_eq] at h1
    obtain ⟨rfl, rfl, rfl, rfl⟩ := h1
    exact (h e h2).1
  · unfold tabCall
    cases hf : E.find? (fun e' => @decide (e'.f = e.f ∧ e'.xs = e.xs ∧ e'.H = e.H ∧ e'.q = e.q) (Classical.propDecidable _)) with
    | none => have := List.find?_eq_none.1 hf e he; simp at this
    | some e' =>
      have h1 := List.find?_some hf
      have h2 := List.mem_of_find?_eq_some hf
      simp only [decide_eq_true_eq] at h1
      rw [FB hp he h2 h1.2.2.2]
      rfl
theorem GT : ∀ {is : List AIns} {sk : List Nat} {r : RL} {ov : Chg} {c : Nat} {K : RL → aB → Nat → Prop}, SkOk sk r → GU P p is sk r (upd ov H0) c K → IE P H0 p is ⟨r, ov, c⟩ fun s' => K s'.regs (upd s'.ov H0) s'.c
  | [], sk, r, ov, c, K, _, h => h
  | i :: is, sk, r, ov, c, K, hsk, h => by
    have fin : ∀ {x : AV} {u : Chg} {sk' : List Nat}, SkOk sk' (cU r i.dst x) → GU P p is sk' (cU r i.dst x) (upd u (upd ov H0)) (c + 1) K → ∀ q foot b, IE P H0 p is (cZ i ⟨r, ov, c⟩ ⟨b, x, u, q, foot⟩) fun s' => K s'.regs (upd s'.ov H0) s'.c := by
      intro x u sk' hs hv q foot b
      rw [← jU] at hv
      exact GT hs hv
    have skp : ∀ {b : Bool}, (∀ call, cK call H0 p i ⟨r, ov, c⟩ = some ⟨true, .tuple [], [], c :: p, some []⟩) → GU P p is (skip i.dst sk) (cU r i.dst (.tuple [])) (upd ov H0) (c + 1) K → IE P H0 p (i :: is) ⟨r, ov, c⟩ fun s' => K s'.regs (upd s'.ov H0) s'.c := fun {b} hev hv =>
      .inl ⟨tabCall [], (LM (q := c :: p) (by simp) (by simp)).1, _, hev _, fin (u := []) hsk.skip hv _ _ _⟩
    unfold GU at h
    split at h
    · rename_i hg
      split at h
      · rename_i ha
        rcases vopS_sound h with ⟨E, res, hE, hl, hrun, hK⟩ | hd | ⟨hkc, f, first, captured, args, hxs, Φ, hE, hK⟩
        · obtain ⟨h1, h2⟩ := LM hE hl
          exact .inl ⟨tabCall E, h1, _, IK hg ha (hrun _ h2), fin hsk.put hK _ _ _⟩
        · refine .inr (.inl ⟨hg, _, wQ ha, IM (fun x u hk => ?_) hd⟩)
          obtain ⟨foot, hk⟩ := hk
          exact fin hsk.put hk _ _ _
        · refine .inr (.inr ⟨hg, hkc, f, first, captured, args, by rw [← hxs]; exact wQ ha, Φ, hE, fun x u hx => ?_⟩)
          obtain ⟨foot, hk⟩ := hK x u hx
          exact fin hsk.put hk _ _ _
      · exact h.elim
    · rename_i g want hg
      split at h
      · rename_i hgs
        have hb := hsk g (by simpa using hgs)
        exact skp (b := true) (fun call => F9 hg hb) h
      · split at h
        · exact h.elim
        · rename_i v hv
          split at h
          · replace h := wP h
            rcases h with ⟨rfl, h⟩ | ⟨rfl, h⟩
            · rw [oP hv] at h
              split at h
              · rename_i ha
                obtain ⟨E, res, hE, hl, hrun, hK⟩ := rI h
                obtain ⟨h1, h2⟩ := LM hE hl
                exact .inl ⟨tabCall E, h1, _, B5 hg hv ha (hrun _ h2), fin hsk.put hK _ _ _⟩
              · exact h.elim
            · rw [oP hv] at h
              exact skp (b := true) (fun call => yG hg hv (by simp)) h
          · replace h := wP h
            rcases h with ⟨rfl, h⟩ | ⟨rfl, h⟩
            · rw [oP hv] at h
              exact skp (b := true) (fun call => yG hg hv (by simp)) h
            · rw [oP hv] at h
              split at h
              · rename_i ha
                obtain ⟨E, res, hE, hl, hrun, hK⟩ := rI h
                obtain ⟨h1, h2⟩ := LM hE hl
                exact .inl ⟨tabCall E, h1, _, B5 hg hv ha (hrun _ h2), fin hsk.put hK _ _ _⟩
              · exact h.elim
def VQ (H0 : aB) (Q : aA) : lH := fun e s => Q e s.regs (upd s.ov H0) s.c
theorem ES {b : ACode} {keep : List Nat} {Q : lH} : ∀ {m k : Nat} {s : ASt}, m ≤ k → xY (gwp P H0 p b) keep Q m s → xY (gwp P H0 p b) keep Q k s
  | 0, _, _, _, h => h.elim
  | m + 1, 0, _, hk, _ => by omega
  | m + 1, k + 1, s, hk, h => by
    refine oB (fun e s' he => ?_) h
    cases e with
    | normal => exact ES (m := m) (k := k) (by omega) he
    | exit id => exact he
    | ret => exact he
    | goto l => exact he
theorem C4 {b : ACode} {l : Nat} {Q : lH} : ∀ {m k : Nat} {s : ASt}, m ≤ k → oM (gwp P H0 p b) l Q m s → oM (gwp P H0 p b) l Q k s
  | 0, _, _, _, h => h.elim
  | m + 1, 0, _, hk, _ => by omega
  | m + 1, k + 1, s, hk, h => by
    refine oB (fun e s' he => ?_) h
    cases e with
    | normal => exact he
    | exit id => exact he
    | ret => exact he
    | goto l => exact ⟨he.1, C4 (m := m) (k := k) (by omega) he.2⟩
theorem GX {a : ACode} : ∀ {Q : aA} {r : RL} {ov : Chg} {c : Nat}, vc P p a Q r (upd ov H0) c → gwp P H0 p a (VQ H0 Q) ⟨r, ov, c⟩ := by
  induction a with
  | skip => intro Q r ov c h; exact h
  | region ops draw keep =>
    intro Q r ov c h
    cases draw with
    | none =>
      exact FE (fun s1 hs1 => ⟨⟨restrict s1.regs keep, s1.ov, s1.c⟩, Weak.refl _ _ _, hs1⟩) (GT .nil h)
    | some masks =>
      obtain ⟨E, hE, s', trs, ps, hps, h1, h2, h3⟩ := GW .nil h
      exact .inl ⟨tabCall E, tab_ok hE, _, by simp only [oO]; rw [h1 _ (tab_agrees hE)]; simp only [Option.bind_some, clash_of hps h2]; rfl, ⟨restrict s'.regs keep, s'.ov, s'.c⟩, Weak.refl _ _ _, h3⟩
  | seq a b iha ihb =>
    intro Q r ov c h
    refine (show gwp P H0 p a (WZ _ _) _ from oB (fun e s he => ?_) (iha h))
    cases e with
    | normal => exact ihb he
    | exit id => exact he
    | ret => exact he
    | goto l => exact he
  | cond x t e iht ihe =>
    intro Q r ov c h
    simp only [vc] at h
    split at h
    · rename_i v hv
      rcases wP h with ⟨rfl, h'⟩ | ⟨rfl, h'⟩
      · simp only [gwp, hv, if_true]; exact iht h'
      · simp only [gwp, hv, Bool.false_eq_true, if_false]; exact ihe h'
    · exact h.elim
  | block id b ih =>
    intro Q r ov c h
    refine (show gwp P H0 p b (vD _ _) _ from oB (fun e s he => ?_) (ih h))
    cases e with
    | normal => exact he
    | exit k =>
      simp only [VQ, jO] at he
      simp only [vD]
      split at he
      · rename_i hk; rw [if_pos hk]; exact he
      · rename_i hk; rw [if_neg hk]; exact he
    | ret => exact he
    | goto l => exact he
  | loop keep b ih =>
    intro Q r ov c h
    obtain ⟨I, n, h0, hI⟩ := h
    have key : ∀ n r ov c, I n (restrict r keep) (upd ov H0) c → xY (gwp P H0 p b) keep (VQ H0 Q) (n + 1) ⟨r, ov, c⟩ := by
      intro n
      induction n using Nat.strongRecOn with
      | ind n ihn =>
        intro r ov c hn
        refine oB (fun e s he => ?_) (ih (hI n _ _ c hn))
        cases e with
        | normal =>
          obtain ⟨n', hlt, hn'⟩ := he
          exact ES (by omega) (ihn n' hlt s.regs s.ov s.c hn')
        | exit id => exact he
        | ret => exact he
        | goto l => exact he
    exact ⟨n + 1, key n r ov c h0⟩
  | exit id => intro Q r ov c h; exact h
  | ret => intro Q r ov c h; exact h
  | label l => intro Q r ov c h; exact h
  | goto l => intro Q r ov c h; exact h
  | bad => intro Q r ov c h; exact h.elim
  | scope l b a ihb iha =>
    intro Q r ov c h
    obtain ⟨I, h0, hI⟩ := h
    have key : ∀ n r ov c, I n r (upd ov H0) c → oM (gwp P H0 p a) l (VQ H0 Q) (n + 1) ⟨r, ov, c⟩ := by
      intro n
      induction n using Nat.strongRecOn with
      | ind n ihn =>
        intro r ov c hn
        refine oB (fun e s he => ?_) (iha (hI n r _ c hn))
        cases e with
        | normal => exact he
        | exit id => exact he
        | ret => exact he
        | goto k =>
          obtain ⟨hk, n', hlt, hn'⟩ := he
          exact ⟨hk, C4 (by omega) (ihn n' hlt s.regs s.ov s.c hn')⟩
    refine (show gwp P H0 p b (P1 _ _ _) _ from oB (fun e s he => ?_) (ihb h0))
    cases e with
    | normal => exact he
    | exit id => exact he
    | ret => exact he
    | goto k =>
      obtain ⟨hk, n, hn⟩ := he
      exact ⟨hk, n + 1, key n s.regs s.ov s.c hn⟩
end
end Go.Proofs.Ytbngfbpegdcpkaa
/-! The abstract machine: what is owed at each step, on symbols. -/
namespace Go.Proofs.Ytbngfbpegdcpkaa
set_option linter.unusedVariables false
set_option linter.unusedSimpArgs false

/-- an element of a list, by its place -/
def nth {α : Type} [Inhabited α] (l : List α) (i : Nat) : α := l.getD i default
theorem tU {α : Type} [Inhabited α] {l : List α} {i : Nat} (h : i < l.length) : l[i]? = some (nth l i) := by
  simp [nth, List.getD_eq_getElem?_getD, h]
theorem nth_of {α : Type} [Inhabited α] {l : List α} {i : Nat} {x : α} (h : l[i]? = some x) : nth l i = x := by
  simp [nth, List.getD_eq_getElem?_getD, h]
def aE (x : Int) : List AV := [.int .i64 x]
abbrev il (l : List Int) : AV := .isl 1 (l.map aE)
section
variable {P : Program} {p q : Lab} {H : aB} {K : AV → Prop} {A B : Unit → Prop}
/-! choices -/
theorem XI : aL (.bool true) A B = A () := rfl
theorem XJ : aL (.bool false) A B = B () := rfl
theorem aY {φ : Prop} [Decidable φ] (ha : φ → A ()) (hb : ¬ φ → B ()) : aL (.bool (decide φ)) A B := by
  by_cases h : φ
  · rw [decide_eq_true h]; exact ha h
  · rw [decide_eq_false h]; exact hb h
theorem jN {φ : Prop} [Decidable φ] (ha : ¬ φ → A ()) (hb : φ → B ()) : aL (.bool (!decide φ)) A B := by
  by_cases h : φ
  · rw [decide_eq_true h]; exact hb h
  · rw [decide_eq_false h]; exact ha h
theorem sel_b {b : Bool} (ha : b = true → A ()) (hb : b = false → B ()) : aL (.bool b) A B := by
  cases b
  · exact hb rfl
  · exact ha rfl
theorem sel_nb {b : Bool} (ha : b = false → A ()) (hb : b = true → B ()) : aL (.bool (!b)) A B := by
  cases b
  · exact ha rfl
  · exact hb rfl
theorem Q2 {φ : Prop} [Decidable φ] (h : φ) : aL (.bool (decide φ)) A B = A () := by rw [decide_eq_true h]; rfl
theorem Q3 {φ : Prop} [Decidable φ] (h : ¬ φ) : aL (.bool (decide φ)) A B = B () := by rw [decide_eq_false h]; rfl
theorem Q0 {φ : Prop} [Decidable φ] (h : ¬ φ) : aL (.bool (!decide φ)) A B = A () := by rw [decide_eq_false h]; rfl
theorem Q1 {φ : Prop} [Decidable φ] (h : φ) : aL (.bool (!decide φ)) A B = B () := by rw [decide_eq_true h]; rfl
/-! numbers -/
variable {k : IntKind} {a b : Int} {c : Cls}
theorem rC {op : BinOp} {x y z : AV} (h : rF op c x y = some z) : aJ op c x y K = K z := by
  unfold aJ; rw [h]; simp
theorem XA : aJ .lss c (.int k a) (.int k b) K = K (.bool (decide (a < b))) := rC (by simp [rF, BS])
theorem XB : aJ .leq c (.int k a) (.int k b) K = K (.bool (decide (a ≤ b))) := rC (by simp [rF, BS])
theorem XC : aJ .gtr c (.int k a) (.int k b) K = K (.bool (decide (b < a))) := rC (by simp [rF, BS])
theorem XD : aJ .geq c (.int k a) (.int k b) K = K (.bool (decide (b ≤ a))) := rC (by simp [rF, BS])
theorem XF : aJ .eql c (.int k a) (.int k b) K = K (.bool (decide (a = b))) := rC (by simp [rF, BS])
theorem W8 : aJ .neq c (.int k a) (.int k b) K = K (.bool (!decide (a = b))) := rC (by simp [rF, BS])
theorem OE (h1 : -9223372036854775808 ≤ a) (h2 : a ≤ 9223372036854775807) : inR a = true := by simp [inR, h1, h2]
theorem XH (h1 : -9223372036854775808 ≤ a + b) (h2 : a + b ≤ 9223372036854775807) : aJ .add c (.int .i64 a) (.int .i64 b) K = K (.int .i64 (a + b)) := rC (by simp [rF, BS, wC, OE h1 h2])
theorem W6 (h1 : -9223372036854775808 ≤ a - b) (h2 : a - b ≤ 9223372036854775807) : aJ .sub c (.int .i64 a) (.int .i64 b) K = K (.int .i64 (a - b)) := rC (by simp [rF, BS, wC, OE h1 h2])
theorem v_mul (h1 : -9223372036854775808 ≤ a * b) (h2 : a * b ≤ 9223372036854775807) : aJ .mul c (.int .i64 a) (.int .i64 b) K = K (.int .i64 (a * b)) := rC (by simp [rF, BS, wC, OE h1 h2])
theorem v_or {a b : Nat} (h : aJ .or c (.int .i64 a) (.int .i64 b) K) : aJ .or c (.int .i64 a) (.int .i64 b) K := h
theorem v_beq {x y : Bool} : aJ .eql .bool (.bool x) (.bool y) K = K (.bool (x == y)) := rC (by simp [rF, lE])
theorem v_bne {x y : Bool} : aJ .neq .bool (.bool x) (.bool y) K = K (.bool (!(x == y))) := rC (by simp [rF, lE])
theorem W7 {x : Bool} : xU (.bool x) K = K (.bool (!x)) := rfl
theorem W9 : I2 (.int k a) (.int k b) K = K (.int k (Min.min a b)) := by simp [I2]
theorem QV : LG (.int k a) (.int k b) K = K (.int k (Max.max a b)) := by simp [LG]
theorem LX {x y : AV} : OO (.bool true) x y K = K x := rfl
theorem LY {x y : AV} : OO (.bool false) x y K = K y := rfl
/-! rows -/
theorem QY {x : AV} {xs : List AV} : qX 0 (.tuple (x :: xs)) K = K x := by simp [qX]
theorem QX {x y : AV} {xs : List AV} : qX 1 (.tuple (x :: y :: xs)) K = K y := by simp [qX]
theorem QW {x y z : AV} {xs : List AV} : qX 2 (.tuple (x :: y :: z :: xs)) K = K z := by simp [qX]
theorem v_len_map {α : Type} {f : α → List AV} {l : List α} {e : Nat} : cS (.isl e (l.map f)) K = K (.int .i64 l.length) := by simp [cS, AV.len]
theorem JE {rows : List (List AV)} {e : Nat} : cS (.isl e rows) K = K (.int .i64 rows.length) := by simp [cS, AV.len]
theorem G8 : cS .nils K = K (.int .i64 0) := by simp [cS, AV.len]
theorem EZ : cS .sl0 K = K (.int .i64 0) := by simp [cS, AV.len]
theorem G7 {l : Lab} {e o n : Nat} : cS (.sl l e o n) K = K (.int .i64 n) := by simp [cS, AV.len]
theorem L4 {α : Type} {f : α → List AV} {l : List α} {e : Nat} {i : Int} (h0 : 0 ≤ i) (h1 : i < l.length) : vIx e (.isl e (l.map f)) (.int k i) K = K (.iptr e (l.map f) i.toNat 0) := by simp [vIx, nH, h0, h1]
theorem v_ix_isl {rows : List (List AV)} {e : Nat} {i : Int} (h0 : 0 ≤ i) (h1 : i < rows.length) : vIx e (.isl e rows) (.int k i) K = K (.iptr e rows i.toNat 0) := by simp [vIx, nH, h0, h1]
theorem ON {l : Lab} {o n e : Nat} {i : Int} (h0 : 0 ≤ i) (h1 : i < n) : vIx e (.sl l e o n) (.int k i) K = K (.ptr l e (o + i.toNat) 0) := by simp [vIx, nH, h0, h1]
theorem JB {l : Lab} {e i j : Nat} : aW (.ptr l e i j) K = K (.ptr l e i j) := by simp [aW, AV.nonNil]
theorem GZ {rows : List (List AV)} {e i j : Nat} : aW (.iptr e rows i j) K = K (.iptr e rows i j) := by simp [aW, AV.nonNil]
theorem L5 {l : Lab} {e i j o : Nat} : vFA o (.ptr l e i j) K = K (.ptr l e i (j + o)) := by simp [vFA, rW]
theorem JF {rows : List (List AV)} {e i j o : Nat} : vFA o (.iptr e rows i j) K = K (.iptr e rows i (j + o)) := by simp [vFA, rW]
/-- cells of a row -/
def j3 (n : Nat) (agg : Bool) (r : List AV) (j : Nat) (K : AV → Prop) : Prop := j + n ≤ r.length ∧ ∃ x, cT agg ((r.drop j).take n) = some x ∧ K x
theorem WL {x : AV} {r : List AV} : j3 1 false (x :: r) 0 K = K x := by simp [j3, cT]
theorem WK {x : AV} {r : List AV} {n j : Nat} {g : Bool} : j3 n g (x :: r) (j + 1) K = j3 n g r j K := by
  simp only [j3, List.drop_succ_cons, List.length_cons]
  have : (j + 1 + n ≤ r.length + 1) = (j + n ≤ r.length) := by simp; omega
  rw [this]
theorem cell_all {r : List AV} {n : Nat} (h : r.length = n) : j3 n true r 0 K = K (.agg r) := by subst h; simp [j3, cT]
theorem QA {a b : AV} {r : List AV} : j3 2 true (a :: b :: r) 0 K = K (.agg [a, b]) := by simp [j3, cT]
theorem P9 {a b c : AV} {r : List AV} : j3 3 true (a :: b :: c :: r) 0 K = K (.agg [a, b, c]) := by simp [j3, cT]
theorem P8 {a b c d e f g : AV} {r : List AV} : j3 7 true (a :: b :: c :: d :: e :: f :: g :: r) 0 K = K (.agg [a, b, c, d, e, f, g]) := by simp [j3, cT]
theorem NT {a b c d e f g h i j : AV} {r : List AV} : j3 10 true (a :: b :: c :: d :: e :: f :: g :: h :: i :: j :: r) 0 K = K (.agg [a, b, c, d, e, f, g, h, i, j]) := by simp [j3, cT]
variable {KL : AV → Option (List Lab) → Prop}
theorem G6 {α : Type} [Inhabited α] {f : α → List AV} {l : List α} {e i j n : Nat} {g : Bool} (h : i < l.length) : aF n g (.iptr e (l.map f) i j) H KL = j3 n g (f (nth l i)) j fun x => KL x (some []) := by
  simp only [aF, oW, AO.cells, j3, List.getElem?_map, tU h, Option.map_some, Option.bind_some]
  by_cases hj : j + n ≤ (f (nth l i)).length
  · simp only [hj, if_true, Option.bind_some, true_and, Option.bind_eq_some_iff, Option.some.injEq]
    apply propext
    constructor
    · rintro ⟨r, ⟨y, hy, rfl⟩, hk⟩; exact ⟨y, hy, hk⟩
    · rintro ⟨y, hy, hk⟩; exact ⟨_, ⟨y, hy, rfl⟩, hk⟩
  · simp [hj]
theorem v_load_ptr {α : Type} [Inhabited α] {f : α → List AV} {L : List α} {l : Lab} {e i j n : Nat} {g : Bool} (hl : H l = some (.rows e (L.map f))) (h : i < L.length) : aF n g (.ptr l e i j) H KL = j3 n g (f (nth L i)) j fun x => KL x (some [l]) := by
  simp only [aF, oW, hl, if_true, AO.cells, j3, List.getElem?_map, tU h, Option.map_some, Option.bind_some]
  by_cases hj : j + n ≤ (f (nth L i)).length
  · simp only [hj, if_true, Option.bind_some, true_and, Option.bind_eq_some_iff, Option.some.injEq]
    apply propext
    constructor
    · rintro ⟨r, ⟨y, hy, rfl⟩, hk⟩; exact ⟨y, hy, hk⟩
    · rintro ⟨y, hy, hk⟩; exact ⟨_, ⟨y, hy, rfl⟩, hk⟩
  · simp [hj]
theorem v_load_one {l : Lab} {r : List AV} {e j n : Nat} {g : Bool} (hl : H l = some (.rows e [r])) : aF n g (.ptr l e 0 j) H KL = j3 n g r j fun x => KL x (some [l]) := by
  simp only [aF, oW, hl, if_true, AO.cells, j3, List.getElem?_cons_zero, Option.bind_some]
  by_cases hj : j + n ≤ r.length
  · simp only [hj, if_true, Option.bind_some, true_and, Option.bind_eq_some_iff, Option.some.injEq]
    apply propext
    constructor
    · rintro ⟨s, ⟨y, hy, rfl⟩, hk⟩; exact ⟨y, hy, hk⟩
    · rintro ⟨y, hy, hk⟩; exact ⟨_, ⟨y, hy, rfl⟩, hk⟩
  · simp [hj]
theorem aK {l : Lab} {o : Option AO} {u : Chg} : upd ((l, o) :: u) H l = o := by simp [upd]
theorem aP {k l : Lab} {o : Option AO} {u : Chg} (h : k ≠ l) : upd ((l, o) :: u) H k = upd u H k := by simp [upd, h]
theorem a8 {k : Lab} : upd [] H k = H k := rfl
theorem v_build {z : List AV} {ps : List (Nat × Nat)} {xs cs : List AV} (h : oC z ps xs = some cs) : gB z ps xs K = K (.agg cs) := by simp [gB, h]
theorem v_buildS {e : Nat} {z : List AV} {ps : List (Nat × Nat)} {xs cs : List AV} {KB : List (List AV) → Nat → Prop} (h : oC z ps xs = some cs) (h1 : e ≠ 0) (h2 : cs.length % e = 0) (h3 : cs.all AV.one = true) : jP e z ps xs KB = KB (aC e (cs.length / e) cs) (cs.length / e) := by simp only [jP, h, Option.some.injEq, exists_eq_left', h2, h3, ne_eq, h1, not_false_eq_true, and_self, true_and]
/-- a slice of one's own, with what it holds (none, if there is nothing yet) -/
def Own (H : aB) (x : AV) (e : Nat) (rows : List (List AV)) : Prop := (x = .nils ∧ rows = []) ∨ ∃ l, x = .sl l e 0 rows.length ∧ H l = some (.rows e rows)
theorem Own.nils {e : Nat} : Own H .nils e [] := .inl ⟨rfl, rfl⟩
theorem v_len_own {x : AV} {e : Nat} {rows : List (List AV)} (h : Own H x e rows) : cS x K = K (.int .i64 rows.length) := by
  rcases h with ⟨rfl, rfl⟩ | ⟨l, rfl, _⟩
  · simp [cS, AV.len]
  · simp [cS, AV.len]
/-- what lies where it lay, but for what a slice held -/
def yM (x : AV) (H H' : aB) : Prop := ∀ k o, H k = some o → (∀ e i n, x ≠ .sl k e i n) → H' k = some o
variable {KK : KF}
theorem app_own {x y : AV} {e b : Nat} {rows src : List (List AV)} {ls : List Lab} (h : Own H x e rows) (hs : lF e y H = some (src, ls)) (hne : src ≠ []) (he : 0 < e) (h1 : (rows.length + src.length) * b ≤ 140737488355328) (h2 : rows.length + src.length ≤ 4611686018427387904) (hq : H q = none)
    (hk : ∀ x' H' l f, Own H' x' e (rows ++ src) → yM x H H' → KK x' H' l f) : aM (.append e b) [x, y] H q KK := by
  have hn : src.isEmpty = false := by cases src <;> simp at hne ⊢
  rcases h with ⟨rfl, rfl⟩ | ⟨l, rfl, hl⟩
  · refine ⟨⟨.sl q e 0 src.length, [(q, some (.rows e src))], some ls⟩, ?_, hk _ _ _ _ (.inr ⟨q, by simp, by simp [upd]⟩) (fun k o hk' _ => ?_)⟩
    · simp only [List.length_nil, Nat.zero_add] at h1 h2
      simp [aop, gI, hs, hn, he, h1, h2]
      exact fun h => absurd h hne
    · simp only [upd]
      rw [if_neg (fun e => by rw [e, hq] at hk'; cases hk')]; exact hk'
  · have hlq : q ≠ l := fun e => by rw [e, hl] at hq; cases hq
    refine ⟨⟨.sl q e 0 (rows.length + src.length), [(q, some (.rows e (rows ++ src))), (l, none)], some (l :: ls)⟩, ?_, hk _ _ _ _ (.inr ⟨q, by simp, by simp [upd]⟩) (fun k o hk' hx => ?_)⟩
    · simp [aop, gI, hs, hn, hl, he, h1, h2]
      exact fun h => absurd h hne
    · simp only [upd]
      rw [if_neg (fun e => by rw [e, hq] at hk'; cases hk'), if_neg (fun e' => hx e 0 rows.length (by rw [e']))]; exact hk'
/-- writers that wait for all others, or all others for them -/
inductive PsI : List (Nat × Tr) → List Nat → List Nat → Prop
  | nil : PsI [] [] []
  | read {ps : List (Nat × Tr)} {ws al : List Nat} {j : Nat} {q : Lab} {f : Option (List Lab)} (h : PsI ps ws al) : PsI (aH j [] q f ps) ws (j :: al)
  | write {ps : List (Nat × Tr)} {ws al : List Nat} {j : Nat} {l : List Lab} {q : Lab} {f : Option (List Lab)} (h : PsI ps ws al) : PsI (aH j l q f ps) (j :: ws) (j :: al)
theorem tD {j : Nat} {l : List Lab} {q : Lab} {f : Option (List Lab)} {ps : List (Nat × Tr)} {a : Nat × Tr} (h : a ∈ aH j l q f ps) : a = (j, ⟨l, q, f⟩) ∨ a ∈ ps := by
  unfold aH at h
  split at h
  · exact .inr h
  · exact List.mem_cons.1 h
theorem PsI.all {ps : List (Nat × Tr)} {ws al : List Nat} (h : PsI ps ws al) : ∀ a ∈ ps, a.1 ∈ al ∧ (a.2.labs = [] ∨ a.1 ∈ ws) := by
  induction h with
  | nil => intro a ha; cases ha
  | read h ih =>
    intro a ha
    rcases tD ha with rfl | ha
    · exact ⟨by simp, .inl rfl⟩
    · exact ⟨List.mem_cons_of_mem _ (ih a ha).1, (ih a ha).2⟩
  | write h ih =>
    intro a ha
    rcases tD ha with rfl | ha
    · exact ⟨by simp, .inr (by simp)⟩
    · exact ⟨List.mem_cons_of_mem _ (ih a ha).1, (ih a ha).2.imp id (List.mem_cons_of_mem _)⟩
def ordAll (masks ws al : List Nat) : Bool := ws.all fun i => al.all fun j => i == j || mI masks i j
theorem KX {masks ws al : List Nat} {ps : List (Nat × Tr)} (h : PsI ps ws al) (hc : ordAll masks ws al = true) : aI masks ps := fun a ha b hb hne ho => by
  rcases (h.all a ha).2 with h1 | h1
  · unfold a6; rw [h1]; split <;> simp
  · have := List.all_eq_true.1 (List.all_eq_true.1 hc _ h1) _ (h.all b hb).1
    rw [ho] at this
    simp at this
    exact absurd this hne
/-- the labels of a frame that are still to come are free -/
def Fresh (p : Lab) (c : Nat) (H : aB) : Prop := ∀ k s, c ≤ k → H (s ++ k :: p) = none
theorem Fresh.mono {c d : Nat} (h : Fresh p c H) (hd : c ≤ d) : Fresh p d H := fun k s hk => h k s (by omega)
theorem Fresh.empty {c : Nat} : Fresh p c (fun _ => none) := fun _ _ _ => rfl
theorem Fresh.at {c k : Nat} (h : Fresh p c H) (hk : c ≤ k) : H (k :: p) = none := h k [] hk
theorem rV {j k : Nat} {s : List Nat} (h : j ≠ k) : s ++ j :: p ≠ k :: p := fun e => by
  have hl := congrArg List.length e
  simp at hl
  subst hl
  simp at e
  exact h e
/-- and for a callee -/
theorem Fresh.callee {c : Nat} (h : Fresh p c H) : Fresh (c :: p) 0 H := fun k s _ => by
  have := h c (s ++ [k]) (Nat.le_refl _)
  simpa using this
theorem Fresh.upd {c d k : Nat} {o : Option AO} (h : Fresh p c H) (hd : c ≤ d) (hk : k < d) : Fresh p d (upd [(k :: p, o)] H) := fun j s hj => by
  simp only [Ytbngfbpegdcpkaa.upd]
  rw [if_neg (rV (by omega))]
  exact h j s (by omega)
theorem Own.upd {x : AV} {e c k : Nat} {rows : List (List AV)} {o : Option AO} (h : Own H x e rows) (hf : Fresh p c H) (hk : c ≤ k) : Own (upd [(k :: p, o)] H) x e rows := by
  rcases h with h | ⟨l, h1, h2⟩
  · exact .inl h
  · refine .inr ⟨l, h1, ?_⟩
    simp only [Ytbngfbpegdcpkaa.upd]
    rw [if_neg (fun e => by rw [e, hf.at hk] at h2; cases h2)]; exact h2
/-- one more row of the call's own making -/
theorem MK {x : AV} {e b c k1 k2 : Nat} {rows : List (List AV)} {row : List AV} (h : Own H x e rows) (hf : Fresh p c H) (hc : c ≤ k1) (hk : k1 < k2) (he : 0 < e) (h1 : (rows.length + 1) * b ≤ 140737488355328) (h2 : rows.length + 1 ≤ 4611686018427387904)
    (hK : ∀ x' H' l f, Own H' x' e (rows ++ [row]) → Fresh p (k2 + 1) H' → yM x H H' → KK x' H' l f) : aM (.append e b) [x, .sl (k1 :: p) e 0 1] (upd [(k1 :: p, some (.rows e [row]))] H) (k2 :: p) KK := by
  have hs : lF e (.sl (k1 :: p) e 0 1) (upd [(k1 :: p, some (.rows e [row]))] H) = some ([row], [k1 :: p]) := by simp [lF, upd]
  have hH : ∀ k, k ≠ k1 :: p → upd [(k1 :: p, some (.rows e [row]))] H k = H k := fun k hk => by simp [upd, hk]
  have hq : (k2 :: p) ≠ (k1 :: p) := fun e => by simp at e; omega
  have hq0 : H (k2 :: p) = none := hf.at (by omega)
  rcases h with ⟨rfl, rfl⟩ | ⟨l, rfl, hl⟩
  · refine ⟨⟨.sl (k2 :: p) e 0 1, [(k2 :: p, some (.rows e [row]))], some [k1 :: p]⟩, ?_, hK _ _ _ _ (.inr ⟨k2 :: p, rfl, by simp [upd]⟩) (fun j s hj => ?_) (fun k o hk' _ => ?_)⟩
    · simp only [List.length_nil, Nat.zero_add] at h1 h2
      simp [aop, gI, hs, he]
      omega
    · have := hf j s (by omega)
      simp only [Ytbngfbpegdcpkaa.upd, if_neg (rV (p := p) (s := s) (show j ≠ k2 by omega)), if_neg (rV (p := p) (s := s) (show j ≠ k1 by omega)), this]
    · have e1 : k ≠ k2 :: p := fun e => by rw [e, hq0] at hk'; cases hk'
      have e2 : k ≠ k1 :: p := fun e => by rw [e, hf.at hc] at hk'; cases hk'
      simp [upd, e1, e2, hk']
  · have hl1 : l ≠ k1 :: p := fun e => by rw [e, hf.at hc] at hl; cases hl
    have hl2 : l ≠ k2 :: p := fun e => by rw [e, hq0] at hl; cases hl
    have hl' : upd [(k1 :: p, some (.rows e [row]))] H l = some (.rows e rows) := by rw [hH l hl1]; exact hl
    refine ⟨⟨.sl (k2 :: p) e 0 (rows.length + 1), [(k2 :: p, some (.rows e (rows ++ [row]))), (l, none)], some [l, k1 :: p]⟩, ?_, hK _ _ _ _ (.inr ⟨k2 :: p, by simp, by simp [upd]⟩) (fun j s hj => ?_) (fun k o hk' hx => ?_)⟩
    · simp [aop, gI, hs, hl', he, h1, h2]
    · have := hf j s (by omega)
      simp only [Ytbngfbpegdcpkaa.upd, if_neg (rV (p := p) (s := s) (show j ≠ k2 by omega)), if_neg (rV (p := p) (s := s) (show j ≠ k1 by omega)), this, ite_self]
    · have e1 : k ≠ k2 :: p := fun e => by rw [e, hq0] at hk'; cases hk'
      have e2 : k ≠ k1 :: p := fun e => by rw [e, hf.at hc] at hk'; cases hk'
      have e3 : k ≠ l := fun e' => hx e 0 rows.length (by rw [e'])
      simp [upd, e1, e2, e3, hk']
theorem v_build_eq {z : List AV} {ps : List (Nat × Nat)} {xs : List AV} : gB z ps xs K = match oC z ps xs with
    | some cs => K (.agg cs)
    | none => False := by
  cases h : oC z ps xs <;> simp [gB, h]
theorem v_buildS_eq {e : Nat} {z : List AV} {ps : List (Nat × Nat)} {xs : List AV} {KB : List (List AV) → Nat → Prop} : jP e z ps xs KB = match oC z ps xs with
    | some cs => (e ≠ 0 ∧ cs.length % e = 0 ∧ cs.all AV.one = true) ∧ KB (aC e (cs.length / e) cs) (cs.length / e)
    | none => False := by
  cases h : oC z ps xs <;> simp [jP, h]
theorem rows_sl {l : Lab} {e n : Nat} {rows : List (List AV)} (hl : H l = some (.rows e rows)) (hn : rows.length = n) (h0 : n ≠ 0) : lF e (.sl l e 0 n) H = some (rows, [l]) := by
  subst hn
  simp [lF, h0, hl]
theorem wT {e : Nat} {rows : List (List AV)} : lF e (.isl e rows) H = some (rows, []) := by simp [lF]
/-! calls -/
theorem aO {s : Bool} {f : Nat} {xs : List AV} {y : AV} (h : lV P f xs y) (hk : KK y H [] (some [])) : aN s P f xs H q KK := Or.inl ⟨_, h H q, hk⟩
/-! a body's end -/
def VP (res : List AResV) (y : AV) : aA := fun e r H _ => (e = .normal ∨ e = .ret) ∧ ∃ x, j1 H r res = some x ∧ Fr (fun l => H l ≠ none) H x y
theorem cP (hm : P.follows .mixedOrders = true) {f : Nat} {A : AFun} (hA : FunOk P f A) {xs : List AV} (hlen : xs.length = A.np) {y : AV} (h : ∀ q, vc P q A.body (VP A.res y) (params 0 xs) (fun _ => none) 0) : lV P f xs y :=
  pure_of hm hA hlen (fun q => oB (fun _ _ he => he) (GX (ov := []) (H0 := fun _ => none) (h q)))
theorem qH {keep : List Nat} {b : ACode} {Q : aA} {r : RL} {c : Nat} (I : Nat → RL → aB → Nat → Prop) (n : Nat) (h0 : I n (restrict r keep) H c) (h : ∀ n r H c, I n r H c → vc P p b (GV keep I n Q) r H c) : vc P p (.loop keep b) Q r H c := ⟨I, n, h0, h⟩
theorem w7 {keep : List Nat} {I : Nat → RL → aB → Nat → Prop} {n : Nat} {Q : aA} {r : RL} {c : Nat} (m : Nat) (hm : m < n) (h : I m (restrict r keep) H c) : GV keep I n Q .normal r H c := ⟨m, hm, h⟩
theorem aAm {keep : List Nat} {I : Nat → RL → aB → Nat → Prop} {n : Nat} {Q : aA} {r : RL} {c i : Nat} : GV keep I n Q (.exit i) r H c = Q (.exit i) r H c := rfl
theorem aAl {keep : List Nat} {I : Nat → RL → aB → Nat → Prop} {n : Nat} {Q : aA} {r : RL} {c : Nat} : GV keep I n Q .ret r H c = Q .ret r H c := rfl
/-! freezing -/
variable {Z : Lab → Prop}
theorem Fr.two {a b a' b' : AV} (h : Fr Z H a a') (h' : Fr Z H b b') : Fr Z H (.tuple [a, b]) (.tuple [a', b']) := by
  refine .tuple _ _ rfl (fun i => match i with | 0 => a | _ => b) (fun i d hd => ?_) (fun i d hd => ?_)
  · match i with
    | 0 => rfl
    | 1 => rfl
    | i + 2 => simp at hd
  · match i with
    | 0 => simp at hd; subst hd; exact h
    | 1 => simp at hd; subst hd; exact h'
    | i + 2 => simp at hd
theorem Fr.of_own {x : AV} {e : Nat} {rows : List (List AV)} (h : Own H x e rows) (hr : ∀ r ∈ rows, sY e r) : Fr (fun l => H l ≠ none) H x (.isl e rows) := by
  rcases h with ⟨rfl, rfl⟩ | ⟨l, rfl, hl⟩
  · exact .nils e
  · exact .own l e 0 _ rows rows (fun i j => (aQ rows i j).getD .nilf) (by rw [hl]; simp) hl rfl hr (fun i j x hx => by simp [hx]) (fun i j x hx => by simp [hx]; exact .refl _)
theorem vp1 {t c : Nat} {x y : AV} (h : x = y) : VP [.tmp t] y .ret [(t, x)] H c := ⟨.inr rfl, x, by simp [j1, iV, nA, bE], h ▸ .refl _⟩
theorem aAj {t c : Nat} {x y : AV} (h : Fr (fun l => H l ≠ none) H x y) : VP [.tmp t] y .ret [(t, x)] H c := ⟨.inr rfl, x, by simp [j1, iV, nA, bE], h⟩
theorem vp2 {t u c : Nat} {x y x' y' : AV} (h : Fr (fun l => H l ≠ none) H x x') (h' : Fr (fun l => H l ≠ none) H y y') (hn : u ≠ t) : VP [.tmp t, .tmp u] (.tuple [x', y']) .ret [(t, x), (u, y)] H c := ⟨.inr rfl, .tuple [x, y], by simp [j1, iV, nA, bE, hn], .two h h'⟩
theorem vp2e {t u c : Nat} {x y x' y' : AV} (h : x = x') (h' : y = y') (hn : u ≠ t) : VP [.tmp t, .tmp u] (.tuple [x', y']) .ret [(t, x), (u, y)] H c := vp2 (h ▸ .refl _) (h' ▸ .refl _) hn
theorem Fr.of_ptr {l : Lab} {e i j : Nat} {rows : List (List AV)} (hl : H l = some (.rows e rows)) : Fr (fun l => H l ≠ none) H (.ptr l e i j) (.iptr e rows i j) :=
  .ptr l e i j rows rows (fun i j => (aQ rows i j).getD .nilf) (by rw [hl]; simp) hl (fun i j x hx => by simp [hx]) (fun i j x hx => by simp [hx]; exact .refl _)
theorem rJ {f : Nat} {fs cs args : List AV} : vop P .call (.fn (.func f) fs cs :: args) H q KK = aN false P f (fs ++ args ++ cs) H q KK := rfl
theorem G9 {f : Nat} {fs cs args : List AV} : QH P .call (.fn (.func f) fs cs :: args) H q KK = aN true P f (fs ++ args ++ cs) H q KK := rfl
theorem v_load_rows {rows : List (List AV)} {r : List AV} {n e i j : Nat} {g : Bool} (h : rows[i]? = some r) : aF n g (.iptr e rows i j) H KL = j3 n g r j fun x => KL x (some []) := by
  simp only [aF, oW, AO.cells, j3, h]
  by_cases hj : j + n ≤ r.length
  · simp only [hj, if_true, Option.bind_some, true_and, Option.bind_eq_some_iff, Option.some.injEq]
    apply propext
    constructor
    · rintro ⟨r, ⟨y, hy, rfl⟩, hk⟩; exact ⟨y, hy, hk⟩
    · rintro ⟨y, hy, hk⟩; exact ⟨_, ⟨y, hy, rfl⟩, hk⟩
  · simp [hj]
theorem JD {r : List AV} {n e j : Nat} {g : Bool} : aF n g (.iptr e [r] 0 j) H KL = j3 n g r j fun x => KL x (some []) := v_load_rows rfl
theorem vp3e {t u v c : Nat} {x y z x' y' z' : AV} (h : x = x') (h' : y = y') (h2 : z = z') (hn : u ≠ t) (hn' : v ≠ t) (hn2 : v ≠ u) : VP [.tmp t, .tmp u, .tmp v] (.tuple [x', y', z']) .ret [(t, x), (u, y), (v, z)] H c := by
  subst h h' h2
  exact ⟨.inr rfl, .tuple [x, y, z], by simp [j1, iV, nA, bE, hn, hn', hn2], .refl _⟩
theorem JR {α : Type} {f : α → List AV} {e : Nat} {l : List α} (h : ∀ a, sY e (f a)) : ∀ r ∈ l.map f, sY e r := fun r hr => by
  obtain ⟨a, _, rfl⟩ := List.mem_map.1 hr
  exact h a
end
end Go.Proofs.Ytbngfbpegdcpkaa
/-! The abstract machine: memory of a frame's own, on symbols. -/
namespace Go.Proofs.Ytbngfbpegdcpkaa
set_option linter.unusedVariables false
set_option linter.unusedSimpArgs false
section
variable {P : Program} {p q : Lab} {H : aB} {K : AV → Prop} {KL : AV → Option (List Lab) → Prop} {KK : KF}
def GI (n : Nat) (g : Bool) (o : Option AO) (l : Lab) (e i j : Nat) (KL : AV → Option (List Lab) → Prop) : Prop := match o with
  | some (.rows e' rs) => e = e' ∧ match rs[i]? with
    | some r => j3 n g r j fun x => KL x (some [l])
    | none => False
  | _ => False
theorem LZ {n : Nat} {g : Bool} {l : Lab} {e i j : Nat} : aF n g (.ptr l e i j) H KL = GI n g (H l) l e i j KL := by
  apply propext
  unfold aF GI
  cases ho : H l with
  | none => simp [oW, ho]
  | some o =>
    cases o with
    | rows e' rs =>
      simp only [oW, ho]
      by_cases he : e = e'
      · subst he
        simp only [if_true, AO.cells, true_and]
        cases hr : rs[i]? with
        | none => simp
        | some r =>
          simp only [j3]
          by_cases hj : j + n ≤ r.length
          · simp only [hj, if_true, Option.bind_some, true_and, Option.bind_eq_some_iff, Option.some.injEq]
            constructor
            · rintro ⟨s, ⟨y, hy, rfl⟩, hk⟩; exact ⟨y, hy, hk⟩
            · rintro ⟨y, hy, hk⟩; exact ⟨_, ⟨y, hy, rfl⟩, hk⟩
          · simp [hj]
      · simp [he]
    | amap es bs ck => simp [oW, ho]
    | bag es => simp [oW, ho]
    | iter m s se st => simp [oW, ho]
theorem PO {n : Nat} {g : Bool} {r : List AV} {l : Lab} {e j : Nat} : GI n g (some (.rows e [r])) l e 0 j KL = j3 n g r j fun x => KL x (some [l]) := by simp [GI]
theorem PP {α : Type} [Inhabited α] {f : α → List AV} {L : List α} {n : Nat} {g : Bool} {l : Lab} {e i j : Nat} (h : i < L.length) : GI n g (some (.rows e (L.map f))) l e i j KL = j3 n g (f (nth L i)) j fun x => KL x (some [l]) := by simp [GI, tU h]
/-- putting cells into a row -/
def QI (n : Nat) (o : Option AO) (l : Lab) (e i j : Nat) (x : AV) (H : aB) (KK : KF) : Prop := match o with
  | some (.rows e' rs) => e = e' ∧ x.cells.length = n ∧ match rs[i]? with
    | some r => (j + n ≤ r.length ∧ x.cells.all AV.one = true) ∧ KK (.tuple []) (upd [(l, some (.rows e' (rs.set i (putL r j x.cells))))] H) [l] (some [l])
    | none => False
  | _ => False
theorem JA {n : Nat} {x : AV} {l : Lab} {e i j : Nat} : aM (.store n) [.ptr l e i j, x] H q KK = QI n (H l) l e i j x H KK := by
  apply propext
  unfold aM QI
  cases ho : H l with
  | none => simp [aop, wO, ho]
  | some o =>
    cases o with
    | rows e' rs =>
      simp only [aop, wO, ho]
      by_cases he : e = e'
      · subst he
        by_cases hc : x.cells.length = n
        · cases hr : rs[i]? with
          | none => simp [hc]
          | some r =>
            by_cases hj : j + n ≤ r.length ∧ x.cells.all AV.one = true
            · simp only [hc, hj, and_self, if_true, Option.some.injEq, exists_eq_left', true_and, List.map_cons, List.map_nil]
            · simp only [hc, hj, if_true, if_false, and_self, true_and, false_and, true_and, reduceCtorEq, false_and, exists_false]
        · simp [hc]
      · simp [he]
    | amap es bs ck => simp [aop, wO, ho]
    | bag es => simp [aop, wO, ho]
    | iter m s se st => simp [aop, wO, ho]
theorem OS {n : Nat} {r : List AV} {l : Lab} {e j : Nat} {x : AV} : QI n (some (.rows e [r])) l e 0 j x H KK = (x.cells.length = n ∧ (j + n ≤ r.length ∧ x.cells.all AV.one = true) ∧ KK (.tuple []) (upd [(l, some (.rows e [putL r j x.cells]))] H) [l] (some [l])) := by simp [QI]
theorem FP {i j : Nat} {o : Option AO} {u : Chg} (h : i ≠ j) : upd ((j :: p, o) :: u) H (i :: p) = upd u H (i :: p) := by simp [upd, h]
theorem XG {x : AV} {KB : List AV → Prop} : zI x KB = (x.cells.all AV.one = true ∧ KB x.cells) := rfl
theorem XE {o n : Nat} {g : Bool} {cs : List AV} : Z4 o n g (.agg cs) K = j3 n g cs o K := rfl
theorem L6 {k k' : IntKind} {a b c d : Int} : aM (.eqs .eql [.int, .int]) [.agg [.int k a, .int k' b], .agg [.int k c, .int k' d]] H q KK = KK (.bool (decide (a = c) && decide (b = d))) H [] (some []) := by
  have : aop nU (.eqs .eql [.int, .int]) [.agg [.int k a, .int k' b], .agg [.int k c, .int k' d]] H q = some (.pure (.bool (decide (a = c) && decide (b = d)))) := by
    simp [aop, vH, gC, AV.isAgg, AV.cells, FM, ceq, lE]
  simp [aM, this]; rfl
theorem JC {k k' : IntKind} {a b c d : Int} : aM (.eqs .neq [.int, .int]) [.agg [.int k a, .int k' b], .agg [.int k c, .int k' d]] H q KK = KK (.bool (!(decide (a = c) && decide (b = d)))) H [] (some []) := by
  have : aop nU (.eqs .neq [.int, .int]) [.agg [.int k a, .int k' b], .agg [.int k c, .int k' d]] H q = some (.pure (.bool (!(decide (a = c) && decide (b = d))))) := by
    simp [aop, vH, gC, AV.isAgg, AV.cells, FM, ceq, lE]
  simp [aM, this]; rfl
/-- both, split into a number each -/
theorem cF {φ ψ : Prop} [Decidable φ] [Decidable ψ] {A B : Unit → Prop} (ha : φ ∧ ψ → A ()) (hb : ¬ (φ ∧ ψ) → B ()) : aL (.bool (decide φ && decide ψ)) A B := by
  by_cases h1 : φ <;> by_cases h2 : ψ <;> simp only [h1, h2, decide_true, decide_false, Bool.and_self, Bool.and_true, Bool.and_false, Bool.true_and, Bool.false_and]
  · exact ha ⟨h1, h2⟩
  · exact hb (fun h => h2 h.2)
  · exact hb (fun h => h1 h.1)
  · exact hb (fun h => h1 h.1)
theorem bI {φ ψ : Prop} [Decidable φ] [Decidable ψ] {A B : Unit → Prop} (ha : ¬ (φ ∧ ψ) → A ()) (hb : φ ∧ ψ → B ()) : aL (.bool (!(decide φ && decide ψ))) A B := by
  by_cases h1 : φ <;> by_cases h2 : ψ <;> simp only [h1, h2, decide_true, decide_false, Bool.and_self, Bool.and_true, Bool.and_false, Bool.true_and, Bool.false_and, Bool.not_true, Bool.not_false]
  · exact hb ⟨h1, h2⟩
  · exact ha (fun h => h2 h.2)
  · exact ha (fun h => h1 h.1)
  · exact ha (fun h => h1 h.1)
theorem L9 {φ ψ : Prop} [Decidable φ] [Decidable ψ] {A B : Unit → Prop} (h : φ ∧ ψ) : aL (.bool (decide φ && decide ψ)) A B = A () := by simp [h.1, h.2, aL]
theorem MA {φ ψ : Prop} [Decidable φ] [Decidable ψ] {A B : Unit → Prop} (h : ¬ (φ ∧ ψ)) : aL (.bool (decide φ && decide ψ)) A B = B () := by
  have : (decide φ && decide ψ) = false := by rw [Bool.eq_false_iff]; simpa using h
  rw [this]; rfl
theorem JL {φ ψ : Prop} [Decidable φ] [Decidable ψ] {A B : Unit → Prop} (h : ¬ (φ ∧ ψ)) : aL (.bool (!(decide φ && decide ψ))) A B = A () := by
  have : (decide φ && decide ψ) = false := by rw [Bool.eq_false_iff]; simpa using h
  rw [this]; rfl
theorem JM {φ ψ : Prop} [Decidable φ] [Decidable ψ] {A B : Unit → Prop} (h : φ ∧ ψ) : aL (.bool (!(decide φ && decide ψ))) A B = B () := by simp [h.1, h.2, aL]
/-- filling a struct, field by field -/
def HC (cs : List AV) (ps : List (Nat × Nat)) (xs : List AV) (K : List AV → Prop) : Prop := ∃ ds, oC cs ps xs = some ds ∧ K ds
section
variable {K : AV → Prop} {KB : List AV → Prop}
theorem D0 {z : List AV} {ps : List (Nat × Nat)} {xs : List AV} : gB z ps xs K = HC z ps xs fun cs => K (.agg cs) := rfl
theorem NL {cs : List AV} : HC cs [] [] KB = KB cs := by simp [HC, oC]
theorem KS {cs : List AV} {o s : Nat} {ps : List (Nat × Nat)} {x : AV} {xs : List AV} : HC cs ((o, s) :: ps) (x :: xs) KB = ((x.cells.length = s ∧ o + s ≤ cs.length) ∧ HC (putL cs o x.cells) ps xs KB) := by
  simp only [HC, oC]
  by_cases h : x.cells.length = s ∧ o + s ≤ cs.length
  · rw [if_pos h]; simp [h]
  · rw [if_neg h]; simp [h]
theorem CD {e : Nat} {z : List AV} {ps : List (Nat × Nat)} {xs : List AV} {K2 : List (List AV) → Nat → Prop} : jP e z ps xs K2 = HC z ps xs fun cs => (e ≠ 0 ∧ cs.length % e = 0 ∧ cs.all AV.one = true) ∧ K2 (aC e (cs.length / e) cs) (cs.length / e) := rfl
end
theorem cG {e : Nat} {rows : List (List AV)} (ht : rows = [] → K (.bool true)) (hf : K (.bool false)) : L7 (.isl e rows) .nils K := fun b hb => by
  cases b
  · exact hf
  · refine ht ?_
    cases rows with
    | nil => rfl
    | cons r rows => exact absurd (hb (by simp)) (by simp)
theorem NO : L7 .nils .nils K = K (.bool true) := by simp [L7, aJ, rF, lE]
theorem WI {l : Lab} {e o n : Nat} : L7 (.sl l e o n) .nils K = K (.bool false) := by simp [L7, aJ, rF, lE]
end
end Go.Proofs.Ytbngfbpegdcpkaa
/-! The abstract machine: running a function out where some tests are not known: a list says how they are taken to come out, and what was tested is told. -/
namespace Go.Proofs.Ytbngfbpegdcpkaa
set_option linter.unusedVariables false
set_option linter.unusedSimpArgs false
/-- a run's end: how, the state, the answers that are left, what was tested against which answer -/
structure XR where
  e : AEx
  s : ASt
  os : List Bool
  cons : List (Bool × Bool)
def ConsOk (l : List (Bool × Bool)) : Prop := ∀ p ∈ l, p.1 = p.2
theorem ConsOk.left {l m : List (Bool × Bool)} (h : ConsOk (l ++ m)) : ConsOk l := fun p hp => h p (by simp [hp])
theorem ConsOk.right {l m : List (Bool × Bool)} (h : ConsOk (l ++ m)) : ConsOk m := fun p hp => h p (by simp [hp])
/-- a register's truth, taken to be what a list says -/
def OJ (asks : List (Nat × Bool)) (d : Option Nat) (x : AV) : AV × List (Bool × Bool) := match d, x with
  | some t, .bool b => match asks.lookup t with
    | some ans => (.bool ans, [(b, ans)])
    | none => (x, [])
  | _, x => (x, [])
theorem QC {asks : List (Nat × Bool)} {d : Option Nat} {x : AV} (h : ConsOk (OJ asks d x).2) : (OJ asks d x).1 = x := by
  unfold OJ at h ⊢
  split
  · rename_i t b
    simp only at h
    split
    · rename_i ans ha
      rw [ha] at h
      have : b = ans := h (b, ans) (by simp)
      rw [this]
    · rfl
  · rfl
section
variable (call : b9) (H0 : aB) (p : Lab) (asks : List (Nat × Bool))
def D6 : List AIns → ASt → Option (ASt × List (Bool × Bool))
  | [], s => some (s, [])
  | i :: is, s => (cK call H0 p i s).bind fun rc => (D6 is (cZ i s { rc with x := (OJ asks i.dst rc.x).1 })).bind fun r => some (r.1, (OJ asks i.dst rc.x).2 ++ r.2)
def HG : List AIns → ASt → Option ((ASt × List Tr) × List (Bool × Bool))
  | [], s => some ((s, []), [])
  | i :: is, s => (cK call H0 p i s).bind fun rc => (HG is (cZ i s { rc with x := (OJ asks i.dst rc.x).1 })).bind fun r => some ((r.1.1, I3 rc :: r.1.2), (OJ asks i.dst rc.x).2 ++ r.2)
def DH (ops : List AIns) (draw : Option (List Nat)) (keep : List Nat) (s : ASt) : Option (ASt × List (Bool × Bool)) := match draw with
  | none => (D6 call H0 p asks ops s).bind fun r => some ({ r.1 with regs := restrict r.1.regs keep }, r.2)
  | some masks => (HG call H0 p asks ops s).bind fun r => if rB masks r.1.2 r.1.2 0 then none else some ({ r.1.1 with regs := restrict r.1.1.regs keep }, r.2)
end
theorem HH {call : b9} {H0 : aB} {p : Lab} {asks : List (Nat × Bool)} : ∀ {is : List AIns} {s : ASt} {r : ASt × List (Bool × Bool)}, D6 call H0 p asks is s = some r → ConsOk r.2 → tN call H0 p is s = some r.1
  | [], s, r, h, _ => by
    simp only [D6, Option.some.injEq] at h; subst h
    rfl
  | i :: is, s, r, h, hc => by
    simp only [D6, Option.bind_eq_some_iff, Option.some.injEq] at h
    obtain ⟨rc, h1, q, h2, rfl⟩ := h
    have e := QC hc.left
    rw [e] at h2
    simp only [tN, h1, Option.bind_some]
    exact HH h2 hc.right
theorem JN {call : b9} {H0 : aB} {p : Lab} {asks : List (Nat × Bool)} : ∀ {is : List AIns} {s : ASt} {r : (ASt × List Tr) × List (Bool × Bool)}, HG call H0 p asks is s = some r → ConsOk r.2 → zM call H0 p is s = some r.1
  | [], s, r, h, _ => by
    simp only [HG, Option.some.injEq] at h; subst h
    rfl
  | i :: is, s, r, h, hc => by
    simp only [HG, Option.bind_eq_some_iff, Option.some.injEq] at h
    obtain ⟨rc, h1, q, h2, rfl⟩ := h
    have e := QC hc.left
    rw [e] at h2
    simp only [zM, h1, Option.bind_some]
    have := JN h2 hc.right
    rw [this]
    rfl
theorem runRegionQ_ok {call : b9} {H0 : aB} {p : Lab} {asks : List (Nat × Bool)} {ops : List AIns} {draw : Option (List Nat)} {keep : List Nat} {s : ASt} {r : ASt × List (Bool × Bool)} (h : DH call H0 p asks ops draw keep s = some r) (hc : ConsOk r.2) : oO call H0 p ops draw keep s = some r.1 := by
  unfold DH at h
  unfold oO
  split at h
  · simp only [Option.bind_eq_some_iff, Option.some.injEq] at h
    obtain ⟨q, h1, rfl⟩ := h
    rw [HH h1 hc]
    rfl
  · simp only [Option.bind_eq_some_iff] at h
    obtain ⟨q, h1, h2⟩ := h
    split at h2
    · cases h2
    · rename_i hcl
      simp only [Option.some.injEq] at h2
      subst h2
      rw [JN h1 hc]
      simp only [Option.bind_some]
      rw [if_neg hcl]
section
variable (call : b9) (H0 : aB) (p : Lab) (asks : List (Nat × Bool))
def LW (f : List Bool → ASt → Option XR) (keep : List Nat) : Nat → List Bool → ASt → Option XR
  | 0, _, _ => none
  | m + 1, os, s => (f os { s with regs := restrict s.regs keep }).bind fun r => match r.e with
    | .normal => (LW f keep m r.os r.s).bind fun q => some { q with cons := r.cons ++ q.cons }
    | _ => some r
def axb (fuel : Nat) : ACode → List Bool → ASt → Option XR
  | .skip, os, s => some ⟨.normal, s, os, []⟩
  | .region ops draw keep, os, s => (DH call H0 p asks ops draw keep s).bind fun r => some ⟨.normal, r.1, os, r.2⟩
  | .seq a b, os, s => (axb fuel a os s).bind fun r => match r.e with
    | .normal => (axb fuel b r.os r.s).bind fun q => some { q with cons := r.cons ++ q.cons }
    | _ => some r
  | .cond c t e, os, s => match zC s.regs c with
    | some (.bool b) => match os with
      | true :: os => (axb fuel t os s).bind fun q => some { q with cons := (b, true) :: q.cons }
      | false :: os => (axb fuel e os s).bind fun q => some { q with cons := (b, false) :: q.cons }
      | [] => match b with
        | true => axb fuel t [] s
        | false => axb fuel e [] s
    | _ => none
  | .block id b, os, s => (axb fuel b os s).bind fun r => match r.e with
    | .exit k => if k = id then some { r with e := .normal } else some r
    | _ => some r
  | .loop keep b, os, s => LW (axb fuel b) keep fuel os s
  | .exit id, os, s => some ⟨.exit id, s, os, []⟩
  | .ret, os, s => some ⟨.ret, s, os, []⟩
  | _, _, _ => none
end
theorem axb_awp {call : b9} {H0 : aB} {p : Lab} {asks : List (Nat × Bool)} {fuel : Nat} {c : ACode} : ∀ {os : List Bool} {s : ASt} {r : XR} {Q : lH}, axb call H0 p asks fuel c os s = some r → ConsOk r.cons → Q r.e r.s → awp call H0 p c Q s := by
  induction c with
  | skip => intro os s r Q h _ hQ; simp only [axb, Option.some.injEq] at h; subst h; exact hQ
  | region ops draw keep =>
    intro os s r Q h hc hQ
    simp only [axb, Option.bind_eq_some_iff, Option.some.injEq] at h
    obtain ⟨s1, h1, rfl⟩ := h
    exact ⟨_, runRegionQ_ok h1 hc, hQ⟩
  | seq a b iha ihb =>
    intro os s r Q h hc hQ
    simp only [axb, Option.bind_eq_some_iff] at h
    obtain ⟨⟨e1, s1, os1, c1⟩, h1, h2⟩ := h
    cases e1 with
    | normal =>
      simp only [Option.bind_eq_some_iff, Option.some.injEq] at h2
      obtain ⟨q, h2, rfl⟩ := h2
      exact iha h1 hc.left (ihb h2 hc.right hQ)
    | exit id => simp only [Option.some.injEq] at h2; subst h2; exact iha h1 hc hQ
    | ret => simp only [Option.some.injEq] at h2; subst h2; exact iha h1 hc hQ
    | goto l => simp only [Option.some.injEq] at h2; subst h2; exact iha h1 hc hQ
  | cond c t e iht ihe =>
    intro os s r Q h hc hQ
    simp only [axb] at h
    simp only [awp]
    split at h
    · rename_i b hb
      try rw [hb]
      split at h
      · simp only [Option.bind_eq_some_iff, Option.some.injEq] at h
        obtain ⟨q, h2, rfl⟩ := h
        have : b = true := hc (b, true) (by simp)
        subst this
        exact iht h2 (fun p hp => hc p (by simp [hp])) hQ
      · simp only [Option.bind_eq_some_iff, Option.some.injEq] at h
        obtain ⟨q, h2, rfl⟩ := h
        have : b = false := hc (b, false) (by simp)
        subst this
        exact ihe h2 (fun p hp => hc p (by simp [hp])) hQ
      · cases b with
        | true => exact iht h hc hQ
        | false => exact ihe h hc hQ
    · cases h
  | block id b ih =>
    intro os s r Q h hc hQ
    simp only [axb, Option.bind_eq_some_iff] at h
    obtain ⟨⟨e1, s1, os1, c1⟩, h1, h2⟩ := h
    cases e1 with
    | normal => simp only [Option.some.injEq] at h2; subst h2; exact ih h1 hc hQ
    | exit k =>
      simp only at h2
      split at h2
      · rename_i hk; simp only [Option.some.injEq] at h2; subst h2
        exact ih h1 hc (by simp only [vD]; rw [if_pos hk]; exact hQ)
      · rename_i hk; simp only [Option.some.injEq] at h2; subst h2
        exact ih h1 hc (by simp only [vD]; rw [if_neg hk]; exact hQ)
    | ret => simp only [Option.some.injEq] at h2; subst h2; exact ih h1 hc hQ
    | goto l => simp only [Option.some.injEq] at h2; subst h2; exact ih h1 hc hQ
  | loop keep b ih =>
    intro os s r Q h hc hQ
    simp only [axb] at h
    refine ⟨fuel, ?_⟩
    have key : ∀ m os s r, LW (axb call H0 p asks fuel b) keep m os s = some r → ConsOk r.cons → Q r.e r.s → xY (awp call H0 p b) keep Q m s := by
      intro m
      induction m with
      | zero => intro os s r h; simp [LW] at h
      | succ m ihm =>
        intro os s r h hc hQ
        simp only [LW, Option.bind_eq_some_iff] at h
        obtain ⟨⟨e1, s1, os1, c1⟩, h1, h2⟩ := h
        cases e1 with
        | normal =>
          simp only [Option.bind_eq_some_iff, Option.some.injEq] at h2
          obtain ⟨q, h2, rfl⟩ := h2
          exact ih h1 hc.left (ihm _ _ _ h2 hc.right hQ)
        | exit id => simp only [Option.some.injEq] at h2; subst h2; exact ih h1 hc hQ
        | ret => simp only [Option.some.injEq] at h2; subst h2; exact ih h1 hc hQ
        | goto l => simp only [Option.some.injEq] at h2; subst h2; exact ih h1 hc hQ
    exact key fuel os s r h hc hQ
  | exit id => intro os s r Q h _ hQ; simp only [axb, Option.some.injEq] at h; subst h; exact hQ
  | ret => intro os s r Q h _ hQ; simp only [axb, Option.some.injEq] at h; subst h; exact hQ
  | label l => intro os s r Q h; simp [axb] at h
  | goto l => intro os s r Q h; simp [axb] at h
  | scope l b r => intro os s r Q h; simp [axb] at h
  | bad => intro os s r Q h; simp [axb] at h
/-- what a law's body comes to -/
def OA (call : b9) (fuel : Nat) (A : AFun) (xs : List AV) (os : List Bool) (asks : List (Nat × Bool) := []) : Option (AV × List (Bool × Bool)) := (axb call (fun _ => none) [] asks fuel A.body os (m9 xs)).bind fun r => match r.e with
  | .normal | .ret => (j1 (upd r.s.ov (fun _ => none)) r.s.regs A.res).bind fun x => some (x, r.cons)
  | _ => none
theorem law_awp {call : b9} {fuel : Nat} {A : AFun} {xs : List AV} {os : List Bool} {asks : List (Nat × Bool)} {x : AV} {cons : List (Bool × Bool)} (h : OA call fuel A xs os asks = some (x, cons)) (hc : ConsOk cons) :
    awp call (fun _ => none) [] A.body (Z9 (fun _ => none) A.res (fun y u => y = x ∧ u = [])) (m9 xs) := by
  unfold OA at h
  simp only [Option.bind_eq_some_iff] at h
  obtain ⟨r, h1, h2⟩ := h
  have key : (r.e = .normal ∨ r.e = .ret) ∧ j1 (upd r.s.ov (fun _ => none)) r.s.regs A.res = some x ∧ r.cons = cons := by
    split at h2
    · rename_i he
      simp only [Option.bind_eq_some_iff, Option.some.injEq, Prod.mk.injEq] at h2
      obtain ⟨y, h2, rfl, rfl⟩ := h2
      exact ⟨.inl he, h2, rfl⟩
    · rename_i he
      simp only [Option.bind_eq_some_iff, Option.some.injEq, Prod.mk.injEq] at h2
      obtain ⟨y, h2, rfl, rfl⟩ := h2
      exact ⟨.inr he, h2, rfl⟩
    · cases h2
  obtain ⟨he, hx, rfl⟩ := key
  exact axb_awp h1 hc ⟨he, x, [], hx, fun l o h => by simp [upd] at h, rfl, rfl⟩
theorem JZ {P : Program} {l : List (Nat × AFun)} (h : ∀ p ∈ l, FunOk P p.1 p.2) : ∀ f A, l.lookup f = some A → FunOk P f A := by
  induction l with
  | nil => intro f A h; simp at h
  | cons p l ih =>
    intro f A hf
    rw [List.lookup_cons] at hf
    split at hf
    · rename_i e
      cases hf
      have := h p (by simp)
      rw [beq_iff_eq] at e
      subst e
      exact this
    · exact ih (fun q hq => h q (by simp [hq])) f A hf
end Go.Proofs.Ytbngfbpegdcpkaa
