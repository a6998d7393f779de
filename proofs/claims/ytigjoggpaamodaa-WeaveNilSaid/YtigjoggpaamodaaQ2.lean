/- Texts of the proof, joined. -/
import Derived.Test.YtigjoggpaamodaaQ1
import Derived.LoopNIn
import Derived.ScopeJumps
import GoSem.ClaimChange
import Derived.Carry
import Derived.Test.YtigjoggpaamodaaRows
import Derived.ProofKit
import Derived.OpenShut
import Derived.ChangeSame
import Derived.RangeFuncIn
/-! The abstract machine: a program's operations in its terms. -/
namespace Go.Proofs.Ytigjoggpaamodaa
set_option linter.unusedVariables false
set_option linter.unusedSimpArgs false
section
variable {P : Program} {o : Oper} {a : Act} {ρ : aH} {R : Imm} {H : aB} {nx : Lab} {r : Res}
theorem RepL.one {xs : List AV} {v : Value} (h : RepL ρ R xs [v]) : ∃ x, xs = [x] ∧ RepV ρ R x v := by
  match xs, h with
  | [x], h => obtain ⟨u, us, e, h1, _⟩ := h.head; cases e; exact ⟨x, rfl, h1⟩
  | [], h => exact absurd h.1 (by simp)
  | _ :: _ :: _, h => exact absurd h.1 (by simp)
theorem RepL.two {xs : List AV} {v u : Value} (h : RepL ρ R xs [v, u]) : ∃ x y, xs = [x, y] ∧ RepV ρ R x v ∧ RepV ρ R y u := by
  match xs, h with
  | x :: ys, h =>
    obtain ⟨v', us, e, h1, h2⟩ := h.head
    cases e
    obtain ⟨y, rfl, h3⟩ := h2.one
    exact ⟨x, y, rfl, h1, h3⟩
  | [], h => exact absurd h.1 (by simp)
theorem RepL.three {xs : List AV} {v u t : Value} (h : RepL ρ R xs [v, u, t]) : ∃ x y z, xs = [x, y, z] ∧ RepV ρ R x v ∧ RepV ρ R y u ∧ RepV ρ R z t := by
  match xs, h with
  | x :: ys, h =>
    obtain ⟨v', us, e, h1, h2⟩ := h.head
    cases e
    obtain ⟨y, z, rfl, h3⟩ := h2.two
    exact ⟨x, y, z, rfl, h1, h3⟩
  | [], h => exact absurd h.1 (by simp)
theorem RepL.four {xs : List AV} {v u t s : Value} (h : RepL ρ R xs [v, u, t, s]) : ∃ x y z q, xs = [x, y, z, q] ∧ RepV ρ R x v ∧ RepV ρ R y u ∧ RepV ρ R z t ∧ RepV ρ R q s := by
  match xs, h with
  | x :: ys, h =>
    obtain ⟨v', us, e, h1, h2⟩ := h.head
    cases e
    obtain ⟨y, z, q, rfl, h3⟩ := h2.three
    exact ⟨x, y, z, q, rfl, h1, h3⟩
  | [], h => exact absurd h.1 (by simp)

def qF : TypeDesc → Cls
  | .bool => .bool
  | .pointer _ => .ptr
  | .slice _ => .slice
  | .map _ _ => .map
  | .func _ _ _ => .func
  | _ => .num
def eE (P : Program) (fs : Array Field) : List (Nat × Operand) → Option (List (Nat × Nat))
  | [] => some []
  | p :: ps => (fs[p.1]?).bind fun f => (eE P fs ps).map fun l => (f.offset, P.cellsOf f.type) :: l
def r6 (P : Program) (c : Call) : Option (AK × List Operand) := if c.args.size = 2 ∧ c.argTypes.size = 2 then (c.argTypes[0]?).bind fun T => (c.argTypes[1]?).bind fun U => match P.underlying T, P.underlying U with
  | some (.slice E), some (.slice _) => (P.info? E).bind fun i => i.zero.bind fun z => if z.cells.size = i.size then some (.append i.size i.bytes, c.args.toList) else none
  | _, _ => some (.bad, [])
  else none
def eqK (P : Program) (op : BinOp) (T : TypeId) (x y : Operand) : Option (AK × List Operand) := match P.underlying T with
  | some (.struct _) => (aM P 20 T).bind fun ks => if P.eqGuardType P.depth T = false then some (.eqs op ks, [x, y]) else none
  | _ => some (.bad, [])
def oZ (P : Program) (T : TypeId) (f : Bool → List CK → AV → Option (AK × List Operand)) : Option (AK × List Operand) := match P.underlying T with
  | some (.map K E) => (P.underlying K).bind fun D => (aM P 20 K).bind fun ks => (P.info? E).bind fun i => i.zero.bind fun z => (ofC z).bind fun zero => f (a3 D) ks zero
  | _ => none
def r3 (P : Program) (c : Call) : Option (AK × List Operand) := if c.args.size = 2 then (c.argTypes[0]?).bind fun T => oZ P T fun agg ks _ => some (.delete agg ks, c.args.toList) else none
def fE (P : Program) (o : Oper) : Option (AK × List Operand) := match o.op with
  | .move x | .assign x => some (.move, [x])
  | .pick c x y => some (.pick, [c, x, y])
  | .alloc T => (P.info? T).bind fun i => i.zero.bind fun z => (gN z.cells.toList).bind fun zs => some (.alloc zs, [])
  | .box _ x => some (.box, [x])
  | .build T parts => match P.underlying T with
    | some (.struct fs) => (P.info? T).bind fun i => i.zero.bind fun z => (gN z.cells.toList).bind fun zs => (eE P fs parts.toList).bind fun ps =>
      if fs.toList.all (fun f => (P.info? f.type).isSome) then some (.build zs ps, parts.toList.map (·.2)) else none
    | _ => none
  | .buildSlice T len parts => match P.underlying T with
    | some (.slice E) => (P.info? E).bind fun i => i.zero.bind fun z => (gN ((Array.range (len * i.size)).map (z.cells[· % z.cells.size]!)).toList).bind fun zs =>
      if z.cells.size = i.size ∧ 0 < i.size ∧ len * i.size ≤ 16777216 then some (.buildSlice i.size zs (parts.toList.map fun p => (p.1 * i.size, i.size)), parts.toList.map (·.2)) else none
    | _ => none
  | .load T p => (P.underlying T).bind fun d => (P.info? T).bind fun i => if a3 d = true ∨ i.size = 1 then some (.load i.size (a3 d), [p]) else none
  | .store T p q => (P.info? T).bind fun i => some (.store i.size, [p, q])
  | .nilCheck x => some (.nilCheck, [x])
  | .binOp op T x y _ => (P.underlying T).bind fun d => if a3 d = true then eqK P op T x y else some (.bin op (qF d), [x, y])
  | .unOp .not _ x => some (.un .not, [x])
  | .unOp .neg _ x => some (.un .neg, [x])
  | .convert S T x => (P.underlying S).bind fun _ => match P.underlying T with
    | some (.int k) => some (.conv k, [x])
    | _ => none
  | .makeFunc f first captured => some (.mkfn f first.size, first.toList ++ captured.toList)
  | .makeSlice T l c => match P.underlying T with
    | some (.slice E) => (P.info? E).bind fun i => i.zero.bind fun z => (gN z.cells.toList).bind fun zs => if z.cells.size = i.size then some (.mkslice i.size zs i.bytes, [l, c]) else none
    | _ => none
  | .slice T x lo hi mx => match P.underlying T with
    | some (.slice E) => (P.info? E).bind fun i => some (.slice i.size lo.isSome hi.isSome mx.isSome, [x] ++ lo.toList ++ hi.toList ++ mx.toList)
    | _ => none
  | .fieldAddr T x n => match P.underlying T with
    | some (.struct fs) => (fs[n]?).bind fun f => (P.info? f.type).bind fun i => if i.size = 0 then none else some (.fieldAddr f.offset, [x])
    | _ => none
  | .field T x n => match P.underlying T with
    | some (.struct fs) => (fs[n]?).bind fun f => (P.info? f.type).bind fun i => (P.underlying f.type).bind fun d => if a3 d = true ∨ i.size = 1 then some (.field f.offset i.size (a3 d), [x]) else none
    | _ => none
  | .indexAddr T x i => match P.underlying T with
    | some (.slice E) => (P.info? E).bind fun j => some (.indexAddr j.size, [x, i])
    | some (.array len E) => (P.info? E).bind fun j => some (.indexAddrA j.size len, [x, i])
    | _ => none
  | .extract x i => some (.extract i, [x])
  | .call c => match c.callee with
    | .value f => some (.call, f :: c.args.toList)
    | .builtin .len => (c.argTypes[0]?).bind fun T => match P.underlying T with
      | some (.slice _) => if c.args.size = 1 then some (.len .slice, c.args.toList) else none
      | some .string => if c.args.size = 1 then some (.len .num, c.args.toList) else none
      | some (.map _ _) => if c.args.size = 1 then some (.len .map, c.args.toList) else none
      | _ => none
    | .builtin .min => if c.args.size = 2 then some (.min, c.args.toList) else none
    | .builtin .max => if c.args.size = 2 then some (.max, c.args.toList) else none
    | .builtin .append => r6 P c
    | .builtin .delete => r3 P c
    | _ => some (.bad, [])
  | .lookup T m k ok => oZ P T fun agg ks zero => some (.lookup agg ks zero ok, [m, k])
  | .mapUpdate T m k x => oZ P T fun agg ks _ => some (.mapUpdate agg ks, [m, k, x])
  | .insert T m k x => oZ P T fun agg ks _ => some (.mapUpdate agg ks, [m, k, x])
  | .range T m => match P.underlying T with
    | some (.map _ _) => some (.mrange, [m])
    | _ => none
  | .next it false => some (.mnext, [it])
  | .entry it => some (.mentry, [it])
  | .makeMap _ none => some (.mkmap, [])
  | .makeMap T (some x) => match P.underlying T with
    | some (.map _ _) => some (.mkmap, [x])
    | _ => none
  | .index T x i => match P.underlying T with
    | some .string => some (.strAt, [x, i])
    | _ => some (.bad, [])
  | _ => some (.bad, [])
theorem lS {fs : Array Field} : ∀ {l : List (Nat × Operand)} {ps : List (Nat × Nat)}, eE P fs l = some ps → l.length = ps.length
  | [], ps, h => by simp [eE] at h; subst h; rfl
  | p :: l, ps, h => by
    simp only [eE, Option.bind_eq_some_iff, Option.map_eq_some_iff] at h
    obtain ⟨f, _, qs, hq, rfl⟩ := h
    simp [lS hq]
theorem lT {fs : Array Field} : ∀ {l : List (Nat × Operand)} {ps : List (Nat × Nat)}, eE P fs l = some ps → ∀ (k : Nat) p q, l[k]? = some p → ps[k]? = some q → ∃ f, fs[p.1]? = some f ∧ q = (f.offset, P.cellsOf f.type)
  | [], ps, h, k, p, q, hp, hq => by simp at hp
  | p0 :: l, ps, h, k, p, q, hp, hq => by
    simp only [eE, Option.bind_eq_some_iff, Option.map_eq_some_iff] at h
    obtain ⟨f, hf, qs, hqs, rfl⟩ := h
    cases k with
    | zero => simp at hp hq; subst hp; subst hq; exact ⟨f, hf, rfl⟩
    | succ k => exact lT hqs k p q (by simpa using hp) (by simpa using hq)
theorem cls_ok {T : TypeId} {d : TypeDesc} (h : P.underlying T = some d) : eT P T (qF d) = true := by
  cases d <;> simp [qF, eT, h]
theorem mV {c : Call} (h : c.args.size = 1) : ∃ p, c.args = #[p] := by
  have : c.args.toList.length = 1 := by simpa using h
  match hc : c.args.toList, this with
  | [p], _ => exact ⟨p, by apply Array.ext'; simp [hc]⟩
theorem jP {c : Call} (h : c.args.size = 2) : ∃ p q, c.args = #[p, q] := by
  have : c.args.toList.length = 2 := by simpa using h
  match hc : c.args.toList, this with
  | [p, q], _ => exact ⟨p, q, by apply Array.ext'; simp [hc]⟩

theorem dJ {T : TypeId} {f : Bool → List CK → AV → Option (AK × List Operand)} {k : AK × List Operand} (h : oZ P T f = some k) : ∃ K E D ks i z zero, P.underlying T = some (.map K E) ∧ P.underlying K = some D ∧ aM P 20 K = some ks ∧ P.info? E = some i ∧ i.zero = some z ∧ ofC z = some zero ∧ f (a3 D) ks zero = some k := by
  unfold oZ at h
  split at h
  · rename_i K E hT
    simp only [Option.bind_eq_some_iff] at h
    obtain ⟨D, hD, ks, hks, i, hi, z, hz, zero, hzz, h⟩ := h
    exact ⟨K, E, D, ks, i, z, zero, hT, hD, hks, hi, hz, hzz, h⟩
  · cases h
theorem aop_sound {call : aQ} (hcall : aY P call) {k : AK} {ops : List Operand} {xs : List AV} (hk : fE P o = some (k, ops)) (hx : RepL ρ R xs (ops.map a.eval)) (h : aop call k xs H nx = some r) : aV P o a ρ R H nx r := by
  unfold fE at hk
  split at hk <;> rename_i ho
  · -- move
    cases hk
    have hq := hx; clear hx; obtain ⟨x, rfl, hx⟩ := hq.one
    simp only [aop, Option.some.injEq] at h; subst h
    exact lL (.inl ho) hx
  · cases hk
    have hq := hx; clear hx; obtain ⟨x, rfl, hx⟩ := hq.one
    simp only [aop, Option.some.injEq] at h; subst h
    exact lL (.inr ho) hx
  · cases hk
    have hq := hx; clear hx; obtain ⟨x, y, z, rfl, hx, hy, hz⟩ := hq.three
    cases x <;> simp only [aop] at h <;> try (cases h; done)
    simp only [Option.some.injEq] at h; subst h
    exact sound_pick ho hx hy hz
  · -- alloc
    simp only [Option.bind_eq_some_iff] at hk
    obtain ⟨i, hi, z, hz, zs, hzs, hk⟩ := hk
    cases hk
    have : xs = [] := List.length_eq_zero_iff.1 (by simpa using hx.1.symm)
    subst this
    simp only [aop, Option.some.injEq] at h; subst h
    exact sound_alloc ho hi hz hzs
  · cases hk
    have hq := hx; clear hx; obtain ⟨x, rfl, hx⟩ := hq.one
    simp only [aop] at h
    split at h
    · rename_i hone
      simp only [Option.some.injEq] at h; subst h
      exact sound_box ho hx hone
    · cases h
  · -- build
    split at hk
    · rename_i fs hd
      simp only [Option.bind_eq_some_iff] at hk
      obtain ⟨i, hi, z, hz, zs, hzs, ps, hps, hk⟩ := hk
      split at hk
      · rename_i hall
        cases hk
        simp only [aop, Option.map_eq_some_iff] at h
        obtain ⟨cs, hcs, rfl⟩ := h
        refine sound_build ho hd hi hz (fun f hf => ?_) hzs (by simpa using lS hps) (fun k p q hp hq => lT hps k p q (by simpa using hp) hq) (by simpa [Function.comp_def] using hx) hcs
        exact Option.isSome_iff_exists.1 (List.all_eq_true.1 hall f (by simpa using hf))
      · cases hk
    · cases hk
  · -- buildSlice
    split at hk
    · rename_i E hd
      simp only [Option.bind_eq_some_iff] at hk
      obtain ⟨i, hi, z, hz, zs, hzs, hk⟩ := hk
      split at hk
      · rename_i hc
        cases hk
        simp only [aop, Option.bind_eq_some_iff] at h
        obtain ⟨cs, hcs, h⟩ := h
        split at h
        · cases h
        · rename_i hne
          simp only [Option.some.injEq] at h; subst h
          exact sound_buildSlice (hone := by simp only [not_or, Bool.not_eq_false] at hne; exact hne.2.2) ho hd hi hz hc.1 hc.2.1 hc.2.2 hzs (by simp) (fun k p q hp hq => by
            simp only [List.getElem?_map, Array.getElem?_toList, hp, Option.map_some, Option.some.injEq] at hq
            exact hq.symm) (by simpa [Function.comp_def] using hx) hcs
      · cases hk
    · cases hk
  · -- load
    simp only [Option.bind_eq_some_iff] at hk
    obtain ⟨d, hd, i, hi, hk⟩ := hk
    split at hk
    · rename_i hc
      cases hk
      have hq := hx; clear hx; obtain ⟨x, rfl, hx⟩ := hq.one
      simp only [aop] at h
      exact sound_load ho hd hi (fun e => by simpa [e] using hc) hx h
    · cases hk
  · simp only [Option.bind_eq_some_iff] at hk
    obtain ⟨i, hi, hk⟩ := hk
    cases hk
    have hq := hx; clear hx; obtain ⟨x, y, rfl, hx, hy⟩ := hq.two
    simp only [aop] at h
    exact sound_store ho hi hx hy h
  · cases hk
    have hq := hx; clear hx; obtain ⟨x, rfl, hx⟩ := hq.one
    simp only [aop] at h
    split at h
    · rename_i hn
      simp only [Option.some.injEq] at h; subst h
      exact sound_nilCheck ho hx hn
    · cases h
  · -- bin
    simp only [Option.bind_eq_some_iff] at hk
    obtain ⟨d, hd, hk⟩ := hk
    split at hk
    · unfold eqK at hk
      split at hk
      · rename_i fs hT
        simp only [Option.bind_eq_some_iff] at hk
        obtain ⟨ks, hks, hk⟩ := hk
        split at hk
        · rename_i hg
          cases hk
          have hq := hx; clear hx; obtain ⟨x, y, rfl, hx, hy⟩ := hq.two
          simp only [aop, Option.bind_eq_some_iff, Option.map_eq_some_iff] at h
          obtain ⟨b, hb, z, hz, rfl⟩ := h
          exact sound_eqs ho hT hks hg hx hy hb hz
        · cases hk
      · cases hk
        simp [aop] at h
    · cases hk
      have hq := hx; clear hx; obtain ⟨x, y, rfl, hx, hy⟩ := hq.two
      simp only [aop, Option.map_eq_some_iff] at h
      obtain ⟨z, hz, rfl⟩ := h
      exact sound_bin ho (cls_ok hd) hx hy hz
  · cases hk
    have hq := hx; clear hx; obtain ⟨x, rfl, hx⟩ := hq.one
    cases x <;> simp only [aop] at h <;> try (cases h; done)
    simp only [Option.some.injEq] at h; subst h
    exact sound_not ho hx
  · cases hk
    have hq := hx; clear hx; obtain ⟨x, rfl, hx⟩ := hq.one
    cases x <;> simp only [aop] at h <;> try (cases h; done)
    simp only [Option.map_eq_some_iff] at h
    obtain ⟨z, hz, rfl⟩ := h
    exact sound_neg ho hx hz
  · -- conv
    simp only [Option.bind_eq_some_iff] at hk
    obtain ⟨d, hd, hk⟩ := hk
    split at hk
    · rename_i k' ht
      cases hk
      have hq := hx; clear hx; obtain ⟨x, rfl, hx⟩ := hq.one
      cases x <;> simp only [aop] at h <;> try (cases h; done)
      simp only [Option.map_eq_some_iff] at h
      obtain ⟨z, hz, rfl⟩ := h
      exact sound_conv ho hd ht hx hz
    · cases hk
  · cases hk
    simp only [aop] at h
    split at h
    · simp only [Option.some.injEq] at h; subst h
      exact sound_mkfn ho rfl (by simpa using hx)
    · cases h
  · -- makeSlice
    split at hk
    · rename_i E hd
      simp only [Option.bind_eq_some_iff] at hk
      obtain ⟨i, hi, z, hz, zs, hzs, hk⟩ := hk
      split at hk
      · rename_i hc
        cases hk
        have hq := hx; clear hx; obtain ⟨x, y, rfl, hx, hy⟩ := hq.two
        cases x <;> cases y <;> simp only [aop] at h <;> try (cases h; done)
        split at h
        · rename_i hc2
          simp only [Option.some.injEq] at h; subst h
          exact sound_mkslice ho hd hi hz hc hzs hx hy hc2
        · cases h
      · cases hk
    · cases hk
  · -- slice
    rename_i T p lo hi mx
    split at hk
    · rename_i E hd
      simp only [Option.bind_eq_some_iff] at hk
      obtain ⟨i, hi', hk⟩ := hk
      cases hk
      simp only [aop, Option.map_eq_some_iff] at h
      obtain ⟨z, hz, rfl⟩ := h
      cases lo <;> cases hi <;> cases mx <;> simp only [Option.toList, List.append_nil, List.cons_append, List.nil_append, List.map_cons, List.map_nil, Option.isSome] at hx hz
      · have hq := hx; clear hx; obtain ⟨x, rfl, hx⟩ := hq.one
        simp only [cY, Option.bind_eq_some_iff] at hz
        obtain ⟨n, hn, hz⟩ := hz
        exact eK ho hd hi' hx rfl ⟨by simpa using hn, by omega⟩ hz
      · have hq := hx; clear hx; obtain ⟨x, y, rfl, hx, hy⟩ := hq.two
        cases y <;> simp [cY] at hz
      · have hq := hx; clear hx; obtain ⟨x, y, rfl, hx, hy⟩ := hq.two
        cases y <;> simp only [cY] at hz <;> try (cases hz; done)
        exact eK ho hd hi' hx rfl ⟨_, hy.int_inv⟩ hz
      · have hq := hx; clear hx; obtain ⟨x, y, u, rfl, hx, hy, hu⟩ := hq.three
        cases y <;> cases u <;> simp only [cY] at hz <;> try (cases hz; done)
        have hz' := hz
        unfold iC at hz
        split at hz
        · rename_i hc
          obtain ⟨_, rfl, rfl⟩ := hc
          exact jC ho hd hi' hx trivial ⟨_, hy.int_inv⟩ ⟨_, hu.int_inv⟩ hz'
        · cases hz
      · have hq := hx; clear hx; obtain ⟨x, y, rfl, hx, hy⟩ := hq.two
        cases y <;> simp only [cY] at hz <;> try (cases hz; done)
        simp only [Option.bind_eq_some_iff] at hz
        obtain ⟨n, hn, hz⟩ := hz
        exact eK ho hd hi' hx ⟨_, hy.int_inv⟩ ⟨by simpa using hn, by omega⟩ hz
      · have hq := hx; clear hx; obtain ⟨x, y, u, rfl, hx, hy, hu⟩ := hq.three
        cases y <;> cases u <;> simp [cY] at hz
      · have hq := hx; clear hx; obtain ⟨x, y, u, rfl, hx, hy, hu⟩ := hq.three
        cases y <;> cases u <;> simp only [cY] at hz <;> try (cases hz; done)
        exact eK ho hd hi' hx ⟨_, hy.int_inv⟩ ⟨_, hu.int_inv⟩ hz
      · have hq := hx; clear hx; obtain ⟨x, y, u, t, rfl, hx, hy, hu, ht⟩ := hq.four
        cases y <;> cases u <;> cases t <;> simp only [cY] at hz <;> try (cases hz; done)
        have hz' := hz
        unfold iC at hz
        split at hz
        · rename_i hc
          obtain ⟨rfl, rfl, rfl⟩ := hc
          exact jC ho hd hi' hx ⟨_, hy.int_inv⟩ ⟨_, hu.int_inv⟩ ⟨_, ht.int_inv⟩ hz'
        · cases hz
    · cases hk
  · -- fieldAddr
    split at hk
    · rename_i fs hd
      simp only [Option.bind_eq_some_iff] at hk
      obtain ⟨f, hf, i, hi, hk⟩ := hk
      split at hk
      · cases hk
      · rename_i h0
        cases hk
        have hq := hx; clear hx; obtain ⟨x, rfl, hx⟩ := hq.one
        simp only [aop, Option.map_eq_some_iff] at h
        obtain ⟨z, hz, rfl⟩ := h
        exact sound_fieldAddr ho hd hf hi h0 hx hz
    · cases hk
  · split at hk
    · rename_i fs hd
      simp only [Option.bind_eq_some_iff] at hk
      obtain ⟨f, hf, i, hi, d, hft, hk⟩ := hk
      split at hk
      · rename_i hc
        cases hk
        have hq := hx; clear hx; obtain ⟨x, rfl, hx⟩ := hq.one
        cases x <;> simp only [aop] at h <;> try (cases h; done)
        split at h
        · rename_i hle
          simp only [Option.map_eq_some_iff] at h
          obtain ⟨z, hz, rfl⟩ := h
          exact sound_field ho hd hf hi hft (fun e => by simpa [e] using hc) hx hle hz
        · cases h
      · cases hk
    · cases hk
  · -- indexAddr
    split at hk
    · rename_i E hd
      simp only [Option.bind_eq_some_iff] at hk
      obtain ⟨i, hi, hk⟩ := hk
      cases hk
      have hq := hx; clear hx; obtain ⟨x, y, rfl, hx, hy⟩ := hq.two
      simp only [aop, Option.map_eq_some_iff] at h
      obtain ⟨z, hz, rfl⟩ := h
      exact sound_indexAddr ho hd hi hx hy hz
    · rename_i len E hd
      simp only [Option.bind_eq_some_iff] at hk
      obtain ⟨i, hi, hk⟩ := hk
      cases hk
      have hq := hx; clear hx; obtain ⟨x, y, rfl, hx, hy⟩ := hq.two
      simp only [aop, Option.map_eq_some_iff] at h
      obtain ⟨z, hz, rfl⟩ := h
      exact sound_indexAddrA ho hd hi hx hy hz
    · cases hk
  · cases hk
    have hq := hx; clear hx; obtain ⟨x, rfl, hx⟩ := hq.one
    cases x <;> simp only [aop] at h <;> try (cases h; done)
    simp only [Option.map_eq_some_iff] at h
    obtain ⟨z, hz, rfl⟩ := h
    exact sound_extract ho hx hz
  · -- call
    rename_i c
    split at hk
    · rename_i g hc
      cases hk
      simp only [aop] at h
      exact sound_call hcall ho hc (by simpa using hx) h
    · rename_i hc
      simp only [Option.bind_eq_some_iff] at hk
      obtain ⟨T, hT, hk⟩ := hk
      split at hk
      · rename_i E hd
        split at hk
        · rename_i h1
          obtain ⟨p, hp⟩ := mV h1
          cases hk
          rw [hp] at hx
          have hq := hx; clear hx; obtain ⟨x, rfl, hx⟩ := hq.one
          simp only [aop, qM, Option.map_eq_some_iff] at h
          obtain ⟨n, hn, rfl⟩ := h
          exact sound_len_slice ho hc hp hT hd hx hn
        · cases hk
      · rename_i hd
        split at hk
        · rename_i h1
          obtain ⟨p, hp⟩ := mV h1
          cases hk
          rw [hp] at hx
          have hq := hx; clear hx; obtain ⟨x, rfl, hx⟩ := hq.one
          cases x <;> simp only [aop, qM] at h <;> try (cases h; done)
          simp only [Option.some.injEq] at h; subst h
          exact sound_len_str ho hc hp hT hd hx
        · cases hk
      · rename_i K E hd
        split at hk
        · rename_i h1
          obtain ⟨p, hp⟩ := mV h1
          cases hk
          rw [hp] at hx
          have hq := hx; clear hx; obtain ⟨x, rfl, hx⟩ := hq.one
          cases x <;> simp only [aop, qM] at h <;> try (cases h; done)
          · simp only [Option.some.injEq] at h; subst h
            exact sound_len_nilm ho hc hp hT hd hx
          · split at h
            · rename_i es hl
              simp only [Option.some.injEq] at h; subst h
              exact sound_len_map ho hc hp hT hd hx hl
            · cases h
        · cases hk
      · cases hk
    · rename_i hc
      split at hk
      · rename_i h1
        obtain ⟨p, q, hp⟩ := jP h1
        cases hk
        rw [hp] at hx
        have hq := hx; clear hx; obtain ⟨x, y, rfl, hx, hy⟩ := hq.two
        cases x <;> cases y <;> simp only [aop] at h <;> try (cases h; done)
        split at h
        · rename_i hkk; subst hkk
          simp only [Option.some.injEq] at h; subst h
          exact sound_min ho hc hp hx hy
        · cases h
      · cases hk
    · rename_i hc
      split at hk
      · rename_i h1
        obtain ⟨p, q, hp⟩ := jP h1
        cases hk
        rw [hp] at hx
        have hq := hx; clear hx; obtain ⟨x, y, rfl, hx, hy⟩ := hq.two
        cases x <;> cases y <;> simp only [aop] at h <;> try (cases h; done)
        split at h
        · rename_i hkk; subst hkk
          simp only [Option.some.injEq] at h; subst h
          exact sound_max ho hc hp hx hy
        · cases h
      · cases hk
    · -- append
      rename_i hc
      unfold r6 at hk
      split at hk
      · rename_i h2
        obtain ⟨p, q, hp⟩ := jP h2.1
        simp only [Option.bind_eq_some_iff] at hk
        obtain ⟨T, hT, U, hU, hk⟩ := hk
        split at hk
        · rename_i E E' hd hd'
          simp only [Option.bind_eq_some_iff] at hk
          obtain ⟨i, hi, z, hz, hk⟩ := hk
          split at hk
          · rename_i hzs
            cases hk
            rw [hp] at hx
            have hq := hx; clear hx; obtain ⟨x, y, rfl, hx, hy⟩ := hq.two
            simp only [aop] at h
            exact sound_append ho hc hp h2.2 hT hU hd hd' hi hz hzs hx hy h
          · cases hk
        · cases hk
          simp [aop] at h
      · cases hk
    · -- delete
      rename_i hc
      unfold r3 at hk
      split at hk
      · rename_i h2
        obtain ⟨p, p', hp⟩ := jP h2
        simp only [Option.bind_eq_some_iff] at hk
        obtain ⟨T, hT, hk⟩ := hk
        obtain ⟨K, E, D, ks, i, z, zero, hM, hD, hks, hi, hz, hzz, hk⟩ := dJ hk
        cases hk
        rw [hp] at hx
        have hq := hx; clear hx; obtain ⟨x, y, rfl, hx, hy⟩ := hq.two
        simp only [aop] at h
        exact sound_delete ho hc hp hT hM hD hks hx hy h
      · cases hk
    · cases hk
      simp [aop] at h
  · -- lookup
    obtain ⟨K, E, D, ks, i, z, zero, hM, hD, hks, hi, hz, hzz, hk⟩ := dJ hk
    cases hk
    have hq := hx; clear hx; obtain ⟨x, y, rfl, hx, hy⟩ := hq.two
    simp only [aop] at h
    exact sound_lookup ho hM hD hks hi hz hzz hx hy h
  · obtain ⟨K, E, D, ks, i, z, zero, hM, hD, hks, hi, hz, hzz, hk⟩ := dJ hk
    cases hk
    have hq := hx; clear hx; obtain ⟨x, y, t, rfl, hx, hy, ht⟩ := hq.three
    simp only [aop] at h
    exact f0 (.inl ho) hM hD hks hx hy ht h
  · obtain ⟨K, E, D, ks, i, z, zero, hM, hD, hks, hi, hz, hzz, hk⟩ := dJ hk
    cases hk
    have hq := hx; clear hx; obtain ⟨x, y, t, rfl, hx, hy, ht⟩ := hq.three
    simp only [aop] at h
    exact f0 (.inr ho) hM hD hks hx hy ht h
  · split at hk
    · rename_i K E hM
      cases hk
      have hq := hx; clear hx; obtain ⟨x, rfl, hx⟩ := hq.one
      simp only [aop, pB] at h
      split at h
      · simp only [Option.some.injEq] at h; subst h
        exact sound_range_nil ho hM hx
      · split at h
        · rename_i hl
          simp only [Option.some.injEq] at h; subst h
          exact sound_range ho hM hx hl
        · cases h
      · cases h
    · cases hk
  · cases hk
    have hq := hx; clear hx; obtain ⟨x, rfl, hx⟩ := hq.one
    simp only [aop] at h
    exact sound_next ho hx h
  · cases hk
    have hq := hx; clear hx; obtain ⟨x, rfl, hx⟩ := hq.one
    simp only [aop] at h
    exact sound_entry ho hx h
  · cases hk
    have : xs = [] := List.length_eq_zero_iff.1 (by simpa using hx.1.symm)
    subst this
    simp only [aop, Option.some.injEq] at h; subst h
    exact sound_mkmap ho
  · split at hk
    · rename_i K E hM
      cases hk
      have hq := hx; clear hx; obtain ⟨x, rfl, hx⟩ := hq.one
      cases x <;> simp only [aop] at h <;> try (cases h; done)
      simp only [Option.some.injEq] at h; subst h
      exact sound_mkmap1 ho hM hx
    · cases hk
  · split at hk
    · rename_i hT
      cases hk
      have hq := hx; clear hx; obtain ⟨x, y, rfl, hx, hy⟩ := hq.two
      cases x <;> cases y <;> simp only [aop] at h <;> try (cases h; done)
      split at h
      · rename_i h0
        simp only [Option.map_eq_some_iff] at h
        obtain ⟨b, hb, rfl⟩ := h
        exact sound_strAt ho hT hx hy h0 hb
      · cases h
    · cases hk
      simp [aop] at h
  · cases hk
    simp [aop] at h
end
end Go.Proofs.Ytigjoggpaamodaa
/-! The abstract machine: regions, and what a program's text is in its terms. -/
namespace Go.Proofs.Ytigjoggpaamodaa
set_option linter.unusedVariables false
set_option linter.unusedSimpArgs false

inductive AArg where
  | t (n : Nat)
  | c (v : AV)
structure AIns where
  dst : Option Nat
  guard : Option (Nat × Bool)
  k : AK
  xs : List AArg
abbrev RL := List (Nat × AV)
def aI : RL → Nat → Option AV
  | [], _ => none
  | (k, x) :: r, t => if t = k then some x else aI r t
def eY : RL → Nat → AV → RL
  | [], t, x => [(t, x)]
  | (k, y) :: r, t, x => if t = k then (k, x) :: r else (k, y) :: eY r t x
theorem cS (r : RL) (t : Nat) (x : AV) : aI (eY r t x) = fun k => if k = t then some x else aI r k := by
  funext k
  induction r with
  | nil => simp [eY, aI]
  | cons p r ih =>
    obtain ⟨j, y⟩ := p
    simp only [eY]
    by_cases h : t = j
    · subst h; simp only [if_true, aI]; split <;> rfl
    · simp only [h, if_false, aI, ih]
      by_cases h2 : k = j
      · subst h2; simp [Ne.symm h]
      · simp [h2]
def sP : Chg → Lab → Option AO → Chg
  | [], l, o => [(l, o)]
  | (k, y) :: r, l, o => if l = k then (k, o) :: r else (k, y) :: sP r l o
theorem upd_oset (u : Chg) (l : Lab) (o : Option AO) (H : aB) : upd (sP u l o) H = fun k => if k = l then o else upd u H k := by
  funext k
  induction u with
  | nil => simp [sP, upd]
  | cons p r ih =>
    obtain ⟨j, y⟩ := p
    simp only [sP]
    by_cases h : l = j
    · subst h; simp only [if_true, upd]; split <;> rfl
    · simp only [h, if_false, upd, ih]
      by_cases h2 : k = j
      · subst h2; simp [Ne.symm h]
      · simp [h2]
/-- changes on top of changes -/
def b9 : Chg → Chg → Chg
  | [], ov => ov
  | (l, o) :: u, ov => sP (b9 u ov) l o
theorem aX (u ov : Chg) (H : aB) : upd (b9 u ov) H = upd u (upd ov H) := by
  induction u with
  | nil => rfl
  | cons p u ih =>
    obtain ⟨l, o⟩ := p
    simp only [b9, upd_oset, upd, ih]
def c3 (r : RL) : AArg → Option AV
  | .t n => aI r n
  | .c v => some v
def bJ (r : RL) : List AArg → Option (List AV)
  | [] => some []
  | x :: xs => (c3 r x).bind fun v => (bJ r xs).bind fun vs => some (v :: vs)

/-- the machine's state: registers, what has changed in the heap, how many operations have been -/
structure ASt where
  regs : RL
  ov : Chg
  c : Nat
section
variable (call : aQ) (H0 : aB) (p : Lab)
def cV (i : AIns) (s : ASt) : Option Rc := (bJ s.regs i.xs).bind fun xs => (aop call i.k xs (upd s.ov H0) (s.c :: p)).bind fun r => some ⟨false, r.x, r.u, s.c :: p, r.foot⟩
def aN (i : AIns) (s : ASt) : Option Rc := match i.guard with
  | none => cV call H0 p i s
  | some (g, want) => match aI s.regs g with
    | some (.bool b) => if b = want then cV call H0 p i s else some ⟨true, .tuple [], [], s.c :: p, some []⟩
    | some (.tuple []) => some ⟨true, .tuple [], [], s.c :: p, some []⟩
    | _ => none
def aW (r : RL) (d : Option Nat) (x : AV) : RL := match d with
  | none => r
  | some t => eY r t x
def aO (i : AIns) (s : ASt) (rc : Rc) : ASt := ⟨aW s.regs i.dst rc.x, b9 rc.u s.ov, s.c + 1⟩
def eA : List AIns → ASt → Option ASt
  | [], s => some s
  | i :: is, s => (aN call H0 p i s).bind fun rc => eA is (aO i s rc)
/-- what the check of a drawn region looks at -/
structure Tr where
  labs : List Lab
  q : Lab
  foot : Option (List Lab)
def kW (rc : Rc) : Tr := ⟨rc.u.map (·.1), rc.q, rc.foot⟩
def eO : List AIns → ASt → Option (ASt × List Tr)
  | [], s => some (s, [])
  | i :: is, s => (aN call H0 p i s).bind fun rc => (eO is (aO i s rc)).bind fun r => some (r.1, kW rc :: r.2)
end
def k0 (q : Lab) (l : Lab) : Bool := q.isSuffixOf l
def bM (masks : List Nat) (i j : Nat) : Bool := (masks.getD j 0).testBit i || (masks.getD i 0).testBit j
def gT (i j : Nat) (a b : Tr) : Bool := match b.foot with
  | some ls => a.labs.any (fun l => ls.contains l)
  | none => if i < j then !a.labs.isEmpty else a.labs.any (fun l => !k0 a.q l)
def eF (masks : List Nat) (i : Nat) (a : Tr) : List Tr → Nat → Bool
  | [], _ => false
  | b :: trs, j => (i != j && !bM masks i j && gT i j a b) || eF masks i a trs (j + 1)
def cX (masks : List Nat) (all : List Tr) : List Tr → Nat → Bool
  | [], _ => false
  | a :: trs, i => (!a.labs.isEmpty && eF masks i a all 0) || cX masks all trs (i + 1)
def restrict (r : RL) (keep : List Nat) : RL := keep.filterMap fun t => (aI r t).map fun x => (t, x)
inductive ACode where
  | skip
  | region (ops : List AIns) (draw : Option (List Nat)) (keep : List Nat)
  | seq (a b : ACode)
  | cond (c : AArg) (t e : ACode)
  | block (id : Nat) (b : ACode)
  | loop (keep : List Nat) (b : ACode)
  | exit (id : Nat)
  | ret
  | label (l : Nat)
  | goto (l : Nat)
  | scope (l : Nat) (b r : ACode)
  | rangeF (g : AArg) (ps : List Nat) (asg b : ACode)
  | bad
/-- no loop over a function in it -/
def ACode.noRF : ACode → Bool
  | .seq a b => a.noRF && b.noRF
  | .cond _ t e => t.noRF && e.noRF
  | .block _ b => b.noRF
  | .loop _ b => b.noRF
  | .scope _ b r => b.noRF && r.noRF
  | .rangeF .. => false
  | _ => true
def cH (call : aQ) (H0 : aB) (p : Lab) (ops : List AIns) (draw : Option (List Nat)) (keep : List Nat) (s : ASt) : Option ASt := match draw with
  | none => (eA call H0 p ops s).bind fun s' => some { s' with regs := restrict s'.regs keep }
  | some masks => (eO call H0 p ops s).bind fun r => if cX masks r.2 r.2 0 then none else some { r.1 with regs := restrict r.1.regs keep }

/-! The program's text. -/
def mX : Operand → Option AArg
  | .tmp t => some (.t t)
  | .const v => (ofC v).map .c
  | .func f => some (.c (.fn (.func f) [] []))
  | .global _ => none
def fX : List Operand → Option (List AArg)
  | [] => some []
  | x :: xs => (mX x).bind fun y => (fX xs).bind fun ys => some (y :: ys)
def fQ (ops : Array Oper) (o : Oper) : Option (Option (Nat × Bool)) := match o.guard with
  | none => some none
  | some (g, want) => ((ops[g]?).bind (·.dst)).bind fun t => some (some (t, want))
def uA (n : Nat) : Option Nat → Bool
  | none => true
  | some d => decide (d < n)
def b5 (P : Program) (n : Nat) (ops : Array Oper) (o : Oper) : Option AIns := (fE P o).bind fun k => (fX k.2).bind fun xs => (fQ ops o).bind fun g =>
  if uA n o.dst = true then some ⟨o.dst, g, k.1, xs⟩ else none
def cN (P : Program) (n : Nat) (ops : Array Oper) : List Oper → Option (List AIns)
  | [] => some []
  | o :: os => (b5 P n ops o).bind fun i => (cN P n ops os).bind fun is => some (i :: is)
def oX (ms : List Nat) (o : Oper) : Nat := o.after.toList.foldl (fun m e => if Region.binds .any e then m ||| 2 ^ e.on ||| ms.getD e.on 0 else m) 0
def b4 : List Oper → List Nat → List Nat
  | [], ms => ms
  | o :: os, ms => b4 os (ms ++ [oX ms o])
def fW : List Oper → Nat → Bool
  | [], _ => true
  | o :: os, j => o.after.all (fun e => !Region.binds .any e || decide (e.on < j)) && fW os (j + 1)
def jQ (ops : Array Oper) (masks : List Nat) (i : Nat) (a : Oper) : List Oper → Nat → Bool
  | [], _ => true
  | b :: os, j => (i == j || bM masks i j || a.apart ops b) && jQ ops masks i a os (j + 1)
def eI (ops : Array Oper) (masks : List Nat) : List Oper → Nat → Bool
  | [], _ => true
  | a :: os, i => jQ ops masks i a ops.toList 0 && eI ops masks os (i + 1)
end Go.Proofs.Ytigjoggpaamodaa
/-! The abstract machine: regions are sound. -/
namespace Go.Proofs.Ytigjoggpaamodaa
set_option linter.unusedVariables false
set_option linter.unusedSimpArgs false
section
variable {P : Program} {o : Oper} {a : Act} {ρ : aH} {R : Imm} {n : Nat} {ops : Array Oper}

theorem iA {x : Operand} {y : AArg} {r : RL} {v : AV} (h : mX x = some y) (hv : c3 r y = some v) (hx : ∀ t, x = .tmp t → ∀ z, aI r t = some z → RepV ρ R z (a.tmps.getD t undef)) : RepV ρ R v (a.eval x) := by
  cases x <;> simp only [mX] at h
  · cases h; exact hx _ rfl v hv
  · simp only [Option.map_eq_some_iff] at h
    obtain ⟨z, hz, rfl⟩ := h
    simp only [c3, Option.some.injEq] at hv
    subst hv
    exact q8 hz
  · cases h
  · cases h
    simp only [c3, Option.some.injEq] at hv
    subst hv
    exact (RepL.fn (f := .func _) .nil .nil)
theorem eH : ∀ {xs : List Operand} {ys : List AArg} {r : RL} {vs : List AV}, fX xs = some ys → bJ r ys = some vs → (∀ x ∈ xs, ∀ t, x = .tmp t → ∀ z, aI r t = some z → RepV ρ R z (a.tmps.getD t undef)) → RepL ρ R vs (xs.map a.eval)
  | [], ys, r, vs, h, hv, _ => by
    simp only [fX, Option.some.injEq] at h; subst h
    simp only [bJ, Option.some.injEq] at hv; subst hv
    exact .nil
  | x :: xs, ys, r, vs, h, hv, hx => by
    simp only [fX, Option.bind_eq_some_iff, Option.some.injEq] at h
    obtain ⟨y, hy, ys', hys, rfl⟩ := h
    simp only [bJ, Option.bind_eq_some_iff, Option.some.injEq] at hv
    obtain ⟨v, hv, vs', hvs, rfl⟩ := hv
    exact .cons (iA hy hv (hx x (by simp))) (eH hys hvs (fun z hz => hx z (by simp [hz])))
theorem compK_sub {k : AK} {xs : List Operand} (h : fE P o = some (k, xs)) : ∀ x ∈ xs, x ∈ o.op.operands := by
  have fin : ∀ {k' : AK} {ys : List Operand}, (∀ x ∈ ys, x ∈ o.op.operands) → some (k', ys) = some (k, xs) → ∀ x ∈ xs, x ∈ o.op.operands := by
    intro k' ys h1 h2; cases h2; exact h1
  unfold fE at h
  split at h
  case h_32 => exact fin (by simp) h
  all_goals (rename_i ho; rw [ho] at fin ⊢)
  · exact fin (by simp [Op.operands]) h
  · exact fin (by simp [Op.operands]) h
  · exact fin (by simp [Op.operands]) h
  · simp only [Option.bind_eq_some_iff] at h
    obtain ⟨_, _, _, _, _, _, h⟩ := h
    exact fin (by simp) h
  · exact fin (by simp [Op.operands]) h
  · split at h
    · simp only [Option.bind_eq_some_iff] at h
      obtain ⟨_, _, _, _, _, _, _, _, h⟩ := h
      split at h
      · exact fin (by simp [Op.operands]) h
      · cases h
    · cases h
  · split at h
    · simp only [Option.bind_eq_some_iff] at h
      obtain ⟨_, _, _, _, _, _, h⟩ := h
      split at h
      · exact fin (by simp [Op.operands]) h
      · cases h
    · cases h
  · simp only [Option.bind_eq_some_iff] at h
    obtain ⟨_, _, _, _, h⟩ := h
    split at h
    · exact fin (by simp [Op.operands]) h
    · cases h
  · simp only [Option.bind_eq_some_iff] at h
    obtain ⟨_, _, h⟩ := h
    exact fin (by simp [Op.operands]) h
  · exact fin (by simp [Op.operands]) h
  · simp only [Option.bind_eq_some_iff] at h
    obtain ⟨_, _, h⟩ := h
    split at h
    · unfold eqK at h
      split at h
      · simp only [Option.bind_eq_some_iff] at h
        obtain ⟨_, _, h⟩ := h
        split at h
        · exact fin (by simp [Op.operands]) h
        · cases h
      · exact fin (by simp) h
    · exact fin (by simp [Op.operands]) h
  · exact fin (by simp [Op.operands]) h
  · exact fin (by simp [Op.operands]) h
  · simp only [Option.bind_eq_some_iff] at h
    obtain ⟨_, _, h⟩ := h
    split at h
    · exact fin (by simp [Op.operands]) h
    · cases h
  · exact fin (by simp [Op.operands]) h
  · split at h
    · simp only [Option.bind_eq_some_iff] at h
      obtain ⟨_, _, _, _, _, _, h⟩ := h
      split at h
      · exact fin (by simp [Op.operands]) h
      · cases h
    · cases h
  · split at h
    · simp only [Option.bind_eq_some_iff] at h
      obtain ⟨_, _, h⟩ := h
      exact fin (by simp [Op.operands]) h
    · cases h
  · split at h
    · simp only [Option.bind_eq_some_iff] at h
      obtain ⟨_, _, _, _, h⟩ := h
      split at h
      · cases h
      · exact fin (by simp [Op.operands]) h
    · cases h
  · split at h
    · simp only [Option.bind_eq_some_iff] at h
      obtain ⟨_, _, _, _, _, _, h⟩ := h
      split at h
      · exact fin (by simp [Op.operands]) h
      · cases h
    · cases h
  · split at h
    · simp only [Option.bind_eq_some_iff] at h
      obtain ⟨_, _, h⟩ := h
      exact fin (by simp [Op.operands]) h
    · simp only [Option.bind_eq_some_iff] at h
      obtain ⟨_, _, h⟩ := h
      exact fin (by simp [Op.operands]) h
    · cases h
  · exact fin (by simp [Op.operands]) h
  · split at h
    · rename_i hc
      refine fin (fun x hx => ?_) h
      simp [Op.operands, Call.operands, hc] at hx ⊢
      exact hx
    · rename_i hc
      simp only [Option.bind_eq_some_iff] at h
      obtain ⟨_, _, h⟩ := h
      repeat' (first | (cases h; done) | (split at h))
      all_goals first
        | (cases h; done)
        | (refine fin (fun x hx => ?_) h; simp [Op.operands, Call.operands, hc] at hx ⊢; exact hx)
    · rename_i hc
      split at h
      · refine fin (fun x hx => ?_) h
        simp [Op.operands, Call.operands, hc] at hx ⊢; exact hx
      · cases h
    · rename_i hc
      split at h
      · refine fin (fun x hx => ?_) h
        simp [Op.operands, Call.operands, hc] at hx ⊢; exact hx
      · cases h
    · rename_i hc
      unfold r6 at h
      split at h
      · simp only [Option.bind_eq_some_iff] at h
        obtain ⟨_, _, _, _, h⟩ := h
        split at h
        · simp only [Option.bind_eq_some_iff] at h
          obtain ⟨_, _, _, _, h⟩ := h
          split at h
          · refine fin (fun x hx => ?_) h
            simp [Op.operands, Call.operands, hc] at hx ⊢; exact hx
          · cases h
        · exact fin (by simp) h
      · cases h
    · rename_i hc
      unfold r3 at h
      split at h
      · simp only [Option.bind_eq_some_iff] at h
        obtain ⟨T, hT, h⟩ := h
        obtain ⟨K, E, D, ks, i, z, zero, _, _, _, _, _, _, h⟩ := dJ h
        refine fin (fun x hx => ?_) h
        simp [Op.operands, Call.operands, hc] at hx ⊢; exact hx
      · cases h
    · exact fin (by simp) h
  · obtain ⟨K, E, D, ks, i, z, zero, _, _, _, _, _, _, h⟩ := dJ h
    exact fin (by simp [Op.operands]) h
  · obtain ⟨K, E, D, ks, i, z, zero, _, _, _, _, _, _, h⟩ := dJ h
    exact fin (by simp [Op.operands]) h
  · obtain ⟨K, E, D, ks, i, z, zero, _, _, _, _, _, _, h⟩ := dJ h
    exact fin (by simp [Op.operands]) h
  · split at h
    · exact fin (by simp [Op.operands]) h
    · cases h
  · exact fin (by simp [Op.operands]) h
  · exact fin (by simp [Op.operands]) h
  · exact fin (by simp) h
  · split at h
    · exact fin (by simp [Op.operands]) h
    · cases h
  · split at h
    · exact fin (by simp [Op.operands]) h
    · exact fin (by simp) h

def cQ (H : aB) (q : Lab) (r : Res) : Prop := ∀ l, r.u.has l → restr H r.foot l ≠ none ∨ Under q l
theorem bX {H : aB} {q : Lab} {x : AV} : cQ H q (.pure x) := fun l hl => absurd hl (aF l)
theorem o6 {H : aB} {q : Lab} {e : Nat} {rs : List (List AV)} {x : AV} : cQ H q (kX e rs x q) := fun l hl => .inr (by rw [bC hl]; exact .self _)
theorem dK {H : aB} {q : Lab} {x : AV} {ls : List Lab} : cQ H q ⟨x, [], some ls⟩ := fun l hl => absurd hl (aF l)
theorem o5 {H : aB} {q l : Lab} {x : AV} {ob ob' : AO} (h : H l = some ob) : cQ H q ⟨x, [(l, some ob')], some [l]⟩ := fun k hk => .inl (by rw [bC hk]; simp [restr, h])
theorem aLoad_lab {m : Nat} {agg : Bool} {x : AV} {H : aB} {q : Lab} {r : Res} (h : aZ m agg x H q = some r) : cQ H q r := by
  unfold aZ at h
  split at h
  · split at h
    · split at h
      · simp only [Option.bind_eq_some_iff, Option.some.injEq] at h
        obtain ⟨_, _, _, _, rfl⟩ := h
        exact dK
      · cases h
    · cases h
  · simp only [Option.bind_eq_some_iff, Option.some.injEq] at h
    obtain ⟨_, _, _, _, rfl⟩ := h
    exact bX
  · cases h
theorem aStore_lab {m : Nat} {x y : AV} {H : aB} {q : Lab} {r : Res} (h : dQ m x y H q = some r) : cQ H q r := by
  unfold dQ at h
  split at h
  · split at h
    · rename_i hl
      split at h
      · split at h
        · split at h
          · simp only [Option.some.injEq] at h; subst h
            exact o5 hl
          · cases h
        · cases h
      · cases h
    · cases h
  · cases h
theorem aLen_lab {c : Cls} {x : AV} {H : aB} {q : Lab} {r : Res} (h : qM c x H q = some r) : cQ H q r := by
  unfold qM at h
  split at h
  · split at h
    · simp only [Option.some.injEq] at h; subst h; exact dK
    · cases h
  · simp only [Option.some.injEq] at h; subst h; exact bX
  · simp only [Option.map_eq_some_iff] at h
    obtain ⟨_, _, rfl⟩ := h; exact bX
  · simp only [Option.some.injEq] at h; subst h; exact bX
  · cases h
theorem aAppend_lab {e b : Nat} {x y : AV} {H : aB} {q : Lab} {r : Res} (h : dG e b x y H q = some r) : cQ H q r := by
  simp only [dG, Option.bind_eq_some_iff] at h
  obtain ⟨src, hsrc, h⟩ := h
  split at h
  · split at h <;> first | (cases h; done) | (simp only [Option.some.injEq] at h; subst h; exact bX)
  · split at h
    · split at h
      · simp only [Option.some.injEq] at h; subst h
        exact fun l hl => .inr (by rw [bC hl]; exact .self _)
      · cases h
    · split at h
      · simp only [Option.some.injEq] at h; subst h
        exact fun l hl => .inr (by rw [bC hl]; exact .self _)
      · cases h
    · split at h
      · rename_i hl
        split at h
        · simp only [Option.some.injEq] at h; subst h
          intro k hk
          obtain ⟨pr, hp, rfl⟩ := hk
          simp at hp
          rcases hp with rfl | rfl
          · exact .inr (.self _)
          · exact .inl (by simp [restr, hl])
        · cases h
      · cases h
    · cases h
theorem aLookup_lab {agg ok : Bool} {ks : List CK} {z m k : AV} {H : aB} {q : Lab} {r : Res} (h : cJ agg ks z ok m k H = some r) : cQ H q r := by
  unfold cJ at h
  split at h
  · split at h
    · simp only [Option.some.injEq] at h; subst h; exact bX
    · split at h
      · simp only [Option.bind_eq_some_iff] at h
        obtain ⟨c, hc, h⟩ := h
        split at h <;> (simp only [Option.some.injEq] at h; subst h; exact dK)
      · simp only [Option.bind_eq_some_iff] at h
        obtain ⟨c, hc, h⟩ := h
        split at h <;> first | (cases h; done) | (simp only [Option.some.injEq] at h; subst h; exact dK)
      · cases h
    · cases h
  · cases h
theorem aMapUpdate_lab {agg : Bool} {ks : List CK} {m k x : AV} {H : aB} {q : Lab} {r : Res} (h : cC agg ks m k x H = some r) : cQ H q r := by
  unfold cC at h
  split at h
  · split at h
    · split at h
      · rename_i hl
        simp only [Option.bind_eq_some_iff] at h
        obtain ⟨c, hc, h⟩ := h
        split at h <;> (simp only [Option.some.injEq] at h; subst h; exact o5 hl)
      · cases h
    · cases h
  · cases h
theorem aDelete_lab {agg : Bool} {ks : List CK} {m k : AV} {H : aB} {q : Lab} {r : Res} (h : iD agg ks m k H = some r) : cQ H q r := by
  unfold iD at h
  split at h
  · split at h
    · simp only [Option.some.injEq] at h; subst h; exact bX
    · split at h
      · rename_i hl
        simp only [Option.bind_eq_some_iff] at h
        obtain ⟨c, hc, h⟩ := h
        split at h <;> (simp only [Option.some.injEq] at h; subst h; first | exact o5 hl | exact dK)
      · cases h
    · cases h
  · cases h
theorem aRange_lab {m : AV} {H : aB} {q : Lab} {r : Res} (h : pB m H q = some r) : cQ H q r := by
  unfold pB at h
  repeat' (first | (cases h; done) | (simp only [Option.some.injEq] at h; subst h; exact fun l hl => .inr (by rw [bC hl]; exact .self _)) | (split at h))
theorem aEntry_lab {x : AV} {H : aB} {q : Lab} {r : Res} (h : m7 x H = some r) : cQ H q r := by
  unfold m7 at h
  repeat' (first | (cases h; done) | (simp only [Option.bind_eq_some_iff, Option.map_eq_some_iff] at h; obtain ⟨_, _, _, _, _, _, rfl⟩ := h; exact dK) | (split at h))
theorem aNext_lab {x : AV} {H : aB} {q : Lab} {r : Res} (h : qL x H = some r) : cQ H q r := by
  unfold qL at h
  split at h
  · split at h
    · simp only [Option.some.injEq] at h; subst h; exact dK
    · rename_i hr
      split at h
      · split at h
        · split at h
          · simp only [Option.some.injEq] at h; subst h; exact dK
          · simp only [Option.some.injEq] at h; subst h
            exact fun k hk => .inl (by rw [bC hk]; simp [restr, hr])
          · cases h
        · cases h
      · cases h
    · cases h
  · cases h
theorem aop_lab {call : aQ} (hcall : aY P call) {k : AK} {xs : List AV} {H : aB} {q : Lab} {r : Res} (h : aop call k xs H q = some r) : cQ H q r := by
  unfold aop at h
  split at h
  all_goals first
    | (cases h; done)
    | (simp only [Option.some.injEq] at h; subst h; first | exact bX | exact o6)
    | exact aLoad_lab h
    | exact aStore_lab h
    | exact aLen_lab h
    | exact aAppend_lab h
    | exact aLookup_lab h
    | exact aMapUpdate_lab h
    | exact aDelete_lab h
    | exact aRange_lab h
    | exact aEntry_lab h
    | exact aNext_lab h
    | (simp only [Option.some.injEq] at h; subst h; exact fun l hl => .inr (by rw [bC hl]; exact .self _))
    | (simp only [Option.bind_eq_some_iff, Option.map_eq_some_iff] at h; obtain ⟨_, _, _, _, rfl⟩ := h; exact bX)
    | (simp only [Option.map_eq_some_iff] at h; obtain ⟨_, _, rfl⟩ := h; exact bX)
    | (split at h <;> first | (cases h; done) | (simp only [Option.some.injEq] at h; subst h; first | exact bX | exact o6) | (simp only [Option.map_eq_some_iff] at h; obtain ⟨_, _, rfl⟩ := h; exact bX))
    | (simp only [Option.bind_eq_some_iff] at h; obtain ⟨_, _, h⟩ := h; split at h <;> first | (cases h; done) | (simp only [Option.some.injEq] at h; subst h; exact o6))
    | skip
  unfold kS at h
  split at h
  · exact (hcall _ _ _ _ _ h).2.1
  · cases h
theorem a9 {i : AIns} (h : b5 P n ops o = some i) : ∃ xs, fE P o = some (i.k, xs) ∧ fX xs = some i.xs ∧ fQ ops o = some i.guard ∧ i.dst = o.dst ∧ (∀ d, o.dst = some d → d < n) ∧
    (∀ x ∈ xs, ∀ t, x = .tmp t → t ∈ o.looksAt ops) ∧ (∀ g want, i.guard = some (g, want) → g ∈ o.looksAt ops) := by
  unfold b5 at h
  simp only [Option.bind_eq_some_iff] at h
  obtain ⟨⟨k, xs⟩, hk, ys, hys, g, hg, h⟩ := h
  split at h
  · rename_i hd
    simp only [Option.some.injEq] at h
    subst h
    refine ⟨xs, hk, hys, hg, rfl, fun d hd' => ?_, fun x hx t ht => ?_, fun t want he => ?_⟩
    · rw [hd'] at hd; simpa [uA] using hd
    · subst ht
      have := compK_sub hk _ hx
      exact List.mem_append_left _ (List.mem_filterMap.2 ⟨.tmp t, by simpa using this, rfl⟩)
    · simp only at he
      subst he
      unfold fQ at hg
      split at hg
      · cases hg
      · rename_i j w' hgd
        simp only [Option.bind_eq_some_iff, Option.some.injEq, Prod.mk.injEq] at hg
        obtain ⟨t', ⟨oj, hoj, hdj⟩, rfl, rfl⟩ := hg
        refine List.mem_append_right _ ?_
        simp [hgd, hoj, hdj]
  · cases h
theorem eJ {i : AIns} (hg : fQ ops o = some i.guard) (h : i.guard = none) (y : Nat → Option Bool) : Region.wanted o y = true := by
  rw [h] at hg
  unfold fQ at hg
  unfold Region.wanted
  split at hg
  · rename_i h1; rw [h1]
  · simp only [Option.bind_eq_some_iff] at hg
    obtain ⟨_, _, h2⟩ := hg
    cases h2
theorem gG {i : AIns} {t : Nat} {want : Bool} {x : AV} (hg : fQ ops o = some i.guard) (h : i.guard = some (t, want)) (hx : RepV ρ R x (a.tmps.getD t undef)) :
    (∀ b, x = .bool b → Region.wanted o (yielded ops a.tmps) = decide (b = want)) ∧ (x = .tuple [] → Region.wanted o (yielded ops a.tmps) = false) := by
  rw [h] at hg
  unfold fQ at hg
  split at hg
  · cases hg
  · rename_i j w' hgd
    simp only [Option.bind_eq_some_iff, Option.some.injEq, Prod.mk.injEq] at hg
    obtain ⟨t', ⟨oj, hoj, hdj⟩, rfl, rfl⟩ := hg
    constructor
    · intro b hb
      subst hb
      have hv := hx.bool_inv
      have : a.tmps[t']? = some (.bool b) := by
        cases hq : a.tmps[t']? with
        | none => simp [Array.getD_eq_getD_getElem?, hq, undef] at hv
        | some v => simp [Array.getD_eq_getD_getElem?, hq] at hv; rw [hv]
      simp [Region.wanted, hgd, yielded, hoj, hdj, this]
      cases b <;> cases w' <;> rfl
    · intro hb
      subst hb
      obtain ⟨vs, hv, _⟩ := hx.tuple_inv
      have : yielded ops a.tmps j = none := by
        unfold yielded
        simp only [hoj, Option.bind_some, hdj]
        cases hq : a.tmps[t']? with
        | none => rfl
        | some v =>
          simp [Array.getD_eq_getD_getElem?, hq] at hv
          rw [hv]
      simp [Region.wanted, hgd, this]

/-- what is known of an operation once it is reckoned out -/
theorem i4 {call : aQ} (hcall : aY P call) {H0 : aB} {p : Lab} {i : AIns} {s : ASt} {rc : Rc} (hi : b5 P n ops o = some i) (h : aN call H0 p i s = some rc) :
    rc.q = s.c :: p ∧
    (rc.skip = true → rc.x = .tuple [] ∧ rc.u = [] ∧ rc.foot = some [] ∧ ∀ ρ R a, nC ops o (aI s.regs) ρ R a → a.tmps.size = n → Region.wanted o (yielded ops a.tmps) = false) ∧
    (rc.skip = false → (∀ l, rc.u.has l → restr (upd s.ov H0) rc.foot l ≠ none ∨ Under rc.q l) ∧
      ∀ ρ R a, nC ops o (aI s.regs) ρ R a → a.tmps.size = n → Region.wanted o (yielded ops a.tmps) = true ∧ Does (opC P o a) (restr (upd s.ov H0) rc.foot) rc.u (Under rc.q) ρ R rc.x) := by
  obtain ⟨xs, hk, hxs, hg, hd, hdn, hl1, hl2⟩ := a9 hi
  have run : ∀ rc, cV call H0 p i s = some rc → rc.q = s.c :: p ∧ rc.skip = false ∧ (∀ l, rc.u.has l → restr (upd s.ov H0) rc.foot l ≠ none ∨ Under rc.q l) ∧
      ∀ ρ R a, nC ops o (aI s.regs) ρ R a → Does (opC P o a) (restr (upd s.ov H0) rc.foot) rc.u (Under rc.q) ρ R rc.x := by
    intro rc hr
    unfold cV at hr
    simp only [Option.bind_eq_some_iff, Option.some.injEq] at hr
    obtain ⟨vs, hvs, r, hr, rfl⟩ := hr
    have key : ∀ ρ R a, nC ops o (aI s.regs) ρ R a → aV P o a ρ R (upd s.ov H0) (s.c :: p) r := by
      intro ρ R a hlook
      exact aop_sound hcall hk (eH hxs hvs (fun x hx t ht z hz => hlook t (hl1 x hx t ht) z hz)) hr
    refine ⟨rfl, rfl, ?_, fun ρ R a hlook => (key ρ R a hlook).2⟩
    -- the labels do not hang on the frame
    exact aop_lab hcall hr
  unfold aN at h
  split at h
  · rename_i hgn
    obtain ⟨h1, h2, h3, h4⟩ := run rc h
    refine ⟨h1, (fun e => by rw [h2] at e; cases e), fun _ => ⟨h3, fun ρ R a hlook hs => ⟨eJ hg hgn _, h4 ρ R a hlook⟩⟩⟩
  · rename_i g want hgn
    have hgl := hl2 g want hgn
    split at h
    · rename_i b hb
      split at h
      · rename_i hw
        obtain ⟨h1, h2, h3, h4⟩ := run rc h
        refine ⟨h1, (fun e => by rw [h2] at e; cases e), fun _ => ⟨h3, fun ρ R a hlook hs => ⟨?_, h4 ρ R a hlook⟩⟩⟩
        rw [(gG hg hgn (hlook g hgl _ hb)).1 b rfl]
        simp [hw]
      · rename_i hw
        cases h
        refine ⟨rfl, fun _ => ⟨rfl, rfl, rfl, fun ρ R a hlook hs => ?_⟩, (fun e => by cases e)⟩
        rw [(gG hg hgn (hlook g hgl _ hb)).1 b rfl]
        simp [hw]
    · rename_i hb
      cases h
      refine ⟨rfl, fun _ => ⟨rfl, rfl, rfl, fun ρ R a hlook hs => ?_⟩, (fun e => by cases e)⟩
      exact (gG hg hgn (hlook g hgl _ hb)).2 rfl
    · cases h
end
end Go.Proofs.Ytigjoggpaamodaa
/-! The abstract machine: whole regions are sound. -/
namespace Go.Proofs.Ytigjoggpaamodaa
set_option linter.unusedVariables false
set_option linter.unusedSimpArgs false

theorem bK {i j : Nat} {p l : Lab} (h : Under (i :: p) l) (h' : Under (j :: p) l) : i = j := by
  obtain ⟨s, hs⟩ := h
  obtain ⟨t, ht⟩ := h'
  rw [hs] at ht
  have h1 := List.append_inj' ht (by simp)
  have := h1.2
  simp at this
  exact this
theorem aP {k : Nat} {p l : Lab} (h : Under (k :: p) l) : Under p l := by
  obtain ⟨s, hs⟩ := h
  exact ⟨s ++ [k], by simp [hs]⟩
/-- the labels of a function's own that are not taken yet -/
def Ns (p : Lab) (c : Nat) (l : Lab) : Prop := ∃ k, c ≤ k ∧ Under (k :: p) l
theorem Ns.under {p l : Lab} {c : Nat} (h : Ns p c l) : Under p l := by obtain ⟨k, _, h⟩ := h; exact aP h
theorem Ns.mono {p l : Lab} {c d : Nat} (h : Ns p d l) (hc : c ≤ d) : Ns p c l := by obtain ⟨k, hk, h⟩ := h; exact ⟨k, by omega, h⟩

section
variable {P : Program} {n : Nat} {ops : Array Oper} {call : aQ} {H0 : aB} {p : Lab} {ρ0 : aH} {R0 : Imm} {w0 : World}
structure Inv (n : Nat) (H0 : aB) (ρ0 : aH) (R0 : Imm) (w0 : World) (p : Lab) (s : ASt) (ρ : aH) (R : Imm) (a : Act) (w : World) : Prop where
  rs : RepS n w0.heap.size (aI s.regs) (upd s.ov H0) ρ R a w
  fut : Fut H0 ρ0 R0 w0 (Under p) ρ R w
  fresh : ∀ l, Ns p s.c l → ρ l = none
  lab : ∀ k o, upd s.ov H0 k = some o → H0 k ≠ none ∨ Under p k

theorem jF : ∀ {is : List AIns} {s s' : ASt} {trs : List Tr}, eO call H0 p is s = some (s', trs) →
    ∃ (S : Nat → ASt) (rc : Nat → Rc), S 0 = s ∧ S is.length = s' ∧ (∀ (j : Nat) i, is[j]? = some i → aN call H0 p i (S j) = some (rc j) ∧ S (j + 1) = aO i (S j) (rc j)) ∧ trs.length = is.length ∧ ∀ j, j < is.length → trs[j]? = some (kW (rc j))
  | [], s, s', trs, h => by
    simp only [eO, Option.some.injEq, Prod.mk.injEq] at h
    obtain ⟨rfl, rfl⟩ := h
    exact ⟨fun _ => s, fun _ => ⟨true, .nilp, [], [], none⟩, rfl, rfl, fun j i hi => by simp at hi, rfl, fun j hj => by simp at hj⟩
  | i :: is, s, s', trs, h => by
    simp only [eO, Option.bind_eq_some_iff, Option.some.injEq, Prod.mk.injEq] at h
    obtain ⟨r0, hr0, ⟨s1, t1⟩, h1, rfl, rfl⟩ := h
    obtain ⟨S, rc, e1, e2, e3, e4, e5⟩ := jF h1
    refine ⟨fun | 0 => s | j + 1 => S j, fun | 0 => r0 | j + 1 => rc j, rfl, e2, fun j x hx => ?_, by simp [e4], fun j hj => ?_⟩
    · cases j with
      | zero => simp at hx; subst hx; exact ⟨hr0, e1⟩
      | succ j => exact e3 j x (by simpa using hx)
    · cases j with
      | zero => rfl
      | succ j => simpa using e5 j (by simpa using hj)
theorem iH : ∀ {is : List AIns} {s s' : ASt}, eA call H0 p is s = some s' →
    ∃ (S : Nat → ASt) (rc : Nat → Rc), S 0 = s ∧ S is.length = s' ∧ (∀ (j : Nat) i, is[j]? = some i → aN call H0 p i (S j) = some (rc j) ∧ S (j + 1) = aO i (S j) (rc j))
  | [], s, s', h => by
    simp only [eA, Option.some.injEq] at h
    subst h
    exact ⟨fun _ => s, fun _ => ⟨true, .nilp, [], [], none⟩, rfl, rfl, fun j i hi => by simp at hi⟩
  | i :: is, s, s', h => by
    simp only [eA, Option.bind_eq_some_iff] at h
    obtain ⟨r0, hr0, h1⟩ := h
    obtain ⟨S, rc, e1, e2, e3⟩ := iH h1
    refine ⟨fun | 0 => s | j + 1 => S j, fun | 0 => r0 | j + 1 => rc j, rfl, e2, fun j x hx => ?_⟩
    cases j with
    | zero => simp at hx; subst hx; exact ⟨hr0, e1⟩
    | succ j => exact e3 j x (by simpa using hx)
theorem bN : ∀ {os : List Oper} {is : List AIns}, cN P n ops os = some is → is.length = os.length ∧ ∀ (j : Nat) o, os[j]? = some o → ∃ i, is[j]? = some i ∧ b5 P n ops o = some i
  | [], is, h => by simp only [cN, Option.some.injEq] at h; subst h; exact ⟨rfl, fun j o ho => by simp at ho⟩
  | o :: os, is, h => by
    simp only [cN, Option.bind_eq_some_iff, Option.some.injEq] at h
    obtain ⟨i, hi, is', his, rfl⟩ := h
    obtain ⟨h1, h2⟩ := bN his
    refine ⟨by simp [h1], fun j x hx => ?_⟩
    cases j with
    | zero => simp at hx; subst hx; exact ⟨i, rfl, hi⟩
    | succ j => simpa using h2 j x (by simpa using hx)

/-- the order of a region's operations -/
theorem maskOf_spec {ms : List Nat} {o : Oper} {i : Nat} (h : (oX ms o).testBit i = true) : ∃ e ∈ o.after.toList, Region.binds .any e = true ∧ (i = e.on ∨ (ms.getD e.on 0).testBit i = true) := by
  have key : ∀ (l : List Edge) (m : Nat), (l.foldl (fun m e => if Region.binds .any e then m ||| 2 ^ e.on ||| ms.getD e.on 0 else m) m).testBit i = true → m.testBit i = true ∨ ∃ e ∈ l, Region.binds .any e = true ∧ (i = e.on ∨ (ms.getD e.on 0).testBit i = true) := by
    intro l
    induction l with
    | nil => intro m h; exact .inl h
    | cons e l ih =>
      intro m h
      simp only [List.foldl_cons] at h
      rcases ih _ h with h1 | ⟨e', he', h1⟩
      · split at h1
        · rename_i hb
          simp only [Nat.testBit_or, Bool.or_eq_true, Nat.testBit_two_pow, decide_eq_true_eq] at h1
          rcases h1 with (h1 | h1) | h1
          · exact .inl h1
          · exact .inr ⟨e, by simp, hb, .inl h1.symm⟩
          · exact .inr ⟨e, by simp, hb, .inr h1⟩
        · exact .inl h1
      · exact .inr ⟨e', by simp [he'], h1⟩
  rcases key _ 0 h with h1 | h1
  · simp at h1
  · exact h1
theorem cT {i j : Nat} (h : ((b4 ops.toList []).getD j 0).testBit i = true) : Anc ops i j := by
  have key : ∀ (os : List Oper) (ms : List Nat), (∀ k, os[k]? = ops[ms.length + k]?) → (∀ j i, (ms.getD j 0).testBit i = true → Anc ops i j) → ∀ j i, ((b4 os ms).getD j 0).testBit i = true → Anc ops i j := by
    intro os
    induction os with
    | nil => intro ms _ h; exact h
    | cons o os ih =>
      intro ms hos h j i hj
      refine ih (ms ++ [oX ms o]) (fun k => ?_) ?_ j i hj
      · have := hos (k + 1)
        rw [List.getElem?_cons_succ] at this
        rw [this]; congr 1; simp; omega
      · intro j i hj
        rcases Nat.lt_trichotomy j ms.length with h1 | h1 | h1
        · refine h j i ?_
          simpa [List.getD_eq_getElem?_getD, List.getElem?_append_left h1] using hj
        · subst h1
          have ho : ops[ms.length]? = some o := by simpa using (hos 0).symm
          have hj' : (oX ms o).testBit i = true := by simpa [List.getD_eq_getElem?_getD] using hj
          obtain ⟨e, he, hb, h2⟩ := maskOf_spec hj'
          have hs : Anc ops e.on ms.length := .step ho (by simpa using he) hb
          rcases h2 with h2 | h2
          · rw [h2]; exact hs
          · exact .trans (h _ _ h2) hs
        · rw [List.getD_eq_getElem?_getD, List.getElem?_eq_none (by simp; omega)] at hj
          simp at hj
  exact key ops.toList [] (fun k => by simp) (fun j i h => by simp at h) j i h
theorem lV {i j : Nat} (h1 : ¬ Anc ops i j) (h2 : ¬ Anc ops j i) : bM (b4 ops.toList []) i j = false := by
  unfold bM
  rw [Bool.or_eq_false_iff]
  constructor
  · rw [Bool.eq_false_iff]; exact fun h => h1 (cT h)
  · rw [Bool.eq_false_iff]; exact fun h => h2 (cT h)
theorem dM : ∀ {os : List Oper} {k : Nat}, fW os k = true → ∀ (j : Nat) o e, os[j]? = some o → e ∈ o.after → Region.binds .any e = true → e.on < k + j
  | [], _, _, j, o, e, h, _, _ => by simp at h
  | o' :: os, k, hb, j, o, e, h, he, hbe => by
    simp only [fW, Bool.and_eq_true] at hb
    cases j with
    | zero =>
      simp at h; subst h
      have := Array.all_eq_true_iff_forall_mem.1 hb.1 e he
      simp [hbe] at this
      omega
    | succ j =>
      have := dM hb.2 j o e (by simpa using h) he hbe
      omega
theorem iM {masks : List Nat} {i : Nat} {x : Oper} : ∀ {os : List Oper} {k : Nat}, jQ ops masks i x os k = true → ∀ (j : Nat) y, os[j]? = some y → i ≠ k + j → bM masks i (k + j) = false → x.apart ops y = true
  | [], _, _, j, y, h, _, _ => by simp at h
  | b :: os, k, hb, j, y, h, hne, ho => by
    simp only [jQ, Bool.and_eq_true, Bool.or_eq_true, beq_iff_eq] at hb
    cases j with
    | zero =>
      simp at h; subst h
      simp only [Nat.add_zero] at hne ho
      rcases hb.1 with (h1 | h1) | h1
      · exact absurd h1 hne
      · rw [ho] at h1; cases h1
      · exact h1
    | succ j => exact iM hb.2 j y (by simpa using h) (by omega) (by rwa [show k + 1 + j = k + (j + 1) by omega])
theorem e8 {masks : List Nat} : ∀ {os : List Oper} {k : Nat}, eI ops masks os k = true → ∀ (i j : Nat) x y, os[i]? = some x → ops[j]? = some y → k + i ≠ j → bM masks (k + i) j = false → x.apart ops y = true
  | [], _, _, i, j, x, y, h, _, _, _ => by simp at h
  | a :: os, k, hb, i, j, x, y, h, hy, hne, ho => by
    simp only [eI, Bool.and_eq_true] at hb
    cases i with
    | zero =>
      simp at h; subst h
      exact iM hb.1 j y (by simpa using hy) (by simpa using hne) (by simpa using ho)
    | succ i => exact e8 hb.2 i j x y (by simpa using h) hy (by omega) (by rwa [show k + 1 + i = k + (i + 1) by omega])
theorem iK {masks : List Nat} {i : Nat} {x : Tr} : ∀ {trs : List Tr} {k : Nat}, eF masks i x trs k = false → ∀ (j : Nat) y, trs[j]? = some y → i ≠ k + j → bM masks i (k + j) = false → gT i (k + j) x y = false
  | [], _, _, j, y, h, _, _ => by simp at h
  | b :: trs, k, hb, j, y, h, hne, ho => by
    simp only [eF, Bool.or_eq_false_iff] at hb
    cases j with
    | zero =>
      simp at h; subst h
      simp only [Nat.add_zero] at hne ho ⊢
      have := hb.1
      simp only [ho, Bool.not_false, Bool.and_true] at this
      have hne' : (i != k) = true := by simpa using hne
      simpa [hne'] using this
    | succ j =>
      have := iK hb.2 j y (by simpa using h) (by omega) (by rwa [show k + 1 + j = k + (j + 1) by omega])
      rwa [show k + 1 + j = k + (j + 1) by omega] at this
theorem iL {masks : List Nat} {all : List Tr} : ∀ {trs : List Tr} {k : Nat}, cX masks all trs k = false → ∀ (i j : Nat) x y, trs[i]? = some x → all[j]? = some y → x.labs ≠ [] → k + i ≠ j → bM masks (k + i) j = false → gT (k + i) j x y = false
  | [], _, _, i, j, x, y, h, _, _, _, _ => by simp at h
  | a :: trs, k, hb, i, j, x, y, h, hy, hl, hne, ho => by
    simp only [cX, Bool.or_eq_false_iff] at hb
    cases i with
    | zero =>
      simp at h; subst h
      have h1 := hb.1
      have : a.labs.isEmpty = false := by cases hq : a.labs with | nil => exact absurd hq hl | cons _ _ => rfl
      simp only [this, Bool.not_false, Bool.true_and] at h1
      have := iK h1 j y hy (by simpa using hne) (by simpa using ho)
      simpa using this
    | succ i =>
      have := iL hb.2 i j x y (by simpa using h) hy hl (by omega) (by rwa [show k + 1 + i = k + (i + 1) by omega])
      rwa [show k + 1 + i = k + (i + 1) by omega] at this
theorem fP {q l : Lab} (h : k0 q l = true) : Under q l := by
  unfold k0 at h
  rw [List.isSuffixOf_iff_suffix] at h
  obtain ⟨s, hs⟩ := h
  exact ⟨s, hs.symm⟩
theorem b8 (r : RL) (d : Option Nat) (x : AV) : aI (aW r d x) = gD (aI r) d x := by
  cases d with
  | none => rfl
  | some t => exact cS r t x

theorem nO {is : List AIns} {S : Nat → ASt} {rc : Nat → Rc} (hlen : is.length = ops.size) (hget : ∀ (j : Nat) o, ops[j]? = some o → ∃ i, is[j]? = some i ∧ b5 P n ops o = some i)
    (hst : ∀ (j : Nat) i, is[j]? = some i → aN call H0 p i (S j) = some (rc j) ∧ S (j + 1) = aO i (S j) (rc j)) :
    ∀ j, j ≤ ops.size → stR ops rc (fun _ => true) (aI (S 0).regs) j = aI (S j).regs ∧ stH rc (fun _ => true) (upd (S 0).ov H0) j = upd (S j).ov H0 ∧ (S j).c = (S 0).c + j
  | 0, _ => ⟨rfl, rfl, rfl⟩
  | j + 1, hj => by
    obtain ⟨h1, h2, h3⟩ := nO hlen hget hst j (by omega)
    obtain ⟨o, ho⟩ : ∃ o, ops[j]? = some o := ⟨_, Array.getElem?_eq_getElem (by omega)⟩
    obtain ⟨i, hi, hc⟩ := hget j o ho
    obtain ⟨h4, h5⟩ := hst j i hi
    obtain ⟨_, _, _, _, hd, _⟩ := a9 hc
    refine ⟨?_, ?_, ?_⟩
    · simp only [stR, if_true, h1, ho, Option.bind_some]
      rw [h5, aO, b8, hd]
    · simp only [stH, if_true, h2]
      rw [h5, aO, aX]
    · rw [h5, aO]; simp only; omega

/-- a region in the order of the text -/
theorem seq_sound {rr : Option Nat} (hcall : aY P call) {is : List AIns} (hcomp : cN P n ops ops.toList = some is) (h0 : Rep H0 ρ0 R0 w0) (hf0 : ∀ l, Under p l → ρ0 l = none) {s s' : ASt} (hrun : eA call H0 p is s = some s') {ρ : aH} {R : Imm} {a : Act} {w : World}
    (hI : Inv n H0 ρ0 R0 w0 p s ρ R a w) {id : Nat} {Q : Exit → Act → World → Prop} (hQ : ∀ ρ R a w, Inv n H0 ρ0 R0 w0 p s' ρ R a w → Q .normal a w) : (Code.region id ops false).wpIn (Fw rr) 0 P Q a w := by
  obtain ⟨S, rc, e1, e2, e3⟩ := iH hrun
  obtain ⟨hlen, hget⟩ := bN hcomp
  simp only [Array.length_toList] at hlen
  have hget' : ∀ (j : Nat) o, ops[j]? = some o → ∃ i, is[j]? = some i ∧ b5 P n ops o = some i := fun j o ho => hget j o (by simpa using ho)
  refine wpIn_region ?_
  have key : ∀ m k, k + m = ops.size → ∀ ρ R a w, Inv n H0 ρ0 R0 w0 p (S k) ρ R a w → wpOpsIn (Fw rr) 0 P ops Q (List.range' k m) a w := by
    intro m
    induction m with
    | zero =>
      intro k hk ρ R a w hI
      simp only [List.range'_zero, wpOpsIn]
      refine hQ ρ R a w ?_
      rw [← e2, hlen, show ops.size = k by omega]
      exact hI
    | succ m ih =>
      intro k hk ρ R a w hI
      rw [List.range'_succ, wpOpsIn_cons]
      obtain ⟨o, ho⟩ : ∃ o, ops[k]? = some o := ⟨_, Array.getElem?_eq_getElem (by omega)⟩
      obtain ⟨i, hi, hc⟩ := hget' k o ho
      obtain ⟨h4, h5⟩ := e3 k i hi
      obtain ⟨hq, hsk, hru⟩ := i4 hcall hc h4
      obtain ⟨_, _, _, _, hd, hdn, _⟩ := a9 hc
      have hlook : nC ops o (aI (S k).regs) ρ R a := fun t ht y hy => hI.rs.regs t y hy
      have hreg : aI (S (k + 1)).regs = gD (aI (S k).regs) o.dst (rc k).x := by rw [h5, aO, b8, hd]
      have hheap : upd (S (k + 1)).ov H0 = upd (rc k).u (upd (S k).ov H0) := by rw [h5, aO, aX]
      have hcc : (S (k + 1)).c = (S k).c + 1 := by rw [h5, aO]
      unfold wpOpIn
      simp only [ho]
      cases hs : (rc k).skip with
      | true =>
        obtain ⟨hx, hu, _, hw⟩ := hsk hs
        rw [hw ρ R a hlook hI.rs.size]
        simp only [Bool.false_eq_true, if_false]
        refine ⟨fun _ _ => trivial, ih (k + 1) (by omega) ρ R _ w ⟨?_, hI.fut, fun l hl => hI.fresh l (hl.mono (by omega)), ?_⟩⟩
        · rw [hreg, hheap, hx, hu]
          exact hI.rs.put (u := []) hdn (Fut.refl _ _ _ _ fun _ => False) (fun l ⟨p, hp, _⟩ => by cases hp) (.tuple [] #[] rfl (fun i x hx => by simp at hx)) hI.rs.heap
        · rw [hheap, hu]; exact hI.lab
      | false =>
        obtain ⟨hlab, hrun'⟩ := hru hs
        obtain ⟨hw, hdoes⟩ := hrun' ρ R a hlook hI.rs.size
        rw [hw]
        simp only [if_true]
        have hsub : ∀ l ob, restr (upd (S k).ov H0) (rc k).foot l = some ob → upd (S k).ov H0 l = some ob := by
          intro l ob
          cases (rc k).foot with
          | none => exact fun h => h
          | some ls => simp only [restr]; split <;> simp
        have hd2 := hdoes.frame jI hsub hlab
        refine hd2 w hI.rs.heap (fun l h1 => hI.fresh l ⟨(S k).c, Nat.le_refl _, by rw [hq] at h1; exact h1⟩) _ _ Q ?_
        rintro v w' ⟨ρ', R', hF', hx, hRep⟩
        refine ih (k + 1) (by omega) ρ' R' _ w' ⟨?_, ?_, ?_, ?_⟩
        · rw [hreg, hheap]
          refine hI.rs.put hdn hF' (fun l hl => ?_) hx hRep
          rcases hlab l hl with h2 | h2
          · obtain ⟨ob, hob⟩ := Option.ne_none_iff_exists'.1 h2
            exact .inl (by rw [hsub l ob hob]; simp)
          · exact .inr (hI.fresh l ⟨(S k).c, Nat.le_refl _, by rw [hq] at h2; exact h2⟩)
        · refine hI.fut.trans h0 hF' (fun j ob hj => ?_) (fun _ h => h) (fun l hl => by rw [hq] at hl; exact aP hl)
          rcases hI.lab j ob hj with h1 | h1
          · exact .inl h1
          · exact .inr (hf0 j h1)
        · intro l hl
          obtain ⟨j, hj, hl⟩ := hl
          have hfr := hI.fresh l ⟨j, by omega, hl⟩
          cases hρ : ρ' l with
          | none => rfl
          | some L =>
            rcases hF'.win l L hρ with h6 | ⟨h6, _⟩
            · rw [hfr] at h6; cases h6
            · rw [hq] at h6
              have := bK hl h6
              omega
        · rw [hheap]
          intro j ob hj
          rcases gX hj with h1 | h1
          · rcases hlab j h1 with h2 | h2
            · have : ∃ ob', upd (S k).ov H0 j = some ob' := by
                obtain ⟨ob', h3⟩ := Option.ne_none_iff_exists'.1 h2
                exact ⟨ob', hsub j ob' h3⟩
              obtain ⟨ob', h3⟩ := this
              exact hI.lab j ob' h3
            · rw [hq] at h2; exact .inr (aP h2)
          · exact hI.lab j ob h1
  have := key ops.size 0 (by omega) ρ R a w (by rw [e1]; exact hI)
  rwa [← List.range_eq_range'] at this

/-- a region that draws its order -/
theorem mQ {rr : Option Nat} (hm : P.follows .mixedOrders = true) (hcall : aY P call) {is : List AIns} (hcomp : cN P n ops ops.toList = some is) (hb : fW ops.toList 0 = true) (hap : eI ops (b4 ops.toList []) ops.toList 0 = true)
    (h0 : Rep H0 ρ0 R0 w0) (hf0 : ∀ l, Under p l → ρ0 l = none) {s s' : ASt} {trs : List Tr} (hrun : eO call H0 p is s = some (s', trs)) (hcl : cX (b4 ops.toList []) trs trs 0 = false) {ρ : aH} {R : Imm} {a : Act} {w : World}
    (hI : Inv n H0 ρ0 R0 w0 p s ρ R a w) {id : Nat} {Q : Exit → Act → World → Prop} (hQ : ∀ ρ R a w, Inv n H0 ρ0 R0 w0 p s' ρ R a w → Q .normal a w) : (Code.region id ops true).wpIn (Fw rr) 0 P Q a w := by
  obtain ⟨S, rc, e1, e2, e3, e4, e5⟩ := jF hrun
  obtain ⟨hlen, hget⟩ := bN hcomp
  simp only [Array.length_toList] at hlen
  have hget' : ∀ (j : Nat) o, ops[j]? = some o → ∃ i, is[j]? = some i ∧ b5 P n ops o = some i := fun j o ho => hget j o (by simpa using ho)
  have hst := nO hlen hget' e3
  rw [e1] at hst
  have hlt : ∀ (j : Nat) (o : Oper), ops[j]? = some o → j < ops.size := fun j o ho => (Array.getElem?_eq_some_iff.1 ho).1
  have hins : ∀ (j : Nat) (o : Oper), ops[j]? = some o → ∃ i, b5 P n ops o = some i ∧ aN call H0 p i (S j) = some (rc j) := by
    intro j o ho
    obtain ⟨i, hi, hc⟩ := hget' j o ho
    exact ⟨i, hc, (e3 j i hi).1⟩
  have hq : ∀ j, j < ops.size → (rc j).q = (s.c + j) :: p := by
    intro j hj
    obtain ⟨i, hc, he⟩ := hins j _ (Array.getElem?_eq_getElem hj)
    rw [(i4 hcall hc he).1, (hst j (by omega)).2.2]
  -- a label's last word: whatever an operation changes was there, or is one of its own
  have hlabs : ∀ j o, ops[j]? = some o → ∀ l, (rc j).u.has l → restr (stH rc (fun _ => true) (upd s.ov H0) j) (rc j).foot l ≠ none ∨ Under (rc j).q l := by
    intro j o ho l hl
    obtain ⟨i, hc, he⟩ := hins j o ho
    obtain ⟨_, hsk, hru⟩ := i4 hcall hc he
    rw [(hst j (by have := hlt j o ho; omega)).2.1]
    cases hs : (rc j).skip with
    | true => rw [(hsk hs).2.1] at hl; exact absurd hl (aF l)
    | false => exact (hru hs).1 l hl
  have hlabOf : ∀ j l, (rc j).u.has l → l ∈ (kW (rc j)).labs := by
    rintro j l ⟨pr, hp, rfl⟩
    exact List.mem_map.2 ⟨pr, hp, rfl⟩
  have hok : RegOk P ops n rc (aI s.regs) (upd s.ov H0) (fun l => ∃ j, s.c ≤ j ∧ j < s.c + ops.size ∧ Under (j :: p) l) := by
    refine { skip := ?_, run := ?_, back := ?_, win := ?_, wid := ?_, regs := ?_, heap := ?_, dst := ?_ }
    · intro j o ho hs
      obtain ⟨i, hc, he⟩ := hins j o ho
      obtain ⟨h1, h2, _, h4⟩ := (i4 hcall hc he).2.1 hs
      refine ⟨h1, h2, fun ρ R a hl hn => h4 ρ R a ?_ hn⟩
      rw [← (hst j (by have := hlt j o ho; omega)).1]
      exact hl
    · intro j o ho hs
      obtain ⟨i, hc, he⟩ := hins j o ho
      obtain ⟨_, h2⟩ := (i4 hcall hc he).2.2 hs
      refine ⟨hlabs j o ho, fun ρ R a hl hn => ?_⟩
      rw [(hst j (by have := hlt j o ho; omega)).2.1]
      refine h2 ρ R a ?_ hn
      rw [← (hst j (by have := hlt j o ho; omega)).1]
      exact hl
    · intro j o e ho he hbe
      have := dM hb j o e (by simpa using ho) he hbe
      omega
    · intro i j hij hi hj l h1 h2
      rw [hq i hi] at h1
      rw [hq j hj] at h2
      have := bK h1 h2
      omega
    · intro j hj l hl
      rw [hq j hj] at hl
      exact ⟨s.c + j, by omega, by omega, hl⟩
    · intro i j oi oj hij hoi hoj h1 h2
      exact e8 hap i j oi oj (by simpa using hoi) hoj (by omega) (by simpa using lV h1 h2)
    · intro i j hij hi hj h1 h2 l hl
      have hcs := iL hcl i j (kW (rc i)) (kW (rc j)) (e5 i (by omega)) (e5 j (by omega)) (fun e => by have := hlabOf i l hl; rw [e] at this; cases this) (by omega) (by simpa using lV h1 h2)
      simp only [Nat.zero_add] at hcs
      unfold gT at hcs
      have hmem := hlabOf i l hl
      cases hf : (rc j).foot with
      | some ls =>
        simp only [kW, hf] at hcs
        simp only [restr]
        rw [if_neg]
        intro hlm
        rw [List.any_eq_false] at hcs
        exact hcs l hmem (by simpa using hlm)
      | none =>
        simp only [kW, hf] at hcs
        simp only [restr]
        split at hcs
        · simp only [Bool.not_eq_false', List.isEmpty_iff] at hcs
          simp only [kW] at hmem
          rw [hcs] at hmem; cases hmem
        · rename_i hlt'
          have hu : Under (rc i).q l := by
            rw [List.any_eq_false] at hcs
            have := hcs l hmem
            simp only [Bool.not_eq_true', Bool.not_eq_false] at this
            exact fP this
          -- the label is a later one's own
          have : ∀ k, k ≤ j → stH rc (fun _ => true) (upd s.ov H0) k l = none := by
            intro k
            induction k with
            | zero =>
              intro _
              simp only [stH]
              cases hh : upd s.ov H0 l with
              | none => rfl
              | some ob =>
                obtain ⟨L, O, h3, _⟩ := hI.rs.heap.own l ob hh
                rw [hq i hi] at hu
                rw [hI.fresh l ⟨s.c + i, by omega, hu⟩] at h3; cases h3
            | succ k ih =>
              intro hk
              simp only [stH, if_true]
              by_cases hk2 : (rc k).u.has l
              · rcases hlabs k _ (Array.getElem?_eq_getElem (by omega)) l hk2 with h3 | h3
                · have hn := ih (by omega)
                  revert h3
                  cases (rc k).foot with
                  | none => simp only [restr]; intro h3; exact absurd hn h3
                  | some ls => simp only [restr]; split <;> intro h3 <;> first | exact absurd hn h3 | exact absurd rfl h3
                · rw [hq k (by omega)] at h3
                  rw [hq i hi] at hu
                  have := bK h3 hu
                  omega
              · rw [aR hk2]; exact ih (by omega)
          exact this j (Nat.le_refl _)
    · intro j o d ho hd
      obtain ⟨i, hc, he⟩ := hins j o ho
      obtain ⟨_, _, _, _, _, hdn, _⟩ := a9 hc
      exact hdn d hd
  refine wp_region_am hm hok hI.rs (fun l hl => by obtain ⟨j, h1, _, h2⟩ := hl; exact hI.fresh l ⟨j, h1, h2⟩) (fun a' ρ' R' w' hF hS => ?_)
  have hfin := hst ops.size (Nat.le_refl _)
  rw [hfin.1, hfin.2.1] at hS
  rw [← hlen, e2] at hfin hS
  refine hQ ρ' R' a' w' ⟨hS, ?_, ?_, ?_⟩
  · refine hI.fut.trans h0 hF (fun j ob hj => ?_) (fun _ h => h) (fun l hl => by obtain ⟨j, _, _, h2⟩ := hl; exact aP h2)
    rcases hI.lab j ob hj with h1 | h1
    · exact .inl h1
    · exact .inr (hf0 j h1)
  · intro l hl
    obtain ⟨j, hj, hl⟩ := hl
    have hjc : s.c + ops.size ≤ j := by rw [← hlen]; rw [hfin.2.2] at hj; omega
    have hfr := hI.fresh l ⟨j, by omega, hl⟩
    cases hρ : ρ' l with
    | none => rfl
    | some L =>
      rcases hF.win l L hρ with h6 | ⟨⟨i, _, h6, h7⟩, _⟩
      · rw [hfr] at h6; cases h6
      · have := bK hl h7
        omega
  · intro j ob hj
    have hfin2 := (hst ops.size (Nat.le_refl _)).2.1
    rw [← hlen, e2] at hfin2
    rw [← hfin2] at hj
    rcases jB is.length hj with h2 | ⟨i, hi, h2⟩
    · obtain ⟨ob', h3⟩ := Option.ne_none_iff_exists'.1 h2
      exact hI.lab j ob' h3
    · rcases hok.lab i (by omega) h2 with h3 | h3
      · obtain ⟨ob', h4⟩ := Option.ne_none_iff_exists'.1 h3
        exact hI.lab j ob' h4
      · obtain ⟨k, _, _, h4⟩ := h3; exact .inr (aP h4)
end
end Go.Proofs.Ytigjoggpaamodaa
/-! The abstract machine: code, functions, calls. -/
namespace Go.Proofs.Ytigjoggpaamodaa
set_option linter.unusedVariables false
set_option linter.unusedSimpArgs false

inductive AEx where
  | normal
  | exit (id : Nat)
  | ret
  | goto (l : Nat)
deriving DecidableEq
def AEx.ex : AEx → Exit
  | .normal => .normal
  | .exit id => .exit id
  | .ret => .ret
  | .goto l => .goto l
def ACode.strip : ACode → ACode
  | .region ops draw _ => .region ops draw []
  | .seq a b => .seq a.strip b.strip
  | .cond c t e => .cond c t.strip e.strip
  | .block id b => .block id b.strip
  | .loop _ b => .loop [] b.strip
  | .scope l b r => .scope l b.strip r.strip
  | .rangeF g ps a b => .rangeF g ps a.strip b.strip
  | c => c
theorem ACode.noRF_strip (c : ACode) : c.strip.noRF = c.noRF := by
  induction c <;> simp_all [ACode.strip, ACode.noRF]
/-- what follows a label -/
def bW : ACode → Nat → Option ACode
  | .seq a b, l => match bW a l with
    | some r => some (.seq r b)
    | none => bW b l
  | .label l', l => if l' == l then some .skip else none
  | _, _ => none
def i6 : Code → Option Nat
  | .seq a b => match i6 a with
    | some l => some l
    | none => i6 b
  | .label l => some l
  | _ => none
def aL (P : Program) (n : Nat) : Code → Option ACode
  | .skip => some .skip
  | .region _ ops draw => (cN P n ops ops.toList).bind fun is => if draw then (if fW ops.toList 0 && eI ops (b4 ops.toList []) ops.toList 0 then some (.region is (some (b4 ops.toList [])) []) else none) else some (.region is none [])
  | .seq a b => (aL P n a).bind fun x => (aL P n b).bind fun y => some (.seq x y)
  | .cond c t e => (mX c).bind fun z => (aL P n t).bind fun x => (aL P n e).bind fun y => some (.cond z x y)
  | .block id b => (aL P n b).bind fun x => some (.block id x)
  | .loop b => (aL P n b).bind fun x => some (.loop [] x)
  | .exit id => some (.exit id)
  | .ret => some .ret
  | .label l => some (.label l)
  | .goto l => some (.goto l)
  | .scope c => (i6 c).bind fun l => (aL P n c).bind fun x => (bW x l).bind fun y => some (.scope l x y)
  | .rangeFunc g ps a b => (mX g).bind fun z => (aL P n a).bind fun x => (aL P n b).bind fun y => if ps.toList.all (fun t => decide (t < n)) && x.noRF && y.noRF then some (.rangeF z ps.toList x y) else none
  | .refuse _ => some .bad
abbrev a4 := AEx → ASt → Prop
def sE (k : ASt → Prop) (Q : a4) : a4 := fun e s => match e with
  | .normal => k s
  | e => Q e s
def rO (l : Nat) (J : ASt → Prop) (Q : a4) : a4 := fun e s => match e with
  | .goto k => k = l ∧ J s
  | e => Q e s
def cF (f : a4 → ASt → Prop) (l : Nat) (Q : a4) : Nat → ASt → Prop
  | 0, _ => False
  | m + 1, s => f (rO l (cF f l Q m) Q) s
def eG (id : Nat) (Q : a4) : a4 := fun e s => match e with
  | .exit k => if k = id then Q .normal s else Q (.exit k) s
  | e => Q e s
section
variable (call : aQ) (H0 : aB) (p : Lab)
def eB (f : a4 → ASt → Prop) (keep : List Nat) (Q : a4) : Nat → ASt → Prop
  | 0, _ => False
  | m + 1, s => f (sE (eB f keep Q m) Q) { s with regs := restrict s.regs keep }
def awp : ACode → a4 → ASt → Prop
  | .skip, Q, s => Q .normal s
  | .region ops draw keep, Q, s => ∃ s', cH call H0 p ops draw keep s = some s' ∧ Q .normal s'
  | .seq a b, Q, s => awp a (sE (awp b Q) Q) s
  | .cond c t e, Q, s => match c3 s.regs c with
    | some (.bool b) => if b then awp t Q s else awp e Q s
    | _ => False
  | .block id b, Q, s => awp b (eG id Q) s
  | .loop keep b, Q, s => ∃ m, eB (awp b) keep Q m s
  | .exit id, Q, s => Q (.exit id) s
  | .ret, Q, s => Q .ret s
  | .label _, Q, s => Q .normal s
  | .goto l, Q, s => Q (.goto l) s
  | .scope l b r, Q, s => awp b (rO l (fun s' => ∃ m, cF (awp r) l Q m s') Q) s
  | .rangeF .., _, _ => False
  | .bad, _, _ => False
end
section
variable {P : Program} {n : Nat} {call : aQ} {H0 : aB} {p : Lab} {ρ0 : aH} {R0 : Imm} {w0 : World}
def pC (n : Nat) (H0 : aB) (ρ0 : aH) (R0 : Imm) (w0 : World) (p : Lab) (Q : a4) : Exit → Act → World → Prop := fun e a w => ∃ ae s ρ R, e = AEx.ex ae ∧ Q ae s ∧ Inv n H0 ρ0 R0 w0 p s ρ R a w
theorem eZ {r : RL} {t : Nat} {x : AV} : ∀ {keep : List Nat}, aI (restrict r keep) t = some x → aI r t = some x
  | [], h => by simp [restrict, aI] at h
  | k :: keep, h => by
    unfold restrict at h
    rw [List.filterMap_cons] at h
    cases hk : aI r k with
    | none => simp only [hk, Option.map_none] at h; exact eZ (keep := keep) h
    | some y =>
      simp only [hk, Option.map_some, aI] at h
      split at h
      · rename_i e; subst e; rw [hk]; exact h
      · exact eZ (keep := keep) h
theorem Inv.restrict {s : ASt} {ρ : aH} {R : Imm} {a : Act} {w : World} (h : Inv n H0 ρ0 R0 w0 p s ρ R a w) (keep : List Nat) : Inv n H0 ρ0 R0 w0 p { s with regs := Ytigjoggpaamodaa.restrict s.regs keep } ρ R a w :=
  ⟨⟨h.rs.size, h.rs.defers, fun t x hx => h.rs.regs t x (eZ hx), h.rs.heap⟩, h.fut, h.fresh, h.lab⟩
theorem awp_mono {c : ACode} : ∀ {Q Q' : a4} {s : ASt}, (∀ e s, Q e s → Q' e s) → awp call H0 p c Q s → awp call H0 p c Q' s := by
  induction c with
  | skip => intro Q Q' s h hs; exact h _ _ hs
  | region ops draw keep => intro Q Q' s h ⟨s', h1, h2⟩; exact ⟨s', h1, h _ _ h2⟩
  | seq a b iha ihb =>
    intro Q Q' s h hs
    refine iha (fun e s he => ?_) hs
    cases e with
    | normal => exact ihb h he
    | exit id => exact h _ _ he
    | ret => exact h _ _ he
    | goto l => exact h _ _ he
  | cond c t e iht ihe =>
    intro Q Q' s h hs
    simp only [awp] at hs ⊢
    split at hs
    · split at hs
      · rename_i hb; rw [if_pos hb]; exact iht h hs
      · rename_i hb; rw [if_neg hb]; exact ihe h hs
    · exact hs.elim
  | block id b ih =>
    intro Q Q' s h hs
    refine ih (fun e s he => ?_) hs
    cases e with
    | normal => exact h _ _ he
    | exit k =>
      simp only [eG] at he ⊢
      split at he
      · rename_i hk; rw [if_pos hk]; exact h _ _ he
      · rename_i hk; rw [if_neg hk]; exact h _ _ he
    | ret => exact h _ _ he
    | goto l => exact h _ _ he
  | loop keep b ih =>
    intro Q Q' s h ⟨m, hm⟩
    refine ⟨m, ?_⟩
    induction m generalizing s with
    | zero => exact hm
    | succ m ihm =>
      refine ih (fun e s he => ?_) hm
      cases e with
      | normal => exact ihm he
      | exit id => exact h _ _ he
      | ret => exact h _ _ he
      | goto l => exact h _ _ he
  | exit id => intro Q Q' s h hs; exact h _ _ hs
  | ret => intro Q Q' s h hs; exact h _ _ hs
  | label l => intro Q Q' s h hs; exact h _ _ hs
  | goto l => intro Q Q' s h hs; exact h _ _ hs
  | bad => intro Q Q' s h hs; exact hs
  | rangeF g ps x y => intro Q Q' s h hs; exact hs
  | scope l b r ihb ihr =>
    intro Q Q' s h hs
    have hr : ∀ m s, cF (awp call H0 p r) l Q m s → cF (awp call H0 p r) l Q' m s := by
      intro m
      induction m with
      | zero => intro s hs; exact hs
      | succ m ihm =>
        intro s hs
        refine ihr (fun e s he => ?_) hs
        cases e with
        | normal => exact h _ _ he
        | exit id => exact h _ _ he
        | ret => exact h _ _ he
        | goto k => exact ⟨he.1, ihm _ he.2⟩
    refine ihb (fun e s he => ?_) hs
    cases e with
    | normal => exact h _ _ he
    | exit id => exact h _ _ he
    | ret => exact h _ _ he
    | goto k => obtain ⟨h1, m, h2⟩ := he; exact ⟨h1, m, hr m _ h2⟩

/-- what a piece of code does, by the abstract machine -/
def SoundC (rr : Option Nat) (P : Program) (n : Nat) (call : aQ) (H0 : aB) (p : Lab) (ρ0 : aH) (R0 : Imm) (w0 : World) (code : Code) : Prop := ∀ {ac : ACode} {Q : a4} {s : ASt} {ρ : aH} {R : Imm} {a : Act} {w : World}, aL P n code = some ac.strip →
    awp call H0 p ac Q s → Inv n H0 ρ0 R0 w0 p s ρ R a w → code.wpIn (Fw rr) 0 P (pC n H0 ρ0 R0 w0 p Q) a w
theorem SoundC.seq {rr : Option Nat} {x y : Code} (ihx : SoundC rr P n call H0 p ρ0 R0 w0 x) (ihy : SoundC rr P n call H0 p ρ0 R0 w0 y) : SoundC rr P n call H0 p ρ0 R0 w0 (.seq x y) := by
  intro ac Q s ρ R a w hc h hI
  simp only [aL, Option.bind_eq_some_iff, Option.some.injEq] at hc
  obtain ⟨x', hx, y', hy, hc⟩ := hc
  cases ac <;> simp [ACode.strip] at hc
  rename_i ax ay
  obtain ⟨rfl, rfl⟩ := hc
  refine wpIn_seq (wpIn_mono (ihx hx h hI) ?_)
  rintro e a1 w1 ⟨ae, s1, ρ1, R1, rfl, hq, hI1⟩
  cases ae with
  | normal => exact ihy hy hq hI1
  | exit id => exact ⟨.exit id, s1, ρ1, R1, rfl, hq, hI1⟩
  | ret => exact ⟨.ret, s1, ρ1, R1, rfl, hq, hI1⟩
  | goto l => exact ⟨.goto l, s1, ρ1, R1, rfl, hq, hI1⟩
theorem eW : ∀ {c : Code} {x : ACode} {l : Nat}, aL P n c = some x → match findLabel c l, bW x l with
    | some r, some y => aL P n r = some y
    | none, none => True
    | _, _ => False
  | .seq a b, x, l, h => by
    simp only [aL, Option.bind_eq_some_iff, Option.some.injEq] at h
    obtain ⟨x', hx, y', hy, rfl⟩ := h
    have h1 := eW (l := l) hx
    have h2 := eW (l := l) hy
    simp only [findLabel, bW]
    cases hf : findLabel a l <;> cases hg : bW x' l <;> simp only [hf, hg] at h1 ⊢
    · exact h2
    · simp [aL, h1, hy]
  | .label k, x, l, h => by
    simp only [aL, Option.some.injEq] at h; subst h
    simp only [findLabel, bW]
    by_cases e : k == l <;> simp [e, aL]
  | .skip, x, l, h => by simp only [aL, Option.some.injEq] at h; subst h; simp [findLabel, bW]
  | .ret, x, l, h => by simp only [aL, Option.some.injEq] at h; subst h; simp [findLabel, bW]
  | .exit k, x, l, h => by simp only [aL, Option.some.injEq] at h; subst h; simp [findLabel, bW]
  | .goto k, x, l, h => by simp only [aL, Option.some.injEq] at h; subst h; simp [findLabel, bW]
  | .rangeFunc .., x, l, h => by
    simp only [aL, Option.bind_eq_some_iff] at h
    obtain ⟨_, _, _, _, _, _, h⟩ := h
    split at h
    · simp only [Option.some.injEq] at h; subst h; simp [findLabel, bW]
    · cases h
  | .refuse _, x, l, h => by simp only [aL, Option.some.injEq] at h; subst h; simp [findLabel, bW]
  | .region _ ops d, x, l, h => by
    simp only [aL, Option.bind_eq_some_iff] at h
    obtain ⟨is, _, h⟩ := h
    split at h
    · split at h
      · simp only [Option.some.injEq] at h; subst h; simp [findLabel, bW]
      · cases h
    · simp only [Option.some.injEq] at h; subst h; simp [findLabel, bW]
  | .cond c t e, x, l, h => by
    simp only [aL, Option.bind_eq_some_iff, Option.some.injEq] at h
    obtain ⟨_, _, _, _, _, _, rfl⟩ := h
    simp [findLabel, bW]
  | .block _ b, x, l, h => by
    simp only [aL, Option.bind_eq_some_iff, Option.some.injEq] at h
    obtain ⟨_, _, rfl⟩ := h
    simp [findLabel, bW]
  | .loop b, x, l, h => by
    simp only [aL, Option.bind_eq_some_iff, Option.some.injEq] at h
    obtain ⟨_, _, rfl⟩ := h
    simp [findLabel, bW]
  | .scope c, x, l, h => by
    simp only [aL, Option.bind_eq_some_iff, Option.some.injEq] at h
    obtain ⟨_, _, _, _, _, _, rfl⟩ := h
    simp [findLabel, bW]
/-- eB from a label on -/
def jE (rr : Option Nat) (P : Program) (rest : Code) (l : Nat) (Q : Exit → Act → World → Prop) : Nat → Act → World → Prop
  | 0, _, _ => False
  | m + 1, a, w => rest.wpIn (Fw rr) 0 P (Exit.jump l (jE rr P rest l Q m) Q) a w
theorem stepR_scope {b : Frame} {a : Act} {k : List Item} {cs : List Frame} {w : World} {c : Code} : step P (lone (b.atR a (.code (.scope c) :: k)) cs w) = .next (lone (b.atR a (.code c :: .inScope c :: k)) cs w) := step_lone_go (by simp [stepG, stepG.exec, Frame.atR])
theorem iG {b : Frame} {a : Act} {k : List Item} {cs : List Frame} {w : World} {c : Code} : step P (lone (b.atR a (.inScope c :: k)) cs w) = .next (lone (b.atR a k) cs w) := step_lone_go (by simp [stepG, stepG.exec, Frame.atR])
theorem mO (rr : Option Nat) (P : Program) (m : Machine) : m.fenced P (Fw rr) := fenced_wide P m
theorem fZ {rr : Option Nat} {c rest : Code} {l : Nat} {a : Act} {w : World} {Q : Exit → Act → World → Prop} (hf : findLabel c l = some rest) (h : c.wpIn (Fw rr) 0 P (Exit.jump l (fun a w => ∃ m, jE rr P rest l Q m a w) Q) a w) : (Code.scope c).wpIn (Fw rr) 0 P Q a w := by
  intro b k cs hro hb hr
  have hg : gotoIn l (.inScope c :: k) = some (.code rest :: .inScope c :: k) := by simp [gotoIn, hf]
  have hex : ∀ id, exitTo id (.inScope c :: k) = exitTo id k := fun id => by simp [exitTo]
  have out : StepsIn (Machine.fenced P (Fw rr)) P (lone (b.atR a (.code (.scope c) :: k)) cs w) (lone (b.atR a (.code c :: .inScope c :: k)) cs w) := .one (mO _ _ _) stepR_scope
  have key : ∀ m a w, jE rr P rest l Q m a w → ∃ e a' w', Q e a' w' ∧ ArrivesIn (Machine.fenced P (Fw rr)) P (lone (b.atR a (.code rest :: .inScope c :: k)) cs w) b k cs e a' w' := by
    intro m
    induction m with
    | zero => intro a w h; exact h.elim
    | succ m ih =>
      intro a w h
      obtain ⟨e, a₁, w₁, hq, harr⟩ := h b (.inScope c :: k) cs hro hb hr
      cases e with
      | normal => exact ⟨.normal, a₁, w₁, hq, StepsIn.trans harr (.one (mO _ _ _) iG)⟩
      | exit id => exact ⟨.exit id, a₁, w₁, hq, fun k' hk => harr.1 k' (by rw [hex]; exact hk), fun h1 hk => harr.2 h1 (by rw [hex]; exact hk)⟩
      | goto l' =>
        obtain ⟨rfl, hJ⟩ := hq
        obtain ⟨e₂, a₂, w₂, hq₂, harr₂⟩ := ih a₁ w₁ hJ
        exact ⟨e₂, a₂, w₂, hq₂, .of_steps (harr.1 _ hg) harr₂⟩
      | ret => exact ⟨_, a₁, w₁, hq, harr⟩
      | panic ch => exact ⟨_, a₁, w₁, hq, harr⟩
      | outgrown => exact ⟨_, a₁, w₁, hq, harr⟩
  obtain ⟨e, a₁, w₁, hq, harr⟩ := h b (.inScope c :: k) cs hro hb hr
  cases e with
  | normal => exact ⟨.normal, a₁, w₁, hq, out.trans (StepsIn.trans harr (.one (mO _ _ _) iG))⟩
  | exit id => exact ⟨.exit id, a₁, w₁, hq, fun k' hk => out.trans (harr.1 k' (by rw [hex]; exact hk)), fun h1 hk => by
      obtain ⟨k₁, h2, h3⟩ := harr.2 h1 (by rw [hex]; exact hk)
      exact ⟨k₁, h2, out.trans h3⟩⟩
  | goto l' =>
    obtain ⟨rfl, m, hJ⟩ := hq
    obtain ⟨e₂, a₂, w₂, hq₂, harr₂⟩ := key m a₁ w₁ hJ
    exact ⟨e₂, a₂, w₂, hq₂, .of_steps (out.trans (harr.1 _ hg)) harr₂⟩
  | ret => exact ⟨.ret, a₁, w₁, hq, ArrivesIn.of_steps (e := .ret) out harr⟩
  | panic ch => exact ⟨.panic ch, a₁, w₁, hq, ArrivesIn.of_steps (e := .panic ch) out harr⟩
  | outgrown => exact ⟨.outgrown, a₁, w₁, hq, ArrivesIn.of_steps (e := .outgrown) out harr⟩
theorem awp_sound_all {rr : Option Nat} (hm : P.follows .mixedOrders = true) (hcall : aY P call) (h0 : Rep H0 ρ0 R0 w0) (hf0 : ∀ l, Under p l → ρ0 l = none) (code : Code) : SoundC rr P n call H0 p ρ0 R0 w0 code ∧ ∀ l rest, findLabel code l = some rest → SoundC rr P n call H0 p ρ0 R0 w0 rest := by
  induction code with
  | skip =>
    refine ⟨?_, fun l rest h => by simp [findLabel] at h⟩
    intro ac Q s ρ R a w hc h hI
    cases ac <;> simp [aL, ACode.strip] at hc
    exact wpIn_skip ⟨.normal, s, ρ, R, rfl, h, hI⟩
  | region id ops draw =>
    refine ⟨?_, fun l rest h => by simp [findLabel] at h⟩
    intro ac Q s ρ R a w hc h hI
    simp only [aL, Option.bind_eq_some_iff] at hc
    obtain ⟨is, his, hc⟩ := hc
    cases draw with
    | false =>
      simp only [Bool.false_eq_true, if_false, Option.some.injEq] at hc
      cases ac <;> simp [ACode.strip] at hc
      rename_i ops' draw' keep
      obtain ⟨rfl, rfl⟩ := hc
      obtain ⟨s', h1, h2⟩ := h
      simp only [cH, Option.bind_eq_some_iff, Option.some.injEq] at h1
      obtain ⟨s1, h1, rfl⟩ := h1
      exact seq_sound hcall his h0 hf0 h1 hI (fun ρ R a w hI' => ⟨.normal, _, ρ, R, rfl, h2, hI'.restrict keep⟩)
    | true =>
      simp only [if_true] at hc
      split at hc
      · rename_i hst
        simp only [Bool.and_eq_true] at hst
        simp only [Option.some.injEq] at hc
        cases ac <;> simp [ACode.strip] at hc
        rename_i ops' draw' keep
        obtain ⟨rfl, rfl⟩ := hc
        obtain ⟨s', h1, h2⟩ := h
        simp only [cH, Option.bind_eq_some_iff] at h1
        obtain ⟨⟨s1, trs⟩, h1, h3⟩ := h1
        split at h3
        · cases h3
        · rename_i hcl
          simp only [Option.some.injEq] at h3
          subst h3
          exact mQ hm hcall his hst.1 hst.2 h0 hf0 h1 (by simpa using hcl) hI (fun ρ R a w hI' => ⟨.normal, _, ρ, R, rfl, h2, hI'.restrict keep⟩)
      · cases hc
  | seq x y ihx ihy =>
    refine ⟨SoundC.seq ihx.1 ihy.1, fun l rest h => ?_⟩
    simp only [findLabel] at h
    cases hf : findLabel x l with
    | some r => simp only [hf, Option.some.injEq] at h; subst h; exact SoundC.seq (ihx.2 l r hf) ihy.1
    | none => simp only [hf] at h; exact ihy.2 l rest h
  | cond c t e iht ihe =>
    refine ⟨?_, fun l rest h => by simp [findLabel] at h⟩
    intro ac Q s ρ R a w hc h hI
    simp only [aL, Option.bind_eq_some_iff, Option.some.injEq] at hc
    obtain ⟨z, hz, x', hx, y', hy, hc⟩ := hc
    cases ac <;> simp [ACode.strip] at hc
    rename_i z' ax ay
    obtain ⟨rfl, rfl, rfl⟩ := hc
    simp only [awp] at h
    split at h
    · rename_i b hb
      have hv := (iA (ρ := ρ) (R := R) (a := a) hz hb (fun t ht y hy => hI.rs.regs t y hy)).bool_inv
      split at h
      · rename_i hbt; subst hbt
        exact wpIn_cond_true hv (iht.1 hx h hI)
      · rename_i hbt
        have : b = false := by simpa using hbt
        subst this
        exact wpIn_cond_false hv (ihe.1 hy h hI)
    · exact h.elim
  | block id b ih =>
    refine ⟨?_, fun l rest h => by simp [findLabel] at h⟩
    intro ac Q s ρ R a w hc h hI
    simp only [aL, Option.bind_eq_some_iff, Option.some.injEq] at hc
    obtain ⟨x', hx, hc⟩ := hc
    cases ac <;> simp [ACode.strip] at hc
    rename_i id' ax
    obtain ⟨rfl, rfl⟩ := hc
    refine wpIn_block (wpIn_mono (ih.1 hx h hI) ?_)
    rintro e a1 w1 ⟨ae, s1, ρ1, R1, rfl, hq, hI1⟩
    cases ae with
    | normal => exact ⟨.normal, s1, ρ1, R1, rfl, hq, hI1⟩
    | exit k =>
      simp only [eG] at hq
      simp only [AEx.ex, Exit.inBlock]
      split at hq
      · rename_i hk; rw [if_pos hk]; exact ⟨.normal, s1, ρ1, R1, rfl, hq, hI1⟩
      · rename_i hk; rw [if_neg hk]; exact ⟨.exit k, s1, ρ1, R1, rfl, hq, hI1⟩
    | ret => exact ⟨.ret, s1, ρ1, R1, rfl, hq, hI1⟩
    | goto l => exact ⟨.goto l, s1, ρ1, R1, rfl, hq, hI1⟩
  | loop b ih =>
    refine ⟨?_, fun l rest h => by simp [findLabel] at h⟩
    intro ac Q s ρ R a w hc h hI
    simp only [aL, Option.bind_eq_some_iff, Option.some.injEq] at hc
    obtain ⟨x', hx, hc⟩ := hc
    cases ac <;> simp [ACode.strip] at hc
    rename_i keep ax
    subst hc
    obtain ⟨m, hr⟩ := h
    refine wpIn_loop_rounds m ?_
    induction m generalizing s ρ R a w with
    | zero => exact hr.elim
    | succ m ihm =>
      rw [roundsIn_succ]
      refine wpIn_mono (ih.1 hx hr (hI.restrict keep)) ?_
      rintro e a1 w1 ⟨ae, s1, ρ1, R1, rfl, hq, hI1⟩
      cases ae with
      | normal => exact ihm hI1 hq
      | exit id => exact ⟨.exit id, s1, ρ1, R1, rfl, hq, hI1⟩
      | ret => exact ⟨.ret, s1, ρ1, R1, rfl, hq, hI1⟩
      | goto l => exact ⟨.goto l, s1, ρ1, R1, rfl, hq, hI1⟩
  | exit id =>
    refine ⟨?_, fun l rest h => by simp [findLabel] at h⟩
    intro ac Q s ρ R a w hc h hI
    cases ac <;> simp [aL, ACode.strip] at hc
    subst hc
    exact wpIn_exit ⟨.exit _, s, ρ, R, rfl, h, hI⟩
  | ret =>
    refine ⟨?_, fun l rest h => by simp [findLabel] at h⟩
    intro ac Q s ρ R a w hc h hI
    cases ac <;> simp [aL, ACode.strip] at hc
    exact wpIn_ret ⟨.ret, s, ρ, R, rfl, h, hI⟩
  | rangeFunc f ps x y =>
    refine ⟨?_, fun l rest h => by simp [findLabel] at h⟩
    intro ac Q s ρ R a w hc h hI
    simp only [aL, Option.bind_eq_some_iff] at hc
    obtain ⟨_, _, _, _, _, _, hc⟩ := hc
    split at hc
    · cases ac <;> simp [ACode.strip] at hc
      exact h.elim
    · cases hc
  | refuse why =>
    refine ⟨?_, fun l rest h => by simp [findLabel] at h⟩
    intro ac Q s ρ R a w hc h hI
    cases ac <;> simp [aL, ACode.strip] at hc
    exact h.elim
  | scope c ih =>
    refine ⟨?_, fun l rest h => by simp [findLabel] at h⟩
    intro ac Q s ρ R a w hc h hI
    simp only [aL, Option.bind_eq_some_iff, Option.some.injEq] at hc
    obtain ⟨l, _, x, hx, y, hy, hc⟩ := hc
    cases ac <;> simp [ACode.strip] at hc
    rename_i l' ab ar
    obtain ⟨rfl, rfl, rfl⟩ := hc
    have hl := eW (l := l) hx
    rw [hy] at hl
    cases hf : findLabel c l with
    | none => simp only [hf] at hl
    | some rest =>
      simp only [hf] at hl
      have hrest : SoundC rr P n call H0 p ρ0 R0 w0 rest := ih.2 l rest hf
      refine fZ hf (wpIn_mono (ih.1 hx h hI) ?_)
      have key : ∀ m s ρ R a w, cF (awp call H0 p ar) l Q m s → Inv n H0 ρ0 R0 w0 p s ρ R a w → jE rr P rest l (pC n H0 ρ0 R0 w0 p Q) m a w := by
        intro m
        induction m with
        | zero => intro s ρ R a w h _; exact h.elim
        | succ m ihm =>
          intro s ρ R a w h hI
          refine wpIn_mono (hrest hl h hI) ?_
          rintro e a1 w1 ⟨ae, s1, ρ1, R1, rfl, hq, hI1⟩
          cases ae with
          | normal => exact ⟨.normal, s1, ρ1, R1, rfl, hq, hI1⟩
          | exit id => exact ⟨.exit id, s1, ρ1, R1, rfl, hq, hI1⟩
          | ret => exact ⟨.ret, s1, ρ1, R1, rfl, hq, hI1⟩
          | goto k => exact ⟨hq.1, ihm s1 ρ1 R1 a1 w1 hq.2 hI1⟩
      rintro e a1 w1 ⟨ae, s1, ρ1, R1, rfl, hq, hI1⟩
      cases ae with
      | normal => exact ⟨.normal, s1, ρ1, R1, rfl, hq, hI1⟩
      | exit id => exact ⟨.exit id, s1, ρ1, R1, rfl, hq, hI1⟩
      | ret => exact ⟨.ret, s1, ρ1, R1, rfl, hq, hI1⟩
      | goto k => obtain ⟨h1, m, h2⟩ := hq; exact ⟨h1, m, key m s1 ρ1 R1 a1 w1 h2 hI1⟩
  | label l =>
    refine ⟨?_, fun k rest h => ?_⟩
    · intro ac Q s ρ R a w hc h hI
      cases ac <;> simp [aL, ACode.strip] at hc
      exact wpIn_label ⟨.normal, s, ρ, R, rfl, h, hI⟩
    · simp only [findLabel] at h
      split at h
      · cases h
        intro ac Q s ρ R a w hc h hI
        cases ac <;> simp [aL, ACode.strip] at hc
        exact wpIn_skip ⟨.normal, s, ρ, R, rfl, h, hI⟩
      · cases h
  | goto l =>
    refine ⟨?_, fun l rest h => by simp [findLabel] at h⟩
    intro ac Q s ρ R a w hc h hI
    cases ac <;> simp [aL, ACode.strip] at hc
    subst hc
    exact wpIn_goto ⟨.goto _, s, ρ, R, rfl, h, hI⟩
theorem awp_sound {rr : Option Nat} (hm : P.follows .mixedOrders = true) (hcall : aY P call) (h0 : Rep H0 ρ0 R0 w0) (hf0 : ∀ l, Under p l → ρ0 l = none) {code : Code} {ac : ACode} {Q : a4} {s : ASt} {ρ : aH} {R : Imm} {a : Act} {w : World} (hc : aL P n code = some ac.strip)
    (h : awp call H0 p ac Q s) (hI : Inv n H0 ρ0 R0 w0 p s ρ R a w) : code.wpIn (Fw rr) 0 P (pC n H0 ρ0 R0 w0 p Q) a w := (awp_sound_all hm hcall h0 hf0 code).1 hc h hI
end

/-! Functions. -/
inductive AResV where
  | tmp (t : Nat)
  | cell (t n : Nat) (agg : Bool)
structure AFun where
  np : Nat
  nt : Nat
  res : List AResV
  body : ACode
def eS (P : Program) : List ResultVar → Option (List AResV)
  | [] => some []
  | .tmp t :: rs => (eS P rs).bind fun l => some (.tmp t :: l)
  | .cell t T :: rs => (P.underlying T).bind fun d => (P.info? T).bind fun i => if a3 d = true ∨ i.size = 1 then (eS P rs).bind fun l => some (.cell t i.size (a3 d) :: l) else none
structure FunOk (P : Program) (f : Nat) (A : AFun) : Prop where
  ex : ∃ fn c, P.funcs[f]? = some fn ∧ fn.body = some c ∧ (fn.name == "runtime.NumGoroutine") = false ∧ fn.ntmps = A.nt ∧ aL P A.nt c = some A.body.strip ∧ eS P fn.results.toList = some A.res
  np : A.np ≤ A.nt
def eV (H : aB) (r : RL) : AResV → Option AV
  | .tmp t => aI r t
  | .cell t n agg => (aI r t).bind fun x => (aZ n agg x H []).map (·.x)
def dN (H : aB) (r : RL) : List AResV → Option (List AV)
  | [] => some []
  | x :: xs => (eV H r x).bind fun v => (dN H r xs).bind fun vs => some (v :: vs)
def cZ (H : aB) (r : RL) (l : List AResV) : Option AV := (dN H r l).map fun vs => match vs with
  | [x] => x
  | vs => .tuple vs
def params : Nat → List AV → RL
  | _, [] => []
  | k, x :: xs => (k, x) :: params (k + 1) xs
def bR (xs : List AV) : ASt := ⟨params 0 xs, [], 0⟩
end Go.Proofs.Ytigjoggpaamodaa
/-! The abstract machine: calls; running it out. -/
namespace Go.Proofs.Ytigjoggpaamodaa
set_option linter.unusedVariables false
set_option linter.unusedSimpArgs false
section
variable {P : Program} {n : Nat} {call : aQ} {H : aB} {q : Lab} {ρ : aH} {R : Imm} {a : Act} {w : World}

theorem load_run {T : TypeId} {x : AV} {v : Value} {d : TypeDesc} {i : TypeInfo} {r : Res} (hd : P.underlying T = some d) (hi : P.info? T = some i) (h1 : a3 d = false → i.size = 1) (hx : RepV ρ R x v) (hR : Rep H ρ R w)
    (h : aZ i.size (a3 d) x H q = some r) : ∃ ad u, v = .pointer (some ad) ∧ (loadVar T ad).run P w = .ok u w ∧ RepV ρ R r.x u := by
  cases x <;> simp only [aZ] at h <;> try (cases h; done)
  case ptr l e ii j =>
    cases hl : H l with
    | none => simp [hl] at h
    | some ob =>
      cases ob with
      | amap es bs ck => simp [hl] at h
      | bag es => simp [hl] at h
      | iter => simp [hl] at h
      | loop => simp [hl] at h
      | rows e' rs =>
        simp only [hl] at h
        split at h
        · rename_i he; subst he
          simp only [Option.bind_eq_some_iff, Option.some.injEq] at h
          obtain ⟨cs, hc, y, hw, rfl⟩ := h
          obtain ⟨L, O, h2, h3, h4⟩ := hR.own l _ hl
          obtain ⟨vs, hvl, hvc, hvr⟩ := oK h4 hc (fun _ _ e => by cases e; rfl) h3
          obtain ⟨L', hL', hv⟩ := hx.ptr_inv
          rw [h2] at hL'; cases hL'
          exact ⟨_, _, hv, eN hd hi w _ vs hvc hvl h1, gF hw (hvl.trans (dD hc).1.symm) hvr⟩
        · cases h
  case iptr e rows ii j =>
    simp only [Option.bind_eq_some_iff, Option.some.injEq] at h
    obtain ⟨cs, hc, y, hw, rfl⟩ := h
    obtain ⟨b, o', c, T', fz, g, hb, hcc, hr, hv⟩ := hx.iptr_inv
    obtain ⟨vs, hvl, hvc, hvr⟩ := rQ hc hcc hr (hR.imm _ _ hb)
    exact ⟨_, _, hv, eN hd hi w _ vs hvc hvl h1, gF hw (hvl.trans (dD hc).1.symm) hvr⟩
/-- what one result variable holds -/
def jV (tmps : Array Value) : ResultVar → Sem Value
  | .tmp t => pure (tmps.getD t undef)
  | .cell b t => do loadVar t (← asAddr (tmps.getD b undef))
theorem oT {r : RL} {B : Nat} (hS : RepS n B (aI r) H ρ R a w) : ∀ {l : List ResultVar} {rs : List AResV} {xs : List AV}, eS P l = some rs → dN H r rs = some xs → ∃ vs, (l.mapM (jV a.tmps)).run P w = .ok vs w ∧ RepL ρ R xs vs
  | [], rs, xs, h, hx => by
    simp only [eS, Option.some.injEq] at h; subst h
    simp only [dN, Option.some.injEq] at hx; subst hx
    exact ⟨[], rfl, .nil⟩
  | .tmp t :: l, rs, xs, h, hx => by
    simp only [eS, Option.bind_eq_some_iff, Option.some.injEq] at h
    obtain ⟨rs', hrs, rfl⟩ := h
    simp only [dN, eV, Option.bind_eq_some_iff, Option.some.injEq] at hx
    obtain ⟨v, hv, vs, hvs, rfl⟩ := hx
    obtain ⟨us, h1, h2⟩ := oT hS hrs hvs
    exact ⟨a.tmps.getD t undef :: us, by simp [List.mapM_cons, jV, h1], .cons (hS.regs t v hv) h2⟩
  | .cell t T :: l, rs, xs, h, hx => by
    simp only [eS, Option.bind_eq_some_iff] at h
    obtain ⟨d, hd, i, hi, h⟩ := h
    split at h
    · rename_i hc
      simp only [Option.bind_eq_some_iff, Option.some.injEq] at h
      obtain ⟨rs', hrs, rfl⟩ := h
      simp only [dN, eV, Option.bind_eq_some_iff, Option.some.injEq, Option.map_eq_some_iff] at hx
      obtain ⟨_, ⟨v, hv, r0, hr0, rfl⟩, vs, hvs, rfl⟩ := hx
      obtain ⟨us, h1, h2⟩ := oT hS hrs hvs
      obtain ⟨ad, u, h3, h4, h5⟩ := load_run (P := P) hd hi (fun e => by simpa [e] using hc) (hS.regs t v hv) hS.heap hr0
      refine ⟨u :: us, ?_, .cons h5 h2⟩
      have ha : (asAddr (a.tmps.getD t undef)).run P w = .ok ad w := by rw [h3]; rfl
      have hcell : (jV a.tmps (.cell t T)).run P w = .ok u w := by
        simp only [jV, Sem.run_bind, ha, Result.andThen_ok, h4]
      simp [List.mapM_cons, hcell, h1]
    · cases h
theorem results_eq (fn : Func) (tmps : Array Value) : results fn tmps = (do let vs ← fn.results.mapM (jV tmps); pure (if h : vs.size = 1 then vs[0] else .tuple vs)) := by
  unfold results
  congr 1
theorem gM {fn : Func} {r : RL} {rs : List AResV} {x : AV} {B : Nat} (hS : RepS n B (aI r) H ρ R a w) (hc : eS P fn.results.toList = some rs) (hx : cZ H r rs = some x) : ∃ v, (results fn a.tmps).run P w = .ok v w ∧ RepV ρ R x v := by
  unfold cZ at hx
  simp only [Option.map_eq_some_iff] at hx
  obtain ⟨xs, hxs, hx⟩ := hx
  obtain ⟨vs, h1, h2⟩ := oT hS hc hxs
  have hm : (fn.results.mapM (jV a.tmps)).run P w = .ok vs.toArray w := by
    rw [Array.mapM_eq_mapM_toList, Sem.run_map, h1]; rfl
  rw [results_eq]
  simp only [Sem.run_bind, hm, Result.andThen_ok, Sem.run_pure]
  refine ⟨_, rfl, ?_⟩
  match xs, vs, h2, hx with
  | [y], vs, h2, hx =>
    obtain ⟨v, us, rfl, hv, hus⟩ := h2.head
    have := hus.nil_inv; subst this
    simp only at hx; subst hx
    simpa using hv
  | [], vs, h2, hx =>
    have := h2.nil_inv; subst this
    simp only at hx; subst hx
    exact RepL.tuple .nil
  | y :: z :: ys, vs, h2, hx =>
    simp only at hx; subst hx
    have hl := h2.1
    have : ¬ vs.toArray.size = 1 := by simp at hl ⊢; omega
    rw [dif_neg this]
    exact h2.tuple
theorem fN : ∀ (xs : List AV) (k t : Nat), aI (params k xs) t = if k ≤ t then xs[t - k]? else none
  | [], k, t => by simp [params, aI]
  | x :: xs, k, t => by
    simp only [params, aI, fN xs (k + 1) t]
    by_cases h : t = k
    · subst h; simp
    · rw [if_neg h]
      by_cases h2 : k ≤ t
      · rw [if_pos (by omega), if_pos h2, show t - k = (t - (k + 1)) + 1 by omega, List.getElem?_cons_succ]
      · rw [if_neg (by omega), if_neg h2]
/-! a function's end: its loops' marks are come to, and gK -/
def gK : List Nat → World → World
  | [], w => w
  | D :: Ds, w => gK Ds (w.putObj D (.deferred none))
theorem Rep.strike {H : aB} {ρ : aH} {R : Imm} {w : World} {D : Nat} {O : Obj} (h : Rep H ρ R w) (hR : R D = none) (hρ : ∀ l o L, H l = some o → ρ l = some L → L.blk ≠ D) : Rep H ρ R (w.putObj D O) :=
  ⟨fun l o hl => by
    obtain ⟨L, O', h1, h2, h3⟩ := h.own l o hl
    exact ⟨L, O', h1, (World.putObj_heap_other (hρ l o L hl h1)).trans h2, h3⟩, h.sep, h.dis, fun b O' hb => (World.putObj_heap_other (fun e => by subst e; rw [hR] at hb; cases hb)).trans (h.imm b O' hb)⟩
theorem Fut.strike {H0 : aB} {ρ0 ρ : aH} {R0 R : Imm} {w0 w : World} {W : Lab → Prop} {D : Nat} {O : Obj} (h : Fut H0 ρ0 R0 w0 W ρ R w) (hB : w0.heap.size ≤ D) : Fut H0 ρ0 R0 w0 W ρ R (w.putObj D O) :=
  ⟨h.ext, h.win, h.new, h.os, h.tape, h.output, by rw [World.putObj_size]; exact h.size, fun b hb hno => (World.putObj_heap_other (by omega)).trans (h.frame b hb hno)⟩
theorem lK {H H0 : aB} {ρ0 ρ : aH} {R0 R : Imm} {w0 : World} {W : Lab → Prop} : ∀ {Ds : List Nat} {w : World}, (∀ D ∈ Ds, w0.heap.size ≤ D ∧ R D = none ∧ ∀ l o L, H l = some o → ρ l = some L → L.blk ≠ D) → Rep H ρ R w → Fut H0 ρ0 R0 w0 W ρ R w → Rep H ρ R (gK Ds w) ∧ Fut H0 ρ0 R0 w0 W ρ R (gK Ds w)
  | [], _, _, hR, hF => ⟨hR, hF⟩
  | D :: Ds, w, h, hR, hF => by
    obtain ⟨h1, h2, h3⟩ := h D (by simp)
    exact lK (w := w.putObj D (.deferred none)) (fun D hD => h D (by simp [hD])) (hR.strike h2 h3) (hF.strike h1)
theorem jJ {P : Program} {fn : Func} {tmps : Array Value} {K : Ending → World → Prop} : ∀ {Ds : List Nat} {w : World}, Ds.Nodup → (∀ D ∈ Ds, w.heap[D]? = some (.deferred (some []))) → (∃ v, (results fn tmps).run P (gK Ds w) = .ok v (gK Ds w) ∧ K (.returned v) (gK Ds w)) → LeavesInM (Fw none) 0 P fn tmps K (Ds.map oY) .returning w
  | [], _, _, _, h => h
  | D :: Ds, w, hn, hD, h => by
    have hn' := List.nodup_cons.1 hn
    refine ⟨by simp, .inl ⟨D, w.putObj D (.deferred none), rfl, run_takeDeferred (hD D (by simp)), jJ hn'.2 (fun E hE => ?_) h⟩⟩
    rw [World.putObj_heap_other (show E ≠ D from fun e => hn'.1 (e ▸ hE))]
    exact hD E (by simp [hE])
theorem kB {P : Program} {f : Nat} {fn : Func} {c : Code} {args : Array Value} {w : World} {K : Ending → World → Prop} {n : Nat} {H : aB} {ρ : aH} {R : Imm} {q : Lab} {Q : a4} (hf : P.funcs[f]? = some fn) (hb : fn.body = some c)
    (h : c.wpIn (Fw none) 0 P (pC n H ρ R w q Q) { tmps := args ++ Array.replicate (fn.ntmps - args.size) undef, defers := [] } w)
    (hQ : ∀ ae s ρ' R' a' w', Q ae s → RepS n 0 (aI s.regs) (upd s.ov H) ρ' R' a' w' → Fut H ρ R w (Under q) ρ' R' w' → (∀ l o, upd s.ov H l = some o → H l ≠ none ∨ Under q l) → (ae = .normal ∨ ae = .ret) ∧ ∃ v, (results fn a'.tmps).run P w' = .ok v w' ∧ K (.returned v) w') : Calls P f args w K := by
  refine callsIn_w.1 (callsIn_of_wp_marks (F := Fw none) (n := 0) hf hb trivial (wpIn_mono h ?_))
  rintro e a' w' ⟨ae, s, ρ', R', rfl, hq, hI⟩
  obtain ⟨Ds, hd, hnd, hD⟩ := hI.rs.defers
  obtain ⟨hR2, hF2⟩ := lK (w0 := w) (fun D h => ⟨(hD D h).1, (hD D h).2.2⟩) hI.rs.heap hI.fut
  obtain ⟨hae, v, hv, hK⟩ := hQ ae s ρ' R' { a' with defers := [] } (gK Ds w') hq ⟨hI.rs.size, .nil, hI.rs.regs, hR2⟩ hF2 (fun l o hl => hI.lab l o hl)
  have hl := jJ (P := P) (fn := fn) (tmps := a'.tmps) (K := K) hnd (fun D h => (hD D h).2.1) ⟨v, hv, hK⟩
  rw [← hd] at hl
  rcases hae with rfl | rfl <;> exact hl
/-- what a body's end is to be for its caller -/
def tA (H : aB) (res : List AResV) (K : AV → Chg → Prop) : a4 := fun e s => (e = .normal ∨ e = .ret) ∧ ∃ x u, cZ (upd s.ov H) s.regs res = some x ∧ (∀ l o, upd u H l = some o → upd s.ov H l = some o) ∧ K x u
theorem h9 (hm : P.follows .mixedOrders = true) (hcall : aY P call) {f : Nat} {A : AFun} (hA : FunOk P f A) {xs : List AV} (hlen : xs.length = A.np) {K : AV → Chg → Prop} (h : awp call H q A.body (tA H A.res K) (bR xs)) {vs : List Value} (hvs : RepL ρ R xs vs) :
    ∀ w, Rep H ρ R w → (∀ l, Under q l → ρ l = none) → dL P f vs.toArray w (fun v w' => ∃ x u ρ' R', K x u ∧ Fut H ρ R w (Under q) ρ' R' w' ∧ RepV ρ' R' x v ∧ Rep (upd u H) ρ' R' w') := by
  intro w hR hfr
  obtain ⟨⟨fn, c, hf, hb, hn, hnt, hc, hres⟩, hnp⟩ := hA
  have hvl := hvs.1
  have hI : Inv A.nt H ρ R w q (bR xs) ρ R { tmps := vs.toArray ++ Array.replicate (fn.ntmps - vs.toArray.size) undef, defers := [] } w := by
    refine ⟨⟨?_, .nil, fun t x hx => ?_, ?_⟩, Fut.refl _ _ _ _ _, fun l hl => hfr l hl.under, fun k o hk => .inl (by simp only [bR, upd] at hk; rw [hk]; simp)⟩
    · simp; omega
    · simp only [bR, fN, Nat.zero_le, if_true, Nat.sub_zero] at hx
      obtain ⟨v, hv, hr⟩ := hvs.2 t x hx
      have ht : t < vs.length := (List.getElem?_eq_some_iff.1 hv).1
      have : (vs.toArray ++ Array.replicate (fn.ntmps - vs.toArray.size) undef).getD t undef = v := by
        rw [Array.getD_eq_getD_getElem?, Array.getElem?_append_left (by simpa using ht)]
        simp [hv]
      rw [this]; exact hr
    · simpa [bR, upd] using hR
  refine kB hf hb (awp_sound hm hcall hR hfr hc h hI) ?_
  rintro ae s ρ' R' a' w' ⟨hae, x, u, hx, hsub, hK⟩ hS hF hlab
  obtain ⟨v, hv, hrv⟩ := gM hS hres hx
  exact ⟨hae, v, hv, v, rfl, x, u, ρ', R', hK, hF, hrv, hS.heap.drop hsub⟩
end

/-! Running it out. -/
section
variable (call : aQ) (H0 : aB) (p : Lab)
def qI (f : ASt → Option (AEx × ASt)) (keep : List Nat) : Nat → ASt → Option (AEx × ASt)
  | 0, _ => none
  | m + 1, s => (f { s with regs := restrict s.regs keep }).bind fun r => match r.1 with
    | .normal => qI f keep m r.2
    | e => some (e, r.2)
def mT (f : ASt → Option (AEx × ASt)) (l : Nat) : Nat → ASt → Option (AEx × ASt)
  | 0, _ => none
  | m + 1, s => (f s).bind fun q => match q.1 with
    | .goto k => if k = l then mT f l m q.2 else none
    | e => some (e, q.2)
def bS (fuel : Nat) : ACode → ASt → Option (AEx × ASt)
  | .skip, s => some (.normal, s)
  | .region ops draw keep, s => (cH call H0 p ops draw keep s).bind fun s' => some (.normal, s')
  | .seq a b, s => (bS fuel a s).bind fun r => match r.1 with
    | .normal => bS fuel b r.2
    | e => some (e, r.2)
  | .cond c t e, s => match c3 s.regs c with
    | some (.bool true) => bS fuel t s
    | some (.bool false) => bS fuel e s
    | _ => none
  | .block id b, s => (bS fuel b s).bind fun r => match r.1 with
    | .exit k => if k = id then some (.normal, r.2) else some (.exit k, r.2)
    | e => some (e, r.2)
  | .loop keep b, s => qI (bS fuel b) keep fuel s
  | .exit id, s => some (.exit id, s)
  | .ret, s => some (.ret, s)
  | .label _, s => some (.normal, s)
  | .goto l, s => some (.goto l, s)
  | .scope l b r, s => (bS fuel b s).bind fun q => match q.1 with
    | .goto k => if k = l then mT (bS fuel r) l fuel q.2 else none
    | e => some (e, q.2)
  | .rangeF .., _ => none
  | .bad, _ => none
end
theorem qA {call : aQ} {H0 : aB} {p : Lab} {fuel : Nat} {c : ACode} : ∀ {s s' : ASt} {e : AEx} {Q : a4}, bS call H0 p fuel c s = some (e, s') → Q e s' → awp call H0 p c Q s := by
  induction c with
  | skip => intro s s' e Q h hQ; simp only [bS, Option.some.injEq, Prod.mk.injEq] at h; obtain ⟨rfl, rfl⟩ := h; exact hQ
  | region ops draw keep =>
    intro s s' e Q h hQ
    simp only [bS, Option.bind_eq_some_iff, Option.some.injEq, Prod.mk.injEq] at h
    obtain ⟨s1, h1, rfl, rfl⟩ := h
    exact ⟨_, h1, hQ⟩
  | seq a b iha ihb =>
    intro s s' e Q h hQ
    simp only [bS, Option.bind_eq_some_iff] at h
    obtain ⟨⟨e1, s1⟩, h1, h2⟩ := h
    refine iha h1 ?_
    cases e1 with
    | normal => exact ihb h2 hQ
    | exit id => simp only [Option.some.injEq, Prod.mk.injEq] at h2; obtain ⟨rfl, rfl⟩ := h2; exact hQ
    | ret => simp only [Option.some.injEq, Prod.mk.injEq] at h2; obtain ⟨rfl, rfl⟩ := h2; exact hQ
    | goto l => simp only [Option.some.injEq, Prod.mk.injEq] at h2; obtain ⟨rfl, rfl⟩ := h2; exact hQ
  | cond c t e iht ihe =>
    intro s s' e' Q h hQ
    simp only [bS] at h
    simp only [awp]
    split at h
    · rename_i hc; rw [hc]; exact iht h hQ
    · rename_i hc; rw [hc]; exact ihe h hQ
    · cases h
  | block id b ih =>
    intro s s' e Q h hQ
    simp only [bS, Option.bind_eq_some_iff] at h
    obtain ⟨⟨e1, s1⟩, h1, h2⟩ := h
    refine ih h1 ?_
    cases e1 with
    | normal => simp only [Option.some.injEq, Prod.mk.injEq] at h2; obtain ⟨rfl, rfl⟩ := h2; exact hQ
    | exit k =>
      simp only [eG]
      simp only at h2
      split at h2
      · rename_i hk; rw [if_pos hk]; simp only [Option.some.injEq, Prod.mk.injEq] at h2; obtain ⟨rfl, rfl⟩ := h2; exact hQ
      · rename_i hk; rw [if_neg hk]; simp only [Option.some.injEq, Prod.mk.injEq] at h2; obtain ⟨rfl, rfl⟩ := h2; exact hQ
    | ret => simp only [Option.some.injEq, Prod.mk.injEq] at h2; obtain ⟨rfl, rfl⟩ := h2; exact hQ
    | goto l => simp only [Option.some.injEq, Prod.mk.injEq] at h2; obtain ⟨rfl, rfl⟩ := h2; exact hQ
  | loop keep b ih =>
    intro s s' e Q h hQ
    simp only [bS] at h
    refine ⟨fuel, ?_⟩
    have key : ∀ m s, qI (bS call H0 p fuel b) keep m s = some (e, s') → eB (awp call H0 p b) keep Q m s := by
      intro m
      induction m with
      | zero => intro s h; simp [qI] at h
      | succ m ihm =>
        intro s h
        simp only [qI, Option.bind_eq_some_iff] at h
        obtain ⟨⟨e1, s1⟩, h1, h2⟩ := h
        refine ih h1 ?_
        cases e1 with
        | normal => exact ihm s1 h2
        | exit id => simp only [Option.some.injEq, Prod.mk.injEq] at h2; obtain ⟨rfl, rfl⟩ := h2; exact hQ
        | ret => simp only [Option.some.injEq, Prod.mk.injEq] at h2; obtain ⟨rfl, rfl⟩ := h2; exact hQ
        | goto l => simp only [Option.some.injEq, Prod.mk.injEq] at h2; obtain ⟨rfl, rfl⟩ := h2; exact hQ
    exact key fuel s h
  | label l => intro s s' e Q h hQ; simp only [bS, Option.some.injEq, Prod.mk.injEq] at h; obtain ⟨rfl, rfl⟩ := h; exact hQ
  | goto l => intro s s' e Q h hQ; simp only [bS, Option.some.injEq, Prod.mk.injEq] at h; obtain ⟨rfl, rfl⟩ := h; exact hQ
  | bad => intro s s' e Q h hQ; simp [bS] at h
  | rangeF g ps x y => intro s s' e Q h hQ; simp [bS] at h
  | scope l b r ihb ihr =>
    intro s s' e Q h hQ
    simp only [bS, Option.bind_eq_some_iff] at h
    obtain ⟨⟨e1, s1⟩, h1, h2⟩ := h
    have key : ∀ m s, mT (bS call H0 p fuel r) l m s = some (e, s') → cF (awp call H0 p r) l Q m s := by
      intro m
      induction m with
      | zero => intro s h; simp [mT] at h
      | succ m ihm =>
        intro s h
        simp only [mT, Option.bind_eq_some_iff] at h
        obtain ⟨⟨e1, s1⟩, h1, h2⟩ := h
        refine ihr h1 ?_
        cases e1 with
        | normal => simp only [Option.some.injEq, Prod.mk.injEq] at h2; obtain ⟨rfl, rfl⟩ := h2; exact hQ
        | exit id => simp only [Option.some.injEq, Prod.mk.injEq] at h2; obtain ⟨rfl, rfl⟩ := h2; exact hQ
        | ret => simp only [Option.some.injEq, Prod.mk.injEq] at h2; obtain ⟨rfl, rfl⟩ := h2; exact hQ
        | goto k =>
          simp only at h2
          split at h2
          · rename_i hk; exact ⟨hk, ihm s1 h2⟩
          · cases h2
    refine ihb h1 ?_
    cases e1 with
    | normal => simp only [Option.some.injEq, Prod.mk.injEq] at h2; obtain ⟨rfl, rfl⟩ := h2; exact hQ
    | exit id => simp only [Option.some.injEq, Prod.mk.injEq] at h2; obtain ⟨rfl, rfl⟩ := h2; exact hQ
    | ret => simp only [Option.some.injEq, Prod.mk.injEq] at h2; obtain ⟨rfl, rfl⟩ := h2; exact hQ
    | goto k =>
      simp only at h2
      split at h2
      · rename_i hk; exact ⟨hk, fuel, key fuel s1 h2⟩
      · cases h2
  | exit id => intro s s' e Q h hQ; simp only [bS, Option.some.injEq, Prod.mk.injEq] at h; obtain ⟨rfl, rfl⟩ := h; exact hQ
  | ret => intro s s' e Q h hQ; simp only [bS, Option.some.injEq, Prod.mk.injEq] at h; obtain ⟨rfl, rfl⟩ := h; exact hQ
def s8 (H : aB) (q : Lab) (u : Chg) : Bool := u.all fun p => k0 q p.1 || (H p.1).isSome
/-- calls that are run out, so deep -/
def s9 (tbl : Nat → Option AFun) (fuel : Nat) : Nat → aQ
  | 0, _, _, _, _ => none
  | d + 1, f, xs, H, q => (tbl f).bind fun A => if xs.length = A.np then (bS (s9 tbl fuel d) H q fuel A.body (bR xs)).bind fun r => match r.1 with
    | .exit _ => none
    | .goto _ => none
    | _ => (cZ (upd r.2.ov H) r.2.regs A.res).bind fun x => if s8 H q r.2.ov then some ⟨x, r.2.ov, none⟩ else none
    else none
theorem arun_ok {P : Program} (hm : P.follows .mixedOrders = true) {tbl : Nat → Option AFun} (ht : ∀ f A, tbl f = some A → FunOk P f A) (fuel : Nat) : ∀ d, aY P (s9 tbl fuel d)
  | 0 => fun f xs H q r h => by simp [s9] at h
  | d + 1 => fun f xs H q r h => by
    have ih := arun_ok hm ht fuel d
    simp only [s9, Option.bind_eq_some_iff] at h
    obtain ⟨A, hA, h⟩ := h
    have hF := ht f A hA
    split at h
    · rename_i hlen
      simp only [Option.bind_eq_some_iff] at h
      obtain ⟨⟨e, s⟩, he, h⟩ := h
      have hne : e = .normal ∨ e = .ret := by
        cases e with
        | normal => exact .inl rfl
        | exit k => cases h
        | ret => exact .inr rfl
        | goto k => cases h
      have h' : (cZ (upd s.ov H) s.regs A.res).bind (fun x => if s8 H q s.ov then some (⟨x, s.ov, none⟩ : Res) else none) = some r := by
        rcases hne with rfl | rfl <;> exact h
      simp only [Option.bind_eq_some_iff] at h'
      obtain ⟨x, hx, h'⟩ := h'
      split at h'
      · rename_i hov
        simp only [Option.some.injEq] at h'
        subst h'
        obtain ⟨fn, c, hf, hb, hn, _⟩ := hF.ex
        refine ⟨⟨fn, hf, by rw [hb]; rfl, hn⟩, ?_, ?_⟩
        · rintro l ⟨pr, hp, rfl⟩
          have := List.all_eq_true.1 hov pr hp
          simp only [Bool.or_eq_true] at this
          rcases this with h1 | h1
          · exact .inr (fP h1)
          · refine .inl ?_
            simp only [restr]
            intro e0; rw [e0] at h1; cases h1
        · intro ρ R vs hvs w hR hfr
          simp only [restr] at hR
          have := h9 hm ih hF hlen (K := fun y u => y = x ∧ u = s.ov) (qA he ⟨hne, x, s.ov, hx, fun l o h => h, rfl, rfl⟩) hvs w hR hfr
          refine Calls.mono this ?_
          rintro e' w' ⟨v, rfl, y, u, ρ', R', ⟨rfl, rfl⟩, hF', hv, hR'⟩
          exact ⟨v, rfl, ρ', R', hF', hv, hR'⟩
      · cases h'
    · cases h
end Go.Proofs.Ytigjoggpaamodaa
/-! The abstract machine: running a function out where some tests are not known: a list says how they are taken to come out, and what was tested is told. -/
namespace Go.Proofs.Ytigjoggpaamodaa
set_option linter.unusedVariables false
set_option linter.unusedSimpArgs false
/-- a run's end: how, the state, the answers that are left, what was tested against which answer -/
structure XR where
  e : AEx
  s : ASt
  os : List Bool
  cons : List (Bool × Bool)
def ConsOk (l : List (Bool × Bool)) : Prop := ∀ p ∈ l, p.1 = p.2
theorem ConsOk.left {l m : List (Bool × Bool)} (h : ConsOk (l ++ m)) : ConsOk l := fun p hp => h p (by simp [hp])
theorem ConsOk.right {l m : List (Bool × Bool)} (h : ConsOk (l ++ m)) : ConsOk m := fun p hp => h p (by simp [hp])
/-- a register's truth, taken to be what a list says -/
def qY (asks : List (Nat × Bool)) (d : Option Nat) (x : AV) : AV × List (Bool × Bool) := match d, x with
  | some t, .bool b => match asks.lookup t with
    | some ans => (.bool ans, [(b, ans)])
    | none => (x, [])
  | _, x => (x, [])
theorem rV {asks : List (Nat × Bool)} {d : Option Nat} {x : AV} (h : ConsOk (qY asks d x).2) : (qY asks d x).1 = x := by
  unfold qY at h ⊢
  split
  · rename_i t b
    simp only at h
    split
    · rename_i ans ha
      rw [ha] at h
      have : b = ans := h (b, ans) (by simp)
      rw [this]
    · rfl
  · rfl
section
variable (call : aQ) (H0 : aB) (p : Lab) (asks : List (Nat × Bool))
def jG : List AIns → ASt → Option (ASt × List (Bool × Bool))
  | [], s => some (s, [])
  | i :: is, s => (aN call H0 p i s).bind fun rc => (jG is (aO i s { rc with x := (qY asks i.dst rc.x).1 })).bind fun r => some (r.1, (qY asks i.dst rc.x).2 ++ r.2)
def lO : List AIns → ASt → Option ((ASt × List Tr) × List (Bool × Bool))
  | [], s => some ((s, []), [])
  | i :: is, s => (aN call H0 p i s).bind fun rc => (lO is (aO i s { rc with x := (qY asks i.dst rc.x).1 })).bind fun r => some ((r.1.1, kW rc :: r.1.2), (qY asks i.dst rc.x).2 ++ r.2)
def iW (ops : List AIns) (draw : Option (List Nat)) (keep : List Nat) (s : ASt) : Option (ASt × List (Bool × Bool)) := match draw with
  | none => (jG call H0 p asks ops s).bind fun r => some ({ r.1 with regs := restrict r.1.regs keep }, r.2)
  | some masks => (lO call H0 p asks ops s).bind fun r => if cX masks r.1.2 r.1.2 0 then none else some ({ r.1.1 with regs := restrict r.1.1.regs keep }, r.2)
end
theorem lP {call : aQ} {H0 : aB} {p : Lab} {asks : List (Nat × Bool)} : ∀ {is : List AIns} {s : ASt} {r : ASt × List (Bool × Bool)}, jG call H0 p asks is s = some r → ConsOk r.2 → eA call H0 p is s = some r.1
  | [], s, r, h, _ => by
    simp only [jG, Option.some.injEq] at h; subst h
    rfl
  | i :: is, s, r, h, hc => by
    simp only [jG, Option.bind_eq_some_iff, Option.some.injEq] at h
    obtain ⟨rc, h1, q, h2, rfl⟩ := h
    have e := rV hc.left
    rw [e] at h2
    simp only [eA, h1, Option.bind_some]
    exact lP h2 hc.right
theorem nT {call : aQ} {H0 : aB} {p : Lab} {asks : List (Nat × Bool)} : ∀ {is : List AIns} {s : ASt} {r : (ASt × List Tr) × List (Bool × Bool)}, lO call H0 p asks is s = some r → ConsOk r.2 → eO call H0 p is s = some r.1
  | [], s, r, h, _ => by
    simp only [lO, Option.some.injEq] at h; subst h
    rfl
  | i :: is, s, r, h, hc => by
    simp only [lO, Option.bind_eq_some_iff, Option.some.injEq] at h
    obtain ⟨rc, h1, q, h2, rfl⟩ := h
    have e := rV hc.left
    rw [e] at h2
    simp only [eO, h1, Option.bind_some]
    have := nT h2 hc.right
    rw [this]
    rfl
theorem runRegionQ_ok {call : aQ} {H0 : aB} {p : Lab} {asks : List (Nat × Bool)} {ops : List AIns} {draw : Option (List Nat)} {keep : List Nat} {s : ASt} {r : ASt × List (Bool × Bool)} (h : iW call H0 p asks ops draw keep s = some r) (hc : ConsOk r.2) : cH call H0 p ops draw keep s = some r.1 := by
  unfold iW at h
  unfold cH
  split at h
  · simp only [Option.bind_eq_some_iff, Option.some.injEq] at h
    obtain ⟨q, h1, rfl⟩ := h
    rw [lP h1 hc]
    rfl
  · simp only [Option.bind_eq_some_iff] at h
    obtain ⟨q, h1, h2⟩ := h
    split at h2
    · cases h2
    · rename_i hcl
      simp only [Option.some.injEq] at h2
      subst h2
      rw [nT h1 hc]
      simp only [Option.bind_some]
      rw [if_neg hcl]
section
variable (call : aQ) (H0 : aB) (p : Lab) (asks : List (Nat × Bool))
def pE (f : List Bool → ASt → Option XR) (keep : List Nat) : Nat → List Bool → ASt → Option XR
  | 0, _, _ => none
  | m + 1, os, s => (f os { s with regs := restrict s.regs keep }).bind fun r => match r.e with
    | .normal => (pE f keep m r.os r.s).bind fun q => some { q with cons := r.cons ++ q.cons }
    | _ => some r
def axb (fuel : Nat) : ACode → List Bool → ASt → Option XR
  | .skip, os, s => some ⟨.normal, s, os, []⟩
  | .region ops draw keep, os, s => (iW call H0 p asks ops draw keep s).bind fun r => some ⟨.normal, r.1, os, r.2⟩
  | .seq a b, os, s => (axb fuel a os s).bind fun r => match r.e with
    | .normal => (axb fuel b r.os r.s).bind fun q => some { q with cons := r.cons ++ q.cons }
    | _ => some r
  | .cond c t e, os, s => match c3 s.regs c with
    | some (.bool b) => match os with
      | true :: os => (axb fuel t os s).bind fun q => some { q with cons := (b, true) :: q.cons }
      | false :: os => (axb fuel e os s).bind fun q => some { q with cons := (b, false) :: q.cons }
      | [] => match b with
        | true => axb fuel t [] s
        | false => axb fuel e [] s
    | _ => none
  | .block id b, os, s => (axb fuel b os s).bind fun r => match r.e with
    | .exit k => if k = id then some { r with e := .normal } else some r
    | _ => some r
  | .loop keep b, os, s => pE (axb fuel b) keep fuel os s
  | .exit id, os, s => some ⟨.exit id, s, os, []⟩
  | .ret, os, s => some ⟨.ret, s, os, []⟩
  | _, _, _ => none
end
theorem axb_awp {call : aQ} {H0 : aB} {p : Lab} {asks : List (Nat × Bool)} {fuel : Nat} {c : ACode} : ∀ {os : List Bool} {s : ASt} {r : XR} {Q : a4}, axb call H0 p asks fuel c os s = some r → ConsOk r.cons → Q r.e r.s → awp call H0 p c Q s := by
  induction c with
  | skip => intro os s r Q h _ hQ; simp only [axb, Option.some.injEq] at h; subst h; exact hQ
  | region ops draw keep =>
    intro os s r Q h hc hQ
    simp only [axb, Option.bind_eq_some_iff, Option.some.injEq] at h
    obtain ⟨s1, h1, rfl⟩ := h
    exact ⟨_, runRegionQ_ok h1 hc, hQ⟩
  | seq a b iha ihb =>
    intro os s r Q h hc hQ
    simp only [axb, Option.bind_eq_some_iff] at h
    obtain ⟨⟨e1, s1, os1, c1⟩, h1, h2⟩ := h
    cases e1 with
    | normal =>
      simp only [Option.bind_eq_some_iff, Option.some.injEq] at h2
      obtain ⟨q, h2, rfl⟩ := h2
      exact iha h1 hc.left (ihb h2 hc.right hQ)
    | exit id => simp only [Option.some.injEq] at h2; subst h2; exact iha h1 hc hQ
    | ret => simp only [Option.some.injEq] at h2; subst h2; exact iha h1 hc hQ
    | goto l => simp only [Option.some.injEq] at h2; subst h2; exact iha h1 hc hQ
  | cond c t e iht ihe =>
    intro os s r Q h hc hQ
    simp only [axb] at h
    simp only [awp]
    split at h
    · rename_i b hb
      try rw [hb]
      split at h
      · simp only [Option.bind_eq_some_iff, Option.some.injEq] at h
        obtain ⟨q, h2, rfl⟩ := h
        have : b = true := hc (b, true) (by simp)
        subst this
        exact iht h2 (fun p hp => hc p (by simp [hp])) hQ
      · simp only [Option.bind_eq_some_iff, Option.some.injEq] at h
        obtain ⟨q, h2, rfl⟩ := h
        have : b = false := hc (b, false) (by simp)
        subst this
        exact ihe h2 (fun p hp => hc p (by simp [hp])) hQ
      · cases b with
        | true => exact iht h hc hQ
        | false => exact ihe h hc hQ
    · cases h
  | block id b ih =>
    intro os s r Q h hc hQ
    simp only [axb, Option.bind_eq_some_iff] at h
    obtain ⟨⟨e1, s1, os1, c1⟩, h1, h2⟩ := h
    cases e1 with
    | normal => simp only [Option.some.injEq] at h2; subst h2; exact ih h1 hc hQ
    | exit k =>
      simp only at h2
      split at h2
      · rename_i hk; simp only [Option.some.injEq] at h2; subst h2
        exact ih h1 hc (by simp only [eG]; rw [if_pos hk]; exact hQ)
      · rename_i hk; simp only [Option.some.injEq] at h2; subst h2
        exact ih h1 hc (by simp only [eG]; rw [if_neg hk]; exact hQ)
    | ret => simp only [Option.some.injEq] at h2; subst h2; exact ih h1 hc hQ
    | goto l => simp only [Option.some.injEq] at h2; subst h2; exact ih h1 hc hQ
  | loop keep b ih =>
    intro os s r Q h hc hQ
    simp only [axb] at h
    refine ⟨fuel, ?_⟩
    have key : ∀ m os s r, pE (axb call H0 p asks fuel b) keep m os s = some r → ConsOk r.cons → Q r.e r.s → eB (awp call H0 p b) keep Q m s := by
      intro m
      induction m with
      | zero => intro os s r h; simp [pE] at h
      | succ m ihm =>
        intro os s r h hc hQ
        simp only [pE, Option.bind_eq_some_iff] at h
        obtain ⟨⟨e1, s1, os1, c1⟩, h1, h2⟩ := h
        cases e1 with
        | normal =>
          simp only [Option.bind_eq_some_iff, Option.some.injEq] at h2
          obtain ⟨q, h2, rfl⟩ := h2
          exact ih h1 hc.left (ihm _ _ _ h2 hc.right hQ)
        | exit id => simp only [Option.some.injEq] at h2; subst h2; exact ih h1 hc hQ
        | ret => simp only [Option.some.injEq] at h2; subst h2; exact ih h1 hc hQ
        | goto l => simp only [Option.some.injEq] at h2; subst h2; exact ih h1 hc hQ
    exact key fuel os s r h hc hQ
  | exit id => intro os s r Q h _ hQ; simp only [axb, Option.some.injEq] at h; subst h; exact hQ
  | ret => intro os s r Q h _ hQ; simp only [axb, Option.some.injEq] at h; subst h; exact hQ
  | label l => intro os s r Q h; simp [axb] at h
  | goto l => intro os s r Q h; simp [axb] at h
  | scope l b r => intro os s r Q h; simp [axb] at h
  | bad => intro os s r Q h; simp [axb] at h
  | rangeF g ps x y => intro os s r Q h; simp [axb] at h
/-- what a law's body comes to -/
def o4 (call : aQ) (fuel : Nat) (A : AFun) (xs : List AV) (os : List Bool) (asks : List (Nat × Bool) := []) : Option (AV × List (Bool × Bool)) := (axb call (fun _ => none) [] asks fuel A.body os (bR xs)).bind fun r => match r.e with
  | .normal | .ret => (cZ (upd r.s.ov (fun _ => none)) r.s.regs A.res).bind fun x => some (x, r.cons)
  | _ => none
theorem rH {call : aQ} {fuel : Nat} {A : AFun} {xs : List AV} {os : List Bool} {asks : List (Nat × Bool)} {x : AV} {cons : List (Bool × Bool)} (h : o4 call fuel A xs os asks = some (x, cons)) (hc : ConsOk cons) :
    awp call (fun _ => none) [] A.body (tA (fun _ => none) A.res (fun y u => y = x ∧ u = [])) (bR xs) := by
  unfold o4 at h
  simp only [Option.bind_eq_some_iff] at h
  obtain ⟨r, h1, h2⟩ := h
  have key : (r.e = .normal ∨ r.e = .ret) ∧ cZ (upd r.s.ov (fun _ => none)) r.s.regs A.res = some x ∧ r.cons = cons := by
    split at h2
    · rename_i he
      simp only [Option.bind_eq_some_iff, Option.some.injEq, Prod.mk.injEq] at h2
      obtain ⟨y, h2, rfl, rfl⟩ := h2
      exact ⟨.inl he, h2, rfl⟩
    · rename_i he
      simp only [Option.bind_eq_some_iff, Option.some.injEq, Prod.mk.injEq] at h2
      obtain ⟨y, h2, rfl, rfl⟩ := h2
      exact ⟨.inr he, h2, rfl⟩
    · cases h2
  obtain ⟨he, hx, rfl⟩ := key
  exact axb_awp h1 hc ⟨he, x, [], hx, fun l o h => by simp [upd] at h, rfl, rfl⟩
theorem lookup_ok {P : Program} {l : List (Nat × AFun)} (h : ∀ p ∈ l, FunOk P p.1 p.2) : ∀ f A, l.lookup f = some A → FunOk P f A := by
  induction l with
  | nil => intro f A h; simp at h
  | cons p l ih =>
    intro f A hf
    rw [List.lookup_cons] at hf
    split at hf
    · rename_i e
      cases hf
      have := h p (by simp)
      rw [beq_iff_eq] at e
      subst e
      exact this
    · exact ih (fun q hq => h q (by simp [hq])) f A hf
end Go.Proofs.Ytigjoggpaamodaa
/-! The abstract machine: a law's arguments in its terms. -/
namespace Go.Proofs.Ytigjoggpaamodaa
set_option linter.unusedVariables false
set_option linter.unusedSimpArgs false

def eP (P : Program) (g : TypeId → Bool) : List Field → Nat → Option Nat
  | [], off => some off
  | f :: fs, off => if f.offset = off ∧ g f.type = true then eP P g fs (off + P.cellsOf f.type) else none
/-- types of plain data: numbers, texts, slices and structs of them -/
def b3 (P : Program) : Nat → TypeId → Bool
  | 0, _ => false
  | n + 1, t => match P.underlying t with
    | some .bool | some (.int _) | some .string => P.cellsOf t == 1
    | some (.slice e) => P.cellsOf t == 1 && decide (0 < P.cellsOf e) && b3 P n e
    | some (.struct fs) => eP P (b3 P n) fs.toList 0 == some (P.cellsOf t)
    | _ => false
def eM (P : Program) (g : TypeId → List AV → Prop) : List Field → List AV → Prop
  | [], xs => xs = []
  | f :: fs, xs => ∃ a b, xs = a ++ b ∧ a.length = P.cellsOf f.type ∧ g f.type a ∧ eM P g fs b
/-- what a datum of a type is, cell by cell -/
def aS (P : Program) : Nat → TypeId → List AV → Prop
  | 0, _, _ => False
  | n + 1, t, xs => match P.underlying t with
    | some .bool => ∃ b, xs = [.bool b]
    | some (.int k) => ∃ i, xs = [.int k i] ∧ k.min ≤ i ∧ i ≤ k.max
    | some .string => ∃ s, xs = [.str s] ∧ s.size ≤ maxLen
    | some (.slice e) => ∃ rows, xs = [.isl (P.cellsOf e) rows] ∧ rows.length ≤ maxLen ∧ ∀ r ∈ rows, aS P n e r
    | some (.struct fs) => eM P (aS P n) fs.toList xs
    | _ => False
def dU (w : World) : Imm := fun b => w.heap[b]?
section
variable {P : Program} {H : Type} {enc : TypeId × Value → H} {w : World} {ρ : aH}
theorem gY : ∀ {n : Nat} {t : TypeId} {xs : List AV}, b3 P n t = true → aS P n t xs → xs.length = P.cellsOf t ∧ ∀ x ∈ xs, x.one = true
  | 0, _, _, h, _ => by simp [b3] at h
  | n + 1, t, xs, h, hs => by
    simp only [b3] at h
    simp only [aS] at hs
    cases hu : P.underlying t with
    | none => simp [hu] at h
    | some d =>
      cases d <;> simp only [hu] at h hs <;> try (cases h; done)
      · obtain ⟨b, rfl⟩ := hs; simp at h; simp [h, AV.one]
      · obtain ⟨b, rfl, _⟩ := hs; simp at h; simp [h, AV.one]
      · obtain ⟨b, rfl, _⟩ := hs; simp at h; simp [h, AV.one]
      · simp only [Bool.and_eq_true, beq_iff_eq] at h
        obtain ⟨rows, rfl, _⟩ := hs
        simp [h.1.1, AV.one]
      · rename_i fs
        simp only [beq_iff_eq] at h
        have key : ∀ (fs : List Field) (off tot : Nat) (xs : List AV), eP P (b3 P n) fs off = some tot → eM P (aS P n) fs xs → off + xs.length = tot ∧ ∀ x ∈ xs, x.one = true := by
          intro fs
          induction fs with
          | nil => intro off tot xs h hs; simp only [eP, Option.some.injEq] at h; simp only [eM] at hs; subst hs; simp [h]
          | cons f fs ih =>
            intro off tot xs h hs
            simp only [eP] at h
            split at h
            · rename_i hc
              obtain ⟨a, b, rfl, hl, ha, hb⟩ := hs
              obtain ⟨h1, h2⟩ := ih _ _ _ h hb
              obtain ⟨_, h3⟩ := gY hc.2 ha
              refine ⟨by simp; omega, fun x hx => ?_⟩
              rcases List.mem_append.1 hx with hx | hx
              · exact h3 x hx
              · exact h2 x hx
            · cases h
        obtain ⟨h1, h2⟩ := key _ _ _ _ h hs
        exact ⟨by omega, h2⟩
theorem j7 {α β : Type} {f : α → Option β} : ∀ {l : List α} {ys : List β}, l.mapM f = some ys → ys.length = l.length ∧ ∀ (i : Nat) a, l[i]? = some a → ∃ y, ys[i]? = some y ∧ f a = some y
  | [], ys, h => by simp at h; subst h; exact ⟨rfl, fun i a h => by simp at h⟩
  | x :: l, ys, h => by
    rw [List.mapM_cons] at h
    simp only [Option.bind_eq_bind, Option.bind_eq_some_iff, Option.pure_def, Option.some.injEq] at h
    obtain ⟨y, hy, zs, hzs, rfl⟩ := h
    obtain ⟨h1, h2⟩ := j7 hzs
    refine ⟨by simp [h1], fun i a ha => ?_⟩
    cases i with
    | zero => simp at ha; subst ha; exact ⟨y, rfl, hy⟩
    | succ i => exact h2 i a (by simpa using ha)
theorem cells_some {base n : Nat} {a : Addr} {us : List Value} (h : w.cells? base a n = some us) : us.length = n ∧ ∀ k, k < n → us[k]? = w.cell? (a.add k) := by
  unfold World.cells? at h
  split at h
  · obtain ⟨h1, h2⟩ := j7 h
    simp only [List.length_range] at h1
    refine ⟨h1, fun k hk => ?_⟩
    obtain ⟨y, hy, hc⟩ := h2 k k (by rw [List.getElem?_range hk])
    rw [hy, hc]
  · cases h
theorem kind_wf {k : IntKind} {n : Int} (h : (Lit.int k n).wf = true) : k.min ≤ n ∧ n ≤ k.max := by
  simpa [Lit.wf] using h
/-- what reads as data is of its type's shape -/
theorem iT {base : Nat} {sp : Nat → Bool} {held : Bool} : ∀ (n fuel : Nat) (t : TypeId) (cs : List Value) (x : DataW H × List MemPlace), b3 P n t = true → DataW.trod enc P w base sp held fuel t cs = some x → ∃ xs, RepL ρ (dU w) xs cs ∧ aS P n t xs
  | 0, _, _, _, _, h, _ => by simp [b3] at h
  | n + 1, 0, _, _, _, _, h => by simp [DataW.trod] at h
  | n + 1, fuel + 1, t, cs, x, hp, h => by
    simp only [b3] at hp
    cases hu : P.underlying t with
    | none => simp [hu] at hp
    | some d =>
      cases d <;> simp only [hu] at hp <;> try (cases hp; done)
      · -- bool
        match cs, h with
        | [], h => simp [DataW.trod, hu] at h
        | v :: u :: cs, h => simp [DataW.trod, hu] at h
        | [v], h =>
          cases v <;> simp [DataW.trod, hu] at h
          rename_i b
          exact ⟨[.bool b], .cons (.bool b) .nil, by simp [aS, hu]⟩
      · -- int
        rename_i k
        match cs, h with
        | [], h => simp [DataW.trod, hu] at h
        | v :: u :: cs, h => simp [DataW.trod, hu] at h
        | [v], h =>
          cases v <;> simp [DataW.trod, hu] at h
          rename_i k' i
          obtain ⟨⟨rfl, hw⟩, _⟩ := h
          exact ⟨[.int k' i], .cons (.int k' i) .nil, by simp only [aS, hu]; exact ⟨i, rfl, kind_wf hw⟩⟩
      · -- string
        match cs, h with
        | [], h => simp [DataW.trod, hu] at h
        | v :: u :: cs, h => simp [DataW.trod, hu] at h
        | [v], h =>
          cases v <;> simp [DataW.trod, hu] at h
          rename_i s
          exact ⟨[.str s], .cons (.str s) .nil, by simp only [aS, hu]; exact ⟨s, rfl, h.1⟩⟩
      · -- slice
        rename_i e
        simp only [Bool.and_eq_true, beq_iff_eq, decide_eq_true_eq] at hp
        obtain ⟨⟨_, hpos⟩, hpe⟩ := hp
        match cs, h with
        | [], h => simp [DataW.trod, hu] at h
        | v :: u :: cs, h => simp [DataW.trod, hu] at h
        | [v], h =>
          cases v <;> simp only [DataW.trod, hu] at h <;> try (cases h; done)
          rename_i A len cap
          cases A with
          | none =>
            cases len <;> cases cap <;> simp at h
            exact ⟨[.isl (P.cellsOf e) []], .cons (.isl0 none _ _ (fun _ => rfl)) .nil, by simp [aS, hu]⟩
          | some ad =>
            simp only at h
            split at h
            · rename_i hc
              simp only [Option.bind_eq_some_iff] at h
              obtain ⟨elems, hel, _⟩ := h
              obtain ⟨h1, h2⟩ := j7 hel
              simp only [List.length_range] at h1
              -- each row by itself
              have hrow : ∀ i, i < len → ∃ us xs, us.length = P.cellsOf e ∧ (∀ k, k < P.cellsOf e → us[k]? = w.cell? ((ad.add (i * P.cellsOf e)).add k)) ∧ RepL ρ (dU w) xs us ∧ aS P n e xs := by
                intro i hi
                obtain ⟨y, _, hy⟩ := h2 i i (by rw [List.getElem?_range hi])
                simp only [Option.bind_eq_some_iff] at hy
                obtain ⟨us, hus, hy⟩ := hy
                obtain ⟨g1, g2⟩ := cells_some hus
                obtain ⟨xs, g3, g4⟩ := iT n fuel e us y hpe hy
                exact ⟨us, xs, g1, g2, g3, g4⟩
              rcases Nat.eq_zero_or_pos len with rfl | hlen
              · exact ⟨[.isl (P.cellsOf e) []], .cons (.isl0 _ _ _ (fun h => by cases h)) .nil, by simp only [aS, hu]; exact ⟨[], rfl, Nat.zero_le _, by simp⟩⟩
              · have hch : ∀ i, ∃ xs : List AV, i < len → ∃ us : List Value, us.length = P.cellsOf e ∧ (∀ k, k < P.cellsOf e → us[k]? = w.cell? ((ad.add (i * P.cellsOf e)).add k)) ∧ RepL ρ (dU w) xs us ∧ aS P n e xs := by
                  intro i
                  by_cases hi : i < len
                  · obtain ⟨us, xs, g⟩ := hrow i hi
                    exact ⟨xs, fun _ => ⟨us, g⟩⟩
                  · exact ⟨[], fun h => absurd h hi⟩
                obtain ⟨F, hF⟩ := Classical.axiomOfChoice hch
                -- the block
                obtain ⟨us0, g1, g2, _, _⟩ := hF 0 hlen
                have hc0 : ∃ v, w.cell? ad = some v := by
                  have := g2 0 hpos
                  rw [List.getElem?_eq_getElem (by omega)] at this
                  simp only [Nat.zero_mul, Addr.add, if_true] at this
                  exact ⟨_, this.symm⟩
                obtain ⟨v0, hv0⟩ := hc0
                have hspot : ad.spot = none := by
                  unfold World.cell? at hv0
                  split at hv0
                  · cases hq : ad.spot with
                    | none => rfl
                    | some _ => simp [hq] at hv0
                  · cases hv0
                obtain ⟨b, o', sp'⟩ := ad
                simp only at hspot; subst hspot
                have hblk : ∃ c T fz, w.heap[b]? = some (.cells c T fz) := by
                  unfold World.cell? at hv0
                  split at hv0
                  · rename_i c T fz hb; exact ⟨c, T, fz, hb⟩
                  · cases hv0
                obtain ⟨c, T, fz, hb⟩ := hblk
                refine ⟨[.isl (P.cellsOf e) ((List.range len).map F)], .cons ?_ .nil, ?_⟩
                · have hget : ∀ i j x, aC ((List.range len).map F) i j = some x → i < len ∧ (F i)[j]? = some x := by
                    intro i j x hx
                    simp only [aC, List.getElem?_map] at hx
                    by_cases hi : i < len
                    · rw [List.getElem?_range hi] at hx; exact ⟨hi, by simpa using hx⟩
                    · rw [List.getElem?_eq_none (by simp; omega)] at hx; simp at hx
                  have hcell : ∀ i j x, aC ((List.range len).map F) i j = some x → ∃ v, c[o' + (i * P.cellsOf e + j)]? = some v ∧ RepV ρ (dU w) x v := by
                    intro i j x hx
                    obtain ⟨hi, hj⟩ := hget i j x hx
                    obtain ⟨us, k1, k2, k3, k4⟩ := hF i hi
                    obtain ⟨v, hv, hr⟩ := k3.2 j x hj
                    have hje : j < P.cellsOf e := by
                      have := (List.getElem?_eq_some_iff.1 hv).1
                      omega
                    have := k2 j hje
                    rw [hv, a8, a8, cO hb] at this
                    exact ⟨v, by rw [← Nat.add_assoc]; exact this.symm, hr⟩
                  have := RepV.isl (ρ := ρ) (R := dU w) (P.cellsOf e) ((List.range len).map F) b o' cap c T fz (fun i j => c.getD (o' + (i * P.cellsOf e + j)) undef) (by simpa using hc.2.1) (fun r hr => ?_) hb (fun i j x hx => ?_) (fun i j x hx => ?_)
                  · simpa using this
                  · obtain ⟨i, hi, rfl⟩ := List.mem_map.1 hr
                    obtain ⟨us, k1, k2, k3, k4⟩ := hF i (by simpa using hi)
                    exact gY hpe k4
                  · obtain ⟨v, hv, _⟩ := hcell i j x hx
                    simp [Array.getD_eq_getD_getElem?, hv]
                  · obtain ⟨v, hv, hr⟩ := hcell i j x hx
                    simpa [Array.getD_eq_getD_getElem?, hv] using hr
                · simp only [aS, hu]
                  refine ⟨_, rfl, by simp; omega, fun r hr => ?_⟩
                  obtain ⟨i, hi, rfl⟩ := List.mem_map.1 hr
                  obtain ⟨us, k1, k2, k3, k4⟩ := hF i (by simpa using hi)
                  exact k4
            · cases h
      · -- struct
        rename_i fs
        simp only [beq_iff_eq] at hp
        simp only [DataW.trod, hu] at h
        split at h
        · rename_i hlen
          simp only [Option.map_eq_some_iff] at h
          obtain ⟨ys, hys, _⟩ := h
          have key : ∀ (fs : List Field) (off tot : Nat) (ys : List (DataW H × List MemPlace)), eP P (b3 P n) fs off = some tot → tot ≤ cs.length → (fs.mapM fun f => DataW.trod enc P w base sp held fuel f.type ((cs.drop f.offset).take (P.cellsOf f.type))) = some ys →
              ∃ xs, RepL ρ (dU w) xs ((cs.drop off).take (tot - off)) ∧ eM P (aS P n) fs xs ∧ off ≤ tot := by
            intro fs
            induction fs with
            | nil =>
              intro off tot ys hf ht hm
              simp only [eP, Option.some.injEq] at hf
              subst hf
              exact ⟨[], by simpa using RepL.nil, by simp [eM], Nat.le_refl _⟩
            | cons f fs ih =>
              intro off tot ys hf ht hm
              simp only [eP] at hf
              split at hf
              · rename_i hc
                rw [List.mapM_cons] at hm
                simp only [Option.bind_eq_bind, Option.bind_eq_some_iff, Option.pure_def, Option.some.injEq] at hm
                obtain ⟨y, hy, zs, hzs, _⟩ := hm
                obtain ⟨xs2, h1, h2, h3⟩ := ih _ _ _ hf ht hzs
                rw [hc.1] at hy
                obtain ⟨xs1, h4, h5⟩ := iT n fuel f.type _ y hc.2 hy
                obtain ⟨h6, _⟩ := gY hc.2 h5
                refine ⟨xs1 ++ xs2, ?_, ⟨xs1, xs2, rfl, h6, h5, h2⟩, by omega⟩
                have := h4.append h1
                have e : (cs.drop off).take (P.cellsOf f.type) ++ (cs.drop (off + P.cellsOf f.type)).take (tot - (off + P.cellsOf f.type)) = (cs.drop off).take (tot - off) := by
                  rw [show tot - off = P.cellsOf f.type + (tot - (off + P.cellsOf f.type)) by omega, List.take_add, List.drop_drop]
                rwa [e] at this
              · cases hf
          obtain ⟨xs, h1, h2, _⟩ := key fs.toList 0 _ ys hp (by omega) hys
          refine ⟨xs, ?_, by simp only [aS, hu]; exact h2⟩
          have e : (cs.drop 0).take (P.cellsOf t - 0) = cs := by simp [← hlen]
          rwa [e] at h1
        · cases h
theorem jW (w : World) (_q : Lab) : Rep (fun _ => none) (fun _ => none) (dU w) w := ⟨(fun l o h => by cases h), (fun l l' o o' L L' h => by cases h), (fun l o L h => by cases h), fun b O h => h⟩
/-- whatever a law makes leaves what was there -/
theorem fV {w w' : World} {ρ' : aH} {R' : Imm} {W : Lab → Prop} (h : Fut (fun _ => none) (fun _ => none) (dU w) w W ρ' R' w') : Go.RowKit.Below w.heap.size w w' :=
  ⟨h.os, h.tape, h.output, h.size, fun k hk => h.frame k hk (fun k o K h => (by cases h))⟩
/-- a value of its cells -/
theorem agg_of_cells {xs : List AV} {v : Value} (h : RepL ρ (dU w) xs v.cells.toList) (ha : ∃ cs, v = .agg cs) : RepV ρ (dU w) (.agg xs) v := by
  obtain ⟨cs, rfl⟩ := ha
  have := h.agg
  simpa [Value.cells] using this
end
end Go.Proofs.Ytigjoggpaamodaa
/-! A law's shell: from the abstract machine's run to the given statement. -/
namespace Go.Proofs.Ytigjoggpaamodaa
set_option linter.unusedVariables false
set_option linter.unusedSimpArgs false
open Go.ChangeShapes Go.WideShapes Go.ChangeAt Go.RowKit
theorem Try.laidOut : laidOutB Try.prog = true := by kernel_rfl
theorem Try.mixed : Try.prog.follows .mixedOrders = true := by kernel_rfl
theorem Try.ownKnob : ownKnob Try.prog.godebug = none := by kernel_rfl
section
variable {H : Type} {enc : TypeId × Value → H} {P : Program}
/-- a law's end, where below the heap's old size nothing has turned -/
theorem pX {f : Func} {s : ChangeSpec} {apart fresh handsOn again : Bool} {W W' : World} {args : Array Value} {v : Value} {ds gs : List (DataW H)} {before : List MemPlace}
    (hW : DataW.Whole enc P f.params.toList s.vars apart W args.toList ds gs before)
    (hres : ∀ (b : Nat) (sp : Nat → Bool) (hd : Bool), DataW.TrodAll enc P W' b sp hd f.resultTypes.toList (v.resultList f.resultTypes.size) (s.fn H (ds ++ gs)).results [])
    (hargs : ∀ sp : Nat → Bool, (∀ p ∈ before, sp p.block = true) → DataW.TrodAll enc P W' 0 sp true f.params.toList args.toList (s.fn H (ds ++ gs)).args before)
    (hvars : ∀ sp : Nat → Bool, DataW.TrodVars enc P W' sp s.vars (s.fn H (ds ++ gs)).vars [])
    (hb : Below W.heap.size W W')
    (hok : ∀ (j : Nat) (t : TypeId) (r : Value), f.resultTypes[j]? = some t → (v.resultList f.resultTypes.size)[j]? = some r → Value.okWide P W' .any 0 t r) :
    s.post enc P f apart fresh handsOn again W args v W' := by
  have hlt : ∀ p ∈ before, p.block < W.heap.size := fun p hp => hW.lt p hp
  have hold : ∀ p ∈ before, (fun b => decide (b < W.heap.size)) p.block = true := fun p hp => by simpa using hlt p hp
  refine ⟨ds, gs, before, [], before, [], hW, hres _ _ _, hargs _ hold, hvars _, World.keptBut_mono (fun p hp => ⟨hp, .inr (.inl hp)⟩) (hb.frame (· ∈ before)), fun _ => ?_⟩
  obtain ⟨_, _, _, _, _, hz, hn⟩ := hW
  refine ⟨hok, _, _, ([] ++ before) ++ [], ⟨[] ++ before, [], trodAll_append (hargs _ (fun _ _ => rfl)) (hres _ _ _), hvars _, rfl, ?_, ?_⟩, ?_⟩
  · intro b off hp
    have hin : MemPlace.cell b off ∈ before := by simpa using hp
    rw [hb.frozen (hlt _ hin)]
    exact hz b off hin
  · intro ha
    simpa using hn ha
  · intro p hp _
    simpa using hp
end
/-- an argument's cells in the abstract machine's terms -/
theorem arg_shape {H : Type} {enc : TypeId × Value → H} {W : World} {t : TypeId} {v : Value} {d : DataW H} {ps : List MemPlace} (hp : b3 Try.prog 8 t = true) (h : DataW.Trod enc Try.prog W 0 (fun _ => true) true t v d ps) :
    ∃ xs, RepL (fun _ => none) (dU W) xs v.cells.toList ∧ aS Try.prog 8 t xs := by
  obtain ⟨fuel, h⟩ := h
  exact iT 8 fuel t _ _ hp h
/-- the law's call, out of its run -/
theorem law_calls {call : aQ} (hcall : aY Try.prog call) {f : Nat} {A : AFun} (hA : FunOk Try.prog f A) {xs : List AV} (hlen : xs.length = A.np) {fuel : Nat} {os : List Bool} {asks : List (Nat × Bool)} {cons : List (Bool × Bool)} (h : o4 call fuel A xs os asks = some (.bool true, cons)) (hc : ConsOk cons) {W : World} {vs : List Value} (hvs : RepL (fun _ => none) (dU W) xs vs) :
    Calls Try.prog f vs.toArray W fun e W' => e = .returned (.bool true) ∧ Below W.heap.size W W' := by
  have := h9 Try.mixed hcall hA hlen (rH h hc) hvs W (jW W []) (fun l _ => rfl)
  refine Calls.mono this ?_
  rintro e W' ⟨v, rfl, x, u, ρ', R', ⟨rfl, rfl⟩, hF, hv, _⟩
  exact ⟨by rw [hv.bool_inv], fV hF⟩
end Go.Proofs.Ytigjoggpaamodaa
/-! A law's shell, 2: every argument at once; from a law's run to its contract. -/
namespace Go.Proofs.Ytigjoggpaamodaa
set_option linter.unusedVariables false
set_option linter.unusedSimpArgs false
open Go.ChangeShapes Go.WideShapes Go.ChangeAt Go.RowKit
set_option maxRecDepth 100000
/-- an argument of a type, out of its cells -/
def pY (P : Program) (t : TypeId) (xs : List AV) : AV := match P.underlying t with
  | some (.struct _) => .agg xs
  | _ => xs.headD .nilp
def jZ (P : Program) : List TypeId → List AV → Prop
  | [], ys => ys = []
  | t :: ts, ys => ∃ xs zs, ys = pY P t xs :: zs ∧ aS P 8 t xs ∧ jZ P ts zs
section
variable {H : Type} {enc : TypeId × Value → H} {W W' : World}
theorem one_rep {t : TypeId} {v : Value} {d : DataW H} {ps : List MemPlace} {b : Nat} (hp : b3 Try.prog 8 t = true) (hv : Value.okWide Try.prog W .any b t v) (h : DataW.Trod enc Try.prog W 0 (fun _ => true) true t v d ps) :
    ∃ xs, RepV (fun _ => none) (dU W) (pY Try.prog t xs) v ∧ aS Try.prog 8 t xs := by
  obtain ⟨xs, h1, h2⟩ := arg_shape hp h
  refine ⟨xs, ?_, h2⟩
  have hlen := (gY hp h2).1
  unfold b3 at hp
  cases hu : Try.prog.underlying t with
  | none => simp [hu] at hp
  | some u =>
    simp only [hu] at hp
    have one : ∀ {v : Value}, v.cells.toList = [v] → Try.prog.cellsOf t = 1 → RepL (fun _ => none) (dU W) xs v.cells.toList → RepV (fun _ => none) (dU W) (xs.headD .nilp) v := by
      intro v hc h3 h1
      rw [hc] at h1
      rw [h3] at hlen
      match xs, hlen with
      | [x], _ =>
        obtain ⟨w, hw, hr⟩ := h1.2 0 x rfl
        simp at hw
        subst hw
        exact hr
    cases u <;> simp only at hp <;> try (cases hp; done)
    all_goals simp only [pY, hu]
    · obtain ⟨b, rfl⟩ := okWide_bool hu hv
      exact one rfl (by simpa using hp) h1
    · obtain ⟨b, rfl⟩ := okWide_int hu hv
      exact one rfl (by simpa using hp) h1
    · obtain ⟨b, rfl⟩ := okWide_string hu hv
      exact one rfl (by simpa using hp) h1
    · obtain ⟨a, l, c, rfl⟩ := okWide_slice hu hv
      simp only [Bool.and_eq_true, beq_iff_eq] at hp
      exact one rfl hp.1.1 h1
    · obtain ⟨cs, rfl, _⟩ := okWide_struct hu hv
      exact agg_of_cells h1 ⟨_, rfl⟩
theorem mU {b : Nat} : ∀ {ts : List TypeId} {vs : List Value} {ds : List (DataW H)} {ps : List MemPlace}, (∀ t ∈ ts, b3 Try.prog 8 t = true) → (∀ (j : Nat) t v, ts[j]? = some t → vs[j]? = some v → Value.okWide Try.prog W .any b t v) →
    DataW.TrodAll enc Try.prog W 0 (fun _ => true) true ts vs ds ps → ∃ ys, RepL (fun _ => none) (dU W) ys vs ∧ jZ Try.prog ts ys
  | [], vs, ds, ps, _, _, h => by
    obtain ⟨rfl, rfl, rfl⟩ := trodAll_nil h
    exact ⟨[], .nil, rfl⟩
  | t :: ts, vs, ds, ps, hp, hv, h => by
    obtain ⟨v, vs', d, ds', p, q, rfl, rfl, rfl, h1, h2⟩ := trodAll_cons h
    obtain ⟨xs, h3, h4⟩ := one_rep (hp t (by simp)) (hv 0 t v rfl rfl) h1
    obtain ⟨zs, h5, h6⟩ := mU (fun t ht => hp t (by simp [ht])) (fun j t v ht hv' => hv (j + 1) t v (by simpa using ht) (by simpa using hv')) h2
    exact ⟨_, .cons h3 h5, xs, zs, rfl, h4, h6⟩
theorem lU {P : Program} : ∀ {ts : List TypeId} {ys : List AV}, jZ P ts ys → ys.length = ts.length
  | [], ys, h => by cases h; rfl
  | t :: ts, ys, h => by
    obtain ⟨xs, zs, rfl, _, h⟩ := h
    simp [lU h]
theorem gJ : ∀ {ts : List TypeId} {vs : List Value} {ds : List (DataW H)} {ps : List MemPlace}, DataW.TrodAll enc Try.prog W 0 (fun _ => true) true ts vs ds ps → ds.length = ts.length
  | [], vs, ds, ps, h => by
    obtain ⟨rfl, rfl, rfl⟩ := trodAll_nil h
    rfl
  | t :: ts, vs, ds, ps, h => by
    obtain ⟨v, vs', d, ds', p, q, rfl, rfl, rfl, h1, h2⟩ := trodAll_cons h
    simp [gJ h2]
theorem eX {sp : Nat → Bool} : ∀ {ts : List TypeId} {vs : List Value} {ds : List (DataW H)} {ps : List MemPlace}, (∀ t ∈ ts, Try.prog.readableRec t = true ∧ t < Try.prog.types.size) → Below W.heap.size W W' → (∀ p ∈ ps, p.block < W.heap.size) → (∀ p ∈ ps, sp p.block = true) →
    DataW.TrodAll enc Try.prog W 0 (fun _ => true) true ts vs ds ps → DataW.TrodAll enc Try.prog W' 0 sp true ts vs ds ps
  | [], vs, ds, ps, _, _, _, _, h => by
    obtain ⟨rfl, rfl, rfl⟩ := trodAll_nil h
    exact trodAll_mk0
  | t :: ts, vs, ds, ps, ht, hb, hlt, hsp, h => by
    obtain ⟨v, vs', d, ds', p, q, rfl, rfl, rfl, h1, h2⟩ := trodAll_cons h
    exact ⟨p, q, Go.WideElems.Trod_stays Try.laidOut (ht t (by simp)).1 (ht t (by simp)).2 h1 (fun x hx => hb.same (hlt x (by simp [hx]))) (fun x hx => hsp x (by simp [hx])),
      eX (fun t h => ht t (by simp [h])) hb (fun x hx => hlt x (by simp [hx])) (fun x hx => hsp x (by simp [hx])) h2, rfl⟩
/-- a law that answers true, whatever data it is given -/
theorem law_contract {call : aQ} (hcall : aY Try.prog call) {f : Nat} {fn : Func} {A : AFun} {s : ChangeSpec} (hA : FunOk Try.prog f A) (hres : fn.resultTypes = #[4]) (hvars : s.vars = []) (hnp : fn.params.toList.length = A.np)
    (hplain : fn.params.toList.all (fun t => b3 Try.prog 8 t && Try.prog.readableRec t && decide (t < Try.prog.types.size)) = true)
    (hfn : ∀ ds : List (DataW H), ds.length = fn.params.toList.length → s.fn H ds = { results := [.lit (.bool true)], args := ds })
    (hlaw : ∀ ys, jZ Try.prog fn.params.toList ys → awp call (fun _ => none) [] A.body (tA (fun _ => none) A.res (fun y u => y = .bool true ∧ u = [])) (bR ys))
    (W : World) (base : Nat) (args : Array Value) (ds gs : List (DataW H)) (before : List MemPlace)
    (hval : ∀ (j : Nat) t v, fn.params[j]? = some t → args[j]? = some v → Value.okWide Try.prog W .any base t v)
    (hW : DataW.Whole enc Try.prog fn.params.toList s.vars false W args.toList ds gs before) :
    Calls Try.prog f args W fun e W' => ∃ v, e = .returned v ∧ s.post enc Try.prog fn false true false false W args v W' := by
  have hW' := hW
  have hlt : ∀ p ∈ before, p.block < W.heap.size := fun p hp => hW.lt p hp
  obtain ⟨p, q, hA0, hV, rfl, hfz, hnd⟩ := hW
  rw [hvars] at hV
  obtain ⟨rfl, rfl⟩ := trodVars_none hV
  have hpl : ∀ t ∈ fn.params.toList, b3 Try.prog 8 t = true ∧ Try.prog.readableRec t = true ∧ t < Try.prog.types.size := by
    intro t ht
    have := List.all_eq_true.1 hplain t ht
    simp only [Bool.and_eq_true, decide_eq_true_eq] at this
    exact ⟨this.1.1, this.1.2, this.2⟩
  simp only [List.append_nil] at hW' hlt
  obtain ⟨ys, hr, ha⟩ := mU (b := base) (fun t ht => (hpl t ht).1) (fun j t v ht hv => hval j t v (by simpa using ht) (by simpa using hv)) hA0
  have hd := gJ hA0
  have := h9 Try.mixed hcall hA ((lU ha).trans hnp) (hlaw ys ha) hr W (jW W []) (fun l _ => rfl)
  rw [Array.toArray_toList] at this
  refine Calls.mono this ?_
  rintro e W' ⟨v, rfl, x, u, ρ', R', ⟨rfl, rfl⟩, hF, hv, _⟩
  have hv' := hv.bool_inv
  subst hv'
  have hb := fV hF
  refine ⟨_, rfl, pX hW' ?_ ?_ ?_ hb ?_⟩
  · intro b sp hd'
    rw [hres, List.append_nil, hfn ds hd]
    exact trodAll_cons_mk (shut_bool Try.underlying4 _) trodAll_mk0
  · intro sp hsp
    rw [List.append_nil, hfn ds hd]
    exact eX (fun t ht => (hpl t ht).2) hb hlt hsp hA0
  · intro sp
    rw [hvars, List.append_nil, hfn ds hd]
    exact rfl
  · exact ok_one hres rfl (okWide_bool_mk Try.underlying4 _)
end
end Go.Proofs.Ytigjoggpaamodaa
/-! The shape of a number, and of a list of numbers. -/
namespace Go.Proofs.Ytigjoggpaamodaa
set_option linter.unusedVariables false
set_option linter.unusedSimpArgs false
set_option maxRecDepth 100000
def I64 (i : Int) : Prop := -9223372036854775808 ≤ i ∧ i ≤ 9223372036854775807
/-- a list of whole numbers as rows -/
def o7 (l : List Int) : List (List AV) := l.map fun x => [.int .i64 x]
inductive KnowAV : AV → List Int → Prop
  | row (l : List Int) : l.length ≤ maxLen → (∀ x ∈ l, I64 x) → KnowAV (.isl 1 (o7 l)) l
theorem hP {n : Nat} {xs : List AV} (h : aS Try.prog (n + 1) 3 xs) : ∃ i, xs = [.int .i64 i] ∧ I64 i := by
  simp only [aS, Try.underlying3] at h
  obtain ⟨i, rfl, h1, h2⟩ := h
  exact ⟨i, rfl, by simpa [IntKind.min, IntKind.signed, IntKind.bits] using h1, by simpa [IntKind.max, IntKind.signed, IntKind.bits] using h2⟩
theorem nV {n : Nat} : ∀ {rows : List (List AV)}, (∀ r ∈ rows, aS Try.prog (n + 1) 3 r) → ∃ l, rows = o7 l ∧ ∀ x ∈ l, I64 x
  | [], _ => ⟨[], rfl, by simp⟩
  | r :: rows, h => by
    obtain ⟨i, rfl, hi⟩ := hP (h r (by simp))
    obtain ⟨l, rfl, hl⟩ := nV (rows := rows) (fun r hr => h r (by simp [hr]))
    exact ⟨i :: l, rfl, by simpa using ⟨hi, hl⟩⟩
theorem ints_shape {n : Nat} {xs : List AV} (h : aS Try.prog (n + 2) 47 xs) : ∃ k l, xs = [k] ∧ KnowAV k l := by
  simp only [aS, Try.underlying47] at h
  obtain ⟨rows, rfl, h1, h2⟩ := h
  · obtain ⟨l, rfl, hl⟩ := nV (n := n) h2
    have : Try.prog.cellsOf 3 = 1 := by kernel_rfl
    rw [this]
    exact ⟨_, l, rfl, .row l (by simpa [o7] using h1) hl⟩
end Go.Proofs.Ytigjoggpaamodaa
/-! The abstract machine: a region that draws its order, step by step: an invariant over what is done. -/
namespace Go.Proofs.Ytigjoggpaamodaa
set_option linter.unusedVariables false
set_option linter.unusedSimpArgs false
section
variable {P : Program} {H0 : aB} {p : Lab} {n : Nat} {ρ0 : aH} {R0 : Imm} {w0 : World} {ops : Array Oper} {call : aQ}
theorem oG : ∀ (l : List Bool) (j : Nat) (hj : j < l.length), l[j] = false → ((l.set j true).filter (!·)).length + 1 = (l.filter (!·)).length := by
  intro l
  induction l with
  | nil => intro j hj; simp at hj
  | cons b l ihl =>
    intro j hj hb
    cases j with
    | zero => simp at hb; subst hb; simp
    | succ j =>
      have := ihl j (by simpa using hj) (by simpa using hb)
      cases b <;> simp at this ⊢ <;> omega
theorem draw_nd {rr : Option Nat} (hm : P.follows .mixedOrders = true) (hcall : aY P call) {is : List AIns} (hcomp : cN P n ops ops.toList = some is) (hb : fW ops.toList 0 = true)
    (h0 : Rep H0 ρ0 R0 w0) (hf0 : ∀ l, Under p l → ρ0 l = none) (I : (Nat → Bool) → RL → Chg → Prop) {s : ASt}
    (hstep : ∀ D rl ov j o i, I D rl ov → ops[j]? = some o → is[j]? = some i → D j = false → (∀ e ∈ o.after, Region.binds .any e = true → D e.on = true) → ∃ rc, aN call H0 p i ⟨rl, ov, s.c + j⟩ = some rc ∧ I (a7 D j) (aW rl i.dst rc.x) (b9 rc.u ov))
    (hs : I (fun _ => false) s.regs s.ov) {ρ : aH} {R : Imm} {a : Act} {w : World} (hI : Inv n H0 ρ0 R0 w0 p s ρ R a w) {id : Nat} {Q : Exit → Act → World → Prop}
    (hQ : ∀ D rl ov ρ R a w, (∀ j, j < ops.size → D j = true) → I D rl ov → Inv n H0 ρ0 R0 w0 p ⟨rl, ov, s.c + ops.size⟩ ρ R a w → Q .normal a w) : (Code.region id ops true).wpIn (Fw rr) 0 P Q a w := by
  obtain ⟨hlen, hget⟩ := bN hcomp
  simp only [Array.length_toList] at hlen
  have hget' : ∀ (j : Nat) o, ops[j]? = some o → ∃ i, is[j]? = some i ∧ b5 P n ops o = some i := fun j o ho => hget j o (by simpa using ho)
  refine wpIn_region_any hm ?_
  have done : ∀ listed : Array Bool, listed.size = ops.size → Region.ready .any ops listed = [] → ∀ i, i < ops.size → listed.getD i false = true := by
    intro listed hsz hr i
    induction i using Nat.strongRecOn with
    | _ i ih =>
      intro hi
      cases hl : listed.getD i false with
      | true => rfl
      | false =>
        have : i ∈ Region.ready .any ops listed := by
          rw [mem_ready]
          refine ⟨?_, ops[i], Array.getElem?_eq_getElem hi, fun e he hbe => ?_⟩
          · have : i < listed.size := by omega
            simp [this] at hl ⊢
            exact hl
          · have := dM hb i ops[i] e (by simp [hi]) he hbe
            exact ih e.on (by omega) (by omega)
        rw [hr] at this; cases this
  have key : ∀ fuel (listed : Array Bool) rl ov ρ R a w, listed.size = ops.size → I (fun i => listed.getD i false) rl ov → RepS n w0.heap.size (aI rl) (upd ov H0) ρ R a w → Fut H0 ρ0 R0 w0 (Under p) ρ R w →
      (∀ j l, s.c ≤ j → (j < s.c + ops.size → listed.getD (j - s.c) false = false) → Under (j :: p) l → ρ l = none) → (∀ k o, upd ov H0 k = some o → H0 k ≠ none ∨ Under p k) →
      (listed.toList.filter (!·)).length ≤ fuel → wpAnyIn (Fw rr) 0 P .any ops Q fuel listed a w := by
    intro fuel
    have fin : ∀ (listed : Array Bool) rl ov ρ R a w, (∀ i, i < ops.size → listed.getD i false = true) → I (fun i => listed.getD i false) rl ov → RepS n w0.heap.size (aI rl) (upd ov H0) ρ R a w → Fut H0 ρ0 R0 w0 (Under p) ρ R w →
        (∀ j l, s.c ≤ j → (j < s.c + ops.size → listed.getD (j - s.c) false = false) → Under (j :: p) l → ρ l = none) → (∀ k o, upd ov H0 k = some o → H0 k ≠ none ∨ Under p k) → Q .normal a w := by
      intro listed rl ov ρ R a w hall hIv hS hF hfr hlab
      refine hQ _ rl ov ρ R a w hall hIv ⟨hS, hF, fun l hl => ?_, hlab⟩
      obtain ⟨j, hj, hl⟩ := hl
      simp only at hj
      exact hfr j l (by omega) (fun h => by omega) hl
    induction fuel with
    | zero =>
      intro listed rl ov ρ R a w hsz hIv hS hF hfr hlab hcnt
      have hall : ∀ i, i < ops.size → listed.getD i false = true := by
        intro i hi
        have h0 : listed.toList.filter (!·) = [] := List.length_eq_zero_iff.1 (by omega)
        have hi' : i < listed.size := by omega
        have hm : listed[i] ∈ listed.toList := by simp
        have := List.filter_eq_nil_iff.1 h0 _ hm
        simpa [hi'] using this
      refine ⟨?_, fin listed rl ov ρ R a w hall hIv hS hF hfr hlab⟩
      rw [List.eq_nil_iff_forall_not_mem]
      intro i hi
      obtain ⟨h1, o, ho, _⟩ := mem_ready.1 hi
      have hi' : i < ops.size := (Array.getElem?_eq_some_iff.1 ho).1
      have h2 := hall i hi'
      have hi'' : i < listed.size := by omega
      simp [hi''] at h1 h2
      rw [h1] at h2; cases h2
    | succ fuel ih =>
      intro listed rl ov ρ R a w hsz hIv hS hF hfr hlab hcnt
      refine ⟨fun hr => fin listed rl ov ρ R a w (done listed hsz hr) hIv hS hF hfr hlab, fun j hj => ?_⟩
      obtain ⟨h1, o, ho, hpre⟩ := mem_ready.1 hj
      have hjs : j < ops.size := (Array.getElem?_eq_some_iff.1 ho).1
      have hjl : j < listed.size := by omega
      have hj0 : listed.getD j false = false := by simp [hjl] at h1 ⊢; exact h1
      obtain ⟨i, hi, hci⟩ := hget' j o ho
      obtain ⟨rc, he, hI2⟩ := hstep _ rl ov j o i hIv ho hi hj0 (fun e hee hbe => hpre e hee hbe)
      have hadd : (fun i => (listed.setIfInBounds j true).getD i false) = a7 (fun i => listed.getD i false) j := by
        funext i
        simp only [a7]
        by_cases hij : i = j
        · subst hij; simp [hjl]
        · rw [getD_set_ne false (Ne.symm hij)]
          simp [hij]
      have hsz' : (listed.setIfInBounds j true).size = ops.size := by simpa using hsz
      have hlen' : ((listed.setIfInBounds j true).toList.filter (!·)).length ≤ fuel := by
        have h2 := oG listed.toList j (by simpa using hjl) (by simpa [hjl] using hj0)
        have h3 : (listed.setIfInBounds j true).toList = listed.toList.set j true := by simp
        rw [h3]
        omega
      obtain ⟨oxs, hok, hoxs, hog, hd, hdn, hl1, _⟩ := a9 hci
      have hlook : nC ops o (aI rl) ρ R a := fun t ht y hy => hS.regs t y hy
      obtain ⟨hq, hsk, hru⟩ := i4 hcall hci he
      obtain ⟨sk, x, u, q, foot⟩ := rc
      simp only at hq hsk hru hI2
      subst hq
      unfold wpOpIn
      simp only [ho]
      have next : ∀ (ρ' : aH) (R' : Imm) (v : Value) (w' : World), (∀ l, u.has l → upd ov H0 l ≠ none ∨ Under ((s.c + j) :: p) l) →
          Fut (upd ov H0) ρ R w (Under ((s.c + j) :: p)) ρ' R' w' → RepV ρ' R' x v → Rep (upd u (upd ov H0)) ρ' R' w' → wpAnyIn (Fw rr) 0 P .any ops Q fuel (listed.setIfInBounds j true) (a.put o.dst v) w' := by
        intro ρ' R' v w' hlabu hF' hx hRep
        have hreg : aI (aW rl i.dst x) = gD (aI rl) o.dst x := by rw [b8, hd]
        have hheap : upd (b9 u ov) H0 = upd u (upd ov H0) := aX _ _ _
        refine ih _ (aW rl i.dst x) (b9 u ov) ρ' R' _ w' hsz' (by rw [hadd]; exact hI2) ?_ ?_ ?_ ?_ hlen'
        · rw [hreg, hheap]
          refine hS.put hdn hF' (fun l hl => ?_) hx hRep
          rcases hlabu l hl with h2 | h2
          · exact .inl h2
          · exact .inr (hfr (s.c + j) l (by omega) (fun _ => by rw [Nat.add_sub_cancel_left]; exact hj0) h2)
        · refine hF.trans h0 hF' (fun k ob hk => ?_) (fun _ h => h) (fun l hl => aP hl)
          rcases hlab k ob hk with h1 | h1
          · exact .inl h1
          · exact .inr (hf0 k h1)
        · intro k l hk hkd hl
          have e := congrFun hadd (k - s.c)
          have hold : k < s.c + ops.size → listed.getD (k - s.c) false = false := fun hlt => by
            have := hkd hlt
            rw [e] at this
            simp only [a7, Bool.or_eq_false_iff] at this
            exact this.2
          have hne : k ≠ s.c + j := fun e2 => by
            have := hkd (by omega)
            rw [e] at this
            simp only [a7, Bool.or_eq_false_iff, beq_eq_false_iff_ne] at this
            omega
          have h5 := hfr k l hk hold hl
          cases hρ : ρ' l with
          | none => rfl
          | some L =>
            rcases hF'.win l L hρ with h6 | ⟨h6, _⟩
            · rw [h5] at h6; cases h6
            · have := bK hl h6
              omega
        · rw [hheap]
          intro k ob hk
          rcases gX hk with h1 | h1
          · rcases hlabu k h1 with h2 | h2
            · obtain ⟨ob', h3⟩ := Option.ne_none_iff_exists'.1 h2
              exact hlab k ob' h3
            · exact .inr (aP h2)
          · exact hlab k ob h1
      cases sk with
      | true =>
        obtain ⟨rfl, rfl, _, hw⟩ := hsk rfl
        rw [hw ρ R a hlook hS.size]
        simp only [Bool.false_eq_true, if_false]
        refine ⟨fun _ _ => trivial, ?_⟩
        exact next ρ R (.tuple #[]) w (fun l hl => absurd hl (aF l)) (Fut.refl _ _ _ _ _) (.tuple [] #[] rfl (fun i x hx => by simp at hx)) hS.heap
      | false =>
        obtain ⟨hlab2, hrun'⟩ := hru rfl
        obtain ⟨hw, hdoes⟩ := hrun' ρ R a hlook hS.size
        rw [hw]
        simp only [if_true]
        have hsub : ∀ l ob, restr (upd ov H0) foot l = some ob → upd ov H0 l = some ob := by
          intro l ob
          cases foot with
          | none => exact fun h => h
          | some ls => simp only [restr]; split <;> simp
        have hd2 := hdoes.frame jI hsub hlab2
        refine hd2 w hS.heap (fun l h1 => hfr (s.c + j) l (by omega) (fun _ => by rw [Nat.add_sub_cancel_left]; exact hj0) h1) _ _ Q ?_
        rintro v w' ⟨ρ', R', hF', hx, hRep⟩
        refine next ρ' R' v w' (fun l hl => ?_) hF' hx hRep
        rcases hlab2 l hl with h2 | h2
        · obtain ⟨ob', h3⟩ := Option.ne_none_iff_exists'.1 h2
          exact .inl (by rw [hsub l ob' h3]; simp)
        · exact .inr h2
  have hfalse : ∀ i : Nat, (Array.replicate ops.size false).getD i false = false := by
    intro i; simp [Array.getD]
  have hfun : (fun i : Nat => (Array.replicate ops.size false).getD i false) = fun _ => false := funext hfalse
  refine key ops.size (Array.replicate ops.size false) s.regs s.ov ρ R a _ (by simp) (by rw [hfun]; exact hs) ⟨hI.rs.size, hI.rs.defers, hI.rs.regs, ⟨hI.rs.heap.own, hI.rs.heap.sep, hI.rs.heap.dis, hI.rs.heap.imm⟩⟩ ⟨hI.fut.ext, hI.fut.win, hI.fut.new, hI.fut.os, hI.fut.tape, hI.fut.output, hI.fut.size, hI.fut.frame⟩ (fun j l hj _ hl => hI.fresh l ⟨j, hj, hl⟩) hI.lab (by simp)
end
end Go.Proofs.Ytigjoggpaamodaa
/-! The abstract machine, ahead of code whose callees may be taken as they were proved, and whose state may be taken for a weaker one. -/
namespace Go.Proofs.Ytigjoggpaamodaa
set_option linter.unusedVariables false
set_option linter.unusedSimpArgs false

/-- a state that may be taken for another one -/
def Weak (H0 : aB) (p : Lab) (s s' : ASt) : Prop := ∀ {n : Nat} {ρ0 : aH} {R0 : Imm} {w0 : World} {ρ : aH} {R : Imm} {a : Act} {w : World}, Rep H0 ρ0 R0 w0 → (∀ l, Under p l → ρ0 l = none) → Inv n H0 ρ0 R0 w0 p s ρ R a w → ∃ ρ' R', Inv n H0 ρ0 R0 w0 p s' ρ' R' a w
theorem Weak.refl (H0 : aB) (p : Lab) (s : ASt) : Weak H0 p s s := fun _ _ h => ⟨_, _, h⟩
theorem Weak.trans {H0 : aB} {p : Lab} {s s' s'' : ASt} (h : Weak H0 p s s') (k : Weak H0 p s' s'') : Weak H0 p s s'' := fun a b c => by
  obtain ⟨_, _, h1⟩ := h a b c
  exact k a b h1
/-- a map whose entries' order is forgotten -/
theorem weak_bag {H0 : aB} {p : Lab} {r : RL} {ov ov' : Chg} {c : Nat} {l : Lab} {es E : List (AV × AV)} {bs : List Nat} {ck : Nat} (hl : upd ov H0 l = some (.amap es bs ck)) (hp : es.Perm E) (ho : upd ov' H0 = upd [(l, some (.bag E))] (upd ov H0)) : Weak H0 p ⟨r, ov, c⟩ ⟨r, ov', c⟩ := fun h0 hf hI => by
  rename_i n ρ0 R0 w0 ρ R a w
  have hk : ∀ k o, upd [(l, some (.bag E))] (upd ov H0) k = some o → (k = l ∧ o = .bag E) ∨ (k ≠ l ∧ upd ov H0 k = some o) := fun k o h => by
    by_cases e : k = l
    · subst e; simp [upd] at h; exact .inl ⟨rfl, h.symm⟩
    · simp [upd, e] at h; exact .inr ⟨e, h⟩
  have hex : ∀ k o, upd [(l, some (.bag E))] (upd ov H0) k = some o → ∃ o', upd ov H0 k = some o' := fun k o h => by
    rcases hk k o h with ⟨rfl, _⟩ | ⟨_, h⟩
    · exact ⟨_, hl⟩
    · exact ⟨_, h⟩
  have hR := hI.rs.heap
  have hde : Marks w0.heap.size a.defers (upd ov' H0) ρ R w := hI.rs.defers.sub (fun k o h => by
    rw [ho] at h
    obtain ⟨o1, h1⟩ := hex k o h
    simp only; rw [h1]; simp)
  refine ⟨ρ, R, ⟨hI.rs.size, hde, hI.rs.regs, ?_⟩, hI.fut, hI.fresh, fun k o h => ?_⟩
  · simp only
    rw [ho]
    refine ⟨fun k o h => ?_, fun k k' o o' L L' h h' => ?_, fun k o L h hL => ?_, hR.imm⟩
    · rcases hk k o h with ⟨rfl, rfl⟩ | ⟨_, h⟩
      · obtain ⟨L, O, h1, h2, h3⟩ := hR.own _ _ hl
        refine ⟨L, O, h1, h2, ?_⟩
        cases O <;> simp only [RepO] at h3 ⊢
        obtain ⟨g1, g2, g3, _, g4⟩ := h3
        exact ⟨es, hp, g1, g2, g3, g4⟩
      · exact hR.own k o h
    · obtain ⟨o1, h1⟩ := hex k o h
      obtain ⟨o2, h2⟩ := hex k' o' h'
      exact hR.sep k k' o1 o2 L L' h1 h2
    · obtain ⟨o1, h1⟩ := hex k o h
      exact hR.dis k o1 L h1 hL
  · rw [ho] at h
    obtain ⟨o1, h1⟩ := hex k o h
    exact hI.lab k o1 h1
/-- operations whose outcome is left open: what each outcome is to lead to -/
def dop (k : AK) (xs : List AV) (H : aB) (K : AV → Chg → Prop) : Prop := match k, xs with
  | .bin .eql .slice, [.isl _ rows, .nils] => ∀ b : Bool, (rows ≠ [] → b = false) → K (.bool b) []
  | .mnext, [.ptr r 1 0 0] => ∃ l since seen st es bs ck, H r = some (.iter (some l) since seen st) ∧ H l = some (.amap es bs ck) ∧ (bs.all (fun b => decide (b < since)) = true ∧ since ≤ st) ∧
      (m6 es bs seen = [] → K (.tuple [.bool false]) []) ∧ ∀ e b, (e, b) ∈ m6 es bs seen → K (.tuple [.bool true, e.1, e.2]) [(r, some (.iter (some l) since (seen ++ [b]) ck))]
  | _, _ => False
theorem jN {k : AK} {xs : List AV} {H : aB} {K K' : AV → Chg → Prop} (hK : ∀ x u, K x u → K' x u) (h : dop k xs H K) : dop k xs H K' := by
  unfold dop at h ⊢
  split at h
  · intro b hb; exact hK _ _ (h b hb)
  · obtain ⟨l, since, seen, st, es, bs, ck, h1, h2, h3, h4, h5⟩ := h
    exact ⟨l, since, seen, st, es, bs, ck, h1, h2, h3, fun e => hK _ _ (h4 e), fun e b hb => hK _ _ (h5 e b hb)⟩
  · exact h.elim
section
open Go.ChangeMaps (setBlock)
variable {P : Program} {o : Oper} {a : Act} {ρ : aH} {R : Imm} {H : aB}
theorem compK_bin {op : BinOp} {c : Cls} {ops : List Operand} (h : fE P o = some (.bin op c, ops)) : ∃ T p q T' d, o.op = .binOp op T p q T' ∧ P.underlying T = some d ∧ qF d = c ∧ ops = [p, q] := by
  unfold fE at h
  split at h
  all_goals repeat' (first | (cases h; done) | (simp only [Option.bind_eq_some_iff] at h) | (refine Exists.elim h ?_; clear h; intro _ h) | (refine And.elim ?_ h; clear h; intro _ h) | (unfold oZ at h) | (unfold r6 at h) | (unfold r3 at h) | (unfold eqK at h) | split at h)
  all_goals (cases h; exact ⟨_, _, _, _, _, by assumption, by assumption, rfl, rfl⟩)
theorem compK_next {ops : List Operand} (h : fE P o = some (.mnext, ops)) : ∃ p, o.op = .next p false ∧ ops = [p] := by
  unfold fE at h
  split at h
  all_goals repeat' (first | (cases h; done) | (simp only [Option.bind_eq_some_iff] at h) | (refine Exists.elim h ?_; clear h; intro _ h) | (refine And.elim ?_ h; clear h; intro _ h) | (unfold oZ at h) | (unfold r6 at h) | (unfold r3 at h) | (unfold eqK at h) | split at h)
  all_goals (cases h; exact ⟨_, by assumption, rfl⟩)
theorem dop_sound {k : AK} {ops : List Operand} {xs : List AV} {K : AV → Chg → Prop} {w : World} (hk : fE P o = some (k, ops)) (hx : RepL ρ R xs (ops.map a.eval)) (h : dop k xs H K) (hR : Rep H ρ R w) :
    opC P o a w (fun v w' => ∃ x u ρ' R', K x u ∧ (∀ l, u.has l → H l ≠ none) ∧ Fut H ρ R w (fun _ => False) ρ' R' w' ∧ RepV ρ' R' x v ∧ Rep (upd u H) ρ' R' w') := by
  unfold dop at h
  split at h
  · -- a slice against none
    rename_i e rows
    obtain ⟨T, p, q, T', d, ho, hd, hcl, rfl⟩ := compK_bin hk
    obtain ⟨E, hE⟩ : ∃ E, P.underlying T = some (.slice E) := by
      cases d <;> simp [qF] at hcl
      exact ⟨_, hd⟩
    obtain ⟨u, us, he, hu, hus⟩ := hx.head
    obtain ⟨v, vs, he2, hv, _⟩ := hus.head
    simp only [List.map_cons, List.map_nil, List.cons.injEq] at he
    obtain ⟨rfl, rfl⟩ := he
    simp only [List.cons.injEq] at he2
    obtain ⟨rfl, _⟩ := he2
    have key : ∀ ad n cap, a.eval p = .slice ad n cap → (rows ≠ [] → ad.isNone = false) → opC P o a w (fun v w' => ∃ x u ρ' R', K x u ∧ (∀ l, u.has l → H l ≠ none) ∧ Fut H ρ R w (fun _ => False) ρ' R' w' ∧ RepV ρ' R' x v ∧ Rep (upd u H) ρ' R' w') := by
      intro ad n cap hp hb
      have hq : a.eval q = .slice none 0 0 := by
        generalize a.eval q = z at hv
        cases hv
        rfl
      have hg : (eqGuard .eql T p q (.slice ad n cap) (.slice none 0 0)).run P w = .ok () w := by simp [eqGuard]
      have h1 : (binOp .eql T (.slice ad n cap) (.slice none 0 0)).run P w = .ok (.bool (ad.isNone && true)) w := by
        show (do pure (Value.bool (← Op.equal T (.slice ad n cap) (.slice none 0 0))) : Sem Value).run P w = _
        have := qC hE ad none n cap 0 0 w (.inr rfl)
        simp only [Option.isNone_none] at this
        simp [this]
      refine aU (v := .bool ad.isNone) (by simp [execOp, ho, hp, hq, hg, h1]) ⟨.bool ad.isNone, [], ρ, R, h _ hb, fun l hl => absurd hl (aF l), Fut.refl _ _ _ _ _, .bool _, hR⟩
    rcases hu.isl_inv with ⟨b, o', cap, c, T2, fz, g, hl, hw, hb, hc, hr, hp⟩ | ⟨rfl, ad, cap, hn, hp⟩
    · exact key _ _ _ hp (fun _ => rfl)
    · exact key _ _ _ hp (fun h => absurd rfl h)
  · rename_i r'
    obtain ⟨p, ho, rfl⟩ := compK_next hk
    obtain ⟨l, since, seen, st, es, bs, ck, hr, hl, hc, h0, h1⟩ := h
    obtain ⟨u, us, he, hu, _⟩ := hx.head
    simp only [List.map_cons, List.map_nil, List.cons.injEq] at he
    obtain ⟨rfl, _⟩ := he
    obtain ⟨L', hL', hg⟩ := hu.ptr_inv
    obtain ⟨L, O, h1', h2, h3⟩ := hR.own l _ hl
    obtain ⟨L2, O2, k1, k2, k3⟩ := hR.own r' _ hr
    have h3' := h3
    cases O <;> simp only [RepO] at h3'
    rename_i ents clock
    cases O2 <;> simp only [RepO] at k3
    rename_i m' since' seen' st'
    obtain ⟨g1, g2, g3, g5, g4⟩ := h3'
    obtain ⟨j0, rfl, j2, rfl, j4⟩ := k3
    rcases j4 with ⟨j4, _⟩ | ⟨l', M, j4, j5, rfl⟩
    · cases j4
    cases j4
    rw [h1'] at j5; cases j5
    have eL : L2 = L' := by rw [k1] at hL'; exact Option.some.inj hL'
    subst eL
    rw [j0] at hg
    obtain ⟨g6, rfl⟩ := g5
    have hborn : ∀ m ∈ ents.toList, m.born < since' := by
      intro m hm
      have : m.born ∈ bs := by rw [← g6]; exact List.mem_map_of_mem hm
      simpa using List.all_eq_true.1 hc.1 _ this
    rcases run_next_at (P := P) w o.type L2.blk L.blk since' st' seen' ents clock k2 h2 hborn hc.2 with ⟨hz, hrun⟩ | ⟨m, hm, w1, hw1, hrun⟩
    · refine aU (v := .tuple #[.bool false]) (by simp [execOp, ho, hg, hrun]) ⟨_, [], ρ, R, h0 (pZ j2 g1 g6 hz), fun l hl => absurd hl (aF l), Fut.refl _ _ _ _ _, (RepL.cons (.bool false) .nil).tuple, hR⟩
    · obtain ⟨i, e', hmi, hei, hin⟩ := o0 j2 g1 g6 hm
      have ho' : RepO ρ R L2 (.iter (some l) since' (seen ++ [m.born]) clock) (.mapIter (some L.blk) since' (seen'.push m.born) clock) := ⟨j0, rfl, by simp [j2], rfl, .inr ⟨l, L, rfl, h1', rfl⟩⟩
      have hv : RepV ρ R (.tuple [.bool true, e'.1, e'.2]) (.tuple #[.bool true, m.key, m.val]) := (RepL.cons (.bool true) (.cons (g4 i e' m hei hmi).1 (.cons (g4 i e' m hei hmi).2 .nil))).tuple
      obtain ⟨hF, hR'⟩ := k6 (W := fun _ => False) hR hr k1 k2 ho'
      have hex : (execOp a.eval o).run P w = .ok (.value (.tuple #[.bool true, m.key, m.val])) (setBlock w1 L2.blk (.mapIter (some L.blk) since' (seen'.push m.born) clock)) := by
        simp [execOp, ho, hg, hrun]
      have hlab : ∀ k, Chg.has [(r', some (AO.iter (some l) since' (seen ++ [m.born]) clock))] k → H k ≠ none := fun k hk => by rw [bC hk, hr]; simp
      rcases hw1 with rfl | rfl
      · exact aU hex ⟨_, _, ρ, R, h1 _ _ hin, hlab, hF, hv, hR'⟩
      · exact aU hex ⟨_, _, ρ, R, h1 _ _ hin, hlab, hF.heap rfl rfl rfl rfl, hv, hR'.heap rfl⟩
  · exact h.elim
end
/-- what a call may yield, proved: of its outcomes one -/
def SoundE (P : Program) (f : Nat) (xs : List AV) (H : aB) (q : Lab) (Φ : AV → Chg → Prop) : Prop := fG P f ∧ ∀ (ρ : aH) (R : Imm) vs, RepL ρ R xs vs → ∀ w, Rep H ρ R w → (∀ l, Under q l → ρ l = none) →
  dL P f vs.toArray w (fun v w' => ∃ x u ρ' R', Φ x u ∧ (∀ l, u.has l → H l ≠ none ∨ Under q l) ∧ Fut H ρ R w (Under q) ρ' R' w' ∧ RepV ρ' R' x v ∧ Rep (upd u H) ρ' R' w')
section
variable {P : Program} {o : Oper} {a : Act} {ρ : aH} {R : Imm} {H : aB} {q : Lab}
theorem mR {ops : List Operand} (h : fE P o = some (.call, ops)) : ∃ c g, o.op = .call c ∧ c.callee = .value g ∧ ops = g :: c.args.toList := by
  unfold fE at h
  split at h
  all_goals repeat' (first | (cases h; done) | (simp only [Option.bind_eq_some_iff] at h) | (refine Exists.elim h ?_; clear h; intro _ h) | (refine And.elim ?_ h; clear h; intro _ h) | (unfold oZ at h) | (unfold r6 at h) | (unfold r3 at h) | (unfold eqK at h) | split at h)
  all_goals (cases h; exact ⟨_, _, by assumption, by assumption, rfl⟩)
theorem call_E {c : Call} {g : Operand} {f : Nat} {first captured args : List AV} {Φ : AV → Chg → Prop} {w : World} (ho : o.op = .call c) (hc : c.callee = .value g) (hx : RepL ρ R (.fn (.func f) first captured :: args) (a.eval g :: (c.args.map a.eval).toList)) (h : SoundE P f (first ++ args ++ captured) H q Φ) (hR : Rep H ρ R w) (hfr : ∀ l, Under q l → ρ l = none) :
    opC P o a w (fun v w' => ∃ x u ρ' R', Φ x u ∧ (∀ l, u.has l → H l ≠ none ∨ Under q l) ∧ Fut H ρ R w (Under q) ρ' R' w' ∧ RepV ρ' R' x v ∧ Rep (upd u H) ρ' R' w') := by
  obtain ⟨v, us, he, hv, hus⟩ := hx.head
  simp only [List.cons.injEq] at he
  obtain ⟨rfl, rfl⟩ := he
  obtain ⟨⟨fn, hf, hb, hn⟩, h3⟩ := h
  generalize hg : a.eval g = gv at hv
  cases hv with | fn _ _ _ F C hF hC hf1 hf2 => ?_
  have hrF : RepL ρ R first F.toList := ⟨by simpa using hF, fun k x hk => by
    have hk' : k < F.size := by have := (List.getElem?_eq_some_iff.1 hk).1; omega
    have := hf1 k x hk
    exact ⟨F[k], by simp [hk'], by simpa [Array.getD, hk'] using this⟩⟩
  have hrC : RepL ρ R captured C.toList := ⟨by simpa using hC, fun k x hk => by
    have hk' : k < C.size := by have := (List.getElem?_eq_some_iff.1 hk).1; omega
    have := hf2 k x hk
    exact ⟨C[k], by simp [hk'], by simpa [Array.getD, hk'] using this⟩⟩
  have hall := (hrF.append hus).append hrC
  have hd := h3 ρ R _ hall w hR hfr
  have e : (F.toList ++ (c.args.map a.eval).toList ++ C.toList).toArray = F ++ c.args.map a.eval ++ C := by
    apply Array.ext'; simp
  rw [e] at hd
  intro r next Q hnext
  refine ⟨fun _ _ => trivial, ?_⟩
  rw [Oper.semAt_eq _ _ _ (fun c' hc' => by rw [ho] at hc'; cases hc')]
  have hrun : (execOp a.eval o).run P w = .ok (.enter f (F ++ c.args.map a.eval ++ C)) w := by
    have hn' : ¬ fn.name = "runtime.NumGoroutine" := by simpa using hn
    have hb' : ¬ fn.body = none := by intro e; rw [e] at hb; cases hb
    simp [execOp, ho, resolve, hc, hg, Deferred.ofValue, invoke, callFunc, hf, hn', hb']
  rw [hrun]
  simp only [Oper.uponIn]
  refine ⟨fun h => by simp [Fence.wide] at h, callsIn_w.2 (Calls.mono hd ?_)⟩
  rintro e w' ⟨v, rfl, hK⟩
  exact hnext v w' hK
/-- a round of a loop over a function, asked for by calling yield -/
def yieldC (P : Program) (l : Nat) (args : Array Value) (w : World) (K : Value → World → Prop) : Prop := ∃ fn tmps assign body, (Instr.yield l args).run P w = .ok (.round l fn tmps assign body) w ∧ RoundIn (Fw none) 0 P l fn tmps assign body w (fun e w' => ∃ v, e = .returned v ∧ K v w')
/-- what a call of yield may yield, proved: of its outcomes one -/
def SoundY (P : Program) (y : Lab) (xs : List AV) (H : aB) (q : Lab) (Φ : AV → Chg → Prop) : Prop := ∀ (ρ : aH) (R : Imm) vs L, RepL ρ R xs vs → ρ y = some L → ∀ w, Rep H ρ R w → (∀ l, Under q l → ρ l = none) →
  yieldC P L.blk vs.toArray w (fun v w' => ∃ x u ρ' R', Φ x u ∧ (∀ l, u.has l → H l ≠ none ∨ Under q l) ∧ Fut H ρ R w (Under q) ρ' R' w' ∧ RepV ρ' R' x v ∧ Rep (upd u H) ρ' R' w')
theorem call_Y {c : Call} {g : Operand} {y : Lab} {args : List AV} {Φ : AV → Chg → Prop} {w : World} (ho : o.op = .call c) (hc : c.callee = .value g) (hx : RepL ρ R (.yield y :: args) (a.eval g :: (c.args.map a.eval).toList)) (h : SoundY P y args H q Φ) (hR : Rep H ρ R w) (hfr : ∀ l, Under q l → ρ l = none) :
    opC P o a w (fun v w' => ∃ x u ρ' R', Φ x u ∧ (∀ l, u.has l → H l ≠ none ∨ Under q l) ∧ Fut H ρ R w (Under q) ρ' R' w' ∧ RepV ρ' R' x v ∧ Rep (upd u H) ρ' R' w') := by
  obtain ⟨v, us, he, hv, hus⟩ := hx.head
  simp only [List.cons.injEq] at he
  obtain ⟨rfl, rfl⟩ := he
  generalize hg : a.eval g = gv at hv
  cases hv with | yield _ L hL => ?_
  obtain ⟨fn, tmps, assign, body, hy, hr⟩ := h ρ R _ L hus hL w hR hfr
  have e : (c.args.map a.eval).toList.toArray = c.args.map a.eval := by apply Array.ext'; simp
  rw [e] at hy
  intro r next Q hnext
  refine ⟨fun _ _ => trivial, ?_⟩
  rw [Oper.semAt_eq _ _ _ (fun c' hc' => by rw [ho] at hc'; cases hc')]
  have hrun : (execOp a.eval o).run P w = .ok (.round L.blk fn tmps assign body) w := by
    simp [execOp, ho, resolve, hc, hg, Deferred.ofValue, invoke, hy]
  rw [hrun]
  simp only [Oper.uponIn]
  refine ⟨fun h => by simp [Fence.wide] at h, RoundIn.mono hr ?_⟩
  rintro e w' ⟨v, rfl, hK⟩
  exact hnext v w' hK
end
section
variable (P : Program) (H0 : aB) (p : Lab)
def qW (i : AIns) (s : ASt) (K : ASt → Prop) : Prop := (∃ call, aY P call ∧ ∃ rc, aN call H0 p i s = some rc ∧ K (aO i s rc)) ∨
  (i.guard = none ∧ ∃ xs, bJ s.regs i.xs = some xs ∧ dop i.k xs (upd s.ov H0) fun x u => K (aO i s ⟨false, x, u, s.c :: p, none⟩)) ∨
  (i.guard = none ∧ i.k = .call ∧ ∃ f first captured args, bJ s.regs i.xs = some (.fn (.func f) first captured :: args) ∧ ∃ Φ, SoundE P f (first ++ args ++ captured) (upd s.ov H0) (s.c :: p) Φ ∧ ∀ x u, Φ x u → K (aO i s ⟨false, x, u, s.c :: p, none⟩)) ∨
  (i.guard = none ∧ i.k = .call ∧ ∃ y args, bJ s.regs i.xs = some (.yield y :: args) ∧ ∃ Φ, SoundY P y args (upd s.ov H0) (s.c :: p) Φ ∧ ∀ x u, Φ x u → K (aO i s ⟨false, x, u, s.c :: p, none⟩))
/-- operations one behind the other -/
def i5 : List AIns → ASt → (ASt → Prop) → Prop
  | [], s, K => K s
  | i :: is, s, K => qW P H0 p i s fun s' => i5 is s' K
end
section
variable {P : Program} {H0 : aB} {p : Lab} {n : Nat} {ρ0 : aH} {R0 : Imm} {w0 : World} {ops : Array Oper}
theorem j8 {i : AIns} {s : ASt} {K K' : ASt → Prop} (hK : ∀ s, K s → K' s) (h : qW P H0 p i s K) : qW P H0 p i s K' := by
  rcases h with ⟨call, hc, rc, h1, h2⟩ | ⟨hg, xs, h1, h2⟩ | ⟨hg, hk, f, first, captured, args, h1, Φ, h2, h3⟩ | ⟨hg, hk, y, args, h1, Φ, h2, h3⟩
  · exact .inl ⟨call, hc, rc, h1, hK _ h2⟩
  · exact .inr (.inl ⟨hg, xs, h1, jN (fun x u => hK _) h2⟩)
  · exact .inr (.inr (.inl ⟨hg, hk, f, first, captured, args, h1, Φ, h2, fun x u hx => hK _ (h3 x u hx)⟩))
  · exact .inr (.inr (.inr ⟨hg, hk, y, args, h1, Φ, h2, fun x u hx => hK _ (h3 x u hx)⟩))
theorem fD : ∀ {is : List AIns} {s : ASt} {K K' : ASt → Prop}, (∀ s, K s → K' s) → i5 P H0 p is s K → i5 P H0 p is s K'
  | [], _, _, _, hK, h => hK _ h
  | _ :: _, _, _, _, hK, h => j8 (fun _ hs => fD hK hs) h
theorem gseq_run {call : aQ} (hc : aY P call) : ∀ {is : List AIns} {s s' : ASt} {K : ASt → Prop}, eA call H0 p is s = some s' → K s' → i5 P H0 p is s K
  | [], s, s', K, h, hk => by simp only [eA, Option.some.injEq] at h; subst h; exact hk
  | i :: is, s, s', K, h, hk => by
    simp only [eA, Option.bind_eq_some_iff] at h
    obtain ⟨rc, h1, h2⟩ := h
    exact .inl ⟨call, hc, rc, h1, gseq_run hc h2 hk⟩
theorem n9 {rr : Option Nat} {B k : Nat} {o : Oper} {i : AIns} {s : ASt} {K : ASt → Prop} {K' : Act → World → Prop} {Q : Exit → Act → World → Prop} {ρ : aH} {R : Imm} {a : Act} {w : World} (ho : ops[k]? = some o) (hc : b5 P n ops o = some i) (hs : qW P H0 p i s K)
    (hS : RepS n B (aI s.regs) (upd s.ov H0) ρ R a w) (hfr : ∀ l, Under (s.c :: p) l → ρ l = none)
    (next : ∀ (x : AV) (u : Chg) (ρ' : aH) (R' : Imm) (v : Value) (w' : World) (W : Lab → Prop) (foot : Option (List Lab)) (sk : Bool), (∀ l, W l → Under (s.c :: p) l) → (∀ l, u.has l → upd s.ov H0 l ≠ none ∨ Under (s.c :: p) l) → K (aO i s ⟨sk, x, u, s.c :: p, foot⟩) →
          Fut (upd s.ov H0) ρ R w W ρ' R' w' → RepV ρ' R' x v → Rep (upd u (upd s.ov H0)) ρ' R' w' → K' (a.put o.dst v) w') : wpOpIn (Fw rr) 0 P ops Q k K' a w := by
  obtain ⟨oxs, hok, hoxs, hog, hd, hdn, hl1, _⟩ := a9 hc
  have hlook : nC ops o (aI s.regs) ρ R a := fun t ht y hy => hS.regs t y hy
  unfold wpOpIn
  simp only [ho]
  rcases hs with ⟨call, hcall, rc, h4, hg'⟩ | ⟨hgn, xs, hxs, hdop⟩ | ⟨hgn, hkc, f, first, captured, args, hxs, Φ, hE, hK⟩ | ⟨hgn, hkc, y, args, hxs, Φ, hE, hK⟩
  · obtain ⟨hq, hsk, hru⟩ := i4 hcall hc h4
    obtain ⟨sk, x, u, q, foot⟩ := rc
    simp only at hq hsk hru
    subst hq
    cases sk with
    | true =>
      obtain ⟨rfl, rfl, _, hw⟩ := hsk rfl
      rw [hw ρ R a hlook hS.size]
      simp only [Bool.false_eq_true, if_false]
      refine ⟨fun _ _ => trivial, ?_⟩
      refine next (.tuple []) [] ρ R (.tuple #[]) w (fun _ => False) foot true (fun l hl => hl.elim) (fun l hl => absurd hl (aF l)) hg' (Fut.refl _ _ _ _ _) (.tuple [] #[] rfl (fun i x hx => by simp at hx)) hS.heap
    | false =>
      obtain ⟨hlab, hrun'⟩ := hru rfl
      obtain ⟨hw, hdoes⟩ := hrun' ρ R a hlook hS.size
      rw [hw]
      simp only [if_true]
      have hsub : ∀ l ob, restr (upd s.ov H0) foot l = some ob → upd s.ov H0 l = some ob := by
        intro l ob
        cases foot with
        | none => exact fun h => h
        | some ls => simp only [restr]; split <;> simp
      have hd2 := hdoes.frame jI hsub hlab
      refine hd2 w hS.heap hfr _ _ Q ?_
      rintro v w' ⟨ρ', R', hF', hx, hRep⟩
      refine next x u ρ' R' v w' _ foot false (fun l hl => hl) (fun l hl => ?_) hg' hF' hx hRep
      rcases hlab l hl with h2 | h2
      · obtain ⟨ob', h3⟩ := Option.ne_none_iff_exists'.1 h2
        exact .inl (by rw [hsub l ob' h3]; simp)
      · exact .inr h2
  · rw [eJ hog hgn]
    simp only [if_true]
    have hxr := eH (ρ := ρ) (R := R) (a := a) hoxs hxs (fun x hx t ht z hz => hlook t (hl1 x hx t ht) z hz)
    refine dop_sound hok hxr hdop hS.heap _ _ Q ?_
    rintro v w' ⟨x, u, ρ', R', hg', hlab, hF', hx, hRep⟩
    exact next x u ρ' R' v w' _ none false (fun l hl => hl.elim) (fun l hl => .inl (hlab l hl)) hg' hF' hx hRep
  · rw [eJ hog hgn]
    simp only [if_true]
    have hxr := eH (ρ := ρ) (R := R) (a := a) hoxs hxs (fun x hx t ht z hz => hlook t (hl1 x hx t ht) z hz)
    rw [hkc] at hok
    obtain ⟨c, g, ho', hc', rfl⟩ := mR hok
    refine call_E ho' hc' (by simpa using hxr) hE hS.heap hfr _ _ Q ?_
    rintro v w' ⟨x, u, ρ', R', hΦ, hlab, hF', hx, hRep⟩
    exact next x u ρ' R' v w' _ none false (fun l hl => hl) hlab (hK x u hΦ) hF' hx hRep
  · rw [eJ hog hgn]
    simp only [if_true]
    have hxr := eH (ρ := ρ) (R := R) (a := a) hoxs hxs (fun x hx t ht z hz => hlook t (hl1 x hx t ht) z hz)
    rw [hkc] at hok
    obtain ⟨c, g, ho', hc', rfl⟩ := mR hok
    refine call_Y ho' hc' (by simpa using hxr) hE hS.heap hfr _ _ Q ?_
    rintro v w' ⟨x, u, ρ', R', hΦ, hlab, hF', hx, hRep⟩
    exact next x u ρ' R' v w' _ none false (fun l hl => hl) hlab (hK x u hΦ) hF' hx hRep
theorem gseq_sound {rr : Option Nat} {is : List AIns} (hcomp : cN P n ops ops.toList = some is) (h0 : Rep H0 ρ0 R0 w0) (hf0 : ∀ l, Under p l → ρ0 l = none) {s : ASt} {K : ASt → Prop} (hs : i5 P H0 p is s K) {ρ : aH} {R : Imm} {a : Act} {w : World}
    (hI : Inv n H0 ρ0 R0 w0 p s ρ R a w) {id : Nat} {Q : Exit → Act → World → Prop} (hQ : ∀ s' ρ R a w, K s' → Inv n H0 ρ0 R0 w0 p s' ρ R a w → Q .normal a w) : (Code.region id ops false).wpIn (Fw rr) 0 P Q a w := by
  obtain ⟨hlen, hget⟩ := bN hcomp
  simp only [Array.length_toList] at hlen
  have hget' : ∀ (j : Nat) o, ops[j]? = some o → ∃ i, is[j]? = some i ∧ b5 P n ops o = some i := fun j o ho => hget j o (by simpa using ho)
  refine wpIn_region ?_
  have key : ∀ m k, k + m = ops.size → ∀ s ρ R a w, i5 P H0 p (is.drop k) s K → Inv n H0 ρ0 R0 w0 p s ρ R a w → wpOpsIn (Fw rr) 0 P ops Q (List.range' k m) a w := by
    intro m
    induction m with
    | zero =>
      intro k hk s ρ R a w hs hI
      simp only [List.range'_zero, wpOpsIn]
      rw [List.drop_eq_nil_of_le (by omega)] at hs
      exact hQ s ρ R a w hs hI
    | succ m ih =>
      intro k hk s ρ R a w hs hI
      rw [List.range'_succ, wpOpsIn_cons]
      obtain ⟨o, ho⟩ : ∃ o, ops[k]? = some o := ⟨_, Array.getElem?_eq_getElem (by omega)⟩
      obtain ⟨i, hi, hc⟩ := hget' k o ho
      have hdrop : is.drop k = i :: is.drop (k + 1) := by
        have hlt : k < is.length := by omega
        rw [List.drop_eq_getElem_cons hlt]
        rw [List.getElem?_eq_getElem hlt] at hi
        simp only [Option.some.injEq] at hi
        rw [hi]
      rw [hdrop] at hs
      obtain ⟨oxs, hok, hoxs, hog, hd, hdn, hl1, _⟩ := a9 hc
      -- what follows an operation that was carried out
      have next : ∀ (x : AV) (u : Chg) (ρ' : aH) (R' : Imm) (v : Value) (w' : World) (W : Lab → Prop) (foot : Option (List Lab)) (sk : Bool), (∀ l, W l → Under (s.c :: p) l) → (∀ l, u.has l → upd s.ov H0 l ≠ none ∨ Under (s.c :: p) l) → i5 P H0 p (is.drop (k + 1)) (aO i s ⟨sk, x, u, s.c :: p, foot⟩) K →
          Fut (upd s.ov H0) ρ R w W ρ' R' w' → RepV ρ' R' x v → Rep (upd u (upd s.ov H0)) ρ' R' w' → wpOpsIn (Fw rr) 0 P ops Q (List.range' (k + 1) m) (a.put o.dst v) w' := by
        intro x u ρ' R' v w' W foot sk hW hlab hg' hF' hx hRep
        have hreg : aI (aO i s ⟨sk, x, u, s.c :: p, foot⟩).regs = gD (aI s.regs) o.dst x := by rw [aO, b8, hd]
        have hheap : upd (aO i s ⟨sk, x, u, s.c :: p, foot⟩).ov H0 = upd u (upd s.ov H0) := by rw [aO, aX]
        refine ih (k + 1) (by omega) _ ρ' R' _ w' hg' ⟨?_, ?_, ?_, ?_⟩
        · rw [hreg, hheap]
          refine hI.rs.put hdn hF' (fun l hl => ?_) hx hRep
          rcases hlab l hl with h2 | h2
          · exact .inl h2
          · exact .inr (hI.fresh l ⟨s.c, Nat.le_refl _, h2⟩)
        · refine hI.fut.trans h0 hF' (fun j ob hj => ?_) (fun _ h => h) (fun l hl => aP (hW l hl))
          rcases hI.lab j ob hj with h1 | h1
          · exact .inl h1
          · exact .inr (hf0 j h1)
        · intro l hl
          obtain ⟨j, hj, hl⟩ := hl
          simp only [aO] at hj
          have hfr := hI.fresh l ⟨j, by omega, hl⟩
          cases hρ : ρ' l with
          | none => rfl
          | some L =>
            rcases hF'.win l L hρ with h6 | ⟨h6, _⟩
            · rw [hfr] at h6; cases h6
            · have := bK hl (hW l h6)
              try simp only at this
              omega
        · rw [hheap]
          intro j ob hj
          rcases gX hj with h1 | h1
          · rcases hlab j h1 with h2 | h2
            · obtain ⟨ob', h3⟩ := Option.ne_none_iff_exists'.1 h2
              exact hI.lab j ob' h3
            · exact .inr (aP h2)
          · exact hI.lab j ob h1
      exact n9 ho hc hs hI.rs (fun l hl => hI.fresh l ⟨s.c, Nat.le_refl _, hl⟩) next
  have := key ops.size 0 (by omega) s ρ R a w (by simpa using hs) hI
  rwa [← List.range_eq_range'] at this
/-- a region in whatever order, of whichever outcomes -/
theorem draw_gen {rr : Option Nat} (hm : P.follows .mixedOrders = true) {is : List AIns} (hcomp : cN P n ops ops.toList = some is) (hb : fW ops.toList 0 = true)
    (h0 : Rep H0 ρ0 R0 w0) (hf0 : ∀ l, Under p l → ρ0 l = none) (I : (Nat → Bool) → RL → Chg → Prop) {s : ASt}
    (hstep : ∀ D rl ov j o i, I D rl ov → ops[j]? = some o → is[j]? = some i → D j = false → (∀ e ∈ o.after, Region.binds .any e = true → D e.on = true) → ∃ rl0, aI rl0 = aI rl ∧ qW P H0 p i ⟨rl0, ov, s.c + j⟩ (fun s' => I (a7 D j) s'.regs s'.ov))
    (hs : I (fun _ => false) s.regs s.ov) {ρ : aH} {R : Imm} {a : Act} {w : World} (hI : Inv n H0 ρ0 R0 w0 p s ρ R a w) {id : Nat} {Q : Exit → Act → World → Prop}
    (hQ : ∀ D rl ov ρ R a w, (∀ j, j < ops.size → D j = true) → I D rl ov → Inv n H0 ρ0 R0 w0 p ⟨rl, ov, s.c + ops.size⟩ ρ R a w → Q .normal a w) : (Code.region id ops true).wpIn (Fw rr) 0 P Q a w := by
  obtain ⟨hlen, hget⟩ := bN hcomp
  simp only [Array.length_toList] at hlen
  have hget' : ∀ (j : Nat) o, ops[j]? = some o → ∃ i, is[j]? = some i ∧ b5 P n ops o = some i := fun j o ho => hget j o (by simpa using ho)
  refine wpIn_region_any hm ?_
  have done : ∀ listed : Array Bool, listed.size = ops.size → Region.ready .any ops listed = [] → ∀ i, i < ops.size → listed.getD i false = true := by
    intro listed hsz hr i
    induction i using Nat.strongRecOn with
    | _ i ih =>
      intro hi
      cases hl : listed.getD i false with
      | true => rfl
      | false =>
        have : i ∈ Region.ready .any ops listed := by
          rw [mem_ready]
          refine ⟨?_, ops[i], Array.getElem?_eq_getElem hi, fun e he hbe => ?_⟩
          · have : i < listed.size := by omega
            simp [this] at hl ⊢
            exact hl
          · have := dM hb i ops[i] e (by simp [hi]) he hbe
            exact ih e.on (by omega) (by omega)
        rw [hr] at this; cases this
  have key : ∀ fuel (listed : Array Bool) rl ov ρ R a w, listed.size = ops.size → I (fun i => listed.getD i false) rl ov → RepS n w0.heap.size (aI rl) (upd ov H0) ρ R a w → Fut H0 ρ0 R0 w0 (Under p) ρ R w →
      (∀ j l, s.c ≤ j → (j < s.c + ops.size → listed.getD (j - s.c) false = false) → Under (j :: p) l → ρ l = none) → (∀ k o, upd ov H0 k = some o → H0 k ≠ none ∨ Under p k) →
      (listed.toList.filter (!·)).length ≤ fuel → wpAnyIn (Fw rr) 0 P .any ops Q fuel listed a w := by
    intro fuel
    have fin : ∀ (listed : Array Bool) rl ov ρ R a w, (∀ i, i < ops.size → listed.getD i false = true) → I (fun i => listed.getD i false) rl ov → RepS n w0.heap.size (aI rl) (upd ov H0) ρ R a w → Fut H0 ρ0 R0 w0 (Under p) ρ R w →
        (∀ j l, s.c ≤ j → (j < s.c + ops.size → listed.getD (j - s.c) false = false) → Under (j :: p) l → ρ l = none) → (∀ k o, upd ov H0 k = some o → H0 k ≠ none ∨ Under p k) → Q .normal a w := by
      intro listed rl ov ρ R a w hall hIv hS hF hfr hlab
      refine hQ _ rl ov ρ R a w hall hIv ⟨hS, hF, fun l hl => ?_, hlab⟩
      obtain ⟨j, hj, hl⟩ := hl
      simp only at hj
      exact hfr j l (by omega) (fun h => by omega) hl
    induction fuel with
    | zero =>
      intro listed rl ov ρ R a w hsz hIv hS hF hfr hlab hcnt
      have hall : ∀ i, i < ops.size → listed.getD i false = true := by
        intro i hi
        have h0 : listed.toList.filter (!·) = [] := List.length_eq_zero_iff.1 (by omega)
        have hi' : i < listed.size := by omega
        have hm : listed[i] ∈ listed.toList := by simp
        have := List.filter_eq_nil_iff.1 h0 _ hm
        simpa [hi'] using this
      refine ⟨?_, fin listed rl ov ρ R a w hall hIv hS hF hfr hlab⟩
      rw [List.eq_nil_iff_forall_not_mem]
      intro i hi
      obtain ⟨h1, o, ho, _⟩ := mem_ready.1 hi
      have hi' : i < ops.size := (Array.getElem?_eq_some_iff.1 ho).1
      have h2 := hall i hi'
      have hi'' : i < listed.size := by omega
      simp [hi''] at h1 h2
      rw [h1] at h2; cases h2
    | succ fuel ih =>
      intro listed rl ov ρ R a w hsz hIv hS hF hfr hlab hcnt
      refine ⟨fun hr => fin listed rl ov ρ R a w (done listed hsz hr) hIv hS hF hfr hlab, fun j hj => ?_⟩
      obtain ⟨h1, o, ho, hpre⟩ := mem_ready.1 hj
      have hjs : j < ops.size := (Array.getElem?_eq_some_iff.1 ho).1
      have hjl : j < listed.size := by omega
      have hj0 : listed.getD j false = false := by simp [hjl] at h1 ⊢; exact h1
      obtain ⟨i, hi, hci⟩ := hget' j o ho
      obtain ⟨rl0, hrl, he⟩ := hstep _ rl ov j o i hIv ho hi hj0 (fun e hee hbe => hpre e hee hbe)
      have hadd : (fun i => (listed.setIfInBounds j true).getD i false) = a7 (fun i => listed.getD i false) j := by
        funext i
        simp only [a7]
        by_cases hij : i = j
        · subst hij; simp [hjl]
        · rw [getD_set_ne false (Ne.symm hij)]
          simp [hij]
      have hsz' : (listed.setIfInBounds j true).size = ops.size := by simpa using hsz
      have hlen' : ((listed.setIfInBounds j true).toList.filter (!·)).length ≤ fuel := by
        have h2 := oG listed.toList j (by simpa using hjl) (by simpa [hjl] using hj0)
        have h3 : (listed.setIfInBounds j true).toList = listed.toList.set j true := by simp
        rw [h3]
        omega
      obtain ⟨oxs, hok, hoxs, hog, hd, hdn, hl1, _⟩ := a9 hci
      refine n9 (s := ⟨rl0, ov, s.c + j⟩) ho hci he (by simpa only [hrl] using hS) (fun l h1 => hfr (s.c + j) l (by omega) (fun _ => by rw [Nat.add_sub_cancel_left]; exact hj0) h1) ?_
      · intro x u ρ' R' v w' W foot sk hW hlabu hI2 hF' hx hRep
        have hreg : aI (aW rl0 i.dst x) = gD (aI rl) o.dst x := by rw [b8, hd, hrl]
        have hheap : upd (b9 u ov) H0 = upd u (upd ov H0) := aX _ _ _
        refine ih _ (aW rl0 i.dst x) (b9 u ov) ρ' R' _ w' hsz' (by rw [hadd]; exact hI2) ?_ ?_ ?_ ?_ hlen'
        · rw [hreg, hheap]
          refine hS.put hdn hF' (fun l hl => ?_) hx hRep
          rcases hlabu l hl with h2 | h2
          · exact .inl h2
          · exact .inr (hfr (s.c + j) l (by omega) (fun _ => by rw [Nat.add_sub_cancel_left]; exact hj0) h2)
        · refine hF.trans h0 hF' (fun k ob hk => ?_) (fun _ h => h) (fun l hl => aP (hW l hl))
          rcases hlab k ob hk with h1 | h1
          · exact .inl h1
          · exact .inr (hf0 k h1)
        · intro k l hk hkd hl
          have e := congrFun hadd (k - s.c)
          have hold : k < s.c + ops.size → listed.getD (k - s.c) false = false := fun hlt => by
            have := hkd hlt
            rw [e] at this
            simp only [a7, Bool.or_eq_false_iff] at this
            exact this.2
          have hne : k ≠ s.c + j := fun e2 => by
            have := hkd (by omega)
            rw [e] at this
            simp only [a7, Bool.or_eq_false_iff, beq_eq_false_iff_ne] at this
            omega
          have h5 := hfr k l hk hold hl
          cases hρ : ρ' l with
          | none => rfl
          | some L =>
            rcases hF'.win l L hρ with h6 | ⟨h6, _⟩
            · rw [h5] at h6; cases h6
            · have := bK hl (hW l h6)
              try simp only at this
              omega
        · rw [hheap]
          intro k ob hk
          rcases gX hk with h1 | h1
          · rcases hlabu k h1 with h2 | h2
            · obtain ⟨ob', h3⟩ := Option.ne_none_iff_exists'.1 h2
              exact hlab k ob' h3
            · exact .inr (aP h2)
          · exact hlab k ob h1
  have hfalse : ∀ i : Nat, (Array.replicate ops.size false).getD i false = false := by
    intro i; simp [Array.getD]
  have hfun : (fun i : Nat => (Array.replicate ops.size false).getD i false) = fun _ => false := funext hfalse
  refine key ops.size (Array.replicate ops.size false) s.regs s.ov ρ R a _ (by simp) (by rw [hfun]; exact hs) ⟨hI.rs.size, hI.rs.defers, hI.rs.regs, ⟨hI.rs.heap.own, hI.rs.heap.sep, hI.rs.heap.dis, hI.rs.heap.imm⟩⟩ ⟨hI.fut.ext, hI.fut.win, hI.fut.new, hI.fut.os, hI.fut.tape, hI.fut.output, hI.fut.size, hI.fut.frame⟩ (fun j l hj _ hl => hI.fresh l ⟨j, hj, hl⟩) hI.lab (by simp)
end
section
variable {P : Program} {H0 : aB} {p : Lab} {n : Nat} {ρ0 : aH} {R0 : Imm} {w0 : World} {ops : Array Oper}
theorem mW {t : Nat} : ∀ {xs : List Operand} {ys : List AArg}, fX xs = some ys → AArg.t t ∈ ys → Operand.tmp t ∈ xs
  | [], ys, h, hm => by simp only [fX, Option.some.injEq] at h; subst h; cases hm
  | x :: xs, ys, h, hm => by
    simp only [fX, Option.bind_eq_some_iff, Option.some.injEq] at h
    obtain ⟨y, hy, zs, hzs, rfl⟩ := h
    rcases List.mem_cons.1 hm with e | hm
    · subst e
      cases x <;> simp [mX] at hy
      subst hy; simp
    · exact List.mem_cons_of_mem _ (mW hzs hm)
theorem jM {r r' : RL} : ∀ {xs : List AArg}, (∀ t, AArg.t t ∈ xs → aI r t = aI r' t) → bJ r xs = bJ r' xs
  | [], _ => rfl
  | x :: xs, h => by
    have h1 : c3 r x = c3 r' x := by
      cases x with
      | t n => exact h n (by simp)
      | c v => rfl
    simp only [bJ, h1, jM (xs := xs) (fun t ht => h t (List.mem_cons_of_mem _ ht))]
theorem evalIns_congr {call : aQ} {i : AIns} {rl rl' : RL} {ov : Chg} {c : Nat} (hx : ∀ t, AArg.t t ∈ i.xs → aI rl t = aI rl' t) (hg : ∀ g want, i.guard = some (g, want) → aI rl g = aI rl' g) : aN call H0 p i ⟨rl, ov, c⟩ = aN call H0 p i ⟨rl', ov, c⟩ := by
  have h1 : cV call H0 p i ⟨rl, ov, c⟩ = cV call H0 p i ⟨rl', ov, c⟩ := by simp only [cV, jM hx]
  unfold aN
  rw [h1]
  cases hgd : i.guard with
  | none => rfl
  | some q => obtain ⟨g, want⟩ := q; simp only [hg g want hgd]
theorem sV {i : AIns} {s : ASt} {K : ASt → Prop} (h : qW P H0 p i s K) : qW P H0 p i s (fun s' => s'.c = s.c + 1 ∧ K s') := by
  rcases h with ⟨call, hc, rc, h1, h2⟩ | ⟨hg, xs, h1, h2⟩ | ⟨hg, hk, f, first, captured, args, h1, Φ, h2, h3⟩ | ⟨hg, hk, y, args, h1, Φ, h2, h3⟩
  · exact .inl ⟨call, hc, rc, h1, rfl, h2⟩
  · exact .inr (.inl ⟨hg, xs, h1, jN (fun x u h => ⟨rfl, h⟩) h2⟩)
  · exact .inr (.inr (.inl ⟨hg, hk, f, first, captured, args, h1, Φ, h2, fun x u hx => ⟨rfl, h3 x u hx⟩⟩))
  · exact .inr (.inr (.inr ⟨hg, hk, y, args, h1, Φ, h2, fun x u hx => ⟨rfl, h3 x u hx⟩⟩))
/-- a region whose first operations change nothing, the others one behind the other behind them -/
theorem draw_pre {rr : Option Nat} (hm : P.follows .mixedOrders = true) {call : aQ} (hcall : aY P call) {is : List AIns} (hcomp : cN P n ops ops.toList = some is) (hb : fW ops.toList 0 = true) (hap : eI ops (b4 ops.toList []) ops.toList 0 = true)
    (h0 : Rep H0 ρ0 R0 w0) (hf0 : ∀ l, Under p l → ρ0 l = none) {k : Nat} (hk : k ≤ ops.size) {S : Nat → ASt} {rc : Nat → Rc} (hS : ∀ (j : Nat) i, j < k → is[j]? = some i → aN call H0 p i (S j) = some (rc j) ∧ (rc j).u = [] ∧ S (j + 1) = aO i (S j) (rc j))
    (hlate : ∀ j, k ≤ j → j < ops.size → ∀ i, i < j → ((b4 ops.toList []).getD j 0).testBit i = true) {K : ASt → Prop} (hg : i5 P H0 p (is.drop k) (S k) K) {ρ : aH} {R : Imm} {a : Act} {w : World} (hI : Inv n H0 ρ0 R0 w0 p (S 0) ρ R a w) {id : Nat} {Q : Exit → Act → World → Prop}
    (hQ : ∀ s' ρ R a w, K s' → Inv n H0 ρ0 R0 w0 p s' ρ R a w → Q .normal a w) : (Code.region id ops true).wpIn (Fw rr) 0 P Q a w := by
  obtain ⟨hlen, hget⟩ := bN hcomp
  simp only [Array.length_toList] at hlen
  have hget' : ∀ (j : Nat) o, ops[j]? = some o → ∃ i, is[j]? = some i ∧ b5 P n ops o = some i := fun j o ho => hget j o (by simpa using ho)
  have hlt : ∀ (j : Nat) (o : Oper), ops[j]? = some o → j < ops.size := fun j o ho => (Array.getElem?_eq_some_iff.1 ho).1
  have hanc_lt : ∀ {i j : Nat}, Anc ops i j → i < j := by
    intro i j ha
    induction ha with
    | step ho he hbe => have := dM hb _ _ _ (by simpa using ho) he hbe; omega
    | trans _ _ h1 h2 => omega
  have hapart : ∀ i j oi oj, i ≠ j → ops[i]? = some oi → ops[j]? = some oj → ¬ Anc ops i j → ¬ Anc ops j i → oi.apart ops oj = true := by
    intro i j oi oj hne hoi hoj h1 h2
    refine e8 (k := 0) hap i j oi oj (by simpa using hoi) hoj (by omega) ?_
    simp only [bM, Nat.zero_add, Bool.or_eq_false_iff]
    constructor
    · cases hx : ((b4 ops.toList []).getD j 0).testBit i with
      | false => rfl
      | true => exact absurd (cT hx) h1
    · cases hx : ((b4 ops.toList []).getD i 0).testBit j with
      | false => rfl
      | true => exact absurd (cT hx) h2
  have hst : ∀ j, j ≤ k → stR ops rc (fun _ => true) (aI (S 0).regs) j = aI (S j).regs ∧ (S j).ov = (S 0).ov ∧ (S j).c = (S 0).c + j := by
    intro j
    induction j with
    | zero => intro _; exact ⟨rfl, rfl, rfl⟩
    | succ j ih =>
      intro hj
      obtain ⟨h1, h2, h3⟩ := ih (by omega)
      obtain ⟨o, ho⟩ : ∃ o, ops[j]? = some o := ⟨_, Array.getElem?_eq_getElem (by omega)⟩
      obtain ⟨i, hi, hc⟩ := hget' j o ho
      obtain ⟨h4, h5, h6⟩ := hS j i (by omega) hi
      obtain ⟨_, _, _, _, hd, _⟩ := a9 hc
      refine ⟨?_, ?_, ?_⟩
      · simp only [stR, if_true, h1, ho, Option.bind_some]
        rw [h6, aO, b8, hd]
      · rw [h6, aO, h5]; exact h2
      · rw [h6, aO]; simp only; omega
  let I : (Nat → Bool) → RL → Chg → Prop := fun D rl ov => (∀ i j, D j = true → Anc ops i j → D i = true) ∧
    (((∀ j, k ≤ j → D j = false) ∧ ov = (S 0).ov ∧ aI rl = stR ops rc D (aI (S 0).regs) ops.size) ∨ ∃ m, k < m ∧ m ≤ ops.size ∧ (∀ j, D j = decide (j < m)) ∧ i5 P H0 p (is.drop m) ⟨rl, ov, (S 0).c + m⟩ K)
  have hdrop : ∀ {j i}, is[j]? = some i → is.drop j = i :: is.drop (j + 1) := by
    intro j i hi
    obtain ⟨hl, e⟩ := List.getElem?_eq_some_iff.1 hi
    rw [List.drop_eq_getElem_cons hl, e]
  have hfull : ∀ D : Nat → Bool, (∀ j, D j = decide (j < k)) → stR ops rc D (aI (S 0).regs) ops.size = aI (S k).regs := by
    intro D hD
    have := (hst k (Nat.le_refl _)).1
    rw [← this]
    have key : ∀ j, stR ops rc D (aI (S 0).regs) j = stR ops rc (fun _ => true) (aI (S 0).regs) (min j k) := by
      intro j
      induction j with
      | zero => simp [stR]
      | succ j ih =>
        simp only [stR, hD, ih]
        by_cases hjk : j < k
        · rw [show min (j + 1) k = j + 1 by omega, show min j k = j by omega]; simp [hjk, stR]
        · rw [show min (j + 1) k = min j k by omega]; simp [hjk]
    rw [key, show min ops.size k = k by omega]
  refine draw_gen (s := S 0) hm hcomp hb h0 hf0 I ?_ ⟨fun i j h => (by cases h), .inl ⟨fun _ _ => rfl, rfl, ?_⟩⟩ hI ?_
  · rintro D rl ov j o i ⟨hcl, hI'⟩ ho hi hj hpre
    have hjs := hlt j o ho
    have hanc : ∀ i, Anc ops i j → D i = true := by
      intro i hi
      generalize hk : j = k at hi
      induction hi with
      | step ho' he hb => subst hk; rw [ho] at ho'; cases ho'; exact hpre _ he hb
      | trans h1 h2 _ ih2 => exact hcl _ _ (ih2 hk) h1
    have hcl' : ∀ i k, a7 D j k = true → Anc ops i k → a7 D j i = true := by
      intro i k hk ha
      simp only [a7, Bool.or_eq_true, beq_iff_eq] at hk ⊢
      rcases hk with rfl | hk
      · exact .inr (hanc i ha)
      · exact .inr (hcl i k hk ha)
    have hbefore : k ≤ j → ∀ i, i < j → D i = true := fun hkj i hij => hanc i (cT (hlate j hkj hjs i hij))
    obtain ⟨i', hi', hc⟩ := hget' j o ho
    rw [hi] at hi'; cases hi'
    obtain ⟨oxs, hok, hoxs, hog, hd, hdn, hl1, hl2⟩ := a9 hc
    rcases hI' with ⟨hD, rfl, hrl⟩ | ⟨m, hm1, hm2, hD, hgs⟩
    · by_cases hjk : j < k
      · obtain ⟨h4, h5, h6⟩ := hS j i hjk hi
        obtain ⟨e1, e2, e3⟩ := hst j (by omega)
        have hlook : ∀ t ∈ o.looksAt ops, stR ops rc D (aI (S 0).regs) ops.size t = stR ops rc (fun _ => true) (aI (S 0).regs) j t := by
          intro t ht
          have hw : ∀ i (oi : Oper), i ≠ j → ops[i]? = some oi → oi.dst = some t → Anc ops i j ∨ Anc ops j i := by
            intro i oi hij hoi hdt
            by_cases h1 : Anc ops i j
            · exact .inl h1
            by_cases h2 : Anc ops j i
            · exact .inr h2
            exact absurd ht ((Oper.apart_spec (hapart i j oi o hij hoi ho h1 h2)).1 t hdt)
          have := jT (rc := rc) (r0 := aI (S 0).regs) (D := D) (j := j) (t := t) (ops := ops) ?_ ?_ ops.size
          · rwa [show min ops.size j = j by omega] at this
          · intro i oi hi hoi hdt
            rcases hw i oi (by omega) hoi hdt with h1 | h1
            · exact hanc i h1
            · have := hanc_lt h1; omega
          · intro i oi hi hoi hdt
            by_cases hij : i = j
            · rw [hij]; exact hj
            rcases hw i oi hij hoi hdt with h1 | h1
            · have := hanc_lt h1; omega
            · cases hDi : D i with
              | false => rfl
              | true => rw [hcl j i hDi h1] at hj; cases hj
        have hev : aN call H0 p i ⟨rl, (S 0).ov, (S 0).c + j⟩ = some (rc j) := by
          rw [← h4]
          have e4 : S j = ⟨(S j).regs, (S 0).ov, (S 0).c + j⟩ := by rw [← e2, ← e3]
          rw [e4]
          refine evalIns_congr (fun t ht => ?_) (fun g want hgd => ?_)
          · rw [hrl, hlook t (hl1 _ (mW hoxs ht) t rfl), e1]
          · rw [hrl, hlook g (hl2 g want hgd), e1]
        refine ⟨rl, rfl, .inl ⟨call, hcall, rc j, hev, hcl', .inl ⟨fun i hi => ?_, ?_, ?_⟩⟩⟩
        · simp only [a7, Bool.or_eq_false_iff, beq_eq_false_iff_ne]
          exact ⟨by omega, hD i hi⟩
        · simp only [aO, h5]; rfl
        · simp only [aO]
          rw [b8, hd, oQ hj ho ?_ ops.size, if_pos hjs, hrl]
          intro i oi hji hoi hDi d hdd
          by_cases h2 : Anc ops j i
          · rw [hcl j i hDi h2] at hj; cases hj
          have h3 : ¬ Anc ops i j := fun e => by have := hanc_lt e; omega
          exact fun e => (Oper.apart_spec (hapart j i o oi (by omega) ho hoi h2 h3)).2.1 d hdd e
      · have hbf := hbefore (by omega)
        have hjk' : j = k := by
          rcases Nat.lt_or_ge k j with h | h
          · have := hbf k h; rw [hD k (Nat.le_refl _)] at this; cases this
          · omega
        subst hjk'
        have hDk : ∀ i, D i = decide (i < j) := by
          intro i
          by_cases h : i < j
          · rw [hbf i h]; simp [h]
          · rw [hD i (by omega)]; simp [h]
        obtain ⟨_, e2, e3⟩ := hst j (Nat.le_refl _)
        rw [hdrop hi] at hg
        refine ⟨(S j).regs, by rw [hrl, hfull D hDk], ?_⟩
        have e4 : S j = ⟨(S j).regs, (S 0).ov, (S 0).c + j⟩ := by rw [← e2, ← e3]
        rw [e4] at hg
        refine j8 ?_ (sV hg)
        rintro s' ⟨hc', hs'⟩
        refine ⟨hcl', .inr ⟨j + 1, by omega, hjs, fun i => ?_, ?_⟩⟩
        · simp only [a7, hDk]
          by_cases h : i = j
          · simp [h]
          · by_cases h2 : i < j
            · simp [h2, show i < j + 1 by omega]
            · simp [h, h2, show ¬ i < j + 1 by omega]
        · have e5 : (⟨s'.regs, s'.ov, (S 0).c + (j + 1)⟩ : ASt) = s' := by
            have : (S 0).c + (j + 1) = s'.c := by simp only at hc'; omega
            rw [this]
          rw [e5]; exact hs'
    · have hjm : ¬ j < m := by rw [hD j] at hj; simpa using hj
      have hjk' : j = m := by
        rcases Nat.lt_or_ge m j with h | h
        · have := hbefore (by omega) m h; rw [hD m] at this; simp at this
        · omega
      subst hjk'
      rw [hdrop hi] at hgs
      refine ⟨rl, rfl, ?_⟩
      refine j8 ?_ (sV hgs)
      rintro s' ⟨hc', hs'⟩
      refine ⟨hcl', .inr ⟨j + 1, by omega, hjs, fun i => ?_, ?_⟩⟩
      · simp only [a7, hD]
        by_cases h : i = j
        · simp [h]
        · by_cases h2 : i < j
          · simp [h2, show i < j + 1 by omega]
          · simp [h, h2, show ¬ i < j + 1 by omega]
      · have e5 : (⟨s'.regs, s'.ov, (S 0).c + (j + 1)⟩ : ASt) = s' := by
          have : (S 0).c + (j + 1) = s'.c := by simp only at hc'; omega
          rw [this]
        rw [e5]; exact hs'
  · have key : ∀ j, stR ops rc (fun _ => false) (aI (S 0).regs) j = aI (S 0).regs := by
      intro j
      induction j with
      | zero => rfl
      | succ j ih => simp [stR, ih]
    exact (key _).symm
  · rintro D rl ov ρ R a w hall ⟨_, ⟨hD, rfl, hrl⟩ | ⟨m, hm1, hm2, hD, hgs⟩⟩ hI'
    · have hks : k = ops.size := by
        rcases Nat.lt_or_ge k ops.size with h | h
        · have := hall k h; rw [hD k (Nat.le_refl _)] at this; cases this
        · omega
      have hDk : ∀ i, D i = decide (i < k) := by
        intro i
        by_cases h : i < k
        · rw [hall i (by omega)]; simp [h]
        · rw [hD i (by omega)]; simp [h]
      obtain ⟨_, e2, e3⟩ := hst k (Nat.le_refl _)
      rw [List.drop_eq_nil_of_le (by omega)] at hg
      refine hQ (S k) ρ R a w hg ?_
      rw [hfull D hDk] at hrl
      obtain ⟨g1, g2, g3, g4⟩ := hI'
      refine ⟨?_, g2, ?_, ?_⟩
      · simp only [hrl] at g1; rw [e2]; exact g1
      · rw [e3, hks]; exact g3
      · rw [e2]; exact g4
    · have : m = ops.size := by
        rcases Nat.lt_or_ge m ops.size with h | h
        · have := hall m h; rw [hD m] at this; simp at this
        · omega
      subst this
      rw [List.drop_eq_nil_of_le (by omega)] at hgs
      exact hQ _ ρ R a w hgs hI'
/-- operations that change nothing, run -/
def oU (call : aQ) (H0 : aB) (p : Lab) : List AIns → ASt → Option ASt
  | [], s => some s
  | i :: is, s => (aN call H0 p i s).bind fun rc => if rc.u.isEmpty then oU call H0 p is (aO i s rc) else none
theorem kI {call : aQ} : ∀ {is : List AIns} {s s' : ASt}, oU call H0 p is s = some s' →
    ∃ (S : Nat → ASt) (rc : Nat → Rc), S 0 = s ∧ S is.length = s' ∧ ∀ (j : Nat) i, is[j]? = some i → aN call H0 p i (S j) = some (rc j) ∧ (rc j).u = [] ∧ S (j + 1) = aO i (S j) (rc j)
  | [], s, s', h => by
    simp only [oU, Option.some.injEq] at h; subst h
    exact ⟨fun _ => s, fun _ => ⟨true, .nilp, [], [], none⟩, rfl, rfl, fun j i hi => by simp at hi⟩
  | i :: is, s, s', h => by
    simp only [oU, Option.bind_eq_some_iff] at h
    obtain ⟨rc0, h1, h2⟩ := h
    split at h2
    · rename_i he
      obtain ⟨S, rc, e1, e2, e3⟩ := kI h2
      refine ⟨fun j => match j with | 0 => s | j + 1 => S j, fun j => match j with | 0 => rc0 | j + 1 => rc j, rfl, e2, fun j i' hi => ?_⟩
      cases j with
      | zero =>
        simp only [List.getElem?_cons_zero, Option.some.injEq] at hi; subst hi
        exact ⟨h1, by simpa using he, e1⟩
      | succ j => exact e3 j i' (by simpa using hi)
    · cases h2
/-- from the k-th on, each stands behind all ahead of it -/
def l3 (masks : List Nat) (k n : Nat) : Bool := (List.range n).all fun j => decide (j < k) || (List.range j).all fun i => (masks.getD j 0).testBit i
theorem lateOk_spec {masks : List Nat} {k n : Nat} (h : l3 masks k n = true) : ∀ j, k ≤ j → j < n → ∀ i, i < j → (masks.getD j 0).testBit i = true := by
  intro j hk hn i hi
  simp only [l3, List.all_eq_true, List.mem_range, Bool.or_eq_true, decide_eq_true_eq] at h
  rcases h j hn with h | h
  · omega
  · exact h i hi
theorem draw_late {rr : Option Nat} (hm : P.follows .mixedOrders = true) {call : aQ} (hcall : aY P call) {is : List AIns} (hcomp : cN P n ops ops.toList = some is) (hb : fW ops.toList 0 = true) (hap : eI ops (b4 ops.toList []) ops.toList 0 = true)
    (h0 : Rep H0 ρ0 R0 w0) (hf0 : ∀ l, Under p l → ρ0 l = none) {k : Nat} {s s1 : ASt} (hrun : oU call H0 p (is.take k) s = some s1) (hk : k ≤ is.length) (hlate : l3 (b4 ops.toList []) k is.length = true) {K : ASt → Prop} (hg : i5 P H0 p (is.drop k) s1 K) {ρ : aH} {R : Imm} {a : Act} {w : World} (hI : Inv n H0 ρ0 R0 w0 p s ρ R a w) {id : Nat} {Q : Exit → Act → World → Prop}
    (hQ : ∀ s' ρ R a w, K s' → Inv n H0 ρ0 R0 w0 p s' ρ R a w → Q .normal a w) : (Code.region id ops true).wpIn (Fw rr) 0 P Q a w := by
  have hlen : is.length = ops.size := by simpa using (bN hcomp).1
  obtain ⟨S, rc, rfl, rfl, e3⟩ := kI hrun
  refine draw_pre hm hcall hcomp hb hap h0 hf0 (k := k) (by omega) (S := S) (rc := rc) (fun j i hj hi => e3 j i (by rw [List.getElem?_take]; simp [hj, hi])) (by rw [← hlen]; exact lateOk_spec hlate) ?_ hI hQ
  rwa [List.length_take, Nat.min_eq_left hk] at hg
end
end Go.Proofs.Ytigjoggpaamodaa
/-! The abstract machine: loops over functions. -/
namespace Go.Proofs.Ytigjoggpaamodaa
set_option linter.unusedVariables false
set_option linter.unusedSimpArgs false

def AEx.code : AEx → Code
  | .normal => .skip
  | .exit id => .exit id
  | .ret => .ret
  | .goto l => .goto l
/-- a loop's record, behind a round that was left so -/
def after (r : Loop) (e : AEx) : Loop := match e with
  | .normal => r
  | e => { r with state := .done, pending := some e.code }
def r5 (r : Loop) : Loop := { r with state := .busy }
/-- a loop's record at first -/
def kU (r : Loop) : Prop := r.state = .ready ∧ r.pending = none
def lR : List Nat → List AV → RL → RL
  | t :: ps, x :: xs, r => lR ps xs (eY r t x)
  | _, _, r => r
/-- what is known of the eB of a loop: its record lies at y -/
def m9 (P : Program) (fa fb : aB → Lab → a4 → ASt → Prop) (ps : List Nat) (y : Lab) (r : Loop) (regs : RL) : Prop := ∀ (G : aB) (q : Lab) (xs : List AV) (Ψ : a4), G y = none → xs.length = ps.length →
  ((∀ l, Under q l → G l = none) → ¬ Under q y → fa G q (sE (fun s => fb G q Ψ s) (fun _ _ => False)) ⟨lR ps xs regs, [], 0⟩) →
  SoundY P y xs (upd [(y, some (.loop r regs))] G) q (fun v u => ∃ e s, Ψ e s ∧ v = .bool (decide (e = .normal)) ∧ upd u (upd [(y, some (.loop r regs))] G) = upd [(y, some (.loop (after r e) regs))] (upd s.ov G) ∧ upd s.ov G y = none)
theorem kH (r : RL) (t : Nat) : r.lookup t = aI r t := by
  induction r with
  | nil => rfl
  | cons p r ih =>
    obtain ⟨k, y⟩ := p
    simp only [aI, List.lookup_cons, ih]
    by_cases e : t = k
    · subst e; simp
    · have : (t == k) = false := by simpa using e
      simp [this, e]
section
variable {P : Program} {n : Nat} {H : aB} {ρ : aH} {R : Imm} {w : World}
/-- a block of nobody's is laid at a label -/
theorem Rep.lay {y : Lab} {o : AO} {L : Loc} {O : Obj} (h : Rep H ρ R w) (hR : R L.blk = none) (hH : ∀ l o K, l ≠ y → H l = some o → ρ l = some K → K.blk ≠ L.blk) (hL : ρ y = some L) (hlt : L.blk < w.heap.size) (ho : RepO ρ R L o O) :
    Rep (upd [(y, some o)] H) ρ R (w.putObj L.blk O) := by
  have key : ∀ k o', upd [(y, some o)] H k = some o' → (k = y ∧ o' = o) ∨ (k ≠ y ∧ H k = some o') := fun k o' hk => by
    by_cases e : k = y
    · subst e; simp [upd] at hk; exact .inl ⟨rfl, hk.symm⟩
    · simp [upd, e] at hk; exact .inr ⟨e, hk⟩
  refine ⟨fun k o' hk => ?_, fun k k' o1 o2 L1 L2 h1 h2 h3 h4 h5 => ?_, fun k o' K hk hK => ?_, fun b O2 hb => ?_⟩
  · rcases key k o' hk with ⟨rfl, rfl⟩ | ⟨hne, hk⟩
    · exact ⟨L, O, hL, World.putObj_heap_same hlt, ho⟩
    · obtain ⟨K, O2, h1, h2, h3⟩ := h.own k o' hk
      exact ⟨K, O2, h1, (World.putObj_heap_other (hH k o' K hne hk h1)).trans h2, h3⟩
  · rcases key k o1 h1 with ⟨e1, _⟩ | ⟨hne, g1⟩ <;> rcases key k' o2 h2 with ⟨e, _⟩ | ⟨hne', g2⟩
    · exact e1.trans e.symm
    · rw [e1, hL] at h3; cases h3; exact absurd h5.symm (hH k' o2 L2 hne' g2 h4)
    · rw [e, hL] at h4; cases h4; exact absurd h5 (hH k o1 L1 hne g1 h3)
    · exact h.sep k k' o1 o2 L1 L2 g1 g2 h3 h4 h5
  · rcases key k o' hk with ⟨rfl, rfl⟩ | ⟨hne, hk⟩
    · rw [hL] at hK; cases hK; exact hR
    · exact h.dis k o' K hk hK
  · exact (World.putObj_heap_other (fun e => by rw [e, hR] at hb; cases hb)).trans (h.imm b O2 hb)
theorem Fut.put2 {W : Lab → Prop} {ρ' : aH} {R' : Imm} {w' : World} {D : Nat} {O : Obj} (h : Fut H ρ R w W ρ' R' w') (hD : D < w.heap.size) : Fut H ρ R (w.putObj D O) W ρ' R' (w'.putObj D O) := by
  refine ⟨h.ext, fun l L hl => ?_, fun b O2 hb => ?_, h.os, h.tape, h.output, by simpa using h.size, fun b hb hno => ?_⟩
  · rw [World.putObj_size]; exact h.win l L hl
  · rw [World.putObj_size]; exact h.new b O2 hb
  · rw [World.putObj_size] at hb
    by_cases e : b = D
    · subst e; rw [World.putObj_heap_same hD, World.putObj_heap_same (Nat.lt_of_lt_of_le hD h.size)]
    · rw [World.putObj_heap_other e, World.putObj_heap_other e]; exact h.frame b hb hno
/-- a block that is none of the heap's stays none -/
theorem Fut.apart {W : Lab → Prop} {ρ' : aH} {R' : Imm} {w' : World} {D : Nat} {u : Chg} (h : Fut H ρ R w W ρ' R' w') (hR : Rep H ρ R w) (hD : D < w.heap.size) (hRD : R D = none) (hH : ∀ l o K, H l = some o → ρ l = some K → K.blk ≠ D)
    (hu : ∀ l o, upd u H l = some o → H l ≠ none ∨ W l) (hf : ∀ l, W l → ρ l = none) : w'.heap[D]? = w.heap[D]? ∧ R' D = none ∧ ∀ l o K, upd u H l = some o → ρ' l = some K → K.blk ≠ D := by
  refine ⟨h.frame D hD hH, ?_, fun l o K hl hK e => ?_⟩
  · cases hx : R' D with
    | none => rfl
    | some O =>
      rcases h.new D O hx with g | g | ⟨k, o, K, hk, hK, g⟩
      · rw [hRD] at g; cases g
      · omega
      · exact absurd g (hH k o K hk hK)
  · rcases h.win l K hK with g | ⟨_, g | ⟨k, o', K', hk, hK', g⟩⟩
    · rcases hu l o hl with h1 | h1
      · obtain ⟨o', ho'⟩ := Option.ne_none_iff_exists'.1 h1
        exact hH l o' K ho' g e
      · rw [hf l h1] at g; cases g
    · omega
    · exact hH k o' K' hk hK' (g.trans e)
theorem zip_foldl {ps : List Nat} {vs : List Value} {t : Array Value} : (ps.toArray.zip vs.toArray).foldl (fun tmps (t, a) => tmps.setIfInBounds t a) t = (ps.zip vs).foldl (fun tmps p => tmps.setIfInBounds p.1 p.2) t := by
  rw [← Array.foldl_toList]; simp
theorem psets_rep {ps : List Nat} : ∀ {xs : List AV} {vs : List Value} {regs : RL} {tmps : Array Value}, RepL ρ R xs vs → xs.length = ps.length → (∀ t ∈ ps, t < tmps.size) → (∀ t x, aI regs t = some x → RepV ρ R x (tmps.getD t undef)) →
    ((ps.toArray.zip vs.toArray).foldl (fun tmps (t, a) => tmps.setIfInBounds t a) tmps).size = tmps.size ∧ ∀ t x, aI (lR ps xs regs) t = some x → RepV ρ R x (((ps.toArray.zip vs.toArray).foldl (fun tmps (t, a) => tmps.setIfInBounds t a) tmps).getD t undef) := by
  induction ps with
  | nil =>
    intro xs vs regs tmps hx hl _ hr
    have : xs = [] := List.length_eq_zero_iff.1 hl
    subst this
    have := hx.nil_inv; subst this
    exact ⟨by simp, by simpa [lR] using hr⟩
  | cons t ps ih =>
    intro xs vs regs tmps hx hl ht hr
    cases xs with
    | nil => cases hl
    | cons x xs =>
      obtain ⟨v, us, rfl, hv, hus⟩ := hx.head
      have e : ((t :: ps).toArray.zip (v :: us).toArray).foldl (fun tmps (t, a) => tmps.setIfInBounds t a) tmps = (ps.toArray.zip us.toArray).foldl (fun tmps (t, a) => tmps.setIfInBounds t a) (tmps.setIfInBounds t v) := by
        simp only [zip_foldl, List.zip_cons_cons, List.foldl_cons]
      rw [e]
      have h2 := ih (tmps := tmps.setIfInBounds t v) (regs := eY regs t x) hus (by simpa using hl) (fun k hk => by simpa using ht k (by simp [hk])) (fun k z hz => by
        rw [cS] at hz
        simp only at hz
        split at hz
        · rename_i e; subst e; cases hz
          have := ht k (by simp)
          simpa [Array.getD, this] using hv
        · rename_i hne
          have := hr k z hz
          rw [Array.getD_eq_getD_getElem?, Array.getElem?_setIfInBounds_ne (Ne.symm hne), ← Array.getD_eq_getD_getElem?]; exact this)
      exact ⟨by rw [h2.1]; simp, h2.2⟩

/-- code in a round's frame, sound -/
def pD (P : Program) (n : Nat) (fa : aB → Lab → a4 → ASt → Prop) (c : Code) : Prop := ∀ (l : Nat) (H0 : aB) (p : Lab) (ρ0 : aH) (R0 : Imm) (w0 : World), Rep H0 ρ0 R0 w0 → (∀ l, Under p l → ρ0 l = none) → ∀ (Q : a4) (s : ASt) (ρ : aH) (R : Imm) (a : Act) (w : World),
  fa H0 p Q s → Inv n H0 ρ0 R0 w0 p s ρ R a w → c.wpIn (Fw (some l)) 0 P (pC n H0 ρ0 R0 w0 p Q) a w
theorem upd_two {y : Lab} {o o' : Option AO} {u : Chg} {H : aB} : upd [(y, o)] (upd u (upd [(y, o')] H)) = upd [(y, o)] (upd u H) := by
  funext k
  simp only [upd]
  by_cases e : k = y
  · simp [e]
  · simp only [e, if_false]
    by_cases hu : u.has k
    · exact dV hu
    · rw [aR hu, aR hu]; simp [e]
theorem lI {u : Chg} {H : aB} {f : Lab → Bool} (h : ∀ l, f l = false → upd u H l = H l) : upd (u.filter fun p => f p.1) H = upd u H := by
  funext k
  cases hf : f k with
  | false =>
    rw [h k hf]
    refine aR ?_
    rintro ⟨p, hp, rfl⟩
    simp [hf] at hp
  | true =>
    clear h
    induction u with
    | nil => rfl
    | cons p u ih =>
      obtain ⟨l, o⟩ := p
      simp only [List.filter_cons]
      by_cases e : k = l
      · subst e; simp [hf, upd]
      · cases hl : f l <;> simp [upd, e, ih]
theorem rounds_ok {fa fb : aB → Lab → a4 → ASt → Prop} {ca cb : Code} (hA : pD P n fa ca) (hB : pD P n fb cb) {ps : List Nat} {y : Lab} {r : Loop} {regs : RL} (hr : kU r) (hp : r.params = ps.toArray) (hps : ∀ t ∈ ps, t < n) (hsz : r.tmps.size = n) (hca : r.assign = ca) (hcb : r.body = cb) : m9 P fa fb ps y r regs := by
  intro G q xs Ψ hy hlen hg ρ R vs L hxs hL w hR hfr
  obtain ⟨L', O, h1, h2, h3⟩ := hR.own y (.loop r regs) (by simp [upd])
  rw [hL] at h1; cases h1
  cases O <;> simp only [RepO] at h3
  obtain ⟨hoff, hrr, hregs⟩ := h3
  rw [hrr] at h2
  clear hrr
  have hlt : L.blk < w.heap.size := (Array.getElem?_eq_some_iff.1 h2).1
  have hRL : R L.blk = none := hR.dis y (.loop r regs) L (by simp [upd]) hL
  have hG : ∀ l o, G l = some o → upd [(y, some (.loop r regs))] G l = some o := fun l o h => by
    have : l ≠ y := fun e => by rw [e, hy] at h; cases h
    simp [upd, this, h]
  have hRG : Rep G ρ R w := hR.drop hG
  have hqy : ¬ Under q y := fun h => by rw [hfr y h] at hL; cases hL
  replace hg := hg (fun l hl => by
    cases hx : G l with
    | none => rfl
    | some o =>
      obtain ⟨K, O2, k1, _⟩ := hRG.own l o hx
      rw [hfr l hl] at k1; cases k1) hqy
  have hsep : ∀ l o K, G l = some o → ρ l = some K → K.blk ≠ L.blk := fun l o K hl hK e => by
    have := hR.sep l y o (.loop r regs) K L (hG l o hl) (by simp [upd]) hK hL e
    rw [this, hy] at hl; cases hl
  have hvl : vs.length = ps.length := hxs.1.trans hlen
  obtain ⟨z1, z2⟩ := psets_rep (regs := regs) (tmps := r.tmps) (ps := ps) hxs hlen (fun t ht => by rw [hsz]; exact hps t ht) (fun t x hx => hregs t x (by rw [kH]; exact hx))
  refine ⟨r.fn, _, ca, cb, by have := run_yield (P := P) (w := w) (args := vs.toArray) h2 (by rw [hp]; simpa using hvl); rw [hca, hcb] at this; exact this, ?_⟩
  have hI0 : Inv n G ρ R w q ⟨lR ps xs regs, [], 0⟩ ρ R { tmps := (r.params.zip vs.toArray).foldl (fun tmps (t, a) => tmps.setIfInBounds t a) r.tmps, defers := [] } w := by
    refine ⟨⟨?_, .nil, fun t x hx => ?_, hRG⟩, Fut.refl _ _ _ _ _, fun l hl => hfr l hl.under, fun k o hk => .inl (by simp only [upd] at hk; rw [hk]; simp)⟩
    · rw [hp]; exact z1.trans hsz
    · rw [hp]; exact z2 t x hx
  refine roundIn_of_wpIn (F := Fw none) trivial ?_
  refine wpIn_mono (hA L.blk G q ρ R w hRG hfr _ _ ρ R _ w hg hI0) ?_
  rintro e a1 w1 ⟨ae, s1, ρ1, R1, rfl, hq1, hI1⟩
  cases ae with
  | exit id => exact hq1.elim
  | ret => exact hq1.elim
  | goto l => exact hq1.elim
  | normal =>
    obtain ⟨g1, g2, g3⟩ := hI1.fut.apart (u := s1.ov) hRG hlt hRL hsep hI1.lab hfr
    rw [h2] at g1
    refine ⟨w1.putObj L.blk (.loop (r5 r)), run_beginRound g1 hr.1, ?_⟩
    have hR' : Rep G ρ R (w.putObj L.blk (.loop (r5 r))) := hRG.strike hRL hsep
    have hlt1 : L.blk < w1.heap.size := (Array.getElem?_eq_some_iff.1 g1).1
    have hI1' : Inv n G ρ R (w.putObj L.blk (.loop (r5 r))) q s1 ρ1 R1 a1 (w1.putObj L.blk (.loop (r5 r))) := by
      refine ⟨⟨hI1.rs.size, ?_, hI1.rs.regs, hI1.rs.heap.strike g2 g3⟩, hI1.fut.put2 hlt, hI1.fresh, hI1.lab⟩
      obtain ⟨Ds, d1, d2, d3⟩ := hI1.rs.defers
      refine ⟨Ds, d1, d2, fun D hD => ?_⟩
      obtain ⟨k1, k2, k3, k4⟩ := d3 D hD
      refine ⟨by rw [World.putObj_size]; exact k1, ?_, k3, k4⟩
      rw [World.putObj_heap_other (by omega)]; exact k2
    refine wpIn_mono (hB L.blk G q ρ R _ hR' hfr _ _ ρ1 R1 a1 _ hq1 hI1') ?_
    rintro e a2 w3 ⟨ae, s2, ρ2, R2, rfl, hq2, hI2⟩
    have hlt' : L.blk < (w.putObj L.blk (.loop (r5 r))).heap.size := by rw [World.putObj_size]; exact hlt
    obtain ⟨f1, f2, f3⟩ := hI2.fut.apart (u := s2.ov) hR' hlt' hRL hsep hI2.lab hfr
    rw [World.putObj_heap_same hlt] at f1
    have hlt3 : L.blk < w3.heap.size := (Array.getElem?_eq_some_iff.1 f1).1
    have hL2 : ρ2 y = some L := hI2.fut.ext.loc _ _ hL
    -- the labels that count
    let cnt : Lab → Bool := fun l => @decide (upd [(y, some (.loop r regs))] G l ≠ none ∨ Under q l) (Classical.propDecidable _)
    have hcnt : ∀ l, cnt l = false → upd s2.ov G l = G l := by
      intro l hl
      have hl' : ¬ (upd [(y, some (.loop r regs))] G l ≠ none ∨ Under q l) := @of_decide_eq_false _ (Classical.propDecidable _) hl
      have h5 : G l = none := by
        cases hx : G l with
        | none => rfl
        | some o => exact absurd (Or.inl (by rw [hG l o hx]; simp)) hl'
      cases hx : upd s2.ov G l with
      | none => exact h5.symm
      | some o =>
        rcases hI2.lab l o hx with h6 | h6
        · exact absurd h5 h6
        · exact absurd (Or.inr h6) hl'
    have hy2 : upd s2.ov G y = none := by
      cases hx : upd s2.ov G y with
      | none => rfl
      | some o =>
        rcases hI2.lab y o hx with h6 | h6
        · exact absurd hy h6
        · exact absurd h6 hqy
    have fin : ∀ (b : Bool) (r4 : Loop), (w4 : World) → w4 = w3.putObj L.blk (.loop r4) → r4.tmps = r.tmps → r4 = after r ae → b = decide (ae = .normal) →
        ∃ x u ρ' R', (∃ e s, Ψ e s ∧ x = .bool (decide (e = .normal)) ∧ upd u (upd [(y, some (.loop r regs))] G) = upd [(y, some (.loop (after r e) regs))] (upd s.ov G) ∧ upd s.ov G y = none) ∧ (∀ l, Chg.has u l → upd [(y, some (.loop r regs))] G l ≠ none ∨ Under q l) ∧
          Fut (upd [(y, some (.loop r regs))] G) ρ R w (Under q) ρ' R' w4 ∧ RepV ρ' R' x (.bool b) ∧ Rep (upd u (upd [(y, some (.loop r regs))] G)) ρ' R' w4 := by
      rintro b r4 w4 rfl ht rfl rfl
      have hu : upd ((y, some (AO.loop (after r ae) regs)) :: s2.ov.filter fun p => cnt p.1) (upd [(y, some (.loop r regs))] G) = upd [(y, some (.loop (after r ae) regs))] (upd s2.ov G) := by
        have h7 := lI (u := s2.ov) (H := G) (f := cnt) hcnt
        have h8 := upd_two (y := y) (o := some (AO.loop (after r ae) regs)) (o' := some (AO.loop r regs)) (u := s2.ov.filter fun p => cnt p.1) (H := G)
        rw [h7] at h8
        exact h8
      refine ⟨.bool (decide (ae = .normal)), (y, some (.loop (after r ae) regs)) :: s2.ov.filter fun p => cnt p.1, ρ2, R2, ⟨ae, s2, hq2, rfl, hu, hy2⟩, ?_, ?_, .bool _, ?_⟩
      · rintro l ⟨p, hp, rfl⟩
        rcases List.mem_cons.1 hp with rfl | hp
        · exact .inl (by simp [upd])
        · exact @of_decide_eq_true _ (Classical.propDecidable _) (List.mem_filter.1 hp).2
      · have hF := hI2.fut
        refine ⟨hF.ext, fun l K hl => ?_, fun b O hb => ?_, hF.os, hF.tape, hF.output, ?_, fun b hb hno => ?_⟩
        · rcases hF.win l K hl with g | ⟨g, g5⟩
          · exact .inl g
          · refine .inr ⟨g, ?_⟩
            rw [World.putObj_size] at g5
            rcases g5 with g5 | ⟨k, o, K', hk, hK', g6⟩
            · exact .inl g5
            · exact .inr ⟨k, o, K', hG k o hk, hK', g6⟩
        · rcases hF.new b O hb with g | g | ⟨k, o, K', hk, hK', g6⟩
          · exact .inl g
          · rw [World.putObj_size] at g; exact .inr (.inl g)
          · exact .inr (.inr ⟨k, o, K', hG k o hk, hK', g6⟩)
        · have := hF.size
          rw [World.putObj_size] at this ⊢; exact this
        · have hne : b ≠ L.blk := fun e => hno y (.loop r regs) L (by simp [upd]) hL e.symm
          rw [World.putObj_heap_other hne, hF.frame b (by rw [World.putObj_size]; exact hb) (fun k o K hk hK => hno k o K (hG k o hk) hK), World.putObj_heap_other hne]
      · rw [hu]
        exact hI2.rs.heap.lay f2 (fun l o K _ hl hK => f3 l o K hl hK) hL2 hlt3 ⟨hoff, rfl, fun t x hx => by rw [ht]; exact (hregs t x hx).mono hI2.fut.ext⟩
    cases ae with
    | normal => exact ⟨_, _, run_endRound none f1, _, rfl, fin true r _ (by simp [r5, ← hr.1, ← hr.2]) rfl rfl rfl⟩
    | ret => exact ⟨_, _, run_endRound (some .ret) f1, _, rfl, fin false _ _ rfl rfl rfl rfl⟩
    | exit id => exact ⟨_, _, run_endRound (some (.exit id)) f1, _, rfl, fin false _ _ rfl rfl rfl rfl⟩
    | goto l => exact ⟨_, _, run_endRound (some (.goto l)) f1, _, rfl, fin false _ _ rfl rfl rfl rfl⟩

variable {H0 : aB} {p : Lab} {ρ0 : aH} {R0 : Imm} {w0 : World}
theorem n4 : ∀ {Ds Es : List Nat}, Ds.map oY = Es.map oY → Ds = Es
  | [], [], _ => rfl
  | [], _ :: _, h => by cases h
  | _ :: _, [], h => by cases h
  | D :: Ds, E :: Es, h => by
    simp only [List.map_cons, List.cons.injEq, oY, Deferred.mk.injEq, and_true] at h
    obtain ⟨h1, h2⟩ := h
    cases h1
    rw [n4 h2]
/-- the loop's statement -/
theorem range_ok {fa fb : aB → Lab → a4 → ASt → Prop} {ca cb : Code} (hA : pD P n fa ca) (hB : pD P n fb cb) {g : Operand} {ps : Array Nat} {z : AArg} (hz : mX g = some z) (hps : ∀ t ∈ ps.toList, t < n) (h0 : Rep H0 ρ0 R0 w0) (hf0 : ∀ l, Under p l → ρ0 l = none)
    {s : ASt} {a : Act} (hI : Inv n H0 ρ0 R0 w0 p s ρ R a w) {Q : a4} {gf : Nat} {caps : List AV} (hg : c3 s.regs z = some (.fn (.func gf) [] caps)) {Φ : Loop → AV → Chg → Prop}
    (hE : ∀ r, kU r → m9 P fa fb ps.toList (0 :: s.c :: p) r s.regs → SoundE P gf (.yield (0 :: s.c :: p) :: caps) (upd [(0 :: s.c :: p, some (.loop r s.regs))] (upd s.ov H0)) (1 :: s.c :: p) (Φ r))
    (hQ : ∀ r x u, kU r → Φ r x u → ∃ e, upd u (upd [(0 :: s.c :: p, some (.loop r s.regs))] (upd s.ov H0)) (0 :: s.c :: p) = some (.loop (after r e) s.regs) ∧ Q e ⟨s.regs, b9 ((0 :: s.c :: p, none) :: u) s.ov, s.c + 1⟩) :
    (Code.rangeFunc g ps ca cb).wpIn (Fw none) 0 P (pC n H0 ρ0 R0 w0 p Q) a w := by
  generalize hy : (0 :: s.c :: p : Lab) = y at hE hQ
  have hyU : Under (s.c :: p) y := ⟨[0], by rw [← hy]; rfl⟩
  have h1U : ∀ l, Under (1 :: s.c :: p) l → Under (s.c :: p) l ∧ l ≠ y := fun l hl => ⟨aP hl, fun e => by
    obtain ⟨t, ht⟩ := hl
    rw [e, ← hy] at ht
    have := (List.append_inj' (show ([0] : Lab) ++ (s.c :: p) = (t ++ [1]) ++ (s.c :: p) by simpa using ht) rfl).1
    cases t <;> simp at this⟩
  have hfr : ∀ l, Under (s.c :: p) l → ρ l = none := fun l hl => hI.fresh l ⟨s.c, Nat.le_refl _, hl⟩
  refine wpIn_rangeFunc fun fn _ => ?_
  obtain ⟨r, hr⟩ : ∃ r : Loop, r = { state := .ready, pending := none, fn := fn, tmps := a.tmps, params := ps, assign := ca, body := cb, defers := w.heap.size } := ⟨_, rfl⟩
  have hrdy : kU r := by subst hr; exact ⟨rfl, rfl⟩
  obtain ⟨wd, hwd⟩ : ∃ wd, wd = w.alloc (.deferred (some [])) := ⟨_, rfl⟩
  obtain ⟨w1, hw1⟩ : ∃ w1, w1 = wd.alloc (.loop r) := ⟨_, rfl⟩
  have hsz1 : wd.heap.size = w.heap.size + 1 := by rw [hwd]; simp [World.size_alloc]
  have hsz2 : w1.heap.size = w.heap.size + 2 := by rw [hw1, World.size_alloc, hsz1]
  -- the record
  have hH := hI.rs.heap
  have hRd : Rep (upd s.ov H0) ρ R wd := by
    rw [hwd]
    exact ⟨fun l o hl => by
      obtain ⟨L, O, k1, k2, k3⟩ := hH.own l o hl
      exact ⟨L, O, k1, (cB _ _ (Nat.ne_of_lt (eQ k2))).trans k2, k3⟩, hH.sep, hH.dis, fun b O hb => (cB _ _ (Nat.ne_of_lt (eQ (hH.imm b O hb)))).trans (hH.imm b O hb)⟩
  have hFd : Fut (upd s.ov H0) ρ R w (Under (s.c :: p)) ρ R wd := ⟨.refl _ _, fun _ _ h => .inl h, fun _ _ h => .inl h, by rw [hwd]; rfl, by rw [hwd]; rfl, by rw [hwd]; rfl, by omega, fun b hb _ => by rw [hwd]; exact cB _ _ (Nat.ne_of_lt hb)⟩
  let L : Loc := ⟨wd.heap.size, 0, 0, 0⟩
  let ρ1 : aH := fun l => if l = y then some L else ρ l
  obtain ⟨hF1, hR1⟩ := fR (W := Under (s.c :: p)) (nx := y) (O := .loop r) (o := .loop r s.regs) (L := L) hRd (hfr y hyU) hyU rfl ⟨rfl, rfl, fun t x hx => by
    rw [kH] at hx
    rw [hr]; exact hI.rs.regs t x hx⟩
  rw [← hw1] at hF1 hR1
  have hFH : Fut (upd s.ov H0) ρ R w (Under (s.c :: p)) ρ1 R w1 := hFd.trans hH hF1 (fun k o hk => .inl (by rw [hk]; simp)) (fun _ h => h) (fun _ h => h)
  have hρ1 : ρ1 y = some L := by simp [ρ1]
  have hnone : ∀ l, Under (1 :: s.c :: p) l → ρ1 l = none := fun l hl => by
    obtain ⟨k1, k2⟩ := h1U l hl
    simp only [ρ1, if_neg k2]; exact hfr l k1
  have hlay : w1.heap[L.blk]? = some (.loop r) := by rw [hw1]; exact World.alloc_heap_new _ _
  have hD : w1.heap[w.heap.size]? = some (.deferred (some [])) := by
    rw [hw1, cB _ _ (by rw [hsz1]; omega), hwd]; exact World.alloc_heap_new _ _
  -- the marks
  have hM1 : Marks w0.heap.size (oY w.heap.size :: a.defers) (upd [(y, some (.loop r s.regs))] (upd s.ov H0)) ρ1 R w1 := by
    obtain ⟨Ds, d1, d2, d3⟩ := hI.rs.defers.fut (u := [(y, some (.loop r s.regs))]) hFH (fun l hl => by rw [bC hl]; exact .inr (hfr y hyU))
    refine ⟨w.heap.size :: Ds, by rw [d1]; rfl, List.nodup_cons.2 ⟨fun hm => ?_, d2⟩, fun D hDm => ?_⟩
    · obtain ⟨Es, e1, e2, e3⟩ := hI.rs.defers
      rw [e1] at d1
      rw [← n4 d1] at hm
      have := (Array.getElem?_eq_some_iff.1 (e3 _ hm).2.1).1
      omega
    · rcases List.mem_cons.1 hDm with rfl | hDm
      · refine ⟨hI.fut.size, hD, ?_, fun l o K hl hK e => ?_⟩
        · cases hx : R w.heap.size with
          | none => rfl
          | some O => have := eQ (hH.imm _ _ hx); omega
        · by_cases hly : l = y
          · simp only [ρ1, if_pos hly, Option.some.injEq] at hK
            rw [← hK] at e; simp only [L] at e; omega
          · simp only [upd, if_neg hly] at hl
            simp only [ρ1, if_neg hly] at hK
            have := hH.lt hl hK; omega
      · exact d3 D hDm
  -- the function's value
  have hgv := iA (ρ := ρ) (R := R) (a := a) hz hg (fun t _ x hx => hI.rs.regs t x hx)
  obtain ⟨⟨fn', hf, hb, hn⟩, hcall⟩ := hE r hrdy (rounds_ok hA hB hrdy (by subst hr; simp) hps (by subst hr; exact hI.rs.size) (by subst hr; rfl) (by subst hr; rfl))
  generalize hgx : a.eval g = gv at hgv
  cases hgv with | fn _ _ _ F C hF hC hf1 hf2 => ?_
  have hF0 : F = #[] := by simpa using hF
  subst hF0
  have hrC : RepL ρ1 R caps C.toList := ⟨by simpa using hC, fun k x hk => by
    have hk' : k < C.size := by have := (List.getElem?_eq_some_iff.1 hk).1; omega
    have := (hf2 k x hk).mono hFH.ext
    exact ⟨C[k], by simp [hk'], by simpa [Array.getD, hk'] using this⟩⟩
  have hargs : RepL ρ1 R (.yield y :: caps) (.func (.yield L.blk) #[] #[] :: C.toList) := .cons (.yield y L hρ1) hrC
  have hd := hcall ρ1 R _ hargs w1 hR1 hnone
  have hn' : ¬ fn'.name = "runtime.NumGoroutine" := by simpa using hn
  have hb' : ¬ fn'.body = none := by intro e; rw [e] at hb; cases hb
  have e0 : (Value.func (.yield L.blk) #[] #[] :: C.toList).toArray = #[.func (.yield L.blk) #[] #[]] ++ C := by apply Array.ext'; simp
  rw [e0] at hd
  refine ⟨L.blk, [oY w.heap.size], w1, ⟨.fn (.func gf) C, #[.func (.yield L.blk) #[] #[]]⟩, w1, gf, #[.func (.yield L.blk) #[] #[]] ++ C, w1, ?_, ?_, fun _ _ => trivial, ?_, fun h => by simp [Fence.wide] at h, ?_⟩
  · have := run_enterLoop_outer (P := P) (w := w) fn a.tmps ps ca cb
    rw [show (Fw none).round = none from rfl, this, hw1, hwd, hr]
    simp [L, World.size_alloc, hsz1, hwd, oY]
  · have hcv : a.eval (.const (.func (.yield L.blk) #[] #[])) = .func (.yield L.blk) #[] #[] := rfl
    simp [rangeCall, resolve, hgx, hcv, Deferred.ofValue]
  · simp [invoke, callFunc, hf, hn', hb']
  · refine callsIn_w.2 (Calls.mono hd ?_)
    rintro e w2 ⟨v, rfl, x, u, ρ', R', hΦ, hlab, hF2, hx, hR2⟩
    obtain ⟨e, hye, hq⟩ := hQ r x u hrdy hΦ
    obtain ⟨L2, O2, k1, k2, k3⟩ := hR2.own y _ hye
    have hρy : ρ' y = some L := hF2.ext.loc _ _ hρ1
    rw [hρy] at k1; cases k1
    cases O2 <;> simp only [RepO] at k3
    obtain ⟨_, rfl, _⟩ := k3
    have hst : (after r e).state ≠ .busy := by
      cases e <;> simp [after, hrdy.1]
    have hpend : (after r e).pending = if e = .normal then none else some e.code := by
      cases e <;> simp [after, hrdy.2]
    obtain ⟨w4, hw4⟩ : ∃ w4, w4 = w2.putObj L.blk (.loop { after r e with state := .exhausted }) := ⟨_, rfl⟩
    refine ⟨(after r e).pending, w4, by rw [hw4]; exact run_endLoop k2 hst, ?_⟩
    have hI' : Inv n H0 ρ0 R0 w0 p ⟨s.regs, b9 ((y, none) :: u) s.ov, s.c + 1⟩ ρ' R' { a with defers := [oY w.heap.size] ++ a.defers } w4 := by
      rw [hw4]
      generalize hG : upd [(y, some (AO.loop r s.regs))] (upd s.ov H0) = G at *
      have hGk : ∀ k, k ≠ y → G k = upd s.ov H0 k := fun k hk => by rw [← hG]; simp [upd, hk]
      have hh : ∀ k o, upd (b9 ((y, none) :: u) s.ov) H0 k = some o → k ≠ y ∧ upd u G k = some o := fun k o hk => by
        rw [aX] at hk
        simp only [upd] at hk
        split at hk
        · cases hk
        · rename_i hne
          refine ⟨hne, ?_⟩
          by_cases hu : u.has k
          · rw [dV (H' := upd s.ov H0) hu]; exact hk
          · rw [aR hu] at hk ⊢; rw [hGk k hne]; exact hk
      have hRL : R' L.blk = none := hR2.dis y _ L hye hρy
      have hRs : Rep (upd (b9 ((y, none) :: u) s.ov) H0) ρ' R' w2 := hR2.drop fun k o hk => (hh k o hk).2
      have hstr := hRs.strike (O := .loop { after r e with state := .exhausted }) hRL (fun l o K hl hK e2 => (hh l o hl).1 (hR2.sep l y o _ K L (hh l o hl).2 hye hK hρy e2))
      have hFA : Fut (upd s.ov H0) ρ R w (Under (s.c :: p)) ρ' R' w2 := hFH.trans hH hF2 (fun k o hk => by
        by_cases e2 : k = y
        · rw [e2]; exact .inr (hfr y hyU)
        · rw [hGk k e2] at hk; exact .inl (by rw [hk]; simp)) (fun _ h => h) (fun l hl => (h1U l hl).1)
      refine ⟨⟨hI.rs.size, ?_, fun t x hx => (hI.rs.regs t x hx).mono hFA.ext, hstr⟩, ?_, fun l hl => ?_, fun k o hk => ?_⟩
      · obtain ⟨Ds, d1, d2, d3⟩ := (hM1.fut hF2 (fun l hl => (hlab l hl).imp id (hnone l))).sub (H' := upd (b9 ((y, none) :: u) s.ov) H0) (fun l o hl => by rw [(hh l o hl).2]; simp)
        refine ⟨Ds, d1, d2, fun D hDm => ?_⟩
        obtain ⟨m1, m2, m3, m4⟩ := d3 D hDm
        refine ⟨m1, ?_, m3, m4⟩
        rw [World.putObj_heap_other (fun e2 => by rw [e2, k2] at m2; cases m2)]; exact m2
      · exact hI.fut.trans h0 (hFA.strike (show w.heap.size ≤ L.blk by simp only [L]; omega)) (fun k o hk => (hI.lab k o hk).imp id (hf0 k)) (fun _ h => h) (fun l hl => aP hl)
      · obtain ⟨j, hj, hl⟩ := hl
        simp only at hj
        have h3 := hI.fresh l ⟨j, by omega, hl⟩
        cases hx : ρ' l with
        | none => rfl
        | some K =>
          rcases hFA.win l K hx with g | ⟨g, _⟩
          · rw [h3] at g; cases g
          · have := bK hl g; omega
      · obtain ⟨hne, hk⟩ := hh k o hk
        rcases gX hk with g | g
        · rcases hlab k g with g | g
          · rw [hGk k hne] at g
            obtain ⟨o', ho'⟩ := Option.ne_none_iff_exists'.1 g
            exact hI.lab k o' ho'
          · exact .inr (aP (aP g))
        · rw [hGk k hne] at g; exact hI.lab k o g
    rw [hpend]
    cases e with
    | normal => exact ⟨.normal, _, ρ', R', rfl, hq, hI'⟩
    | ret => exact wpIn_ret ⟨.ret, _, ρ', R', rfl, hq, hI'⟩
    | exit id => exact wpIn_exit ⟨.exit id, _, ρ', R', rfl, hq, hI'⟩
    | goto l => exact wpIn_goto ⟨.goto l, _, ρ', R', rfl, hq, hI'⟩
end
end Go.Proofs.Ytigjoggpaamodaa
