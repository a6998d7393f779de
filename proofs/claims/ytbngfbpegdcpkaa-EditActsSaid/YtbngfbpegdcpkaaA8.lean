/- The abstract machine: slices, lengths, calls. -/
import Derived.Test.YtbngfbpegdcpkaaA7
namespace Go.Proofs.Ytbngfbpegdcpkaa
set_option linter.unusedVariables false
set_option linter.unusedSimpArgs false
section
variable {P : Program} {o : Oper} {a : Act} {ρ : Locs} {R : Imm} {H : Heap} {nx : Lab} {r : Res}

theorem sound_len_slice {T E : TypeId} {c : Call} {p : Operand} {x : AV} {n : Nat} (ho : o.op = .call c) (hc : c.callee = .builtin .len) (hargs : c.args = #[p]) (ht : c.argTypes[0]? = some T) (hd : P.underlying T = some (.slice E)) (hx : RepV ρ R x (a.eval p)) (h : x.len = some n) : Sound P o a ρ R H nx (.pure (.int .i64 n)) := by
  refine sound_pure (v := .int .i64 n) (fun w => ?_) (.int _ _)
  generalize hg : a.eval p = pv at hx
  cases hx <;> simp [AV.len] at h <;> subst h <;> simp [execOp, ho, resolve, hc, hargs, invoke, builtin, Builtin.len_, ht, run_underlying' hd, hg, goInt]
theorem sound_len_str {T : TypeId} {c : Call} {p : Operand} {s : ByteArray} (ho : o.op = .call c) (hc : c.callee = .builtin .len) (hargs : c.args = #[p]) (ht : c.argTypes[0]? = some T) (hd : P.underlying T = some .string) (hx : RepV ρ R (.str s) (a.eval p)) : Sound P o a ρ R H nx (.pure (.int .i64 s.size)) := by
  refine sound_pure (v := .int .i64 s.size) (fun w => ?_) (.int _ _)
  have hg := hx.str_inv
  simp [execOp, ho, resolve, hc, hargs, invoke, builtin, Builtin.len_, ht, run_underlying' hd, hg, goInt]
theorem sound_len_nilm {T K E : TypeId} {c : Call} {p : Operand} (ho : o.op = .call c) (hc : c.callee = .builtin .len) (hargs : c.args = #[p]) (ht : c.argTypes[0]? = some T) (hd : P.underlying T = some (.map K E)) (hx : RepV ρ R .nilm (a.eval p)) : Sound P o a ρ R H nx (.pure (.int .i64 0)) := by
  refine sound_pure (v := .int .i64 0) (fun w => ?_) (.int _ _)
  generalize hg : a.eval p = pv at hx
  cases hx
  simp [execOp, ho, resolve, hc, hargs, invoke, builtin, Builtin.len_, ht, run_underlying' hd, hg, goInt]
theorem sound_len_map {T K E : TypeId} {c : Call} {p : Operand} {l : Lab} {es : List (AV × AV)} {bs : List Nat} {ck : Nat} (ho : o.op = .call c) (hc : c.callee = .builtin .len) (hargs : c.args = #[p]) (ht : c.argTypes[0]? = some T) (hd : P.underlying T = some (.map K E)) (hx : RepV ρ R (.map l) (a.eval p)) (hl : H l = some (.amap es bs ck)) :
    Sound P o a ρ R H nx ⟨.int .i64 es.length, [], some [l]⟩ := by
  refine sound_read hl fun w L O hO hL hrep => ⟨.int .i64 es.length, ?_, .int _ _⟩
  cases O <;> simp only [RepO] at hrep
  rename_i ents clock
  generalize hg : a.eval p = pv at hx
  cases hx
  rename_i L' hL'
  rw [hL] at hL'; cases hL'
  have hrun : (getObj L.blk).run P w = .ok (.map ents clock) w := by simp [getObj, Sem.run, hO]
  simp [execOp, ho, resolve, hc, hargs, invoke, builtin, Builtin.len_, ht, run_underlying' hd, hg, goInt, hrun, hrep.1]
theorem sound_min {c : Call} {p q : Operand} {k : IntKind} {x y : Int} (ho : o.op = .call c) (hc : c.callee = .builtin .min) (hargs : c.args = #[p, q]) (hx : RepV ρ R (.int k x) (a.eval p)) (hy : RepV ρ R (.int k y) (a.eval q)) : Sound P o a ρ R H nx (.pure (.int k (Min.min x y))) := by
  refine sound_pure (v := .int k (Min.min x y)) (fun w => ?_) (.int _ _)
  have hg := hx.int_inv
  have hg' := hy.int_inv
  have e : (if y < x then y else x) = Min.min x y := by rw [Int.min_def]; split <;> split <;> omega
  simp [execOp, ho, resolve, hc, hargs, invoke, builtin, Builtin.min_, Builtin.min2, hg, hg', e]
theorem sound_max {c : Call} {p q : Operand} {k : IntKind} {x y : Int} (ho : o.op = .call c) (hc : c.callee = .builtin .max) (hargs : c.args = #[p, q]) (hx : RepV ρ R (.int k x) (a.eval p)) (hy : RepV ρ R (.int k y) (a.eval q)) : Sound P o a ρ R H nx (.pure (.int k (Max.max x y))) := by
  refine sound_pure (v := .int k (Max.max x y)) (fun w => ?_) (.int _ _)
  have hg := hx.int_inv
  have hg' := hy.int_inv
  have e : (if x < y then y else x) = Max.max x y := by rw [Int.max_def]; split <;> split <;> omega
  simp [execOp, ho, resolve, hc, hargs, invoke, builtin, Builtin.max_, Builtin.max2, hg, hg', e]

/-- slices of slices -/
theorem run_sliceBounds' (lo hi : Option Value) (len cap : Nat) (l h : Int) (hl : match lo with | some v => ∃ k, v = .int k l | none => l = 0) (hh : match hi with | some v => ∃ k, v = .int k h | none => h = len) (h0 : 0 ≤ l) (h1 : l ≤ h) (h2 : h ≤ cap) (w : World) :
    (Instr.sliceBounds true len cap lo hi none).run P w = .ok (l.toNat, h.toNat, cap) w := by
  have e1 : 0 ≤ h := by omega
  cases lo <;> cases hi <;> simp only at hl hh
  · subst hl; subst hh; simp [Instr.sliceBounds]
  · obtain ⟨k, rfl⟩ := hh; subst hl; simp [Instr.sliceBounds, Instr.sliceBound, asIntOf, e1, h2]
  · obtain ⟨k, rfl⟩ := hl; subst hh
    have : l ≤ (len : Int) := h1
    simp [Instr.sliceBounds, Instr.sliceBound, asIntOf, h0, this]
  · obtain ⟨k, rfl⟩ := hl; obtain ⟨k', rfl⟩ := hh
    have : l ≤ max h 0 := by omega
    simp [Instr.sliceBounds, Instr.sliceBound, asIntOf, e1, h2, h0, this]
theorem sound_slice {T E : TypeId} {p : Operand} {lo hi : Option Operand} {i : TypeInfo} {x z : AV} {l h : Int} (ho : o.op = .slice T p lo hi none) (hd : P.underlying T = some (.slice E)) (hi' : P.info? E = some i) (hx : RepV ρ R x (a.eval p))
    (hl : match lo with | some v => ∃ k, a.eval v = .int k l | none => l = 0) (hh : match hi with | some v => ∃ k, a.eval v = .int k h | none => x.len = some h.toNat ∧ 0 ≤ h) (hz : aSlice i.size x l h = some z) : Sound P o a ρ R H nx (.pure z) := by
  have fin : ∀ (A : Option Addr) (len cap : Nat) , a.eval p = .slice A len cap → 0 ≤ l → l ≤ h → h ≤ len → len ≤ cap → (hi = none → h = len) →
      ∀ w, (execOp a.eval o).run P w = .ok (.value (.slice (if cap = l.toNat then A else A.map (·.add (l.toNat * i.size))) (h.toNat - l.toNat) (cap - l.toNat))) w := by
    intro A len cap hg h0 h1 h2 h3 h4 w
    have hb := run_sliceBounds' (P := P) (lo.map a.eval) (hi.map a.eval) len cap l h (by cases lo <;> simpa using hl) (by
      cases hi with
      | none => simpa using h4 rfl
      | some v => simpa using hh) h0 h1 (by omega) w
    simp only [execOp, ho, Option.map_none, Instr.sliceAt, Instr.slice, Sem.run_bind, run_underlying' hd, hg, Result.andThen, hb, run_sizeOf' hi', Sem.run_pure]
  cases x <;> simp only [aSlice] at hz <;> try (cases hz; done)
  · -- nils
    split at hz
    · rename_i hc
      obtain ⟨rfl, rfl⟩ := hc
      cases hz
      generalize hg : a.eval p = pv at hx
      cases hx
      refine sound_pure (fun w => fin none 0 0 hg (by omega) (by omega) (by omega) (by omega) (fun _ => rfl) w) ?_
      simpa using RepV.nils
    · cases hz
  · rename_i lb e off len
    split at hz
    · rename_i hc
      obtain ⟨rfl, h0, h1, h2⟩ := hc
      cases hz
      have h4 : hi = none → h = len := fun e => by subst e; simp [AV.len] at hh; omega
      rcases hx.sl_inv with ⟨L, cap, hL, hlc, ht, hxt, hg⟩ | ⟨rfl, L, ad, hL, hxt, hg⟩
      · refine sound_pure (fun w => fin _ len cap hg h0 h1 h2 hlc h4 w) ?_
        by_cases hcap : cap = l.toNat
        · rw [if_pos hcap]
          have e1 : (h - l).toNat = 0 := by omega
          have e2 : h.toNat - l.toNat = 0 := by omega
          have e3 : cap - l.toNat = 0 := by omega
          rw [e1, e2, e3]
          exact .slz _ _ _ _ L hL (by omega)
        · rw [if_neg hcap]
          have e2 : h.toNat - l.toNat = (h - l).toNat := by omega
          rw [e2]
          have := RepV.sl (ρ := ρ) (R := R) lb i.size (off + l.toNat) (h - l).toNat (cap - l.toNat) L hL (by omega) (by
            rw [show off + l.toNat + (cap - l.toNat) = off + cap by omega]; exact ht) (by omega)
          simpa [add_none, Nat.add_mul, Nat.add_assoc] using this
      · have e0 : l = 0 := by omega
        have e1 : h = 0 := by omega
        subst e0; subst e1
        refine sound_pure (fun w => fin _ 0 0 hg h0 h1 h2 (Nat.le_refl _) h4 w) ?_
        exact .slz _ _ _ _ L hL (by simpa using hxt)
    · cases hz
  · split at hz
    · rename_i hc
      obtain ⟨rfl, rfl⟩ := hc
      cases hz
      generalize hg : a.eval p = pv at hx
      cases hx
      refine sound_pure (fun w => fin _ 0 0 hg (by omega) (by omega) (by omega) (by omega) (fun _ => rfl) w) ?_
      simpa using RepV.sl0 _
    · cases hz
  · rename_i e rows
    split at hz
    · rename_i hc
      obtain ⟨rfl, h0, h1, h2⟩ := hc
      cases hz
      have h4 : hi = none → h = rows.length := fun e => by subst e; simp [AV.len] at hh; omega
      have hlen : ((rows.drop l.toNat).take (h - l).toNat).length = (h - l).toNat := by simp; omega
      rcases hx.isl_inv with ⟨b, o', cap, c, T', fz, g, hlc, hw, hb, hcc, hr, hg⟩ | ⟨rfl, ad, cap, hn, hg⟩
      · refine sound_pure (fun w => fin _ rows.length cap hg h0 h1 h2 hlc h4 w) ?_
        have e2 : h.toNat - l.toNat = (h - l).toNat := by omega
        by_cases hcap : cap = l.toNat
        · rw [if_pos hcap]
          have e1 : (h - l).toNat = 0 := by omega
          rw [e2, e1]
          simp only [List.take_zero]
          exact .isl0 _ _ _ (fun h => by cases h)
        · rw [if_neg hcap, e2]
          have hget : ∀ ii j x, rowsGet ((rows.drop l.toNat).take (h - l).toNat) ii j = some x → rowsGet rows (l.toNat + ii) j = some x := by
            intro ii j x hx
            simp only [rowsGet, List.getElem?_take, List.getElem?_drop] at hx ⊢
            split at hx
            · exact hx
            · simp at hx
          have := RepV.isl (ρ := ρ) (R := R) i.size ((rows.drop l.toNat).take (h - l).toNat) b (o' + l.toNat * i.size) (cap - l.toNat) c T' fz (fun ii j => g (l.toNat + ii) j) (by omega) (fun r hr' => hw r (List.mem_of_mem_drop (List.mem_of_mem_take hr'))) hb (fun ii j x hx => by
              have := hcc _ _ _ (hget ii j x hx)
              rw [← this]; congr 1; rw [Nat.add_mul]; omega) (fun ii j x hx => hr _ _ _ (hget ii j x hx))
          rw [hlen] at this
          simpa [add_none] using this
      · have e0 : l = 0 := by simp at h2; omega
        have e1 : h = 0 := by simp at h2; omega
        subst e0; subst e1
        refine sound_pure (fun w => fin _ 0 cap hg h0 h1 h2 (Nat.zero_le _) (fun _ => by simp) w) ?_
        simp only [List.drop_nil, List.take_nil]
        by_cases hcap : cap = 0
        · subst hcap; exact .isl0 _ _ _ (fun _ => rfl)
        · cases ad with
          | none => exact absurd (hn rfl) hcap
          | some ad => simp [hcap]; exact .isl0 _ _ _ (fun h => by cases h)
    · cases hz
theorem sound_slice3 {T E : TypeId} {p hi mx : Operand} {lo : Option Operand} {i : TypeInfo} {x z : AV} (ho : o.op = .slice T p lo (some hi) (some mx)) (hd : P.underlying T = some (.slice E)) (hi' : P.info? E = some i) (hx : RepV ρ R x (a.eval p))
    (hl : match lo with | some v => ∃ k, a.eval v = .int k 0 | none => True) (hh : ∃ k, a.eval hi = .int k 0) (hm : ∃ k, a.eval mx = .int k 0) (hz : aSlice3 x 0 0 0 = some z) : Sound P o a ρ R H nx (.pure z) := by
  obtain ⟨k1, hh⟩ := hh
  obtain ⟨k2, hm⟩ := hm
  have fin : ∀ (A : Option Addr) (len cap : Nat) , a.eval p = .slice A len cap → ∀ w, (execOp a.eval o).run P w = .ok (.value (.slice A 0 0)) w := by
    intro A len cap hg w
    have hb : (Instr.sliceBounds true len cap (lo.map a.eval) (some (.int k1 0)) (some (.int k2 0))).run P w = .ok (0, 0, 0) w := by
      cases lo with
      | none => simp [Instr.sliceBounds, Instr.sliceBound, asIntOf]
      | some v => obtain ⟨k, hv⟩ := hl; simp [Instr.sliceBounds, Instr.sliceBound, asIntOf, hv]
    simp [execOp, ho, hh, hm, Instr.sliceAt, Instr.slice, run_underlying' hd, hg, hb, run_sizeOf' hi']
  simp only [aSlice3, and_self, if_true] at hz
  generalize hg : a.eval p = pv at hx
  cases hx <;> simp only at hz <;> try (cases hz; done)
  all_goals
    cases hz
    refine sound_pure (fun w => fin _ _ _ hg w) ?_
    first | exact .nils | exact .sl0 _

theorem sound_mkslice {T E : TypeId} {p q : Operand} {i : TypeInfo} {z : Value} {zs : List AV} {k k' : IntKind} {n c : Int} (ho : o.op = .makeSlice T p q) (hd : P.underlying T = some (.slice E)) (hi : P.info? E = some i) (hz : i.zero = some z) (hsz : z.cells.size = i.size) (hzs : ofCs z.cells.toList = some zs)
    (hx : RepV ρ R (.int k n) (a.eval p)) (hy : RepV ρ R (.int k' c) (a.eval q)) (hc : 0 < i.size ∧ 0 ≤ n ∧ n ≤ c ∧ c * i.bytes ≤ 281474976710656 ∧ c ≤ 9223372036854775807) :
    Sound P o a ρ R H nx (aNew i.size (List.replicate c.toNat zs) (.sl nx i.size 0 n.toNat) nx) := by
  obtain ⟨hpos, h0, h1, h2, h3⟩ := hc
  have hg := hx.int_inv
  have hg' := hy.int_inv
  have hzr := rep_ofCs (ρ := ρ) (R := R) hzs
  have hzl := hzr.1
  simp only [Array.length_toList] at hzl
  have wrapId : ∀ m : Int, 0 ≤ m → m ≤ 9223372036854775807 → IntKind.i64.wrap m = m := by
    intro m hm1 hm2
    have e : IntKind.i64.wrap m = if 9223372036854775808 ≤ m % 18446744073709551616 then m % 18446744073709551616 - 18446744073709551616 else m % 18446744073709551616 := by simp [IntKind.wrap, IntKind.bits, IntKind.signed]
    rw [e]; split <;> omega
  have w1 := wrapId n h0 (by omega)
  have w2 := wrapId c (by omega) h3
  refine sound_new (O := .cells ((Array.range (c.toNat * i.size)).map (z.cells[· % z.cells.size]!)) E) (c.toNat * i.size) c.toNat (fun w => ⟨.slice (some ⟨w.heap.size, 0, none⟩) n.toNat c.toNat, ?_, fun ρ' _ h => ?_⟩) (fun b => ?_)
  · have g5 : ¬ (281474976710656 < (i.bytes : Int) * c) := by rw [Int.mul_comm]; omega
    have g1 : ¬ c < 0 := by omega
    have g2 : ¬ n < 0 := by omega
    have g3 : ¬ c < n := by omega
    have g4 : ¬ (2 ^ 48 < (i.bytes : Int) * c) := by
      have : (2 : Int) ^ 48 = 281474976710656 := by decide
      rw [this, Int.mul_comm]; omega
    by_cases hz0 : c.toNat * i.size = 0
    · have e0 : ∀ f : Nat → Value, (Array.range 0).map f = #[] := fun f => by simp
      simp [execOp, ho, hg, hg', Instr.makeSlice, run_underlying' hd, asInt, asIntOf, typeInfo, hi, w1, w2, g1, g2, g3, g5, run_sizeOf' hi, hz0, e0, newRow]
    · simp [execOp, ho, hg, hg', Instr.makeSlice, run_underlying' hd, asInt, asIntOf, typeInfo, hi, w1, w2, g1, g2, g3, g5, run_sizeOf' hi, hz0, run_zero' hi hz, newRow]
  · have := RepV.sl (R := R) nx i.size 0 n.toNat c.toNat _ h (by omega) (by simp) (by simp)
    simpa using this
  · refine ⟨rfl, by simp, fun r hr => by rw [(List.mem_replicate.1 hr).2]; exact ⟨by omega, ofCs_one hzs⟩, by simp, fun ii j x hx => ?_⟩
    simp only [rowsGet, List.getElem?_replicate] at hx
    split at hx
    · rename_i hii
      simp only [Option.bind_some] at hx
      have hj : j < zs.length := (List.getElem?_eq_some_iff.1 hx).1
      obtain ⟨v, hv, hr⟩ := hzr.2 j x hx
      refine ⟨v, ?_, hr⟩
      have hlt : ii * i.size + j < c.toNat * i.size := by
        have : (ii + 1) * i.size ≤ c.toNat * i.size := Nat.mul_le_mul_right _ hii
        rw [Nat.add_mul, Nat.one_mul] at this
        omega
      have hmod : (ii * i.size + j) % z.cells.size = j := by
        rw [hsz, Nat.mul_comm, Nat.mul_add_mod]
        exact Nat.mod_eq_of_lt (by omega)
      simp only [Nat.zero_add, Array.getElem?_map, Array.getElem?_range, hlt, if_true, Option.map_some, hmod]
      have hv' : z.cells[j]? = some v := by simpa using hv
      simp [getElem!_def, hv']
    · simp at hx

/-- a call of a function -/
def callC (P : Program) (f : FuncId) (args : Array Value) (w : World) (K : Value → World → Prop) : Prop := Calls P f args w (fun e w' => ∃ v, e = .returned v ∧ K v w')
def Callable (P : Program) (f : FuncId) : Prop := ∃ fn, P.funcs[f]? = some fn ∧ fn.body.isNone = false ∧ (fn.name == "runtime.NumGoroutine") = false
/-- what is asked of the calls that the abstract machine makes -/
def CallOk (P : Program) (call : CallF) : Prop := ∀ f xs H nx r, call f xs H nx = some r → Callable P f ∧ (∀ l, r.u.has l → restr H r.foot l ≠ none ∨ Under nx l) ∧
  ∀ ρ R vs, RepL ρ R xs vs → Does (callC P f vs.toArray) (restr H r.foot) r.u (Under nx) ρ R r.x
theorem sound_call {call : CallF} (hcall : CallOk P call) {c : Call} {g : Operand} {xs : List AV} (ho : o.op = .call c) (hc : c.callee = .value g) (hx : RepL ρ R xs (a.eval g :: (c.args.map a.eval).toList)) (h : aCall call xs H nx = some r) : Sound P o a ρ R H nx r := by
  cases xs with
  | nil => simp [aCall] at h
  | cons x xs =>
    obtain ⟨v, us, he, hv, hus⟩ := hx.head
    simp only [List.cons.injEq] at he
    obtain ⟨rfl, rfl⟩ := he
    cases x <;> simp only [aCall] at h <;> try (cases h; done)
    rename_i f first captured
    cases f <;> simp only at h <;> try (cases h; done)
    rename_i f
    obtain ⟨⟨fn, hf, hb, hn⟩, h2, h3⟩ := hcall _ _ _ _ _ h
    refine ⟨h2, ?_⟩
    generalize hg : a.eval g = gv at hv
    cases hv with | fn _ _ _ F C hF hC hf1 hf2 => ?_
    have hrF : RepL ρ R first F.toList := ⟨by simpa using hF, fun k x hk => by
      have hk' : k < F.size := by have := (List.getElem?_eq_some_iff.1 hk).1; omega
      have := hf1 k x hk
      exact ⟨F[k], by simp [hk'], by simpa [Array.getD, hk'] using this⟩⟩
    have hrC : RepL ρ R captured C.toList := ⟨by simpa using hC, fun k x hk => by
      have hk' : k < C.size := by have := (List.getElem?_eq_some_iff.1 hk).1; omega
      have := hf2 k x hk
      exact ⟨C[k], by simp [hk'], by simpa [Array.getD, hk'] using this⟩⟩
    have hall := (hrF.append hus).append hrC
    intro w hR hfr
    have hd := h3 ρ R _ hall w hR hfr
    have e : (F.toList ++ (c.args.map a.eval).toList ++ C.toList).toArray = F ++ c.args.map a.eval ++ C := by
      apply Array.ext'; simp
    rw [e] at hd
    intro next Q hnext
    unfold Oper.wp
    have hrun : (execOp a.eval o).run P w = .ok (.enter f (F ++ c.args.map a.eval ++ C)) w := by
      have hn' : ¬ fn.name = "runtime.NumGoroutine" := by simpa using hn
      have hb' : ¬ fn.body = none := by intro e; rw [e] at hb; cases hb
      simp [execOp, ho, resolve, hc, hg, Deferred.ofValue, invoke, callFunc, hf, hn', hb']
    rw [hrun]
    simp only [Oper.upon]
    refine Calls.mono hd ?_
    rintro e w' ⟨v, rfl, hK⟩
    exact hnext v w' hK
end
end Go.Proofs.Ytbngfbpegdcpkaa
