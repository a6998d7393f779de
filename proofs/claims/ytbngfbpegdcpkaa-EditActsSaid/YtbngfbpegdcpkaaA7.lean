/- The abstract machine: what only reckons. -/
import Derived.Test.YtbngfbpegdcpkaaA6
namespace Go.Proofs.Ytbngfbpegdcpkaa
set_option linter.unusedVariables false
set_option linter.unusedSimpArgs false
section
variable {P : Program} {o : Oper} {a : Act} {ρ : Locs} {R : Imm} {H : Heap} {nx : Lab} {r : Res}

theorem RepV.ptr_inv {l : Lab} {e i j : Nat} {v : Value} (h : RepV ρ R (.ptr l e i j) v) : ∃ L, ρ l = some L ∧ v = .pointer (some ⟨L.blk, L.off + (i * e + j), none⟩) := by
  cases h; exact ⟨_, by assumption, rfl⟩
theorem RepV.int_inv {k : IntKind} {n : Int} {v : Value} (h : RepV ρ R (.int k n) v) : v = .int k n := by cases h; rfl
theorem RepV.bool_inv {b : Bool} {v : Value} (h : RepV ρ R (.bool b) v) : v = .bool b := by cases h; rfl
theorem RepV.str_inv {b : ByteArray} {v : Value} (h : RepV ρ R (.str b) v) : v = .string b := by cases h; rfl
theorem RepV.iptr_inv {e i j : Nat} {rows : List (List AV)} {v : Value} (h : RepV ρ R (.iptr e rows i j) v) : ∃ b o c T fz, ∃ g : Nat → Nat → Value, R b = some (.cells c T fz) ∧ (∀ i j x, rowsGet rows i j = some x → c[o + (i * e + j)]? = some (g i j)) ∧ (∀ i j x, rowsGet rows i j = some x → RepV ρ R x (g i j)) ∧ v = .pointer (some ⟨b, o + (i * e + j), none⟩) := by
  cases h; exact ⟨_, _, _, _, _, _, by assumption, by assumption, by assumption, rfl⟩
theorem RepV.sl_inv {l : Lab} {e off len : Nat} {v : Value} (h : RepV ρ R (.sl l e off len) v) : (∃ L cap, ρ l = some L ∧ len ≤ cap ∧ L.off + (off + cap) * e ≤ L.top ∧ L.ext ≤ off + cap ∧ v = .slice (some ⟨L.blk, L.off + off * e, none⟩) len cap) ∨ (len = 0 ∧ ∃ L ad, ρ l = some L ∧ L.ext ≤ off ∧ v = .slice (some ad) 0 0) := by
  cases h
  · exact .inl ⟨_, _, by assumption, by assumption, by assumption, by assumption, rfl⟩
  · exact .inr ⟨rfl, _, _, by assumption, by assumption, rfl⟩
theorem RepV.isl_inv {e : Nat} {rows : List (List AV)} {v : Value} (h : RepV ρ R (.isl e rows) v) : (∃ b o cap c T fz, ∃ g : Nat → Nat → Value, rows.length ≤ cap ∧ (∀ r ∈ rows, RowOk e r) ∧ R b = some (.cells c T fz) ∧ (∀ i j x, rowsGet rows i j = some x → c[o + (i * e + j)]? = some (g i j)) ∧ (∀ i j x, rowsGet rows i j = some x → RepV ρ R x (g i j)) ∧ v = .slice (some ⟨b, o, none⟩) rows.length cap) ∨
    (rows = [] ∧ ∃ ad cap, (ad = none → cap = 0) ∧ v = .slice ad 0 cap) := by
  cases h
  · exact .inr ⟨rfl, _, _, by assumption, rfl⟩
  · exact .inl ⟨_, _, _, _, _, _, _, by assumption, by assumption, by assumption, by assumption, by assumption, rfl⟩
theorem sound_nilCheck {p : Operand} {x : AV} (ho : o.op = .nilCheck p) (hx : RepV ρ R x (a.eval p)) (h : x.nonNil = true) : Sound P o a ρ R H nx (.pure x) := by
  refine sound_pure (v := a.eval p) (fun w => ?_) hx
  generalize hg : a.eval p = pv at hx
  cases hx <;> simp only [AV.nonNil] at h <;> first | (cases h; done) | skip
  · simp [execOp, ho, hg]
  · simp [execOp, ho, hg]
  · rename_i f _ _ _ _ _ _ _ _
    cases f <;> first | (cases h; done) | simp [execOp, ho, hg]
theorem arith_rep {k : IntKind} {n : Int} {z : AV} (h : arith k n = some z) : RepV ρ R z (.int k (k.wrap n)) := by
  unfold arith at h
  split at h
  · split at h
    · rename_i hin
      cases h
      have : IntKind.i64.wrap n = n := by
        simp only [inR, Bool.and_eq_true, decide_eq_true_eq] at hin
        have e : IntKind.i64.wrap n = if 9223372036854775808 ≤ n % 18446744073709551616 then n % 18446744073709551616 - 18446744073709551616 else n % 18446744073709551616 := by simp [IntKind.wrap, IntKind.bits, IntKind.signed]
        rw [e]
        split <;> omega
      rw [this]
      exact .int _ _
    · cases h
  · cases h; exact .int _ _

theorem run_binI {op : BinOp} {k k' : IntKind} {x y : Int} {T : TypeId} {c : Cls} {z : AV} (w : World) (h : aBin op c (.int k x) (.int k' y) = some z) : ∃ v, (binOp op T (.int k x) (.int k' y)).run P w = .ok v w ∧ RepV ρ R z v := by
  simp only [aBin] at h
  split at h
  · split at h
    · rename_i h0
      cases h
      refine ⟨_, ?_, .int _ _⟩
      have : ¬ y < 0 := by omega
      simp [binOp, Op.shift, this]
    · cases h
  · split at h
    · rename_i h0
      cases h
      refine ⟨_, ?_, .int _ _⟩
      have : ¬ y < 0 := by omega
      simp [binOp, Op.shift, this]
    · cases h
  · rename_i hne1 hne2
    split at h
    · rename_i hk
      subst hk
      cases op <;> simp only [aBinI] at h
      all_goals try (first | (exact absurd rfl hne1) | (exact absurd rfl hne2))
      · exact ⟨_, by simp [binOp, Op.intArith], arith_rep h⟩
      · exact ⟨_, by simp [binOp, Op.intArith], arith_rep h⟩
      · exact ⟨_, by simp [binOp, Op.intArith], arith_rep h⟩
      · split at h
        · cases h
        · rename_i h0; exact ⟨_, by simp [binOp, Op.intDiv, h0], arith_rep h⟩
      · split at h
        · cases h
        · rename_i h0; cases h; exact ⟨_, by simp [binOp, Op.intDiv, h0], .int _ _⟩
      · cases h; exact ⟨_, by simp [binOp, Op.intBits], .int _ _⟩
      · cases h; exact ⟨_, by simp [binOp, Op.intBits], .int _ _⟩
      · cases h; exact ⟨_, by simp [binOp, Op.intBits], .int _ _⟩
      · cases h; exact ⟨_, by simp [binOp, Op.intBits], .int _ _⟩
      · cases h; exact ⟨.bool (decide (x = y)), by simp [binOp, Op.intCmp]; rfl, .bool _⟩
      · cases h; exact ⟨.bool (!decide (x = y)), by simp [binOp, Op.intCmp, bne]; rfl, .bool _⟩
      · cases h; exact ⟨_, by simp [binOp, Op.intCmp], .bool _⟩
      · cases h; exact ⟨_, by simp [binOp, Op.intCmp], .bool _⟩
      · cases h; exact ⟨_, by simp [binOp, Op.intCmp], .bool _⟩
      · cases h; exact ⟨_, by simp [binOp, Op.intCmp], .bool _⟩
    · cases h
theorem eqNeq_rep {op : BinOp} {b : Bool} {z : AV} (h : eqNeq op b = some z) : (op = .eql ∧ z = .bool b) ∨ (op = .neq ∧ z = .bool (!b)) := by
  cases op <;> simp [eqNeq] at h
  · exact .inl ⟨rfl, h.symm⟩
  · exact .inr ⟨rfl, h.symm⟩
/-- equality by the type's own rule -/
theorem run_binEq {op : BinOp} {b : Bool} {z : AV} {T : TypeId} {u v : Value} (w : World) (h : eqNeq op b = some z) (hb : binOp .eql T u v = (do pure (.bool (← Op.equal T u v))) ∧ binOp .neq T u v = (do pure (.bool (!(← Op.equal T u v)))))
    (he : (Op.equal T u v).run P w = .ok b w) : ∃ x, (binOp op T u v).run P w = .ok x w ∧ RepV ρ R z x := by
  rcases eqNeq_rep h with ⟨rfl, rfl⟩ | ⟨rfl, rfl⟩
  · rw [hb.1]; exact ⟨_, by simp [he], .bool _⟩
  · rw [hb.2]; exact ⟨_, by simp [he], .bool _⟩
def clsOk (P : Program) (T : TypeId) : Cls → Bool
  | .num => true
  | .bool => match P.underlying T with | some .bool => true | _ => false
  | .ptr => match P.underlying T with | some (.pointer _) => true | _ => false
  | .slice => match P.underlying T with | some (.slice _) => true | _ => false
  | .map => match P.underlying T with | some (.map _ _) => true | _ => false
  | .func => match P.underlying T with | some (.func _ _ _) => true | _ => false
theorem run_equal_of {T : TypeId} {u v : Value} {w : World} {r : Result Bool} (h : ∀ d, (Op.equalIn (d + 1) T u v).run P w = r) : (Op.equal T u v).run P w = r := h 9999
theorem cls_bool {T : TypeId} (h : clsOk P T .bool = true) : P.underlying T = some .bool := by
  simp only [clsOk] at h; split at h <;> first | assumption | cases h
theorem cls_ptr {T : TypeId} (h : clsOk P T .ptr = true) : ∃ E, P.underlying T = some (.pointer E) := by
  simp only [clsOk] at h; split at h <;> first | exact ⟨_, by assumption⟩ | cases h
theorem cls_slice {T : TypeId} (h : clsOk P T .slice = true) : ∃ E, P.underlying T = some (.slice E) := by
  simp only [clsOk] at h; split at h <;> first | exact ⟨_, by assumption⟩ | cases h
theorem cls_map {T : TypeId} (h : clsOk P T .map = true) : ∃ K E, P.underlying T = some (.map K E) := by
  simp only [clsOk] at h; split at h <;> first | exact ⟨_, _, by assumption⟩ | cases h
theorem cls_func {T : TypeId} (h : clsOk P T .func = true) : ∃ A B C, P.underlying T = some (.func A B C) := by
  simp only [clsOk] at h; split at h <;> first | exact ⟨_, _, _, by assumption⟩ | cases h
theorem eq_bool {T : TypeId} (h : P.underlying T = some .bool) (x y : Bool) (w : World) : (Op.equal T (.bool x) (.bool y)).run P w = .ok (x == y) w := run_equal_of fun d => by simp [Op.equalIn, run_underlying' h]
theorem eq_ptr {T E : TypeId} (h : P.underlying T = some (.pointer E)) (x y : Option Addr) (w : World) (hn : x = none ∨ y = none) : (Op.equal T (.pointer x) (.pointer y)).run P w = .ok (x.isNone && y.isNone) w := run_equal_of fun d => by
  cases x <;> cases y <;> simp at hn <;> simp [Op.equalIn, run_underlying' h]
theorem eq_slice {T E : TypeId} (h : P.underlying T = some (.slice E)) (x y : Option Addr) (a b c d : Nat) (w : World) (hn : x = none ∨ y = none) : (Op.equal T (.slice x a b) (.slice y c d)).run P w = .ok (x.isNone && y.isNone) w := run_equal_of fun d => by
  cases x <;> cases y <;> simp at hn <;> simp [Op.equalIn, run_underlying' h]
theorem eq_map {T K E : TypeId} (h : P.underlying T = some (.map K E)) (x y : Option Nat) (w : World) (hn : x = none ∨ y = none) : (Op.equal T (.map x) (.map y)).run P w = .ok (x.isNone && y.isNone) w := run_equal_of fun d => by
  cases x <;> cases y <;> simp at hn <;> simp [Op.equalIn, run_underlying' h]
theorem eq_func1 {T : TypeId} {A B : Array TypeId} {C : Bool} (h : P.underlying T = some (.func A B C)) (w : World) : (Op.equal T .nilFunc .nilFunc).run P w = .ok true w := run_equal_of fun d => by simp [Op.equalIn, run_underlying' h]
theorem eq_func2 {T : TypeId} {A B : Array TypeId} {C : Bool} (h : P.underlying T = some (.func A B C)) (f : Fn) (x y : Array Value) (w : World) : (Op.equal T .nilFunc (.func f x y)).run P w = .ok false w := run_equal_of fun d => by simp [Op.equalIn, run_underlying' h]
theorem eq_func3 {T : TypeId} {A B : Array TypeId} {C : Bool} (h : P.underlying T = some (.func A B C)) (f : Fn) (x y : Array Value) (w : World) : (Op.equal T (.func f x y) .nilFunc).run P w = .ok false w := run_equal_of fun d => by simp [Op.equalIn, run_underlying' h]
def AV.kind : AV → Nat
  | .nilp => 1 | .ptr .. | .iptr .. => 2
  | .nils => 3 | .sl .. => 4
  | .nilm => 5 | .map _ => 6
  | .nilf => 7 | .fn .. => 8
  | _ => 0
theorem rep_ptr {x : AV} {u : Value} (h : RepV ρ R x u) (hk : x.kind = 1 ∨ x.kind = 2) : ∃ ad, u = .pointer ad ∧ ad.isNone = decide (x.kind = 1) := by
  cases h <;> simp [AV.kind] at hk <;> exact ⟨_, rfl, rfl⟩
theorem rep_slice {x : AV} {u : Value} (h : RepV ρ R x u) (hk : x.kind = 3 ∨ x.kind = 4) : ∃ ad n c, u = .slice ad n c ∧ ad.isNone = decide (x.kind = 3) := by
  cases h <;> simp [AV.kind] at hk <;> exact ⟨_, _, _, rfl, rfl⟩
theorem rep_map {x : AV} {u : Value} (h : RepV ρ R x u) (hk : x.kind = 5 ∨ x.kind = 6) : ∃ ad, u = .map ad ∧ ad.isNone = decide (x.kind = 5) := by
  cases h <;> simp [AV.kind] at hk <;> exact ⟨_, rfl, rfl⟩
theorem aBin_kinds {op : BinOp} {c : Cls} {x y z : AV} (h : aBin op c x y = some z) (h0 : x.kind ≠ 0) :
    (c = .ptr ∧ (x.kind = 1 ∨ x.kind = 2) ∧ (y.kind = 1 ∨ y.kind = 2) ∧ (x.kind = 1 ∨ y.kind = 1) ∧ eqNeq op (decide (x.kind = 1) && decide (y.kind = 1)) = some z) ∨
    (c = .slice ∧ (x.kind = 3 ∨ x.kind = 4) ∧ (y.kind = 3 ∨ y.kind = 4) ∧ (x.kind = 3 ∨ y.kind = 3) ∧ eqNeq op (decide (x.kind = 3) && decide (y.kind = 3)) = some z) ∨
    (c = .map ∧ (x.kind = 5 ∨ x.kind = 6) ∧ (y.kind = 5 ∨ y.kind = 6) ∧ (x.kind = 5 ∨ y.kind = 5) ∧ eqNeq op (decide (x.kind = 5) && decide (y.kind = 5)) = some z) ∨
    (c = .func ∧ ((x = .nilf ∧ y = .nilf ∧ eqNeq op true = some z) ∨ (x = .nilf ∧ y.kind = 8 ∧ eqNeq op false = some z) ∨ (x.kind = 8 ∧ y = .nilf ∧ eqNeq op false = some z))) := by
  cases x <;> first | (exact absurd rfl h0) | skip
  all_goals cases y <;> simp only [aBin] at h <;> first | (cases h; done) | (split at h <;> first | (cases h; done) | (rename_i e; subst e; simp [AV.kind, h]))
theorem run_bin {op : BinOp} {x y : AV} {u v : Value} {T : TypeId} {c : Cls} {z : AV} (w : World) (hc : clsOk P T c = true) (hx : RepV ρ R x u) (hy : RepV ρ R y v) (h : aBin op c x y = some z) : ∃ t, (binOp op T u v).run P w = .ok t w ∧ RepV ρ R z t := by
  by_cases h0 : x.kind = 0
  · cases x <;> first | (simp [AV.kind] at h0; done) | skip
    all_goals cases y <;> simp only [aBin] at h <;> try (cases h; done)
    · split at h
      · rename_i e; subst e
        rw [hx.bool_inv, hy.bool_inv]
        exact run_binEq w h ⟨rfl, rfl⟩ (eq_bool (cls_bool hc) _ _ w)
      · cases h
    · rw [hx.int_inv, hy.int_inv]
      exact run_binI (c := c) w (by simpa only [aBin] using h)
    · rw [hx.str_inv, hy.str_inv]
      rcases eqNeq_rep h with ⟨rfl, rfl⟩ | ⟨rfl, rfl⟩ <;> exact ⟨_, by simp [binOp, Op.stringOp], .bool _⟩
  · rcases aBin_kinds h h0 with ⟨rfl, h1, h2, h3, h4⟩ | ⟨rfl, h1, h2, h3, h4⟩ | ⟨rfl, h1, h2, h3, h4⟩ | ⟨rfl, h5⟩
    · obtain ⟨E, hu⟩ := cls_ptr hc
      obtain ⟨p, rfl, hp⟩ := rep_ptr hx h1
      obtain ⟨q, rfl, hq⟩ := rep_ptr hy h2
      rw [← hp, ← hq] at h4
      exact run_binEq w h4 ⟨rfl, rfl⟩ (eq_ptr hu _ _ w (by rcases h3 with h3 | h3 <;> simp [h3] at hp hq <;> simp [*]))
    · obtain ⟨E, hu⟩ := cls_slice hc
      obtain ⟨p, _, _, rfl, hp⟩ := rep_slice hx h1
      obtain ⟨q, _, _, rfl, hq⟩ := rep_slice hy h2
      rw [← hp, ← hq] at h4
      exact run_binEq w h4 ⟨rfl, rfl⟩ (eq_slice hu _ _ _ _ _ _ w (by rcases h3 with h3 | h3 <;> simp [h3] at hp hq <;> simp [*]))
    · obtain ⟨K, E, hu⟩ := cls_map hc
      obtain ⟨p, rfl, hp⟩ := rep_map hx h1
      obtain ⟨q, rfl, hq⟩ := rep_map hy h2
      rw [← hp, ← hq] at h4
      exact run_binEq w h4 ⟨rfl, rfl⟩ (eq_map hu _ _ w (by rcases h3 with h3 | h3 <;> simp [h3] at hp hq <;> simp [*]))
    · obtain ⟨A, B, C, hu⟩ := cls_func hc
      rcases h5 with ⟨rfl, rfl, h5⟩ | ⟨rfl, hk, h5⟩ | ⟨hk, rfl, h5⟩
      · cases hx; cases hy; exact run_binEq w h5 ⟨rfl, rfl⟩ (eq_func1 hu w)
      · cases hx
        cases hy <;> simp [AV.kind] at hk
        exact run_binEq w h5 ⟨rfl, rfl⟩ (eq_func2 hu _ _ _ w)
      · cases hy
        cases hx <;> simp [AV.kind] at hk
        exact run_binEq w h5 ⟨rfl, rfl⟩ (eq_func3 hu _ _ _ w)
def AV.plain : AV → Bool
  | .agg _ | .tuple _ => false
  | _ => true
theorem aBin_plain {op : BinOp} {c : Cls} {x y z : AV} (h : aBin op c x y = some z) : x.plain = true := by
  cases x <;> first | rfl | (cases y <;> simp [aBin] at h)
theorem sound_bin {op : BinOp} {T T' : TypeId} {p q : Operand} {x y z : AV} {c : Cls} (ho : o.op = .binOp op T p q T') (hc : clsOk P T c = true) (hx : RepV ρ R x (a.eval p)) (hy : RepV ρ R y (a.eval q)) (h : aBin op c x y = some z) : Sound P o a ρ R H nx (.pure z) := by
  have key : ∀ w, ∃ t, (execOp a.eval o).run P w = .ok (.value t) w ∧ RepV ρ R z t := by
    intro w
    obtain ⟨t, h1, h2⟩ := run_bin (P := P) (T := T) w hc hx hy h
    refine ⟨t, ?_, h2⟩
    have hg : (eqGuard op T p q (a.eval p) (a.eval q)).run P w = .ok () w := by
      have hp := aBin_plain h
      generalize a.eval p = u at hx
      generalize a.eval q = v
      cases hx <;> first | (simp [AV.plain] at hp; done) | (cases op <;> simp [eqGuard])
    simp [execOp, ho, hg, h1]
  refine ⟨fun l hl => absurd hl (not_has_nil l), fun w hR _ => ?_⟩
  obtain ⟨t, h1, h2⟩ := key w
  exact opC_value h1 ⟨ρ, R, Fut.refl _ _ _ _ _, h2, hR⟩
theorem sound_not {T : TypeId} {p : Operand} {b : Bool} (ho : o.op = .unOp .not T p) (hx : RepV ρ R (.bool b) (a.eval p)) : Sound P o a ρ R H nx (.pure (.bool (!b))) := by
  refine sound_pure (v := .bool (!b)) (fun w => ?_) (.bool _)
  generalize hg : a.eval p = pv at hx
  cases hx
  simp [execOp, ho, hg, Op.unary]
theorem sound_neg {T : TypeId} {p : Operand} {k : IntKind} {n : Int} {z : AV} (ho : o.op = .unOp .neg T p) (hx : RepV ρ R (.int k n) (a.eval p)) (h : arith k (0 - n) = some z) : Sound P o a ρ R H nx (.pure z) := by
  refine sound_pure (v := .int k (k.wrap (0 - n))) (fun w => ?_) (arith_rep h)
  generalize hg : a.eval p = pv at hx
  cases hx
  simp [execOp, ho, hg, Op.unary, Op.intArith]
theorem sound_conv {S T : TypeId} {p : Operand} {k k' : IntKind} {n : Int} {z : AV} {d : TypeDesc} (ho : o.op = .convert S T p) (hs : P.underlying S = some d) (ht : P.underlying T = some (.int k)) (hx : RepV ρ R (.int k' n) (a.eval p)) (h : arith k n = some z) : Sound P o a ρ R H nx (.pure z) := by
  refine sound_pure (v := .int k (k.wrap n)) (fun w => ?_) (arith_rep h)
  generalize hg : a.eval p = pv at hx
  cases hx
  cases d <;> simp [execOp, ho, hg, convert, run_underlying' hs, run_underlying' ht, Conv.intToInt]
theorem sound_mkfn {f : Fn} {first captured : Array Operand} {xs : List AV} {nf : Nat} (ho : o.op = .makeFunc f first captured) (hn : first.size = nf) (hx : RepL ρ R xs ((first.map a.eval).toList ++ (captured.map a.eval).toList)) : Sound P o a ρ R H nx (.pure (.fn f (xs.take nf) (xs.drop nf))) := by
  have h1 := hx.take nf
  have h2 := hx.drop nf
  have e1 : ((first.map a.eval).toList ++ (captured.map a.eval).toList).take nf = (first.map a.eval).toList := List.take_left' (by simp [hn])
  have e2 : ((first.map a.eval).toList ++ (captured.map a.eval).toList).drop nf = (captured.map a.eval).toList := List.drop_left' (by simp [hn])
  rw [e1] at h1
  rw [e2] at h2
  refine sound_pure (v := .func f (first.map a.eval) (captured.map a.eval)) (fun w => ?_) (by have := h1.fn (f := f) h2; simpa only [Array.toArray_toList] using this)
  simp [execOp, ho, Instr.makeFunc]
theorem sound_fieldAddr {T : TypeId} {p : Operand} {n : Nat} {fs : Array Field} {f : Field} {i : TypeInfo} {x z : AV} (ho : o.op = .fieldAddr T p n) (hd : P.underlying T = some (.struct fs)) (hf : fs[n]? = some f) (hi : P.info? f.type = some i) (h0 : i.size ≠ 0) (hx : RepV ρ R x (a.eval p)) (h : aFieldAddr f.offset x = some z) :
    Sound P o a ρ R H nx (.pure z) := by
  cases x <;> simp only [aFieldAddr] at h <;> try (cases h; done)
  · cases h
    rename_i l e ii j
    obtain ⟨L, hL, hg⟩ := hx.ptr_inv
    refine sound_pure (v := .pointer (some ⟨L.blk, L.off + (ii * e + (j + f.offset)), none⟩)) (fun w => ?_) (.ptr _ _ _ _ _ hL)
    simp [execOp, ho, Instr.fieldAt, run_underlying' hd, hf, hg, Instr.sureAddr, fieldPlace, run_sizeOf' hi, h0, add_none, Nat.add_assoc]
  · cases h
    rename_i e rows ii j
    obtain ⟨b, o', c, T', fz, g, hb, hc, hr, hg⟩ := hx.iptr_inv
    refine sound_pure (v := .pointer (some ⟨b, o' + (ii * e + (j + f.offset)), none⟩)) (fun w => ?_) (.iptr _ _ _ _ _ _ _ _ _ _ hb hc hr)
    simp [execOp, ho, Instr.fieldAt, run_underlying' hd, hf, hg, Instr.sureAddr, fieldPlace, run_sizeOf' hi, h0, add_none, Nat.add_assoc]
theorem sound_field {T : TypeId} {p : Operand} {n : Nat} {fs : Array Field} {f : Field} {i : TypeInfo} {d : TypeDesc} {cs : List AV} {z : AV} (ho : o.op = .field T p n) (hd : P.underlying T = some (.struct fs)) (hf : fs[n]? = some f) (hi : P.info? f.type = some i) (hft : P.underlying f.type = some d)
    (h1 : aggD d = false → i.size = 1) (hx : RepV ρ R (.agg cs) (a.eval p)) (hle : f.offset + i.size ≤ cs.length) (h : wrapCells (aggD d) ((cs.drop f.offset).take i.size) = some z) : Sound P o a ρ R H nx (.pure z) := by
  obtain ⟨vs, hv, hr⟩ := hx.agg_inv
  have hl := hr.1
  have hsub := (hr.drop f.offset).take i.size
  have hw := wrap_agg h hsub.1 hsub.2
  refine sound_pure (fun w => ?_) hw
  have ha := run_isAgg' (P := P) hft w
  cases hagg : aggD d with
  | true =>
    rw [hagg] at ha
    have e : vs.toArray.extract f.offset (f.offset + i.size) = ((vs.drop f.offset).take i.size).toArray := by
      apply Array.ext'
      simp [List.extract_eq_take_drop]
    simp [execOp, ho, Instr.field, run_underlying' hd, hf, hv, asAgg, part, ha, run_sizeOf' hi]
  | false =>
    rw [hagg] at ha
    have hs := h1 hagg
    have hlt : f.offset < vs.length := by omega
    simp [execOp, ho, Instr.field, run_underlying' hd, hf, hv, asAgg, part, ha, hlt, hs]
theorem sound_indexAddr {T E : TypeId} {p q : Operand} {i : TypeInfo} {x y z : AV} (ho : o.op = .indexAddr T p q) (hd : P.underlying T = some (.slice E)) (hi : P.info? E = some i) (hx : RepV ρ R x (a.eval p)) (hy : RepV ρ R y (a.eval q)) (h : aIndexAddr i.size x y = some z) : Sound P o a ρ R H nx (.pure z) := by
  cases x <;> cases y <;> simp only [aIndexAddr] at h <;> try (cases h; done)
  · rename_i l e off len k n
    split at h
    · rename_i hc
      obtain ⟨rfl, h0, h1⟩ := hc
      cases h
      have hg' := hy.int_inv
      rcases hx.sl_inv with ⟨L, cap, hL, hl, ht, _, hg⟩ | ⟨rfl, _⟩
      · refine sound_pure (v := .pointer (some ⟨L.blk, L.off + ((off + n.toNat) * i.size + 0), none⟩)) (fun w => ?_) (.ptr _ _ _ _ _ hL)
        simp [execOp, ho, hg, hg', Instr.indexAt, asIntOf, run_underlying' hd, h0, h1, run_sizeOf' hi, add_none, Nat.add_mul, Nat.add_assoc]
      · omega
    · cases h
  · rename_i e rows k n
    split at h
    · rename_i hc
      obtain ⟨rfl, h0, h1⟩ := hc
      cases h
      have hg' := hy.int_inv
      rcases hx.isl_inv with ⟨b, o', cap, c, T', fz, g, hl, hw, hb, hcc, hr, hg⟩ | ⟨rfl, _⟩
      · refine sound_pure (v := .pointer (some ⟨b, o' + (n.toNat * i.size + 0), none⟩)) (fun w => ?_) (.iptr _ _ _ _ _ _ _ _ _ _ hb hcc hr)
        simp [execOp, ho, hg, hg', Instr.indexAt, asIntOf, run_underlying' hd, h0, h1, run_sizeOf' hi, add_none]
      · simp at h1; omega
    · cases h
theorem sound_strAt {T : TypeId} {p q : Operand} {s : ByteArray} {k : IntKind} {n : Int} {b : UInt8} (ho : o.op = .index T p q) (hd : P.underlying T = some .string) (hx : RepV ρ R (.str s) (a.eval p)) (hy : RepV ρ R (.int k n) (a.eval q)) (h0 : 0 ≤ n) (h : s[n.toNat]? = some b) : Sound P o a ρ R H nx (.pure (.int .u8 b.toNat)) := by
  have hg' := hy.int_inv
  generalize hg : a.eval p = v at hx
  cases hx
  refine sound_pure (v := .int .u8 b.toNat) (fun w => ?_) (.int _ _)
  simp [execOp, ho, hg, hg', Instr.index, asIntOf, run_underlying' hd, h0, h]
theorem sound_indexAddrA {T E : TypeId} {len : Nat} {p q : Operand} {i : TypeInfo} {x y z : AV} (ho : o.op = .indexAddr T p q) (hd : P.underlying T = some (.array len E)) (hi : P.info? E = some i) (hx : RepV ρ R x (a.eval p)) (hy : RepV ρ R y (a.eval q)) (h : aIndexAddrA i.size len x y = some z) : Sound P o a ρ R H nx (.pure z) := by
  cases x <;> cases y <;> simp only [aIndexAddrA] at h <;> try (cases h; done)
  · rename_i l e ii j k n
    split at h
    · rename_i hc
      obtain ⟨h0, h1⟩ := hc
      cases h
      have hg' := hy.int_inv
      obtain ⟨L, hL, hg⟩ := hx.ptr_inv
      refine sound_pure (v := .pointer (some ⟨L.blk, L.off + (ii * e + (j + n.toNat * i.size)), none⟩)) (fun w => ?_) (.ptr _ _ _ _ _ hL)
      simp [execOp, ho, hg, hg', Instr.indexAt, asIntOf, run_underlying' hd, h0, h1, run_sizeOf' hi, add_none, Instr.sureAddr, Nat.add_assoc]
    · cases h
  · rename_i e rows ii j k n
    split at h
    · rename_i hc
      obtain ⟨h0, h1⟩ := hc
      cases h
      have hg' := hy.int_inv
      obtain ⟨b, o', c, T', fz, g, hb, hcc, hr, hg⟩ := hx.iptr_inv
      refine sound_pure (v := .pointer (some ⟨b, o' + (ii * e + (j + n.toNat * i.size)), none⟩)) (fun w => ?_) (.iptr _ _ _ _ _ _ _ _ _ _ hb hcc hr)
      simp [execOp, ho, hg, hg', Instr.indexAt, asIntOf, run_underlying' hd, h0, h1, run_sizeOf' hi, add_none, Instr.sureAddr, Nat.add_assoc]
    · cases h
theorem sound_extract {p : Operand} {i : Nat} {cs : List AV} {z : AV} (ho : o.op = .extract p i) (hx : RepV ρ R (.tuple cs) (a.eval p)) (h : cs[i]? = some z) : Sound P o a ρ R H nx (.pure z) := by
  obtain ⟨vs, hv, hr⟩ := hx.tuple_inv
  obtain ⟨v, h1, h2⟩ := hr.2 i z h
  refine sound_pure (v := v) (fun w => ?_) h2
  simp [execOp, ho, Instr.extract, hv, h1]
end
end Go.Proofs.Ytbngfbpegdcpkaa
