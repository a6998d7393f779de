/- The abstract machine: regions are sound. -/
import Derived.Test.YtbngfbpegdcpkaaA10
namespace Go.Proofs.Ytbngfbpegdcpkaa
set_option linter.unusedVariables false
set_option linter.unusedSimpArgs false
section
variable {P : Program} {o : Oper} {a : Act} {ρ : Locs} {R : Imm} {n : Nat} {ops : Array Oper}

theorem argOf_rep {x : Operand} {y : AArg} {r : RL} {v : AV} (h : argOf x = some y) (hv : evArg r y = some v) (hx : ∀ t, x = .tmp t → ∀ z, rget r t = some z → RepV ρ R z (a.tmps.getD t undef)) : RepV ρ R v (a.eval x) := by
  cases x <;> simp only [argOf] at h
  · cases h; exact hx _ rfl v hv
  · simp only [Option.map_eq_some_iff] at h
    obtain ⟨z, hz, rfl⟩ := h
    simp only [evArg, Option.some.injEq] at hv
    subst hv
    exact rep_ofC hz
  · cases h
  · cases h
    simp only [evArg, Option.some.injEq] at hv
    subst hv
    exact (RepL.fn (f := .func _) .nil .nil)
theorem argsOf_rep : ∀ {xs : List Operand} {ys : List AArg} {r : RL} {vs : List AV}, argsOf xs = some ys → evArgs r ys = some vs → (∀ x ∈ xs, ∀ t, x = .tmp t → ∀ z, rget r t = some z → RepV ρ R z (a.tmps.getD t undef)) → RepL ρ R vs (xs.map a.eval)
  | [], ys, r, vs, h, hv, _ => by
    simp only [argsOf, Option.some.injEq] at h; subst h
    simp only [evArgs, Option.some.injEq] at hv; subst hv
    exact .nil
  | x :: xs, ys, r, vs, h, hv, hx => by
    simp only [argsOf, Option.bind_eq_some_iff, Option.some.injEq] at h
    obtain ⟨y, hy, ys', hys, rfl⟩ := h
    simp only [evArgs, Option.bind_eq_some_iff, Option.some.injEq] at hv
    obtain ⟨v, hv, vs', hvs, rfl⟩ := hv
    exact .cons (argOf_rep hy hv (hx x (by simp))) (argsOf_rep hys hvs (fun z hz => hx z (by simp [hz])))
theorem compK_sub {k : AK} {xs : List Operand} (h : compK P o = some (k, xs)) : ∀ x ∈ xs, x ∈ o.op.operands := by
  have fin : ∀ {k' : AK} {ys : List Operand}, (∀ x ∈ ys, x ∈ o.op.operands) → some (k', ys) = some (k, xs) → ∀ x ∈ xs, x ∈ o.op.operands := by
    intro k' ys h1 h2; cases h2; exact h1
  unfold compK at h
  split at h
  case h_32 => exact fin (by simp) h
  all_goals (rename_i ho; rw [ho] at fin ⊢)
  · exact fin (by simp [Op.operands]) h
  · exact fin (by simp [Op.operands]) h
  · exact fin (by simp [Op.operands]) h
  · simp only [Option.bind_eq_some_iff] at h
    obtain ⟨_, _, _, _, _, _, h⟩ := h
    exact fin (by simp) h
  · exact fin (by simp [Op.operands]) h
  · split at h
    · simp only [Option.bind_eq_some_iff] at h
      obtain ⟨_, _, _, _, _, _, _, _, h⟩ := h
      split at h
      · exact fin (by simp [Op.operands]) h
      · cases h
    · cases h
  · split at h
    · simp only [Option.bind_eq_some_iff] at h
      obtain ⟨_, _, _, _, _, _, h⟩ := h
      split at h
      · exact fin (by simp [Op.operands]) h
      · cases h
    · cases h
  · simp only [Option.bind_eq_some_iff] at h
    obtain ⟨_, _, _, _, h⟩ := h
    split at h
    · exact fin (by simp [Op.operands]) h
    · cases h
  · simp only [Option.bind_eq_some_iff] at h
    obtain ⟨_, _, h⟩ := h
    exact fin (by simp [Op.operands]) h
  · exact fin (by simp [Op.operands]) h
  · simp only [Option.bind_eq_some_iff] at h
    obtain ⟨_, _, h⟩ := h
    split at h
    · unfold eqK at h
      split at h
      · simp only [Option.bind_eq_some_iff] at h
        obtain ⟨_, _, h⟩ := h
        split at h
        · exact fin (by simp [Op.operands]) h
        · cases h
      · exact fin (by simp) h
    · exact fin (by simp [Op.operands]) h
  · exact fin (by simp [Op.operands]) h
  · exact fin (by simp [Op.operands]) h
  · simp only [Option.bind_eq_some_iff] at h
    obtain ⟨_, _, h⟩ := h
    split at h
    · exact fin (by simp [Op.operands]) h
    · cases h
  · exact fin (by simp [Op.operands]) h
  · split at h
    · simp only [Option.bind_eq_some_iff] at h
      obtain ⟨_, _, _, _, _, _, h⟩ := h
      split at h
      · exact fin (by simp [Op.operands]) h
      · cases h
    · cases h
  · split at h
    · simp only [Option.bind_eq_some_iff] at h
      obtain ⟨_, _, h⟩ := h
      exact fin (by simp [Op.operands]) h
    · cases h
  · split at h
    · simp only [Option.bind_eq_some_iff] at h
      obtain ⟨_, _, _, _, h⟩ := h
      split at h
      · cases h
      · exact fin (by simp [Op.operands]) h
    · cases h
  · split at h
    · simp only [Option.bind_eq_some_iff] at h
      obtain ⟨_, _, _, _, _, _, h⟩ := h
      split at h
      · exact fin (by simp [Op.operands]) h
      · cases h
    · cases h
  · split at h
    · simp only [Option.bind_eq_some_iff] at h
      obtain ⟨_, _, h⟩ := h
      exact fin (by simp [Op.operands]) h
    · simp only [Option.bind_eq_some_iff] at h
      obtain ⟨_, _, h⟩ := h
      exact fin (by simp [Op.operands]) h
    · cases h
  · exact fin (by simp [Op.operands]) h
  · split at h
    · rename_i hc
      refine fin (fun x hx => ?_) h
      simp [Op.operands, Call.operands, hc] at hx ⊢
      exact hx
    · rename_i hc
      simp only [Option.bind_eq_some_iff] at h
      obtain ⟨_, _, h⟩ := h
      repeat' (first | (cases h; done) | (split at h))
      all_goals first
        | (cases h; done)
        | (refine fin (fun x hx => ?_) h; simp [Op.operands, Call.operands, hc] at hx ⊢; exact hx)
    · rename_i hc
      split at h
      · refine fin (fun x hx => ?_) h
        simp [Op.operands, Call.operands, hc] at hx ⊢; exact hx
      · cases h
    · rename_i hc
      split at h
      · refine fin (fun x hx => ?_) h
        simp [Op.operands, Call.operands, hc] at hx ⊢; exact hx
      · cases h
    · rename_i hc
      unfold appK at h
      split at h
      · simp only [Option.bind_eq_some_iff] at h
        obtain ⟨_, _, _, _, h⟩ := h
        split at h
        · simp only [Option.bind_eq_some_iff] at h
          obtain ⟨_, _, _, _, h⟩ := h
          split at h
          · refine fin (fun x hx => ?_) h
            simp [Op.operands, Call.operands, hc] at hx ⊢; exact hx
          · cases h
        · exact fin (by simp) h
      · cases h
    · rename_i hc
      unfold delK at h
      split at h
      · simp only [Option.bind_eq_some_iff] at h
        obtain ⟨T, hT, h⟩ := h
        obtain ⟨K, E, D, ks, i, z, zero, _, _, _, _, _, _, h⟩ := mapK_inv h
        refine fin (fun x hx => ?_) h
        simp [Op.operands, Call.operands, hc] at hx ⊢; exact hx
      · cases h
    · exact fin (by simp) h
  · obtain ⟨K, E, D, ks, i, z, zero, _, _, _, _, _, _, h⟩ := mapK_inv h
    exact fin (by simp [Op.operands]) h
  · obtain ⟨K, E, D, ks, i, z, zero, _, _, _, _, _, _, h⟩ := mapK_inv h
    exact fin (by simp [Op.operands]) h
  · obtain ⟨K, E, D, ks, i, z, zero, _, _, _, _, _, _, h⟩ := mapK_inv h
    exact fin (by simp [Op.operands]) h
  · split at h
    · exact fin (by simp [Op.operands]) h
    · cases h
  · exact fin (by simp [Op.operands]) h
  · exact fin (by simp [Op.operands]) h
  · exact fin (by simp) h
  · split at h
    · exact fin (by simp [Op.operands]) h
    · cases h
  · split at h
    · exact fin (by simp [Op.operands]) h
    · exact fin (by simp) h

def ResLab (H : Heap) (q : Lab) (r : Res) : Prop := ∀ l, r.u.has l → restr H r.foot l ≠ none ∨ Under q l
theorem lab_pure {H : Heap} {q : Lab} {x : AV} : ResLab H q (.pure x) := fun l hl => absurd hl (not_has_nil l)
theorem lab_new {H : Heap} {q : Lab} {e : Nat} {rs : List (List AV)} {x : AV} : ResLab H q (aNew e rs x q) := fun l hl => .inr (by rw [has_one hl]; exact .self _)
theorem lab_read {H : Heap} {q : Lab} {x : AV} {ls : List Lab} : ResLab H q ⟨x, [], some ls⟩ := fun l hl => absurd hl (not_has_nil l)
theorem lab_upd {H : Heap} {q l : Lab} {x : AV} {ob ob' : AO} (h : H l = some ob) : ResLab H q ⟨x, [(l, some ob')], some [l]⟩ := fun k hk => .inl (by rw [has_one hk]; simp [restr, h])
theorem aLoad_lab {m : Nat} {agg : Bool} {x : AV} {H : Heap} {q : Lab} {r : Res} (h : aLoad m agg x H q = some r) : ResLab H q r := by
  unfold aLoad at h
  split at h
  · split at h
    · split at h
      · simp only [Option.bind_eq_some_iff, Option.some.injEq] at h
        obtain ⟨_, _, _, _, rfl⟩ := h
        exact lab_read
      · cases h
    · cases h
  · simp only [Option.bind_eq_some_iff, Option.some.injEq] at h
    obtain ⟨_, _, _, _, rfl⟩ := h
    exact lab_pure
  · cases h
theorem aStore_lab {m : Nat} {x y : AV} {H : Heap} {q : Lab} {r : Res} (h : aStore m x y H q = some r) : ResLab H q r := by
  unfold aStore at h
  split at h
  · split at h
    · rename_i hl
      split at h
      · split at h
        · split at h
          · simp only [Option.some.injEq] at h; subst h
            exact lab_upd hl
          · cases h
        · cases h
      · cases h
    · cases h
  · cases h
theorem aLen_lab {c : Cls} {x : AV} {H : Heap} {q : Lab} {r : Res} (h : aLen c x H q = some r) : ResLab H q r := by
  unfold aLen at h
  split at h
  · split at h
    · simp only [Option.some.injEq] at h; subst h; exact lab_read
    · cases h
  · simp only [Option.some.injEq] at h; subst h; exact lab_pure
  · simp only [Option.map_eq_some_iff] at h
    obtain ⟨_, _, rfl⟩ := h; exact lab_pure
  · simp only [Option.some.injEq] at h; subst h; exact lab_pure
  · cases h
theorem aAppend_lab {e b : Nat} {x y : AV} {H : Heap} {q : Lab} {r : Res} (h : aAppend e b x y H q = some r) : ResLab H q r := by
  simp only [aAppend, Option.bind_eq_some_iff] at h
  obtain ⟨src, hsrc, h⟩ := h
  split at h
  · split at h <;> first | (cases h; done) | (simp only [Option.some.injEq] at h; subst h; exact lab_pure)
  · split at h
    · split at h
      · simp only [Option.some.injEq] at h; subst h
        exact fun l hl => .inr (by rw [has_one hl]; exact .self _)
      · cases h
    · split at h
      · simp only [Option.some.injEq] at h; subst h
        exact fun l hl => .inr (by rw [has_one hl]; exact .self _)
      · cases h
    · split at h
      · rename_i hl
        split at h
        · simp only [Option.some.injEq] at h; subst h
          intro k hk
          obtain ⟨pr, hp, rfl⟩ := hk
          simp at hp
          rcases hp with rfl | rfl
          · exact .inr (.self _)
          · exact .inl (by simp [restr, hl])
        · cases h
      · cases h
    · cases h
theorem aLookup_lab {agg ok : Bool} {ks : List CK} {z m k : AV} {H : Heap} {q : Lab} {r : Res} (h : aLookup agg ks z ok m k H = some r) : ResLab H q r := by
  unfold aLookup at h
  split at h
  · split at h
    · simp only [Option.some.injEq] at h; subst h; exact lab_pure
    · split at h
      · simp only [Option.bind_eq_some_iff] at h
        obtain ⟨c, hc, h⟩ := h
        split at h <;> (simp only [Option.some.injEq] at h; subst h; exact lab_read)
      · simp only [Option.bind_eq_some_iff] at h
        obtain ⟨c, hc, h⟩ := h
        split at h <;> first | (cases h; done) | (simp only [Option.some.injEq] at h; subst h; exact lab_read)
      · cases h
    · cases h
  · cases h
theorem aMapUpdate_lab {agg : Bool} {ks : List CK} {m k x : AV} {H : Heap} {q : Lab} {r : Res} (h : aMapUpdate agg ks m k x H = some r) : ResLab H q r := by
  unfold aMapUpdate at h
  split at h
  · split at h
    · split at h
      · rename_i hl
        simp only [Option.bind_eq_some_iff] at h
        obtain ⟨c, hc, h⟩ := h
        split at h <;> (simp only [Option.some.injEq] at h; subst h; exact lab_upd hl)
      · cases h
    · cases h
  · cases h
theorem aDelete_lab {agg : Bool} {ks : List CK} {m k : AV} {H : Heap} {q : Lab} {r : Res} (h : aDelete agg ks m k H = some r) : ResLab H q r := by
  unfold aDelete at h
  split at h
  · split at h
    · simp only [Option.some.injEq] at h; subst h; exact lab_pure
    · split at h
      · rename_i hl
        simp only [Option.bind_eq_some_iff] at h
        obtain ⟨c, hc, h⟩ := h
        split at h <;> (simp only [Option.some.injEq] at h; subst h; first | exact lab_upd hl | exact lab_read)
      · cases h
    · cases h
  · cases h
theorem aRange_lab {m : AV} {H : Heap} {q : Lab} {r : Res} (h : aRange m H q = some r) : ResLab H q r := by
  unfold aRange at h
  repeat' (first | (cases h; done) | (simp only [Option.some.injEq] at h; subst h; exact fun l hl => .inr (by rw [has_one hl]; exact .self _)) | (split at h))
theorem aEntry_lab {x : AV} {H : Heap} {q : Lab} {r : Res} (h : aEntry x H = some r) : ResLab H q r := by
  unfold aEntry at h
  repeat' (first | (cases h; done) | (simp only [Option.bind_eq_some_iff, Option.map_eq_some_iff] at h; obtain ⟨_, _, _, _, _, _, rfl⟩ := h; exact lab_read) | (split at h))
theorem aNext_lab {x : AV} {H : Heap} {q : Lab} {r : Res} (h : aNext x H = some r) : ResLab H q r := by
  unfold aNext at h
  split at h
  · split at h
    · simp only [Option.some.injEq] at h; subst h; exact lab_read
    · rename_i hr
      split at h
      · split at h
        · split at h
          · simp only [Option.some.injEq] at h; subst h; exact lab_read
          · simp only [Option.some.injEq] at h; subst h
            exact fun k hk => .inl (by rw [has_one hk]; simp [restr, hr])
          · cases h
        · cases h
      · cases h
    · cases h
  · cases h
theorem aop_lab {call : CallF} (hcall : CallOk P call) {k : AK} {xs : List AV} {H : Heap} {q : Lab} {r : Res} (h : aop call k xs H q = some r) : ResLab H q r := by
  unfold aop at h
  split at h
  all_goals first
    | (cases h; done)
    | (simp only [Option.some.injEq] at h; subst h; first | exact lab_pure | exact lab_new)
    | exact aLoad_lab h
    | exact aStore_lab h
    | exact aLen_lab h
    | exact aAppend_lab h
    | exact aLookup_lab h
    | exact aMapUpdate_lab h
    | exact aDelete_lab h
    | exact aRange_lab h
    | exact aEntry_lab h
    | exact aNext_lab h
    | (simp only [Option.some.injEq] at h; subst h; exact fun l hl => .inr (by rw [has_one hl]; exact .self _))
    | (simp only [Option.bind_eq_some_iff, Option.map_eq_some_iff] at h; obtain ⟨_, _, _, _, rfl⟩ := h; exact lab_pure)
    | (simp only [Option.map_eq_some_iff] at h; obtain ⟨_, _, rfl⟩ := h; exact lab_pure)
    | (split at h <;> first | (cases h; done) | (simp only [Option.some.injEq] at h; subst h; first | exact lab_pure | exact lab_new) | (simp only [Option.map_eq_some_iff] at h; obtain ⟨_, _, rfl⟩ := h; exact lab_pure))
    | (simp only [Option.bind_eq_some_iff] at h; obtain ⟨_, _, h⟩ := h; split at h <;> first | (cases h; done) | (simp only [Option.some.injEq] at h; subst h; exact lab_new))
    | skip
  unfold aCall at h
  split at h
  · exact (hcall _ _ _ _ _ h).2.1
  · cases h
theorem compIns_look {i : AIns} (h : compIns P n ops o = some i) : ∃ xs, compK P o = some (i.k, xs) ∧ argsOf xs = some i.xs ∧ guardOf ops o = some i.guard ∧ i.dst = o.dst ∧ (∀ d, o.dst = some d → d < n) ∧
    (∀ x ∈ xs, ∀ t, x = .tmp t → t ∈ o.looksAt ops) ∧ (∀ g want, i.guard = some (g, want) → g ∈ o.looksAt ops) := by
  unfold compIns at h
  simp only [Option.bind_eq_some_iff] at h
  obtain ⟨⟨k, xs⟩, hk, ys, hys, g, hg, h⟩ := h
  split at h
  · rename_i hd
    simp only [Option.some.injEq] at h
    subst h
    refine ⟨xs, hk, hys, hg, rfl, fun d hd' => ?_, fun x hx t ht => ?_, fun t want he => ?_⟩
    · rw [hd'] at hd; simpa [dstOk] using hd
    · subst ht
      have := compK_sub hk _ hx
      exact List.mem_append_left _ (List.mem_filterMap.2 ⟨.tmp t, by simpa using this, rfl⟩)
    · simp only at he
      subst he
      unfold guardOf at hg
      split at hg
      · cases hg
      · rename_i j w' hgd
        simp only [Option.bind_eq_some_iff, Option.some.injEq, Prod.mk.injEq] at hg
        obtain ⟨t', ⟨oj, hoj, hdj⟩, rfl, rfl⟩ := hg
        refine List.mem_append_right _ ?_
        simp [hgd, hoj, hdj]
  · cases h
theorem wanted_none {i : AIns} (hg : guardOf ops o = some i.guard) (h : i.guard = none) (y : Nat → Option Bool) : Region.wanted o y = true := by
  rw [h] at hg
  unfold guardOf at hg
  unfold Region.wanted
  split at hg
  · rename_i h1; rw [h1]
  · simp only [Option.bind_eq_some_iff] at hg
    obtain ⟨_, _, h2⟩ := hg
    cases h2
theorem wanted_some {i : AIns} {t : Nat} {want : Bool} {x : AV} (hg : guardOf ops o = some i.guard) (h : i.guard = some (t, want)) (hx : RepV ρ R x (a.tmps.getD t undef)) :
    (∀ b, x = .bool b → Region.wanted o (yielded ops a.tmps) = decide (b = want)) ∧ (x = .tuple [] → Region.wanted o (yielded ops a.tmps) = false) := by
  rw [h] at hg
  unfold guardOf at hg
  split at hg
  · cases hg
  · rename_i j w' hgd
    simp only [Option.bind_eq_some_iff, Option.some.injEq, Prod.mk.injEq] at hg
    obtain ⟨t', ⟨oj, hoj, hdj⟩, rfl, rfl⟩ := hg
    constructor
    · intro b hb
      subst hb
      have hv := hx.bool_inv
      have : a.tmps[t']? = some (.bool b) := by
        cases hq : a.tmps[t']? with
        | none => simp [Array.getD_eq_getD_getElem?, hq, undef] at hv
        | some v => simp [Array.getD_eq_getD_getElem?, hq] at hv; rw [hv]
      simp [Region.wanted, hgd, yielded, hoj, hdj, this]
      cases b <;> cases w' <;> rfl
    · intro hb
      subst hb
      obtain ⟨vs, hv, _⟩ := hx.tuple_inv
      have : yielded ops a.tmps j = none := by
        unfold yielded
        simp only [hoj, Option.bind_some, hdj]
        cases hq : a.tmps[t']? with
        | none => rfl
        | some v =>
          simp [Array.getD_eq_getD_getElem?, hq] at hv
          rw [hv]
      simp [Region.wanted, hgd, this]

/-- what is known of an operation once it is reckoned out -/
theorem ins_ok {call : CallF} (hcall : CallOk P call) {H0 : Heap} {p : Lab} {i : AIns} {s : ASt} {rc : Rc} (hi : compIns P n ops o = some i) (h : evalIns call H0 p i s = some rc) :
    rc.q = s.c :: p ∧
    (rc.skip = true → rc.x = .tuple [] ∧ rc.u = [] ∧ rc.foot = some [] ∧ ∀ ρ R a, Look ops o (rget s.regs) ρ R a → a.tmps.size = n → Region.wanted o (yielded ops a.tmps) = false) ∧
    (rc.skip = false → (∀ l, rc.u.has l → restr (upd s.ov H0) rc.foot l ≠ none ∨ Under rc.q l) ∧
      ∀ ρ R a, Look ops o (rget s.regs) ρ R a → a.tmps.size = n → Region.wanted o (yielded ops a.tmps) = true ∧ Does (opC P o a) (restr (upd s.ov H0) rc.foot) rc.u (Under rc.q) ρ R rc.x) := by
  obtain ⟨xs, hk, hxs, hg, hd, hdn, hl1, hl2⟩ := compIns_look hi
  have run : ∀ rc, runIns call H0 p i s = some rc → rc.q = s.c :: p ∧ rc.skip = false ∧ (∀ l, rc.u.has l → restr (upd s.ov H0) rc.foot l ≠ none ∨ Under rc.q l) ∧
      ∀ ρ R a, Look ops o (rget s.regs) ρ R a → Does (opC P o a) (restr (upd s.ov H0) rc.foot) rc.u (Under rc.q) ρ R rc.x := by
    intro rc hr
    unfold runIns at hr
    simp only [Option.bind_eq_some_iff, Option.some.injEq] at hr
    obtain ⟨vs, hvs, r, hr, rfl⟩ := hr
    have key : ∀ ρ R a, Look ops o (rget s.regs) ρ R a → Sound P o a ρ R (upd s.ov H0) (s.c :: p) r := by
      intro ρ R a hlook
      exact aop_sound hcall hk (argsOf_rep hxs hvs (fun x hx t ht z hz => hlook t (hl1 x hx t ht) z hz)) hr
    refine ⟨rfl, rfl, ?_, fun ρ R a hlook => (key ρ R a hlook).2⟩
    -- the labels do not hang on the frame
    exact aop_lab hcall hr
  unfold evalIns at h
  split at h
  · rename_i hgn
    obtain ⟨h1, h2, h3, h4⟩ := run rc h
    refine ⟨h1, (fun e => by rw [h2] at e; cases e), fun _ => ⟨h3, fun ρ R a hlook hs => ⟨wanted_none hg hgn _, h4 ρ R a hlook⟩⟩⟩
  · rename_i g want hgn
    have hgl := hl2 g want hgn
    split at h
    · rename_i b hb
      split at h
      · rename_i hw
        obtain ⟨h1, h2, h3, h4⟩ := run rc h
        refine ⟨h1, (fun e => by rw [h2] at e; cases e), fun _ => ⟨h3, fun ρ R a hlook hs => ⟨?_, h4 ρ R a hlook⟩⟩⟩
        rw [(wanted_some hg hgn (hlook g hgl _ hb)).1 b rfl]
        simp [hw]
      · rename_i hw
        cases h
        refine ⟨rfl, fun _ => ⟨rfl, rfl, rfl, fun ρ R a hlook hs => ?_⟩, (fun e => by cases e)⟩
        rw [(wanted_some hg hgn (hlook g hgl _ hb)).1 b rfl]
        simp [hw]
    · rename_i hb
      cases h
      refine ⟨rfl, fun _ => ⟨rfl, rfl, rfl, fun ρ R a hlook hs => ?_⟩, (fun e => by cases e)⟩
      exact (wanted_some hg hgn (hlook g hgl _ hb)).2 rfl
    · cases h
end
end Go.Proofs.Ytbngfbpegdcpkaa
