/- The abstract machine: code whose callees may be taken as they were proved, and whose state may be taken for a weaker one. -/
import Derived.Test.YtbngfbpegdcpkaaA14
import Derived.Test.YtbngfbpegdcpkaaA12n
namespace Go.Proofs.Ytbngfbpegdcpkaa
set_option linter.unusedVariables false
set_option linter.unusedSimpArgs false

/-- a state that may be taken for another one -/
def Weak (H0 : Heap) (p : Lab) (s s' : ASt) : Prop := ∀ {n : Nat} {ρ0 : Locs} {R0 : Imm} {w0 : World} {ρ : Locs} {R : Imm} {a : Act} {w : World}, Rep H0 ρ0 R0 w0 → (∀ l, Under p l → ρ0 l = none) → Inv n H0 ρ0 R0 w0 p s ρ R a w → ∃ ρ' R', Inv n H0 ρ0 R0 w0 p s' ρ' R' a w
theorem Weak.refl (H0 : Heap) (p : Lab) (s : ASt) : Weak H0 p s s := fun _ _ h => ⟨_, _, h⟩
theorem Weak.trans {H0 : Heap} {p : Lab} {s s' s'' : ASt} (h : Weak H0 p s s') (k : Weak H0 p s' s'') : Weak H0 p s s'' := fun a b c => by
  obtain ⟨_, _, h1⟩ := h a b c
  exact k a b h1
/-- a map whose entries' order is forgotten -/
theorem weak_bag {H0 : Heap} {p : Lab} {r : RL} {ov ov' : Chg} {c : Nat} {l : Lab} {es E : List (AV × AV)} {bs : List Nat} {ck : Nat} (hl : upd ov H0 l = some (.amap es bs ck)) (hp : es.Perm E) (ho : upd ov' H0 = upd [(l, some (.bag E))] (upd ov H0)) : Weak H0 p ⟨r, ov, c⟩ ⟨r, ov', c⟩ := fun h0 hf hI => by
  rename_i n ρ0 R0 w0 ρ R a w
  have hk : ∀ k o, upd [(l, some (.bag E))] (upd ov H0) k = some o → (k = l ∧ o = .bag E) ∨ (k ≠ l ∧ upd ov H0 k = some o) := fun k o h => by
    by_cases e : k = l
    · subst e; simp [upd] at h; exact .inl ⟨rfl, h.symm⟩
    · simp [upd, e] at h; exact .inr ⟨e, h⟩
  have hex : ∀ k o, upd [(l, some (.bag E))] (upd ov H0) k = some o → ∃ o', upd ov H0 k = some o' := fun k o h => by
    rcases hk k o h with ⟨rfl, _⟩ | ⟨_, h⟩
    · exact ⟨_, hl⟩
    · exact ⟨_, h⟩
  have hR := hI.rs.heap
  refine ⟨ρ, R, ⟨hI.rs.size, hI.rs.defers, hI.rs.regs, ?_⟩, hI.fut, hI.fresh, fun k o h => ?_⟩
  · simp only
    rw [ho]
    refine ⟨fun k o h => ?_, fun k k' o o' L L' h h' => ?_, fun k o L h hL => ?_, hR.imm⟩
    · rcases hk k o h with ⟨rfl, rfl⟩ | ⟨_, h⟩
      · obtain ⟨L, O, h1, h2, h3⟩ := hR.own _ _ hl
        refine ⟨L, O, h1, h2, ?_⟩
        cases O <;> simp only [RepO] at h3 ⊢
        obtain ⟨g1, g2, g3, _, g4⟩ := h3
        exact ⟨es, hp, g1, g2, g3, g4⟩
      · exact hR.own k o h
    · obtain ⟨o1, h1⟩ := hex k o h
      obtain ⟨o2, h2⟩ := hex k' o' h'
      exact hR.sep k k' o1 o2 L L' h1 h2
    · obtain ⟨o1, h1⟩ := hex k o h
      exact hR.dis k o1 L h1 hL
  · rw [ho] at h
    obtain ⟨o1, h1⟩ := hex k o h
    exact hI.lab k o1 h1
/-- operations whose outcome is left open: what each outcome is to lead to -/
def dop (k : AK) (xs : List AV) (H : Heap) (K : AV → Chg → Prop) : Prop := match k, xs with
  | .bin .eql .slice, [.isl _ rows, .nils] => ∀ b : Bool, (rows ≠ [] → b = false) → K (.bool b) []
  | .mnext, [.ptr r 1 0 0] => ∃ l since seen st es bs ck, H r = some (.iter (some l) since seen st) ∧ H l = some (.amap es bs ck) ∧ (bs.all (fun b => decide (b < since)) = true ∧ since ≤ st) ∧
      (aLeft es bs seen = [] → K (.tuple [.bool false]) []) ∧ ∀ e b, (e, b) ∈ aLeft es bs seen → K (.tuple [.bool true, e.1, e.2]) [(r, some (.iter (some l) since (seen ++ [b]) ck))]
  | _, _ => False
theorem dop_mono {k : AK} {xs : List AV} {H : Heap} {K K' : AV → Chg → Prop} (hK : ∀ x u, K x u → K' x u) (h : dop k xs H K) : dop k xs H K' := by
  unfold dop at h ⊢
  split at h
  · intro b hb; exact hK _ _ (h b hb)
  · obtain ⟨l, since, seen, st, es, bs, ck, h1, h2, h3, h4, h5⟩ := h
    exact ⟨l, since, seen, st, es, bs, ck, h1, h2, h3, fun e => hK _ _ (h4 e), fun e b hb => hK _ _ (h5 e b hb)⟩
  · exact h.elim
section
open Go.ChangeMaps (setBlock)
variable {P : Program} {o : Oper} {a : Act} {ρ : Locs} {R : Imm} {H : Heap}
theorem compK_bin {op : BinOp} {c : Cls} {ops : List Operand} (h : compK P o = some (.bin op c, ops)) : ∃ T p q T' d, o.op = .binOp op T p q T' ∧ P.underlying T = some d ∧ clsOf d = c ∧ ops = [p, q] := by
  unfold compK at h
  split at h
  all_goals repeat' (first | (cases h; done) | (simp only [Option.bind_eq_some_iff] at h) | (refine Exists.elim h ?_; clear h; intro _ h) | (refine And.elim ?_ h; clear h; intro _ h) | (unfold mapK at h) | (unfold appK at h) | (unfold delK at h) | (unfold eqK at h) | split at h)
  all_goals (cases h; exact ⟨_, _, _, _, _, by assumption, by assumption, rfl, rfl⟩)
theorem compK_next {ops : List Operand} (h : compK P o = some (.mnext, ops)) : ∃ p, o.op = .next p false ∧ ops = [p] := by
  unfold compK at h
  split at h
  all_goals repeat' (first | (cases h; done) | (simp only [Option.bind_eq_some_iff] at h) | (refine Exists.elim h ?_; clear h; intro _ h) | (refine And.elim ?_ h; clear h; intro _ h) | (unfold mapK at h) | (unfold appK at h) | (unfold delK at h) | (unfold eqK at h) | split at h)
  all_goals (cases h; exact ⟨_, by assumption, rfl⟩)
theorem dop_sound {k : AK} {ops : List Operand} {xs : List AV} {K : AV → Chg → Prop} {w : World} (hk : compK P o = some (k, ops)) (hx : RepL ρ R xs (ops.map a.eval)) (h : dop k xs H K) (hR : Rep H ρ R w) :
    opC P o a w (fun v w' => ∃ x u ρ' R', K x u ∧ (∀ l, u.has l → H l ≠ none) ∧ Fut H ρ R w (fun _ => False) ρ' R' w' ∧ RepV ρ' R' x v ∧ Rep (upd u H) ρ' R' w') := by
  unfold dop at h
  split at h
  · -- a slice against none
    rename_i e rows
    obtain ⟨T, p, q, T', d, ho, hd, hcl, rfl⟩ := compK_bin hk
    obtain ⟨E, hE⟩ : ∃ E, P.underlying T = some (.slice E) := by
      cases d <;> simp [clsOf] at hcl
      exact ⟨_, hd⟩
    obtain ⟨u, us, he, hu, hus⟩ := hx.head
    obtain ⟨v, vs, he2, hv, _⟩ := hus.head
    simp only [List.map_cons, List.map_nil, List.cons.injEq] at he
    obtain ⟨rfl, rfl⟩ := he
    simp only [List.cons.injEq] at he2
    obtain ⟨rfl, _⟩ := he2
    have key : ∀ ad n cap, a.eval p = .slice ad n cap → (rows ≠ [] → ad.isNone = false) → opC P o a w (fun v w' => ∃ x u ρ' R', K x u ∧ (∀ l, u.has l → H l ≠ none) ∧ Fut H ρ R w (fun _ => False) ρ' R' w' ∧ RepV ρ' R' x v ∧ Rep (upd u H) ρ' R' w') := by
      intro ad n cap hp hb
      have hq : a.eval q = .slice none 0 0 := by
        generalize a.eval q = z at hv
        cases hv
        rfl
      have hg : (eqGuard .eql T p q (.slice ad n cap) (.slice none 0 0)).run P w = .ok () w := by simp [eqGuard]
      have h1 : (binOp .eql T (.slice ad n cap) (.slice none 0 0)).run P w = .ok (.bool (ad.isNone && true)) w := by
        show (do pure (Value.bool (← Op.equal T (.slice ad n cap) (.slice none 0 0))) : Sem Value).run P w = _
        have := eq_slice hE ad none n cap 0 0 w (.inr rfl)
        simp only [Option.isNone_none] at this
        simp [this]
      refine opC_value (v := .bool ad.isNone) (by simp [execOp, ho, hp, hq, hg, h1]) ⟨.bool ad.isNone, [], ρ, R, h _ hb, fun l hl => absurd hl (not_has_nil l), Fut.refl _ _ _ _ _, .bool _, hR⟩
    rcases hu.isl_inv with ⟨b, o', cap, c, T2, fz, g, hl, hw, hb, hc, hr, hp⟩ | ⟨rfl, ad, cap, hn, hp⟩
    · exact key _ _ _ hp (fun _ => rfl)
    · exact key _ _ _ hp (fun h => absurd rfl h)
  · rename_i r'
    obtain ⟨p, ho, rfl⟩ := compK_next hk
    obtain ⟨l, since, seen, st, es, bs, ck, hr, hl, hc, h0, h1⟩ := h
    obtain ⟨u, us, he, hu, _⟩ := hx.head
    simp only [List.map_cons, List.map_nil, List.cons.injEq] at he
    obtain ⟨rfl, _⟩ := he
    obtain ⟨L', hL', hg⟩ := hu.ptr_inv
    obtain ⟨L, O, h1', h2, h3⟩ := hR.own l _ hl
    obtain ⟨L2, O2, k1, k2, k3⟩ := hR.own r' _ hr
    have h3' := h3
    cases O <;> simp only [RepO] at h3'
    rename_i ents clock
    cases O2 <;> simp only [RepO] at k3
    rename_i m' since' seen' st'
    obtain ⟨g1, g2, g3, g5, g4⟩ := h3'
    obtain ⟨j0, rfl, j2, rfl, j4⟩ := k3
    rcases j4 with ⟨j4, _⟩ | ⟨l', M, j4, j5, rfl⟩
    · cases j4
    cases j4
    rw [h1'] at j5; cases j5
    have eL : L2 = L' := by rw [k1] at hL'; exact Option.some.inj hL'
    subst eL
    rw [j0] at hg
    obtain ⟨g6, rfl⟩ := g5
    have hborn : ∀ m ∈ ents.toList, m.born < since' := by
      intro m hm
      have : m.born ∈ bs := by rw [← g6]; exact List.mem_map_of_mem hm
      simpa using List.all_eq_true.1 hc.1 _ this
    rcases run_next_at (P := P) w o.type L2.blk L.blk since' st' seen' ents clock k2 h2 hborn hc.2 with ⟨hz, hrun⟩ | ⟨m, hm, w1, hw1, hrun⟩
    · refine opC_value (v := .tuple #[.bool false]) (by simp [execOp, ho, hg, hrun]) ⟨_, [], ρ, R, h0 (left_nil j2 g1 g6 hz), fun l hl => absurd hl (not_has_nil l), Fut.refl _ _ _ _ _, (RepL.cons (.bool false) .nil).tuple, hR⟩
    · obtain ⟨i, e', hmi, hei, hin⟩ := left_of j2 g1 g6 hm
      have ho' : RepO ρ R L2 (.iter (some l) since' (seen ++ [m.born]) clock) (.mapIter (some L.blk) since' (seen'.push m.born) clock) := ⟨j0, rfl, by simp [j2], rfl, .inr ⟨l, L, rfl, h1', rfl⟩⟩
      have hv : RepV ρ R (.tuple [.bool true, e'.1, e'.2]) (.tuple #[.bool true, m.key, m.val]) := (RepL.cons (.bool true) (.cons (g4 i e' m hei hmi).1 (.cons (g4 i e' m hei hmi).2 .nil))).tuple
      obtain ⟨hF, hR'⟩ := fut_upd (W := fun _ => False) hR hr k1 k2 ho'
      have hex : (execOp a.eval o).run P w = .ok (.value (.tuple #[.bool true, m.key, m.val])) (setBlock w1 L2.blk (.mapIter (some L.blk) since' (seen'.push m.born) clock)) := by
        simp [execOp, ho, hg, hrun]
      have hlab : ∀ k, Chg.has [(r', some (AO.iter (some l) since' (seen ++ [m.born]) clock))] k → H k ≠ none := fun k hk => by rw [has_one hk, hr]; simp
      rcases hw1 with rfl | rfl
      · exact opC_value hex ⟨_, _, ρ, R, h1 _ _ hin, hlab, hF, hv, hR'⟩
      · exact opC_value hex ⟨_, _, ρ, R, h1 _ _ hin, hlab, hF.heap rfl rfl rfl rfl, hv, hR'.heap rfl⟩
  · exact h.elim
end
/-- what a call may yield, proved: of its outcomes one -/
def SoundE (P : Program) (f : Nat) (xs : List AV) (H : Heap) (q : Lab) (Φ : AV → Chg → Prop) : Prop := Callable P f ∧ ∀ (ρ : Locs) (R : Imm) vs, RepL ρ R xs vs → ∀ w, Rep H ρ R w → (∀ l, Under q l → ρ l = none) →
  callC P f vs.toArray w (fun v w' => ∃ x u ρ' R', Φ x u ∧ (∀ l, u.has l → H l ≠ none ∨ Under q l) ∧ Fut H ρ R w (Under q) ρ' R' w' ∧ RepV ρ' R' x v ∧ Rep (upd u H) ρ' R' w')
section
variable {P : Program} {o : Oper} {a : Act} {ρ : Locs} {R : Imm} {H : Heap} {q : Lab}
theorem compK_call {ops : List Operand} (h : compK P o = some (.call, ops)) : ∃ c g, o.op = .call c ∧ c.callee = .value g ∧ ops = g :: c.args.toList := by
  unfold compK at h
  split at h
  all_goals repeat' (first | (cases h; done) | (simp only [Option.bind_eq_some_iff] at h) | (refine Exists.elim h ?_; clear h; intro _ h) | (refine And.elim ?_ h; clear h; intro _ h) | (unfold mapK at h) | (unfold appK at h) | (unfold delK at h) | (unfold eqK at h) | split at h)
  all_goals (cases h; exact ⟨_, _, by assumption, by assumption, rfl⟩)
theorem call_E {c : Call} {g : Operand} {f : Nat} {first captured args : List AV} {Φ : AV → Chg → Prop} {w : World} (ho : o.op = .call c) (hc : c.callee = .value g) (hx : RepL ρ R (.fn (.func f) first captured :: args) (a.eval g :: (c.args.map a.eval).toList)) (h : SoundE P f (first ++ args ++ captured) H q Φ) (hR : Rep H ρ R w) (hfr : ∀ l, Under q l → ρ l = none) :
    opC P o a w (fun v w' => ∃ x u ρ' R', Φ x u ∧ (∀ l, u.has l → H l ≠ none ∨ Under q l) ∧ Fut H ρ R w (Under q) ρ' R' w' ∧ RepV ρ' R' x v ∧ Rep (upd u H) ρ' R' w') := by
  obtain ⟨v, us, he, hv, hus⟩ := hx.head
  simp only [List.cons.injEq] at he
  obtain ⟨rfl, rfl⟩ := he
  obtain ⟨⟨fn, hf, hb, hn⟩, h3⟩ := h
  generalize hg : a.eval g = gv at hv
  cases hv with | fn _ _ _ F C hF hC hf1 hf2 => ?_
  have hrF : RepL ρ R first F.toList := ⟨by simpa using hF, fun k x hk => by
    have hk' : k < F.size := by have := (List.getElem?_eq_some_iff.1 hk).1; omega
    have := hf1 k x hk
    exact ⟨F[k], by simp [hk'], by simpa [Array.getD, hk'] using this⟩⟩
  have hrC : RepL ρ R captured C.toList := ⟨by simpa using hC, fun k x hk => by
    have hk' : k < C.size := by have := (List.getElem?_eq_some_iff.1 hk).1; omega
    have := hf2 k x hk
    exact ⟨C[k], by simp [hk'], by simpa [Array.getD, hk'] using this⟩⟩
  have hall := (hrF.append hus).append hrC
  have hd := h3 ρ R _ hall w hR hfr
  have e : (F.toList ++ (c.args.map a.eval).toList ++ C.toList).toArray = F ++ c.args.map a.eval ++ C := by
    apply Array.ext'; simp
  rw [e] at hd
  intro next Q hnext
  unfold Oper.wp
  have hrun : (execOp a.eval o).run P w = .ok (.enter f (F ++ c.args.map a.eval ++ C)) w := by
    have hn' : ¬ fn.name = "runtime.NumGoroutine" := by simpa using hn
    have hb' : ¬ fn.body = none := by intro e; rw [e] at hb; cases hb
    simp [execOp, ho, resolve, hc, hg, Deferred.ofValue, invoke, callFunc, hf, hn', hb']
  rw [hrun]
  simp only [Oper.upon]
  refine Calls.mono hd ?_
  rintro e w' ⟨v, rfl, hK⟩
  exact hnext v w' hK
end
section
variable (P : Program) (H0 : Heap) (p : Lab)
def gins (i : AIns) (s : ASt) (K : ASt → Prop) : Prop := (∃ call, CallOk P call ∧ ∃ rc, evalIns call H0 p i s = some rc ∧ K (applyRc i s rc)) ∨
  (i.guard = none ∧ ∃ xs, evArgs s.regs i.xs = some xs ∧ dop i.k xs (upd s.ov H0) fun x u => K (applyRc i s ⟨false, x, u, s.c :: p, none⟩)) ∨
  (i.guard = none ∧ i.k = .call ∧ ∃ f first captured args, evArgs s.regs i.xs = some (.fn (.func f) first captured :: args) ∧ ∃ Φ, SoundE P f (first ++ args ++ captured) (upd s.ov H0) (s.c :: p) Φ ∧ ∀ x u, Φ x u → K (applyRc i s ⟨false, x, u, s.c :: p, none⟩))
/-- operations one behind the other -/
def gseq : List AIns → ASt → (ASt → Prop) → Prop
  | [], s, K => K s
  | i :: is, s, K => gins P H0 p i s fun s' => gseq is s' K
end
section
variable {P : Program} {H0 : Heap} {p : Lab} {n : Nat} {ρ0 : Locs} {R0 : Imm} {w0 : World} {ops : Array Oper}
theorem gins_mono {i : AIns} {s : ASt} {K K' : ASt → Prop} (hK : ∀ s, K s → K' s) (h : gins P H0 p i s K) : gins P H0 p i s K' := by
  rcases h with ⟨call, hc, rc, h1, h2⟩ | ⟨hg, xs, h1, h2⟩ | ⟨hg, hk, f, first, captured, args, h1, Φ, h2, h3⟩
  · exact .inl ⟨call, hc, rc, h1, hK _ h2⟩
  · exact .inr (.inl ⟨hg, xs, h1, dop_mono (fun x u => hK _) h2⟩)
  · exact .inr (.inr ⟨hg, hk, f, first, captured, args, h1, Φ, h2, fun x u hx => hK _ (h3 x u hx)⟩)
theorem gseq_mono : ∀ {is : List AIns} {s : ASt} {K K' : ASt → Prop}, (∀ s, K s → K' s) → gseq P H0 p is s K → gseq P H0 p is s K'
  | [], _, _, _, hK, h => hK _ h
  | _ :: _, _, _, _, hK, h => gins_mono (fun _ hs => gseq_mono hK hs) h
theorem gseq_run {call : CallF} (hc : CallOk P call) : ∀ {is : List AIns} {s s' : ASt} {K : ASt → Prop}, runSeq call H0 p is s = some s' → K s' → gseq P H0 p is s K
  | [], s, s', K, h, hk => by simp only [runSeq, Option.some.injEq] at h; subst h; exact hk
  | i :: is, s, s', K, h, hk => by
    simp only [runSeq, Option.bind_eq_some_iff] at h
    obtain ⟨rc, h1, h2⟩ := h
    exact .inl ⟨call, hc, rc, h1, gseq_run hc h2 hk⟩
theorem gseq_sound {is : List AIns} (hcomp : compOps P n ops ops.toList = some is) (h0 : Rep H0 ρ0 R0 w0) (hf0 : ∀ l, Under p l → ρ0 l = none) {s : ASt} {K : ASt → Prop} (hs : gseq P H0 p is s K) {ρ : Locs} {R : Imm} {a : Act} {w : World}
    (hI : Inv n H0 ρ0 R0 w0 p s ρ R a w) {id : Nat} {Q : Exit → Act → World → Prop} (hQ : ∀ s' ρ R a w, K s' → Inv n H0 ρ0 R0 w0 p s' ρ R a w → Q .normal a w) : (Code.region id ops false).wp P Q a w := by
  obtain ⟨hlen, hget⟩ := compOps_get hcomp
  simp only [Array.length_toList] at hlen
  have hget' : ∀ (j : Nat) o, ops[j]? = some o → ∃ i, is[j]? = some i ∧ compIns P n ops o = some i := fun j o ho => hget j o (by simpa using ho)
  refine wp_region ?_
  have key : ∀ m k, k + m = ops.size → ∀ s ρ R a w, gseq P H0 p (is.drop k) s K → Inv n H0 ρ0 R0 w0 p s ρ R a w → wpOps P ops Q (List.range' k m) a w := by
    intro m
    induction m with
    | zero =>
      intro k hk s ρ R a w hs hI
      simp only [List.range'_zero, wpOps]
      rw [List.drop_eq_nil_of_le (by omega)] at hs
      exact hQ s ρ R a w hs hI
    | succ m ih =>
      intro k hk s ρ R a w hs hI
      rw [List.range'_succ, wpOps_cons]
      obtain ⟨o, ho⟩ : ∃ o, ops[k]? = some o := ⟨_, Array.getElem?_eq_getElem (by omega)⟩
      obtain ⟨i, hi, hc⟩ := hget' k o ho
      have hdrop : is.drop k = i :: is.drop (k + 1) := by
        have hlt : k < is.length := by omega
        rw [List.drop_eq_getElem_cons hlt]
        rw [List.getElem?_eq_getElem hlt] at hi
        simp only [Option.some.injEq] at hi
        rw [hi]
      rw [hdrop] at hs
      obtain ⟨oxs, hok, hoxs, hog, hd, hdn, hl1, _⟩ := compIns_look hc
      have hlook : Look ops o (rget s.regs) ρ R a := fun t ht y hy => hI.rs.regs t y hy
      unfold wpOp
      simp only [ho]
      -- what follows an operation that was carried out
      have next : ∀ (x : AV) (u : Chg) (ρ' : Locs) (R' : Imm) (v : Value) (w' : World) (W : Lab → Prop) (foot : Option (List Lab)) (sk : Bool), (∀ l, W l → Under (s.c :: p) l) → (∀ l, u.has l → upd s.ov H0 l ≠ none ∨ Under (s.c :: p) l) → gseq P H0 p (is.drop (k + 1)) (applyRc i s ⟨sk, x, u, s.c :: p, foot⟩) K →
          Fut (upd s.ov H0) ρ R w W ρ' R' w' → RepV ρ' R' x v → Rep (upd u (upd s.ov H0)) ρ' R' w' → wpOps P ops Q (List.range' (k + 1) m) (a.put o.dst v) w' := by
        intro x u ρ' R' v w' W foot sk hW hlab hg' hF' hx hRep
        have hreg : rget (applyRc i s ⟨sk, x, u, s.c :: p, foot⟩).regs = setR (rget s.regs) o.dst x := by rw [applyRc, rget_putReg, hd]
        have hheap : upd (applyRc i s ⟨sk, x, u, s.c :: p, foot⟩).ov H0 = upd u (upd s.ov H0) := by rw [applyRc, upd_omerge]
        refine ih (k + 1) (by omega) _ ρ' R' _ w' hg' ⟨?_, ?_, ?_, ?_⟩
        · rw [hreg, hheap]
          exact hI.rs.put hdn hF'.ext hx hRep
        · refine hI.fut.trans h0 hF' (fun j ob hj => ?_) (fun _ h => h) (fun l hl => under_tail (hW l hl))
          rcases hI.lab j ob hj with h1 | h1
          · exact .inl h1
          · exact .inr (hf0 j h1)
        · intro l hl
          obtain ⟨j, hj, hl⟩ := hl
          simp only [applyRc] at hj
          have hfr := hI.fresh l ⟨j, by omega, hl⟩
          cases hρ : ρ' l with
          | none => rfl
          | some L =>
            rcases hF'.win l L hρ with h6 | ⟨h6, _⟩
            · rw [hfr] at h6; cases h6
            · have := under_inj hl (hW l h6)
              omega
        · rw [hheap]
          intro j ob hj
          rcases upd_lab hj with h1 | h1
          · rcases hlab j h1 with h2 | h2
            · obtain ⟨ob', h3⟩ := Option.ne_none_iff_exists'.1 h2
              exact hI.lab j ob' h3
            · exact .inr (under_tail h2)
          · exact hI.lab j ob h1
      rcases hs with ⟨call, hcall, rc, h4, hg'⟩ | ⟨hgn, xs, hxs, hdop⟩ | ⟨hgn, hkc, f, first, captured, args, hxs, Φ, hE, hK⟩
      · obtain ⟨hq, hsk, hru⟩ := ins_ok hcall hc h4
        obtain ⟨sk, x, u, q, foot⟩ := rc
        simp only at hq hsk hru
        subst hq
        cases sk with
        | true =>
          obtain ⟨rfl, rfl, _, hw⟩ := hsk rfl
          rw [hw ρ R a hlook hI.rs.size]
          simp only [Bool.false_eq_true, if_false]
          refine next (.tuple []) [] ρ R (.tuple #[]) w (fun _ => False) foot true (fun l hl => hl.elim) (fun l hl => absurd hl (not_has_nil l)) hg' (Fut.refl _ _ _ _ _) (.tuple [] #[] rfl (fun i x hx => by simp at hx)) hI.rs.heap
        | false =>
          obtain ⟨hlab, hrun'⟩ := hru rfl
          obtain ⟨hw, hdoes⟩ := hrun' ρ R a hlook hI.rs.size
          rw [hw]
          simp only [if_true]
          have hsub : ∀ l ob, restr (upd s.ov H0) foot l = some ob → upd s.ov H0 l = some ob := by
            intro l ob
            cases foot with
            | none => exact fun h => h
            | some ls => simp only [restr]; split <;> simp
          have hd2 := hdoes.frame opC_mono hsub hlab
          refine .inl (hd2 w hI.rs.heap (fun l h1 => hI.fresh l ⟨s.c, Nat.le_refl _, h1⟩) _ Q ?_)
          rintro v w' ⟨ρ', R', hF', hx, hRep⟩
          refine next x u ρ' R' v w' _ foot false (fun l hl => hl) (fun l hl => ?_) hg' hF' hx hRep
          rcases hlab l hl with h2 | h2
          · obtain ⟨ob', h3⟩ := Option.ne_none_iff_exists'.1 h2
            exact .inl (by rw [hsub l ob' h3]; simp)
          · exact .inr h2
      · rw [wanted_none hog hgn]
        simp only [if_true]
        have hxr := argsOf_rep (ρ := ρ) (R := R) (a := a) hoxs hxs (fun x hx t ht z hz => hlook t (hl1 x hx t ht) z hz)
        refine .inl (dop_sound hok hxr hdop hI.rs.heap _ Q ?_)
        rintro v w' ⟨x, u, ρ', R', hg', hlab, hF', hx, hRep⟩
        exact next x u ρ' R' v w' _ none false (fun l hl => hl.elim) (fun l hl => .inl (hlab l hl)) hg' hF' hx hRep
      · rw [wanted_none hog hgn]
        simp only [if_true]
        have hxr := argsOf_rep (ρ := ρ) (R := R) (a := a) hoxs hxs (fun x hx t ht z hz => hlook t (hl1 x hx t ht) z hz)
        rw [hkc] at hok
        obtain ⟨c, g, ho', hc', rfl⟩ := compK_call hok
        refine .inl (call_E ho' hc' (by simpa using hxr) hE hI.rs.heap (fun l hl => hI.fresh l ⟨s.c, Nat.le_refl _, hl⟩) _ Q ?_)
        rintro v w' ⟨x, u, ρ', R', hΦ, hlab, hF', hx, hRep⟩
        exact next x u ρ' R' v w' _ none false (fun l hl => hl) hlab (hK x u hΦ) hF' hx hRep
  have := key ops.size 0 (by omega) s ρ R a w (by simpa using hs) hI
  rwa [← List.range_eq_range'] at this
end
section
variable (P : Program) (H0 : Heap) (p : Lab)
/-- a region that draws its order, step by step -/
def NdOk (call : CallF) (ops : List AIns) (masks : List Nat) (keep : List Nat) (Q : APost) (s : ASt) : Prop := ∃ I : (Nat → Bool) → RL → Chg → Prop, I (fun _ => false) s.regs s.ov ∧
  (∀ D rl ov j i, I D rl ov → ops[j]? = some i → D j = false → (∀ k, (masks.getD j 0).testBit k = true → D k = true) → ∃ rc, evalIns call H0 p i ⟨rl, ov, s.c + j⟩ = some rc ∧ I (addD D j) (putReg rl i.dst rc.x) (omerge rc.u ov)) ∧
  ∀ D rl ov, (∀ j, j < ops.length → D j = true) → I D rl ov → ∃ s', Weak H0 p ⟨restrict rl keep, ov, s.c + ops.length⟩ s' ∧ Q .normal s'
def gwp : ACode → APost → ASt → Prop
  | .skip, Q, s => Q .normal s
  | .region ops none keep, Q, s => gseq P H0 p ops s fun s1 => ∃ s', Weak H0 p { s1 with regs := restrict s1.regs keep } s' ∧ Q .normal s'
  | .region ops (some masks) keep, Q, s => (∃ call, CallOk P call ∧ ∃ s1, runRegion call H0 p ops (some masks) keep s = some s1 ∧ ∃ s', Weak H0 p s1 s' ∧ Q .normal s') ∨ ∃ call, CallOk P call ∧ NdOk H0 p call ops masks keep Q s
  | .seq a b, Q, s => gwp a (seqQ (gwp b Q) Q) s
  | .cond c t e, Q, s => match evArg s.regs c with
    | some (.bool b) => if b then gwp t Q s else gwp e Q s
    | _ => False
  | .block id b, Q, s => gwp b (blockQ id Q) s
  | .loop keep b, Q, s => ∃ m, rounds (gwp b) keep Q m s
  | .exit id, Q, s => Q (.exit id) s
  | .ret, Q, s => Q .ret s
  | .label _, Q, s => Q .normal s
  | .goto l, Q, s => Q (.goto l) s
  | .scope l b r, Q, s => gwp b (jumpQ l (fun s' => ∃ m, srounds (gwp r) l Q m s') Q) s
  | .bad, _, _ => False
end
section
variable {P : Program} {n : Nat} {H0 : Heap} {p : Lab} {ρ0 : Locs} {R0 : Imm} {w0 : World}
theorem gwp_mono {c : ACode} : ∀ {Q Q' : APost} {s : ASt}, (∀ e s, Q e s → Q' e s) → gwp P H0 p c Q s → gwp P H0 p c Q' s := by
  induction c with
  | skip => intro Q Q' s h hs; exact h _ _ hs
  | region ops draw keep =>
    intro Q Q' s h hs
    cases draw with
    | none => exact gseq_mono (fun s1 hs1 => by obtain ⟨s', hw, h2⟩ := hs1; exact ⟨s', hw, h _ _ h2⟩) hs
    | some masks =>
      rcases hs with ⟨call, hc, s1, h1, s', hw, h2⟩ | ⟨call, hc, I, h1, h2, h3⟩
      · exact .inl ⟨call, hc, s1, h1, s', hw, h _ _ h2⟩
      · exact .inr ⟨call, hc, I, h1, h2, fun D rl ov hD hI => by obtain ⟨s', hw, h4⟩ := h3 D rl ov hD hI; exact ⟨s', hw, h _ _ h4⟩⟩
  | seq a b iha ihb =>
    intro Q Q' s h hs
    refine iha (fun e s he => ?_) hs
    cases e with
    | normal => exact ihb h he
    | exit id => exact h _ _ he
    | ret => exact h _ _ he
    | goto l => exact h _ _ he
  | cond c t e iht ihe =>
    intro Q Q' s h hs
    simp only [gwp] at hs ⊢
    split at hs
    · split at hs
      · rename_i hb; rw [if_pos hb]; exact iht h hs
      · rename_i hb; rw [if_neg hb]; exact ihe h hs
    · exact hs.elim
  | block id b ih =>
    intro Q Q' s h hs
    refine ih (fun e s he => ?_) hs
    cases e with
    | normal => exact h _ _ he
    | exit k =>
      simp only [blockQ] at he ⊢
      split at he
      · rename_i hk; rw [if_pos hk]; exact h _ _ he
      · rename_i hk; rw [if_neg hk]; exact h _ _ he
    | ret => exact h _ _ he
    | goto l => exact h _ _ he
  | loop keep b ih =>
    intro Q Q' s h ⟨m, hm⟩
    refine ⟨m, ?_⟩
    induction m generalizing s with
    | zero => exact hm
    | succ m ihm =>
      refine ih (fun e s he => ?_) hm
      cases e with
      | normal => exact ihm he
      | exit id => exact h _ _ he
      | ret => exact h _ _ he
      | goto l => exact h _ _ he
  | exit id => intro Q Q' s h hs; exact h _ _ hs
  | ret => intro Q Q' s h hs; exact h _ _ hs
  | label l => intro Q Q' s h hs; exact h _ _ hs
  | goto l => intro Q Q' s h hs; exact h _ _ hs
  | bad => intro Q Q' s h hs; exact hs
  | scope l b r ihb ihr =>
    intro Q Q' s h hs
    have hr : ∀ m s, srounds (gwp P H0 p r) l Q m s → srounds (gwp P H0 p r) l Q' m s := by
      intro m
      induction m with
      | zero => intro s hs; exact hs
      | succ m ihm =>
        intro s hs
        refine ihr (fun e s he => ?_) hs
        cases e with
        | normal => exact h _ _ he
        | exit id => exact h _ _ he
        | ret => exact h _ _ he
        | goto k => exact ⟨he.1, ihm _ he.2⟩
    refine ihb (fun e s he => ?_) hs
    cases e with
    | normal => exact h _ _ he
    | exit id => exact h _ _ he
    | ret => exact h _ _ he
    | goto k => obtain ⟨h1, m, h2⟩ := he; exact ⟨h1, m, hr m _ h2⟩

def GSoundC (P : Program) (n : Nat) (H0 : Heap) (p : Lab) (ρ0 : Locs) (R0 : Imm) (w0 : World) (code : Code) : Prop := ∀ {ac : ACode} {Q : APost} {s : ASt} {ρ : Locs} {R : Imm} {a : Act} {w : World}, compC P n code = some ac.strip →
    gwp P H0 p ac Q s → Inv n H0 ρ0 R0 w0 p s ρ R a w → code.wp P (Post n H0 ρ0 R0 w0 p Q) a w
theorem GSoundC.seq {x y : Code} (ihx : GSoundC P n H0 p ρ0 R0 w0 x) (ihy : GSoundC P n H0 p ρ0 R0 w0 y) : GSoundC P n H0 p ρ0 R0 w0 (.seq x y) := by
  intro ac Q s ρ R a w hc h hI
  simp only [compC, Option.bind_eq_some_iff, Option.some.injEq] at hc
  obtain ⟨x', hx, y', hy, hc⟩ := hc
  cases ac <;> simp [ACode.strip] at hc
  rename_i ax ay
  obtain ⟨rfl, rfl⟩ := hc
  refine wp_seq (wp_mono (ihx hx h hI) ?_)
  rintro e a1 w1 ⟨ae, s1, ρ1, R1, rfl, hq, hI1⟩
  cases ae with
  | normal => exact ihy hy hq hI1
  | exit id => exact ⟨.exit id, s1, ρ1, R1, rfl, hq, hI1⟩
  | ret => exact ⟨.ret, s1, ρ1, R1, rfl, hq, hI1⟩
  | goto l => exact ⟨.goto l, s1, ρ1, R1, rfl, hq, hI1⟩
theorem gwp_sound_all (hm : P.follows .mixedOrders = true) (h0 : Rep H0 ρ0 R0 w0) (hf0 : ∀ l, Under p l → ρ0 l = none) (code : Code) : GSoundC P n H0 p ρ0 R0 w0 code ∧ ∀ l rest, findLabel code l = some rest → GSoundC P n H0 p ρ0 R0 w0 rest := by
  induction code with
  | skip =>
    refine ⟨?_, fun l rest h => by simp [findLabel] at h⟩
    intro ac Q s ρ R a w hc h hI
    cases ac <;> simp [compC, ACode.strip] at hc
    exact wp_skip ⟨.normal, s, ρ, R, rfl, h, hI⟩
  | region id ops draw =>
    refine ⟨?_, fun l rest h => by simp [findLabel] at h⟩
    intro ac Q s ρ R a w hc h hI
    simp only [compC, Option.bind_eq_some_iff] at hc
    obtain ⟨is, his, hc⟩ := hc
    cases draw with
    | false =>
      simp only [Bool.false_eq_true, if_false, Option.some.injEq] at hc
      cases ac <;> simp [ACode.strip] at hc
      rename_i ops' draw' keep
      obtain ⟨rfl, rfl⟩ := hc
      exact gseq_sound his h0 hf0 h hI (fun s' ρ R a w hk hI' => by
        obtain ⟨s2, hwk, h2⟩ := hk
        obtain ⟨ρ2, R2, hI2⟩ := hwk h0 hf0 (hI'.restrict _)
        exact ⟨.normal, _, ρ2, R2, rfl, h2, hI2⟩)
    | true =>
      simp only [if_true] at hc
      split at hc
      · rename_i hst
        simp only [Bool.and_eq_true] at hst
        simp only [Option.some.injEq] at hc
        cases ac <;> simp [ACode.strip] at hc
        rename_i ops' draw' keep
        obtain ⟨rfl, rfl⟩ := hc
        rcases h with ⟨call, hcall, s', h1, s2, hwk, h2⟩ | ⟨call, hcall, I, h1, h2, h3⟩
        · simp only [runRegion, Option.bind_eq_some_iff] at h1
          obtain ⟨⟨s1, trs⟩, h1, h3⟩ := h1
          split at h3
          · cases h3
          · rename_i hcl
            simp only [Option.some.injEq] at h3
            subst h3
            exact draw_sound hm hcall his hst.1 hst.2 h0 hf0 h1 (by simpa using hcl) hI (fun ρ R a w hI' => by
              obtain ⟨ρ2, R2, hI2⟩ := hwk h0 hf0 (hI'.restrict keep)
              exact ⟨.normal, _, ρ2, R2, rfl, h2, hI2⟩)
        · have hlen : is.length = ops.size := by simpa using (compOps_get his).1
          have hstep : ∀ D rl ov j o i, (I D rl ov ∧ ∀ i k, D k = true → Anc ops i k → D i = true) → ops[j]? = some o → is[j]? = some i → D j = false → (∀ e ∈ o.after, Region.binds .any e = true → D e.on = true) → ∃ rc, evalIns call H0 p i ⟨rl, ov, s.c + j⟩ = some rc ∧ (I (addD D j) (putReg rl i.dst rc.x) (omerge rc.u ov) ∧ ∀ i k, addD D j k = true → Anc ops i k → addD D j i = true) := by
            intro D rl ov j o i hID ho hi hj hpre
            have hanc : ∀ i, Anc ops i j → D i = true := by
              intro i hi
              generalize hk : j = k at hi
              induction hi with
              | step ho' he hb => subst hk; rw [ho] at ho'; cases ho'; exact hpre _ he hb
              | trans h1 h2 _ ih2 => exact hID.2 _ _ (ih2 hk) h1
            obtain ⟨rc, he, hI'⟩ := h2 D rl ov j i hID.1 hi hj (fun k hk => hanc k (masks_sound hk))
            refine ⟨rc, he, hI', fun i k hk ha => ?_⟩
            simp only [addD, Bool.or_eq_true, beq_iff_eq] at hk ⊢
            rcases hk with rfl | hk
            · exact .inr (hanc i ha)
            · exact .inr (hID.2 i k hk ha)
          refine draw_nd hm hcall his hst.1 h0 hf0 (fun D rl ov => I D rl ov ∧ ∀ i k, D k = true → Anc ops i k → D i = true) hstep ⟨h1, fun i k hk => by cases hk⟩ hI (fun D rl ov ρ R a w hD hID hI' => ?_)
          obtain ⟨s2, hwk, h4⟩ := h3 D rl ov (by rw [hlen]; exact hD) hID.1
          rw [hlen] at hwk
          obtain ⟨ρ2, R2, hI2⟩ := hwk h0 hf0 (hI'.restrict keep)
          exact ⟨.normal, _, ρ2, R2, rfl, h4, hI2⟩
      · cases hc
  | seq x y ihx ihy =>
    refine ⟨GSoundC.seq ihx.1 ihy.1, fun l rest h => ?_⟩
    simp only [findLabel] at h
    cases hf : findLabel x l with
    | some r => simp only [hf, Option.some.injEq] at h; subst h; exact GSoundC.seq (ihx.2 l r hf) ihy.1
    | none => simp only [hf] at h; exact ihy.2 l rest h
  | cond c t e iht ihe =>
    refine ⟨?_, fun l rest h => by simp [findLabel] at h⟩
    intro ac Q s ρ R a w hc h hI
    simp only [compC, Option.bind_eq_some_iff, Option.some.injEq] at hc
    obtain ⟨z, hz, x', hx, y', hy, hc⟩ := hc
    cases ac <;> simp [ACode.strip] at hc
    rename_i z' ax ay
    obtain ⟨rfl, rfl, rfl⟩ := hc
    simp only [gwp] at h
    split at h
    · rename_i b hb
      have hv := (argOf_rep (ρ := ρ) (R := R) (a := a) hz hb (fun t ht y hy => hI.rs.regs t y hy)).bool_inv
      split at h
      · rename_i hbt; subst hbt
        exact wp_cond_true hv (iht.1 hx h hI)
      · rename_i hbt
        have : b = false := by simpa using hbt
        subst this
        exact wp_cond_false hv (ihe.1 hy h hI)
    · exact h.elim
  | block id b ih =>
    refine ⟨?_, fun l rest h => by simp [findLabel] at h⟩
    intro ac Q s ρ R a w hc h hI
    simp only [compC, Option.bind_eq_some_iff, Option.some.injEq] at hc
    obtain ⟨x', hx, hc⟩ := hc
    cases ac <;> simp [ACode.strip] at hc
    rename_i id' ax
    obtain ⟨rfl, rfl⟩ := hc
    refine wp_block (wp_mono (ih.1 hx h hI) ?_)
    rintro e a1 w1 ⟨ae, s1, ρ1, R1, rfl, hq, hI1⟩
    cases ae with
    | normal => exact ⟨.normal, s1, ρ1, R1, rfl, hq, hI1⟩
    | exit k =>
      simp only [blockQ] at hq
      simp only [AEx.ex, Exit.inBlock]
      split at hq
      · rename_i hk; rw [if_pos hk]; exact ⟨.normal, s1, ρ1, R1, rfl, hq, hI1⟩
      · rename_i hk; rw [if_neg hk]; exact ⟨.exit k, s1, ρ1, R1, rfl, hq, hI1⟩
    | ret => exact ⟨.ret, s1, ρ1, R1, rfl, hq, hI1⟩
    | goto l => exact ⟨.goto l, s1, ρ1, R1, rfl, hq, hI1⟩
  | loop b ih =>
    refine ⟨?_, fun l rest h => by simp [findLabel] at h⟩
    intro ac Q s ρ R a w hc h hI
    simp only [compC, Option.bind_eq_some_iff, Option.some.injEq] at hc
    obtain ⟨x', hx, hc⟩ := hc
    cases ac <;> simp [ACode.strip] at hc
    rename_i keep ax
    subst hc
    obtain ⟨m, hr⟩ := h
    refine wp_loop_rounds m ?_
    induction m generalizing s ρ R a w with
    | zero => exact hr.elim
    | succ m ihm =>
      rw [rounds_succ]
      refine wp_mono (ih.1 hx hr (hI.restrict keep)) ?_
      rintro e a1 w1 ⟨ae, s1, ρ1, R1, rfl, hq, hI1⟩
      cases ae with
      | normal => exact ihm hI1 hq
      | exit id => exact ⟨.exit id, s1, ρ1, R1, rfl, hq, hI1⟩
      | ret => exact ⟨.ret, s1, ρ1, R1, rfl, hq, hI1⟩
      | goto l => exact ⟨.goto l, s1, ρ1, R1, rfl, hq, hI1⟩
  | exit id =>
    refine ⟨?_, fun l rest h => by simp [findLabel] at h⟩
    intro ac Q s ρ R a w hc h hI
    cases ac <;> simp [compC, ACode.strip] at hc
    subst hc
    exact wp_exit ⟨.exit _, s, ρ, R, rfl, h, hI⟩
  | ret =>
    refine ⟨?_, fun l rest h => by simp [findLabel] at h⟩
    intro ac Q s ρ R a w hc h hI
    cases ac <;> simp [compC, ACode.strip] at hc
    exact wp_ret ⟨.ret, s, ρ, R, rfl, h, hI⟩
  | rangeFunc f ps x y =>
    refine ⟨?_, fun l rest h => by simp [findLabel] at h⟩
    intro ac Q s ρ R a w hc h hI
    cases ac <;> simp [compC, ACode.strip] at hc
    exact h.elim
  | refuse why =>
    refine ⟨?_, fun l rest h => by simp [findLabel] at h⟩
    intro ac Q s ρ R a w hc h hI
    cases ac <;> simp [compC, ACode.strip] at hc
    exact h.elim
  | scope c ih =>
    refine ⟨?_, fun l rest h => by simp [findLabel] at h⟩
    intro ac Q s ρ R a w hc h hI
    simp only [compC, Option.bind_eq_some_iff, Option.some.injEq] at hc
    obtain ⟨l, _, x, hx, y, hy, hc⟩ := hc
    cases ac <;> simp [ACode.strip] at hc
    rename_i l' ab ar
    obtain ⟨rfl, rfl, rfl⟩ := hc
    have hl := aLabel_comp (l := l) hx
    rw [hy] at hl
    cases hf : findLabel c l with
    | none => simp only [hf] at hl
    | some rest =>
      simp only [hf] at hl
      have hrest : GSoundC P n H0 p ρ0 R0 w0 rest := ih.2 l rest hf
      refine wp_scope_rounds hf (wp_mono (ih.1 hx h hI) ?_)
      have key : ∀ m s ρ R a w, srounds (gwp P H0 p ar) l Q m s → Inv n H0 ρ0 R0 w0 p s ρ R a w → sRounds P rest l (Post n H0 ρ0 R0 w0 p Q) m a w := by
        intro m
        induction m with
        | zero => intro s ρ R a w h _; exact h.elim
        | succ m ihm =>
          intro s ρ R a w h hI
          refine wp_mono (hrest hl h hI) ?_
          rintro e a1 w1 ⟨ae, s1, ρ1, R1, rfl, hq, hI1⟩
          cases ae with
          | normal => exact ⟨.normal, s1, ρ1, R1, rfl, hq, hI1⟩
          | exit id => exact ⟨.exit id, s1, ρ1, R1, rfl, hq, hI1⟩
          | ret => exact ⟨.ret, s1, ρ1, R1, rfl, hq, hI1⟩
          | goto k => exact ⟨hq.1, ihm s1 ρ1 R1 a1 w1 hq.2 hI1⟩
      rintro e a1 w1 ⟨ae, s1, ρ1, R1, rfl, hq, hI1⟩
      cases ae with
      | normal => exact ⟨.normal, s1, ρ1, R1, rfl, hq, hI1⟩
      | exit id => exact ⟨.exit id, s1, ρ1, R1, rfl, hq, hI1⟩
      | ret => exact ⟨.ret, s1, ρ1, R1, rfl, hq, hI1⟩
      | goto k => obtain ⟨h1, m, h2⟩ := hq; exact ⟨h1, m, key m s1 ρ1 R1 a1 w1 h2 hI1⟩
  | label l =>
    refine ⟨?_, fun k rest h => ?_⟩
    · intro ac Q s ρ R a w hc h hI
      cases ac <;> simp [compC, ACode.strip] at hc
      exact wp_label ⟨.normal, s, ρ, R, rfl, h, hI⟩
    · simp only [findLabel] at h
      split at h
      · cases h
        intro ac Q s ρ R a w hc h hI
        cases ac <;> simp [compC, ACode.strip] at hc
        exact wp_skip ⟨.normal, s, ρ, R, rfl, h, hI⟩
      · cases h
  | goto l =>
    refine ⟨?_, fun l rest h => by simp [findLabel] at h⟩
    intro ac Q s ρ R a w hc h hI
    cases ac <;> simp [compC, ACode.strip] at hc
    subst hc
    exact wp_goto ⟨.goto _, s, ρ, R, rfl, h, hI⟩
theorem gwp_sound (hm : P.follows .mixedOrders = true) (h0 : Rep H0 ρ0 R0 w0) (hf0 : ∀ l, Under p l → ρ0 l = none) {code : Code} {ac : ACode} {Q : APost} {s : ASt} {ρ : Locs} {R : Imm} {a : Act} {w : World} (hc : compC P n code = some ac.strip)
    (h : gwp P H0 p ac Q s) (hI : Inv n H0 ρ0 R0 w0 p s ρ R a w) : code.wp P (Post n H0 ρ0 R0 w0 p Q) a w := (gwp_sound_all hm h0 hf0 code).1 hc h hI
end

end Go.Proofs.Ytbngfbpegdcpkaa
