/- The abstract machine: going through a map. -/
import Derived.Test.YtbngfbpegdcpkaaA8d
import Derived.Maps.RangeRun
namespace Go.Proofs.Ytbngfbpegdcpkaa
set_option linter.unusedVariables false
set_option linter.unusedSimpArgs false
open Go.ChangeMaps (setBlock)
variable {P : Program} {o : Oper} {a : Act} {ρ : Locs} {R : Imm} {H : Heap} {q : Lab} {r : Res}
theorem sound_range_nil {T K E : TypeId} {p : Operand} (ho : o.op = .range T p) (hT : P.underlying T = some (.map K E)) (hx : RepV ρ R .nilm (a.eval p)) : Sound P o a ρ R H q ⟨.ptr q 1 0 0, [(q, some (.iter none 0 [] 0))], some []⟩ := by
  generalize hg : a.eval p = pv at hx
  cases hx
  refine sound_new (O := .mapIter none 0 #[] 0) 0 0 (fun w => ⟨.pointer (some ⟨w.heap.size, 0, none⟩), ?_, fun ρ' _ h => ?_⟩) (fun b => ?_)
  · simp [execOp, ho, hg, Instr.range, run_underlying' hT]
  · have := RepV.ptr (R := R) q 1 0 0 _ h
    simpa using this
  · simp [RepO]
theorem sound_range {T K E : TypeId} {p : Operand} {l : Lab} {es : List (AV × AV)} {bs : List Nat} {ck : Nat} (ho : o.op = .range T p) (hT : P.underlying T = some (.map K E)) (hx : RepV ρ R (.map l) (a.eval p)) (hl : H l = some (.amap es bs ck)) :
    Sound P o a ρ R H q ⟨.ptr q 1 0 0, [(q, some (.iter (some l) ck [] ck))], some [l]⟩ := by
  refine ⟨fun k hk => .inr (by rw [has_one hk]; exact .self _), fun w hR hf => ?_⟩
  obtain ⟨L, O, h1, h2, h3⟩ := hR.own l (.amap es bs ck) (by simp [restr, hl])
  cases O <;> simp only [RepO] at h3
  rename_i ents clock
  obtain ⟨_, _, _, h5, _⟩ := h3
  obtain ⟨L', hL', hg⟩ := hx.map_inv
  rw [h1] at hL'; cases hL'
  have hrun : (execOp a.eval o).run P w = .ok (.value (.pointer (some ⟨w.heap.size, 0, none⟩))) (w.alloc (.mapIter (some L.blk) ck #[] ck)) := by
    simp [execOp, ho, hg, Instr.range, run_underlying' hT, run_getObj h2, h5.2]
  obtain ⟨hF, hR'⟩ := fut_new (o := .iter (some l) ck [] ck) hR (hf q (Under.self _)) (Under.self q) (O := .mapIter (some L.blk) ck #[] ck) (L := ⟨w.heap.size, 0, 0, 0⟩) rfl ⟨rfl, rfl, rfl, rfl, .inr ⟨l, L, rfl, h1, rfl⟩⟩
  refine opC_value hrun ⟨_, R, hF, ?_, hR'⟩
  have := RepV.ptr (R := R) (ρ := fun k => if k = q then some (⟨w.heap.size, 0, 0, 0⟩ : Loc) else ρ k) q 1 0 0 ⟨w.heap.size, 0, 0, 0⟩ (by simp)
  simpa using this
theorem idx_born {ents : Array MapEntry} {bs : List Nat} (h : ents.toList.map (·.born) = bs) {b i : Nat} (hi : bs.idxOf? b = some i) : ∃ e, ents[i]? = some e ∧ e.born = b := by
  rw [List.idxOf?, List.findIdx?_eq_some_iff_getElem] at hi
  obtain ⟨h1, h2, _⟩ := hi
  subst h
  simp only [List.length_map, Array.length_toList] at h1
  refine ⟨ents[i], by rw [Array.getElem?_eq_getElem h1], ?_⟩
  simpa using h2
theorem sound_entry {p : Operand} {x : AV} (ho : o.op = .entry p) (hx : RepV ρ R x (a.eval p)) (h : aEntry x H = some r) : Sound P o a ρ R H q r := by
  unfold aEntry at h
  split at h
  · rename_i r' 
    split at h
    · rename_i l since seen st hr
      split at h
      · rename_i es bs ck hl
        split at h
        · rename_i hck
          simp only [Option.bind_eq_some_iff, Option.map_eq_some_iff] at h
          obtain ⟨b, hb, i, hi, e, he, rfl⟩ := h
          refine ⟨fun l hl => absurd hl (not_has_nil l), fun w hR _ => ?_⟩
          obtain ⟨L, O, h1, h2, h3⟩ := hR.own l (.amap es bs ck) (by simp [restr, hl])
          obtain ⟨L2, O2, k1, k2, k3⟩ := hR.own r' (.iter (some l) since seen st) (by simp [restr, hr])
          cases O <;> simp only [RepO] at h3
          rename_i ents clock
          cases O2 <;> simp only [RepO] at k3
          rename_i m' since' seen' st'
          obtain ⟨g1, g2, _, g5, g4⟩ := h3
          obtain ⟨j0, rfl, j2, rfl, j4⟩ := k3
          rcases j4 with ⟨j4, _⟩ | ⟨l', M, j4, j5, rfl⟩
          · cases j4
          cases j4
          rw [h1] at j5; cases j5
          obtain ⟨L', hL', hg⟩ := hx.ptr_inv
          rw [k1] at hL'; cases hL'
          rw [j0] at hg
          obtain ⟨m, hm, hmb⟩ := idx_born g5.1 hi
          have hsp : ∃ pre : Array Nat, seen' = pre.push m.born := by
            rw [← j2] at hb
            refine ⟨seen'.pop, ?_⟩
            have hne : seen' ≠ #[] := by rintro rfl; simp at hb
            rw [Array.getLast?_toList] at hb
            exact (Array.eq_push_pop_back!_of_size_ne_zero (by simpa using hne)).trans (by rw [hmb]; congr 1; rw [Array.back?] at hb; simp [Array.back!, getElem!_def, hb])
          obtain ⟨pre, rfl⟩ := hsp
          have hrun := run_entry_at (P := P) w L2.blk L.blk since' pre ents clock m (by rw [k2, g5.2, hck]) h2 (by simpa using Array.mem_of_getElem? hm) g2
          refine opC_value (v := .tuple #[m.key, m.val]) ?_ ⟨ρ, R, Fut.refl _ _ _ _ _, ?_, hR⟩
          · simp [execOp, ho, hg, hrun]
          · exact (RepL.cons (g4 i e m he hm).1 (.cons (g4 i e m he hm).2 .nil)).tuple
        · cases h
      · cases h
    · cases h
  · cases h
theorem Fut.heap {G : Heap} {ρ' : Locs} {R' : Imm} {w w' w2 : World} {W : Lab → Prop} (h : Fut G ρ R w W ρ' R' w') (h1 : w2.heap = w'.heap) (h2 : w2.os = w'.os) (h3 : w2.tape = w'.tape) (h4 : w2.output = w'.output) : Fut G ρ R w W ρ' R' w2 :=
  ⟨h.ext, h.win, h.new, h2.trans h.os, h3.trans h.tape, h4.trans h.output, by rw [h1]; exact h.size, by rw [h1]; exact h.frame⟩
theorem Rep.heap {G : Heap} {w w2 : World} (h : Rep G ρ R w) (h1 : w2.heap = w.heap) : Rep G ρ R w2 :=
  ⟨by rw [h1]; exact h.own, h.sep, h.dis, by rw [h1]; exact h.imm⟩
theorem left_of {ents : Array MapEntry} {es : List (AV × AV)} {bs seen : List Nat} {seen' : Array Nat} (hs : seen'.toList = seen) (hlen : ents.size = es.length) (hb : ents.toList.map (·.born) = bs) {m : MapEntry} (hm : m ∈ (leftOf ents seen').toList) :
    ∃ (i : Nat) (e : AV × AV), ents[i]? = some m ∧ es[i]? = some e ∧ (e, m.born) ∈ aLeft es bs seen := by
  simp only [leftOf, Array.toList_filter, List.mem_filter] at hm
  obtain ⟨h1, h2⟩ := hm
  obtain ⟨i, hi⟩ := List.getElem?_of_mem h1
  have hi' : ents[i]? = some m := by simpa using hi
  have hlt : i < es.length := by
    have := (Array.getElem?_eq_some_iff.1 hi').1
    omega
  refine ⟨i, es[i], hi', List.getElem?_eq_getElem hlt, ?_⟩
  simp only [aLeft, List.mem_filter]
  refine ⟨?_, ?_⟩
  · have : (es.zip bs)[i]? = some (es[i], m.born) := by
      rw [List.getElem?_zip_eq_some]
      refine ⟨List.getElem?_eq_getElem hlt, ?_⟩
      rw [← hb, List.getElem?_map, hi]
      rfl
    exact List.mem_of_getElem? this
  · rw [← hs]
    simpa using h2
theorem left_nil {ents : Array MapEntry} {es : List (AV × AV)} {bs seen : List Nat} {seen' : Array Nat} (hs : seen'.toList = seen) (_hlen : ents.size = es.length) (hb : ents.toList.map (·.born) = bs) (h0 : (leftOf ents seen').size = 0) : aLeft es bs seen = [] := by
  have h1 : leftOf ents seen' = #[] := Array.eq_empty_of_size_eq_zero h0
  simp only [aLeft, List.filter_eq_nil_iff]
  intro p hp
  obtain ⟨i, hi⟩ := List.getElem?_of_mem hp
  rw [List.getElem?_zip_eq_some] at hi
  obtain ⟨_, hi⟩ := hi
  rw [← hb, List.getElem?_map, Option.map_eq_some_iff] at hi
  obtain ⟨m, hm, hmb⟩ := hi
  have hm' : m ∈ ents := by
    have : m ∈ ents.toList := List.mem_of_getElem? hm
    simpa using this
  intro hc
  have : m ∈ leftOf ents seen' := by
    simp only [leftOf, Array.mem_filter]
    refine ⟨hm', ?_⟩
    rw [← hmb, ← hs] at hc
    simpa using hc
  rw [h1] at this
  simp at this
theorem sound_next {p : Operand} {x : AV} (ho : o.op = .next p false) (hx : RepV ρ R x (a.eval p)) (h : aNext x H = some r) : Sound P o a ρ R H q r := by
  unfold aNext at h
  split at h
  · rename_i r'
    obtain ⟨L', hL', hg⟩ := hx.ptr_inv
    split at h
    · rename_i since seen st hr
      simp only [Option.some.injEq] at h; subst h
      refine sound_read hr fun w L O hO hL hrep => ⟨.tuple #[.bool false], ?_, (RepL.cons (.bool false) .nil).tuple⟩
      have eL : L = L' := by rw [hL] at hL'; exact Option.some.inj hL'
      subst eL
      cases O <;> simp only [RepO] at hrep
      rename_i m' since' seen' st'
      obtain ⟨j0, _, _, _, j4⟩ := hrep
      rcases j4 with ⟨_, rfl⟩ | ⟨l', M, j4, _⟩
      · rw [j0] at hg
        have hget : (getObj L.blk).run P w = .ok (.mapIter none since' seen' st') w := by simp [getObj, Sem.run, hO]
        simp [execOp, ho, hg, Instr.next, hget]
      · cases j4
    · rename_i l since seen st hr
      split at h
      · rename_i es bs ck hl
        split at h
        · rename_i hc
          have hown : ∀ w ρ0 R0, ρ0 = ρ → R0 = R → Rep (restr H (some [r', l])) ρ0 R0 w → ∃ (L L2 : Loc) (ents : Array MapEntry) (seen' : Array Nat), ρ l = some L ∧ ρ r' = some L2 ∧ w.heap[L.blk]? = some (.map ents ck) ∧ w.heap[L2.blk]? = some (.mapIter (some L.blk) since seen' st) ∧ seen'.toList = seen ∧ L2.off = 0 ∧ RepO ρ R L (.amap es bs ck) (.map ents ck) ∧ a.eval p = .pointer (some ⟨L2.blk, 0, none⟩) := by
            rintro w _ _ rfl rfl hR
            obtain ⟨L, O, h1, h2, h3⟩ := hR.own l (.amap es bs ck) (by simp [restr, hl])
            obtain ⟨L2, O2, k1, k2, k3⟩ := hR.own r' (.iter (some l) since seen st) (by simp [restr, hr])
            have h3' := h3
            cases O <;> simp only [RepO] at h3'
            rename_i ents clock
            cases O2 <;> simp only [RepO] at k3
            rename_i m' since' seen' st'
            obtain ⟨_, _, _, g5, _⟩ := h3'
            obtain ⟨j0, rfl, j2, rfl, j4⟩ := k3
            rcases j4 with ⟨j4, _⟩ | ⟨l', M, j4, j5, rfl⟩
            · cases j4
            cases j4
            rw [h1] at j5; cases j5
            have eL : L2 = L' := by rw [k1] at hL'; exact Option.some.inj hL'
            subst eL
            rw [j0] at hg
            obtain ⟨_, rfl⟩ := g5
            exact ⟨L, L2, ents, seen', h1, k1, h2, k2, j2, j0, h3, hg⟩
          have hborn : ∀ {ents : Array MapEntry} {L : Loc}, RepO ρ R L (.amap es bs ck) (.map ents ck) → ∀ m ∈ ents.toList, m.born < since := by
            intro ents L h3 m hm
            simp only [RepO] at h3
            have : m.born ∈ bs := by rw [← h3.2.2.2.1.1]; exact List.mem_map_of_mem hm
            simpa using List.all_eq_true.1 hc.1 _ this
          split at h
          · rename_i hleft
            simp only [Option.some.injEq] at h; subst h
            refine ⟨fun l hl => absurd hl (not_has_nil l), fun w hR _ => ?_⟩
            obtain ⟨L, L2, ents, seen', h1, k1, h2, k2, j2, j0, h3, hp⟩ := hown w ρ R rfl rfl hR
            have h3' := h3
            simp only [RepO] at h3'
            rcases run_next_at (P := P) w o.type L2.blk L.blk since st seen' ents ck k2 h2 (hborn h3) hc.2 with ⟨_, hrun⟩ | ⟨m, hm, _⟩
            · refine opC_value (v := .tuple #[.bool false]) ?_ ⟨ρ, R, Fut.refl _ _ _ _ _, (RepL.cons (.bool false) .nil).tuple, hR⟩
              simp [execOp, ho, hp, hrun]
            · obtain ⟨i, e, _, _, hin⟩ := left_of j2 h3'.1 h3'.2.2.2.1.1 hm
              rw [hleft] at hin
              cases hin
          · rename_i e b hleft
            simp only [Option.some.injEq] at h; subst h
            refine ⟨fun k hk => .inl (by rw [has_one hk]; simp [restr, hr]), fun w hR _ => ?_⟩
            obtain ⟨L, L2, ents, seen', h1, k1, h2, k2, j2, j0, h3, hp⟩ := hown w ρ R rfl rfl hR
            have h3' := h3
            simp only [RepO] at h3'
            rcases run_next_at (P := P) w o.type L2.blk L.blk since st seen' ents ck k2 h2 (hborn h3) hc.2 with ⟨h0, _⟩ | ⟨m, hm, w1, hw1, hrun⟩
            · rw [left_nil j2 h3'.1 h3'.2.2.2.1.1 h0] at hleft
              cases hleft
            · obtain ⟨i, e', hmi, hei, hin⟩ := left_of j2 h3'.1 h3'.2.2.2.1.1 hm
              rw [hleft] at hin
              simp only [List.mem_singleton, Prod.mk.injEq] at hin
              obtain ⟨rfl, rfl⟩ := hin
              have ho' : RepO ρ R L2 (.iter (some l) since (seen ++ [m.born]) ck) (.mapIter (some L.blk) since (seen'.push m.born) ck) := by
                exact ⟨j0, rfl, by simp [j2], rfl, .inr ⟨l, L, rfl, h1, rfl⟩⟩
              obtain ⟨g1, g2, g3, g5, g4⟩ := h3'
              have hv : RepV ρ R (.tuple [.bool true, e'.1, e'.2]) (.tuple #[.bool true, m.key, m.val]) := (RepL.cons (.bool true) (.cons (g4 i e' m hei hmi).1 (.cons (g4 i e' m hei hmi).2 .nil))).tuple
              obtain ⟨hF, hR'⟩ := fut_upd (W := Under q) hR (show restr H (some [r', l]) r' = some (.iter (some l) since seen st) by simp [restr, hr]) k1 k2 ho'
              have hex : (execOp a.eval o).run P w = .ok (.value (.tuple #[.bool true, m.key, m.val])) (setBlock w1 L2.blk (.mapIter (some L.blk) since (seen'.push m.born) ck)) := by
                simp [execOp, ho, hp, hrun]
              rcases hw1 with rfl | rfl
              · exact opC_value hex ⟨ρ, R, hF, hv, hR'⟩
              · exact opC_value hex ⟨ρ, R, hF.heap rfl rfl rfl rfl, hv, hR'.heap rfl⟩
          · cases h
        · cases h
      · cases h
    · cases h
  · cases h
end Go.Proofs.Ytbngfbpegdcpkaa
