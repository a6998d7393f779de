/- The abstract machine: a map's literal, its entries laid in whatever order. -/
import Derived.Test.YtbngfbpegdcpkaaA33
namespace Go.Proofs.Ytbngfbpegdcpkaa
set_option linter.unusedVariables false
set_option linter.unusedSimpArgs false
def AllIdx (Q : Nat → AIns → Prop) : Nat → List AIns → Prop
  | _, [] => True
  | k, x :: l => Q k x ∧ AllIdx Q (k + 1) l
theorem all_idx {Q : Nat → AIns → Prop} : ∀ {l : List AIns} {k : Nat}, AllIdx Q k l → ∀ j i, l[j]? = some i → Q (k + j) i
  | [], _, _, j, i, h => by simp at h
  | x :: l, k, hq, j, i, h => by
    cases j with
    | zero => simp at h; subst h; exact hq.1
    | succ j =>
      have := all_idx hq.2 j i (by simpa using h)
      rwa [show k + 1 + j = k + (j + 1) by omega] at this
theorem v_conv {H : Heap} {q : Lab} {KK : KF} {k : IntKind} {n : Int} (h1 : -9223372036854775808 ≤ n) (h2 : n ≤ 9223372036854775807) : vGen (.conv .i64) [.int k n] H q KK = KK (.int .i64 n) H [] (some []) := by
  have : aop noCall (.conv .i64) [.int k n] H q = some (.pure (.int .i64 n)) := by simp [aop, arith, inR, h1, h2]
  simp [vGen, this]; rfl
theorem afind_no {agg : Bool} {ks : List CK} {k : AV} : ∀ {es : List (AV × AV)} {i : Nat}, (∀ e ∈ es, akeq agg ks k e.1 = some false) → afind agg ks k es i = some none
  | [], _, _ => rfl
  | e :: es, i, h => by
    simp only [afind, h e (by simp), Option.bind_some, Bool.false_eq_true, if_false]
    exact afind_no (fun x hx => h x (by simp [hx]))
theorem evArgs_cong {rl V : RL} : ∀ {xs : List AArg}, (∀ a, AArg.t a ∈ xs → rget rl a = rget V a) → evArgs rl xs = evArgs V xs
  | [], _ => rfl
  | x :: xs, h => by
    have ih := evArgs_cong (xs := xs) (fun a ha => h a (by simp [ha]))
    simp only [evArgs, ih]
    cases x with
    | t a => simp only [evArg, h a (by simp)]
    | c v => rfl
def depsOk (ops : List AIns) (masks base : List Nat) (j : Nat) (xs : List AArg) : Bool := xs.all fun
  | .t a => base.contains a || (List.range ops.length).any fun k => (masks.getD j 0).testBit k && ((ops[k]?).bind (·.dst)) == some a
  | .c _ => true
/-- the entries of those that are done -/
def entsD (U : List (Nat × (AV × AV))) (D : Nat → Bool) : List (AV × AV) := (U.filter fun u => D u.1).map (·.2)
theorem ents_add {U : List (Nat × (AV × AV))} {D : Nat → Bool} {j : Nat} {e : AV × AV} (hn : (U.map (·.1)).Nodup) (hj : (j, e) ∈ U) (hD : D j = false) : (entsD U D ++ [e]).Perm (entsD U (addD D j)) := by
  induction U with
  | nil => cases hj
  | cons u U ih =>
    rw [List.map_cons, List.nodup_cons] at hn
    have rest : ∀ V : List (Nat × (AV × AV)), j ∉ V.map (·.1) → entsD V (addD D j) = entsD V D := by
      intro V hV
      unfold entsD
      congr 1
      refine List.filter_congr fun x hx => ?_
      have : x.1 ≠ j := fun e => hV (e ▸ List.mem_map_of_mem hx)
      simp [addD, this]
    rcases List.mem_cons.1 hj with h | h
    · subst h
      have e1 : entsD ((j, e) :: U) D = entsD U D := by simp [entsD, hD]
      have e2 : entsD ((j, e) :: U) (addD D j) = e :: entsD U (addD D j) := by simp [entsD, addD]
      rw [e1, e2, rest U hn.1]
      exact List.perm_append_singleton _ _
    · have hne : u.1 ≠ j := fun e' => hn.1 (e' ▸ List.mem_map_of_mem (f := (·.1)) h)
      have ih := ih hn.2 h
      cases hu : D u.1
      · have e1 : entsD (u :: U) D = entsD U D := by simp [entsD, hu]
        have e2 : entsD (u :: U) (addD D j) = entsD U (addD D j) := by simp [entsD, addD, hu, hne]
        rw [e1, e2]; exact ih
      · have e1 : entsD (u :: U) D = u.2 :: entsD U D := by simp [entsD, hu]
        have e2 : entsD (u :: U) (addD D j) = u.2 :: entsD U (addD D j) := by simp [entsD, addD, hu]
        rw [e1, e2]; exact ih.cons _
section
variable (P : Program) (call : CallF) (ops : List AIns) (masks base : List Nat) (V : RL) (U : List (Nat × (AV × AV))) (agg : Bool) (ks : List CK) (lM : Lab)
/-- an operation of a map's literal -/
inductive LitOp : Nat → AIns → Prop
  | mk (t : Nat) (hv : rget V t = some (.map lM)) : LitOp 0 ⟨some t, none, .mkmap, []⟩
  | upd (j : Nat) (m k v : AArg) (kv vv : AV) (hd : depsOk ops masks base j [m, k, v] = true) (h0 : (masks.getD j 0).testBit 0 = true) (he : evArgs V [m, k, v] = some [.map lM, kv, vv]) (hu : (j, (kv, vv)) ∈ U) : LitOp j ⟨none, none, .mapUpdate agg ks, [m, k, v]⟩
  | val (j t : Nat) (ak : AK) (xs : List AArg) (ys : List AV) (x : AV) (f : Option (List Lab)) (hd : depsOk ops masks base j xs = true) (he : evArgs V xs = some ys) (hr : ∀ H q, aop call ak ys H q = some ⟨x, [], f⟩) (hv : rget V t = some x) (hj : j ≠ 0) (hu : j ∉ U.map (·.1)) : LitOp j ⟨some t, none, ak, xs⟩
end
section
variable {P : Program} {call : CallF} {ops : List AIns} {masks base : List Nat} {V : RL} {U : List (Nat × (AV × AV))} {agg : Bool} {ks : List CK} {H0 : Heap} {p : Lab}
theorem nd_lit {s : ASt} {keep : List Nat} {Q : APost} (hb : ∀ a ∈ base, rget s.regs a = rget V a) (hops : ∀ j i, ops[j]? = some i → LitOp call ops masks base V U agg ks (s.c :: p) j i)
    (hU : (U.map (·.1)).Nodup) (hk : ∀ u ∈ U, shaped agg ks u.2.1 = true ∧ ∀ u' ∈ U, u'.1 ≠ u.1 → akeq agg ks u.2.1 u'.2.1 = some false) (hUo : ∀ u ∈ U, u.1 < ops.length ∧ u.1 ≠ 0) (h0 : 0 < ops.length)
    (hQ : ∀ rl ov es, (∀ (k : Nat) i t, ops[k]? = some i → i.dst = some t → rget rl t = rget V t) → upd ov H0 (s.c :: p) = some (.amap es (List.range es.length) es.length) → es.Perm (U.map (·.2)) → (∀ l, l ≠ s.c :: p → upd ov H0 l = upd s.ov H0 l) → ∃ s', Weak H0 p ⟨restrict rl keep, ov, s.c + ops.length⟩ s' ∧ Q .normal s') :
    NdOk H0 p call ops masks keep Q s := by
  refine ⟨fun D rl ov => (∀ a ∈ base, rget rl a = rget V a) ∧ (∀ (k : Nat) i t, D k = true → ops[k]? = some i → i.dst = some t → rget rl t = rget V t) ∧
    (D 0 = true → ∃ es, upd ov H0 (s.c :: p) = some (.amap es (List.range es.length) es.length) ∧ es.Perm (entsD U D)) ∧ (∀ u ∈ U, D u.1 = true → D 0 = true) ∧ ∀ l, l ≠ s.c :: p → upd ov H0 l = upd s.ov H0 l,
    ⟨hb, fun k i t h => (by cases h), fun h => (by cases h), fun u _ h => (by cases h), fun l _ => rfl⟩, ?_, ?_⟩
  · rintro D rl ov j i ⟨h1, h2, h3, h4, h5⟩ hi hj hm
    have deps : ∀ {xs : List AArg}, depsOk ops masks base j xs = true → evArgs rl xs = evArgs V xs := fun {xs} hd => evArgs_cong fun a ha => by
      have := List.all_eq_true.1 hd _ ha
      simp only [Bool.or_eq_true, List.contains_iff_mem, List.any_eq_true, List.mem_range, Bool.and_eq_true, beq_iff_eq] at this
      rcases this with hb' | ⟨k, _, hk1, hk2⟩
      · exact h1 a hb'
      · cases hok : ops[k]? with
        | none => rw [hok] at hk2; cases hk2
        | some ik => rw [hok] at hk2; exact h2 k ik a (hm k hk1) hok hk2
    cases hops j i hi with
    | mk t hv =>
      have hnone : entsD U D = [] := by
        unfold entsD
        rw [List.map_eq_nil_iff, List.filter_eq_nil_iff]
        intro u hu hDu
        rw [h4 u hu hDu] at hj; cases hj
      refine ⟨⟨false, .map (s.c :: p), [(s.c :: p, some (.amap [] [] 0))], s.c :: p, some []⟩, by simp [evalIns, runIns, evArgs, aop], fun a ha => ?_, fun k i' t' hDk hik hdt => ?_, fun _ => ⟨[], ?_, ?_⟩, fun u hu _ => by simp [addD], fun l hl => ?_⟩
      · simp only [putReg, rget_rset]
        split
        · rename_i e; rw [e, hv]
        · exact h1 a ha
      · simp only [putReg, rget_rset]
        split
        · rename_i e; rw [e, hv]
        · rename_i hne
          simp only [addD, Bool.or_eq_true, beq_iff_eq] at hDk
          rcases hDk with rfl | hDk
          · rw [hi] at hik; cases hik; simp only [Option.some.injEq] at hdt; exact absurd hdt.symm hne
          · exact h2 k i' t' hDk hik hdt
      · rw [upd_omerge]; simp [upd]
      · have e : entsD U (addD D 0) = entsD U D := by
          unfold entsD
          congr 1
          refine List.filter_congr fun u hu => ?_
          have e := (hUo u hu).2
          simp [addD, e]
        rw [e, hnone]
      · rw [upd_omerge]
        simp only [upd]
        rw [if_neg hl]
        exact h5 l hl
    | upd _ m k v kv vv hd hm0 he hu =>
      obtain ⟨es, g1, g2⟩ := h3 (hm 0 hm0)
      have hev := (deps hd).trans he
      have hno : afind agg ks kv es 0 = some none := afind_no (fun e he' => by
        have h6 := g2.subset he'
        obtain ⟨u', hu', rfl⟩ := List.mem_map.1 h6
        obtain ⟨hu1, hu2⟩ := List.mem_filter.1 hu'
        exact (hk _ hu).2 u' hu1 (fun e => by simp only at e; rw [e, hj] at hu2; cases hu2))
      have hup : aMapUpdate agg ks (.map (s.c :: p)) kv vv (upd ov H0) = some ⟨.tuple [], [(s.c :: p, some (.amap (es ++ [(kv, vv)]) (List.range es.length ++ [es.length]) (es.length + 1)))], some [s.c :: p]⟩ := by
        simp only [aMapUpdate, (hk _ hu).1, if_true, g1, hno, Option.bind_some]
      have hrun : runIns call H0 p ⟨none, none, .mapUpdate agg ks, [m, k, v]⟩ ⟨rl, ov, s.c + j⟩ = some ⟨false, .tuple [], [(s.c :: p, some (.amap (es ++ [(kv, vv)]) (List.range es.length ++ [es.length]) (es.length + 1)))], (s.c + j) :: p, some [s.c :: p]⟩ := by
        simp only [runIns, hev, Option.bind_some, aop, hup]
      have hj0 : D 0 = true := hm 0 hm0
      refine ⟨_, by simpa only [evalIns] using hrun, h1, fun k' i' t' hDk hik hdt => ?_, fun _ => ⟨es ++ [(kv, vv)], ?_, ?_⟩, fun u _ _ => by simp [addD, hj0], fun l hl => ?_⟩
      · simp only [addD, Bool.or_eq_true, beq_iff_eq] at hDk
        rcases hDk with rfl | hDk
        · rw [hi] at hik; cases hik; cases hdt
        · exact h2 k' i' t' hDk hik hdt
      · rw [upd_omerge]; simp [upd, List.range_succ]
      · exact (g2.append_right _).trans (ents_add hU hu hj)
      · rw [upd_omerge]
        simp only [upd]
        rw [if_neg hl]
        exact h5 l hl
    | val _ t ak xs ys x f hd he hr hv hj0 hu =>
      have hev := (deps hd).trans he
      have hrun : runIns call H0 p ⟨some t, none, ak, xs⟩ ⟨rl, ov, s.c + j⟩ = some ⟨false, x, [], (s.c + j) :: p, f⟩ := by
        simp only [runIns, hev, Option.bind_some, hr]
      have hents : entsD U (addD D j) = entsD U D := by
        unfold entsD
        congr 1
        refine List.filter_congr fun u hu' => ?_
        have e : u.1 ≠ j := fun e => hu (e ▸ List.mem_map_of_mem (f := (·.1)) hu')
        simp [addD, e]
      refine ⟨_, by simpa only [evalIns] using hrun, fun a ha => ?_, fun k' i' t' hDk hik hdt => ?_, fun hD0 => ?_, fun u hu' hDu => ?_, fun l hl => by rw [upd_omerge]; exact h5 l hl⟩
      · simp only [putReg, rget_rset]
        split
        · rename_i e; rw [e, hv]
        · exact h1 a ha
      · simp only [putReg, rget_rset]
        split
        · rename_i e; rw [e, hv]
        · rename_i hne
          simp only [addD, Bool.or_eq_true, beq_iff_eq] at hDk
          rcases hDk with rfl | hDk
          · rw [hi] at hik; cases hik; simp only [Option.some.injEq] at hdt; exact absurd hdt.symm hne
          · exact h2 k' i' t' hDk hik hdt
      · simp only [addD, Bool.or_eq_true, beq_iff_eq] at hD0
        rcases hD0 with e | hD0
        · exact absurd e.symm hj0
        · obtain ⟨es, g1, g2⟩ := h3 hD0
          exact ⟨es, by rw [upd_omerge]; exact g1, by rw [hents]; exact g2⟩
      · simp only [addD, Bool.or_eq_true, beq_iff_eq] at hDu ⊢
        rcases hDu with e | hDu
        · exact absurd (e ▸ List.mem_map_of_mem (f := (·.1)) hu') hu
        · exact .inr (h4 u hu' hDu)
  · rintro D rl ov hD ⟨h1, h2, h3, h4, h5⟩
    obtain ⟨es, g1, g2⟩ := h3 (hD 0 h0)
    have hall : entsD U D = U.map (·.2) := by
      unfold entsD
      rw [List.filter_eq_self.2 (fun u hu => hD u.1 (hUo u hu).1)]
    rw [hall] at g2
    exact hQ rl ov es (fun k i t hik hdt => h2 k i t (hD k (List.getElem?_eq_some_iff.1 hik).1) hik hdt) g1 g2 h5
end
end Go.Proofs.Ytbngfbpegdcpkaa
