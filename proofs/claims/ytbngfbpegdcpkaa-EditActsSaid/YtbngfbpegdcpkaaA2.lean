/- The abstract machine: regions, in whatever order. -/
import Derived.Test.YtbngfbpegdcpkaaA1
namespace Go.Proofs.Ytbngfbpegdcpkaa
set_option linter.unusedVariables false
set_option linter.unusedSimpArgs false

theorem Fut.refl (H : Heap) (ρ : Locs) (R : Imm) (w : World) (W : Lab → Prop) : Fut H ρ R w W ρ R w :=
  ⟨.refl _ _, fun _ _ h => .inl h, fun _ _ h => .inl h, rfl, rfl, rfl, Nat.le_refl _, fun _ _ _ => rfl⟩
/-- one behind the other -/
theorem Fut.trans {H G : Heap} {ρ ρ1 ρ2 : Locs} {R R1 R2 : Imm} {w w1 w2 : World} {W W1 W2 : Lab → Prop} (_hH : Rep H ρ R w)
    (h1 : Fut H ρ R w W1 ρ1 R1 w1) (h2 : Fut G ρ1 R1 w1 W2 ρ2 R2 w2) (hG : ∀ k o, G k = some o → H k ≠ none ∨ ρ k = none) (ha : ∀ l, W1 l → W l) (hb : ∀ l, W2 l → W l) : Fut H ρ R w W ρ2 R2 w2 := by
  -- a block of G's is one of H's, or a new one
  have own : ∀ k o K, G k = some o → ρ1 k = some K → w.heap.size ≤ K.blk ∨ ∃ k o' K', H k = some o' ∧ ρ k = some K' ∧ K'.blk = K.blk := by
    intro k o K hk hK
    rcases h1.win k K hK with h | ⟨_, h | h⟩
    · rcases hG k o hk with h3 | h3
      · obtain ⟨o', ho'⟩ := Option.ne_none_iff_exists'.1 h3
        exact .inr ⟨k, o', K, ho', h, rfl⟩
      · rw [h] at h3; cases h3
    · exact .inl h
    · exact .inr h
  refine { ext := h1.ext.trans h2.ext, win := ?_, new := ?_, os := h2.os.trans h1.os, tape := h2.tape.trans h1.tape, output := h2.output.trans h1.output, size := Nat.le_trans h1.size h2.size, frame := ?_ }
  · intro l L e
    rcases h2.win l L e with h | ⟨h4, h5⟩
    · rcases h1.win l L h with h | ⟨h4, h5⟩
      · exact .inl h
      · exact .inr ⟨ha l h4, h5⟩
    · refine .inr ⟨hb l h4, ?_⟩
      rcases h5 with h5 | ⟨k, o, K, h6, h7, h8⟩
      · exact .inl (Nat.le_trans h1.size h5)
      · rw [← h8]; exact own k o K h6 h7
  · intro c O e
    rcases h2.new c O e with h | h | ⟨k, o, K, h6, h7, h8⟩
    · exact h1.new c O h
    · exact .inr (.inl (Nat.le_trans h1.size h))
    · rw [← h8]; exact .inr (own k o K h6 h7)
  · intro c hc hno
    rw [h2.frame c (Nat.lt_of_lt_of_le hc h1.size) ?_, h1.frame c hc hno]
    intro k o K hk hK e
    rcases own k o K hk hK with h | ⟨k', o', K', h3, h4, h5⟩
    · omega
    · exact hno k' o' K' h3 h4 (h5.trans e)

abbrev Regs := Nat → Option AV
def setR (r : Regs) (d : Option Nat) (x : AV) : Regs := match d with
  | none => r
  | some t => fun k => if k = t then some x else r k

structure RepS (n : Nat) (r : Regs) (H : Heap) (ρ : Locs) (R : Imm) (a : Act) (w : World) : Prop where
  size : a.tmps.size = n
  defers : a.defers = []
  regs : ∀ t x, r t = some x → RepV ρ R x (a.tmps.getD t undef)
  heap : Rep H ρ R w

/-- an operation as a computation -/
def opC (P : Program) (o : Oper) (a : Act) (w : World) (K : Value → World → Prop) : Prop :=
  ∀ (next : Act → World → Prop) (Q : Exit → Act → World → Prop), (∀ v w', K v w' → next (a.put o.dst v) w') → o.wp P a w next Q
theorem opC_mono {P : Program} {o : Oper} {a : Act} : ∀ w K K', (∀ v w', K v w' → K' v w') → opC P o a w K → opC P o a w K' :=
  fun _ _ _ h hk next Q hn => hk next Q (fun v w' hv => hn v w' (h v w' hv))

/-- what is known of an operation of a region once it is reckoned out -/
structure Rc where
  skip : Bool
  x : AV
  u : Chg
  q : Lab
  foot : Option (List Lab)
/-- the labels below one -/
def Under (q : Lab) (l : Lab) : Prop := ∃ s, l = s ++ q
def restr (H : Heap) : Option (List Lab) → Heap
  | none => H
  | some ls => fun l => if l ∈ ls then H l else none

section
variable (ops : Array Oper) (rc : Nat → Rc) (D : Nat → Bool) (r0 : Regs) (H0 : Heap)
def stR : Nat → Regs
  | 0 => r0
  | k + 1 => if D k then setR (stR k) ((ops[k]?).bind (·.dst)) (rc k).x else stR k
def stH : Nat → Heap
  | 0 => H0
  | k + 1 => if D k then upd (rc k).u (stH k) else stH k
end
/-- one operation waits for another one -/
inductive Anc (ops : Array Oper) : Nat → Nat → Prop
  | step {j : Nat} {o : Oper} {e : Edge} (ho : ops[j]? = some o) (he : e ∈ o.after) (hb : Region.binds .any e = true) : Anc ops e.on j
  | trans {i j k : Nat} (h : Anc ops i j) (h' : Anc ops j k) : Anc ops i k

def Look (ops : Array Oper) (o : Oper) (r : Regs) (ρ : Locs) (R : Imm) (a : Act) : Prop := ∀ t ∈ o.looksAt ops, ∀ y, r t = some y → RepV ρ R y (a.tmps.getD t undef)

structure RegOk (P : Program) (ops : Array Oper) (n : Nat) (rc : Nat → Rc) (r0 : Regs) (H0 : Heap) (W : Lab → Prop) : Prop where
  skip : ∀ j o, ops[j]? = some o → (rc j).skip = true → (rc j).x = .tuple [] ∧ (rc j).u = [] ∧
    ∀ ρ R a, Look ops o (stR ops rc (fun _ => true) r0 j) ρ R a → a.tmps.size = n → Region.wanted o (yielded ops a.tmps) = false
  run : ∀ j o, ops[j]? = some o → (rc j).skip = false → (∀ l, (rc j).u.has l → restr (stH rc (fun _ => true) H0 j) (rc j).foot l ≠ none ∨ Under (rc j).q l) ∧
    ∀ ρ R a, Look ops o (stR ops rc (fun _ => true) r0 j) ρ R a → a.tmps.size = n → Region.wanted o (yielded ops a.tmps) = true ∧
      Does (opC P o a) (restr (stH rc (fun _ => true) H0 j) (rc j).foot) (rc j).u (Under (rc j).q) ρ R (rc j).x
  back : ∀ j o e, ops[j]? = some o → e ∈ o.after → Region.binds .any e = true → e.on < j
  win : ∀ i j, i ≠ j → i < ops.size → j < ops.size → ∀ l, Under (rc i).q l → ¬ Under (rc j).q l
  wid : ∀ j, j < ops.size → ∀ l, Under (rc j).q l → W l
  regs : ∀ i j oi oj, i ≠ j → ops[i]? = some oi → ops[j]? = some oj → ¬ Anc ops i j → ¬ Anc ops j i → oi.apart ops oj = true
  heap : ∀ i j, i ≠ j → i < ops.size → j < ops.size → ¬ Anc ops i j → ¬ Anc ops j i → ∀ l, (rc i).u.has l → restr (stH rc (fun _ => true) H0 j) (rc j).foot l = none
  dst : ∀ (j : Nat) (o : Oper) (d : Nat), ops[j]? = some o → o.dst = some d → d < n

section
variable {P : Program} {ops : Array Oper} {n : Nat} {rc : Nat → Rc} {r0 : Regs} {H0 : Heap} {W : Lab → Prop}
theorem RegOk.anc_lt (h : RegOk P ops n rc r0 H0 W) {i j : Nat} (ha : Anc ops i j) : i < j := by
  induction ha with
  | step ho he hb => exact h.back _ _ _ ho he hb
  | trans _ _ h1 h2 => omega

theorem upd_other {u : Chg} {H : Heap} {l : Lab} (h : ¬ u.has l) : upd u H l = H l := upd_not h
theorem setR_other {r : Regs} {d : Option Nat} {x : AV} {t : Nat} (h : d ≠ some t) : setR r d x t = r t := by
  cases d with
  | none => rfl
  | some k => simp only [setR]; rw [if_neg (fun e => h (by rw [e]))]

/-- a register that only operations which stand in one order write -/
theorem stR_agree {D : Nat → Bool} {j : Nat} {t : Nat} (hD1 : ∀ i oi, i < j → ops[i]? = some oi → oi.dst = some t → D i = true) (hD2 : ∀ i oi, j ≤ i → ops[i]? = some oi → oi.dst = some t → D i = false) :
    ∀ k, stR ops rc D r0 k t = stR ops rc (fun _ => true) r0 (min k j) t
  | 0 => by simp [stR]
  | k + 1 => by
    have ih := stR_agree hD1 hD2 k
    simp only [stR]
    by_cases hk : k < j
    · rw [show min (k + 1) j = min k j + 1 by omega]
      have hm : min k j = k := by omega
      simp only [stR, if_true]
      rw [hm] at ih ⊢
      cases ho : ops[k]? with
      | none => simp only [Option.bind_none, setR]; split <;> exact ih
      | some o =>
        simp only [Option.bind_some]
        by_cases hd : o.dst = some t
        · rw [hD1 k o hk ho hd, if_pos rfl]
          simp [setR, hd]
        · rw [setR_other hd]
          split
          · rw [setR_other hd]; exact ih
          · exact ih
    · rw [show min (k + 1) j = min k j by omega]
      split
      · rename_i hDk
        cases ho : ops[k]? with
        | none => simp only [Option.bind_none, setR]; exact ih
        | some o =>
          simp only [Option.bind_some]
          rw [setR_other]
          · exact ih
          · intro hd
            rw [hD2 k o (by omega) ho hd] at hDk; cases hDk
      · exact ih
theorem stH_agree {D : Nat → Bool} {j : Nat} {l : Lab} (hD1 : ∀ i, i < j → (rc i).u.has l → D i = true) (hD2 : ∀ i, j ≤ i → i < ops.size → (rc i).u.has l → D i = false) :
    ∀ k, k ≤ ops.size → stH rc D H0 k l = stH rc (fun _ => true) H0 (min k j) l
  | 0, _ => by simp [stH]
  | k + 1, hks => by
    have ih := stH_agree hD1 hD2 k (by omega)
    simp only [stH]
    by_cases hk : k < j
    · rw [show min (k + 1) j = min k j + 1 by omega]
      have hm : min k j = k := by omega
      simp only [stH, if_true]
      rw [hm] at ih ⊢
      by_cases hu : (rc k).u.has l
      · rw [hD1 k hk hu, if_pos rfl]
        exact upd_has hu
      · rw [upd_not hu]
        split
        · rw [upd_not hu]; exact ih
        · exact ih
    · rw [show min (k + 1) j = min k j by omega]
      split
      · rename_i hDk
        rw [upd_not]
        · exact ih
        · intro hu
          rw [hD2 k (by omega) (by omega) hu] at hDk; cases hDk
      · exact ih

def addD (D : Nat → Bool) (j : Nat) : Nat → Bool := fun i => i == j || D i
theorem stR_add {D : Nat → Bool} {j : Nat} {o : Oper} (hj : D j = false) (ho : ops[j]? = some o) (hlater : ∀ i oi, j < i → ops[i]? = some oi → D i = true → ∀ d, o.dst = some d → oi.dst ≠ some d) :
    ∀ k, stR ops rc (addD D j) r0 k = if j < k then setR (stR ops rc D r0 k) o.dst (rc j).x else stR ops rc D r0 k
  | 0 => by simp [stR]
  | k + 1 => by
    have ih := stR_add hj ho hlater k
    simp only [stR]
    by_cases hk : k = j
    · subst hk
      simp [addD, ih, hj, ho]
    · have : addD D j k = D k := by simp [addD, hk]
      rw [this, ih]
      by_cases hjk : j < k
      · have hjk' : j < k + 1 := by omega
        simp only [hjk, hjk', if_true]
        cases hDk : D k with
        | false => simp
        | true =>
          simp only [if_true]
          cases hok : ops[k]? with
          | none => simp [setR]
          | some ok =>
            simp only [Option.bind_some]
            have hne := hlater k ok hjk hok hDk
            funext t
            cases hd : o.dst with
            | none => simp [setR]
            | some d =>
              cases hd' : ok.dst with
              | none => simp [setR]
              | some d' =>
                have : d' ≠ d := fun e => hne d hd (by rw [hd', e])
                simp only [setR]
                by_cases h1 : t = d' <;> by_cases h2 : t = d <;> simp [h1, h2]
                · exact absurd (h1.symm.trans h2) this
                · intro e; exact absurd e this
                · intro e; exact absurd e.symm this
      · have hjk' : ¬ j < k + 1 := by omega
        simp only [hjk, hjk', if_false]
theorem stH_add {D : Nat → Bool} {j : Nat} (hj : D j = false) (hlater : ∀ i l, j < i → i < ops.size → D i = true → (rc j).u.has l → ¬ (rc i).u.has l) :
    ∀ k, k ≤ ops.size → stH rc (addD D j) H0 k = if j < k then upd (rc j).u (stH rc D H0 k) else stH rc D H0 k
  | 0, _ => by simp [stH]
  | k + 1, hks => by
    have ih := stH_add hj hlater k (by omega)
    simp only [stH]
    by_cases hk : k = j
    · subst hk
      simp [addD, ih, hj]
    · have : addD D j k = D k := by simp [addD, hk]
      rw [this, ih]
      by_cases hjk : j < k
      · have hjk' : j < k + 1 := by omega
        simp only [hjk, hjk', if_true]
        cases hDk : D k with
        | false => simp
        | true =>
          simp only [if_true]
          funext l
          by_cases h1 : (rc j).u.has l
          · have h2 := hlater k l hjk (by omega) hDk h1
            rw [upd_not h2, upd_has (H' := upd (rc k).u (stH rc D H0 k)) h1]
          · rw [upd_not h1]
            by_cases h2 : (rc k).u.has l
            · exact upd_has h2
            · rw [upd_not h2, upd_not h1, upd_not h2]
      · have hjk' : ¬ j < k + 1 := by omega
        simp only [hjk, hjk', if_false]

theorem RepS.put {r : Regs} {H H' : Heap} {ρ ρ' : Locs} {R R' : Imm} {a : Act} {w w' : World} {d : Option Nat} {x : AV} {v : Value} (h : RepS n r H ρ R a w) (hd : ∀ t, d = some t → t < n) (e : Ext ρ ρ' R R') (hx : RepV ρ' R' x v) (hH : Rep H' ρ' R' w') :
    RepS n (setR r d x) H' ρ' R' (a.put d v) w' := by
  cases d with
  | none => exact ⟨h.size, h.defers, fun t y hy => (h.regs t y hy).mono e, hH⟩
  | some t =>
    refine ⟨by simpa [Act.put] using h.size, h.defers, fun k y hy => ?_, hH⟩
    simp only [setR] at hy
    have hs := h.size
    have ht := hd t rfl
    split at hy
    · rename_i hk
      subst hk
      cases hy
      simpa [Act.put, Array.getD, hs, ht] using hx
    · rename_i hk
      have := (h.regs k y hy).mono e
      have hne : t ≠ k := fun e => hk e.symm
      simpa [Act.put, Array.getElem?_setIfInBounds_ne hne] using this

theorem RegOk.looks (h : RegOk P ops n rc r0 H0 W) {D : Nat → Bool} {j : Nat} {o : Oper} (ho : ops[j]? = some o) (hj : D j = false) (hpre : ∀ i, Anc ops i j → D i = true) (hdown : ∀ i k, D k = true → Anc ops i k → D i = true) :
    (∀ t ∈ o.looksAt ops, stR ops rc D r0 ops.size t = stR ops rc (fun _ => true) r0 j t) ∧
    (∀ l o', restr (stH rc (fun _ => true) H0 j) (rc j).foot l = some o' → stH rc D H0 ops.size l = some o') := by
  have hjs : j < ops.size := (Array.getElem?_eq_some_iff.1 ho).1
  constructor
  · intro t ht
    have hw : ∀ i (oi : Oper), i ≠ j → ops[i]? = some oi → oi.dst = some t → Anc ops i j ∨ Anc ops j i := by
      intro i oi hij hoi hdt
      by_cases h1 : Anc ops i j
      · exact .inl h1
      by_cases h2 : Anc ops j i
      · exact .inr h2
      exact absurd ht ((Oper.apart_spec (h.regs i j oi o hij hoi ho h1 h2)).1 t hdt)
    have := stR_agree (rc := rc) (r0 := r0) (D := D) (j := j) (t := t) (ops := ops) ?_ ?_ ops.size
    · rwa [show min ops.size j = j by omega] at this
    · intro i oi hi hoi hdt
      rcases hw i oi (by omega) hoi hdt with h1 | h1
      · exact hpre i h1
      · have := h.anc_lt h1; omega
    · intro i oi hi hoi hdt
      by_cases hij : i = j
      · rw [hij]; exact hj
      rcases hw i oi hij hoi hdt with h1 | h1
      · have := h.anc_lt h1; omega
      · cases hDi : D i with
        | false => rfl
        | true => rw [hdown j i hDi h1] at hj; cases hj
  · intro l o' hl
    have hl' : stH rc (fun _ => true) H0 j l = some o' := by
      revert hl
      cases (rc j).foot with
      | none => exact id
      | some ls => simp only [restr]; split <;> simp
    have hw : ∀ i, i < ops.size → i ≠ j → (rc i).u.has l → Anc ops i j ∨ Anc ops j i := by
      intro i hi hij hu
      by_cases h1 : Anc ops i j
      · exact .inl h1
      by_cases h2 : Anc ops j i
      · exact .inr h2
      have := h.heap i j hij hi hjs h1 h2 l hu
      rw [hl] at this; cases this
    have := stH_agree (rc := rc) (H0 := H0) (D := D) (j := j) (l := l) (ops := ops) ?_ ?_ ops.size (Nat.le_refl _)
    · rw [this, show min ops.size j = j by omega]; exact hl'
    · intro i hi hu
      rcases hw i (by omega) (by omega) hu with h1 | h1
      · exact hpre i h1
      · have := h.anc_lt h1; omega
    · intro i hi his hu
      by_cases hij : i = j
      · rw [hij]; exact hj
      rcases hw i his hij hu with h1 | h1
      · have := h.anc_lt h1; omega
      · cases hDi : D i with
        | false => rfl
        | true => rw [hdown j i hDi h1] at hj; cases hj

theorem upd_lab {u : Chg} {H : Heap} {l : Lab} {o : AO} (h : upd u H l = some o) : u.has l ∨ H l = some o := by
  by_cases hu : u.has l
  · exact .inl hu
  · rw [upd_not hu] at h; exact .inr h
theorem stH_lab {D : Nat → Bool} {l : Lab} {o : AO} : ∀ k, stH rc D H0 k l = some o → H0 l ≠ none ∨ ∃ i, i < k ∧ (rc i).u.has l
  | 0, h => .inl (by simp only [stH] at h; rw [h]; simp)
  | k + 1, h => by
    simp only [stH] at h
    split at h
    · rcases upd_lab h with h1 | h1
      · exact .inr ⟨k, by omega, h1⟩
      · rcases stH_lab k h1 with h2 | ⟨i, hi, h2⟩
        · exact .inl h2
        · exact .inr ⟨i, by omega, h2⟩
    · rcases stH_lab k h with h2 | ⟨i, hi, h2⟩
      · exact .inl h2
      · exact .inr ⟨i, by omega, h2⟩
/-- a label that a region changes was there, or is one of its new ones -/
theorem RegOk.lab (h : RegOk P ops n rc r0 H0 W) (i : Nat) (hi : i < ops.size) {l : Lab} (hu : (rc i).u.has l) : H0 l ≠ none ∨ W l := by
  induction i using Nat.strongRecOn with
  | _ i ih =>
    obtain ⟨o, ho⟩ : ∃ o, ops[i]? = some o := ⟨_, Array.getElem?_eq_getElem hi⟩
    cases hs : (rc i).skip with
    | true => rw [(h.skip i o ho hs).2.1] at hu; obtain ⟨p, hp, _⟩ := hu; cases hp
    | false =>
      rcases (h.run i o ho hs).1 l hu with h1 | h1
      · have : ∃ o', stH rc (fun _ => true) H0 i l = some o' := by
          revert h1
          cases (rc i).foot with
          | none => intro h1; exact Option.ne_none_iff_exists'.1 h1
          | some ls => simp only [restr]; split <;> intro h1 <;> first | exact Option.ne_none_iff_exists'.1 h1 | exact absurd rfl h1
        obtain ⟨o', ho'⟩ := this
        rcases stH_lab i ho' with h2 | ⟨k, hk, h2⟩
        · exact .inl h2
        · exact ih k hk (by omega) h2
      · exact .inr (h.wid i hi l h1)

/-- WHATEVER ORDER IS PICKED. -/
theorem region_any (h : RegOk P ops n rc r0 H0 W) {ρ0 : Locs} {R0 : Imm} {w0 : World} (h0 : Rep H0 ρ0 R0 w0) (hf0 : ∀ l, W l → ρ0 l = none) {Q : Exit → Act → World → Prop}
    (hQ : ∀ a ρ R w, Fut H0 ρ0 R0 w0 W ρ R w → RepS n (stR ops rc (fun _ => true) r0 ops.size) (stH rc (fun _ => true) H0 ops.size) ρ R a w → Q .normal a w) :
    ∀ (fuel : Nat) (listed : Array Bool) (a : Act) (w : World) (ρ : Locs) (R : Imm), listed.size = ops.size →
      Fut H0 ρ0 R0 w0 W ρ R w → RepS n (stR ops rc (fun i => listed.getD i false) r0 ops.size) (stH rc (fun i => listed.getD i false) H0 ops.size) ρ R a w →
      (∀ i, i < ops.size → listed.getD i false = false → ∀ l, Under (rc i).q l → ρ l = none) →
      (∀ i k, listed.getD k false = true → Anc ops i k → listed.getD i false = true) →
      (listed.toList.filter (!·)).length ≤ fuel → wpAny P .any ops Q fuel listed a w := by
  intro fuel
  -- when nothing is ready everything is done
  have done : ∀ listed : Array Bool, listed.size = ops.size → Region.ready .any ops listed = [] → ∀ i, i < ops.size → listed.getD i false = true := by
    intro listed hsz hr i
    induction i using Nat.strongRecOn with
    | _ i ih =>
      intro hi
      cases hl : listed.getD i false with
      | true => rfl
      | false =>
        have : i ∈ Region.ready .any ops listed := by
          rw [mem_ready]
          refine ⟨?_, ops[i], Array.getElem?_eq_getElem hi, fun e he hb => ?_⟩
          · have : i < listed.size := by omega
            simp [this] at hl ⊢
            exact hl
          · have := h.back i _ e (Array.getElem?_eq_getElem hi) he hb
            exact ih e.on this (by omega)
        rw [hr] at this; cases this
  have fin : ∀ (listed : Array Bool) (a : Act) (w : World) (ρ : Locs) (R : Imm), (∀ i, i < ops.size → listed.getD i false = true) → Fut H0 ρ0 R0 w0 W ρ R w →
      RepS n (stR ops rc (fun i => listed.getD i false) r0 ops.size) (stH rc (fun i => listed.getD i false) H0 ops.size) ρ R a w → Q .normal a w := by
    intro listed a w ρ R hall hF hS
    refine hQ a ρ R w hF ?_
    have e1 : ∀ k, k ≤ ops.size → stR ops rc (fun i => listed.getD i false) r0 k = stR ops rc (fun _ => true) r0 k := by
      intro k
      induction k with
      | zero => intro _; rfl
      | succ k ih => intro hk; simp only [stR, hall k (by omega), ih (by omega)]
    have e2 : ∀ k, k ≤ ops.size → stH rc (fun i => listed.getD i false) H0 k = stH rc (fun _ => true) H0 k := by
      intro k
      induction k with
      | zero => intro _; rfl
      | succ k ih => intro hk; simp only [stH, hall k (by omega), ih (by omega)]
    rwa [e1 _ (Nat.le_refl _), e2 _ (Nat.le_refl _)] at hS
  induction fuel with
  | zero =>
    intro listed a w ρ R hsz hF hS hfr hdown hlen
    have hall : ∀ i, i < ops.size → listed.getD i false = true := by
      intro i hi
      have h0 : listed.toList.filter (!·) = [] := List.length_eq_zero_iff.1 (by omega)
      have hi' : i < listed.size := by omega
      have hm : listed[i] ∈ listed.toList := by simp
      have := List.filter_eq_nil_iff.1 h0 _ hm
      simpa [hi'] using this
    refine ⟨?_, fin listed a w ρ R hall hF hS⟩
    rw [List.eq_nil_iff_forall_not_mem]
    intro i hi
    obtain ⟨h1, o, ho, _⟩ := mem_ready.1 hi
    have hi' : i < ops.size := (Array.getElem?_eq_some_iff.1 ho).1
    have h2 := hall i hi'
    have hi'' : i < listed.size := by omega
    simp [hi''] at h1 h2
    rw [h1] at h2; cases h2
  | succ fuel ih =>
    intro listed a w ρ R hsz hF hS hfr hdown hlen
    refine ⟨fun hr => fin listed a w ρ R (done listed hsz hr) hF hS, fun j hj => ?_⟩
    obtain ⟨h1, o, ho, hpre⟩ := mem_ready.1 hj
    have hjs : j < ops.size := (Array.getElem?_eq_some_iff.1 ho).1
    have hjl : j < listed.size := by omega
    have hj0 : listed.getD j false = false := by simp [hjl] at h1 ⊢; exact h1
    -- all that it waits for is done
    have hanc : ∀ i, Anc ops i j → listed.getD i false = true := by
      intro i hi
      generalize hk : j = k at hi
      induction hi with
      | step ho' he hb => subst hk; rw [ho] at ho'; cases ho'; exact hpre _ he hb
      | trans h1 h2 _ ih2 => exact hdown _ _ (ih2 hk) h1
    obtain ⟨hlr, hlh⟩ := h.looks (D := fun i => listed.getD i false) ho hj0 hanc hdown
    have hlook : Look ops o (stR ops rc (fun _ => true) r0 j) ρ R a := fun t ht y hy => hS.regs t y (by rw [hlr t ht]; exact hy)
    -- the next done set
    have hadd : (fun i => (listed.setIfInBounds j true).getD i false) = addD (fun i => listed.getD i false) j := by
      funext i
      simp only [addD]
      by_cases hij : i = j
      · subst hij; simp [hjl]
      · rw [getD_set_ne false (Ne.symm hij)]
        simp [hij]
    have hlaterR : ∀ i (oi : Oper), j < i → ops[i]? = some oi → listed.getD i false = true → ∀ d, o.dst = some d → oi.dst ≠ some d := by
      intro i oi hji hoi hDi d hd
      by_cases h2 : Anc ops j i
      · rw [hdown j i hDi h2] at hj0; cases hj0
      have h3 : ¬ Anc ops i j := fun e => by have := h.anc_lt e; omega
      exact fun e => (Oper.apart_spec (h.regs j i o oi (by omega) ho hoi h2 h3)).2.1 d hd e
    have hlaterH : ∀ i l, j < i → i < ops.size → listed.getD i false = true → (rc j).u.has l → ¬ (rc i).u.has l := by
      intro i l hji his hDi huj hui
      have h2 : ¬ Anc ops j i := fun e => by rw [hdown j i hDi e] at hj0; cases hj0
      have h3 : ¬ Anc ops i j := fun e => by have := h.anc_lt e; omega
      obtain ⟨oi, hoi⟩ : ∃ o, ops[i]? = some o := ⟨_, Array.getElem?_eq_getElem his⟩
      -- l is in the footprint of the one, or of the other
      cases hsj : (rc j).skip with
      | true => rw [(h.skip j o ho hsj).2.1] at huj; obtain ⟨p, hp, _⟩ := huj; cases hp
      | false =>
        cases hsi : (rc i).skip with
        | true => rw [(h.skip i oi hoi hsi).2.1] at hui; obtain ⟨p, hp, _⟩ := hui; cases hp
        | false =>
          rcases (h.run j o ho hsj).1 l huj with h4 | h4
          · exact h4 (h.heap i j (by omega) his hjs h3 h2 l hui)
          · rcases (h.run i oi hoi hsi).1 l hui with h5 | h5
            · exact h5 (h.heap j i (by omega) hjs his h2 h3 l huj)
            · exact h.win j i (by omega) hjs his l h4 h5
    have hR' := stR_add (rc := rc) (r0 := r0) (D := fun i => listed.getD i false) hj0 ho hlaterR ops.size
    have hH' := stH_add (rc := rc) (H0 := H0) (D := fun i => listed.getD i false) (ops := ops) hj0 hlaterH ops.size (Nat.le_refl _)
    rw [if_pos hjs] at hR' hH'
    have hsz' : (listed.setIfInBounds j true).size = ops.size := by simpa using hsz
    have hdown' : ∀ i k, (listed.setIfInBounds j true).getD k false = true → Anc ops i k → (listed.setIfInBounds j true).getD i false = true := by
      intro i k hk ha
      have e := congrFun hadd
      rw [e] at hk ⊢
      simp only [addD, Bool.or_eq_true, beq_iff_eq] at hk ⊢
      rcases hk with rfl | hk
      · exact .inr (hanc i ha)
      · exact .inr (hdown i k hk ha)
    have hlen' : ((listed.setIfInBounds j true).toList.filter (!·)).length ≤ fuel := by
      have : ∀ (l : List Bool) (j : Nat) (hj : j < l.length), l[j] = false → ((l.set j true).filter (!·)).length + 1 = (l.filter (!·)).length := by
        intro l
        induction l with
        | nil => intro j hj; simp at hj
        | cons b l ihl =>
          intro j hj hb
          cases j with
          | zero => simp at hb; subst hb; simp
          | succ j =>
            have := ihl j (by simpa using hj) (by simpa using hb)
            cases b <;> simp at this ⊢ <;> omega
      have h2 := this listed.toList j (by simpa using hjl) (by simpa [hjl] using hj0)
      have h3 : (listed.setIfInBounds j true).toList = listed.toList.set j true := by simp
      rw [h3]
      omega
    unfold wpOp
    simp only [ho]
    cases hsk : (rc j).skip with
    | true =>
      obtain ⟨hx, hu, hw⟩ := h.skip j o ho hsk
      rw [hw ρ R a hlook hS.size]
      simp only [Bool.false_eq_true, if_false]
      refine ih _ _ w ρ R hsz' hF ?_ ?_ hdown' hlen'
      · rw [hadd, hR', hH', hu, hx]
        exact hS.put (fun t ht => h.dst j o t ho ht) (.refl _ _) (.tuple [] #[] rfl (fun i x hx => by simp at hx)) hS.heap
      · intro i hi hl l
        refine hfr i hi ?_ l
        have e := congrFun hadd i
        rw [e] at hl
        simp only [addD, Bool.or_eq_false_iff] at hl
        exact hl.2
    | false =>
      obtain ⟨hlab, hrun⟩ := h.run j o ho hsk
      obtain ⟨hw, hdoes⟩ := hrun ρ R a hlook hS.size
      rw [hw]
      simp only [if_true]
      have hd2 := hdoes.frame opC_mono hlh hlab
      refine .inl (hd2 w hS.heap (fun l h1 => hfr j hjs hj0 l h1) _ Q ?_)
      rintro v w' ⟨ρ', R', hF', hx, hRep⟩
      refine ih _ _ w' ρ' R' hsz' (hF.trans h0 hF' ?_ (fun _ h => h) (h.wid j hjs)) ?_ ?_ hdown' hlen'
      · intro k o' hk
        rcases stH_lab ops.size hk with h2 | ⟨i, hi, h2⟩
        · exact .inl h2
        · rcases h.lab i hi h2 with h3 | h3
          · exact .inl h3
          · exact .inr (hf0 k h3)
      · rw [hadd, hR', hH']
        exact hS.put (fun t ht => h.dst j o t ho ht) hF'.ext hx hRep
      · intro i hi hl l hl1
        have e := congrFun hadd i
        rw [e] at hl
        simp only [addD, Bool.or_eq_false_iff, beq_eq_false_iff_ne] at hl
        have h5 := hfr i hi hl.2 l hl1
        cases hρ : ρ' l with
        | none => rfl
        | some L =>
          rcases hF'.win l L hρ with h6 | ⟨h6, _⟩
          · rw [h5] at h6; cases h6
          · exact absurd h6 (h.win i j hl.1 hi hjs l hl1)

/-- a region that draws its order -/
theorem wp_region_am (hm : P.follows .mixedOrders = true) (h : RegOk P ops n rc r0 H0 W) {ρ : Locs} {R : Imm} {a : Act} {w : World} (hS : RepS n r0 H0 ρ R a w) (hf : ∀ l, W l → ρ l = none) {id : Nat} {Q : Exit → Act → World → Prop}
    (hQ : ∀ a ρ' R' w', Fut H0 ρ R w W ρ' R' w' → RepS n (stR ops rc (fun _ => true) r0 ops.size) (stH rc (fun _ => true) H0 ops.size) ρ' R' a w' → Q .normal a w') : (Code.region id ops true).wp P Q a w := by
  refine wp_region_any hm ?_
  have hd : Rep H0 ρ R { w with drawn := w.drawn + 1 } := ⟨hS.heap.own, hS.heap.sep, hS.heap.dis, hS.heap.imm⟩
  have hfalse : ∀ i : Nat, (Array.replicate ops.size false).getD i false = false := by
    intro i; simp [Array.getD]
  have hfun : (fun i : Nat => (Array.replicate ops.size false).getD i false) = fun _ => false := funext hfalse
  have e1 : ∀ k, stR ops rc (fun _ => false) r0 k = r0 := by intro k; induction k with | zero => rfl | succ k ih => simp [stR, ih]
  have e2 : ∀ k, stH rc (fun _ => false) H0 k = H0 := by intro k; induction k with | zero => rfl | succ k ih => simp [stH, ih]
  refine region_any h (w0 := { w with drawn := w.drawn + 1 }) hd hf (Q := Q) ?_ ops.size (Array.replicate ops.size false) a _ ρ R (by simp) (Fut.refl _ _ _ _ _) ?_ ?_ ?_ ?_
  · intro a' ρ' R' w' hF hS'
    exact hQ a' ρ' R' w' ⟨hF.ext, hF.win, hF.new, hF.os, hF.tape, hF.output, hF.size, hF.frame⟩ hS'
  · rw [hfun, e1, e2]
    exact ⟨hS.size, hS.defers, hS.regs, hd⟩
  · intro i hi _ l h1
    exact hf l (h.wid i hi l h1)
  · intro i k hk
    rw [hfalse k] at hk; cases hk
  · simp
end
end Go.Proofs.Ytbngfbpegdcpkaa
