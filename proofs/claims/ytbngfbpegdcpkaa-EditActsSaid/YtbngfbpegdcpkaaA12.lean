/- The abstract machine: whole regions are sound. -/
import Derived.Test.YtbngfbpegdcpkaaA11
namespace Go.Proofs.Ytbngfbpegdcpkaa
set_option linter.unusedVariables false
set_option linter.unusedSimpArgs false

theorem under_inj {i j : Nat} {p l : Lab} (h : Under (i :: p) l) (h' : Under (j :: p) l) : i = j := by
  obtain ⟨s, hs⟩ := h
  obtain ⟨t, ht⟩ := h'
  rw [hs] at ht
  have h1 := List.append_inj' ht (by simp)
  have := h1.2
  simp at this
  exact this
theorem under_tail {k : Nat} {p l : Lab} (h : Under (k :: p) l) : Under p l := by
  obtain ⟨s, hs⟩ := h
  exact ⟨s ++ [k], by simp [hs]⟩
/-- the labels of a function's own that are not taken yet -/
def Ns (p : Lab) (c : Nat) (l : Lab) : Prop := ∃ k, c ≤ k ∧ Under (k :: p) l
theorem Ns.under {p l : Lab} {c : Nat} (h : Ns p c l) : Under p l := by obtain ⟨k, _, h⟩ := h; exact under_tail h
theorem Ns.mono {p l : Lab} {c d : Nat} (h : Ns p d l) (hc : c ≤ d) : Ns p c l := by obtain ⟨k, hk, h⟩ := h; exact ⟨k, by omega, h⟩

section
variable {P : Program} {n : Nat} {ops : Array Oper} {call : CallF} {H0 : Heap} {p : Lab} {ρ0 : Locs} {R0 : Imm} {w0 : World}
structure Inv (n : Nat) (H0 : Heap) (ρ0 : Locs) (R0 : Imm) (w0 : World) (p : Lab) (s : ASt) (ρ : Locs) (R : Imm) (a : Act) (w : World) : Prop where
  rs : RepS n (rget s.regs) (upd s.ov H0) ρ R a w
  fut : Fut H0 ρ0 R0 w0 (Under p) ρ R w
  fresh : ∀ l, Ns p s.c l → ρ l = none
  lab : ∀ k o, upd s.ov H0 k = some o → H0 k ≠ none ∨ Under p k

theorem runTr_states : ∀ {is : List AIns} {s s' : ASt} {trs : List Tr}, runTr call H0 p is s = some (s', trs) →
    ∃ (S : Nat → ASt) (rc : Nat → Rc), S 0 = s ∧ S is.length = s' ∧ (∀ (j : Nat) i, is[j]? = some i → evalIns call H0 p i (S j) = some (rc j) ∧ S (j + 1) = applyRc i (S j) (rc j)) ∧ trs.length = is.length ∧ ∀ j, j < is.length → trs[j]? = some (trOf (rc j))
  | [], s, s', trs, h => by
    simp only [runTr, Option.some.injEq, Prod.mk.injEq] at h
    obtain ⟨rfl, rfl⟩ := h
    exact ⟨fun _ => s, fun _ => ⟨true, .nilp, [], [], none⟩, rfl, rfl, fun j i hi => by simp at hi, rfl, fun j hj => by simp at hj⟩
  | i :: is, s, s', trs, h => by
    simp only [runTr, Option.bind_eq_some_iff, Option.some.injEq, Prod.mk.injEq] at h
    obtain ⟨r0, hr0, ⟨s1, t1⟩, h1, rfl, rfl⟩ := h
    obtain ⟨S, rc, e1, e2, e3, e4, e5⟩ := runTr_states h1
    refine ⟨fun | 0 => s | j + 1 => S j, fun | 0 => r0 | j + 1 => rc j, rfl, e2, fun j x hx => ?_, by simp [e4], fun j hj => ?_⟩
    · cases j with
      | zero => simp at hx; subst hx; exact ⟨hr0, e1⟩
      | succ j => exact e3 j x (by simpa using hx)
    · cases j with
      | zero => rfl
      | succ j => simpa using e5 j (by simpa using hj)
theorem runSeq_states : ∀ {is : List AIns} {s s' : ASt}, runSeq call H0 p is s = some s' →
    ∃ (S : Nat → ASt) (rc : Nat → Rc), S 0 = s ∧ S is.length = s' ∧ (∀ (j : Nat) i, is[j]? = some i → evalIns call H0 p i (S j) = some (rc j) ∧ S (j + 1) = applyRc i (S j) (rc j))
  | [], s, s', h => by
    simp only [runSeq, Option.some.injEq] at h
    subst h
    exact ⟨fun _ => s, fun _ => ⟨true, .nilp, [], [], none⟩, rfl, rfl, fun j i hi => by simp at hi⟩
  | i :: is, s, s', h => by
    simp only [runSeq, Option.bind_eq_some_iff] at h
    obtain ⟨r0, hr0, h1⟩ := h
    obtain ⟨S, rc, e1, e2, e3⟩ := runSeq_states h1
    refine ⟨fun | 0 => s | j + 1 => S j, fun | 0 => r0 | j + 1 => rc j, rfl, e2, fun j x hx => ?_⟩
    cases j with
    | zero => simp at hx; subst hx; exact ⟨hr0, e1⟩
    | succ j => exact e3 j x (by simpa using hx)
theorem compOps_get : ∀ {os : List Oper} {is : List AIns}, compOps P n ops os = some is → is.length = os.length ∧ ∀ (j : Nat) o, os[j]? = some o → ∃ i, is[j]? = some i ∧ compIns P n ops o = some i
  | [], is, h => by simp only [compOps, Option.some.injEq] at h; subst h; exact ⟨rfl, fun j o ho => by simp at ho⟩
  | o :: os, is, h => by
    simp only [compOps, Option.bind_eq_some_iff, Option.some.injEq] at h
    obtain ⟨i, hi, is', his, rfl⟩ := h
    obtain ⟨h1, h2⟩ := compOps_get his
    refine ⟨by simp [h1], fun j x hx => ?_⟩
    cases j with
    | zero => simp at hx; subst hx; exact ⟨i, rfl, hi⟩
    | succ j => simpa using h2 j x (by simpa using hx)

/-- the order of a region's operations -/
theorem maskOf_spec {ms : List Nat} {o : Oper} {i : Nat} (h : (maskOf ms o).testBit i = true) : ∃ e ∈ o.after.toList, Region.binds .any e = true ∧ (i = e.on ∨ (ms.getD e.on 0).testBit i = true) := by
  have key : ∀ (l : List Edge) (m : Nat), (l.foldl (fun m e => if Region.binds .any e then m ||| 2 ^ e.on ||| ms.getD e.on 0 else m) m).testBit i = true → m.testBit i = true ∨ ∃ e ∈ l, Region.binds .any e = true ∧ (i = e.on ∨ (ms.getD e.on 0).testBit i = true) := by
    intro l
    induction l with
    | nil => intro m h; exact .inl h
    | cons e l ih =>
      intro m h
      simp only [List.foldl_cons] at h
      rcases ih _ h with h1 | ⟨e', he', h1⟩
      · split at h1
        · rename_i hb
          simp only [Nat.testBit_or, Bool.or_eq_true, Nat.testBit_two_pow, decide_eq_true_eq] at h1
          rcases h1 with (h1 | h1) | h1
          · exact .inl h1
          · exact .inr ⟨e, by simp, hb, .inl h1.symm⟩
          · exact .inr ⟨e, by simp, hb, .inr h1⟩
        · exact .inl h1
      · exact .inr ⟨e', by simp [he'], h1⟩
  rcases key _ 0 h with h1 | h1
  · simp at h1
  · exact h1
theorem masks_sound {i j : Nat} (h : ((masksOf ops.toList []).getD j 0).testBit i = true) : Anc ops i j := by
  have key : ∀ (os : List Oper) (ms : List Nat), (∀ k, os[k]? = ops[ms.length + k]?) → (∀ j i, (ms.getD j 0).testBit i = true → Anc ops i j) → ∀ j i, ((masksOf os ms).getD j 0).testBit i = true → Anc ops i j := by
    intro os
    induction os with
    | nil => intro ms _ h; exact h
    | cons o os ih =>
      intro ms hos h j i hj
      refine ih (ms ++ [maskOf ms o]) (fun k => ?_) ?_ j i hj
      · have := hos (k + 1)
        rw [List.getElem?_cons_succ] at this
        rw [this]; congr 1; simp; omega
      · intro j i hj
        rcases Nat.lt_trichotomy j ms.length with h1 | h1 | h1
        · refine h j i ?_
          simpa [List.getD_eq_getElem?_getD, List.getElem?_append_left h1] using hj
        · subst h1
          have ho : ops[ms.length]? = some o := by simpa using (hos 0).symm
          have hj' : (maskOf ms o).testBit i = true := by simpa [List.getD_eq_getElem?_getD] using hj
          obtain ⟨e, he, hb, h2⟩ := maskOf_spec hj'
          have hs : Anc ops e.on ms.length := .step ho (by simpa using he) hb
          rcases h2 with h2 | h2
          · rw [h2]; exact hs
          · exact .trans (h _ _ h2) hs
        · rw [List.getD_eq_getElem?_getD, List.getElem?_eq_none (by simp; omega)] at hj
          simp at hj
  exact key ops.toList [] (fun k => by simp) (fun j i h => by simp at h) j i h
theorem ordered_of {i j : Nat} (h1 : ¬ Anc ops i j) (h2 : ¬ Anc ops j i) : ordered (masksOf ops.toList []) i j = false := by
  unfold ordered
  rw [Bool.or_eq_false_iff]
  constructor
  · rw [Bool.eq_false_iff]; exact fun h => h1 (masks_sound h)
  · rw [Bool.eq_false_iff]; exact fun h => h2 (masks_sound h)
theorem backOk_spec : ∀ {os : List Oper} {k : Nat}, backOk os k = true → ∀ (j : Nat) o e, os[j]? = some o → e ∈ o.after → Region.binds .any e = true → e.on < k + j
  | [], _, _, j, o, e, h, _, _ => by simp at h
  | o' :: os, k, hb, j, o, e, h, he, hbe => by
    simp only [backOk, Bool.and_eq_true] at hb
    cases j with
    | zero =>
      simp at h; subst h
      have := Array.all_eq_true_iff_forall_mem.1 hb.1 e he
      simp [hbe] at this
      omega
    | succ j =>
      have := backOk_spec hb.2 j o e (by simpa using h) he hbe
      omega
theorem apartRow_spec {masks : List Nat} {i : Nat} {x : Oper} : ∀ {os : List Oper} {k : Nat}, apartRow ops masks i x os k = true → ∀ (j : Nat) y, os[j]? = some y → i ≠ k + j → ordered masks i (k + j) = false → x.apart ops y = true
  | [], _, _, j, y, h, _, _ => by simp at h
  | b :: os, k, hb, j, y, h, hne, ho => by
    simp only [apartRow, Bool.and_eq_true, Bool.or_eq_true, beq_iff_eq] at hb
    cases j with
    | zero =>
      simp at h; subst h
      simp only [Nat.add_zero] at hne ho
      rcases hb.1 with (h1 | h1) | h1
      · exact absurd h1 hne
      · rw [ho] at h1; cases h1
      · exact h1
    | succ j => exact apartRow_spec hb.2 j y (by simpa using h) (by omega) (by rwa [show k + 1 + j = k + (j + 1) by omega])
theorem apartAll_spec {masks : List Nat} : ∀ {os : List Oper} {k : Nat}, apartAll ops masks os k = true → ∀ (i j : Nat) x y, os[i]? = some x → ops[j]? = some y → k + i ≠ j → ordered masks (k + i) j = false → x.apart ops y = true
  | [], _, _, i, j, x, y, h, _, _, _ => by simp at h
  | a :: os, k, hb, i, j, x, y, h, hy, hne, ho => by
    simp only [apartAll, Bool.and_eq_true] at hb
    cases i with
    | zero =>
      simp at h; subst h
      exact apartRow_spec hb.1 j y (by simpa using hy) (by simpa using hne) (by simpa using ho)
    | succ i => exact apartAll_spec hb.2 i j x y (by simpa using h) hy (by omega) (by rwa [show k + 1 + i = k + (i + 1) by omega])
theorem clashRow_spec {masks : List Nat} {i : Nat} {x : Tr} : ∀ {trs : List Tr} {k : Nat}, clashRow masks i x trs k = false → ∀ (j : Nat) y, trs[j]? = some y → i ≠ k + j → ordered masks i (k + j) = false → clash i (k + j) x y = false
  | [], _, _, j, y, h, _, _ => by simp at h
  | b :: trs, k, hb, j, y, h, hne, ho => by
    simp only [clashRow, Bool.or_eq_false_iff] at hb
    cases j with
    | zero =>
      simp at h; subst h
      simp only [Nat.add_zero] at hne ho ⊢
      have := hb.1
      simp only [ho, Bool.not_false, Bool.and_true] at this
      have hne' : (i != k) = true := by simpa using hne
      simpa [hne'] using this
    | succ j =>
      have := clashRow_spec hb.2 j y (by simpa using h) (by omega) (by rwa [show k + 1 + j = k + (j + 1) by omega])
      rwa [show k + 1 + j = k + (j + 1) by omega] at this
theorem clashAll_spec {masks : List Nat} {all : List Tr} : ∀ {trs : List Tr} {k : Nat}, clashAll masks all trs k = false → ∀ (i j : Nat) x y, trs[i]? = some x → all[j]? = some y → x.labs ≠ [] → k + i ≠ j → ordered masks (k + i) j = false → clash (k + i) j x y = false
  | [], _, _, i, j, x, y, h, _, _, _, _ => by simp at h
  | a :: trs, k, hb, i, j, x, y, h, hy, hl, hne, ho => by
    simp only [clashAll, Bool.or_eq_false_iff] at hb
    cases i with
    | zero =>
      simp at h; subst h
      have h1 := hb.1
      have : a.labs.isEmpty = false := by cases hq : a.labs with | nil => exact absurd hq hl | cons _ _ => rfl
      simp only [this, Bool.not_false, Bool.true_and] at h1
      have := clashRow_spec h1 j y hy (by simpa using hne) (by simpa using ho)
      simpa using this
    | succ i =>
      have := clashAll_spec hb.2 i j x y (by simpa using h) hy hl (by omega) (by rwa [show k + 1 + i = k + (i + 1) by omega])
      rwa [show k + 1 + i = k + (i + 1) by omega] at this
theorem isUnder_spec {q l : Lab} (h : isUnder q l = true) : Under q l := by
  unfold isUnder at h
  rw [List.isSuffixOf_iff_suffix] at h
  obtain ⟨s, hs⟩ := h
  exact ⟨s, hs.symm⟩
theorem rget_putReg (r : RL) (d : Option Nat) (x : AV) : rget (putReg r d x) = setR (rget r) d x := by
  cases d with
  | none => rfl
  | some t => exact rget_rset r t x

theorem states_ok {is : List AIns} {S : Nat → ASt} {rc : Nat → Rc} (hlen : is.length = ops.size) (hget : ∀ (j : Nat) o, ops[j]? = some o → ∃ i, is[j]? = some i ∧ compIns P n ops o = some i)
    (hst : ∀ (j : Nat) i, is[j]? = some i → evalIns call H0 p i (S j) = some (rc j) ∧ S (j + 1) = applyRc i (S j) (rc j)) :
    ∀ j, j ≤ ops.size → stR ops rc (fun _ => true) (rget (S 0).regs) j = rget (S j).regs ∧ stH rc (fun _ => true) (upd (S 0).ov H0) j = upd (S j).ov H0 ∧ (S j).c = (S 0).c + j
  | 0, _ => ⟨rfl, rfl, rfl⟩
  | j + 1, hj => by
    obtain ⟨h1, h2, h3⟩ := states_ok hlen hget hst j (by omega)
    obtain ⟨o, ho⟩ : ∃ o, ops[j]? = some o := ⟨_, Array.getElem?_eq_getElem (by omega)⟩
    obtain ⟨i, hi, hc⟩ := hget j o ho
    obtain ⟨h4, h5⟩ := hst j i hi
    obtain ⟨_, _, _, _, hd, _⟩ := compIns_look hc
    refine ⟨?_, ?_, ?_⟩
    · simp only [stR, if_true, h1, ho, Option.bind_some]
      rw [h5, applyRc, rget_putReg, hd]
    · simp only [stH, if_true, h2]
      rw [h5, applyRc, upd_omerge]
    · rw [h5, applyRc]; simp only; omega

/-- a region in the order of the text -/
theorem seq_sound (hcall : CallOk P call) {is : List AIns} (hcomp : compOps P n ops ops.toList = some is) (h0 : Rep H0 ρ0 R0 w0) (hf0 : ∀ l, Under p l → ρ0 l = none) {s s' : ASt} (hrun : runSeq call H0 p is s = some s') {ρ : Locs} {R : Imm} {a : Act} {w : World}
    (hI : Inv n H0 ρ0 R0 w0 p s ρ R a w) {id : Nat} {Q : Exit → Act → World → Prop} (hQ : ∀ ρ R a w, Inv n H0 ρ0 R0 w0 p s' ρ R a w → Q .normal a w) : (Code.region id ops false).wp P Q a w := by
  obtain ⟨S, rc, e1, e2, e3⟩ := runSeq_states hrun
  obtain ⟨hlen, hget⟩ := compOps_get hcomp
  simp only [Array.length_toList] at hlen
  have hget' : ∀ (j : Nat) o, ops[j]? = some o → ∃ i, is[j]? = some i ∧ compIns P n ops o = some i := fun j o ho => hget j o (by simpa using ho)
  refine wp_region ?_
  have key : ∀ m k, k + m = ops.size → ∀ ρ R a w, Inv n H0 ρ0 R0 w0 p (S k) ρ R a w → wpOps P ops Q (List.range' k m) a w := by
    intro m
    induction m with
    | zero =>
      intro k hk ρ R a w hI
      simp only [List.range'_zero, wpOps]
      refine hQ ρ R a w ?_
      rw [← e2, hlen, show ops.size = k by omega]
      exact hI
    | succ m ih =>
      intro k hk ρ R a w hI
      rw [List.range'_succ, wpOps_cons]
      obtain ⟨o, ho⟩ : ∃ o, ops[k]? = some o := ⟨_, Array.getElem?_eq_getElem (by omega)⟩
      obtain ⟨i, hi, hc⟩ := hget' k o ho
      obtain ⟨h4, h5⟩ := e3 k i hi
      obtain ⟨hq, hsk, hru⟩ := ins_ok hcall hc h4
      obtain ⟨_, _, _, _, hd, hdn, _⟩ := compIns_look hc
      have hlook : Look ops o (rget (S k).regs) ρ R a := fun t ht y hy => hI.rs.regs t y hy
      have hreg : rget (S (k + 1)).regs = setR (rget (S k).regs) o.dst (rc k).x := by rw [h5, applyRc, rget_putReg, hd]
      have hheap : upd (S (k + 1)).ov H0 = upd (rc k).u (upd (S k).ov H0) := by rw [h5, applyRc, upd_omerge]
      have hcc : (S (k + 1)).c = (S k).c + 1 := by rw [h5, applyRc]
      unfold wpOp
      simp only [ho]
      cases hs : (rc k).skip with
      | true =>
        obtain ⟨hx, hu, _, hw⟩ := hsk hs
        rw [hw ρ R a hlook hI.rs.size]
        simp only [Bool.false_eq_true, if_false]
        refine ih (k + 1) (by omega) ρ R _ w ⟨?_, hI.fut, fun l hl => hI.fresh l (hl.mono (by omega)), ?_⟩
        · rw [hreg, hheap, hx, hu]
          exact hI.rs.put hdn (.refl _ _) (.tuple [] #[] rfl (fun i x hx => by simp at hx)) hI.rs.heap
        · rw [hheap, hu]; exact hI.lab
      | false =>
        obtain ⟨hlab, hrun'⟩ := hru hs
        obtain ⟨hw, hdoes⟩ := hrun' ρ R a hlook hI.rs.size
        rw [hw]
        simp only [if_true]
        have hsub : ∀ l ob, restr (upd (S k).ov H0) (rc k).foot l = some ob → upd (S k).ov H0 l = some ob := by
          intro l ob
          cases (rc k).foot with
          | none => exact fun h => h
          | some ls => simp only [restr]; split <;> simp
        have hd2 := hdoes.frame opC_mono hsub hlab
        refine .inl (hd2 w hI.rs.heap (fun l h1 => hI.fresh l ⟨(S k).c, Nat.le_refl _, by rw [hq] at h1; exact h1⟩) _ Q ?_)
        rintro v w' ⟨ρ', R', hF', hx, hRep⟩
        refine ih (k + 1) (by omega) ρ' R' _ w' ⟨?_, ?_, ?_, ?_⟩
        · rw [hreg, hheap]
          exact hI.rs.put hdn hF'.ext hx hRep
        · refine hI.fut.trans h0 hF' (fun j ob hj => ?_) (fun _ h => h) (fun l hl => by rw [hq] at hl; exact under_tail hl)
          rcases hI.lab j ob hj with h1 | h1
          · exact .inl h1
          · exact .inr (hf0 j h1)
        · intro l hl
          obtain ⟨j, hj, hl⟩ := hl
          have hfr := hI.fresh l ⟨j, by omega, hl⟩
          cases hρ : ρ' l with
          | none => rfl
          | some L =>
            rcases hF'.win l L hρ with h6 | ⟨h6, _⟩
            · rw [hfr] at h6; cases h6
            · rw [hq] at h6
              have := under_inj hl h6
              omega
        · rw [hheap]
          intro j ob hj
          rcases upd_lab hj with h1 | h1
          · rcases hlab j h1 with h2 | h2
            · have : ∃ ob', upd (S k).ov H0 j = some ob' := by
                obtain ⟨ob', h3⟩ := Option.ne_none_iff_exists'.1 h2
                exact ⟨ob', hsub j ob' h3⟩
              obtain ⟨ob', h3⟩ := this
              exact hI.lab j ob' h3
            · rw [hq] at h2; exact .inr (under_tail h2)
          · exact hI.lab j ob h1
  have := key ops.size 0 (by omega) ρ R a w (by rw [e1]; exact hI)
  rwa [← List.range_eq_range'] at this

/-- a region that draws its order -/
theorem draw_sound (hm : P.follows .mixedOrders = true) (hcall : CallOk P call) {is : List AIns} (hcomp : compOps P n ops ops.toList = some is) (hb : backOk ops.toList 0 = true) (hap : apartAll ops (masksOf ops.toList []) ops.toList 0 = true)
    (h0 : Rep H0 ρ0 R0 w0) (hf0 : ∀ l, Under p l → ρ0 l = none) {s s' : ASt} {trs : List Tr} (hrun : runTr call H0 p is s = some (s', trs)) (hcl : clashAll (masksOf ops.toList []) trs trs 0 = false) {ρ : Locs} {R : Imm} {a : Act} {w : World}
    (hI : Inv n H0 ρ0 R0 w0 p s ρ R a w) {id : Nat} {Q : Exit → Act → World → Prop} (hQ : ∀ ρ R a w, Inv n H0 ρ0 R0 w0 p s' ρ R a w → Q .normal a w) : (Code.region id ops true).wp P Q a w := by
  obtain ⟨S, rc, e1, e2, e3, e4, e5⟩ := runTr_states hrun
  obtain ⟨hlen, hget⟩ := compOps_get hcomp
  simp only [Array.length_toList] at hlen
  have hget' : ∀ (j : Nat) o, ops[j]? = some o → ∃ i, is[j]? = some i ∧ compIns P n ops o = some i := fun j o ho => hget j o (by simpa using ho)
  have hst := states_ok hlen hget' e3
  rw [e1] at hst
  have hlt : ∀ (j : Nat) (o : Oper), ops[j]? = some o → j < ops.size := fun j o ho => (Array.getElem?_eq_some_iff.1 ho).1
  have hins : ∀ (j : Nat) (o : Oper), ops[j]? = some o → ∃ i, compIns P n ops o = some i ∧ evalIns call H0 p i (S j) = some (rc j) := by
    intro j o ho
    obtain ⟨i, hi, hc⟩ := hget' j o ho
    exact ⟨i, hc, (e3 j i hi).1⟩
  have hq : ∀ j, j < ops.size → (rc j).q = (s.c + j) :: p := by
    intro j hj
    obtain ⟨i, hc, he⟩ := hins j _ (Array.getElem?_eq_getElem hj)
    rw [(ins_ok hcall hc he).1, (hst j (by omega)).2.2]
  -- a label's last word: whatever an operation changes was there, or is one of its own
  have hlabs : ∀ j o, ops[j]? = some o → ∀ l, (rc j).u.has l → restr (stH rc (fun _ => true) (upd s.ov H0) j) (rc j).foot l ≠ none ∨ Under (rc j).q l := by
    intro j o ho l hl
    obtain ⟨i, hc, he⟩ := hins j o ho
    obtain ⟨_, hsk, hru⟩ := ins_ok hcall hc he
    rw [(hst j (by have := hlt j o ho; omega)).2.1]
    cases hs : (rc j).skip with
    | true => rw [(hsk hs).2.1] at hl; exact absurd hl (not_has_nil l)
    | false => exact (hru hs).1 l hl
  have hlabOf : ∀ j l, (rc j).u.has l → l ∈ (trOf (rc j)).labs := by
    rintro j l ⟨pr, hp, rfl⟩
    exact List.mem_map.2 ⟨pr, hp, rfl⟩
  have hok : RegOk P ops n rc (rget s.regs) (upd s.ov H0) (fun l => ∃ j, s.c ≤ j ∧ j < s.c + ops.size ∧ Under (j :: p) l) := by
    refine { skip := ?_, run := ?_, back := ?_, win := ?_, wid := ?_, regs := ?_, heap := ?_, dst := ?_ }
    · intro j o ho hs
      obtain ⟨i, hc, he⟩ := hins j o ho
      obtain ⟨h1, h2, _, h4⟩ := (ins_ok hcall hc he).2.1 hs
      refine ⟨h1, h2, fun ρ R a hl hn => h4 ρ R a ?_ hn⟩
      rw [← (hst j (by have := hlt j o ho; omega)).1]
      exact hl
    · intro j o ho hs
      obtain ⟨i, hc, he⟩ := hins j o ho
      obtain ⟨_, h2⟩ := (ins_ok hcall hc he).2.2 hs
      refine ⟨hlabs j o ho, fun ρ R a hl hn => ?_⟩
      rw [(hst j (by have := hlt j o ho; omega)).2.1]
      refine h2 ρ R a ?_ hn
      rw [← (hst j (by have := hlt j o ho; omega)).1]
      exact hl
    · intro j o e ho he hbe
      have := backOk_spec hb j o e (by simpa using ho) he hbe
      omega
    · intro i j hij hi hj l h1 h2
      rw [hq i hi] at h1
      rw [hq j hj] at h2
      have := under_inj h1 h2
      omega
    · intro j hj l hl
      rw [hq j hj] at hl
      exact ⟨s.c + j, by omega, by omega, hl⟩
    · intro i j oi oj hij hoi hoj h1 h2
      exact apartAll_spec hap i j oi oj (by simpa using hoi) hoj (by omega) (by simpa using ordered_of h1 h2)
    · intro i j hij hi hj h1 h2 l hl
      have hcs := clashAll_spec hcl i j (trOf (rc i)) (trOf (rc j)) (e5 i (by omega)) (e5 j (by omega)) (fun e => by have := hlabOf i l hl; rw [e] at this; cases this) (by omega) (by simpa using ordered_of h1 h2)
      simp only [Nat.zero_add] at hcs
      unfold clash at hcs
      have hmem := hlabOf i l hl
      cases hf : (rc j).foot with
      | some ls =>
        simp only [trOf, hf] at hcs
        simp only [restr]
        rw [if_neg]
        intro hlm
        rw [List.any_eq_false] at hcs
        exact hcs l hmem (by simpa using hlm)
      | none =>
        simp only [trOf, hf] at hcs
        simp only [restr]
        split at hcs
        · simp only [Bool.not_eq_false', List.isEmpty_iff] at hcs
          simp only [trOf] at hmem
          rw [hcs] at hmem; cases hmem
        · rename_i hlt'
          have hu : Under (rc i).q l := by
            rw [List.any_eq_false] at hcs
            have := hcs l hmem
            simp only [Bool.not_eq_true', Bool.not_eq_false] at this
            exact isUnder_spec this
          -- the label is a later one's own
          have : ∀ k, k ≤ j → stH rc (fun _ => true) (upd s.ov H0) k l = none := by
            intro k
            induction k with
            | zero =>
              intro _
              simp only [stH]
              cases hh : upd s.ov H0 l with
              | none => rfl
              | some ob =>
                obtain ⟨L, O, h3, _⟩ := hI.rs.heap.own l ob hh
                rw [hq i hi] at hu
                rw [hI.fresh l ⟨s.c + i, by omega, hu⟩] at h3; cases h3
            | succ k ih =>
              intro hk
              simp only [stH, if_true]
              by_cases hk2 : (rc k).u.has l
              · rcases hlabs k _ (Array.getElem?_eq_getElem (by omega)) l hk2 with h3 | h3
                · have hn := ih (by omega)
                  revert h3
                  cases (rc k).foot with
                  | none => simp only [restr]; intro h3; exact absurd hn h3
                  | some ls => simp only [restr]; split <;> intro h3 <;> first | exact absurd hn h3 | exact absurd rfl h3
                · rw [hq k (by omega)] at h3
                  rw [hq i hi] at hu
                  have := under_inj h3 hu
                  omega
              · rw [upd_not hk2]; exact ih (by omega)
          exact this j (Nat.le_refl _)
    · intro j o d ho hd
      obtain ⟨i, hc, he⟩ := hins j o ho
      obtain ⟨_, _, _, _, _, hdn, _⟩ := compIns_look hc
      exact hdn d hd
  refine wp_region_am hm hok hI.rs (fun l hl => by obtain ⟨j, h1, _, h2⟩ := hl; exact hI.fresh l ⟨j, h1, h2⟩) (fun a' ρ' R' w' hF hS => ?_)
  have hfin := hst ops.size (Nat.le_refl _)
  rw [hfin.1, hfin.2.1] at hS
  rw [← hlen, e2] at hfin hS
  refine hQ ρ' R' a' w' ⟨hS, ?_, ?_, ?_⟩
  · refine hI.fut.trans h0 hF (fun j ob hj => ?_) (fun _ h => h) (fun l hl => by obtain ⟨j, _, _, h2⟩ := hl; exact under_tail h2)
    rcases hI.lab j ob hj with h1 | h1
    · exact .inl h1
    · exact .inr (hf0 j h1)
  · intro l hl
    obtain ⟨j, hj, hl⟩ := hl
    have hjc : s.c + ops.size ≤ j := by rw [← hlen]; rw [hfin.2.2] at hj; omega
    have hfr := hI.fresh l ⟨j, by omega, hl⟩
    cases hρ : ρ' l with
    | none => rfl
    | some L =>
      rcases hF.win l L hρ with h6 | ⟨⟨i, _, h6, h7⟩, _⟩
      · rw [hfr] at h6; cases h6
      · have := under_inj hl h7
        omega
  · intro j ob hj
    have hfin2 := (hst ops.size (Nat.le_refl _)).2.1
    rw [← hlen, e2] at hfin2
    rw [← hfin2] at hj
    rcases stH_lab is.length hj with h2 | ⟨i, hi, h2⟩
    · obtain ⟨ob', h3⟩ := Option.ne_none_iff_exists'.1 h2
      exact hI.lab j ob' h3
    · rcases hok.lab i (by omega) h2 with h3 | h3
      · obtain ⟨ob', h4⟩ := Option.ne_none_iff_exists'.1 h3
        exact hI.lab j ob' h4
      · obtain ⟨k, _, _, h4⟩ := h3; exact .inr (under_tail h4)
end
end Go.Proofs.Ytbngfbpegdcpkaa
