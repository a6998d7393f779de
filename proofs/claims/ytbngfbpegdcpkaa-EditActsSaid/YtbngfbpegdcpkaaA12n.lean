/- The abstract machine: a region that draws its order, step by step: an invariant over what is done. -/
import Derived.Test.YtbngfbpegdcpkaaA12
namespace Go.Proofs.Ytbngfbpegdcpkaa
set_option linter.unusedVariables false
set_option linter.unusedSimpArgs false
section
variable {P : Program} {H0 : Heap} {p : Lab} {n : Nat} {ρ0 : Locs} {R0 : Imm} {w0 : World} {ops : Array Oper} {call : CallF}
theorem count_set : ∀ (l : List Bool) (j : Nat) (hj : j < l.length), l[j] = false → ((l.set j true).filter (!·)).length + 1 = (l.filter (!·)).length := by
  intro l
  induction l with
  | nil => intro j hj; simp at hj
  | cons b l ihl =>
    intro j hj hb
    cases j with
    | zero => simp at hb; subst hb; simp
    | succ j =>
      have := ihl j (by simpa using hj) (by simpa using hb)
      cases b <;> simp at this ⊢ <;> omega
theorem draw_nd (hm : P.follows .mixedOrders = true) (hcall : CallOk P call) {is : List AIns} (hcomp : compOps P n ops ops.toList = some is) (hb : backOk ops.toList 0 = true)
    (h0 : Rep H0 ρ0 R0 w0) (hf0 : ∀ l, Under p l → ρ0 l = none) (I : (Nat → Bool) → RL → Chg → Prop) {s : ASt}
    (hstep : ∀ D rl ov j o i, I D rl ov → ops[j]? = some o → is[j]? = some i → D j = false → (∀ e ∈ o.after, Region.binds .any e = true → D e.on = true) → ∃ rc, evalIns call H0 p i ⟨rl, ov, s.c + j⟩ = some rc ∧ I (addD D j) (putReg rl i.dst rc.x) (omerge rc.u ov))
    (hs : I (fun _ => false) s.regs s.ov) {ρ : Locs} {R : Imm} {a : Act} {w : World} (hI : Inv n H0 ρ0 R0 w0 p s ρ R a w) {id : Nat} {Q : Exit → Act → World → Prop}
    (hQ : ∀ D rl ov ρ R a w, (∀ j, j < ops.size → D j = true) → I D rl ov → Inv n H0 ρ0 R0 w0 p ⟨rl, ov, s.c + ops.size⟩ ρ R a w → Q .normal a w) : (Code.region id ops true).wp P Q a w := by
  obtain ⟨hlen, hget⟩ := compOps_get hcomp
  simp only [Array.length_toList] at hlen
  have hget' : ∀ (j : Nat) o, ops[j]? = some o → ∃ i, is[j]? = some i ∧ compIns P n ops o = some i := fun j o ho => hget j o (by simpa using ho)
  refine wp_region_any hm ?_
  have done : ∀ listed : Array Bool, listed.size = ops.size → Region.ready .any ops listed = [] → ∀ i, i < ops.size → listed.getD i false = true := by
    intro listed hsz hr i
    induction i using Nat.strongRecOn with
    | _ i ih =>
      intro hi
      cases hl : listed.getD i false with
      | true => rfl
      | false =>
        have : i ∈ Region.ready .any ops listed := by
          rw [mem_ready]
          refine ⟨?_, ops[i], Array.getElem?_eq_getElem hi, fun e he hbe => ?_⟩
          · have : i < listed.size := by omega
            simp [this] at hl ⊢
            exact hl
          · have := backOk_spec hb i ops[i] e (by simp [hi]) he hbe
            exact ih e.on (by omega) (by omega)
        rw [hr] at this; cases this
  have key : ∀ fuel (listed : Array Bool) rl ov ρ R a w, listed.size = ops.size → I (fun i => listed.getD i false) rl ov → RepS n (rget rl) (upd ov H0) ρ R a w → Fut H0 ρ0 R0 w0 (Under p) ρ R w →
      (∀ j l, s.c ≤ j → (j < s.c + ops.size → listed.getD (j - s.c) false = false) → Under (j :: p) l → ρ l = none) → (∀ k o, upd ov H0 k = some o → H0 k ≠ none ∨ Under p k) →
      (listed.toList.filter (!·)).length ≤ fuel → wpAny P .any ops Q fuel listed a w := by
    intro fuel
    have fin : ∀ (listed : Array Bool) rl ov ρ R a w, (∀ i, i < ops.size → listed.getD i false = true) → I (fun i => listed.getD i false) rl ov → RepS n (rget rl) (upd ov H0) ρ R a w → Fut H0 ρ0 R0 w0 (Under p) ρ R w →
        (∀ j l, s.c ≤ j → (j < s.c + ops.size → listed.getD (j - s.c) false = false) → Under (j :: p) l → ρ l = none) → (∀ k o, upd ov H0 k = some o → H0 k ≠ none ∨ Under p k) → Q .normal a w := by
      intro listed rl ov ρ R a w hall hIv hS hF hfr hlab
      refine hQ _ rl ov ρ R a w hall hIv ⟨hS, hF, fun l hl => ?_, hlab⟩
      obtain ⟨j, hj, hl⟩ := hl
      simp only at hj
      exact hfr j l (by omega) (fun h => by omega) hl
    induction fuel with
    | zero =>
      intro listed rl ov ρ R a w hsz hIv hS hF hfr hlab hcnt
      have hall : ∀ i, i < ops.size → listed.getD i false = true := by
        intro i hi
        have h0 : listed.toList.filter (!·) = [] := List.length_eq_zero_iff.1 (by omega)
        have hi' : i < listed.size := by omega
        have hm : listed[i] ∈ listed.toList := by simp
        have := List.filter_eq_nil_iff.1 h0 _ hm
        simpa [hi'] using this
      refine ⟨?_, fin listed rl ov ρ R a w hall hIv hS hF hfr hlab⟩
      rw [List.eq_nil_iff_forall_not_mem]
      intro i hi
      obtain ⟨h1, o, ho, _⟩ := mem_ready.1 hi
      have hi' : i < ops.size := (Array.getElem?_eq_some_iff.1 ho).1
      have h2 := hall i hi'
      have hi'' : i < listed.size := by omega
      simp [hi''] at h1 h2
      rw [h1] at h2; cases h2
    | succ fuel ih =>
      intro listed rl ov ρ R a w hsz hIv hS hF hfr hlab hcnt
      refine ⟨fun hr => fin listed rl ov ρ R a w (done listed hsz hr) hIv hS hF hfr hlab, fun j hj => ?_⟩
      obtain ⟨h1, o, ho, hpre⟩ := mem_ready.1 hj
      have hjs : j < ops.size := (Array.getElem?_eq_some_iff.1 ho).1
      have hjl : j < listed.size := by omega
      have hj0 : listed.getD j false = false := by simp [hjl] at h1 ⊢; exact h1
      obtain ⟨i, hi, hci⟩ := hget' j o ho
      obtain ⟨rc, he, hI2⟩ := hstep _ rl ov j o i hIv ho hi hj0 (fun e hee hbe => hpre e hee hbe)
      have hadd : (fun i => (listed.setIfInBounds j true).getD i false) = addD (fun i => listed.getD i false) j := by
        funext i
        simp only [addD]
        by_cases hij : i = j
        · subst hij; simp [hjl]
        · rw [getD_set_ne false (Ne.symm hij)]
          simp [hij]
      have hsz' : (listed.setIfInBounds j true).size = ops.size := by simpa using hsz
      have hlen' : ((listed.setIfInBounds j true).toList.filter (!·)).length ≤ fuel := by
        have h2 := count_set listed.toList j (by simpa using hjl) (by simpa [hjl] using hj0)
        have h3 : (listed.setIfInBounds j true).toList = listed.toList.set j true := by simp
        rw [h3]
        omega
      obtain ⟨oxs, hok, hoxs, hog, hd, hdn, hl1, _⟩ := compIns_look hci
      have hlook : Look ops o (rget rl) ρ R a := fun t ht y hy => hS.regs t y hy
      obtain ⟨hq, hsk, hru⟩ := ins_ok hcall hci he
      obtain ⟨sk, x, u, q, foot⟩ := rc
      simp only at hq hsk hru hI2
      subst hq
      unfold wpOp
      simp only [ho]
      have next : ∀ (ρ' : Locs) (R' : Imm) (v : Value) (w' : World), (∀ l, u.has l → upd ov H0 l ≠ none ∨ Under ((s.c + j) :: p) l) →
          Fut (upd ov H0) ρ R w (Under ((s.c + j) :: p)) ρ' R' w' → RepV ρ' R' x v → Rep (upd u (upd ov H0)) ρ' R' w' → wpAny P .any ops Q fuel (listed.setIfInBounds j true) (a.put o.dst v) w' := by
        intro ρ' R' v w' hlabu hF' hx hRep
        have hreg : rget (putReg rl i.dst x) = setR (rget rl) o.dst x := by rw [rget_putReg, hd]
        have hheap : upd (omerge u ov) H0 = upd u (upd ov H0) := upd_omerge _ _ _
        refine ih _ (putReg rl i.dst x) (omerge u ov) ρ' R' _ w' hsz' (by rw [hadd]; exact hI2) ?_ ?_ ?_ ?_ hlen'
        · rw [hreg, hheap]
          exact hS.put hdn hF'.ext hx hRep
        · refine hF.trans h0 hF' (fun k ob hk => ?_) (fun _ h => h) (fun l hl => under_tail hl)
          rcases hlab k ob hk with h1 | h1
          · exact .inl h1
          · exact .inr (hf0 k h1)
        · intro k l hk hkd hl
          have e := congrFun hadd (k - s.c)
          have hold : k < s.c + ops.size → listed.getD (k - s.c) false = false := fun hlt => by
            have := hkd hlt
            rw [e] at this
            simp only [addD, Bool.or_eq_false_iff] at this
            exact this.2
          have hne : k ≠ s.c + j := fun e2 => by
            have := hkd (by omega)
            rw [e] at this
            simp only [addD, Bool.or_eq_false_iff, beq_eq_false_iff_ne] at this
            omega
          have h5 := hfr k l hk hold hl
          cases hρ : ρ' l with
          | none => rfl
          | some L =>
            rcases hF'.win l L hρ with h6 | ⟨h6, _⟩
            · rw [h5] at h6; cases h6
            · have := under_inj hl h6
              omega
        · rw [hheap]
          intro k ob hk
          rcases upd_lab hk with h1 | h1
          · rcases hlabu k h1 with h2 | h2
            · obtain ⟨ob', h3⟩ := Option.ne_none_iff_exists'.1 h2
              exact hlab k ob' h3
            · exact .inr (under_tail h2)
          · exact hlab k ob h1
      cases sk with
      | true =>
        obtain ⟨rfl, rfl, _, hw⟩ := hsk rfl
        rw [hw ρ R a hlook hS.size]
        simp only [Bool.false_eq_true, if_false]
        exact next ρ R (.tuple #[]) w (fun l hl => absurd hl (not_has_nil l)) (Fut.refl _ _ _ _ _) (.tuple [] #[] rfl (fun i x hx => by simp at hx)) hS.heap
      | false =>
        obtain ⟨hlab2, hrun'⟩ := hru rfl
        obtain ⟨hw, hdoes⟩ := hrun' ρ R a hlook hS.size
        rw [hw]
        simp only [if_true]
        have hsub : ∀ l ob, restr (upd ov H0) foot l = some ob → upd ov H0 l = some ob := by
          intro l ob
          cases foot with
          | none => exact fun h => h
          | some ls => simp only [restr]; split <;> simp
        have hd2 := hdoes.frame opC_mono hsub hlab2
        refine .inl (hd2 w hS.heap (fun l h1 => hfr (s.c + j) l (by omega) (fun _ => by rw [Nat.add_sub_cancel_left]; exact hj0) h1) _ Q ?_)
        rintro v w' ⟨ρ', R', hF', hx, hRep⟩
        refine next ρ' R' v w' (fun l hl => ?_) hF' hx hRep
        rcases hlab2 l hl with h2 | h2
        · obtain ⟨ob', h3⟩ := Option.ne_none_iff_exists'.1 h2
          exact .inl (by rw [hsub l ob' h3]; simp)
        · exact .inr h2
  have hfalse : ∀ i : Nat, (Array.replicate ops.size false).getD i false = false := by
    intro i; simp [Array.getD]
  have hfun : (fun i : Nat => (Array.replicate ops.size false).getD i false) = fun _ => false := funext hfalse
  refine key ops.size (Array.replicate ops.size false) s.regs s.ov ρ R a _ (by simp) (by rw [hfun]; exact hs) ⟨hI.rs.size, hI.rs.defers, hI.rs.regs, ⟨hI.rs.heap.own, hI.rs.heap.sep, hI.rs.heap.dis, hI.rs.heap.imm⟩⟩ ⟨hI.fut.ext, hI.fut.win, hI.fut.new, hI.fut.os, hI.fut.tape, hI.fut.output, hI.fut.size, hI.fut.frame⟩ (fun j l hj _ hl => hI.fresh l ⟨j, hj, hl⟩) hI.lab (by simp)
end
end Go.Proofs.Ytbngfbpegdcpkaa
