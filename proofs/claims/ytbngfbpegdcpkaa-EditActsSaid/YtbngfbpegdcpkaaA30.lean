/- The abstract machine: contracts of functions that read and change memory. -/
import Derived.Test.YtbngfbpegdcpkaaA28
import Derived.Test.YtbngfbpegdcpkaaA29
namespace Go.Proofs.Ytbngfbpegdcpkaa
set_option linter.unusedVariables false
set_option linter.unusedSimpArgs false
/-- a body's end: the result, frozen, and what is left of the heap; what the call has made and is not left is changed no more -/
def VR (H0 : Heap) (res : List AResV) (y : AV) (u : Chg) : VPost := fun e r H _ => (e = .normal ∨ e = .ret) ∧ ∃ x, aRes H r res = some x ∧ Fr (fun l => upd u H0 l = none ∧ H l ≠ none) H x y ∧ ∀ l o, upd u H0 l = some o → H l = some o
theorem sound_vc {P : Program} (hm : P.follows .mixedOrders = true) {f : Nat} {A : AFun} (hA : FunOk P f A) {xs : List AV} (hlen : xs.length = A.np) {H : Heap} {q : Lab} {y : AV} {u : Chg} {foot : Option (List Lab)} (hu : ∀ l, u.has l → restr H foot l ≠ none ∨ Under q l)
    (h : vc P q A.body (VR (restr H foot) A.res y u) (params 0 xs) (restr H foot) 0) : SoundRes P f xs H q ⟨y, u, foot⟩ := by
  refine sound_of_gwp (Z := fun l => upd u (restr H foot) l = none) hm hA hlen hu ?_
  refine gwp_mono (fun e s he => ?_) (vc_sound (ov := []) (H0 := restr H foot) h)
  obtain ⟨he, x, hx, hf, hl⟩ := he
  exact ⟨he, x, hx, hf, fun l o hlo => ⟨(fun hn => by rw [hn.1] at hlo; cases hlo), hl l o hlo⟩⟩
theorem has_cons {l k : Lab} {o : Option AO} {u : Chg} : Chg.has ((l, o) :: u) k ↔ k = l ∨ Chg.has u k := by
  constructor
  · rintro ⟨p, hp, rfl⟩
    rcases List.mem_cons.1 hp with rfl | hp
    · exact .inl rfl
    · exact .inr ⟨p, hp, rfl⟩
  · rintro (rfl | ⟨p, hp, rfl⟩)
    · exact ⟨(k, o), by simp, rfl⟩
    · exact ⟨p, by simp [hp], rfl⟩
section
variable {P : Program} {H : Heap} {p q : Lab} {KK : KF}
theorem call_res {s : Bool} {f : Nat} {xs : List AV} {y : AV} {u : Chg} {foot : Option (List Lab)} (h : SoundRes P f xs H q ⟨y, u, foot⟩) (hk : KK y (upd u H) (u.map (·.1)) foot) : vCall s P f xs H q KK := Or.inl ⟨_, h, hk⟩
/-- behind a call the labels to come are free -/
theorem Fresh.after {c : Nat} {f : Nat} {xs : List AV} {r : Res} (h : Fresh p c H) (hr : SoundRes P f xs H (c :: p) r) : Fresh p (c + 1) (Ytbngfbpegdcpkaa.upd r.u H) := fun k s hk => by
  by_cases hh : r.u.has (s ++ k :: p)
  · rcases hr.2.1 _ hh with h1 | ⟨t, ht⟩
    · have := h k s (by omega)
      cases hf : r.foot with
      | none => rw [hf] at h1; exact absurd this h1
      | some ls => rw [hf] at h1; simp only [restr] at h1; split at h1 <;> first | exact absurd this h1 | exact absurd rfl h1
    · exfalso
      have := under_inj (i := k) (j := c) (p := p) (l := s ++ k :: p) ⟨s, rfl⟩ ⟨t, ht⟩
      omega
  · rw [upd_not hh]; exact h k s (by omega)
theorem restr_at {ls : List Lab} {l : Lab} (h : l ∈ ls) : restr H (some ls) l = H l := by simp [restr, h]
theorem restr_some {ls : List Lab} {l : Lab} {o : AO} (h : restr H (some ls) l = some o) : l ∈ ls ∧ H l = some o := by
  simp only [restr] at h
  split at h
  · exact ⟨by assumption, h⟩
  · cases h
theorem Fresh.restr {c : Nat} {f : Option (List Lab)} (h : Fresh p c H) : Fresh p c (restr H f) := fun k s hk => by
  cases f with
  | none => exact h k s hk
  | some ls =>
    simp only [Ytbngfbpegdcpkaa.restr]
    split
    · exact h k s hk
    · rfl
/-! results that lie in memory -/
theorem ld_row {l : Lab} {r : List AV} {e : Nat} {q' : Lab} (hl : H l = some (.rows e [r])) : aLoad r.length true (.ptr l e 0 0) H q' = some ⟨.agg r, [], some [l]⟩ := by
  simp [aLoad, hl, AO.cells, wrapCells]
theorem vpc1 {t c n e : Nat} {l : Lab} {r : List AV} {y : AV} (hl : H l = some (.rows e [r])) (hn : r.length = n) (hf : Fr (fun l => H l ≠ none) H (.agg r) y) : VP [.cell t n true] y .ret [(t, .ptr l e 0 0)] H c := by
  subst hn
  exact ⟨.inr rfl, .agg r, by simp [aRes, aResL, aRes1, rget, ld_row hl], hf⟩
theorem aRes_c1 {t n e : Nat} {l : Lab} {r : List AV} (hl : H l = some (.rows e [r])) (hn : r.length = n) : aRes H [(t, .ptr l e 0 0)] [.cell t n true] = some (.agg r) := by
  subst hn
  simp [aRes, aResL, aRes1, rget, ld_row hl]
theorem aRes_c2 {t n e u : Nat} {l : Lab} {r : List AV} {x : AV} (hl : H l = some (.rows e [r])) (hn : r.length = n) (hu : u ≠ t) : aRes H [(t, .ptr l e 0 0), (u, x)] [.cell t n true, .tmp u] = some (.tuple [.agg r, x]) := by
  subst hn
  simp [aRes, aResL, aRes1, rget, ld_row hl, hu]
inductive FrLs (Z : Lab → Prop) (H : Heap) : List AV → List AV → Prop
  | nil : FrLs Z H [] []
  | cons {x y : AV} {xs ys : List AV} : Fr Z H x y → FrLs Z H xs ys → FrLs Z H (x :: xs) (y :: ys)
theorem FrLs.same {Z : Lab → Prop} {H : Heap} : ∀ {xs : List AV}, FrLs Z H xs xs
  | [] => .nil
  | _ :: _ => .cons (.refl _) .same
theorem FrLs.get {Z : Lab → Prop} {H : Heap} : ∀ {xs ys : List AV}, FrLs Z H xs ys → xs.length = ys.length ∧ ∀ (i : Nat) d, ys[i]? = some d → Fr Z H (xs.getD i .nilf) d ∧ xs[i]? = some (xs.getD i .nilf)
  | [], _, .nil => ⟨rfl, fun i d h => by simp at h⟩
  | x :: xs, _, .cons h hs => by
    obtain ⟨h1, h2⟩ := hs.get
    refine ⟨by simp [h1], fun i d hd => ?_⟩
    cases i with
    | zero => simp at hd; subst hd; exact ⟨by simpa using h, by simp⟩
    | succ i => simpa using h2 i d (by simpa using hd)
theorem FrLs.agg {Z : Lab → Prop} {H : Heap} {xs ys : List AV} (h : FrLs Z H xs ys) : Fr Z H (.agg xs) (.agg ys) := .agg _ _ h.get.1 (fun i => xs.getD i .nilf) (fun i d hd => (h.get.2 i d hd).2) (fun i d hd => (h.get.2 i d hd).1)
theorem FrLs.tuple {Z : Lab → Prop} {H : Heap} {xs ys : List AV} (h : FrLs Z H xs ys) : Fr Z H (.tuple xs) (.tuple ys) := .tuple _ _ h.get.1 (fun i => xs.getD i .nilf) (fun i d hd => (h.get.2 i d hd).2) (fun i d hd => (h.get.2 i d hd).1)
theorem Fr.rows {Z : Lab → Prop} {H : Heap} {l : Lab} {e : Nat} {rows : List (List AV)} (hz : Z l) (hl : H l = some (.rows e rows)) (hr : ∀ r ∈ rows, RowOk e r) {n : Nat} (hn : rows.length = n) : Fr Z H (.sl l e 0 n) (.isl e rows) :=
  .own l e 0 n rows rows (fun i j => (rowsGet rows i j).getD .nilf) hz hl hn hr (fun i j x hx => by simp [hx]) (fun i j x hx => by simp [hx]; exact .refl _)
theorem Own.cells {x : AV} {e : Nat} {rows : List (List AV)} (h : Own H x e rows) : x.cells = [x] ∧ x.one = true := by
  rcases h with ⟨rfl, _⟩ | ⟨l, rfl, _⟩ <;> exact ⟨rfl, rfl⟩
/-- rows that came in, onto one's own -/
theorem app_isl {x : AV} {e b : Nat} {old rows : List (List AV)} (h : Own H x e old) (he : 0 < e) (h1 : (old.length + rows.length) * b ≤ 140737488355328) (h2 : old.length + rows.length ≤ 4611686018427387904) (hq : H q = none)
    (hk : ∀ x' H' l f, Own H' x' e (old ++ rows) → KeepBut x H H' → KK x' H' l f) : vGen (.append e b) [x, .isl e rows] H q KK := by
  cases rows with
  | nil =>
    refine ⟨.pure x, ?_, hk x H [] (some []) (by simpa using h) (fun k o hk _ => hk)⟩
    rcases h with ⟨rfl, rfl⟩ | ⟨l, rfl, hl⟩ <;> simp [aop, aAppend, aRows]
  | cons r rows => exact app_own h (rows_isl (H := H)) (by simp) he h1 h2 hq hk
/-- what reads the same without any change -/
theorem fr0_rep {H : Heap} {ρ : Locs} {R : Imm} {x y : AV} (h : Fr (fun _ => False) H x y) : ∀ {v : Value}, RepV ρ R x v → RepV ρ R y v := by
  induction h with
  | refl x => intro v hv; exact hv
  | own l e off n rs rows g hz => exact hz.elim
  | ptr l e i j rs rows g hz => exact hz.elim
  | nils e => intro v hv; cases hv; exact .isl0 _ _ _ (fun _ => rfl)
  | sl0 e => intro v hv; cases hv; exact .isl0 _ _ _ (fun _ => rfl)
  | agg cs ds hl g h1 h2 ih =>
    intro v hv
    cases hv with
    | agg _ C hC hc => exact .agg _ _ (by omega) (fun i d hd => ih i d hd (hc i _ (h1 i d hd)))
  | tuple cs ds hl g h1 h2 ih =>
    intro v hv
    cases hv with
    | tuple _ C hC hc => exact .tuple _ _ (by omega) (fun i d hd => ih i d hd (hc i _ (h1 i d hd)))
theorem frls0_rep {H : Heap} {ρ : Locs} {R : Imm} : ∀ {xs ys : List AV} {vs : List Value}, FrLs (fun _ => False) H xs ys → RepL ρ R xs vs → RepL ρ R ys vs
  | [], _, vs, .nil, h => h
  | x :: xs, _, vs, .cons h hs, hv => by
    obtain ⟨v, us, rfl, h1, h2⟩ := hv.head
    exact .cons (fr0_rep h h1) (frls0_rep hs h2)
/-- a function that only reckons, at arguments that read as those of its contract -/
theorem call_pure_w {s : Bool} {f : Nat} {xs xs' : List AV} {y : AV} (h : Pure P f xs' y) (hw : FrLs (fun _ => False) (fun _ => none) xs xs') (hk : KK y H [] (some [])) : vCall s P f xs H q KK :=
  Or.inl ⟨_, ⟨(h H q).1, (h H q).2.1, fun ρ R vs hvs => (h H q).2.2 ρ R vs (frls0_rep hw hvs)⟩, hk⟩
end
end Go.Proofs.Ytbngfbpegdcpkaa
