/- The abstract machine: what is owed at each step, on symbols. -/
import Derived.Test.YtbngfbpegdcpkaaA26
namespace Go.Proofs.Ytbngfbpegdcpkaa
set_option linter.unusedVariables false
set_option linter.unusedSimpArgs false

/-- an element of a list, by its place -/
def nth {α : Type} [Inhabited α] (l : List α) (i : Nat) : α := l.getD i default
theorem nth_some {α : Type} [Inhabited α] {l : List α} {i : Nat} (h : i < l.length) : l[i]? = some (nth l i) := by
  simp [nth, List.getD_eq_getElem?_getD, h]
theorem nth_of {α : Type} [Inhabited α] {l : List α} {i : Nat} {x : α} (h : l[i]? = some x) : nth l i = x := by
  simp [nth, List.getD_eq_getElem?_getD, h]
def encI (x : Int) : List AV := [.int .i64 x]
abbrev il (l : List Int) : AV := .isl 1 (l.map encI)
section
variable {P : Program} {p q : Lab} {H : Heap} {K : AV → Prop} {A B : Unit → Prop}
/-! choices -/
theorem sel_t : vSel (.bool true) A B = A () := rfl
theorem sel_f : vSel (.bool false) A B = B () := rfl
theorem sel_d {φ : Prop} [Decidable φ] (ha : φ → A ()) (hb : ¬ φ → B ()) : vSel (.bool (decide φ)) A B := by
  by_cases h : φ
  · rw [decide_eq_true h]; exact ha h
  · rw [decide_eq_false h]; exact hb h
theorem sel_n {φ : Prop} [Decidable φ] (ha : ¬ φ → A ()) (hb : φ → B ()) : vSel (.bool (!decide φ)) A B := by
  by_cases h : φ
  · rw [decide_eq_true h]; exact hb h
  · rw [decide_eq_false h]; exact ha h
theorem sel_b {b : Bool} (ha : b = true → A ()) (hb : b = false → B ()) : vSel (.bool b) A B := by
  cases b
  · exact hb rfl
  · exact ha rfl
theorem sel_nb {b : Bool} (ha : b = false → A ()) (hb : b = true → B ()) : vSel (.bool (!b)) A B := by
  cases b
  · exact ha rfl
  · exact hb rfl
theorem sel_dt {φ : Prop} [Decidable φ] (h : φ) : vSel (.bool (decide φ)) A B = A () := by rw [decide_eq_true h]; rfl
theorem sel_df {φ : Prop} [Decidable φ] (h : ¬ φ) : vSel (.bool (decide φ)) A B = B () := by rw [decide_eq_false h]; rfl
theorem sel_nt {φ : Prop} [Decidable φ] (h : ¬ φ) : vSel (.bool (!decide φ)) A B = A () := by rw [decide_eq_false h]; rfl
theorem sel_nf {φ : Prop} [Decidable φ] (h : φ) : vSel (.bool (!decide φ)) A B = B () := by rw [decide_eq_true h]; rfl
/-! numbers -/
variable {k : IntKind} {a b : Int} {c : Cls}
theorem bin_of {op : BinOp} {x y z : AV} (h : aBin op c x y = some z) : vBin op c x y K = K z := by
  unfold vBin; rw [h]; simp
theorem v_lss : vBin .lss c (.int k a) (.int k b) K = K (.bool (decide (a < b))) := bin_of (by simp [aBin, aBinI])
theorem v_leq : vBin .leq c (.int k a) (.int k b) K = K (.bool (decide (a ≤ b))) := bin_of (by simp [aBin, aBinI])
theorem v_gtr : vBin .gtr c (.int k a) (.int k b) K = K (.bool (decide (b < a))) := bin_of (by simp [aBin, aBinI])
theorem v_geq : vBin .geq c (.int k a) (.int k b) K = K (.bool (decide (b ≤ a))) := bin_of (by simp [aBin, aBinI])
theorem v_eql : vBin .eql c (.int k a) (.int k b) K = K (.bool (decide (a = b))) := bin_of (by simp [aBin, aBinI])
theorem v_neq : vBin .neq c (.int k a) (.int k b) K = K (.bool (!decide (a = b))) := bin_of (by simp [aBin, aBinI])
theorem inR_of (h1 : -9223372036854775808 ≤ a) (h2 : a ≤ 9223372036854775807) : inR a = true := by simp [inR, h1, h2]
theorem v_add (h1 : -9223372036854775808 ≤ a + b) (h2 : a + b ≤ 9223372036854775807) : vBin .add c (.int .i64 a) (.int .i64 b) K = K (.int .i64 (a + b)) := bin_of (by simp [aBin, aBinI, arith, inR_of h1 h2])
theorem v_sub (h1 : -9223372036854775808 ≤ a - b) (h2 : a - b ≤ 9223372036854775807) : vBin .sub c (.int .i64 a) (.int .i64 b) K = K (.int .i64 (a - b)) := bin_of (by simp [aBin, aBinI, arith, inR_of h1 h2])
theorem v_mul (h1 : -9223372036854775808 ≤ a * b) (h2 : a * b ≤ 9223372036854775807) : vBin .mul c (.int .i64 a) (.int .i64 b) K = K (.int .i64 (a * b)) := bin_of (by simp [aBin, aBinI, arith, inR_of h1 h2])
theorem v_or {a b : Nat} (h : vBin .or c (.int .i64 a) (.int .i64 b) K) : vBin .or c (.int .i64 a) (.int .i64 b) K := h
theorem v_beq {x y : Bool} : vBin .eql .bool (.bool x) (.bool y) K = K (.bool (x == y)) := bin_of (by simp [aBin, eqNeq])
theorem v_bne {x y : Bool} : vBin .neq .bool (.bool x) (.bool y) K = K (.bool (!(x == y))) := bin_of (by simp [aBin, eqNeq])
theorem v_not {x : Bool} : vNot (.bool x) K = K (.bool (!x)) := rfl
theorem v_min : vMin (.int k a) (.int k b) K = K (.int k (Min.min a b)) := by simp [vMin]
theorem v_max : vMax (.int k a) (.int k b) K = K (.int k (Max.max a b)) := by simp [vMax]
theorem v_pick_t {x y : AV} : vPick (.bool true) x y K = K x := rfl
theorem v_pick_f {x y : AV} : vPick (.bool false) x y K = K y := rfl
/-! rows -/
theorem v_ext0 {x : AV} {xs : List AV} : vExt 0 (.tuple (x :: xs)) K = K x := by simp [vExt]
theorem v_ext1 {x y : AV} {xs : List AV} : vExt 1 (.tuple (x :: y :: xs)) K = K y := by simp [vExt]
theorem v_ext2 {x y z : AV} {xs : List AV} : vExt 2 (.tuple (x :: y :: z :: xs)) K = K z := by simp [vExt]
theorem v_len_map {α : Type} {f : α → List AV} {l : List α} {e : Nat} : vLen (.isl e (l.map f)) K = K (.int .i64 l.length) := by simp [vLen, AV.len]
theorem v_len_isl {rows : List (List AV)} {e : Nat} : vLen (.isl e rows) K = K (.int .i64 rows.length) := by simp [vLen, AV.len]
theorem v_len_nils : vLen .nils K = K (.int .i64 0) := by simp [vLen, AV.len]
theorem v_len_sl0 : vLen .sl0 K = K (.int .i64 0) := by simp [vLen, AV.len]
theorem v_len_sl {l : Lab} {e o n : Nat} : vLen (.sl l e o n) K = K (.int .i64 n) := by simp [vLen, AV.len]
theorem v_ix_map {α : Type} {f : α → List AV} {l : List α} {e : Nat} {i : Int} (h0 : 0 ≤ i) (h1 : i < l.length) : vIx e (.isl e (l.map f)) (.int k i) K = K (.iptr e (l.map f) i.toNat 0) := by simp [vIx, aIndexAddr, h0, h1]
theorem v_ix_isl {rows : List (List AV)} {e : Nat} {i : Int} (h0 : 0 ≤ i) (h1 : i < rows.length) : vIx e (.isl e rows) (.int k i) K = K (.iptr e rows i.toNat 0) := by simp [vIx, aIndexAddr, h0, h1]
theorem v_ix_sl {l : Lab} {o n e : Nat} {i : Int} (h0 : 0 ≤ i) (h1 : i < n) : vIx e (.sl l e o n) (.int k i) K = K (.ptr l e (o + i.toNat) 0) := by simp [vIx, aIndexAddr, h0, h1]
theorem v_nil_ptr {l : Lab} {e i j : Nat} : vNil (.ptr l e i j) K = K (.ptr l e i j) := by simp [vNil, AV.nonNil]
theorem v_nil_iptr {rows : List (List AV)} {e i j : Nat} : vNil (.iptr e rows i j) K = K (.iptr e rows i j) := by simp [vNil, AV.nonNil]
theorem v_fa_ptr {l : Lab} {e i j o : Nat} : vFA o (.ptr l e i j) K = K (.ptr l e i (j + o)) := by simp [vFA, aFieldAddr]
theorem v_fa_iptr {rows : List (List AV)} {e i j o : Nat} : vFA o (.iptr e rows i j) K = K (.iptr e rows i (j + o)) := by simp [vFA, aFieldAddr]
/-- cells of a row -/
def vCell (n : Nat) (agg : Bool) (r : List AV) (j : Nat) (K : AV → Prop) : Prop := j + n ≤ r.length ∧ ∃ x, wrapCells agg ((r.drop j).take n) = some x ∧ K x
theorem cell_0 {x : AV} {r : List AV} : vCell 1 false (x :: r) 0 K = K x := by simp [vCell, wrapCells]
theorem cell_s {x : AV} {r : List AV} {n j : Nat} {g : Bool} : vCell n g (x :: r) (j + 1) K = vCell n g r j K := by
  simp only [vCell, List.drop_succ_cons, List.length_cons]
  have : (j + 1 + n ≤ r.length + 1) = (j + n ≤ r.length) := by simp; omega
  rw [this]
theorem cell_all {r : List AV} {n : Nat} (h : r.length = n) : vCell n true r 0 K = K (.agg r) := by subst h; simp [vCell, wrapCells]
theorem cell_a2 {a b : AV} {r : List AV} : vCell 2 true (a :: b :: r) 0 K = K (.agg [a, b]) := by simp [vCell, wrapCells]
theorem cell_a3 {a b c : AV} {r : List AV} : vCell 3 true (a :: b :: c :: r) 0 K = K (.agg [a, b, c]) := by simp [vCell, wrapCells]
theorem cell_a7 {a b c d e f g : AV} {r : List AV} : vCell 7 true (a :: b :: c :: d :: e :: f :: g :: r) 0 K = K (.agg [a, b, c, d, e, f, g]) := by simp [vCell, wrapCells]
theorem cell_a10 {a b c d e f g h i j : AV} {r : List AV} : vCell 10 true (a :: b :: c :: d :: e :: f :: g :: h :: i :: j :: r) 0 K = K (.agg [a, b, c, d, e, f, g, h, i, j]) := by simp [vCell, wrapCells]
variable {KL : AV → Option (List Lab) → Prop}
theorem v_load_map {α : Type} [Inhabited α] {f : α → List AV} {l : List α} {e i j n : Nat} {g : Bool} (h : i < l.length) : vLoad n g (.iptr e (l.map f) i j) H KL = vCell n g (f (nth l i)) j fun x => KL x (some []) := by
  simp only [vLoad, aLoad, AO.cells, vCell, List.getElem?_map, nth_some h, Option.map_some, Option.bind_some]
  by_cases hj : j + n ≤ (f (nth l i)).length
  · simp only [hj, if_true, Option.bind_some, true_and, Option.bind_eq_some_iff, Option.some.injEq]
    apply propext
    constructor
    · rintro ⟨r, ⟨y, hy, rfl⟩, hk⟩; exact ⟨y, hy, hk⟩
    · rintro ⟨y, hy, hk⟩; exact ⟨_, ⟨y, hy, rfl⟩, hk⟩
  · simp [hj]
theorem v_load_ptr {α : Type} [Inhabited α] {f : α → List AV} {L : List α} {l : Lab} {e i j n : Nat} {g : Bool} (hl : H l = some (.rows e (L.map f))) (h : i < L.length) : vLoad n g (.ptr l e i j) H KL = vCell n g (f (nth L i)) j fun x => KL x (some [l]) := by
  simp only [vLoad, aLoad, hl, if_true, AO.cells, vCell, List.getElem?_map, nth_some h, Option.map_some, Option.bind_some]
  by_cases hj : j + n ≤ (f (nth L i)).length
  · simp only [hj, if_true, Option.bind_some, true_and, Option.bind_eq_some_iff, Option.some.injEq]
    apply propext
    constructor
    · rintro ⟨r, ⟨y, hy, rfl⟩, hk⟩; exact ⟨y, hy, hk⟩
    · rintro ⟨y, hy, hk⟩; exact ⟨_, ⟨y, hy, rfl⟩, hk⟩
  · simp [hj]
theorem v_load_one {l : Lab} {r : List AV} {e j n : Nat} {g : Bool} (hl : H l = some (.rows e [r])) : vLoad n g (.ptr l e 0 j) H KL = vCell n g r j fun x => KL x (some [l]) := by
  simp only [vLoad, aLoad, hl, if_true, AO.cells, vCell, List.getElem?_cons_zero, Option.bind_some]
  by_cases hj : j + n ≤ r.length
  · simp only [hj, if_true, Option.bind_some, true_and, Option.bind_eq_some_iff, Option.some.injEq]
    apply propext
    constructor
    · rintro ⟨s, ⟨y, hy, rfl⟩, hk⟩; exact ⟨y, hy, hk⟩
    · rintro ⟨y, hy, hk⟩; exact ⟨_, ⟨y, hy, rfl⟩, hk⟩
  · simp [hj]
theorem upd_same {l : Lab} {o : Option AO} {u : Chg} : upd ((l, o) :: u) H l = o := by simp [upd]
theorem upd_ne {k l : Lab} {o : Option AO} {u : Chg} (h : k ≠ l) : upd ((l, o) :: u) H k = upd u H k := by simp [upd, h]
theorem upd_nil {k : Lab} : upd [] H k = H k := rfl
theorem v_build {z : List AV} {ps : List (Nat × Nat)} {xs cs : List AV} (h : fillA z ps xs = some cs) : vBuild z ps xs K = K (.agg cs) := by simp [vBuild, h]
theorem v_buildS {e : Nat} {z : List AV} {ps : List (Nat × Nat)} {xs cs : List AV} {KB : List (List AV) → Nat → Prop} (h : fillA z ps xs = some cs) (h1 : e ≠ 0) (h2 : cs.length % e = 0) (h3 : cs.all AV.one = true) : vBuildS e z ps xs KB = KB (chunk e (cs.length / e) cs) (cs.length / e) := by simp only [vBuildS, h, Option.some.injEq, exists_eq_left', h2, h3, ne_eq, h1, not_false_eq_true, and_self, true_and]
/-- a slice of one's own, with what it holds (none, if there is nothing yet) -/
def Own (H : Heap) (x : AV) (e : Nat) (rows : List (List AV)) : Prop := (x = .nils ∧ rows = []) ∨ ∃ l, x = .sl l e 0 rows.length ∧ H l = some (.rows e rows)
theorem Own.nils {e : Nat} : Own H .nils e [] := .inl ⟨rfl, rfl⟩
theorem v_len_own {x : AV} {e : Nat} {rows : List (List AV)} (h : Own H x e rows) : vLen x K = K (.int .i64 rows.length) := by
  rcases h with ⟨rfl, rfl⟩ | ⟨l, rfl, _⟩
  · simp [vLen, AV.len]
  · simp [vLen, AV.len]
/-- what lies where it lay, but for what a slice held -/
def KeepBut (x : AV) (H H' : Heap) : Prop := ∀ k o, H k = some o → (∀ e i n, x ≠ .sl k e i n) → H' k = some o
variable {KK : KF}
theorem app_own {x y : AV} {e b : Nat} {rows src : List (List AV)} {ls : List Lab} (h : Own H x e rows) (hs : aRows e y H = some (src, ls)) (hne : src ≠ []) (he : 0 < e) (h1 : (rows.length + src.length) * b ≤ 140737488355328) (h2 : rows.length + src.length ≤ 4611686018427387904) (hq : H q = none)
    (hk : ∀ x' H' l f, Own H' x' e (rows ++ src) → KeepBut x H H' → KK x' H' l f) : vGen (.append e b) [x, y] H q KK := by
  have hn : src.isEmpty = false := by cases src <;> simp at hne ⊢
  rcases h with ⟨rfl, rfl⟩ | ⟨l, rfl, hl⟩
  · refine ⟨⟨.sl q e 0 src.length, [(q, some (.rows e src))], some ls⟩, ?_, hk _ _ _ _ (.inr ⟨q, by simp, by simp [upd]⟩) (fun k o hk' _ => ?_)⟩
    · simp only [List.length_nil, Nat.zero_add] at h1 h2
      simp [aop, aAppend, hs, hn, he, h1, h2]
      exact fun h => absurd h hne
    · simp only [upd]
      rw [if_neg (fun e => by rw [e, hq] at hk'; cases hk')]; exact hk'
  · have hlq : q ≠ l := fun e => by rw [e, hl] at hq; cases hq
    refine ⟨⟨.sl q e 0 (rows.length + src.length), [(q, some (.rows e (rows ++ src))), (l, none)], some (l :: ls)⟩, ?_, hk _ _ _ _ (.inr ⟨q, by simp, by simp [upd]⟩) (fun k o hk' hx => ?_)⟩
    · simp [aop, aAppend, hs, hn, hl, he, h1, h2]
      exact fun h => absurd h hne
    · simp only [upd]
      rw [if_neg (fun e => by rw [e, hq] at hk'; cases hk'), if_neg (fun e' => hx e 0 rows.length (by rw [e']))]; exact hk'
/-- writers that wait for all others, or all others for them -/
inductive PsI : List (Nat × Tr) → List Nat → List Nat → Prop
  | nil : PsI [] [] []
  | read {ps : List (Nat × Tr)} {ws al : List Nat} {j : Nat} {q : Lab} {f : Option (List Lab)} (h : PsI ps ws al) : PsI (addTr j [] q f ps) ws (j :: al)
  | write {ps : List (Nat × Tr)} {ws al : List Nat} {j : Nat} {l : List Lab} {q : Lab} {f : Option (List Lab)} (h : PsI ps ws al) : PsI (addTr j l q f ps) (j :: ws) (j :: al)
theorem mem_addTr {j : Nat} {l : List Lab} {q : Lab} {f : Option (List Lab)} {ps : List (Nat × Tr)} {a : Nat × Tr} (h : a ∈ addTr j l q f ps) : a = (j, ⟨l, q, f⟩) ∨ a ∈ ps := by
  unfold addTr at h
  split at h
  · exact .inr h
  · exact List.mem_cons.1 h
theorem PsI.all {ps : List (Nat × Tr)} {ws al : List Nat} (h : PsI ps ws al) : ∀ a ∈ ps, a.1 ∈ al ∧ (a.2.labs = [] ∨ a.1 ∈ ws) := by
  induction h with
  | nil => intro a ha; cases ha
  | read h ih =>
    intro a ha
    rcases mem_addTr ha with rfl | ha
    · exact ⟨by simp, .inl rfl⟩
    · exact ⟨List.mem_cons_of_mem _ (ih a ha).1, (ih a ha).2⟩
  | write h ih =>
    intro a ha
    rcases mem_addTr ha with rfl | ha
    · exact ⟨by simp, .inr (by simp)⟩
    · exact ⟨List.mem_cons_of_mem _ (ih a ha).1, (ih a ha).2.imp id (List.mem_cons_of_mem _)⟩
def ordAll (masks ws al : List Nat) : Bool := ws.all fun i => al.all fun j => i == j || ordered masks i j
theorem clash_ord {masks ws al : List Nat} {ps : List (Nat × Tr)} (h : PsI ps ws al) (hc : ordAll masks ws al = true) : clashFree masks ps := fun a ha b hb hne ho => by
  rcases (h.all a ha).2 with h1 | h1
  · unfold clash; rw [h1]; split <;> simp
  · have := List.all_eq_true.1 (List.all_eq_true.1 hc _ h1) _ (h.all b hb).1
    rw [ho] at this
    simp at this
    exact absurd this hne
/-- the labels of a frame that are still to come are free -/
def Fresh (p : Lab) (c : Nat) (H : Heap) : Prop := ∀ k s, c ≤ k → H (s ++ k :: p) = none
theorem Fresh.mono {c d : Nat} (h : Fresh p c H) (hd : c ≤ d) : Fresh p d H := fun k s hk => h k s (by omega)
theorem Fresh.empty {c : Nat} : Fresh p c (fun _ => none) := fun _ _ _ => rfl
theorem Fresh.at {c k : Nat} (h : Fresh p c H) (hk : c ≤ k) : H (k :: p) = none := h k [] hk
theorem app_ne {j k : Nat} {s : List Nat} (h : j ≠ k) : s ++ j :: p ≠ k :: p := fun e => by
  have hl := congrArg List.length e
  simp at hl
  subst hl
  simp at e
  exact h e
/-- and for a callee -/
theorem Fresh.callee {c : Nat} (h : Fresh p c H) : Fresh (c :: p) 0 H := fun k s _ => by
  have := h c (s ++ [k]) (Nat.le_refl _)
  simpa using this
theorem Fresh.upd {c d k : Nat} {o : Option AO} (h : Fresh p c H) (hd : c ≤ d) (hk : k < d) : Fresh p d (upd [(k :: p, o)] H) := fun j s hj => by
  simp only [Ytbngfbpegdcpkaa.upd]
  rw [if_neg (app_ne (by omega))]
  exact h j s (by omega)
theorem Own.upd {x : AV} {e c k : Nat} {rows : List (List AV)} {o : Option AO} (h : Own H x e rows) (hf : Fresh p c H) (hk : c ≤ k) : Own (upd [(k :: p, o)] H) x e rows := by
  rcases h with h | ⟨l, h1, h2⟩
  · exact .inl h
  · refine .inr ⟨l, h1, ?_⟩
    simp only [Ytbngfbpegdcpkaa.upd]
    rw [if_neg (fun e => by rw [e, hf.at hk] at h2; cases h2)]; exact h2
/-- one more row of the call's own making -/
theorem push_own {x : AV} {e b c k1 k2 : Nat} {rows : List (List AV)} {row : List AV} (h : Own H x e rows) (hf : Fresh p c H) (hc : c ≤ k1) (hk : k1 < k2) (he : 0 < e) (h1 : (rows.length + 1) * b ≤ 140737488355328) (h2 : rows.length + 1 ≤ 4611686018427387904)
    (hK : ∀ x' H' l f, Own H' x' e (rows ++ [row]) → Fresh p (k2 + 1) H' → KeepBut x H H' → KK x' H' l f) : vGen (.append e b) [x, .sl (k1 :: p) e 0 1] (upd [(k1 :: p, some (.rows e [row]))] H) (k2 :: p) KK := by
  have hs : aRows e (.sl (k1 :: p) e 0 1) (upd [(k1 :: p, some (.rows e [row]))] H) = some ([row], [k1 :: p]) := by simp [aRows, upd]
  have hH : ∀ k, k ≠ k1 :: p → upd [(k1 :: p, some (.rows e [row]))] H k = H k := fun k hk => by simp [upd, hk]
  have hq : (k2 :: p) ≠ (k1 :: p) := fun e => by simp at e; omega
  have hq0 : H (k2 :: p) = none := hf.at (by omega)
  rcases h with ⟨rfl, rfl⟩ | ⟨l, rfl, hl⟩
  · refine ⟨⟨.sl (k2 :: p) e 0 1, [(k2 :: p, some (.rows e [row]))], some [k1 :: p]⟩, ?_, hK _ _ _ _ (.inr ⟨k2 :: p, rfl, by simp [upd]⟩) (fun j s hj => ?_) (fun k o hk' _ => ?_)⟩
    · simp only [List.length_nil, Nat.zero_add] at h1 h2
      simp [aop, aAppend, hs, he]
      omega
    · have := hf j s (by omega)
      simp only [Ytbngfbpegdcpkaa.upd, if_neg (app_ne (p := p) (s := s) (show j ≠ k2 by omega)), if_neg (app_ne (p := p) (s := s) (show j ≠ k1 by omega)), this]
    · have e1 : k ≠ k2 :: p := fun e => by rw [e, hq0] at hk'; cases hk'
      have e2 : k ≠ k1 :: p := fun e => by rw [e, hf.at hc] at hk'; cases hk'
      simp [upd, e1, e2, hk']
  · have hl1 : l ≠ k1 :: p := fun e => by rw [e, hf.at hc] at hl; cases hl
    have hl2 : l ≠ k2 :: p := fun e => by rw [e, hq0] at hl; cases hl
    have hl' : upd [(k1 :: p, some (.rows e [row]))] H l = some (.rows e rows) := by rw [hH l hl1]; exact hl
    refine ⟨⟨.sl (k2 :: p) e 0 (rows.length + 1), [(k2 :: p, some (.rows e (rows ++ [row]))), (l, none)], some [l, k1 :: p]⟩, ?_, hK _ _ _ _ (.inr ⟨k2 :: p, by simp, by simp [upd]⟩) (fun j s hj => ?_) (fun k o hk' hx => ?_)⟩
    · simp [aop, aAppend, hs, hl', he, h1, h2]
    · have := hf j s (by omega)
      simp only [Ytbngfbpegdcpkaa.upd, if_neg (app_ne (p := p) (s := s) (show j ≠ k2 by omega)), if_neg (app_ne (p := p) (s := s) (show j ≠ k1 by omega)), this, ite_self]
    · have e1 : k ≠ k2 :: p := fun e => by rw [e, hq0] at hk'; cases hk'
      have e2 : k ≠ k1 :: p := fun e => by rw [e, hf.at hc] at hk'; cases hk'
      have e3 : k ≠ l := fun e' => hx e 0 rows.length (by rw [e'])
      simp [upd, e1, e2, e3, hk']
theorem v_build_eq {z : List AV} {ps : List (Nat × Nat)} {xs : List AV} : vBuild z ps xs K = match fillA z ps xs with
    | some cs => K (.agg cs)
    | none => False := by
  cases h : fillA z ps xs <;> simp [vBuild, h]
theorem v_buildS_eq {e : Nat} {z : List AV} {ps : List (Nat × Nat)} {xs : List AV} {KB : List (List AV) → Nat → Prop} : vBuildS e z ps xs KB = match fillA z ps xs with
    | some cs => (e ≠ 0 ∧ cs.length % e = 0 ∧ cs.all AV.one = true) ∧ KB (chunk e (cs.length / e) cs) (cs.length / e)
    | none => False := by
  cases h : fillA z ps xs <;> simp [vBuildS, h]
theorem rows_sl {l : Lab} {e n : Nat} {rows : List (List AV)} (hl : H l = some (.rows e rows)) (hn : rows.length = n) (h0 : n ≠ 0) : aRows e (.sl l e 0 n) H = some (rows, [l]) := by
  subst hn
  simp [aRows, h0, hl]
theorem rows_isl {e : Nat} {rows : List (List AV)} : aRows e (.isl e rows) H = some (rows, []) := by simp [aRows]
/-! calls -/
theorem call_pure {s : Bool} {f : Nat} {xs : List AV} {y : AV} (h : Pure P f xs y) (hk : KK y H [] (some [])) : vCall s P f xs H q KK := Or.inl ⟨_, h H q, hk⟩
/-! a body's end -/
def VP (res : List AResV) (y : AV) : VPost := fun e r H _ => (e = .normal ∨ e = .ret) ∧ ∃ x, aRes H r res = some x ∧ Fr (fun l => H l ≠ none) H x y
theorem pure_vc (hm : P.follows .mixedOrders = true) {f : Nat} {A : AFun} (hA : FunOk P f A) {xs : List AV} (hlen : xs.length = A.np) {y : AV} (h : ∀ q, vc P q A.body (VP A.res y) (params 0 xs) (fun _ => none) 0) : Pure P f xs y :=
  pure_of hm hA hlen (fun q => gwp_mono (fun _ _ he => he) (vc_sound (ov := []) (H0 := fun _ => none) (h q)))
theorem vloop {keep : List Nat} {b : ACode} {Q : VPost} {r : RL} {c : Nat} (I : Nat → RL → Heap → Nat → Prop) (n : Nat) (h0 : I n (restrict r keep) H c) (h : ∀ n r H c, I n r H c → vc P p b (vloopQ keep I n Q) r H c) : vc P p (.loop keep b) Q r H c := ⟨I, n, h0, h⟩
theorem lq_n {keep : List Nat} {I : Nat → RL → Heap → Nat → Prop} {n : Nat} {Q : VPost} {r : RL} {c : Nat} (m : Nat) (hm : m < n) (h : I m (restrict r keep) H c) : vloopQ keep I n Q .normal r H c := ⟨m, hm, h⟩
theorem lq_e {keep : List Nat} {I : Nat → RL → Heap → Nat → Prop} {n : Nat} {Q : VPost} {r : RL} {c i : Nat} : vloopQ keep I n Q (.exit i) r H c = Q (.exit i) r H c := rfl
theorem lq_r {keep : List Nat} {I : Nat → RL → Heap → Nat → Prop} {n : Nat} {Q : VPost} {r : RL} {c : Nat} : vloopQ keep I n Q .ret r H c = Q .ret r H c := rfl
/-! freezing -/
variable {Z : Lab → Prop}
theorem Fr.two {a b a' b' : AV} (h : Fr Z H a a') (h' : Fr Z H b b') : Fr Z H (.tuple [a, b]) (.tuple [a', b']) := by
  refine .tuple _ _ rfl (fun i => match i with | 0 => a | _ => b) (fun i d hd => ?_) (fun i d hd => ?_)
  · match i with
    | 0 => rfl
    | 1 => rfl
    | i + 2 => simp at hd
  · match i with
    | 0 => simp at hd; subst hd; exact h
    | 1 => simp at hd; subst hd; exact h'
    | i + 2 => simp at hd
theorem Fr.of_own {x : AV} {e : Nat} {rows : List (List AV)} (h : Own H x e rows) (hr : ∀ r ∈ rows, RowOk e r) : Fr (fun l => H l ≠ none) H x (.isl e rows) := by
  rcases h with ⟨rfl, rfl⟩ | ⟨l, rfl, hl⟩
  · exact .nils e
  · exact .own l e 0 _ rows rows (fun i j => (rowsGet rows i j).getD .nilf) (by rw [hl]; simp) hl rfl hr (fun i j x hx => by simp [hx]) (fun i j x hx => by simp [hx]; exact .refl _)
theorem vp1 {t c : Nat} {x y : AV} (h : x = y) : VP [.tmp t] y .ret [(t, x)] H c := ⟨.inr rfl, x, by simp [aRes, aResL, aRes1, rget], h ▸ .refl _⟩
theorem vp1f {t c : Nat} {x y : AV} (h : Fr (fun l => H l ≠ none) H x y) : VP [.tmp t] y .ret [(t, x)] H c := ⟨.inr rfl, x, by simp [aRes, aResL, aRes1, rget], h⟩
theorem vp2 {t u c : Nat} {x y x' y' : AV} (h : Fr (fun l => H l ≠ none) H x x') (h' : Fr (fun l => H l ≠ none) H y y') (hn : u ≠ t) : VP [.tmp t, .tmp u] (.tuple [x', y']) .ret [(t, x), (u, y)] H c := ⟨.inr rfl, .tuple [x, y], by simp [aRes, aResL, aRes1, rget, hn], .two h h'⟩
theorem vp2e {t u c : Nat} {x y x' y' : AV} (h : x = x') (h' : y = y') (hn : u ≠ t) : VP [.tmp t, .tmp u] (.tuple [x', y']) .ret [(t, x), (u, y)] H c := vp2 (h ▸ .refl _) (h' ▸ .refl _) hn
theorem Fr.of_ptr {l : Lab} {e i j : Nat} {rows : List (List AV)} (hl : H l = some (.rows e rows)) : Fr (fun l => H l ≠ none) H (.ptr l e i j) (.iptr e rows i j) :=
  .ptr l e i j rows rows (fun i j => (rowsGet rows i j).getD .nilf) (by rw [hl]; simp) hl (fun i j x hx => by simp [hx]) (fun i j x hx => by simp [hx]; exact .refl _)
theorem v_call_fn {f : Nat} {fs cs args : List AV} : vop P .call (.fn (.func f) fs cs :: args) H q KK = vCall false P f (fs ++ args ++ cs) H q KK := rfl
theorem v_call_fnS {f : Nat} {fs cs args : List AV} : vopS P .call (.fn (.func f) fs cs :: args) H q KK = vCall true P f (fs ++ args ++ cs) H q KK := rfl
theorem v_load_rows {rows : List (List AV)} {r : List AV} {n e i j : Nat} {g : Bool} (h : rows[i]? = some r) : vLoad n g (.iptr e rows i j) H KL = vCell n g r j fun x => KL x (some []) := by
  simp only [vLoad, aLoad, AO.cells, vCell, h]
  by_cases hj : j + n ≤ r.length
  · simp only [hj, if_true, Option.bind_some, true_and, Option.bind_eq_some_iff, Option.some.injEq]
    apply propext
    constructor
    · rintro ⟨r, ⟨y, hy, rfl⟩, hk⟩; exact ⟨y, hy, hk⟩
    · rintro ⟨y, hy, hk⟩; exact ⟨_, ⟨y, hy, rfl⟩, hk⟩
  · simp [hj]
theorem v_load_r1 {r : List AV} {n e j : Nat} {g : Bool} : vLoad n g (.iptr e [r] 0 j) H KL = vCell n g r j fun x => KL x (some []) := v_load_rows rfl
theorem vp3e {t u v c : Nat} {x y z x' y' z' : AV} (h : x = x') (h' : y = y') (h2 : z = z') (hn : u ≠ t) (hn' : v ≠ t) (hn2 : v ≠ u) : VP [.tmp t, .tmp u, .tmp v] (.tuple [x', y', z']) .ret [(t, x), (u, y), (v, z)] H c := by
  subst h h' h2
  exact ⟨.inr rfl, .tuple [x, y, z], by simp [aRes, aResL, aRes1, rget, hn, hn', hn2], .refl _⟩
theorem rowOk_map {α : Type} {f : α → List AV} {e : Nat} {l : List α} (h : ∀ a, RowOk e (f a)) : ∀ r ∈ l.map f, RowOk e r := fun r hr => by
  obtain ⟨a, _, rfl⟩ := List.mem_map.1 hr
  exact h a
end
end Go.Proofs.Ytbngfbpegdcpkaa
