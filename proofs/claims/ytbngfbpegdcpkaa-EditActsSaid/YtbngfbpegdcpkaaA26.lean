/- The abstract machine: what is owed at each step, as one formula that can be reckoned out. -/
import Derived.Test.YtbngfbpegdcpkaaA25
namespace Go.Proofs.Ytbngfbpegdcpkaa
set_option linter.unusedVariables false
set_option linter.unusedSimpArgs false

abbrev KF := AV → Heap → List Lab → Option (List Lab) → Prop
def noCall : CallF := fun _ _ _ _ => none
def vBin (op : BinOp) (c : Cls) (x y : AV) (K : AV → Prop) : Prop := ∃ z, aBin op c x y = some z ∧ K z
def vNot (x : AV) (K : AV → Prop) : Prop := match x with
  | .bool b => K (.bool (!b))
  | _ => False
def vPick (c x y : AV) (K : AV → Prop) : Prop := match c with
  | .bool true => K x
  | .bool false => K y
  | _ => False
def vLen (x : AV) (K : AV → Prop) : Prop := ∃ n, x.len = some n ∧ K (.int .i64 (n : Int))
def vIx (e : Nat) (s i : AV) (K : AV → Prop) : Prop := ∃ z, aIndexAddr e s i = some z ∧ K z
def vFA (off : Nat) (x : AV) (K : AV → Prop) : Prop := ∃ z, aFieldAddr off x = some z ∧ K z
def vFld (off n : Nat) (agg : Bool) (x : AV) (K : AV → Prop) : Prop := match x with
  | .agg cs => off + n ≤ cs.length ∧ ∃ z, wrapCells agg ((cs.drop off).take n) = some z ∧ K z
  | _ => False
def vExt (i : Nat) (x : AV) (K : AV → Prop) : Prop := match x with
  | .tuple vs => ∃ z, vs[i]? = some z ∧ K z
  | _ => False
def vNil (x : AV) (K : AV → Prop) : Prop := x.nonNil = true ∧ K x
def vMin (x y : AV) (K : AV → Prop) : Prop := match x, y with
  | .int k a, .int k' b => k = k' ∧ K (.int k (Min.min a b))
  | _, _ => False
def vMax (x y : AV) (K : AV → Prop) : Prop := match x, y with
  | .int k a, .int k' b => k = k' ∧ K (.int k (Max.max a b))
  | _, _ => False
def vBuild (z : List AV) (ps : List (Nat × Nat)) (xs : List AV) (K : AV → Prop) : Prop := ∃ cs, fillA z ps xs = some cs ∧ K (.agg cs)
def vBuildS (e : Nat) (z : List AV) (ps : List (Nat × Nat)) (xs : List AV) (K : List (List AV) → Nat → Prop) : Prop := ∃ cs, fillA z ps xs = some cs ∧ (e ≠ 0 ∧ cs.length % e = 0 ∧ cs.all AV.one = true) ∧ K (chunk e (cs.length / e) cs) (cs.length / e)
def vBox (x : AV) (K : List AV → Prop) : Prop := x.cells.all AV.one = true ∧ K x.cells
def vLoad (n : Nat) (agg : Bool) (x : AV) (H : Heap) (K : AV → Option (List Lab) → Prop) : Prop := ∃ r, aLoad n agg x H [] = some r ∧ K r.x r.foot
def vGen (k : AK) (xs : List AV) (H : Heap) (q : Lab) (K : KF) : Prop := ∃ r, aop noCall k xs H q = some r ∧ K r.x (upd r.u H) (r.u.map (·.1)) r.foot
/-- a call; where operations stand in the order of the text, its outcome may be left open -/
def vCall (s : Bool) (P : Program) (f : Nat) (xs : List AV) (H : Heap) (q : Lab) (K : KF) : Prop := (∃ r, SoundRes P f xs H q r ∧ K r.x (upd r.u H) (r.u.map (·.1)) r.foot) ∨ (s = true ∧ ∃ Φ, SoundE P f xs H q Φ ∧ ∀ x u, Φ x u → K x (upd u H) (u.map (·.1)) none)
def vop (P : Program) (k : AK) (xs : List AV) (H : Heap) (q : Lab) (K : KF) : Prop := match k, xs with
  | .move, [x] => K x H [] (some [])
  | .pick, [c, x, y] => vPick c x y fun z => K z H [] (some [])
  | .bin op c, [x, y] => vBin op c x y fun z => K z H [] (some [])
  | .un .not, [x] => vNot x fun z => K z H [] (some [])
  | .len .slice, [x] => vLen x fun z => K z H [] (some [])
  | .indexAddr e, [x, y] => vIx e x y fun z => K z H [] (some [])
  | .fieldAddr off, [x] => vFA off x fun z => K z H [] (some [])
  | .field off n agg, [x] => vFld off n agg x fun z => K z H [] (some [])
  | .extract i, [x] => vExt i x fun z => K z H [] (some [])
  | .nilCheck, [x] => vNil x fun z => K z H [] (some [])
  | .min, [x, y] => vMin x y fun z => K z H [] (some [])
  | .max, [x, y] => vMax x y fun z => K z H [] (some [])
  | .build z ps, xs => vBuild z ps xs fun x => K x H [] (some [])
  | .buildSlice e z ps, xs => vBuildS e z ps xs fun rows n => K (.sl q e 0 n) (upd [(q, some (.rows e rows))] H) [q] (some [])
  | .alloc z, [] => K (.ptr q z.length 0 0) (upd [(q, some (.rows z.length [z]))] H) [q] (some [])
  | .box, [x] => vBox x fun cs => K (.ptr q cs.length 0 0) (upd [(q, some (.rows cs.length [cs]))] H) [q] (some [])
  | .load n agg, [x] => vLoad n agg x H fun z foot => K z H [] foot
  | .mkfn f nf, xs => match decide (nf ≤ xs.length) with
    | true => K (.fn f (xs.take nf) (xs.drop nf)) H [] (some [])
    | false => False
  | .call, .fn (.func f) first captured :: args => vCall false P f (first ++ args ++ captured) H q K
  | k, xs => vGen k xs H q K
/-- a slice that came in against none: whichever, if it is empty -/
def vEqS (x y : AV) (K : AV → Prop) : Prop := match x, y with
  | .isl _ rows, .nils => ∀ b : Bool, (rows ≠ [] → b = false) → K (.bool b)
  | x, y => vBin .eql .slice x y K
/-- a map's next entry: whichever is left -/
def vNext (x : AV) (H : Heap) (q : Lab) (K : KF) : Prop := (dop .mnext [x] H fun z u => K z (upd u H) (u.map (·.1)) none) ∨ vGen .mnext [x] H q K
/-- an operation in the order of the text -/
def vopS (P : Program) (k : AK) (xs : List AV) (H : Heap) (q : Lab) (K : KF) : Prop := match k, xs with
  | .bin .eql .slice, [x, y] => vEqS x y fun z => K z H [] (some [])
  | .mnext, [x] => vNext x H q K
  | .call, .fn (.func f) first captured :: args => vCall true P f (first ++ args ++ captured) H q K
  | k, xs => vop P k xs H q K
/-- a callee as it is taken -/
structure Entry where
  f : Nat
  xs : List AV
  H : Heap
  q : Lab
  r : Res
def Agrees (call : CallF) (E : List Entry) : Prop := ∀ e ∈ E, call e.f e.xs e.H e.q = some e.r
def EOk (P : Program) (p : Lab) (c : Nat) (E : List Entry) : Prop := (∀ e ∈ E, SoundRes P e.f e.xs e.H e.q e.r ∧ ∃ j, c ≤ j ∧ e.q = j :: p) ∧ E.Pairwise fun a b => a.q ≠ b.q
theorem aop_noCall {call : CallF} {k : AK} {xs : List AV} {H : Heap} {q : Lab} {r : Res} (h : aop noCall k xs H q = some r) : aop call k xs H q = some r := by
  unfold aop at h
  split at h
  all_goals first
    | (cases h; done)
    | (simp only [aop]; exact h)
    | (unfold aCall at h; split at h <;> simp [noCall] at h; done)
theorem vGen_sound {P : Program} {k : AK} {xs : List AV} {H : Heap} {q : Lab} {K : KF} (h : vGen k xs H q K) : ∃ (E : List Entry) (r : Res), (∀ e ∈ E, SoundRes P e.f e.xs e.H e.q e.r ∧ e.q = q) ∧ E.length ≤ 1 ∧ (∀ call, Agrees call E → aop call k xs H q = some r) ∧ K r.x (upd r.u H) (r.u.map (·.1)) r.foot := by
  obtain ⟨r, h1, h2⟩ := h
  exact ⟨[], r, by simp, by simp, fun call _ => aop_noCall h1, h2⟩
theorem vGen_of {P : Program} {k : AK} {xs : List AV} {H : Heap} {q : Lab} {K : KF} (r : Res) (h : ∀ call, aop call k xs H q = some r) (hk : K r.x (upd r.u H) (r.u.map (·.1)) r.foot) : ∃ (E : List Entry) (r : Res), (∀ e ∈ E, SoundRes P e.f e.xs e.H e.q e.r ∧ e.q = q) ∧ E.length ≤ 1 ∧ (∀ call, Agrees call E → aop call k xs H q = some r) ∧ K r.x (upd r.u H) (r.u.map (·.1)) r.foot :=
  ⟨[], r, by simp, by simp, fun call _ => h call, hk⟩
theorem aLoad_u {n : Nat} {agg : Bool} {x : AV} {H : Heap} {q : Lab} {r : Res} (h : aLoad n agg x H q = some r) : r.u = [] := by
  unfold aLoad at h
  split at h
  · split at h
    · split at h
      · simp only [Option.bind_eq_some_iff, Option.some.injEq] at h
        obtain ⟨_, _, _, _, rfl⟩ := h
        rfl
      · cases h
    · cases h
  · simp only [Option.bind_eq_some_iff, Option.some.injEq] at h
    obtain ⟨_, _, _, _, rfl⟩ := h
    rfl
  · cases h
theorem vop_sound {P : Program} {k : AK} {xs : List AV} {H : Heap} {q : Lab} {K : KF} (h : vop P k xs H q K) : ∃ (E : List Entry) (r : Res), (∀ e ∈ E, SoundRes P e.f e.xs e.H e.q e.r ∧ e.q = q) ∧ E.length ≤ 1 ∧ (∀ call, Agrees call E → aop call k xs H q = some r) ∧ K r.x (upd r.u H) (r.u.map (·.1)) r.foot := by
  unfold vop at h
  split at h
  · exact vGen_of (.pure _) (fun _ => rfl) h
  · unfold vPick at h; split at h
    · exact vGen_of (.pure _) (fun _ => rfl) h
    · exact vGen_of (.pure _) (fun _ => rfl) h
    · exact h.elim
  · obtain ⟨z, h1, h2⟩ := h; exact vGen_of (.pure z) (fun _ => by simp [aop, h1]) h2
  · unfold vNot at h; split at h
    · exact vGen_of (.pure _) (fun _ => rfl) h
    · exact h.elim
  · obtain ⟨z, h1, h2⟩ := h; refine vGen_of (.pure _) (fun _ => ?_) h2; simp only [aop, aLen, h1]; rfl
  · obtain ⟨z, h1, h2⟩ := h; exact vGen_of (.pure z) (fun _ => by simp [aop, h1]) h2
  · obtain ⟨z, h1, h2⟩ := h; exact vGen_of (.pure z) (fun _ => by simp [aop, h1]) h2
  · unfold vFld at h; split at h
    · obtain ⟨h0, z, h1, h2⟩ := h; exact vGen_of (.pure z) (fun _ => by simp [aop, h0, h1]) h2
    · exact h.elim
  · unfold vExt at h; split at h
    · obtain ⟨z, h1, h2⟩ := h; exact vGen_of (.pure z) (fun _ => by simp [aop, h1]) h2
    · exact h.elim
  · obtain ⟨h1, h2⟩ := h; exact vGen_of (.pure _) (fun _ => by simp [aop, h1]) h2
  · unfold vMin at h; split at h
    · obtain ⟨rfl, h2⟩ := h; exact vGen_of (.pure _) (fun _ => by simp [aop]) h2
    · exact h.elim
  · unfold vMax at h; split at h
    · obtain ⟨rfl, h2⟩ := h; exact vGen_of (.pure _) (fun _ => by simp [aop]) h2
    · exact h.elim
  · obtain ⟨z, h1, h2⟩ := h; exact vGen_of (.pure (.agg z)) (fun _ => by simp [aop, h1]) h2
  · rename_i e z ps
    obtain ⟨cs, h1, ⟨h2, h3, h4⟩, h5⟩ := h
    exact vGen_of (aNew e (chunk e (cs.length / e) cs) (.sl q e 0 (cs.length / e)) q) (fun _ => by simp [aop, h1, h2, h3]; simpa using h4) h5
  · rename_i z
    exact vGen_of (aNew z.length [z] (.ptr q z.length 0 0) q) (fun _ => rfl) h
  · rename_i x
    obtain ⟨h1, h2⟩ := h
    exact vGen_of (aNew x.cells.length [x.cells] (.ptr q x.cells.length 0 0) q) (fun _ => by simp only [aop, h1, if_true]) h2
  · obtain ⟨r, h1, h2⟩ := h
    have hu := aLoad_u h1
    obtain ⟨x, u, foot⟩ := r
    simp only at hu
    subst hu
    exact vGen_of ⟨x, [], foot⟩ (fun _ => h1) h2
  · split at h
    · rename_i f nf _ hd
      have hd' := of_decide_eq_true hd
      exact vGen_of (.pure (.fn f _ _)) (fun _ => by simp only [aop, if_pos hd']) h
    · exact h.elim
  · rename_i f first captured args
    obtain ⟨r, h1, h2⟩ := h.resolve_right (fun h => by cases h.1)
    exact ⟨[⟨f, first ++ args ++ captured, H, q, r⟩], r, by simpa using h1, by simp, fun call hc => by simpa [aop, aCall] using hc ⟨f, first ++ args ++ captured, H, q, r⟩ (by simp), h2⟩
  · exact vGen_sound h

abbrev VPost := AEx → RL → Heap → Nat → Prop
def vSel (v : AV) (A B : Unit → Prop) : Prop := match v with
  | .bool true => A ()
  | .bool false => B ()
  | _ => False
def vArgs (r : RL) : List AArg → List AV
  | [] => []
  | .t n :: xs => (rget r n).getD .nilf :: vArgs r xs
  | .c v :: xs => v :: vArgs r xs
def argsOk (r : RL) : List AArg → Bool
  | [] => true
  | .t n :: xs => (rget r n).isSome && argsOk r xs
  | .c _ :: xs => argsOk r xs
theorem vArgs_ok {r : RL} : ∀ {xs : List AArg}, argsOk r xs = true → evArgs r xs = some (vArgs r xs)
  | [], _ => rfl
  | .t n :: xs, h => by
    simp only [argsOk, Bool.and_eq_true] at h
    obtain ⟨v, hv⟩ := Option.isSome_iff_exists.1 h.1
    simp [evArgs, evArg, vArgs, hv, vArgs_ok h.2]
  | .c v :: xs, h => by
    simp only [argsOk] at h
    simp [evArgs, evArg, vArgs, vArgs_ok h]
/-- an operation of a drawn region: those that touch nothing are left out -/
def addTr (j : Nat) (labs : List Lab) (q : Lab) (foot : Option (List Lab)) (ps : List (Nat × Tr)) : List (Nat × Tr) := match labs, foot with
  | [], some [] => ps
  | labs, foot => (j, ⟨labs, q, foot⟩) :: ps
def clashFree (masks : List Nat) (ps : List (Nat × Tr)) : Prop := ∀ a ∈ ps, ∀ b ∈ ps, a.1 ≠ b.1 → ordered masks a.1 b.1 = false → clash a.1 b.1 a.2 b.2 = false
theorem clash_quiet {masks : List Nat} {ps : List (Nat × Tr)} (h : (ps.all fun p => p.2.labs.isEmpty) = true) : clashFree masks ps := fun a ha b hb _ _ => by
  have := List.all_eq_true.1 h a ha
  simp only [List.isEmpty_iff] at this
  unfold clash
  rw [this]
  split <;> simp
def skip (d : Option Nat) (sk : List Nat) : List Nat := match d with
  | none => sk
  | some t => t :: sk
def unskip (d : Option Nat) (sk : List Nat) : List Nat := match d with
  | none => sk
  | some t => sk.filter fun k => !(k == t)
section
variable (P : Program) (p : Lab)
/-- operations one behind the other -/
def vseq : List AIns → List Nat → RL → Heap → Nat → (RL → Heap → Nat → Prop) → Prop
  | [], _, r, H, c, K => K r H c
  | i :: is, sk, r, H, c, K => match i.guard with
    | none => match argsOk r i.xs with
      | true => vopS P i.k (vArgs r i.xs) H (c :: p) fun x H' _ _ => vseq is (unskip i.dst sk) (putReg r i.dst x) H' (c + 1) K
      | false => False
    | some (g, want) => match sk.contains g with
      | true => vseq is (skip i.dst sk) (putReg r i.dst (.tuple [])) H (c + 1) K
      | false => match rget r g with
        | none => False
        | some v => match want with
          | true => vSel v (fun _ => match argsOk r i.xs with
              | true => vop P i.k (vArgs (rset r g (.bool true)) i.xs) H (c :: p) fun x H' _ _ => vseq is (unskip i.dst sk) (putReg (rset r g (.bool true)) i.dst x) H' (c + 1) K
              | false => False) (fun _ => vseq is (skip i.dst sk) (putReg (rset r g (.bool false)) i.dst (.tuple [])) H (c + 1) K)
          | false => vSel v (fun _ => vseq is (skip i.dst sk) (putReg (rset r g (.bool true)) i.dst (.tuple [])) H (c + 1) K) (fun _ => match argsOk r i.xs with
              | true => vop P i.k (vArgs (rset r g (.bool false)) i.xs) H (c :: p) fun x H' _ _ => vseq is (unskip i.dst sk) (putReg (rset r g (.bool false)) i.dst x) H' (c + 1) K
              | false => False)
/-- and what the check of a drawn order looks at -/
def vdrw : Nat → List AIns → List Nat → RL → Heap → Nat → (List (Nat × Tr) → RL → Heap → Nat → Prop) → Prop
  | _, [], _, r, H, c, K => K [] r H c
  | j, i :: is, sk, r, H, c, K => match i.guard with
    | none => match argsOk r i.xs with
      | true => vop P i.k (vArgs r i.xs) H (c :: p) fun x H' labs foot => vdrw (j + 1) is (unskip i.dst sk) (putReg r i.dst x) H' (c + 1) fun ps => K (addTr j labs (c :: p) foot ps)
      | false => False
    | some (g, want) => match sk.contains g with
      | true => vdrw (j + 1) is (skip i.dst sk) (putReg r i.dst (.tuple [])) H (c + 1) K
      | false => match rget r g with
        | none => False
        | some v => match want with
          | true => vSel v (fun _ => match argsOk r i.xs with
              | true => vop P i.k (vArgs (rset r g (.bool true)) i.xs) H (c :: p) fun x H' labs foot => vdrw (j + 1) is (unskip i.dst sk) (putReg (rset r g (.bool true)) i.dst x) H' (c + 1) fun ps => K (addTr j labs (c :: p) foot ps)
              | false => False) (fun _ => vdrw (j + 1) is (skip i.dst sk) (putReg (rset r g (.bool false)) i.dst (.tuple [])) H (c + 1) K)
          | false => vSel v (fun _ => vdrw (j + 1) is (skip i.dst sk) (putReg (rset r g (.bool true)) i.dst (.tuple [])) H (c + 1) K) (fun _ => match argsOk r i.xs with
              | true => vop P i.k (vArgs (rset r g (.bool false)) i.xs) H (c :: p) fun x H' labs foot => vdrw (j + 1) is (unskip i.dst sk) (putReg (rset r g (.bool false)) i.dst x) H' (c + 1) fun ps => K (addTr j labs (c :: p) foot ps)
              | false => False)
def vseqQ (k : RL → Heap → Nat → Prop) (Q : VPost) : VPost := fun e r H c => match e with
  | .normal => k r H c
  | e => Q e r H c
def vblockQ (id : Nat) (Q : VPost) : VPost := fun e r H c => match e with
  | .exit k => if k = id then Q .normal r H c else Q (.exit k) r H c
  | e => Q e r H c
def vloopQ (keep : List Nat) (I : Nat → RL → Heap → Nat → Prop) (n : Nat) (Q : VPost) : VPost := fun e r H c => match e with
  | .normal => ∃ n', n' < n ∧ I n' (restrict r keep) H c
  | e => Q e r H c
def vgotoQ (l : Nat) (I : Nat → RL → Heap → Nat → Prop) (Q : VPost) : VPost := fun e r H c => match e with
  | .goto k => k = l ∧ ∃ n, I n r H c
  | e => Q e r H c
def vagainQ (l : Nat) (I : Nat → RL → Heap → Nat → Prop) (n : Nat) (Q : VPost) : VPost := fun e r H c => match e with
  | .goto k => k = l ∧ ∃ n', n' < n ∧ I n' r H c
  | e => Q e r H c
def vc : ACode → VPost → RL → Heap → Nat → Prop
  | .skip, Q, r, H, c => Q .normal r H c
  | .region ops none keep, Q, r, H, c => vseq P p ops [] r H c fun r' H' c' => Q .normal (restrict r' keep) H' c'
  | .region ops (some masks) keep, Q, r, H, c => vdrw P p 0 ops [] r H c fun ps r' H' c' => clashFree masks ps ∧ Q .normal (restrict r' keep) H' c'
  | .seq a b, Q, r, H, c => vc a (vseqQ (vc b Q) Q) r H c
  | .cond x t e, Q, r, H, c => match evArg r x with
    | some v => vSel v (fun _ => vc t Q r H c) (fun _ => vc e Q r H c)
    | none => False
  | .block id b, Q, r, H, c => vc b (vblockQ id Q) r H c
  | .loop keep b, Q, r, H, c => ∃ (I : Nat → RL → Heap → Nat → Prop) (n : Nat), I n (restrict r keep) H c ∧ ∀ n r H c, I n r H c → vc b (vloopQ keep I n Q) r H c
  | .exit id, Q, r, H, c => Q (.exit id) r H c
  | .ret, Q, r, H, c => Q .ret r H c
  | .label _, Q, r, H, c => Q .normal r H c
  | .goto l, Q, r, H, c => Q (.goto l) r H c
  | .scope l b a, Q, r, H, c => ∃ (I : Nat → RL → Heap → Nat → Prop), vc b (vgotoQ l I Q) r H c ∧ ∀ n r H c, I n r H c → vc a (vagainQ l I n Q) r H c
  | .bad, _, _, _, _ => False
end
section
variable {P : Program} {H0 : Heap} {p : Lab}
theorem vSel_elim {v : AV} {A B : Unit → Prop} (h : vSel v A B) : (v = .bool true ∧ A ()) ∨ (v = .bool false ∧ B ()) := by
  unfold vSel at h
  split at h
  · exact .inl ⟨rfl, h⟩
  · exact .inr ⟨rfl, h⟩
  · exact h.elim
theorem rset_same : ∀ {r : RL} {g : Nat} {x : AV}, rget r g = some x → rset r g x = r
  | [], _, _, h => by simp [rget] at h
  | (k, y) :: r, g, x, h => by
    simp only [rget] at h
    simp only [rset]
    split at h
    · rename_i e; subst e; simp at h; simp [h]
    · rename_i e; simp [e, rset_same h]
def SkOk (sk : List Nat) (r : RL) : Prop := ∀ g ∈ sk, rget r g = some (.tuple [])
theorem SkOk.put {sk : List Nat} {r : RL} (h : SkOk sk r) {d : Option Nat} {x : AV} : SkOk (unskip d sk) (putReg r d x) := by
  cases d with
  | none => exact h
  | some t =>
    intro g hg
    simp only [unskip, List.mem_filter, Bool.not_eq_true', beq_eq_false_iff_ne] at hg
    simp only [putReg, rget_rset, if_neg hg.2]
    exact h g hg.1
theorem SkOk.skip {sk : List Nat} {r : RL} (h : SkOk sk r) {d : Option Nat} : SkOk (Ytbngfbpegdcpkaa.skip d sk) (putReg r d (.tuple [])) := by
  cases d with
  | none => exact h
  | some t =>
    intro g hg
    simp only [putReg, rget_rset]
    by_cases e : g = t
    · rw [if_pos e]
    · rw [if_neg e]
      simp only [Ytbngfbpegdcpkaa.skip, List.mem_cons] at hg
      exact h g (by simpa [e] using hg)
theorem SkOk.nil {r : RL} : SkOk [] r := fun g hg => by cases hg
theorem EOk.nil {c : Nat} : EOk P p c [] := ⟨by simp, by simp⟩
theorem EOk.add {c : Nat} {E F : List Entry} (hE : ∀ e ∈ E, SoundRes P e.f e.xs e.H e.q e.r ∧ e.q = c :: p) (hl : E.length ≤ 1) (hF : EOk P p (c + 1) F) : EOk P p c (E ++ F) := by
  refine ⟨fun e he => ?_, ?_⟩
  · rcases List.mem_append.1 he with h | h
    · exact ⟨(hE e h).1, c, Nat.le_refl _, (hE e h).2⟩
    · obtain ⟨h1, j, hj, h2⟩ := hF.1 e h
      exact ⟨h1, j, by omega, h2⟩
  · rw [List.pairwise_append]
    refine ⟨?_, hF.2, fun a ha b hb e => ?_⟩
    · match E, hl with
      | [], _ => exact .nil
      | [x], _ => simp
      | _ :: _ :: _, hl => simp at hl
    · obtain ⟨_, j, hj, h2⟩ := hF.1 b hb
      rw [(hE a ha).2, h2] at e
      simp at e; omega
theorem evIns_none {call : CallF} {i : AIns} {r : RL} {ov : Chg} {c : Nat} {res : Res} (hg : i.guard = none) (ha : argsOk r i.xs = true) (h : aop call i.k (vArgs r i.xs) (upd ov H0) (c :: p) = some res) : evalIns call H0 p i ⟨r, ov, c⟩ = some ⟨false, res.x, res.u, c :: p, res.foot⟩ := by
  simp only [evalIns, hg, runIns, vArgs_ok ha, Option.bind_some, h]
theorem evIns_run {call : CallF} {i : AIns} {r : RL} {ov : Chg} {c : Nat} {res : Res} {g : Nat} {want : Bool} (hg : i.guard = some (g, want)) (hb : rget r g = some (.bool want)) (ha : argsOk r i.xs = true) (h : aop call i.k (vArgs r i.xs) (upd ov H0) (c :: p) = some res) : evalIns call H0 p i ⟨r, ov, c⟩ = some ⟨false, res.x, res.u, c :: p, res.foot⟩ := by
  simp only [evalIns, hg, hb, if_true, runIns, vArgs_ok ha, Option.bind_some, h]
theorem evIns_skip {call : CallF} {i : AIns} {r : RL} {ov : Chg} {c : Nat} {g : Nat} {want b : Bool} (hg : i.guard = some (g, want)) (hb : rget r g = some (.bool b)) (hne : b ≠ want) : evalIns call H0 p i ⟨r, ov, c⟩ = some ⟨true, .tuple [], [], c :: p, some []⟩ := by
  simp only [evalIns, hg, hb, if_neg hne]
theorem evIns_skip2 {call : CallF} {i : AIns} {r : RL} {ov : Chg} {c : Nat} {g : Nat} {want : Bool} (hg : i.guard = some (g, want)) (hb : rget r g = some (.tuple [])) : evalIns call H0 p i ⟨r, ov, c⟩ = some ⟨true, .tuple [], [], c :: p, some []⟩ := by
  simp only [evalIns, hg, hb]
theorem Agrees.left {call : CallF} {E F : List Entry} (h : Agrees call (E ++ F)) : Agrees call E := fun e he => h e (by simp [he])
theorem Agrees.right {call : CallF} {E F : List Entry} (h : Agrees call (E ++ F)) : Agrees call F := fun e he => h e (by simp [he])
def PsOk (j : Nat) (ps : List (Nat × Tr)) (trs : List Tr) : Prop := ∀ (i : Nat) tr, trs[i]? = some tr → (tr.labs = [] ∧ tr.foot = some []) ∨ (j + i, tr) ∈ ps
theorem PsOk.nil {j : Nat} : PsOk j [] [] := fun i tr h => by simp at h
theorem PsOk.add {j : Nat} {ps : List (Nat × Tr)} {trs : List Tr} {labs : List Lab} {q : Lab} {foot : Option (List Lab)} (h : PsOk (j + 1) ps trs) : PsOk j (addTr j labs q foot ps) (⟨labs, q, foot⟩ :: trs) := fun i tr hi => by
  cases i with
  | zero =>
    simp only [List.getElem?_cons_zero, Option.some.injEq] at hi
    subst hi
    unfold addTr
    split
    · exact .inl ⟨rfl, rfl⟩
    · exact .inr (by simp)
  | succ i =>
    rcases h i tr (by simpa using hi) with h1 | h1
    · exact .inl h1
    · right
      rw [show j + (i + 1) = j + 1 + i by omega]
      unfold addTr
      split
      · exact h1
      · exact List.mem_cons_of_mem _ h1
theorem clashRow_of {masks : List Nat} {i : Nat} {a : Tr} : ∀ {trs : List Tr} {k : Nat}, (∀ (m : Nat) b, trs[m]? = some b → i ≠ k + m → ordered masks i (k + m) = false → clash i (k + m) a b = false) → clashRow masks i a trs k = false
  | [], k, _ => rfl
  | b :: trs, k, h => by
    simp only [clashRow, Bool.or_eq_false_iff]
    refine ⟨?_, clashRow_of fun m b hb hi ho => ?_⟩
    · by_cases hi : i = k
      · simp [hi]
      · cases ho : ordered masks i k
        · have := h 0 b rfl (by simpa using hi) (by simpa using ho)
          simp at this
          simp [this]
        · simp
    · have := h (m + 1) b (by simpa using hb) (by omega) (by rw [show k + (m + 1) = k + 1 + m by omega]; exact ho)
      rw [show k + (m + 1) = k + 1 + m by omega] at this
      exact this
theorem clashAll_of {masks : List Nat} {all : List Tr} : ∀ {trs : List Tr} {k : Nat}, (∀ (m : Nat) a, trs[m]? = some a → a.labs ≠ [] → clashRow masks (k + m) a all 0 = false) → clashAll masks all trs k = false
  | [], k, _ => rfl
  | a :: trs, k, h => by
    simp only [clashAll, Bool.or_eq_false_iff]
    refine ⟨?_, clashAll_of fun m b hb hl => ?_⟩
    · cases hl : a.labs with
      | nil => simp
      | cons x y => simp; have := h 0 a rfl (by simp [hl]); simpa using this
    · have := h (m + 1) b (by simpa using hb) hl
      rw [show k + (m + 1) = k + 1 + m by omega] at this
      exact this
theorem clash_of {masks : List Nat} {ps : List (Nat × Tr)} {trs : List Tr} (h : PsOk 0 ps trs) (hc : clashFree masks ps) : clashAll masks trs trs 0 = false := clashAll_of fun m a ha hl => clashRow_of fun n b hb hi ho => by
  simp only [Nat.zero_add] at hi ho ⊢
  rcases h m a ha with h1 | h1
  · exact absurd h1.1 hl
  · rcases h n b hb with h2 | h2
    · simp [clash, h2.2]
    · simp only [Nat.zero_add] at h1 h2
      exact hc _ h1 _ h2 hi ho
theorem vdrw_sound : ∀ {j : Nat} {is : List AIns} {sk : List Nat} {r : RL} {ov : Chg} {c : Nat} {K : List (Nat × Tr) → RL → Heap → Nat → Prop}, SkOk sk r → vdrw P p j is sk r (upd ov H0) c K → ∃ E, EOk P p c E ∧ ∃ s' trs ps, PsOk j ps trs ∧ (∀ call, Agrees call E → runTr call H0 p is ⟨r, ov, c⟩ = some (s', trs)) ∧ K ps s'.regs (upd s'.ov H0) s'.c
  | j, [], sk, r, ov, c, K, _, h => ⟨[], .nil, ⟨r, ov, c⟩, [], [], .nil, fun _ _ => rfl, h⟩
  | j, i :: is, sk, r, ov, c, K, hsk, h => by
    have go : ∀ {c' : Nat} {x : AV} {u : Chg} {labs : List Lab} {foot : Option (List Lab)} {sk' : List Nat}, labs = u.map (·.1) → c' = c + 1 → SkOk sk' (putReg r i.dst x) → vdrw P p (j + 1) is sk' (putReg r i.dst x) (upd u (upd ov H0)) c' (fun ps => K (addTr j labs (c :: p) foot ps)) → ∀ E0, (∀ e ∈ E0, SoundRes P e.f e.xs e.H e.q e.r ∧ e.q = c :: p) → E0.length ≤ 1 → ∀ sk, (∀ call, Agrees call E0 → evalIns call H0 p i ⟨r, ov, c⟩ = some ⟨sk, x, u, c :: p, foot⟩) →
        ∃ E, EOk P p c E ∧ ∃ s' trs ps, PsOk j ps trs ∧ (∀ call, Agrees call E → runTr call H0 p (i :: is) ⟨r, ov, c⟩ = some (s', trs)) ∧ K ps s'.regs (upd s'.ov H0) s'.c := by
      intro c' x u labs foot sk' hlabs hc' hs hv E0 hE hl sk hev
      subst hc'
      rw [← upd_omerge] at hv
      obtain ⟨F, hF, s', trs, ps, hps, h1, h2⟩ := vdrw_sound hs hv
      refine ⟨E0 ++ F, .add hE hl hF, s', ⟨labs, c :: p, foot⟩ :: trs, _, hps.add, fun call hc => ?_, h2⟩
      simp only [runTr, hev call hc.left, Option.bind_some, applyRc, trOf]
      rw [h1 call hc.right, hlabs]
      rfl
    unfold vdrw at h
    split at h
    · rename_i hg
      split at h
      · rename_i ha
        obtain ⟨E, res, hE, hl, hrun, hK⟩ := vop_sound h
        exact go rfl rfl hsk.put hK E hE hl false (fun call hc => evIns_none hg ha (hrun call hc))
      · exact h.elim
    · rename_i g want hg
      split at h
      · rename_i hgs
        have hb := hsk g (by simpa using hgs)
        exact go (u := []) (labs := []) (foot := some []) rfl rfl hsk.skip h [] (by simp) (by simp) true (fun call _ => evIns_skip2 hg hb)
      · split at h
        · exact h.elim
        · rename_i v hv
          split at h
          · replace h := vSel_elim h
            rcases h with ⟨rfl, h⟩ | ⟨rfl, h⟩
            · rw [rset_same hv] at h
              split at h
              · rename_i ha
                obtain ⟨E, res, hE, hl, hrun, hK⟩ := vop_sound h
                exact go rfl rfl hsk.put hK E hE hl false (fun call hc => evIns_run hg hv ha (hrun call hc))
              · exact h.elim
            · rw [rset_same hv] at h
              exact go (u := []) (labs := []) (foot := some []) rfl rfl hsk.skip h [] (by simp) (by simp) true (fun call _ => evIns_skip hg hv (by simp))
          · replace h := vSel_elim h
            rcases h with ⟨rfl, h⟩ | ⟨rfl, h⟩
            · rw [rset_same hv] at h
              exact go (u := []) (labs := []) (foot := some []) rfl rfl hsk.skip h [] (by simp) (by simp) true (fun call _ => evIns_skip hg hv (by simp))
            · rw [rset_same hv] at h
              split at h
              · rename_i ha
                obtain ⟨E, res, hE, hl, hrun, hK⟩ := vop_sound h
                exact go rfl rfl hsk.put hK E hE hl false (fun call hc => evIns_run hg hv ha (hrun call hc))
              · exact h.elim
/-- one table of callees for a region -/
noncomputable def tabCall (E : List Entry) : CallF := fun f xs H q => (E.find? fun e => @decide (e.f = f ∧ e.xs = xs ∧ e.H = H ∧ e.q = q) (Classical.propDecidable _)).map (·.r)
theorem tab_ok {c : Nat} {E : List Entry} (h : EOk P p c E) : CallOk P (tabCall E) := fun f xs H q r hr => by
  unfold tabCall at hr
  simp only [Option.map_eq_some_iff] at hr
  obtain ⟨e, he, rfl⟩ := hr
  have h1 := List.find?_some he
  have h2 := List.mem_of_find?_eq_some he
  simp only [decide_eq_true_eq] at h1
  obtain ⟨rfl, rfl, rfl, rfl⟩ := h1
  exact (h.1 e h2).1
theorem pair_same : ∀ {E : List Entry} {e e' : Entry}, (E.Pairwise fun a b => a.q ≠ b.q) → e ∈ E → e' ∈ E → e'.q = e.q → e' = e
  | [], _, _, _, h, _, _ => by cases h
  | a :: E, e, e', hp, he, he', hq => by
    rw [List.pairwise_cons] at hp
    rcases List.mem_cons.1 he with h1 | h1
    · rcases List.mem_cons.1 he' with h2 | h2
      · rw [h1, h2]
      · exact absurd (h1 ▸ hq.symm) (hp.1 _ h2)
    · rcases List.mem_cons.1 he' with h2 | h2
      · exact absurd (h2 ▸ hq) (hp.1 _ h1)
      · exact pair_same hp.2 h1 h2 hq
theorem tab_agrees {c : Nat} {E : List Entry} (h : EOk P p c E) : Agrees (tabCall E) E := fun e he => by
  unfold tabCall
  have : ∃ e', E.find? (fun e' => @decide (e'.f = e.f ∧ e'.xs = e.xs ∧ e'.H = e.H ∧ e'.q = e.q) (Classical.propDecidable _)) = some e' := by
    cases hf : E.find? (fun e' => @decide (e'.f = e.f ∧ e'.xs = e.xs ∧ e'.H = e.H ∧ e'.q = e.q) (Classical.propDecidable _)) with
    | some e' => exact ⟨e', rfl⟩
    | none => have := List.find?_eq_none.1 hf e he; simp at this
  obtain ⟨e', he'⟩ := this
  have h1 := List.find?_some he'
  have h2 := List.mem_of_find?_eq_some he'
  simp only [decide_eq_true_eq] at h1
  have : e' = e := pair_same h.2 he h2 h1.2.2.2
  rw [he', this]
  rfl
theorem vopS_sound {k : AK} {xs : List AV} {H : Heap} {q : Lab} {K : KF} (h : vopS P k xs H q K) : (∃ (E : List Entry) (r : Res), (∀ e ∈ E, SoundRes P e.f e.xs e.H e.q e.r ∧ e.q = q) ∧ E.length ≤ 1 ∧ (∀ call, Agrees call E → aop call k xs H q = some r) ∧ K r.x (upd r.u H) (r.u.map (·.1)) r.foot) ∨
    dop k xs H (fun x u => ∃ foot, K x (upd u H) (u.map (·.1)) foot) ∨ (k = .call ∧ ∃ f first captured args, xs = .fn (.func f) first captured :: args ∧ ∃ Φ, SoundE P f (first ++ args ++ captured) H q Φ ∧ ∀ x u, Φ x u → ∃ foot, K x (upd u H) (u.map (·.1)) foot) := by
  unfold vopS at h
  split at h
  · unfold vEqS at h
    split at h
    · exact .inr (.inl (fun b hb => ⟨_, h b hb⟩))
    · exact .inl (vop_sound (k := .bin .eql .slice) h)
  · rcases h with h | h
    · exact .inr (.inl (dop_mono (fun x u hk => ⟨_, hk⟩) h))
    · exact .inl (vGen_sound h)
  · rename_i f first captured args
    rcases h with ⟨r, h1, h2⟩ | ⟨_, Φ, h1, h2⟩
    · exact .inl ⟨[⟨f, first ++ args ++ captured, H, q, r⟩], r, by simpa using h1, by simp, fun call hc => by simpa [aop, aCall] using hc ⟨f, first ++ args ++ captured, H, q, r⟩ (by simp), h2⟩
    · exact .inr (.inr ⟨rfl, f, first, captured, args, rfl, Φ, h1, fun x u hx => ⟨_, h2 x u hx⟩⟩)
  · exact .inl (vop_sound h)
theorem one_ok {q : Lab} {E : List Entry} (h : ∀ e ∈ E, SoundRes P e.f e.xs e.H e.q e.r ∧ e.q = q) (hl : E.length ≤ 1) : CallOk P (tabCall E) ∧ Agrees (tabCall E) E := by
  have hp : E.Pairwise fun a b => a.q ≠ b.q := by
    match E, hl with
    | [], _ => exact .nil
    | [x], _ => simp
    | _ :: _ :: _, hl => simp at hl
  refine ⟨fun f xs H q' r hr => ?_, fun e he => ?_⟩
  · unfold tabCall at hr
    simp only [Option.map_eq_some_iff] at hr
    obtain ⟨e, he, rfl⟩ := hr
    have h1 := List.find?_some he
    have h2 := List.mem_of_find?_eq_some he
    simp only [decide_eq_true_eq] at h1
    obtain ⟨rfl, rfl, rfl, rfl⟩ := h1
    exact (h e h2).1
  · unfold tabCall
    cases hf : E.find? (fun e' => @decide (e'.f = e.f ∧ e'.xs = e.xs ∧ e'.H = e.H ∧ e'.q = e.q) (Classical.propDecidable _)) with
    | none => have := List.find?_eq_none.1 hf e he; simp at this
    | some e' =>
      have h1 := List.find?_some hf
      have h2 := List.mem_of_find?_eq_some hf
      simp only [decide_eq_true_eq] at h1
      rw [pair_same hp he h2 h1.2.2.2]
      rfl
theorem vseq_sound : ∀ {is : List AIns} {sk : List Nat} {r : RL} {ov : Chg} {c : Nat} {K : RL → Heap → Nat → Prop}, SkOk sk r → vseq P p is sk r (upd ov H0) c K → gseq P H0 p is ⟨r, ov, c⟩ fun s' => K s'.regs (upd s'.ov H0) s'.c
  | [], sk, r, ov, c, K, _, h => h
  | i :: is, sk, r, ov, c, K, hsk, h => by
    have fin : ∀ {x : AV} {u : Chg} {sk' : List Nat}, SkOk sk' (putReg r i.dst x) → vseq P p is sk' (putReg r i.dst x) (upd u (upd ov H0)) (c + 1) K → ∀ q foot b, gseq P H0 p is (applyRc i ⟨r, ov, c⟩ ⟨b, x, u, q, foot⟩) fun s' => K s'.regs (upd s'.ov H0) s'.c := by
      intro x u sk' hs hv q foot b
      rw [← upd_omerge] at hv
      exact vseq_sound hs hv
    have skp : ∀ {b : Bool}, (∀ call, evalIns call H0 p i ⟨r, ov, c⟩ = some ⟨true, .tuple [], [], c :: p, some []⟩) → vseq P p is (skip i.dst sk) (putReg r i.dst (.tuple [])) (upd ov H0) (c + 1) K → gseq P H0 p (i :: is) ⟨r, ov, c⟩ fun s' => K s'.regs (upd s'.ov H0) s'.c := fun {b} hev hv =>
      .inl ⟨tabCall [], (one_ok (q := c :: p) (by simp) (by simp)).1, _, hev _, fin (u := []) hsk.skip hv _ _ _⟩
    unfold vseq at h
    split at h
    · rename_i hg
      split at h
      · rename_i ha
        rcases vopS_sound h with ⟨E, res, hE, hl, hrun, hK⟩ | hd | ⟨hkc, f, first, captured, args, hxs, Φ, hE, hK⟩
        · obtain ⟨h1, h2⟩ := one_ok hE hl
          exact .inl ⟨tabCall E, h1, _, evIns_none hg ha (hrun _ h2), fin hsk.put hK _ _ _⟩
        · refine .inr (.inl ⟨hg, _, vArgs_ok ha, dop_mono (fun x u hk => ?_) hd⟩)
          obtain ⟨foot, hk⟩ := hk
          exact fin hsk.put hk _ _ _
        · refine .inr (.inr ⟨hg, hkc, f, first, captured, args, by rw [← hxs]; exact vArgs_ok ha, Φ, hE, fun x u hx => ?_⟩)
          obtain ⟨foot, hk⟩ := hK x u hx
          exact fin hsk.put hk _ _ _
      · exact h.elim
    · rename_i g want hg
      split at h
      · rename_i hgs
        have hb := hsk g (by simpa using hgs)
        exact skp (b := true) (fun call => evIns_skip2 hg hb) h
      · split at h
        · exact h.elim
        · rename_i v hv
          split at h
          · replace h := vSel_elim h
            rcases h with ⟨rfl, h⟩ | ⟨rfl, h⟩
            · rw [rset_same hv] at h
              split at h
              · rename_i ha
                obtain ⟨E, res, hE, hl, hrun, hK⟩ := vop_sound h
                obtain ⟨h1, h2⟩ := one_ok hE hl
                exact .inl ⟨tabCall E, h1, _, evIns_run hg hv ha (hrun _ h2), fin hsk.put hK _ _ _⟩
              · exact h.elim
            · rw [rset_same hv] at h
              exact skp (b := true) (fun call => evIns_skip hg hv (by simp)) h
          · replace h := vSel_elim h
            rcases h with ⟨rfl, h⟩ | ⟨rfl, h⟩
            · rw [rset_same hv] at h
              exact skp (b := true) (fun call => evIns_skip hg hv (by simp)) h
            · rw [rset_same hv] at h
              split at h
              · rename_i ha
                obtain ⟨E, res, hE, hl, hrun, hK⟩ := vop_sound h
                obtain ⟨h1, h2⟩ := one_ok hE hl
                exact .inl ⟨tabCall E, h1, _, evIns_run hg hv ha (hrun _ h2), fin hsk.put hK _ _ _⟩
              · exact h.elim
def VQ (H0 : Heap) (Q : VPost) : APost := fun e s => Q e s.regs (upd s.ov H0) s.c
theorem grounds_more {b : ACode} {keep : List Nat} {Q : APost} : ∀ {m k : Nat} {s : ASt}, m ≤ k → rounds (gwp P H0 p b) keep Q m s → rounds (gwp P H0 p b) keep Q k s
  | 0, _, _, _, h => h.elim
  | m + 1, 0, _, hk, _ => by omega
  | m + 1, k + 1, s, hk, h => by
    refine gwp_mono (fun e s' he => ?_) h
    cases e with
    | normal => exact grounds_more (m := m) (k := k) (by omega) he
    | exit id => exact he
    | ret => exact he
    | goto l => exact he
theorem gsrounds_more {b : ACode} {l : Nat} {Q : APost} : ∀ {m k : Nat} {s : ASt}, m ≤ k → srounds (gwp P H0 p b) l Q m s → srounds (gwp P H0 p b) l Q k s
  | 0, _, _, _, h => h.elim
  | m + 1, 0, _, hk, _ => by omega
  | m + 1, k + 1, s, hk, h => by
    refine gwp_mono (fun e s' he => ?_) h
    cases e with
    | normal => exact he
    | exit id => exact he
    | ret => exact he
    | goto l => exact ⟨he.1, gsrounds_more (m := m) (k := k) (by omega) he.2⟩
theorem vc_sound {a : ACode} : ∀ {Q : VPost} {r : RL} {ov : Chg} {c : Nat}, vc P p a Q r (upd ov H0) c → gwp P H0 p a (VQ H0 Q) ⟨r, ov, c⟩ := by
  induction a with
  | skip => intro Q r ov c h; exact h
  | region ops draw keep =>
    intro Q r ov c h
    cases draw with
    | none =>
      exact gseq_mono (fun s1 hs1 => ⟨⟨restrict s1.regs keep, s1.ov, s1.c⟩, Weak.refl _ _ _, hs1⟩) (vseq_sound .nil h)
    | some masks =>
      obtain ⟨E, hE, s', trs, ps, hps, h1, h2, h3⟩ := vdrw_sound .nil h
      exact .inl ⟨tabCall E, tab_ok hE, _, by simp only [runRegion]; rw [h1 _ (tab_agrees hE)]; simp only [Option.bind_some, clash_of hps h2]; rfl, ⟨restrict s'.regs keep, s'.ov, s'.c⟩, Weak.refl _ _ _, h3⟩
  | seq a b iha ihb =>
    intro Q r ov c h
    refine (show gwp P H0 p a (seqQ _ _) _ from gwp_mono (fun e s he => ?_) (iha h))
    cases e with
    | normal => exact ihb he
    | exit id => exact he
    | ret => exact he
    | goto l => exact he
  | cond x t e iht ihe =>
    intro Q r ov c h
    simp only [vc] at h
    split at h
    · rename_i v hv
      rcases vSel_elim h with ⟨rfl, h'⟩ | ⟨rfl, h'⟩
      · simp only [gwp, hv, if_true]; exact iht h'
      · simp only [gwp, hv, Bool.false_eq_true, if_false]; exact ihe h'
    · exact h.elim
  | block id b ih =>
    intro Q r ov c h
    refine (show gwp P H0 p b (blockQ _ _) _ from gwp_mono (fun e s he => ?_) (ih h))
    cases e with
    | normal => exact he
    | exit k =>
      simp only [VQ, vblockQ] at he
      simp only [blockQ]
      split at he
      · rename_i hk; rw [if_pos hk]; exact he
      · rename_i hk; rw [if_neg hk]; exact he
    | ret => exact he
    | goto l => exact he
  | loop keep b ih =>
    intro Q r ov c h
    obtain ⟨I, n, h0, hI⟩ := h
    have key : ∀ n r ov c, I n (restrict r keep) (upd ov H0) c → rounds (gwp P H0 p b) keep (VQ H0 Q) (n + 1) ⟨r, ov, c⟩ := by
      intro n
      induction n using Nat.strongRecOn with
      | ind n ihn =>
        intro r ov c hn
        refine gwp_mono (fun e s he => ?_) (ih (hI n _ _ c hn))
        cases e with
        | normal =>
          obtain ⟨n', hlt, hn'⟩ := he
          exact grounds_more (by omega) (ihn n' hlt s.regs s.ov s.c hn')
        | exit id => exact he
        | ret => exact he
        | goto l => exact he
    exact ⟨n + 1, key n r ov c h0⟩
  | exit id => intro Q r ov c h; exact h
  | ret => intro Q r ov c h; exact h
  | label l => intro Q r ov c h; exact h
  | goto l => intro Q r ov c h; exact h
  | bad => intro Q r ov c h; exact h.elim
  | scope l b a ihb iha =>
    intro Q r ov c h
    obtain ⟨I, h0, hI⟩ := h
    have key : ∀ n r ov c, I n r (upd ov H0) c → srounds (gwp P H0 p a) l (VQ H0 Q) (n + 1) ⟨r, ov, c⟩ := by
      intro n
      induction n using Nat.strongRecOn with
      | ind n ihn =>
        intro r ov c hn
        refine gwp_mono (fun e s he => ?_) (iha (hI n r _ c hn))
        cases e with
        | normal => exact he
        | exit id => exact he
        | ret => exact he
        | goto k =>
          obtain ⟨hk, n', hlt, hn'⟩ := he
          exact ⟨hk, gsrounds_more (by omega) (ihn n' hlt s.regs s.ov s.c hn')⟩
    refine (show gwp P H0 p b (jumpQ _ _ _) _ from gwp_mono (fun e s he => ?_) (ihb h0))
    cases e with
    | normal => exact he
    | exit id => exact he
    | ret => exact he
    | goto k =>
      obtain ⟨hk, n, hn⟩ := he
      exact ⟨hk, n + 1, key n s.regs s.ov s.c hn⟩
end
end Go.Proofs.Ytbngfbpegdcpkaa
