/- The abstract machine: its operations. -/
import Derived.Test.YtbngfbpegdcpkaaA3
namespace Go.Proofs.Ytbngfbpegdcpkaa
set_option linter.unusedVariables false
set_option linter.unusedSimpArgs false

inductive Cls where
  | num | bool | ptr | slice | map | func
deriving DecidableEq
inductive CK where
  | int | bool | str
deriving DecidableEq
inductive AK where
  | move | pick
  | alloc (zero : List AV)
  | box
  | build (zero : List AV) (places : List (Nat × Nat))
  | buildSlice (e : Nat) (zero : List AV) (places : List (Nat × Nat))
  | load (n : Nat) (agg : Bool)
  | store (n : Nat)
  | nilCheck
  | bin (op : BinOp) (c : Cls)
  | un (op : UnOp)
  | conv (k : IntKind)
  | mkfn (f : Fn) (nf : Nat)
  | mkslice (e : Nat) (zero : List AV) (bytes : Nat)
  | slice (e : Nat) (lo hi mx : Bool)
  | fieldAddr (off : Nat)
  | field (off n : Nat) (agg : Bool)
  | indexAddr (e : Nat)
  | indexAddrA (e len : Nat)
  | extract (i : Nat)
  | len (c : Cls)
  | min | max
  | append (e bytes : Nat)
  | eqs (op : BinOp) (ks : List CK)
  | lookup (agg : Bool) (ks : List CK) (zero : AV) (ok : Bool)
  | mapUpdate (agg : Bool) (ks : List CK)
  | delete (agg : Bool) (ks : List CK)
  | mkmap
  | strAt
  | mrange | mnext | mentry
  | call
  | bad

def AV.cells : AV → List AV
  | .agg cs => cs
  | x => [x]
def putL (cs : List AV) (off : Nat) (v : List AV) : List AV := cs.take off ++ v ++ cs.drop (off + v.length)
def fillA : List AV → List (Nat × Nat) → List AV → Option (List AV)
  | cs, [], [] => some cs
  | cs, (off, size) :: ps, x :: xs => if x.cells.length = size ∧ off + size ≤ cs.length then fillA (putL cs off x.cells) ps xs else none
  | _, _, _ => none
def wrapCells (agg : Bool) (cs : List AV) : Option AV := if agg then some (.agg cs) else match cs with
  | [x] => some x
  | _ => none
def inR (n : Int) : Bool := decide (-9223372036854775808 ≤ n) && decide (n ≤ 9223372036854775807)
def arith (k : IntKind) (n : Int) : Option AV := match k with
  | .i64 => if inR n then some (.int .i64 n) else none
  | k => some (.int k (k.wrap n))
def aLoad (n : Nat) (agg : Bool) (x : AV) (H : Heap) (_q : Lab) : Option Res := match x with
  | .ptr l e i j => match H l with
    | some (.rows e' rs) => if e = e' then ((AO.rows e' rs).cells i j n).bind fun cs => (wrapCells agg cs).bind fun y => some ⟨y, [], some [l]⟩ else none
    | _ => none
  | .iptr e rows i j => ((AO.rows e rows).cells i j n).bind fun cs => (wrapCells agg cs).bind fun y => some (.pure y)
  | _ => none
def aStore (n : Nat) (p x : AV) (H : Heap) (_q : Lab) : Option Res := match p with
  | .ptr l e i j => match H l with
    | some (.rows e' rs) => if e = e' ∧ x.cells.length = n then match rs[i]? with
      | some r => if j + n ≤ r.length ∧ x.cells.all AV.one then some ⟨.tuple [], [(l, some (.rows e' (rs.set i (putL r j x.cells))))], some [l]⟩ else none
      | none => none
      else none
    | _ => none
  | _ => none
def aNew (e : Nat) (rs : List (List AV)) (x : AV) (q : Lab) : Res := ⟨x, [(q, some (.rows e rs))], some []⟩
def chunk (e : Nat) : Nat → List AV → List (List AV)
  | 0, _ => []
  | n + 1, l => l.take e :: chunk e n (l.drop e)
def aBinI (op : BinOp) (k : IntKind) (a b : Int) : Option AV := match op with
  | .add => arith k (a + b)
  | .sub => arith k (a - b)
  | .mul => arith k (a * b)
  | .quo => if b = 0 then none else arith k (a.tdiv b)
  | .rem => if b = 0 then none else some (.int k (a.tmod b))
  | .and => some (.int k (k.wrap (BitVec.ofInt k.bits a &&& BitVec.ofInt k.bits b).toNat))
  | .or => some (.int k (k.wrap (BitVec.ofInt k.bits a ||| BitVec.ofInt k.bits b).toNat))
  | .xor => some (.int k (k.wrap (BitVec.ofInt k.bits a ^^^ BitVec.ofInt k.bits b).toNat))
  | .andNot => some (.int k (k.wrap (BitVec.ofInt k.bits a &&& ~~~ BitVec.ofInt k.bits b).toNat))
  | .eql => some (.bool (decide (a = b)))
  | .neq => some (.bool (!decide (a = b)))
  | .lss => some (.bool (decide (a < b)))
  | .leq => some (.bool (decide (a ≤ b)))
  | .gtr => some (.bool (decide (b < a)))
  | .geq => some (.bool (decide (b ≤ a)))
  | _ => none
def eqNeq (op : BinOp) (b : Bool) : Option AV := match op with
  | .eql => some (.bool b)
  | .neq => some (.bool (!b))
  | _ => none
def aBin (op : BinOp) (c : Cls) (x y : AV) : Option AV := match x, y with
  | .int k a, .int k' b => match op with
    | .shl => if 0 ≤ b then some (.int k (k.wrap (a * 2 ^ (Nat.min b.toNat k.bits)))) else none
    | .shr => if 0 ≤ b then some (.int k (a.fdiv (2 ^ (Nat.min b.toNat k.bits)))) else none
    | op => if k = k' then aBinI op k a b else none
  | .str a, .str b => eqNeq op (a.toList == b.toList)
  | .bool a, .bool b => if c = .bool then eqNeq op (a == b) else none
  | .nilp, .nilp => if c = .ptr then eqNeq op true else none
  | .ptr .., .nilp | .nilp, .ptr .. | .iptr .., .nilp | .nilp, .iptr .. => if c = .ptr then eqNeq op false else none
  | .nils, .nils => if c = .slice then eqNeq op true else none
  | .sl .., .nils | .nils, .sl .. => if c = .slice then eqNeq op false else none
  | .nilm, .nilm => if c = .map then eqNeq op true else none
  | .map _, .nilm | .nilm, .map _ => if c = .map then eqNeq op false else none
  | .nilf, .nilf => if c = .func then eqNeq op true else none
  | .fn .., .nilf | .nilf, .fn .. => if c = .func then eqNeq op false else none
  | _, _ => none
def aIndexAddr (e : Nat) (s i : AV) : Option AV := match s, i with
  | .sl l e' off len, .int _ n => if e = e' ∧ 0 ≤ n ∧ n < len then some (.ptr l e (off + n.toNat) 0) else none
  | .isl e' rows, .int _ n => if e = e' ∧ 0 ≤ n ∧ n < rows.length then some (.iptr e rows n.toNat 0) else none
  | _, _ => none
def aIndexAddrA (e len : Nat) (p i : AV) : Option AV := match p, i with
  | .ptr l e' i j, .int _ n => if 0 ≤ n ∧ n < len then some (.ptr l e' i (j + n.toNat * e)) else none
  | .iptr e' rows i j, .int _ n => if 0 ≤ n ∧ n < len then some (.iptr e' rows i (j + n.toNat * e)) else none
  | _, _ => none
def AV.len : AV → Option Nat
  | .nils | .sl0 => some 0
  | .sl _ _ _ n => some n
  | .isl _ rows => some rows.length
  | _ => none
def aLen (c : Cls) (x : AV) (H : Heap) (_q : Lab) : Option Res := match c, x with
  | .map, .map l => match H l with
    | some (.amap es _ _) => some ⟨.int .i64 es.length, [], some [l]⟩
    | _ => none
  | .map, .nilm => some (.pure (.int .i64 0))
  | .slice, x => x.len.map fun (n : Nat) => .pure (.int .i64 (n : Int))
  | .num, .str s => some (.pure (.int .i64 s.size))
  | _, _ => none
/-- s[lo:hi] -/
def aSlice (e : Nat) (s : AV) (lo hi : Int) : Option AV := match s with
  | .sl l e' off len => if e = e' ∧ 0 ≤ lo ∧ lo ≤ hi ∧ hi ≤ len then some (.sl l e (off + lo.toNat) (hi - lo).toNat) else none
  | .isl e' rows => if e = e' ∧ 0 ≤ lo ∧ lo ≤ hi ∧ hi ≤ rows.length then some (.isl e ((rows.drop lo.toNat).take (hi - lo).toNat)) else none
  | .nils => if lo = 0 ∧ hi = 0 then some .nils else none
  | .sl0 => if lo = 0 ∧ hi = 0 then some .sl0 else none
  | _ => none
def aSlice3 (s : AV) (lo hi mx : Int) : Option AV := if lo = 0 ∧ hi = 0 ∧ mx = 0 then match s with
  | .sl .. | .isl .. | .sl0 => some .sl0
  | .nils => some .nils
  | _ => none
  else none
def aSliceOp (e : Nat) (lo hi mx : Bool) (xs : List AV) : Option AV := match lo, hi, mx, xs with
  | false, false, false, [s] => s.len.bind fun (n : Nat) => aSlice e s 0 (n : Int)
  | true, false, false, [s, .int _ a] => s.len.bind fun (n : Nat) => aSlice e s a (n : Int)
  | false, true, false, [s, .int _ b] => aSlice e s 0 b
  | true, true, false, [s, .int _ a, .int _ b] => aSlice e s a b
  | true, true, true, [s, .int _ a, .int _ b, .int _ c] => aSlice3 s a b c
  | false, true, true, [s, .int _ b, .int _ c] => aSlice3 s 0 b c
  | _, _, _, _ => none
abbrev CallF := Nat → List AV → Heap → Lab → Option Res
def aCall (call : CallF) (xs : List AV) (H : Heap) (q : Lab) : Option Res := match xs with
  | .fn (.func f) first captured :: args => call f (first ++ args ++ captured) H q
  | _ => none

def ceq : CK → AV → AV → Option Bool
  | .int, .int k a, .int k' b => if k = k' then some (decide (a = b)) else none
  | .bool, .bool a, .bool b => some (a == b)
  | .str, .str a, .str b => some (a == b)
  | _, _, _ => none
def aeqs : List CK → List AV → List AV → Option Bool
  | [], _, _ => some true
  | k :: ks, x :: xs, y :: ys => (ceq k x y).bind fun b => (aeqs ks xs ys).bind fun c => some (b && c)
  | _, _, _ => none
def AV.isAgg : AV → Bool
  | .agg _ => true
  | _ => false
/-- is it of that shape? -/
def shaped (agg : Bool) (ks : List CK) (x : AV) : Bool := (x.isAgg == agg) && decide (x.cells.length = ks.length)
def akeq (agg : Bool) (ks : List CK) (x y : AV) : Option Bool := if shaped agg ks x && shaped agg ks y then aeqs ks x.cells y.cells else none
/-- the entry of a key: its place, and what it holds -/
def afind (agg : Bool) (ks : List CK) (k : AV) : List (AV × AV) → Nat → Option (Option (Nat × AV))
  | [], _ => some none
  | e :: es, i => (akeq agg ks k e.1).bind fun b => if b then some (some (i, e.2)) else afind agg ks k es (i + 1)
/-- what stands at a key, whatever the order -/
def amatch (agg : Bool) (ks : List CK) (k : AV) : List (AV × AV) → Option (List AV)
  | [] => some []
  | e :: es => (akeq agg ks k e.1).bind fun b => (amatch agg ks k es).map fun l => if b then e.2 :: l else l
def aLookup (agg : Bool) (ks : List CK) (zero : AV) (ok : Bool) (m k : AV) (H : Heap) : Option Res := if shaped agg ks k then match m with
  | .nilm => some (.pure (if ok then .tuple [zero, .bool false] else zero))
  | .map l => match H l with
    | some (.amap es _bs _ck) => (afind agg ks k es 0).bind fun r => match r with
      | some (_, v) => some ⟨if ok then .tuple [v, .bool true] else v, [], some [l]⟩
      | none => some ⟨if ok then .tuple [zero, .bool false] else zero, [], some [l]⟩
    | some (.bag es) => (amatch agg ks k es).bind fun r => match r with
      | [v] => some ⟨if ok then .tuple [v, .bool true] else v, [], some [l]⟩
      | [] => some ⟨if ok then .tuple [zero, .bool false] else zero, [], some [l]⟩
      | _ => none
    | _ => none
  | _ => none
  else none
def aMapUpdate (agg : Bool) (ks : List CK) (m k v : AV) (H : Heap) : Option Res := if shaped agg ks k then match m with
  | .map l => match H l with
    | some (.amap es bs ck) => (afind agg ks k es 0).bind fun r => match r with
      | some (i, _) => some ⟨.tuple [], [(l, some (.amap (es.set i (k, v)) bs ck))], some [l]⟩
      | none => some ⟨.tuple [], [(l, some (.amap (es ++ [(k, v)]) (bs ++ [ck]) (ck + 1)))], some [l]⟩
    | _ => none
  | _ => none
  else none
def aDelete (agg : Bool) (ks : List CK) (m k : AV) (H : Heap) : Option Res := if shaped agg ks k then match m with
  | .nilm => some (.pure (.tuple []))
  | .map l => match H l with
    | some (.amap es bs ck) => (afind agg ks k es 0).bind fun r => match r with
      | some (i, _) => some ⟨.tuple [], [(l, some (.amap (es.eraseIdx i) (bs.eraseIdx i) ck))], some [l]⟩
      | none => some ⟨.tuple [], [], some [l]⟩
    | _ => none
  | _ => none
  else none
def aRange (m : AV) (H : Heap) (q : Lab) : Option Res := match m with
  | .nilm => some ⟨.ptr q 1 0 0, [(q, some (.iter none 0 [] 0))], some []⟩
  | .map l => match H l with
    | some (.amap _ _ ck) => some ⟨.ptr q 1 0 0, [(q, some (.iter (some l) ck [] ck))], some [l]⟩
    | _ => none
  | _ => none
def aEntry (x : AV) (H : Heap) : Option Res := match x with
  | .ptr r 1 0 0 => match H r with
    | some (.iter (some l) _ seen st) => match H l with
      | some (.amap es bs ck) => if ck = st then (seen.getLast?).bind fun b => (bs.idxOf? b).bind fun i => (es[i]?).map fun e => ⟨.tuple [e.1, e.2], [], some [r, l]⟩ else none
      | _ => none
    | _ => none
  | _ => none
def aLeft (es : List (AV × AV)) (bs seen : List Nat) : List ((AV × AV) × Nat) := (es.zip bs).filter fun p => !seen.contains p.2
def aNext (x : AV) (H : Heap) : Option Res := match x with
  | .ptr r 1 0 0 => match H r with
    | some (.iter none _ _ _) => some ⟨.tuple [.bool false], [], some [r]⟩
    | some (.iter (some l) since seen st) => match H l with
      | some (.amap es bs ck) => if bs.all (fun b => decide (b < since)) = true ∧ since ≤ st then match aLeft es bs seen with
          | [] => some ⟨.tuple [.bool false], [], some [r, l]⟩
          | [(e, b)] => some ⟨.tuple [.bool true, e.1, e.2], [(r, some (.iter (some l) since (seen ++ [b]) ck))], some [r, l]⟩
          | _ => none
        else none
      | _ => none
    | _ => none
  | _ => none
def AV.nonNil : AV → Bool
  | .ptr .. | .iptr .. | .fn (.func _) _ _ => true
  | _ => false
def aFieldAddr (off : Nat) : AV → Option AV
  | .ptr l e i j => some (.ptr l e i (j + off))
  | .iptr e rows i j => some (.iptr e rows i (j + off))
  | _ => none
/-- what stands in a slice -/
def aRows (e : Nat) (x : AV) (H : Heap) : Option (List (List AV) × List Lab) := match x with
  | .nils | .sl0 => some ([], [])
  | .isl e' rows => if e = e' then some (rows, []) else none
  | .sl l e' off len => if len = 0 then some ([], []) else match H l with
    | some (.rows e2 rs) => if e = e' ∧ e' = e2 ∧ off + len ≤ rs.length then some ((rs.drop off).take len, [l]) else none
    | _ => none
  | _ => none
def aAppend (e bytes : Nat) (s x : AV) (H : Heap) (q : Lab) : Option Res := (aRows e x H).bind fun src =>
  if src.1.isEmpty then (match s with
    | .nils | .sl0 | .sl .. | .isl .. => some (.pure s)
    | _ => none)
  else match s with
    | .nils | .sl0 => if 0 < e ∧ src.1.length * bytes ≤ 140737488355328 ∧ src.1.length ≤ 4611686018427387904 then some ⟨.sl q e 0 src.1.length, [(q, some (.rows e src.1))], some src.2⟩ else none
    | .sl l e' off n => match H l with
      | some (.rows e2 rs) => if e = e' ∧ e' = e2 ∧ off + n ≤ rs.length ∧ 0 < e ∧ (n + src.1.length) * bytes ≤ 140737488355328 ∧ n + src.1.length ≤ 4611686018427387904 then
          some ⟨.sl q e 0 (n + src.1.length), [(q, some (.rows e ((rs.drop off).take n ++ src.1))), (l, none)], some (l :: src.2)⟩ else none
      | _ => none
    | _ => none
def aop (call : CallF) (k : AK) (xs : List AV) (H : Heap) (q : Lab) : Option Res := match k, xs with
  | .move, [x] => some (.pure x)
  | .pick, [.bool c, a, b] => some (.pure (if c then a else b))
  | .alloc z, [] => some (aNew z.length [z] (.ptr q z.length 0 0) q)
  | .box, [x] => if x.cells.all AV.one = true then some (aNew x.cells.length [x.cells] (.ptr q x.cells.length 0 0) q) else none
  | .build z ps, xs => (fillA z ps xs).map fun cs => .pure (.agg cs)
  | .buildSlice e z ps, xs => (fillA z ps xs).bind fun cs => if e = 0 ∨ cs.length % e ≠ 0 ∨ cs.all AV.one = false then none else some (aNew e (chunk e (cs.length / e) cs) (.sl q e 0 (cs.length / e)) q)
  | .load n agg, [x] => aLoad n agg x H q
  | .store n, [p, x] => aStore n p x H q
  | .nilCheck, [x] => if x.nonNil then some (.pure x) else none
  | .bin op c, [x, y] => (aBin op c x y).map fun z => .pure z
  | .un .not, [.bool b] => some (.pure (.bool (!b)))
  | .un .neg, [.int k n] => (arith k (0 - n)).map fun z => .pure z
  | .conv k, [.int _ n] => (arith k n).map fun z => .pure z
  | .mkfn f nf, xs => if nf ≤ xs.length then some (.pure (.fn f (xs.take nf) (xs.drop nf))) else none
  | .mkslice e z bytes, [.int _ n, .int _ c] => if 0 < e ∧ 0 ≤ n ∧ n ≤ c ∧ c * bytes ≤ 281474976710656 ∧ c ≤ 9223372036854775807 then some (aNew e (List.replicate c.toNat z) (.sl q e 0 n.toNat) q) else none
  | .slice e lo hi mx, xs => (aSliceOp e lo hi mx xs).map fun z => .pure z
  | .fieldAddr off, [x] => (aFieldAddr off x).map fun z => .pure z
  | .field off n agg, [.agg cs] => if off + n ≤ cs.length then (wrapCells agg ((cs.drop off).take n)).map fun z => .pure z else none
  | .indexAddr e, [s, i] => (aIndexAddr e s i).map fun z => .pure z
  | .indexAddrA e len, [p, i] => (aIndexAddrA e len p i).map fun z => .pure z
  | .extract i, [.tuple vs] => (vs[i]?).map fun z => .pure z
  | .len c, [x] => aLen c x H q
  | .min, [.int k a, .int k' b] => if k = k' then some (.pure (.int k (Min.min a b))) else none
  | .max, [.int k a, .int k' b] => if k = k' then some (.pure (.int k (Max.max a b))) else none
  | .eqs op ks, [x, y] => (akeq true ks x y).bind fun b => (eqNeq op b).map fun z => .pure z
  | .lookup agg ks zero ok, [m, k] => aLookup agg ks zero ok m k H
  | .mapUpdate agg ks, [m, k, x] => aMapUpdate agg ks m k x H
  | .delete agg ks, [m, k] => aDelete agg ks m k H
  | .mrange, [m] => aRange m H q
  | .mnext, [x] => aNext x H
  | .mentry, [x] => aEntry x H
  | .strAt, [.str s, .int _ n] => if 0 ≤ n then (s[n.toNat]?).map fun b => .pure (.int .u8 b.toNat) else none
  | .mkmap, [] => some ⟨.map q, [(q, some (.amap [] [] 0))], some []⟩
  | .mkmap, [.int _ _] => some ⟨.map q, [(q, some (.amap [] [] 0))], some []⟩
  | .append e bytes, [s, x] => aAppend e bytes s x H q
  | .call, xs => aCall call xs H q
  | _, _ => none
end Go.Proofs.Ytbngfbpegdcpkaa
