/- The abstract machine: regions, and what a program's text is in its terms. -/
import Derived.Test.YtbngfbpegdcpkaaA9
namespace Go.Proofs.Ytbngfbpegdcpkaa
set_option linter.unusedVariables false
set_option linter.unusedSimpArgs false

inductive AArg where
  | t (n : Nat)
  | c (v : AV)
structure AIns where
  dst : Option Nat
  guard : Option (Nat × Bool)
  k : AK
  xs : List AArg
abbrev RL := List (Nat × AV)
def rget : RL → Nat → Option AV
  | [], _ => none
  | (k, x) :: r, t => if t = k then some x else rget r t
def rset : RL → Nat → AV → RL
  | [], t, x => [(t, x)]
  | (k, y) :: r, t, x => if t = k then (k, x) :: r else (k, y) :: rset r t x
theorem rget_rset (r : RL) (t : Nat) (x : AV) : rget (rset r t x) = fun k => if k = t then some x else rget r k := by
  funext k
  induction r with
  | nil => simp [rset, rget]
  | cons p r ih =>
    obtain ⟨j, y⟩ := p
    simp only [rset]
    by_cases h : t = j
    · subst h; simp only [if_true, rget]; split <;> rfl
    · simp only [h, if_false, rget, ih]
      by_cases h2 : k = j
      · subst h2; simp [Ne.symm h]
      · simp [h2]
def oset : Chg → Lab → Option AO → Chg
  | [], l, o => [(l, o)]
  | (k, y) :: r, l, o => if l = k then (k, o) :: r else (k, y) :: oset r l o
theorem upd_oset (u : Chg) (l : Lab) (o : Option AO) (H : Heap) : upd (oset u l o) H = fun k => if k = l then o else upd u H k := by
  funext k
  induction u with
  | nil => simp [oset, upd]
  | cons p r ih =>
    obtain ⟨j, y⟩ := p
    simp only [oset]
    by_cases h : l = j
    · subst h; simp only [if_true, upd]; split <;> rfl
    · simp only [h, if_false, upd, ih]
      by_cases h2 : k = j
      · subst h2; simp [Ne.symm h]
      · simp [h2]
/-- changes on top of changes -/
def omerge : Chg → Chg → Chg
  | [], ov => ov
  | (l, o) :: u, ov => oset (omerge u ov) l o
theorem upd_omerge (u ov : Chg) (H : Heap) : upd (omerge u ov) H = upd u (upd ov H) := by
  induction u with
  | nil => rfl
  | cons p u ih =>
    obtain ⟨l, o⟩ := p
    simp only [omerge, upd_oset, upd, ih]
def evArg (r : RL) : AArg → Option AV
  | .t n => rget r n
  | .c v => some v
def evArgs (r : RL) : List AArg → Option (List AV)
  | [] => some []
  | x :: xs => (evArg r x).bind fun v => (evArgs r xs).bind fun vs => some (v :: vs)

/-- the machine's state: registers, what has changed in the heap, how many operations have been -/
structure ASt where
  regs : RL
  ov : Chg
  c : Nat
section
variable (call : CallF) (H0 : Heap) (p : Lab)
def runIns (i : AIns) (s : ASt) : Option Rc := (evArgs s.regs i.xs).bind fun xs => (aop call i.k xs (upd s.ov H0) (s.c :: p)).bind fun r => some ⟨false, r.x, r.u, s.c :: p, r.foot⟩
def evalIns (i : AIns) (s : ASt) : Option Rc := match i.guard with
  | none => runIns call H0 p i s
  | some (g, want) => match rget s.regs g with
    | some (.bool b) => if b = want then runIns call H0 p i s else some ⟨true, .tuple [], [], s.c :: p, some []⟩
    | some (.tuple []) => some ⟨true, .tuple [], [], s.c :: p, some []⟩
    | _ => none
def putReg (r : RL) (d : Option Nat) (x : AV) : RL := match d with
  | none => r
  | some t => rset r t x
def applyRc (i : AIns) (s : ASt) (rc : Rc) : ASt := ⟨putReg s.regs i.dst rc.x, omerge rc.u s.ov, s.c + 1⟩
def runSeq : List AIns → ASt → Option ASt
  | [], s => some s
  | i :: is, s => (evalIns call H0 p i s).bind fun rc => runSeq is (applyRc i s rc)
/-- what the check of a drawn region looks at -/
structure Tr where
  labs : List Lab
  q : Lab
  foot : Option (List Lab)
def trOf (rc : Rc) : Tr := ⟨rc.u.map (·.1), rc.q, rc.foot⟩
def runTr : List AIns → ASt → Option (ASt × List Tr)
  | [], s => some (s, [])
  | i :: is, s => (evalIns call H0 p i s).bind fun rc => (runTr is (applyRc i s rc)).bind fun r => some (r.1, trOf rc :: r.2)
end
def isUnder (q : Lab) (l : Lab) : Bool := q.isSuffixOf l
def ordered (masks : List Nat) (i j : Nat) : Bool := (masks.getD j 0).testBit i || (masks.getD i 0).testBit j
def clash (i j : Nat) (a b : Tr) : Bool := match b.foot with
  | some ls => a.labs.any (fun l => ls.contains l)
  | none => if i < j then !a.labs.isEmpty else a.labs.any (fun l => !isUnder a.q l)
def clashRow (masks : List Nat) (i : Nat) (a : Tr) : List Tr → Nat → Bool
  | [], _ => false
  | b :: trs, j => (i != j && !ordered masks i j && clash i j a b) || clashRow masks i a trs (j + 1)
def clashAll (masks : List Nat) (all : List Tr) : List Tr → Nat → Bool
  | [], _ => false
  | a :: trs, i => (!a.labs.isEmpty && clashRow masks i a all 0) || clashAll masks all trs (i + 1)
def restrict (r : RL) (keep : List Nat) : RL := keep.filterMap fun t => (rget r t).map fun x => (t, x)
inductive ACode where
  | skip
  | region (ops : List AIns) (draw : Option (List Nat)) (keep : List Nat)
  | seq (a b : ACode)
  | cond (c : AArg) (t e : ACode)
  | block (id : Nat) (b : ACode)
  | loop (keep : List Nat) (b : ACode)
  | exit (id : Nat)
  | ret
  | label (l : Nat)
  | goto (l : Nat)
  | scope (l : Nat) (b r : ACode)
  | bad
def runRegion (call : CallF) (H0 : Heap) (p : Lab) (ops : List AIns) (draw : Option (List Nat)) (keep : List Nat) (s : ASt) : Option ASt := match draw with
  | none => (runSeq call H0 p ops s).bind fun s' => some { s' with regs := restrict s'.regs keep }
  | some masks => (runTr call H0 p ops s).bind fun r => if clashAll masks r.2 r.2 0 then none else some { r.1 with regs := restrict r.1.regs keep }

/-! The program's text. -/
def argOf : Operand → Option AArg
  | .tmp t => some (.t t)
  | .const v => (ofC v).map .c
  | .func f => some (.c (.fn (.func f) [] []))
  | .global _ => none
def argsOf : List Operand → Option (List AArg)
  | [] => some []
  | x :: xs => (argOf x).bind fun y => (argsOf xs).bind fun ys => some (y :: ys)
def guardOf (ops : Array Oper) (o : Oper) : Option (Option (Nat × Bool)) := match o.guard with
  | none => some none
  | some (g, want) => ((ops[g]?).bind (·.dst)).bind fun t => some (some (t, want))
def dstOk (n : Nat) : Option Nat → Bool
  | none => true
  | some d => decide (d < n)
def compIns (P : Program) (n : Nat) (ops : Array Oper) (o : Oper) : Option AIns := (compK P o).bind fun k => (argsOf k.2).bind fun xs => (guardOf ops o).bind fun g =>
  if dstOk n o.dst = true then some ⟨o.dst, g, k.1, xs⟩ else none
def compOps (P : Program) (n : Nat) (ops : Array Oper) : List Oper → Option (List AIns)
  | [] => some []
  | o :: os => (compIns P n ops o).bind fun i => (compOps P n ops os).bind fun is => some (i :: is)
def maskOf (ms : List Nat) (o : Oper) : Nat := o.after.toList.foldl (fun m e => if Region.binds .any e then m ||| 2 ^ e.on ||| ms.getD e.on 0 else m) 0
def masksOf : List Oper → List Nat → List Nat
  | [], ms => ms
  | o :: os, ms => masksOf os (ms ++ [maskOf ms o])
def backOk : List Oper → Nat → Bool
  | [], _ => true
  | o :: os, j => o.after.all (fun e => !Region.binds .any e || decide (e.on < j)) && backOk os (j + 1)
def apartRow (ops : Array Oper) (masks : List Nat) (i : Nat) (a : Oper) : List Oper → Nat → Bool
  | [], _ => true
  | b :: os, j => (i == j || ordered masks i j || a.apart ops b) && apartRow ops masks i a os (j + 1)
def apartAll (ops : Array Oper) (masks : List Nat) : List Oper → Nat → Bool
  | [], _ => true
  | a :: os, i => apartRow ops masks i a ops.toList 0 && apartAll ops masks os (i + 1)
end Go.Proofs.Ytbngfbpegdcpkaa
