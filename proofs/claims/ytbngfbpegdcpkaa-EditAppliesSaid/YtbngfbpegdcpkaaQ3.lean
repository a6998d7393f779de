/- Texts of the proof, joined. -/
import Derived.Test.YtbngfbpegdcpkaaQ2
import Derived.Test.YtbngfbpegdcpkaaProg
import Derived.KernelRfl
import GoSem.ClaimChange
import Derived.Carry
import Derived.Test.YtbngfbpegdcpkaaRows
import Derived.ProofKit
import Derived.OpenShut
import Derived.ChangeSame
import Derived.Shelf.RegionOpenPlain
import Derived.WalkKit
import Derived.Lib.Walk
import Derived.Lib.SliceRun
import Derived.Lib.JoinLaws
import Derived.Lib.Overlaps
import Derived.Lib.AppendZerosOnto
import Derived.Laws.Externs
import Derived.Laws.IdiomCopy
import Derived.Shelf.Spec.SlicesInsert
/-! What is owed of functions of the program, as formulas. -/
namespace Go.Proofs.Ytbngfbpegdcpkaa
set_option maxRecDepth 100000
set_option linter.unusedVariables false
set_option linter.unusedSimpArgs false
/-- duet/edit.ways$1 -/
def c41 : AFun := ⟨1, 6, [.cell 2 2 true],
  (.seq (.region [⟨(some 2), none, (.alloc [(.int .i64 0), (.int .i64 0)]), []⟩] none [0, 2])
  (.seq (.region [⟨(some 3), none, .move, [.t 0]⟩, ⟨(some 4), none, (.conv .i64), [.t 3]⟩, ⟨(some 5), none, (.build [(.int .i64 0), (.int .i64 0)] [(0, 1), (1, 1)]), [.c (.int .i64 2), .t 4]⟩, ⟨none, none, (.store 2), [.t 2, .t 5]⟩] none [2])
  .ret))⟩
theorem ok41 : FunOk Try.prog 41 c41 := ⟨⟨Try.f41, _, Try.func41, rfl, by kernel_rfl, by kernel_rfl, by kernel_rfl, by kernel_rfl⟩, by decide⟩
theorem res41 : c41.res = [.cell 2 2 true] := rfl
def k41_0 (P : Program) (p : Lab) (Q : VPost) (c : Nat) (v4_2 : AV) (H2 : Heap) (l2 : List Lab) (f2 : Option (List Lab)) : Prop :=
  vBuild [(.int .i64 0), (.int .i64 0)] [(0, 1), (1, 1)] [(.int .i64 2), v4_2] fun v5_3 =>
  vGen (.store 2) [(.ptr (c :: p) 2 0 0), v5_3] H2 ((c + 4) :: p) (fun v_4 H4 l4 f4 =>
  Q .ret [(2, (.ptr (c :: p) 2 0 0))] H4 (c + 5))
def V41 (P : Program) (p : Lab) (Q : VPost) (x0 : AV) (H : Heap) (c : Nat) : Prop :=
  (fun (H0 : Heap) =>
  vGen (.conv .i64) [x0] H0 ((c + 2) :: p) (k41_0 P p Q c)) (upd [((c :: p), some (.rows 2 [[(.int .i64 0), (.int .i64 0)]]))] H)
theorem vt41 (P : Program) (p : Lab) (Q : VPost) (x0 : AV) (H : Heap) (c : Nat) : vc P p c41.body Q [(0, x0)] H c = V41 P p Q x0 H c := by kernel_rfl


/-- duet/edit.ways$2 -/
def c42 : AFun := ⟨1, 6, [.cell 2 2 true],
  (.seq (.region [⟨(some 2), none, (.alloc [(.int .i64 0), (.int .i64 0)]), []⟩] none [0, 2])
  (.seq (.region [⟨(some 3), none, .move, [.t 0]⟩, ⟨(some 4), none, (.conv .i64), [.t 3]⟩, ⟨(some 5), none, (.build [(.int .i64 0), (.int .i64 0)] [(0, 1), (1, 1)]), [.c (.int .i64 3), .t 4]⟩, ⟨none, none, (.store 2), [.t 2, .t 5]⟩] none [2])
  .ret))⟩
theorem ok42 : FunOk Try.prog 42 c42 := ⟨⟨Try.f42, _, Try.func42, rfl, by kernel_rfl, by kernel_rfl, by kernel_rfl, by kernel_rfl⟩, by decide⟩
theorem res42 : c42.res = [.cell 2 2 true] := rfl
def k42_0 (P : Program) (p : Lab) (Q : VPost) (c : Nat) (v4_2 : AV) (H2 : Heap) (l2 : List Lab) (f2 : Option (List Lab)) : Prop :=
  vBuild [(.int .i64 0), (.int .i64 0)] [(0, 1), (1, 1)] [(.int .i64 3), v4_2] fun v5_3 =>
  vGen (.store 2) [(.ptr (c :: p) 2 0 0), v5_3] H2 ((c + 4) :: p) (fun v_4 H4 l4 f4 =>
  Q .ret [(2, (.ptr (c :: p) 2 0 0))] H4 (c + 5))
def V42 (P : Program) (p : Lab) (Q : VPost) (x0 : AV) (H : Heap) (c : Nat) : Prop :=
  (fun (H0 : Heap) =>
  vGen (.conv .i64) [x0] H0 ((c + 2) :: p) (k42_0 P p Q c)) (upd [((c :: p), some (.rows 2 [[(.int .i64 0), (.int .i64 0)]]))] H)
theorem vt42 (P : Program) (p : Lab) (Q : VPost) (x0 : AV) (H : Heap) (c : Nat) : vc P p c42.body Q [(0, x0)] H c = V42 P p Q x0 H c := by kernel_rfl


/-- duet/edit.held -/
def c26 : AFun := ⟨2, 10, [.tmp 4],
  (.seq (.region [⟨(some 4), none, .move, [.c (.int .i64 0)]⟩] none [0, 1])
  (.seq (.region [⟨(some 5), none, .move, [.t 1]⟩, ⟨(some 6), none, .max, [.t 5, .c (.int .i64 0)]⟩, ⟨(some 7), none, .move, [.t 0]⟩, ⟨(some 8), none, (.len .slice), [.t 7]⟩, ⟨(some 9), none, .min, [.t 6, .t 8]⟩, ⟨(some 4), none, .move, [.t 9]⟩] none [4])
  .ret))⟩
theorem ok26 : FunOk Try.prog 26 c26 := ⟨⟨Try.f26, _, Try.func26, rfl, by kernel_rfl, by kernel_rfl, by kernel_rfl, by kernel_rfl⟩, by decide⟩
theorem res26 : c26.res = [.tmp 4] := rfl
def V26 (P : Program) (p : Lab) (Q : VPost) (x0 x1 : AV) (H : Heap) (c : Nat) : Prop :=
  vMax x1 (.int .i64 0) fun v6_2 =>
  vLen x0 fun v8_4 =>
  vMin v6_2 v8_4 fun v9_5 =>
  Q .ret [(4, v9_5)] H (c + 7)
theorem vt26 (P : Program) (p : Lab) (Q : VPost) (x0 x1 : AV) (H : Heap) (c : Nat) : vc P p c26.body Q [(0, x0), (1, x1)] H c = V26 P p Q x0 x1 H c := by kernel_rfl


/-- duet/edit.isLetter -/
def c38 : AFun := ⟨1, 27, [.tmp 2],
  (.seq (.region [⟨(some 2), none, .move, [.c (.bool false)]⟩] none [0])
  (.seq (.region [⟨(some 3), none, .move, [.t 0]⟩, ⟨(some 4), none, (.bin .geq .num), [.t 3, .c (.int .i64 48)]⟩, ⟨(some 5), none, .move, [.t 4]⟩, ⟨(some 6), (some (5, true)), .move, [.t 0]⟩, ⟨(some 7), (some (5, true)), (.bin .leq .num), [.t 6, .c (.int .i64 57)]⟩, ⟨(some 8), none, .pick, [.t 5, .t 7, .c (.bool false)]⟩, ⟨(some 9), none, .move, [.t 8]⟩, ⟨(some 10), (some (9, false)), .move, [.t 0]⟩, ⟨(some 11), (some (9, false)), (.bin .or .num), [.t 10, .c (.int .i64 32)]⟩, ⟨(some 12), (some (9, false)), (.bin .geq .num), [.t 11, .c (.int .i64 97)]⟩, ⟨(some 13), (some (9, false)), .move, [.t 12]⟩, ⟨(some 14), (some (13, true)), .move, [.t 0]⟩, ⟨(some 15), (some (13, true)), (.bin .or .num), [.t 14, .c (.int .i64 32)]⟩, ⟨(some 16), (some (13, true)), (.bin .leq .num), [.t 15, .c (.int .i64 122)]⟩, ⟨(some 17), (some (9, false)), .pick, [.t 13, .t 16, .c (.bool false)]⟩, ⟨(some 18), none, .pick, [.t 9, .c (.bool true), .t 17]⟩, ⟨(some 19), none, .move, [.t 18]⟩, ⟨(some 20), (some (19, false)), .move, [.t 0]⟩, ⟨(some 21), (some (19, false)), (.bin .eql .num), [.t 20, .c (.int .i64 95)]⟩, ⟨(some 22), none, .pick, [.t 19, .c (.bool true), .t 21]⟩, ⟨(some 23), none, .move, [.t 22]⟩, ⟨(some 24), (some (23, false)), .move, [.t 0]⟩, ⟨(some 25), (some (23, false)), (.bin .gtr .num), [.t 24, .c (.int .i64 127)]⟩, ⟨(some 26), none, .pick, [.t 23, .c (.bool true), .t 25]⟩, ⟨(some 2), none, .move, [.t 26]⟩] none [2])
  .ret))⟩
theorem ok38 : FunOk Try.prog 38 c38 := ⟨⟨Try.f38, _, Try.func38, rfl, by kernel_rfl, by kernel_rfl, by kernel_rfl, by kernel_rfl⟩, by decide⟩
theorem res38 : c38.res = [.tmp 2] := rfl
def k38_3 (P : Program) (p : Lab) (Q : VPost)  (H : Heap) (c : Nat) : Prop :=
  Q .ret [(2, (.bool true))] H c
def k38_2 (P : Program) (p : Lab) (Q : VPost) (y0 : AV) (H : Heap) (c : Nat) : Prop :=
  (k38_3 P p Q  H (c + 6))
def k38_1 (P : Program) (p : Lab) (Q : VPost) (y0 : AV) (H : Heap) (c : Nat) : Prop :=
  (k38_2 P p Q y0 H (c + 4))
def k38_4 (P : Program) (p : Lab) (Q : VPost) (y0 : AV) (H : Heap) (c : Nat) (_ : Unit) : Prop :=
  (k38_1 P p Q y0 H (c + 10))
def k38_6 (P : Program) (p : Lab) (Q : VPost) (y0 : AV) (H : Heap) (c : Nat) : Prop :=
  (k38_3 P p Q  H (c + 6))
def k38_7 (P : Program) (p : Lab) (Q : VPost) (y0 : AV) (H : Heap) (c : Nat) (_ : Unit) : Prop :=
  (k38_6 P p Q y0 H (c + 4))
def k38_9 (P : Program) (p : Lab) (Q : VPost) (H : Heap) (c : Nat) (_ : Unit) : Prop :=
  (k38_3 P p Q  H (c + 6))
def k38_10 (P : Program) (p : Lab) (Q : VPost) (y2 : AV) (H : Heap) (c : Nat) : Prop :=
  Q .ret [(2, y2)] H c
def k38_11 (P : Program) (p : Lab) (Q : VPost) (y0 : AV) (H : Heap) (c : Nat) (_ : Unit) : Prop :=
  vBin .gtr .num y0 (.int .i64 127) fun v25_35 =>
  (k38_10 P p Q v25_35 H (c + 6))
def k38_8 (P : Program) (p : Lab) (Q : VPost) (y0 : AV) (y21 : AV) (H : Heap) (c : Nat) : Prop :=
  vSel y21
  (k38_9 P p Q H c)
  (k38_11 P p Q y0 H c)
def k38_12 (P : Program) (p : Lab) (Q : VPost) (y0 : AV) (H : Heap) (c : Nat) (_ : Unit) : Prop :=
  vBin .eql .num y0 (.int .i64 95) fun v21_29 =>
  (k38_8 P p Q y0 v21_29 H (c + 4))
def k38_5 (P : Program) (p : Lab) (Q : VPost) (y0 : AV) (y17 : AV) (H : Heap) (c : Nat) : Prop :=
  vSel y17
  (k38_7 P p Q y0 H c)
  (k38_12 P p Q y0 H c)
def k38_13 (P : Program) (p : Lab) (Q : VPost) (y0 : AV) (H : Heap) (c : Nat) (_ : Unit) : Prop :=
  vBin .or .num y0 (.int .i64 32) fun v15_19 =>
  vBin .leq .num v15_19 (.int .i64 122) fun v16_20 =>
  (k38_5 P p Q y0 v16_20 H (c + 10))
def k38_16 (P : Program) (p : Lab) (Q : VPost) (H : Heap) (c : Nat) (_ : Unit) : Prop :=
  (k38_3 P p Q  H (c + 6))
def k38_17 (P : Program) (p : Lab) (Q : VPost) (y0 : AV) (H : Heap) (c : Nat) (_ : Unit) : Prop :=
  vBin .gtr .num y0 (.int .i64 127) fun v25_48 =>
  (k38_10 P p Q v25_48 H (c + 6))
def k38_15 (P : Program) (p : Lab) (Q : VPost) (y0 : AV) (y21 : AV) (H : Heap) (c : Nat) : Prop :=
  vSel y21
  (k38_16 P p Q H c)
  (k38_17 P p Q y0 H c)
def k38_14 (P : Program) (p : Lab) (Q : VPost) (y0 : AV) (H : Heap) (c : Nat) : Prop :=
  vBin .eql .num y0 (.int .i64 95) fun v21_42 =>
  (k38_15 P p Q y0 v21_42 H (c + 4))
def k38_18 (P : Program) (p : Lab) (Q : VPost) (y0 : AV) (H : Heap) (c : Nat) (_ : Unit) : Prop :=
  (k38_14 P p Q y0 H (c + 10))
def k38_19 (P : Program) (p : Lab) (Q : VPost) (y0 : AV) (H : Heap) (c : Nat) (_ : Unit) : Prop :=
  vBin .or .num y0 (.int .i64 32) fun v11_15 =>
  vBin .geq .num v11_15 (.int .i64 97) fun v12_16 =>
  vSel v12_16
  (k38_13 P p Q y0 H c)
  (k38_18 P p Q y0 H c)
def k38_0 (P : Program) (p : Lab) (Q : VPost) (y0 : AV) (y7 : AV) (H : Heap) (c : Nat) : Prop :=
  vSel y7
  (k38_4 P p Q y0 H c)
  (k38_19 P p Q y0 H c)
def k38_20 (P : Program) (p : Lab) (Q : VPost) (x0 : AV) (H : Heap) (c : Nat) (_ : Unit) : Prop :=
  vBin .leq .num x0 (.int .i64 57) fun v7_5 =>
  (k38_0 P p Q x0 v7_5 H (c + 6))
def k38_23 (P : Program) (p : Lab) (Q : VPost) (y0 : AV) (H : Heap) (c : Nat) : Prop :=
  (k38_3 P p Q  H (c + 6))
def k38_24 (P : Program) (p : Lab) (Q : VPost) (y0 : AV) (H : Heap) (c : Nat) (_ : Unit) : Prop :=
  (k38_23 P p Q y0 H (c + 4))
def k38_26 (P : Program) (p : Lab) (Q : VPost) (H : Heap) (c : Nat) (_ : Unit) : Prop :=
  (k38_3 P p Q  H (c + 6))
def k38_27 (P : Program) (p : Lab) (Q : VPost) (y0 : AV) (H : Heap) (c : Nat) (_ : Unit) : Prop :=
  vBin .gtr .num y0 (.int .i64 127) fun v25_74 =>
  (k38_10 P p Q v25_74 H (c + 6))
def k38_25 (P : Program) (p : Lab) (Q : VPost) (y0 : AV) (y21 : AV) (H : Heap) (c : Nat) : Prop :=
  vSel y21
  (k38_26 P p Q H c)
  (k38_27 P p Q y0 H c)
def k38_28 (P : Program) (p : Lab) (Q : VPost) (y0 : AV) (H : Heap) (c : Nat) (_ : Unit) : Prop :=
  vBin .eql .num y0 (.int .i64 95) fun v21_68 =>
  (k38_25 P p Q y0 v21_68 H (c + 4))
def k38_22 (P : Program) (p : Lab) (Q : VPost) (y0 : AV) (y17 : AV) (H : Heap) (c : Nat) : Prop :=
  vSel y17
  (k38_24 P p Q y0 H c)
  (k38_28 P p Q y0 H c)
def k38_29 (P : Program) (p : Lab) (Q : VPost) (y0 : AV) (H : Heap) (c : Nat) (_ : Unit) : Prop :=
  vBin .or .num y0 (.int .i64 32) fun v15_58 =>
  vBin .leq .num v15_58 (.int .i64 122) fun v16_59 =>
  (k38_22 P p Q y0 v16_59 H (c + 10))
def k38_32 (P : Program) (p : Lab) (Q : VPost) (H : Heap) (c : Nat) (_ : Unit) : Prop :=
  (k38_3 P p Q  H (c + 6))
def k38_33 (P : Program) (p : Lab) (Q : VPost) (y0 : AV) (H : Heap) (c : Nat) (_ : Unit) : Prop :=
  vBin .gtr .num y0 (.int .i64 127) fun v25_87 =>
  (k38_10 P p Q v25_87 H (c + 6))
def k38_31 (P : Program) (p : Lab) (Q : VPost) (y0 : AV) (y21 : AV) (H : Heap) (c : Nat) : Prop :=
  vSel y21
  (k38_32 P p Q H c)
  (k38_33 P p Q y0 H c)
def k38_30 (P : Program) (p : Lab) (Q : VPost) (y0 : AV) (H : Heap) (c : Nat) : Prop :=
  vBin .eql .num y0 (.int .i64 95) fun v21_81 =>
  (k38_31 P p Q y0 v21_81 H (c + 4))
def k38_34 (P : Program) (p : Lab) (Q : VPost) (y0 : AV) (H : Heap) (c : Nat) (_ : Unit) : Prop :=
  (k38_30 P p Q y0 H (c + 10))
def k38_21 (P : Program) (p : Lab) (Q : VPost) (y0 : AV) (H : Heap) (c : Nat) : Prop :=
  vBin .or .num y0 (.int .i64 32) fun v11_54 =>
  vBin .geq .num v11_54 (.int .i64 97) fun v12_55 =>
  vSel v12_55
  (k38_29 P p Q y0 H c)
  (k38_34 P p Q y0 H c)
def k38_35 (P : Program) (p : Lab) (Q : VPost) (x0 : AV) (H : Heap) (c : Nat) (_ : Unit) : Prop :=
  (k38_21 P p Q x0 H (c + 6))
def V38 (P : Program) (p : Lab) (Q : VPost) (x0 : AV) (H : Heap) (c : Nat) : Prop :=
  vBin .geq .num x0 (.int .i64 48) fun v4_2 =>
  vSel v4_2
  (k38_20 P p Q x0 H c)
  (k38_35 P p Q x0 H c)
theorem vt38 (P : Program) (p : Lab) (Q : VPost) (x0 : AV) (H : Heap) (c : Nat) : vc P p c38.body Q [(0, x0)] H c = V38 P p Q x0 H c := by kernel_rfl


/-- duet/edit.Word$1 -/
def c37 : AFun := ⟨2, 8, [.tmp 3],
  (.seq (.region [⟨(some 3), none, .move, [.c (.bool false)]⟩] none [0, 1])
  (.seq (.region [⟨(some 4), none, .move, [.t 0]⟩, ⟨(some 5), none, .call, [.c (.fn (.func 38) [] []), .t 4]⟩, ⟨(some 6), none, (.load 1 false), [.t 1]⟩, ⟨(some 7), none, (.bin .neq .bool), [.t 5, .t 6]⟩, ⟨(some 3), none, .move, [.t 7]⟩] (some [0, 1, 0, 7, 15]) [3])
  .ret))⟩
theorem ok37 : FunOk Try.prog 37 c37 := ⟨⟨Try.f37, _, Try.func37, rfl, by kernel_rfl, by kernel_rfl, by kernel_rfl, by kernel_rfl⟩, by decide⟩
theorem res37 : c37.res = [.tmp 3] := rfl
def k37_0 (P : Program) (p : Lab) (Q : VPost) (x1 : AV) (c : Nat) (v5_2 : AV) (H2 : Heap) (l2 : List Lab) (f2 : Option (List Lab)) : Prop :=
  vLoad 1 false x1 H2 fun v6_3 f3 =>
  vBin .neq .bool v5_2 v6_3 fun v7_4 =>
  clashFree [0, 1, 0, 7, 15] (addTr 1 l2 ((c + 2) :: p) f2 (addTr 2 [] ((c + 3) :: p) f3 [])) ∧
  Q .ret [(3, v7_4)] H2 (c + 6)
def V37 (P : Program) (p : Lab) (Q : VPost) (x0 x1 : AV) (H : Heap) (c : Nat) : Prop :=
  vCall false P 38 [x0] H ((c + 2) :: p) (k37_0 P p Q x1 c)
theorem vt37 (P : Program) (p : Lab) (Q : VPost) (x0 x1 : AV) (H : Heap) (c : Nat) : vc P p c37.body Q [(0, x0), (1, x1)] H c = V37 P p Q x0 x1 H c := by kernel_rfl


/-- duet/mesg.Rune -/
def c40 : AFun := ⟨1, 22, [.tmp 2],
  (.seq (.region [⟨(some 2), none, .move, [.c (.bool false)]⟩] none [0])
  (.seq (.block 0 (.seq (.seq (.region [⟨(some 4), none, .move, [.t 0]⟩, ⟨(some 5), none, (.bin .lss .num), [.t 4, .c (.int .i64 32)]⟩, ⟨(some 6), none, .move, [.t 5]⟩, ⟨(some 7), (some (6, false)), .move, [.t 0]⟩, ⟨(some 8), (some (6, false)), (.bin .gtr .num), [.t 7, .c (.int .i64 1114111)]⟩, ⟨(some 9), none, .pick, [.t 6, .c (.bool true), .t 8]⟩, ⟨(some 3), none, .move, [.t 9]⟩] none [0, 3])
  (.cond (.t 3) .skip
  (.seq (.region [⟨(some 10), none, .move, [.t 0]⟩, ⟨(some 11), none, (.bin .geq .num), [.t 10, .c (.int .i64 127)]⟩, ⟨(some 12), none, .move, [.t 11]⟩, ⟨(some 13), (some (12, true)), .move, [.t 0]⟩, ⟨(some 14), (some (12, true)), (.bin .leq .num), [.t 13, .c (.int .i64 159)]⟩, ⟨(some 15), none, .pick, [.t 12, .t 14, .c (.bool false)]⟩, ⟨(some 3), none, .move, [.t 15]⟩] none [0, 3])
  (.cond (.t 3) .skip
  (.region [⟨(some 16), none, .move, [.t 0]⟩, ⟨(some 17), none, (.bin .geq .num), [.t 16, .c (.int .i64 55296)]⟩, ⟨(some 18), none, .move, [.t 17]⟩, ⟨(some 19), (some (18, true)), .move, [.t 0]⟩, ⟨(some 20), (some (18, true)), (.bin .leq .num), [.t 19, .c (.int .i64 57343)]⟩, ⟨(some 21), none, .pick, [.t 18, .t 20, .c (.bool false)]⟩, ⟨(some 3), none, .move, [.t 21]⟩] none [3])))))
  (.cond (.t 3) (.seq (.region [⟨(some 2), none, .move, [.c (.bool false)]⟩] none [2])
  .ret)
  .skip)))
  (.seq (.region [⟨(some 2), none, .move, [.c (.bool true)]⟩] none [2])
  .ret)))⟩
theorem ok40 : FunOk Try.prog 40 c40 := ⟨⟨Try.f40, _, Try.func40, rfl, by kernel_rfl, by kernel_rfl, by kernel_rfl, by kernel_rfl⟩, by decide⟩
theorem res40 : c40.res = [.tmp 2] := rfl
def k40_0 (P : Program) (p : Lab) (Q : VPost) (y0 : AV) (H : Heap) (c : Nat) : Prop :=
  Q .ret [(2, (.bool false))] H (c + 1)
def k40_1 (P : Program) (p : Lab) (Q : VPost) (x0 : AV) (H : Heap) (c : Nat) (_ : Unit) : Prop :=
  (k40_0 P p Q x0 H (c + 8))
def k40_4 (P : Program) (p : Lab) (Q : VPost)  (H : Heap) (c : Nat) : Prop :=
  Q .ret [(2, (.bool false))] H c
def k40_5 (P : Program) (p : Lab) (Q : VPost) (H : Heap) (c : Nat) (_ : Unit) : Prop :=
  (k40_4 P p Q  H (c + 1))
def k40_6 (P : Program) (p : Lab) (Q : VPost) (y0 : AV) (y3 : AV) (H : Heap) (c : Nat) : Prop :=
  Q .ret [(2, (.bool true))] H (c + 1)
def k40_7 (P : Program) (p : Lab) (Q : VPost) (y0 : AV) (y3 : AV) (H : Heap) (c : Nat) (_ : Unit) : Prop :=
  (k40_6 P p Q y0 y3 H c)
def k40_3 (P : Program) (p : Lab) (Q : VPost) (y0 : AV) (y3 : AV) (H : Heap) (c : Nat) : Prop :=
  vSel y3
  (k40_5 P p Q H c)
  (k40_7 P p Q y0 y3 H c)
def k40_8 (P : Program) (p : Lab) (Q : VPost) (y0 : AV) (y3 : AV) (H : Heap) (c : Nat) (_ : Unit) : Prop :=
  (k40_3 P p Q y0 y3 H c)
def k40_11 (P : Program) (p : Lab) (Q : VPost) (y0 : AV) (y3 : AV) (H : Heap) (c : Nat) (_ : Unit) : Prop :=
  (k40_3 P p Q y0 y3 H c)
def k40_14 (P : Program) (p : Lab) (Q : VPost) (H : Heap) (c : Nat) (_ : Unit) : Prop :=
  (k40_4 P p Q  H (c + 1))
def k40_15 (P : Program) (p : Lab) (Q : VPost) (y3 : AV) (H : Heap) (c : Nat) : Prop :=
  Q .ret [(2, (.bool true))] H (c + 1)
def k40_16 (P : Program) (p : Lab) (Q : VPost) (y3 : AV) (H : Heap) (c : Nat) (_ : Unit) : Prop :=
  (k40_15 P p Q y3 H c)
def k40_13 (P : Program) (p : Lab) (Q : VPost) (y3 : AV) (H : Heap) (c : Nat) : Prop :=
  vSel y3
  (k40_14 P p Q H c)
  (k40_16 P p Q y3 H c)
def k40_17 (P : Program) (p : Lab) (Q : VPost) (y0 : AV) (H : Heap) (c : Nat) (_ : Unit) : Prop :=
  vBin .leq .num y0 (.int .i64 57343) fun v20_24 =>
  (k40_13 P p Q v20_24 H (c + 7))
def k40_18 (P : Program) (p : Lab) (Q : VPost)  (H : Heap) (c : Nat) : Prop :=
  Q .ret [(2, (.bool true))] H (c + 1)
def k40_19 (P : Program) (p : Lab) (Q : VPost) (H : Heap) (c : Nat) (_ : Unit) : Prop :=
  (k40_18 P p Q  H (c + 7))
def k40_12 (P : Program) (p : Lab) (Q : VPost) (y0 : AV) (y3 : AV) (H : Heap) (c : Nat) : Prop :=
  vBin .geq .num y0 (.int .i64 55296) fun v17_21 =>
  vSel v17_21
  (k40_17 P p Q y0 H c)
  (k40_19 P p Q H c)
def k40_20 (P : Program) (p : Lab) (Q : VPost) (y0 : AV) (y3 : AV) (H : Heap) (c : Nat) (_ : Unit) : Prop :=
  (k40_12 P p Q y0 y3 H c)
def k40_10 (P : Program) (p : Lab) (Q : VPost) (y0 : AV) (y3 : AV) (H : Heap) (c : Nat) : Prop :=
  vSel y3
  (k40_11 P p Q y0 y3 H c)
  (k40_20 P p Q y0 y3 H c)
def k40_21 (P : Program) (p : Lab) (Q : VPost) (y0 : AV) (H : Heap) (c : Nat) (_ : Unit) : Prop :=
  vBin .leq .num y0 (.int .i64 159) fun v14_17 =>
  (k40_10 P p Q y0 v14_17 H (c + 7))
def k40_23 (P : Program) (p : Lab) (Q : VPost) (y0 : AV) (H : Heap) (c : Nat) (_ : Unit) : Prop :=
  vBin .leq .num y0 (.int .i64 57343) fun v20_38 =>
  (k40_13 P p Q v20_38 H (c + 7))
def k40_24 (P : Program) (p : Lab) (Q : VPost) (H : Heap) (c : Nat) (_ : Unit) : Prop :=
  (k40_18 P p Q  H (c + 7))
def k40_22 (P : Program) (p : Lab) (Q : VPost) (y0 : AV) (H : Heap) (c : Nat) : Prop :=
  vBin .geq .num y0 (.int .i64 55296) fun v17_35 =>
  vSel v17_35
  (k40_23 P p Q y0 H c)
  (k40_24 P p Q H c)
def k40_25 (P : Program) (p : Lab) (Q : VPost) (y0 : AV) (H : Heap) (c : Nat) (_ : Unit) : Prop :=
  (k40_22 P p Q y0 H (c + 7))
def k40_9 (P : Program) (p : Lab) (Q : VPost) (y0 : AV) (y3 : AV) (H : Heap) (c : Nat) : Prop :=
  vBin .geq .num y0 (.int .i64 127) fun v11_14 =>
  vSel v11_14
  (k40_21 P p Q y0 H c)
  (k40_25 P p Q y0 H c)
def k40_26 (P : Program) (p : Lab) (Q : VPost) (y0 : AV) (y3 : AV) (H : Heap) (c : Nat) (_ : Unit) : Prop :=
  (k40_9 P p Q y0 y3 H c)
def k40_2 (P : Program) (p : Lab) (Q : VPost) (y0 : AV) (y3 : AV) (H : Heap) (c : Nat) : Prop :=
  vSel y3
  (k40_8 P p Q y0 y3 H c)
  (k40_26 P p Q y0 y3 H c)
def k40_27 (P : Program) (p : Lab) (Q : VPost) (x0 : AV) (H : Heap) (c : Nat) (_ : Unit) : Prop :=
  vBin .gtr .num x0 (.int .i64 1114111) fun v8_8 =>
  (k40_2 P p Q x0 v8_8 H (c + 8))
def V40 (P : Program) (p : Lab) (Q : VPost) (x0 : AV) (H : Heap) (c : Nat) : Prop :=
  vBin .lss .num x0 (.int .i64 32) fun v5_2 =>
  vSel v5_2
  (k40_1 P p Q x0 H c)
  (k40_27 P p Q x0 H c)
theorem vt40 (P : Program) (p : Lab) (Q : VPost) (x0 : AV) (H : Heap) (c : Nat) : vc P p c40.body Q [(0, x0)] H c = V40 P p Q x0 H c := by kernel_rfl


/-- duet/duetref04.Rune -/
def c57 : AFun := ⟨1, 27, [.tmp 2],
  (.seq (.region [⟨(some 2), none, .move, [.c (.bool false)]⟩] none [0])
  (.seq (.region [⟨(some 3), none, .move, [.t 0]⟩, ⟨(some 4), none, (.bin .geq .num), [.t 3, .c (.int .i64 32)]⟩, ⟨(some 5), none, .move, [.t 4]⟩, ⟨(some 6), (some (5, true)), .move, [.t 0]⟩, ⟨(some 7), (some (5, true)), (.bin .leq .num), [.t 6, .c (.int .i64 1114111)]⟩, ⟨(some 8), none, .pick, [.t 5, .t 7, .c (.bool false)]⟩, ⟨(some 9), none, .move, [.t 8]⟩, ⟨(some 10), (some (9, true)), .move, [.t 0]⟩, ⟨(some 11), (some (9, true)), (.bin .geq .num), [.t 10, .c (.int .i64 127)]⟩, ⟨(some 12), (some (9, true)), .move, [.t 11]⟩, ⟨(some 13), (some (12, true)), .move, [.t 0]⟩, ⟨(some 14), (some (12, true)), (.bin .leq .num), [.t 13, .c (.int .i64 159)]⟩, ⟨(some 15), (some (9, true)), .pick, [.t 12, .t 14, .c (.bool false)]⟩, ⟨(some 16), (some (9, true)), (.un .not), [.t 15]⟩, ⟨(some 17), none, .pick, [.t 9, .t 16, .c (.bool false)]⟩, ⟨(some 18), none, .move, [.t 17]⟩, ⟨(some 19), (some (18, true)), .move, [.t 0]⟩, ⟨(some 20), (some (18, true)), (.bin .geq .num), [.t 19, .c (.int .i64 55296)]⟩, ⟨(some 21), (some (18, true)), .move, [.t 20]⟩, ⟨(some 22), (some (21, true)), .move, [.t 0]⟩, ⟨(some 23), (some (21, true)), (.bin .leq .num), [.t 22, .c (.int .i64 57343)]⟩, ⟨(some 24), (some (18, true)), .pick, [.t 21, .t 23, .c (.bool false)]⟩, ⟨(some 25), (some (18, true)), (.un .not), [.t 24]⟩, ⟨(some 26), none, .pick, [.t 18, .t 25, .c (.bool false)]⟩, ⟨(some 2), none, .move, [.t 26]⟩] none [2])
  .ret))⟩
theorem ok57 : FunOk Try.prog 57 c57 := ⟨⟨Try.f57, _, Try.func57, rfl, by kernel_rfl, by kernel_rfl, by kernel_rfl, by kernel_rfl⟩, by decide⟩
theorem res57 : c57.res = [.tmp 2] := rfl
def k57_2 (P : Program) (p : Lab) (Q : VPost) (y2 : AV) (H : Heap) (c : Nat) : Prop :=
  Q .ret [(2, y2)] H c
def k57_3 (P : Program) (p : Lab) (Q : VPost) (y0 : AV) (H : Heap) (c : Nat) (_ : Unit) : Prop :=
  vBin .leq .num y0 (.int .i64 57343) fun v23_21 =>
  vNot v23_21 fun v25_23 =>
  (k57_2 P p Q v25_23 H (c + 11))
def k57_4 (P : Program) (p : Lab) (Q : VPost) (H : Heap) (c : Nat) (_ : Unit) : Prop :=
  vNot (.bool false) fun v25_27 =>
  (k57_2 P p Q v25_27 H (c + 11))
def k57_5 (P : Program) (p : Lab) (Q : VPost) (y0 : AV) (H : Heap) (c : Nat) (_ : Unit) : Prop :=
  vBin .geq .num y0 (.int .i64 55296) fun v20_18 =>
  vSel v20_18
  (k57_3 P p Q y0 H c)
  (k57_4 P p Q H c)
def k57_6 (P : Program) (p : Lab) (Q : VPost)  (H : Heap) (c : Nat) : Prop :=
  Q .ret [(2, (.bool false))] H c
def k57_7 (P : Program) (p : Lab) (Q : VPost) (H : Heap) (c : Nat) (_ : Unit) : Prop :=
  (k57_6 P p Q  H (c + 11))
def k57_1 (P : Program) (p : Lab) (Q : VPost) (y0 : AV) (y16 : AV) (H : Heap) (c : Nat) : Prop :=
  vSel y16
  (k57_5 P p Q y0 H c)
  (k57_7 P p Q H c)
def k57_8 (P : Program) (p : Lab) (Q : VPost) (y0 : AV) (H : Heap) (c : Nat) (_ : Unit) : Prop :=
  vBin .leq .num y0 (.int .i64 159) fun v14_12 =>
  vNot v14_12 fun v16_14 =>
  (k57_1 P p Q y0 v16_14 H (c + 9))
def k57_10 (P : Program) (p : Lab) (Q : VPost) (y0 : AV) (H : Heap) (c : Nat) (_ : Unit) : Prop :=
  vBin .leq .num y0 (.int .i64 57343) fun v23_40 =>
  vNot v23_40 fun v25_42 =>
  (k57_2 P p Q v25_42 H (c + 11))
def k57_11 (P : Program) (p : Lab) (Q : VPost) (H : Heap) (c : Nat) (_ : Unit) : Prop :=
  vNot (.bool false) fun v25_46 =>
  (k57_2 P p Q v25_46 H (c + 11))
def k57_12 (P : Program) (p : Lab) (Q : VPost) (y0 : AV) (H : Heap) (c : Nat) (_ : Unit) : Prop :=
  vBin .geq .num y0 (.int .i64 55296) fun v20_37 =>
  vSel v20_37
  (k57_10 P p Q y0 H c)
  (k57_11 P p Q H c)
def k57_13 (P : Program) (p : Lab) (Q : VPost) (H : Heap) (c : Nat) (_ : Unit) : Prop :=
  (k57_6 P p Q  H (c + 11))
def k57_9 (P : Program) (p : Lab) (Q : VPost) (y0 : AV) (y16 : AV) (H : Heap) (c : Nat) : Prop :=
  vSel y16
  (k57_12 P p Q y0 H c)
  (k57_13 P p Q H c)
def k57_14 (P : Program) (p : Lab) (Q : VPost) (y0 : AV) (H : Heap) (c : Nat) (_ : Unit) : Prop :=
  vNot (.bool false) fun v16_33 =>
  (k57_9 P p Q y0 v16_33 H (c + 9))
def k57_15 (P : Program) (p : Lab) (Q : VPost) (y0 : AV) (H : Heap) (c : Nat) (_ : Unit) : Prop :=
  vBin .geq .num y0 (.int .i64 127) fun v11_9 =>
  vSel v11_9
  (k57_8 P p Q y0 H c)
  (k57_14 P p Q y0 H c)
def k57_16 (P : Program) (p : Lab) (Q : VPost) (y0 : AV) (H : Heap) (c : Nat) : Prop :=
  (k57_6 P p Q  H (c + 11))
def k57_17 (P : Program) (p : Lab) (Q : VPost) (y0 : AV) (H : Heap) (c : Nat) (_ : Unit) : Prop :=
  (k57_16 P p Q y0 H (c + 9))
def k57_0 (P : Program) (p : Lab) (Q : VPost) (y0 : AV) (y7 : AV) (H : Heap) (c : Nat) : Prop :=
  vSel y7
  (k57_15 P p Q y0 H c)
  (k57_17 P p Q y0 H c)
def k57_18 (P : Program) (p : Lab) (Q : VPost) (x0 : AV) (H : Heap) (c : Nat) (_ : Unit) : Prop :=
  vBin .leq .num x0 (.int .i64 1114111) fun v7_5 =>
  (k57_0 P p Q x0 v7_5 H (c + 6))
def k57_20 (P : Program) (p : Lab) (Q : VPost) (y0 : AV) (H : Heap) (c : Nat) : Prop :=
  (k57_6 P p Q  H (c + 11))
def k57_19 (P : Program) (p : Lab) (Q : VPost) (y0 : AV) (H : Heap) (c : Nat) : Prop :=
  (k57_20 P p Q y0 H (c + 9))
def k57_21 (P : Program) (p : Lab) (Q : VPost) (x0 : AV) (H : Heap) (c : Nat) (_ : Unit) : Prop :=
  (k57_19 P p Q x0 H (c + 6))
def V57 (P : Program) (p : Lab) (Q : VPost) (x0 : AV) (H : Heap) (c : Nat) : Prop :=
  vBin .geq .num x0 (.int .i64 32) fun v4_2 =>
  vSel v4_2
  (k57_18 P p Q x0 H c)
  (k57_21 P p Q x0 H c)
theorem vt57 (P : Program) (p : Lab) (Q : VPost) (x0 : AV) (H : Heap) (c : Nat) : vc P p c57.body Q [(0, x0)] H c = V57 P p Q x0 H c := by kernel_rfl


/-- duet/duetref18.letter -/
def c39 : AFun := ⟨1, 33, [.tmp 2],
  (.seq (.region [⟨(some 2), none, .move, [.c (.bool false)]⟩] none [0])
  (.seq (.region [⟨(some 3), none, .move, [.t 0]⟩, ⟨(some 4), none, (.bin .geq .num), [.t 3, .c (.int .i64 48)]⟩, ⟨(some 5), none, .move, [.t 4]⟩, ⟨(some 6), (some (5, true)), .move, [.t 0]⟩, ⟨(some 7), (some (5, true)), (.bin .leq .num), [.t 6, .c (.int .i64 57)]⟩, ⟨(some 8), none, .pick, [.t 5, .t 7, .c (.bool false)]⟩, ⟨(some 9), none, .move, [.t 8]⟩, ⟨(some 10), (some (9, false)), .move, [.t 0]⟩, ⟨(some 11), (some (9, false)), (.bin .geq .num), [.t 10, .c (.int .i64 97)]⟩, ⟨(some 12), (some (9, false)), .move, [.t 11]⟩, ⟨(some 13), (some (12, true)), .move, [.t 0]⟩, ⟨(some 14), (some (12, true)), (.bin .leq .num), [.t 13, .c (.int .i64 122)]⟩, ⟨(some 15), (some (9, false)), .pick, [.t 12, .t 14, .c (.bool false)]⟩, ⟨(some 16), none, .pick, [.t 9, .c (.bool true), .t 15]⟩, ⟨(some 17), none, .move, [.t 16]⟩, ⟨(some 18), (some (17, false)), .move, [.t 0]⟩, ⟨(some 19), (some (17, false)), (.bin .geq .num), [.t 18, .c (.int .i64 65)]⟩, ⟨(some 20), (some (17, false)), .move, [.t 19]⟩, ⟨(some 21), (some (20, true)), .move, [.t 0]⟩, ⟨(some 22), (some (20, true)), (.bin .leq .num), [.t 21, .c (.int .i64 90)]⟩, ⟨(some 23), (some (17, false)), .pick, [.t 20, .t 22, .c (.bool false)]⟩, ⟨(some 24), none, .pick, [.t 17, .c (.bool true), .t 23]⟩, ⟨(some 25), none, .move, [.t 24]⟩, ⟨(some 26), (some (25, false)), .move, [.t 0]⟩, ⟨(some 27), (some (25, false)), (.bin .eql .num), [.t 26, .c (.int .i64 95)]⟩, ⟨(some 28), none, .pick, [.t 25, .c (.bool true), .t 27]⟩, ⟨(some 29), none, .move, [.t 28]⟩, ⟨(some 30), (some (29, false)), .move, [.t 0]⟩, ⟨(some 31), (some (29, false)), (.bin .gtr .num), [.t 30, .c (.int .i64 127)]⟩, ⟨(some 32), none, .pick, [.t 29, .c (.bool true), .t 31]⟩, ⟨(some 2), none, .move, [.t 32]⟩] none [2])
  .ret))⟩
theorem ok39 : FunOk Try.prog 39 c39 := ⟨⟨Try.f39, _, Try.func39, rfl, by kernel_rfl, by kernel_rfl, by kernel_rfl, by kernel_rfl⟩, by decide⟩
theorem res39 : c39.res = [.tmp 2] := rfl
def k39_4 (P : Program) (p : Lab) (Q : VPost)  (H : Heap) (c : Nat) : Prop :=
  Q .ret [(2, (.bool true))] H c
def k39_3 (P : Program) (p : Lab) (Q : VPost) (y0 : AV) (H : Heap) (c : Nat) : Prop :=
  (k39_4 P p Q  H (c + 6))
def k39_2 (P : Program) (p : Lab) (Q : VPost) (y0 : AV) (H : Heap) (c : Nat) : Prop :=
  (k39_3 P p Q y0 H (c + 4))
def k39_1 (P : Program) (p : Lab) (Q : VPost) (y0 : AV) (H : Heap) (c : Nat) : Prop :=
  (k39_2 P p Q y0 H (c + 8))
def k39_5 (P : Program) (p : Lab) (Q : VPost) (y0 : AV) (H : Heap) (c : Nat) (_ : Unit) : Prop :=
  (k39_1 P p Q y0 H (c + 8))
def k39_8 (P : Program) (p : Lab) (Q : VPost) (y0 : AV) (H : Heap) (c : Nat) : Prop :=
  (k39_4 P p Q  H (c + 6))
def k39_7 (P : Program) (p : Lab) (Q : VPost) (y0 : AV) (H : Heap) (c : Nat) : Prop :=
  (k39_8 P p Q y0 H (c + 4))
def k39_9 (P : Program) (p : Lab) (Q : VPost) (y0 : AV) (H : Heap) (c : Nat) (_ : Unit) : Prop :=
  (k39_7 P p Q y0 H (c + 8))
def k39_11 (P : Program) (p : Lab) (Q : VPost) (y0 : AV) (H : Heap) (c : Nat) : Prop :=
  (k39_4 P p Q  H (c + 6))
def k39_12 (P : Program) (p : Lab) (Q : VPost) (y0 : AV) (H : Heap) (c : Nat) (_ : Unit) : Prop :=
  (k39_11 P p Q y0 H (c + 4))
def k39_14 (P : Program) (p : Lab) (Q : VPost) (H : Heap) (c : Nat) (_ : Unit) : Prop :=
  (k39_4 P p Q  H (c + 6))
def k39_15 (P : Program) (p : Lab) (Q : VPost) (y2 : AV) (H : Heap) (c : Nat) : Prop :=
  Q .ret [(2, y2)] H c
def k39_16 (P : Program) (p : Lab) (Q : VPost) (y0 : AV) (H : Heap) (c : Nat) (_ : Unit) : Prop :=
  vBin .gtr .num y0 (.int .i64 127) fun v31_49 =>
  (k39_15 P p Q v31_49 H (c + 6))
def k39_13 (P : Program) (p : Lab) (Q : VPost) (y0 : AV) (y27 : AV) (H : Heap) (c : Nat) : Prop :=
  vSel y27
  (k39_14 P p Q H c)
  (k39_16 P p Q y0 H c)
def k39_17 (P : Program) (p : Lab) (Q : VPost) (y0 : AV) (H : Heap) (c : Nat) (_ : Unit) : Prop :=
  vBin .eql .num y0 (.int .i64 95) fun v27_43 =>
  (k39_13 P p Q y0 v27_43 H (c + 4))
def k39_10 (P : Program) (p : Lab) (Q : VPost) (y0 : AV) (y23 : AV) (H : Heap) (c : Nat) : Prop :=
  vSel y23
  (k39_12 P p Q y0 H c)
  (k39_17 P p Q y0 H c)
def k39_18 (P : Program) (p : Lab) (Q : VPost) (y0 : AV) (H : Heap) (c : Nat) (_ : Unit) : Prop :=
  vBin .leq .num y0 (.int .i64 90) fun v22_34 =>
  (k39_10 P p Q y0 v22_34 H (c + 8))
def k39_21 (P : Program) (p : Lab) (Q : VPost) (H : Heap) (c : Nat) (_ : Unit) : Prop :=
  (k39_4 P p Q  H (c + 6))
def k39_22 (P : Program) (p : Lab) (Q : VPost) (y0 : AV) (H : Heap) (c : Nat) (_ : Unit) : Prop :=
  vBin .gtr .num y0 (.int .i64 127) fun v31_62 =>
  (k39_15 P p Q v31_62 H (c + 6))
def k39_20 (P : Program) (p : Lab) (Q : VPost) (y0 : AV) (y27 : AV) (H : Heap) (c : Nat) : Prop :=
  vSel y27
  (k39_21 P p Q H c)
  (k39_22 P p Q y0 H c)
def k39_19 (P : Program) (p : Lab) (Q : VPost) (y0 : AV) (H : Heap) (c : Nat) : Prop :=
  vBin .eql .num y0 (.int .i64 95) fun v27_56 =>
  (k39_20 P p Q y0 v27_56 H (c + 4))
def k39_23 (P : Program) (p : Lab) (Q : VPost) (y0 : AV) (H : Heap) (c : Nat) (_ : Unit) : Prop :=
  (k39_19 P p Q y0 H (c + 8))
def k39_24 (P : Program) (p : Lab) (Q : VPost) (y0 : AV) (H : Heap) (c : Nat) (_ : Unit) : Prop :=
  vBin .geq .num y0 (.int .i64 65) fun v19_31 =>
  vSel v19_31
  (k39_18 P p Q y0 H c)
  (k39_23 P p Q y0 H c)
def k39_6 (P : Program) (p : Lab) (Q : VPost) (y0 : AV) (y15 : AV) (H : Heap) (c : Nat) : Prop :=
  vSel y15
  (k39_9 P p Q y0 H c)
  (k39_24 P p Q y0 H c)
def k39_25 (P : Program) (p : Lab) (Q : VPost) (y0 : AV) (H : Heap) (c : Nat) (_ : Unit) : Prop :=
  vBin .leq .num y0 (.int .i64 122) fun v14_20 =>
  (k39_6 P p Q y0 v14_20 H (c + 8))
def k39_28 (P : Program) (p : Lab) (Q : VPost) (y0 : AV) (H : Heap) (c : Nat) : Prop :=
  (k39_4 P p Q  H (c + 6))
def k39_29 (P : Program) (p : Lab) (Q : VPost) (y0 : AV) (H : Heap) (c : Nat) (_ : Unit) : Prop :=
  (k39_28 P p Q y0 H (c + 4))
def k39_31 (P : Program) (p : Lab) (Q : VPost) (H : Heap) (c : Nat) (_ : Unit) : Prop :=
  (k39_4 P p Q  H (c + 6))
def k39_32 (P : Program) (p : Lab) (Q : VPost) (y0 : AV) (H : Heap) (c : Nat) (_ : Unit) : Prop :=
  vBin .gtr .num y0 (.int .i64 127) fun v31_87 =>
  (k39_15 P p Q v31_87 H (c + 6))
def k39_30 (P : Program) (p : Lab) (Q : VPost) (y0 : AV) (y27 : AV) (H : Heap) (c : Nat) : Prop :=
  vSel y27
  (k39_31 P p Q H c)
  (k39_32 P p Q y0 H c)
def k39_33 (P : Program) (p : Lab) (Q : VPost) (y0 : AV) (H : Heap) (c : Nat) (_ : Unit) : Prop :=
  vBin .eql .num y0 (.int .i64 95) fun v27_81 =>
  (k39_30 P p Q y0 v27_81 H (c + 4))
def k39_27 (P : Program) (p : Lab) (Q : VPost) (y0 : AV) (y23 : AV) (H : Heap) (c : Nat) : Prop :=
  vSel y23
  (k39_29 P p Q y0 H c)
  (k39_33 P p Q y0 H c)
def k39_34 (P : Program) (p : Lab) (Q : VPost) (y0 : AV) (H : Heap) (c : Nat) (_ : Unit) : Prop :=
  vBin .leq .num y0 (.int .i64 90) fun v22_72 =>
  (k39_27 P p Q y0 v22_72 H (c + 8))
def k39_37 (P : Program) (p : Lab) (Q : VPost) (H : Heap) (c : Nat) (_ : Unit) : Prop :=
  (k39_4 P p Q  H (c + 6))
def k39_38 (P : Program) (p : Lab) (Q : VPost) (y0 : AV) (H : Heap) (c : Nat) (_ : Unit) : Prop :=
  vBin .gtr .num y0 (.int .i64 127) fun v31_100 =>
  (k39_15 P p Q v31_100 H (c + 6))
def k39_36 (P : Program) (p : Lab) (Q : VPost) (y0 : AV) (y27 : AV) (H : Heap) (c : Nat) : Prop :=
  vSel y27
  (k39_37 P p Q H c)
  (k39_38 P p Q y0 H c)
def k39_35 (P : Program) (p : Lab) (Q : VPost) (y0 : AV) (H : Heap) (c : Nat) : Prop :=
  vBin .eql .num y0 (.int .i64 95) fun v27_94 =>
  (k39_36 P p Q y0 v27_94 H (c + 4))
def k39_39 (P : Program) (p : Lab) (Q : VPost) (y0 : AV) (H : Heap) (c : Nat) (_ : Unit) : Prop :=
  (k39_35 P p Q y0 H (c + 8))
def k39_26 (P : Program) (p : Lab) (Q : VPost) (y0 : AV) (H : Heap) (c : Nat) : Prop :=
  vBin .geq .num y0 (.int .i64 65) fun v19_69 =>
  vSel v19_69
  (k39_34 P p Q y0 H c)
  (k39_39 P p Q y0 H c)
def k39_40 (P : Program) (p : Lab) (Q : VPost) (y0 : AV) (H : Heap) (c : Nat) (_ : Unit) : Prop :=
  (k39_26 P p Q y0 H (c + 8))
def k39_41 (P : Program) (p : Lab) (Q : VPost) (y0 : AV) (H : Heap) (c : Nat) (_ : Unit) : Prop :=
  vBin .geq .num y0 (.int .i64 97) fun v11_17 =>
  vSel v11_17
  (k39_25 P p Q y0 H c)
  (k39_40 P p Q y0 H c)
def k39_0 (P : Program) (p : Lab) (Q : VPost) (y0 : AV) (y7 : AV) (H : Heap) (c : Nat) : Prop :=
  vSel y7
  (k39_5 P p Q y0 H c)
  (k39_41 P p Q y0 H c)
def k39_42 (P : Program) (p : Lab) (Q : VPost) (x0 : AV) (H : Heap) (c : Nat) (_ : Unit) : Prop :=
  vBin .leq .num x0 (.int .i64 57) fun v7_5 =>
  (k39_0 P p Q x0 v7_5 H (c + 6))
def k39_46 (P : Program) (p : Lab) (Q : VPost) (y0 : AV) (H : Heap) (c : Nat) : Prop :=
  (k39_4 P p Q  H (c + 6))
def k39_45 (P : Program) (p : Lab) (Q : VPost) (y0 : AV) (H : Heap) (c : Nat) : Prop :=
  (k39_46 P p Q y0 H (c + 4))
def k39_47 (P : Program) (p : Lab) (Q : VPost) (y0 : AV) (H : Heap) (c : Nat) (_ : Unit) : Prop :=
  (k39_45 P p Q y0 H (c + 8))
def k39_49 (P : Program) (p : Lab) (Q : VPost) (y0 : AV) (H : Heap) (c : Nat) : Prop :=
  (k39_4 P p Q  H (c + 6))
def k39_50 (P : Program) (p : Lab) (Q : VPost) (y0 : AV) (H : Heap) (c : Nat) (_ : Unit) : Prop :=
  (k39_49 P p Q y0 H (c + 4))
def k39_52 (P : Program) (p : Lab) (Q : VPost) (H : Heap) (c : Nat) (_ : Unit) : Prop :=
  (k39_4 P p Q  H (c + 6))
def k39_53 (P : Program) (p : Lab) (Q : VPost) (y0 : AV) (H : Heap) (c : Nat) (_ : Unit) : Prop :=
  vBin .gtr .num y0 (.int .i64 127) fun v31_138 =>
  (k39_15 P p Q v31_138 H (c + 6))
def k39_51 (P : Program) (p : Lab) (Q : VPost) (y0 : AV) (y27 : AV) (H : Heap) (c : Nat) : Prop :=
  vSel y27
  (k39_52 P p Q H c)
  (k39_53 P p Q y0 H c)
def k39_54 (P : Program) (p : Lab) (Q : VPost) (y0 : AV) (H : Heap) (c : Nat) (_ : Unit) : Prop :=
  vBin .eql .num y0 (.int .i64 95) fun v27_132 =>
  (k39_51 P p Q y0 v27_132 H (c + 4))
def k39_48 (P : Program) (p : Lab) (Q : VPost) (y0 : AV) (y23 : AV) (H : Heap) (c : Nat) : Prop :=
  vSel y23
  (k39_50 P p Q y0 H c)
  (k39_54 P p Q y0 H c)
def k39_55 (P : Program) (p : Lab) (Q : VPost) (y0 : AV) (H : Heap) (c : Nat) (_ : Unit) : Prop :=
  vBin .leq .num y0 (.int .i64 90) fun v22_123 =>
  (k39_48 P p Q y0 v22_123 H (c + 8))
def k39_58 (P : Program) (p : Lab) (Q : VPost) (H : Heap) (c : Nat) (_ : Unit) : Prop :=
  (k39_4 P p Q  H (c + 6))
def k39_59 (P : Program) (p : Lab) (Q : VPost) (y0 : AV) (H : Heap) (c : Nat) (_ : Unit) : Prop :=
  vBin .gtr .num y0 (.int .i64 127) fun v31_151 =>
  (k39_15 P p Q v31_151 H (c + 6))
def k39_57 (P : Program) (p : Lab) (Q : VPost) (y0 : AV) (y27 : AV) (H : Heap) (c : Nat) : Prop :=
  vSel y27
  (k39_58 P p Q H c)
  (k39_59 P p Q y0 H c)
def k39_56 (P : Program) (p : Lab) (Q : VPost) (y0 : AV) (H : Heap) (c : Nat) : Prop :=
  vBin .eql .num y0 (.int .i64 95) fun v27_145 =>
  (k39_57 P p Q y0 v27_145 H (c + 4))
def k39_60 (P : Program) (p : Lab) (Q : VPost) (y0 : AV) (H : Heap) (c : Nat) (_ : Unit) : Prop :=
  (k39_56 P p Q y0 H (c + 8))
def k39_61 (P : Program) (p : Lab) (Q : VPost) (y0 : AV) (H : Heap) (c : Nat) (_ : Unit) : Prop :=
  vBin .geq .num y0 (.int .i64 65) fun v19_120 =>
  vSel v19_120
  (k39_55 P p Q y0 H c)
  (k39_60 P p Q y0 H c)
def k39_44 (P : Program) (p : Lab) (Q : VPost) (y0 : AV) (y15 : AV) (H : Heap) (c : Nat) : Prop :=
  vSel y15
  (k39_47 P p Q y0 H c)
  (k39_61 P p Q y0 H c)
def k39_62 (P : Program) (p : Lab) (Q : VPost) (y0 : AV) (H : Heap) (c : Nat) (_ : Unit) : Prop :=
  vBin .leq .num y0 (.int .i64 122) fun v14_109 =>
  (k39_44 P p Q y0 v14_109 H (c + 8))
def k39_65 (P : Program) (p : Lab) (Q : VPost) (y0 : AV) (H : Heap) (c : Nat) : Prop :=
  (k39_4 P p Q  H (c + 6))
def k39_66 (P : Program) (p : Lab) (Q : VPost) (y0 : AV) (H : Heap) (c : Nat) (_ : Unit) : Prop :=
  (k39_65 P p Q y0 H (c + 4))
def k39_68 (P : Program) (p : Lab) (Q : VPost) (H : Heap) (c : Nat) (_ : Unit) : Prop :=
  (k39_4 P p Q  H (c + 6))
def k39_69 (P : Program) (p : Lab) (Q : VPost) (y0 : AV) (H : Heap) (c : Nat) (_ : Unit) : Prop :=
  vBin .gtr .num y0 (.int .i64 127) fun v31_176 =>
  (k39_15 P p Q v31_176 H (c + 6))
def k39_67 (P : Program) (p : Lab) (Q : VPost) (y0 : AV) (y27 : AV) (H : Heap) (c : Nat) : Prop :=
  vSel y27
  (k39_68 P p Q H c)
  (k39_69 P p Q y0 H c)
def k39_70 (P : Program) (p : Lab) (Q : VPost) (y0 : AV) (H : Heap) (c : Nat) (_ : Unit) : Prop :=
  vBin .eql .num y0 (.int .i64 95) fun v27_170 =>
  (k39_67 P p Q y0 v27_170 H (c + 4))
def k39_64 (P : Program) (p : Lab) (Q : VPost) (y0 : AV) (y23 : AV) (H : Heap) (c : Nat) : Prop :=
  vSel y23
  (k39_66 P p Q y0 H c)
  (k39_70 P p Q y0 H c)
def k39_71 (P : Program) (p : Lab) (Q : VPost) (y0 : AV) (H : Heap) (c : Nat) (_ : Unit) : Prop :=
  vBin .leq .num y0 (.int .i64 90) fun v22_161 =>
  (k39_64 P p Q y0 v22_161 H (c + 8))
def k39_74 (P : Program) (p : Lab) (Q : VPost) (H : Heap) (c : Nat) (_ : Unit) : Prop :=
  (k39_4 P p Q  H (c + 6))
def k39_75 (P : Program) (p : Lab) (Q : VPost) (y0 : AV) (H : Heap) (c : Nat) (_ : Unit) : Prop :=
  vBin .gtr .num y0 (.int .i64 127) fun v31_189 =>
  (k39_15 P p Q v31_189 H (c + 6))
def k39_73 (P : Program) (p : Lab) (Q : VPost) (y0 : AV) (y27 : AV) (H : Heap) (c : Nat) : Prop :=
  vSel y27
  (k39_74 P p Q H c)
  (k39_75 P p Q y0 H c)
def k39_72 (P : Program) (p : Lab) (Q : VPost) (y0 : AV) (H : Heap) (c : Nat) : Prop :=
  vBin .eql .num y0 (.int .i64 95) fun v27_183 =>
  (k39_73 P p Q y0 v27_183 H (c + 4))
def k39_76 (P : Program) (p : Lab) (Q : VPost) (y0 : AV) (H : Heap) (c : Nat) (_ : Unit) : Prop :=
  (k39_72 P p Q y0 H (c + 8))
def k39_63 (P : Program) (p : Lab) (Q : VPost) (y0 : AV) (H : Heap) (c : Nat) : Prop :=
  vBin .geq .num y0 (.int .i64 65) fun v19_158 =>
  vSel v19_158
  (k39_71 P p Q y0 H c)
  (k39_76 P p Q y0 H c)
def k39_77 (P : Program) (p : Lab) (Q : VPost) (y0 : AV) (H : Heap) (c : Nat) (_ : Unit) : Prop :=
  (k39_63 P p Q y0 H (c + 8))
def k39_43 (P : Program) (p : Lab) (Q : VPost) (y0 : AV) (H : Heap) (c : Nat) : Prop :=
  vBin .geq .num y0 (.int .i64 97) fun v11_106 =>
  vSel v11_106
  (k39_62 P p Q y0 H c)
  (k39_77 P p Q y0 H c)
def k39_78 (P : Program) (p : Lab) (Q : VPost) (x0 : AV) (H : Heap) (c : Nat) (_ : Unit) : Prop :=
  (k39_43 P p Q x0 H (c + 6))
def V39 (P : Program) (p : Lab) (Q : VPost) (x0 : AV) (H : Heap) (c : Nat) : Prop :=
  vBin .geq .num x0 (.int .i64 48) fun v4_2 =>
  vSel v4_2
  (k39_42 P p Q x0 H c)
  (k39_78 P p Q x0 H c)
theorem vt39 (P : Program) (p : Lab) (Q : VPost) (x0 : AV) (H : Heap) (c : Nat) : vc P p c39.body Q [(0, x0)] H c = V39 P p Q x0 H c := by kernel_rfl


/-- duet/duetref18.held -/
def c29 : AFun := ⟨2, 10, [.tmp 4],
  (.seq (.region [⟨(some 4), none, .move, [.c (.int .i64 0)]⟩] none [0, 1])
  (.seq (.region [⟨(some 5), none, .move, [.t 1]⟩, ⟨(some 6), none, .max, [.t 5, .c (.int .i64 0)]⟩, ⟨(some 7), none, .move, [.t 0]⟩, ⟨(some 8), none, (.len .slice), [.t 7]⟩, ⟨(some 9), none, .min, [.t 6, .t 8]⟩, ⟨(some 4), none, .move, [.t 9]⟩] none [4])
  .ret))⟩
theorem ok29 : FunOk Try.prog 29 c29 := ⟨⟨Try.f29, _, Try.func29, rfl, by kernel_rfl, by kernel_rfl, by kernel_rfl, by kernel_rfl⟩, by decide⟩
theorem res29 : c29.res = [.tmp 4] := rfl
def V29 (P : Program) (p : Lab) (Q : VPost) (x0 x1 : AV) (H : Heap) (c : Nat) : Prop :=
  vMax x1 (.int .i64 0) fun v6_2 =>
  vLen x0 fun v8_4 =>
  vMin v6_2 v8_4 fun v9_5 =>
  Q .ret [(4, v9_5)] H (c + 7)
theorem vt29 (P : Program) (p : Lab) (Q : VPost) (x0 x1 : AV) (H : Heap) (c : Nat) : vc P p c29.body Q [(0, x0), (1, x1)] H c = V29 P p Q x0 x1 H c := by kernel_rfl


/-- duet/duetlaw18.few -/
def c10 : AFun := ⟨1, 13, [.tmp 2],
  (.seq (.region [⟨(some 1), none, .box, [.t 0]⟩, ⟨(some 2), none, .move, [.c (.bool false)]⟩] none [1])
  (.seq (.region [⟨(some 3), none, (.fieldAddr 0), [.t 1]⟩, ⟨(some 4), none, (.load 1 false), [.t 3]⟩, ⟨(some 5), none, (.len .slice), [.t 4]⟩, ⟨(some 6), none, (.bin .leq .num), [.t 5, .c (.int .i64 1100)]⟩, ⟨(some 7), none, .move, [.t 6]⟩, ⟨(some 8), (some (7, true)), (.fieldAddr 2), [.t 1]⟩, ⟨(some 9), (some (7, true)), (.load 1 false), [.t 8]⟩, ⟨(some 10), (some (7, true)), (.len .slice), [.t 9]⟩, ⟨(some 11), (some (7, true)), (.bin .leq .num), [.t 10, .c (.int .i64 1100)]⟩, ⟨(some 12), none, .pick, [.t 7, .t 11, .c (.bool false)]⟩, ⟨(some 2), none, .move, [.t 12]⟩] none [2])
  .ret))⟩
theorem ok10 : FunOk Try.prog 10 c10 := ⟨⟨Try.f10, _, Try.func10, rfl, by kernel_rfl, by kernel_rfl, by kernel_rfl, by kernel_rfl⟩, by decide⟩
theorem res10 : c10.res = [.tmp 2] := rfl
def k10_0 (P : Program) (p : Lab) (Q : VPost) (y2 : AV) (H : Heap) (c : Nat) : Prop :=
  Q .ret [(2, y2)] H c
def k10_1 (P : Program) (p : Lab) (Q : VPost) (H0 : Heap) (w0 : List AV) (c : Nat) (_ : Unit) : Prop :=
  vFA 2 (.ptr (c :: p) w0.length 0 0) fun v8_7 =>
  vLoad 1 false v8_7 H0 fun v9_8 _ =>
  vLen v9_8 fun v10_9 =>
  vBin .leq .num v10_9 (.int .i64 1100) fun v11_10 =>
  (k10_0 P p Q v11_10 H0 (c + 13))
def k10_2 (P : Program) (p : Lab) (Q : VPost)  (H : Heap) (c : Nat) : Prop :=
  Q .ret [(2, (.bool false))] H c
def k10_3 (P : Program) (p : Lab) (Q : VPost) (H0 : Heap) (c : Nat) (_ : Unit) : Prop :=
  (k10_2 P p Q  H0 (c + 13))
def V10 (P : Program) (p : Lab) (Q : VPost) (x0 : AV) (H : Heap) (c : Nat) : Prop :=
  vBox x0 fun w0 =>
  (fun (H0 : Heap) =>
  vFA 0 (.ptr (c :: p) w0.length 0 0) fun v3_2 =>
  vLoad 1 false v3_2 H0 fun v4_3 _ =>
  vLen v4_3 fun v5_4 =>
  vBin .leq .num v5_4 (.int .i64 1100) fun v6_5 =>
  vSel v6_5
  (k10_1 P p Q H0 w0 c)
  (k10_3 P p Q H0 c)) (upd [((c :: p), some (.rows w0.length [w0]))] H)
theorem vt10 (P : Program) (p : Lab) (Q : VPost) (x0 : AV) (H : Heap) (c : Nat) : vc P p c10.body Q [(0, x0)] H c = V10 P p Q x0 H c := by kernel_rfl


/-- duet/duetlaw18.key -/
def c13 : AFun := ⟨1, 8, [.cell 2 2 true],
  (.seq (.region [⟨(some 1), none, .box, [.t 0]⟩, ⟨(some 2), none, (.alloc [(.int .i64 0), (.int .i64 0)]), []⟩] none [1, 2])
  (.seq (.region [⟨(some 3), none, (.fieldAddr 0), [.t 1]⟩, ⟨(some 4), none, (.load 1 false), [.t 3]⟩, ⟨(some 5), none, (.fieldAddr 1), [.t 1]⟩, ⟨(some 6), none, (.load 1 false), [.t 5]⟩, ⟨(some 7), none, (.build [(.int .i64 0), (.int .i64 0)] [(0, 1), (1, 1)]), [.t 4, .t 6]⟩, ⟨none, none, (.store 2), [.t 2, .t 7]⟩] none [2])
  .ret))⟩
theorem ok13 : FunOk Try.prog 13 c13 := ⟨⟨Try.f13, _, Try.func13, rfl, by kernel_rfl, by kernel_rfl, by kernel_rfl, by kernel_rfl⟩, by decide⟩
theorem res13 : c13.res = [.cell 2 2 true] := rfl
def V13 (P : Program) (p : Lab) (Q : VPost) (x0 : AV) (H : Heap) (c : Nat) : Prop :=
  vBox x0 fun w0 =>
  (fun (H0 : Heap) =>
  (fun (H1 : Heap) =>
  vFA 0 (.ptr (c :: p) w0.length 0 0) fun v3_2 =>
  vLoad 1 false v3_2 H1 fun v4_3 _ =>
  vFA 1 (.ptr (c :: p) w0.length 0 0) fun v5_4 =>
  vLoad 1 false v5_4 H1 fun v6_5 _ =>
  vBuild [(.int .i64 0), (.int .i64 0)] [(0, 1), (1, 1)] [v4_3, v6_5] fun v7_6 =>
  vGen (.store 2) [(.ptr ((c + 1) :: p) 2 0 0), v7_6] H1 ((c + 7) :: p) (fun v_7 H7 l7 f7 =>
  Q .ret [(2, (.ptr ((c + 1) :: p) 2 0 0))] H7 (c + 8))) (upd [(((c + 1) :: p), some (.rows 2 [[(.int .i64 0), (.int .i64 0)]]))] H0)) (upd [((c :: p), some (.rows w0.length [w0]))] H)
theorem vt13 (P : Program) (p : Lab) (Q : VPost) (x0 : AV) (H : Heap) (c : Nat) : vc P p c13.body Q [(0, x0)] H c = V13 P p Q x0 H c := by kernel_rfl

def b21_1 : ACode := (.seq (.seq (.region [⟨(some 11), none, .move, [.t 5]⟩, ⟨(some 12), none, .move, [.t 0]⟩, ⟨(some 13), none, (.len .slice), [.t 12]⟩, ⟨(some 14), none, (.bin .lss .num), [.t 11, .t 13]⟩] none [0, 1, 5, 14])
  (.cond (.t 14) .skip
  (.exit 0)))
  (.seq (.block 1 (.seq (.region [⟨(some 17), none, .move, [.t 0]⟩, ⟨(some 18), none, .move, [.t 5]⟩, ⟨(some 19), none, (.indexAddr 1), [.t 17, .t 18]⟩, ⟨(some 20), none, (.load 1 false), [.t 19]⟩, ⟨(some 21), none, .move, [.t 1]⟩, ⟨(some 22), none, .move, [.t 5]⟩, ⟨(some 23), none, (.indexAddr 1), [.t 21, .t 22]⟩, ⟨(some 24), none, (.load 1 false), [.t 23]⟩, ⟨(some 25), none, (.bin .neq .num), [.t 20, .t 24]⟩] (some [0, 0, 3, 7, 0, 0, 48, 112, 255]) [0, 1, 5, 25])
  (.cond (.t 25) (.seq (.region [⟨(some 4), none, .move, [.c (.bool false)]⟩] none [4])
  .ret)
  .skip)))
  (.region [⟨(some 15), none, .move, [.t 5]⟩, ⟨(some 16), none, (.bin .add .num), [.t 15, .c (.int .i64 1)]⟩, ⟨(some 5), none, .move, [.t 16]⟩] none [0, 1, 5])))
def l21_1 : ACode := .loop [0, 1, 5] b21_1
def r21_2 : ACode := (.seq (.region [⟨(some 4), none, .move, [.c (.bool true)]⟩] none [4])
  .ret)
/-- duet/duetref01.Same -/
def c21 : AFun := ⟨2, 26, [.tmp 4],
  (.seq (.region [⟨(some 4), none, .move, [.c (.bool false)]⟩] none [0, 1])
  (.seq (.seq (.region [⟨(some 6), none, .move, [.t 0]⟩, ⟨(some 7), none, (.len .slice), [.t 6]⟩, ⟨(some 8), none, .move, [.t 1]⟩, ⟨(some 9), none, (.len .slice), [.t 8]⟩, ⟨(some 10), none, (.bin .neq .num), [.t 7, .t 9]⟩] none [0, 1, 10])
  (.cond (.t 10) (.seq (.region [⟨(some 4), none, .move, [.c (.bool false)]⟩] none [4])
  .ret)
  .skip))
  (.seq (.seq (.region [⟨(some 5), none, .move, [.c (.int .i64 0)]⟩] none [0, 1, 5])
  (.block 0 l21_1)) r21_2)))⟩
theorem ok21 : FunOk Try.prog 21 c21 := ⟨⟨Try.f21, _, Try.func21, rfl, by kernel_rfl, by kernel_rfl, by kernel_rfl, by kernel_rfl⟩, by decide⟩
theorem res21 : c21.res = [.tmp 4] := rfl
def k21_0 (P : Program) (p : Lab) (Q : VPost)  (H : Heap) (c : Nat) : Prop :=
  Q .ret [(4, (.bool false))] H c
def k21_1 (P : Program) (p : Lab) (Q : VPost) (H : Heap) (c : Nat) (_ : Unit) : Prop :=
  (k21_0 P p Q  H (c + 7))
def q21_0 (P : Program) (p : Lab) (Q : VPost) : VPost := (vblockQ 0 (vseqQ (vc P p r21_2 Q) Q))
theorem q21_0_ret (P : Program) (p : Lab) (Q : VPost) (r : RL) (H : Heap) (c : Nat) : q21_0 P p Q .ret r H c = Q .ret r H c := rfl
def k21_2 (P : Program) (p : Lab) (Q : VPost) (y0 : AV) (y1 : AV) (y10 : AV) (H : Heap) (c : Nat) : Prop :=
  vc P p l21_1 (q21_0 P p Q) [(0, y0), (1, y1), (5, (.int .i64 0))] H (c + 1)
def k21_3 (P : Program) (p : Lab) (Q : VPost) (v10_5 : AV) (x0 : AV) (x1 : AV) (H : Heap) (c : Nat) (_ : Unit) : Prop :=
  (k21_2 P p Q x0 x1 v10_5 H (c + 6))
def V21 (P : Program) (p : Lab) (Q : VPost) (x0 x1 : AV) (H : Heap) (c : Nat) : Prop :=
  vLen x0 fun v7_2 =>
  vLen x1 fun v9_4 =>
  vBin .neq .num v7_2 v9_4 fun v10_5 =>
  vSel v10_5
  (k21_1 P p Q H c)
  (k21_3 P p Q v10_5 x0 x1 H c)
theorem vt21 (P : Program) (p : Lab) (Q : VPost) (x0 x1 : AV) (H : Heap) (c : Nat) : vc P p c21.body Q [(0, x0), (1, x1)] H c = V21 P p Q x0 x1 H c := by kernel_rfl
def k21_5 (P : Program) (p : Lab) (Q : VPost)  (H : Heap) (c : Nat) : Prop :=
  Q .ret [(4, (.bool false))] H c
def k21_6 (P : Program) (p : Lab) (Q : VPost) (H : Heap) (c : Nat) (_ : Unit) : Prop :=
  (k21_5 P p Q  H (c + 10))
def k21_7 (P : Program) (p : Lab) (Q : VPost) (y0 : AV) (y1 : AV) (y5 : AV) (y25 : AV) (H : Heap) (c : Nat) : Prop :=
  vBin .add .num y5 (.int .i64 1) fun v16_23 =>
  Q .normal [(0, y0), (1, y1), (5, v16_23)] H (c + 3)
def k21_8 (P : Program) (p : Lab) (Q : VPost) (v25_20 : AV) (y0 : AV) (y1 : AV) (y5 : AV) (H : Heap) (c : Nat) (_ : Unit) : Prop :=
  (k21_7 P p Q y0 y1 y5 v25_20 H (c + 9))
def k21_4 (P : Program) (p : Lab) (Q : VPost) (y0 : AV) (y1 : AV) (y5 : AV) (y14 : AV) (H : Heap) (c : Nat) : Prop :=
  vIx 1 y0 y5 fun v19_14 =>
  vLoad 1 false v19_14 H fun v20_15 f15 =>
  vIx 1 y1 y5 fun v23_18 =>
  vLoad 1 false v23_18 H fun v24_19 f19 =>
  vBin .neq .num v20_15 v24_19 fun v25_20 =>
  clashFree [0, 0, 3, 7, 0, 0, 48, 112, 255] (addTr 3 [] ((c + 3) :: p) f15 (addTr 7 [] ((c + 7) :: p) f19 [])) ∧
  vSel v25_20
  (k21_6 P p Q H c)
  (k21_8 P p Q v25_20 y0 y1 y5 H c)
def k21_9 (P : Program) (p : Lab) (Q : VPost) (v14_11 : AV) (x0 : AV) (x1 : AV) (x5 : AV) (H : Heap) (c : Nat) (_ : Unit) : Prop :=
  (k21_4 P p Q x0 x1 x5 v14_11 H (c + 4))
def V21_1 (P : Program) (p : Lab) (Q : VPost) (x0 x1 x5 : AV) (H : Heap) (c : Nat) : Prop :=
  vLen x0 fun v13_10 =>
  vBin .lss .num x5 v13_10 fun v14_11 =>
  vSel v14_11
  (k21_9 P p Q v14_11 x0 x1 x5 H c)
  (fun _ =>
  Q (.exit 0) [(0, x0), (1, x1), (5, x5), (14, v14_11)] H (c + 4))
theorem vt21_1 (P : Program) (p : Lab) (Q : VPost) (x0 x1 x5 : AV) (H : Heap) (c : Nat) : vc P p b21_1 Q [(0, x0), (1, x1), (5, x5)] H c = V21_1 P p Q x0 x1 x5 H c := by kernel_rfl
theorem q21_0_e0 (P : Program) (p : Lab) (Q : VPost) (r : RL) (H : Heap) (c : Nat) : q21_0 P p Q (.exit 0) r H c = (vc P p r21_2 Q r H c) := rfl
def V21_2 (P : Program) (p : Lab) (Q : VPost) (x0 x1 x5 x14 : AV) (H : Heap) (c : Nat) : Prop :=
  Q .ret [(4, (.bool true))] H (c + 1)
theorem vt21_2 (P : Program) (p : Lab) (Q : VPost) (x0 x1 x5 x14 : AV) (H : Heap) (c : Nat) : vc P p r21_2 Q [(0, x0), (1, x1), (5, x5), (14, x14)] H c = V21_2 P p Q x0 x1 x5 x14 H c := by kernel_rfl


/-- slices.Clone[[]int,int] -/
def c25 : AFun := ⟨1, 8, [.tmp 2],
  (.seq (.region [⟨(some 2), none, .move, [.c .nils]⟩] none [0])
  (.seq (.seq (.region [⟨(some 3), none, .move, [.t 0]⟩, ⟨(some 4), none, (.bin .eql .slice), [.t 3, .c .nils]⟩] none [0, 4])
  (.cond (.t 4) (.seq (.region [⟨(some 2), none, .move, [.c .nils]⟩] none [2])
  .ret)
  .skip))
  (.seq (.region [⟨(some 5), none, (.buildSlice 1 [] []), []⟩, ⟨(some 6), none, .move, [.t 0]⟩, ⟨(some 7), none, (.append 1 8), [.t 5, .t 6]⟩, ⟨(some 2), none, .move, [.t 7]⟩] none [2])
  .ret)))⟩
theorem ok25 : FunOk Try.prog 25 c25 := ⟨⟨Try.f25, _, Try.func25, rfl, by kernel_rfl, by kernel_rfl, by kernel_rfl, by kernel_rfl⟩, by decide⟩
theorem res25 : c25.res = [.tmp 2] := rfl
def k25_0 (P : Program) (p : Lab) (Q : VPost)  (H : Heap) (c : Nat) : Prop :=
  Q .ret [(2, .nils)] H c
def k25_1 (P : Program) (p : Lab) (Q : VPost) (H : Heap) (c : Nat) (_ : Unit) : Prop :=
  (k25_0 P p Q  H (c + 4))
def k25_2 (P : Program) (p : Lab) (Q : VPost) (y0 : AV) (y4 : AV) (H : Heap) (c : Nat) : Prop :=
  vBuildS 1 [] [] [] fun w4 n4 =>
  (fun (H4 : Heap) =>
  vGen (.append 1 8) [(.sl (c :: p) 1 0 n4), y0] H4 ((c + 2) :: p) (fun v7_6 H6 l6 f6 =>
  Q .ret [(2, v7_6)] H6 (c + 4))) (upd [((c :: p), some (.rows 1 w4))] H)
def k25_3 (P : Program) (p : Lab) (Q : VPost) (v4_2 : AV) (x0 : AV) (H : Heap) (c : Nat) (_ : Unit) : Prop :=
  (k25_2 P p Q x0 v4_2 H (c + 3))
def V25 (P : Program) (p : Lab) (Q : VPost) (x0 : AV) (H : Heap) (c : Nat) : Prop :=
  vEqS x0 .nils fun v4_2 =>
  vSel v4_2
  (k25_1 P p Q H c)
  (k25_3 P p Q v4_2 x0 H c)
theorem vt25 (P : Program) (p : Lab) (Q : VPost) (x0 : AV) (H : Heap) (c : Nat) : vc P p c25.body Q [(0, x0)] H c = V25 P p Q x0 H c := by kernel_rfl

def b35_1 : ACode := (.seq (.seq (.region [⟨(some 7), none, .move, [.t 2]⟩, ⟨(some 8), none, .move, [.t 3]⟩, ⟨(some 9), none, (.bin .lss .num), [.t 7, .t 8]⟩] none [0, 2, 3, 9])
  (.cond (.t 9) .skip
  (.exit 0)))
  (.seq (.block 1 (.region [⟨(some 14), none, .move, [.t 0]⟩, ⟨(some 15), none, .move, [.t 2]⟩, ⟨(some 16), none, .move, [.t 0]⟩, ⟨(some 17), none, .move, [.t 3]⟩, ⟨(some 18), none, .move, [.t 0]⟩, ⟨(some 19), none, .move, [.t 3]⟩, ⟨(some 20), none, (.indexAddr 1), [.t 18, .t 19]⟩, ⟨(some 21), none, (.load 1 false), [.t 20]⟩, ⟨(some 22), none, .move, [.t 0]⟩, ⟨(some 23), none, .move, [.t 2]⟩, ⟨(some 24), none, (.indexAddr 1), [.t 22, .t 23]⟩, ⟨(some 25), none, (.load 1 false), [.t 24]⟩, ⟨(some 26), none, (.indexAddr 1), [.t 14, .t 15]⟩, ⟨none, none, (.store 1), [.t 26, .t 21]⟩, ⟨(some 27), none, (.indexAddr 1), [.t 16, .t 17]⟩, ⟨none, none, (.store 1), [.t 27, .t 25]⟩] (some [0, 0, 0, 0, 0, 0, 48, 112, 0, 0, 768, 1792, 4083, 8179, 16383, 32767]) [0, 2, 3]))
  (.region [⟨(some 10), none, .move, [.t 2]⟩, ⟨(some 11), none, (.bin .add .num), [.t 10, .c (.int .i64 1)]⟩, ⟨(some 12), none, .move, [.t 3]⟩, ⟨(some 13), none, (.bin .sub .num), [.t 12, .c (.int .i64 1)]⟩, ⟨(some 2), none, .move, [.t 11]⟩, ⟨(some 3), none, .move, [.t 13]⟩] none [0, 2, 3])))
def l35_1 : ACode := .loop [0, 2, 3] b35_1
/-- slices.Reverse[[]int,int] -/
def c35 : AFun := ⟨1, 28, [],
  (.seq (.region [⟨(some 4), none, .move, [.t 0]⟩, ⟨(some 5), none, (.len .slice), [.t 4]⟩, ⟨(some 6), none, (.bin .sub .num), [.t 5, .c (.int .i64 1)]⟩, ⟨(some 2), none, .move, [.c (.int .i64 0)]⟩, ⟨(some 3), none, .move, [.t 6]⟩] none [0, 2, 3])
  (.block 0 l35_1))⟩
theorem ok35 : FunOk Try.prog 35 c35 := ⟨⟨Try.f35, _, Try.func35, rfl, by kernel_rfl, by kernel_rfl, by kernel_rfl, by kernel_rfl⟩, by decide⟩
theorem res35 : c35.res = [] := rfl
def q35_0 (P : Program) (p : Lab) (Q : VPost) : VPost := (vblockQ 0 Q)
theorem q35_0_ret (P : Program) (p : Lab) (Q : VPost) (r : RL) (H : Heap) (c : Nat) : q35_0 P p Q .ret r H c = Q .ret r H c := rfl
def V35 (P : Program) (p : Lab) (Q : VPost) (x0 : AV) (H : Heap) (c : Nat) : Prop :=
  vLen x0 fun v5_1 =>
  vBin .sub .num v5_1 (.int .i64 1) fun v6_2 =>
  vc P p l35_1 (q35_0 P p Q) [(0, x0), (2, (.int .i64 0)), (3, v6_2)] H (c + 5)
theorem vt35 (P : Program) (p : Lab) (Q : VPost) (x0 : AV) (H : Heap) (c : Nat) : vc P p c35.body Q [(0, x0)] H c = V35 P p Q x0 H c := by kernel_rfl
def k35_1 (P : Program) (p : Lab) (Q : VPost) (l21 : List Lab) (f21 : Option (List Lab)) (f19 : Option (List Lab)) (f15 : Option (List Lab)) (y0 : AV) (y2 : AV) (y3 : AV) (c : Nat) (v_23 : AV) (H23 : Heap) (l23 : List Lab) (f23 : Option (List Lab)) : Prop :=
  clashFree [0, 0, 0, 0, 0, 0, 48, 112, 0, 0, 768, 1792, 4083, 8179, 16383, 32767] (addTr 7 [] ((c + 7) :: p) f15 (addTr 11 [] ((c + 11) :: p) f19 (addTr 13 l21 ((c + 13) :: p) f21 (addTr 15 l23 ((c + 15) :: p) f23 [])))) ∧
  vBin .add .num y2 (.int .i64 1) fun v11_25 =>
  vBin .sub .num y3 (.int .i64 1) fun v13_27 =>
  Q .normal [(0, y0), (2, v11_25), (3, v13_27)] H23 (c + 22)
def k35_2 (P : Program) (p : Lab) (Q : VPost) (v25_19 : AV) (f19 : Option (List Lab)) (f15 : Option (List Lab)) (y0 : AV) (y2 : AV) (y3 : AV) (c : Nat) (v_21 : AV) (H21 : Heap) (l21 : List Lab) (f21 : Option (List Lab)) : Prop :=
  vIx 1 y0 y3 fun v27_22 =>
  vGen (.store 1) [v27_22, v25_19] H21 ((c + 15) :: p) (k35_1 P p Q l21 f21 f19 f15 y0 y2 y3 c)
def k35_0 (P : Program) (p : Lab) (Q : VPost) (y0 : AV) (y2 : AV) (y3 : AV) (y9 : AV) (H : Heap) (c : Nat) : Prop :=
  vIx 1 y0 y3 fun v20_14 =>
  vLoad 1 false v20_14 H fun v21_15 f15 =>
  vIx 1 y0 y2 fun v24_18 =>
  vLoad 1 false v24_18 H fun v25_19 f19 =>
  vIx 1 y0 y2 fun v26_20 =>
  vGen (.store 1) [v26_20, v21_15] H ((c + 13) :: p) (k35_2 P p Q v25_19 f19 f15 y0 y2 y3 c)
def k35_3 (P : Program) (p : Lab) (Q : VPost) (v9_7 : AV) (x0 : AV) (x2 : AV) (x3 : AV) (H : Heap) (c : Nat) (_ : Unit) : Prop :=
  (k35_0 P p Q x0 x2 x3 v9_7 H (c + 3))
def V35_1 (P : Program) (p : Lab) (Q : VPost) (x0 x2 x3 : AV) (H : Heap) (c : Nat) : Prop :=
  vBin .lss .num x2 x3 fun v9_7 =>
  vSel v9_7
  (k35_3 P p Q v9_7 x0 x2 x3 H c)
  (fun _ =>
  Q (.exit 0) [(0, x0), (2, x2), (3, x3), (9, v9_7)] H (c + 3))
theorem vt35_1 (P : Program) (p : Lab) (Q : VPost) (x0 x2 x3 : AV) (H : Heap) (c : Nat) : vc P p b35_1 Q [(0, x0), (2, x2), (3, x3)] H c = V35_1 P p Q x0 x2 x3 H c := by kernel_rfl
theorem q35_0_e0 (P : Program) (p : Lab) (Q : VPost) (r : RL) (H : Heap) (c : Nat) : q35_0 P p Q (.exit 0) r H c = (Q .normal r H c) := rfl

def b36_1 : ACode := (.seq (.region [⟨(some 9), none, (.bin .lss .num), [.t 8, .t 7]⟩] none [0, 1, 7, 8, 9])
  (.seq (.cond (.t 9) .skip
  (.exit 0))
  (.seq (.block 1 (.seq (.region [⟨(some 10), none, .move, [.t 8]⟩, ⟨(some 5), none, .move, [.t 10]⟩] none [0, 1, 5, 7, 8])
  (.seq (.region [⟨(some 11), none, .move, [.t 1]⟩, ⟨(some 12), none, .move, [.t 0]⟩, ⟨(some 13), none, .move, [.t 5]⟩, ⟨(some 14), none, (.indexAddr 1), [.t 12, .t 13]⟩, ⟨(some 15), none, (.load 1 false), [.t 14]⟩, ⟨(some 16), none, .call, [.t 11, .t 15]⟩] none [0, 1, 5, 7, 8, 16])
  (.cond (.t 16) (.seq (.region [⟨(some 17), none, .move, [.t 5]⟩, ⟨(some 4), none, .move, [.t 17]⟩] none [4])
  .ret)
  .skip))))
  (.region [⟨(some 18), none, (.bin .add .num), [.t 8, .c (.int .i64 1)]⟩, ⟨(some 8), none, .move, [.t 18]⟩] none [0, 1, 7, 8]))))
def l36_1 : ACode := .loop [0, 1, 7, 8] b36_1
def r36_2 : ACode := (.seq (.region [⟨(some 4), none, .move, [.c (.int .i64 (-1))]⟩] none [4])
  .ret)
/-- slices.IndexFunc[[]int,int] -/
def c36 : AFun := ⟨2, 19, [.tmp 4],
  (.seq (.region [⟨(some 4), none, .move, [.c (.int .i64 0)]⟩] none [0, 1])
  (.seq (.seq (.region [⟨(some 6), none, .move, [.t 0]⟩, ⟨(some 7), none, (.len .slice), [.t 6]⟩, ⟨(some 8), none, .move, [.c (.int .i64 0)]⟩] none [0, 1, 7, 8])
  (.block 0 l36_1)) r36_2))⟩
theorem ok36 : FunOk Try.prog 36 c36 := ⟨⟨Try.f36, _, Try.func36, rfl, by kernel_rfl, by kernel_rfl, by kernel_rfl, by kernel_rfl⟩, by decide⟩
theorem res36 : c36.res = [.tmp 4] := rfl
def q36_0 (P : Program) (p : Lab) (Q : VPost) : VPost := (vblockQ 0 (vseqQ (vc P p r36_2 Q) Q))
theorem q36_0_ret (P : Program) (p : Lab) (Q : VPost) (r : RL) (H : Heap) (c : Nat) : q36_0 P p Q .ret r H c = Q .ret r H c := rfl
def V36 (P : Program) (p : Lab) (Q : VPost) (x0 x1 : AV) (H : Heap) (c : Nat) : Prop :=
  vLen x0 fun v7_2 =>
  vc P p l36_1 (q36_0 P p Q) [(0, x0), (1, x1), (7, v7_2), (8, (.int .i64 0))] H (c + 4)
theorem vt36 (P : Program) (p : Lab) (Q : VPost) (x0 x1 : AV) (H : Heap) (c : Nat) : vc P p c36.body Q [(0, x0), (1, x1)] H c = V36 P p Q x0 x1 H c := by kernel_rfl
def k36_1 (P : Program) (p : Lab) (Q : VPost) (y4 : AV) (H : Heap) (c : Nat) : Prop :=
  Q .ret [(4, y4)] H c
def k36_2 (P : Program) (p : Lab) (Q : VPost) (H12 : Heap) (y8 : AV) (c : Nat) (_ : Unit) : Prop :=
  (k36_1 P p Q y8 H12 (c + 10))
def k36_3 (P : Program) (p : Lab) (Q : VPost) (y0 : AV) (y1 : AV) (y5 : AV) (y7 : AV) (y8 : AV) (y16 : AV) (H : Heap) (c : Nat) : Prop :=
  vBin .add .num y8 (.int .i64 1) fun v18_15 =>
  Q .normal [(0, y0), (1, y1), (7, y7), (8, v18_15)] H (c + 2)
def k36_4 (P : Program) (p : Lab) (Q : VPost) (v16_12 : AV) (H12 : Heap) (y0 : AV) (y1 : AV) (y7 : AV) (y8 : AV) (c : Nat) (_ : Unit) : Prop :=
  (k36_3 P p Q y0 y1 y8 y7 y8 v16_12 H12 (c + 8))
def k36_5 (P : Program) (p : Lab) (Q : VPost) (y0 : AV) (y1 : AV) (y7 : AV) (y8 : AV) (c : Nat) (v16_12 : AV) (H12 : Heap) (l12 : List Lab) (f12 : Option (List Lab)) : Prop :=
  vSel v16_12
  (k36_2 P p Q H12 y8 c)
  (k36_4 P p Q v16_12 H12 y0 y1 y7 y8 c)
def k36_0 (P : Program) (p : Lab) (Q : VPost) (y0 : AV) (y1 : AV) (y7 : AV) (y8 : AV) (y9 : AV) (H : Heap) (c : Nat) : Prop :=
  vIx 1 y0 y8 fun v14_10 =>
  vLoad 1 false v14_10 H fun v15_11 _ =>
  vopS P .call [y1, v15_11] H ((c + 7) :: p) (k36_5 P p Q y0 y1 y7 y8 c)
def k36_6 (P : Program) (p : Lab) (Q : VPost) (v9_4 : AV) (x0 : AV) (x1 : AV) (x7 : AV) (x8 : AV) (H : Heap) (c : Nat) (_ : Unit) : Prop :=
  (k36_0 P p Q x0 x1 x7 x8 v9_4 H (c + 1))
def V36_1 (P : Program) (p : Lab) (Q : VPost) (x0 x1 x7 x8 : AV) (H : Heap) (c : Nat) : Prop :=
  vBin .lss .num x8 x7 fun v9_4 =>
  vSel v9_4
  (k36_6 P p Q v9_4 x0 x1 x7 x8 H c)
  (fun _ =>
  Q (.exit 0) [(0, x0), (1, x1), (7, x7), (8, x8), (9, v9_4)] H (c + 1))
theorem vt36_1 (P : Program) (p : Lab) (Q : VPost) (x0 x1 x7 x8 : AV) (H : Heap) (c : Nat) : vc P p b36_1 Q [(0, x0), (1, x1), (7, x7), (8, x8)] H c = V36_1 P p Q x0 x1 x7 x8 H c := by kernel_rfl
theorem q36_0_e0 (P : Program) (p : Lab) (Q : VPost) (r : RL) (H : Heap) (c : Nat) : q36_0 P p Q (.exit 0) r H c = (vc P p r36_2 Q r H c) := rfl
def V36_2 (P : Program) (p : Lab) (Q : VPost) (x0 x1 x7 x8 x9 : AV) (H : Heap) (c : Nat) : Prop :=
  Q .ret [(4, (.int .i64 (-1)))] H (c + 1)
theorem vt36_2 (P : Program) (p : Lab) (Q : VPost) (x0 x1 x7 x8 x9 : AV) (H : Heap) (c : Nat) : vc P p r36_2 Q [(0, x0), (1, x1), (7, x7), (8, x8), (9, x9)] H c = V36_2 P p Q x0 x1 x7 x8 x9 H c := by kernel_rfl

def b22_1 : ACode := (.seq (.region [⟨(some 28), none, (.bin .lss .num), [.t 27, .t 26]⟩] none [0, 1, 25, 26, 27, 28])
  (.seq (.cond (.t 28) .skip
  (.exit 0))
  (.seq (.block 1 (.seq (.region [⟨(some 29), none, (.indexAddr 1), [.t 25, .t 27]⟩, ⟨(some 30), none, (.load 1 false), [.t 29]⟩, ⟨(some 9), none, (.alloc [(.bool false)]), []⟩, ⟨none, none, (.store 1), [.t 9, .t 30]⟩] none [0, 1, 9, 25, 26, 27])
  (.seq (.region [⟨(some 31), none, .move, [.t 0]⟩, ⟨(some 32), none, .move, [.t 1]⟩, ⟨(some 33), none, (.slice 1 true false false), [.t 31, .t 32]⟩, ⟨(some 34), none, (.mkfn (.func 37) 0), [.t 9]⟩, ⟨(some 35), none, .call, [.c (.fn (.func 36) [] []), .t 33, .t 34]⟩, ⟨(some 10), none, .move, [.t 35]⟩] none [0, 1, 10, 25, 26, 27])
  (.seq (.seq (.region [⟨(some 36), none, .move, [.t 10]⟩, ⟨(some 37), none, (.bin .lss .num), [.t 36, .c (.int .i64 0)]⟩] none [0, 1, 10, 25, 26, 27, 37])
  (.cond (.t 37) (.seq (.region [⟨(some 38), none, .move, [.t 0]⟩, ⟨(some 39), none, (.len .slice), [.t 38]⟩, ⟨(some 6), none, .move, [.t 39]⟩] none [6])
  .ret)
  .skip))
  (.region [⟨(some 40), none, .move, [.t 1]⟩, ⟨(some 41), none, .move, [.t 10]⟩, ⟨(some 42), none, (.bin .add .num), [.t 40, .t 41]⟩, ⟨(some 1), none, .move, [.t 42]⟩] none [0, 1, 25, 26, 27])))))
  (.region [⟨(some 43), none, (.bin .add .num), [.t 27, .c (.int .i64 1)]⟩, ⟨(some 27), none, .move, [.t 43]⟩] none [0, 1, 25, 26, 27]))))
def l22_1 : ACode := .loop [0, 1, 25, 26, 27] b22_1
def r22_2 : ACode := (.seq (.region [⟨(some 44), none, .move, [.t 1]⟩, ⟨(some 6), none, .move, [.t 44]⟩] none [6])
  .ret)
/-- duet/edit.Word -/
def c22 : AFun := ⟨3, 45, [.tmp 6],
  (.seq (.region [⟨(some 6), none, .move, [.c (.int .i64 0)]⟩] none [0, 1, 2])
  (.seq (.region [⟨(some 11), none, .move, [.t 0]⟩, ⟨(some 12), none, .move, [.t 1]⟩, ⟨(some 13), none, .call, [.c (.fn (.func 26) [] []), .t 11, .t 12]⟩, ⟨(some 1), none, .move, [.t 13]⟩] none [0, 1, 2])
  (.seq (.seq (.region [⟨(some 14), none, .move, [.t 2]⟩] none [0, 1, 14])
  (.cond (.t 14) (.seq (.region [⟨(some 15), none, .move, [.t 0]⟩, ⟨(some 16), none, .move, [.t 1]⟩, ⟨(some 17), none, (.slice 1 false true false), [.t 15, .t 16]⟩, ⟨(some 18), none, .call, [.c (.fn (.func 25) [] []), .t 17]⟩, ⟨(some 7), none, .move, [.t 18]⟩] none [1, 7])
  (.seq (.region [⟨(some 19), none, .move, [.t 7]⟩, ⟨(some 20), none, .call, [.c (.fn (.func 35) [] []), .t 19]⟩] none [1, 7])
  (.seq (.region [⟨(some 21), none, .move, [.t 1]⟩, ⟨(some 22), none, .move, [.t 7]⟩, ⟨(some 23), none, .call, [.c (.fn (.func 22) [] []), .t 22, .c (.int .i64 0), .c (.bool false)]⟩, ⟨(some 24), none, (.bin .sub .num), [.t 21, .t 23]⟩, ⟨(some 6), none, .move, [.t 24]⟩] none [6])
  .ret)))
  .skip))
  (.seq (.seq (.region [⟨(some 25), none, (.buildSlice 1 [(.bool false), (.bool false)] [(0, 1), (1, 1)]), [.c (.bool false), .c (.bool true)]⟩, ⟨(some 26), none, (.len .slice), [.t 25]⟩, ⟨(some 27), none, .move, [.c (.int .i64 0)]⟩] none [0, 1, 25, 26, 27])
  (.block 0 l22_1)) r22_2))))⟩
theorem ok22 : FunOk Try.prog 22 c22 := ⟨⟨Try.f22, _, Try.func22, rfl, by kernel_rfl, by kernel_rfl, by kernel_rfl, by kernel_rfl⟩, by decide⟩
theorem res22 : c22.res = [.tmp 6] := rfl
def k22_1 (P : Program) (p : Lab) (Q : VPost) (v18_9 : AV) (y1 : AV) (c : Nat) (v20_12 : AV) (H12 : Heap) (l12 : List Lab) (f12 : Option (List Lab)) : Prop :=
  vCall true P 22 [v18_9, (.int .i64 0), (.bool false)] H12 ((c + 9) :: p) (fun v23_15 H15 l15 f15 =>
  vBin .sub .num y1 v23_15 fun v24_16 =>
  Q .ret [(6, v24_16)] H15 (c + 12))
def k22_2 (P : Program) (p : Lab) (Q : VPost) (y1 : AV) (c : Nat) (v18_9 : AV) (H9 : Heap) (l9 : List Lab) (f9 : Option (List Lab)) : Prop :=
  vCall true P 35 [v18_9] H9 ((c + 6) :: p) (k22_1 P p Q v18_9 y1 c)
def k22_3 (P : Program) (p : Lab) (Q : VPost) (y1 : AV) (c : Nat) (v17_8 : AV) (H8 : Heap) (l8 : List Lab) (f8 : Option (List Lab)) : Prop :=
  vCall true P 25 [v17_8] H8 ((c + 3) :: p) (k22_2 P p Q y1 c)
def k22_0 (P : Program) (p : Lab) (Q : VPost) (y0 : AV) (y1 : AV) (H : Heap) (c : Nat) : Prop :=
  vGen (.slice 1 false true false) [y0, y1] H ((c + 2) :: p) (k22_3 P p Q y1 c)
def k22_4 (P : Program) (p : Lab) (Q : VPost) (v13_3 : AV) (H3 : Heap) (x0 : AV) (c : Nat) (_ : Unit) : Prop :=
  (k22_0 P p Q x0 v13_3 H3 (c + 6))
def q22_0 (P : Program) (p : Lab) (Q : VPost) : VPost := (vblockQ 0 (vseqQ (vc P p r22_2 Q) Q))
theorem q22_0_ret (P : Program) (p : Lab) (Q : VPost) (r : RL) (H : Heap) (c : Nat) : q22_0 P p Q .ret r H c = Q .ret r H c := rfl
def k22_5 (P : Program) (p : Lab) (Q : VPost) (y0 : AV) (y1 : AV) (y14 : AV) (H : Heap) (c : Nat) : Prop :=
  vBuildS 1 [(.bool false), (.bool false)] [(0, 1), (1, 1)] [(.bool false), (.bool true)] fun w18 n18 =>
  (fun (H18 : Heap) =>
  vLen (.sl (c :: p) 1 0 n18) fun v26_19 =>
  vc P p l22_1 (q22_0 P p Q) [(0, y0), (1, y1), (25, (.sl (c :: p) 1 0 n18)), (26, v26_19), (27, (.int .i64 0))] H18 (c + 3)) (upd [((c :: p), some (.rows 1 w18))] H)
def k22_6 (P : Program) (p : Lab) (Q : VPost) (v13_3 : AV) (H3 : Heap) (x0 : AV) (x2 : AV) (c : Nat) (_ : Unit) : Prop :=
  (k22_5 P p Q x0 v13_3 x2 H3 (c + 6))
def k22_7 (P : Program) (p : Lab) (Q : VPost) (x0 : AV) (x2 : AV) (c : Nat) (v13_3 : AV) (H3 : Heap) (l3 : List Lab) (f3 : Option (List Lab)) : Prop :=
  vSel x2
  (k22_4 P p Q v13_3 H3 x0 c)
  (k22_6 P p Q v13_3 H3 x0 x2 c)
def V22 (P : Program) (p : Lab) (Q : VPost) (x0 x1 x2 : AV) (H : Heap) (c : Nat) : Prop :=
  vCall true P 26 [x0, x1] H ((c + 3) :: p) (k22_7 P p Q x0 x2 c)
theorem vt22 (P : Program) (p : Lab) (Q : VPost) (x0 x1 x2 : AV) (H : Heap) (c : Nat) : vc P p c22.body Q [(0, x0), (1, x1), (2, x2)] H c = V22 P p Q x0 x1 x2 H c := by kernel_rfl
def k22_9 (P : Program) (p : Lab) (Q : VPost) (y6 : AV) (H : Heap) (c : Nat) : Prop :=
  Q .ret [(6, y6)] H c
def k22_10 (P : Program) (p : Lab) (Q : VPost) (H30 : Heap) (y0 : AV) (c : Nat) (_ : Unit) : Prop :=
  vLen y0 fun v39_35 =>
  (k22_9 P p Q v39_35 H30 (c + 15))
def k22_11 (P : Program) (p : Lab) (Q : VPost) (y0 : AV) (y1 : AV) (y10 : AV) (y25 : AV) (y26 : AV) (y27 : AV) (y37 : AV) (H : Heap) (c : Nat) : Prop :=
  vBin .add .num y1 y10 fun v42_39 =>
  vBin .add .num y27 (.int .i64 1) fun v43_41 =>
  Q .normal [(0, y0), (1, v42_39), (25, y25), (26, y26), (27, v43_41)] H (c + 6)
def k22_12 (P : Program) (p : Lab) (Q : VPost) (v37_33 : AV) (v35_30 : AV) (H30 : Heap) (y0 : AV) (y1 : AV) (y25 : AV) (y26 : AV) (y27 : AV) (c : Nat) (_ : Unit) : Prop :=
  (k22_11 P p Q y0 y1 v35_30 y25 y26 y27 v37_33 H30 (c + 12))
def k22_13 (P : Program) (p : Lab) (Q : VPost) (y0 : AV) (y1 : AV) (y25 : AV) (y26 : AV) (y27 : AV) (c : Nat) (v35_30 : AV) (H30 : Heap) (l30 : List Lab) (f30 : Option (List Lab)) : Prop :=
  vBin .lss .num v35_30 (.int .i64 0) fun v37_33 =>
  vSel v37_33
  (k22_10 P p Q H30 y0 c)
  (k22_12 P p Q v37_33 v35_30 H30 y0 y1 y25 y26 y27 c)
def k22_14 (P : Program) (p : Lab) (Q : VPost) (y0 : AV) (y1 : AV) (y25 : AV) (y26 : AV) (y27 : AV) (c : Nat) (v33_28 : AV) (H28 : Heap) (l28 : List Lab) (f28 : Option (List Lab)) : Prop :=
  vCall true P 36 [v33_28, (.fn (.func 37) [] [(.ptr ((c + 2) :: p) 1 0 0)])] H28 ((c + 8) :: p) (k22_13 P p Q y0 y1 y25 y26 y27 c)
def k22_15 (P : Program) (p : Lab) (Q : VPost) (y0 : AV) (y1 : AV) (y25 : AV) (y26 : AV) (y27 : AV) (c : Nat) (v_25 : AV) (H25 : Heap) (l25 : List Lab) (f25 : Option (List Lab)) : Prop :=
  vGen (.slice 1 true false false) [y0, y1] H25 ((c + 6) :: p) (k22_14 P p Q y0 y1 y25 y26 y27 c)
def k22_8 (P : Program) (p : Lab) (Q : VPost) (y0 : AV) (y1 : AV) (y25 : AV) (y26 : AV) (y27 : AV) (y28 : AV) (H : Heap) (c : Nat) : Prop :=
  vIx 1 y25 y27 fun v29_22 =>
  vLoad 1 false v29_22 H fun v30_23 _ =>
  (fun (H24 : Heap) =>
  vGen (.store 1) [(.ptr ((c + 2) :: p) 1 0 0), v30_23] H24 ((c + 3) :: p) (k22_15 P p Q y0 y1 y25 y26 y27 c)) (upd [(((c + 2) :: p), some (.rows 1 [[(.bool false)]]))] H)
def k22_16 (P : Program) (p : Lab) (Q : VPost) (v28_21 : AV) (x0 : AV) (x1 : AV) (x25 : AV) (x26 : AV) (x27 : AV) (H : Heap) (c : Nat) (_ : Unit) : Prop :=
  (k22_8 P p Q x0 x1 x25 x26 x27 v28_21 H (c + 1))
def V22_1 (P : Program) (p : Lab) (Q : VPost) (x0 x1 x25 x26 x27 : AV) (H : Heap) (c : Nat) : Prop :=
  vBin .lss .num x27 x26 fun v28_21 =>
  vSel v28_21
  (k22_16 P p Q v28_21 x0 x1 x25 x26 x27 H c)
  (fun _ =>
  Q (.exit 0) [(0, x0), (1, x1), (25, x25), (26, x26), (27, x27), (28, v28_21)] H (c + 1))
theorem vt22_1 (P : Program) (p : Lab) (Q : VPost) (x0 x1 x25 x26 x27 : AV) (H : Heap) (c : Nat) : vc P p b22_1 Q [(0, x0), (1, x1), (25, x25), (26, x26), (27, x27)] H c = V22_1 P p Q x0 x1 x25 x26 x27 H c := by kernel_rfl
theorem q22_0_e0 (P : Program) (p : Lab) (Q : VPost) (r : RL) (H : Heap) (c : Nat) : q22_0 P p Q (.exit 0) r H c = (vc P p r22_2 Q r H c) := rfl
def V22_2 (P : Program) (p : Lab) (Q : VPost) (x0 x1 x25 x26 x27 x28 : AV) (H : Heap) (c : Nat) : Prop :=
  Q .ret [(6, x1)] H (c + 2)
theorem vt22_2 (P : Program) (p : Lab) (Q : VPost) (x0 x1 x25 x26 x27 x28 : AV) (H : Heap) (c : Nat) : vc P p r22_2 Q [(0, x0), (1, x1), (25, x25), (26, x26), (27, x27), (28, x28)] H c = V22_2 P p Q x0 x1 x25 x26 x27 x28 H c := by kernel_rfl

def b23_1 : ACode := (.seq (.seq (.region [⟨(some 11), none, .move, [.t 1]⟩, ⟨(some 12), none, (.bin .gtr .num), [.t 11, .c (.int .i64 0)]⟩, ⟨(some 13), none, .move, [.t 12]⟩, ⟨(some 14), (some (13, true)), .move, [.t 0]⟩, ⟨(some 15), (some (13, true)), .move, [.t 1]⟩, ⟨(some 16), (some (13, true)), (.bin .sub .num), [.t 15, .c (.int .i64 1)]⟩, ⟨(some 17), (some (13, true)), (.indexAddr 1), [.t 14, .t 16]⟩, ⟨(some 18), (some (13, true)), (.load 1 false), [.t 17]⟩, ⟨(some 19), (some (13, true)), .call, [.c (.fn (.func 39) [] []), .t 18]⟩, ⟨(some 20), (some (13, true)), (.un .not), [.t 19]⟩, ⟨(some 21), none, .pick, [.t 13, .t 20, .c (.bool false)]⟩] none [0, 1, 21])
  (.cond (.t 21) .skip
  (.exit 0)))
  (.block 1 (.region [⟨(some 22), none, .move, [.t 1]⟩, ⟨(some 23), none, (.bin .sub .num), [.t 22, .c (.int .i64 1)]⟩, ⟨(some 1), none, .move, [.t 23]⟩] none [0, 1])))
def l23_1 : ACode := .loop [0, 1] b23_1
def b23_3 : ACode := (.seq (.seq (.region [⟨(some 24), none, .move, [.t 1]⟩, ⟨(some 25), none, (.bin .gtr .num), [.t 24, .c (.int .i64 0)]⟩, ⟨(some 26), none, .move, [.t 25]⟩, ⟨(some 27), (some (26, true)), .move, [.t 0]⟩, ⟨(some 28), (some (26, true)), .move, [.t 1]⟩, ⟨(some 29), (some (26, true)), (.bin .sub .num), [.t 28, .c (.int .i64 1)]⟩, ⟨(some 30), (some (26, true)), (.indexAddr 1), [.t 27, .t 29]⟩, ⟨(some 31), (some (26, true)), (.load 1 false), [.t 30]⟩, ⟨(some 32), (some (26, true)), .call, [.c (.fn (.func 39) [] []), .t 31]⟩, ⟨(some 33), none, .pick, [.t 26, .t 32, .c (.bool false)]⟩] none [0, 1, 33])
  (.cond (.t 33) .skip
  (.exit 2)))
  (.block 3 (.region [⟨(some 34), none, .move, [.t 1]⟩, ⟨(some 35), none, (.bin .sub .num), [.t 34, .c (.int .i64 1)]⟩, ⟨(some 1), none, .move, [.t 35]⟩] none [0, 1])))
def l23_3 : ACode := .loop [0, 1] b23_3
def r23_4 : ACode := (.seq (.region [⟨(some 36), none, .move, [.t 1]⟩, ⟨(some 6), none, .move, [.t 36]⟩] none [6])
  .ret)
def r23_2 : ACode := (.seq (.block 2 l23_3) r23_4)
def b23_6 : ACode := (.seq (.seq (.region [⟨(some 37), none, .move, [.t 1]⟩, ⟨(some 38), none, .move, [.t 0]⟩, ⟨(some 39), none, (.len .slice), [.t 38]⟩, ⟨(some 40), none, (.bin .lss .num), [.t 37, .t 39]⟩, ⟨(some 41), none, .move, [.t 40]⟩, ⟨(some 42), (some (41, true)), .move, [.t 0]⟩, ⟨(some 43), (some (41, true)), .move, [.t 1]⟩, ⟨(some 44), (some (41, true)), (.indexAddr 1), [.t 42, .t 43]⟩, ⟨(some 45), (some (41, true)), (.load 1 false), [.t 44]⟩, ⟨(some 46), (some (41, true)), .call, [.c (.fn (.func 39) [] []), .t 45]⟩, ⟨(some 47), (some (41, true)), (.un .not), [.t 46]⟩, ⟨(some 48), none, .pick, [.t 41, .t 47, .c (.bool false)]⟩] none [0, 1, 48])
  (.cond (.t 48) .skip
  (.exit 4)))
  (.block 5 (.region [⟨(some 49), none, .move, [.t 1]⟩, ⟨(some 50), none, (.bin .add .num), [.t 49, .c (.int .i64 1)]⟩, ⟨(some 1), none, .move, [.t 50]⟩] none [0, 1])))
def l23_6 : ACode := .loop [0, 1] b23_6
def b23_8 : ACode := (.seq (.seq (.region [⟨(some 51), none, .move, [.t 1]⟩, ⟨(some 52), none, .move, [.t 0]⟩, ⟨(some 53), none, (.len .slice), [.t 52]⟩, ⟨(some 54), none, (.bin .lss .num), [.t 51, .t 53]⟩, ⟨(some 55), none, .move, [.t 54]⟩, ⟨(some 56), (some (55, true)), .move, [.t 0]⟩, ⟨(some 57), (some (55, true)), .move, [.t 1]⟩, ⟨(some 58), (some (55, true)), (.indexAddr 1), [.t 56, .t 57]⟩, ⟨(some 59), (some (55, true)), (.load 1 false), [.t 58]⟩, ⟨(some 60), (some (55, true)), .call, [.c (.fn (.func 39) [] []), .t 59]⟩, ⟨(some 61), none, .pick, [.t 55, .t 60, .c (.bool false)]⟩] none [0, 1, 61])
  (.cond (.t 61) .skip
  (.exit 6)))
  (.block 7 (.region [⟨(some 62), none, .move, [.t 1]⟩, ⟨(some 63), none, (.bin .add .num), [.t 62, .c (.int .i64 1)]⟩, ⟨(some 1), none, .move, [.t 63]⟩] none [0, 1])))
def l23_8 : ACode := .loop [0, 1] b23_8
def r23_9 : ACode := (.seq (.region [⟨(some 64), none, .move, [.t 1]⟩, ⟨(some 6), none, .move, [.t 64]⟩] none [6])
  .ret)
def r23_7 : ACode := (.seq (.block 6 l23_8) r23_9)
def r23_5 : ACode := (.seq (.block 4 l23_6) r23_7)
/-- duet/duetref18.Word -/
def c23 : AFun := ⟨3, 65, [.tmp 6],
  (.seq (.region [⟨(some 6), none, .move, [.c (.int .i64 0)]⟩] none [0, 1, 2])
  (.seq (.region [⟨(some 7), none, .move, [.t 0]⟩, ⟨(some 8), none, .move, [.t 1]⟩, ⟨(some 9), none, .call, [.c (.fn (.func 29) [] []), .t 7, .t 8]⟩, ⟨(some 1), none, .move, [.t 9]⟩] none [0, 1, 2])
  (.seq (.seq (.region [⟨(some 10), none, .move, [.t 2]⟩] none [0, 1, 10])
  (.cond (.t 10) (.seq (.block 0 l23_1) r23_2)
  .skip)) r23_5)))⟩
theorem ok23 : FunOk Try.prog 23 c23 := ⟨⟨Try.f23, _, Try.func23, rfl, by kernel_rfl, by kernel_rfl, by kernel_rfl, by kernel_rfl⟩, by decide⟩
theorem res23 : c23.res = [.tmp 6] := rfl
def q23_0 (P : Program) (p : Lab) (Q : VPost) : VPost := (vblockQ 0 (vseqQ (vc P p r23_2 (vseqQ (vc P p r23_5 Q) Q)) (vseqQ (vc P p r23_5 Q) Q)))
theorem q23_0_ret (P : Program) (p : Lab) (Q : VPost) (r : RL) (H : Heap) (c : Nat) : q23_0 P p Q .ret r H c = Q .ret r H c := rfl
def q23_1 (P : Program) (p : Lab) (Q : VPost) : VPost := (vblockQ 4 (vseqQ (vc P p r23_7 Q) Q))
theorem q23_1_ret (P : Program) (p : Lab) (Q : VPost) (r : RL) (H : Heap) (c : Nat) : q23_1 P p Q .ret r H c = Q .ret r H c := rfl
def k23_0 (P : Program) (p : Lab) (Q : VPost) (y0 : AV) (y1 : AV) (y10 : AV) (H : Heap) (c : Nat) : Prop :=
  vc P p l23_6 (q23_1 P p Q) [(0, y0), (1, y1), (10, y10)] H c
def k23_1 (P : Program) (p : Lab) (Q : VPost) (v9_3 : AV) (H3 : Heap) (x0 : AV) (x2 : AV) (c : Nat) (_ : Unit) : Prop :=
  (k23_0 P p Q x0 v9_3 x2 H3 (c + 6))
def k23_2 (P : Program) (p : Lab) (Q : VPost) (x0 : AV) (x2 : AV) (c : Nat) (v9_3 : AV) (H3 : Heap) (l3 : List Lab) (f3 : Option (List Lab)) : Prop :=
  vSel x2
  (fun _ =>
  vc P p l23_1 (q23_0 P p Q) [(0, x0), (1, v9_3), (10, x2)] H3 (c + 6))
  (k23_1 P p Q v9_3 H3 x0 x2 c)
def V23 (P : Program) (p : Lab) (Q : VPost) (x0 x1 x2 : AV) (H : Heap) (c : Nat) : Prop :=
  vCall true P 29 [x0, x1] H ((c + 3) :: p) (k23_2 P p Q x0 x2 c)
theorem vt23 (P : Program) (p : Lab) (Q : VPost) (x0 x1 x2 : AV) (H : Heap) (c : Nat) : vc P p c23.body Q [(0, x0), (1, x1), (2, x2)] H c = V23 P p Q x0 x1 x2 H c := by kernel_rfl
def k23_4 (P : Program) (p : Lab) (Q : VPost) (y0 : AV) (y1 : AV) (y21 : AV) (H : Heap) (c : Nat) : Prop :=
  vBin .sub .num y1 (.int .i64 1) fun v23_18 =>
  Q .normal [(0, y0), (1, v23_18)] H (c + 3)
def k23_5 (P : Program) (p : Lab) (Q : VPost) (y0 : AV) (y1 : AV) (y21 : AV) (H : Heap) (c : Nat) (_ : Unit) : Prop :=
  (k23_4 P p Q y0 y1 y21 H c)
def k23_3 (P : Program) (p : Lab) (Q : VPost) (y0 : AV) (y1 : AV) (y21 : AV) (H : Heap) (c : Nat) : Prop :=
  vSel y21
  (k23_5 P p Q y0 y1 y21 H c)
  (fun _ =>
  Q (.exit 0) [(0, y0), (1, y1), (21, y21)] H c)
def k23_6 (P : Program) (p : Lab) (Q : VPost) (x0 : AV) (x1 : AV) (c : Nat) (v19_14 : AV) (H14 : Heap) (l14 : List Lab) (f14 : Option (List Lab)) : Prop :=
  vNot v19_14 fun v20_15 =>
  (k23_3 P p Q x0 x1 v20_15 H14 (c + 11))
def k23_7 (P : Program) (p : Lab) (Q : VPost) (x0 : AV) (x1 : AV) (H : Heap) (c : Nat) (_ : Unit) : Prop :=
  vBin .sub .num x1 (.int .i64 1) fun v16_11 =>
  vIx 1 x0 v16_11 fun v17_12 =>
  vLoad 1 false v17_12 H fun v18_13 _ =>
  vCall false P 39 [v18_13] H ((c + 8) :: p) (k23_6 P p Q x0 x1 c)
def k23_8 (P : Program) (p : Lab) (Q : VPost) (y0 : AV) (y1 : AV) (H : Heap) (c : Nat) : Prop :=
  Q (.exit 0) [(0, y0), (1, y1), (21, (.bool false))] H c
def k23_9 (P : Program) (p : Lab) (Q : VPost) (x0 : AV) (x1 : AV) (H : Heap) (c : Nat) (_ : Unit) : Prop :=
  (k23_8 P p Q x0 x1 H (c + 11))
def V23_1 (P : Program) (p : Lab) (Q : VPost) (x0 x1 : AV) (H : Heap) (c : Nat) : Prop :=
  vBin .gtr .num x1 (.int .i64 0) fun v12_7 =>
  vSel v12_7
  (k23_7 P p Q x0 x1 H c)
  (k23_9 P p Q x0 x1 H c)
theorem vt23_1 (P : Program) (p : Lab) (Q : VPost) (x0 x1 : AV) (H : Heap) (c : Nat) : vc P p b23_1 Q [(0, x0), (1, x1)] H c = V23_1 P p Q x0 x1 H c := by kernel_rfl
theorem q23_0_e0 (P : Program) (p : Lab) (Q : VPost) (r : RL) (H : Heap) (c : Nat) : q23_0 P p Q (.exit 0) r H c = (vc P p r23_2 (vseqQ (vc P p r23_5 Q) Q) r H c) := rfl
def k23_11 (P : Program) (p : Lab) (Q : VPost) (y0 : AV) (y1 : AV) (y48 : AV) (H : Heap) (c : Nat) : Prop :=
  vBin .add .num y1 (.int .i64 1) fun v50_34 =>
  Q .normal [(0, y0), (1, v50_34)] H (c + 3)
def k23_12 (P : Program) (p : Lab) (Q : VPost) (y0 : AV) (y1 : AV) (y48 : AV) (H : Heap) (c : Nat) (_ : Unit) : Prop :=
  (k23_11 P p Q y0 y1 y48 H c)
def k23_10 (P : Program) (p : Lab) (Q : VPost) (y0 : AV) (y1 : AV) (y48 : AV) (H : Heap) (c : Nat) : Prop :=
  vSel y48
  (k23_12 P p Q y0 y1 y48 H c)
  (fun _ =>
  Q (.exit 4) [(0, y0), (1, y1), (48, y48)] H c)
def k23_13 (P : Program) (p : Lab) (Q : VPost) (x0 : AV) (x1 : AV) (c : Nat) (v46_30 : AV) (H30 : Heap) (l30 : List Lab) (f30 : Option (List Lab)) : Prop :=
  vNot v46_30 fun v47_31 =>
  (k23_10 P p Q x0 x1 v47_31 H30 (c + 12))
def k23_14 (P : Program) (p : Lab) (Q : VPost) (x0 : AV) (x1 : AV) (H : Heap) (c : Nat) (_ : Unit) : Prop :=
  vIx 1 x0 x1 fun v44_28 =>
  vLoad 1 false v44_28 H fun v45_29 _ =>
  vCall false P 39 [v45_29] H ((c + 9) :: p) (k23_13 P p Q x0 x1 c)
def k23_15 (P : Program) (p : Lab) (Q : VPost) (y0 : AV) (y1 : AV) (H : Heap) (c : Nat) : Prop :=
  Q (.exit 4) [(0, y0), (1, y1), (48, (.bool false))] H c
def k23_16 (P : Program) (p : Lab) (Q : VPost) (x0 : AV) (x1 : AV) (H : Heap) (c : Nat) (_ : Unit) : Prop :=
  (k23_15 P p Q x0 x1 H (c + 12))
def V23_6 (P : Program) (p : Lab) (Q : VPost) (x0 x1 : AV) (H : Heap) (c : Nat) : Prop :=
  vLen x0 fun v39_23 =>
  vBin .lss .num x1 v39_23 fun v40_24 =>
  vSel v40_24
  (k23_14 P p Q x0 x1 H c)
  (k23_16 P p Q x0 x1 H c)
theorem vt23_6 (P : Program) (p : Lab) (Q : VPost) (x0 x1 : AV) (H : Heap) (c : Nat) : vc P p b23_6 Q [(0, x0), (1, x1)] H c = V23_6 P p Q x0 x1 H c := by kernel_rfl
theorem q23_1_e4 (P : Program) (p : Lab) (Q : VPost) (r : RL) (H : Heap) (c : Nat) : q23_1 P p Q (.exit 4) r H c = (vc P p r23_7 Q r H c) := rfl
def q23_2 (P : Program) (p : Lab) (Q : VPost) : VPost := (vblockQ 2 (vseqQ (vc P p r23_4 Q) Q))
theorem q23_2_ret (P : Program) (p : Lab) (Q : VPost) (r : RL) (H : Heap) (c : Nat) : q23_2 P p Q .ret r H c = Q .ret r H c := rfl
def V23_2 (P : Program) (p : Lab) (Q : VPost) (x0 x1 x21 : AV) (H : Heap) (c : Nat) : Prop :=
  vc P p l23_3 (q23_2 P p Q) [(0, x0), (1, x1), (21, x21)] H c
theorem vt23_2 (P : Program) (p : Lab) (Q : VPost) (x0 x1 x21 : AV) (H : Heap) (c : Nat) : vc P p r23_2 Q [(0, x0), (1, x1), (21, x21)] H c = V23_2 P p Q x0 x1 x21 H c := by kernel_rfl
def q23_3 (P : Program) (p : Lab) (Q : VPost) : VPost := (vblockQ 6 (vseqQ (vc P p r23_9 Q) Q))
theorem q23_3_ret (P : Program) (p : Lab) (Q : VPost) (r : RL) (H : Heap) (c : Nat) : q23_3 P p Q .ret r H c = Q .ret r H c := rfl
def V23_7 (P : Program) (p : Lab) (Q : VPost) (x0 x1 x48 : AV) (H : Heap) (c : Nat) : Prop :=
  vc P p l23_8 (q23_3 P p Q) [(0, x0), (1, x1), (48, x48)] H c
theorem vt23_7 (P : Program) (p : Lab) (Q : VPost) (x0 x1 x48 : AV) (H : Heap) (c : Nat) : vc P p r23_7 Q [(0, x0), (1, x1), (48, x48)] H c = V23_7 P p Q x0 x1 x48 H c := by kernel_rfl
def k23_18 (P : Program) (p : Lab) (Q : VPost) (y0 : AV) (y1 : AV) (y33 : AV) (H : Heap) (c : Nat) : Prop :=
  vBin .sub .num y1 (.int .i64 1) fun v35_48 =>
  Q .normal [(0, y0), (1, v35_48)] H (c + 3)
def k23_19 (P : Program) (p : Lab) (Q : VPost) (y0 : AV) (y1 : AV) (y33 : AV) (H : Heap) (c : Nat) (_ : Unit) : Prop :=
  (k23_18 P p Q y0 y1 y33 H c)
def k23_17 (P : Program) (p : Lab) (Q : VPost) (y0 : AV) (y1 : AV) (y33 : AV) (H : Heap) (c : Nat) : Prop :=
  vSel y33
  (k23_19 P p Q y0 y1 y33 H c)
  (fun _ =>
  Q (.exit 2) [(0, y0), (1, y1), (33, y33)] H c)
def k23_20 (P : Program) (p : Lab) (Q : VPost) (x0 : AV) (x1 : AV) (c : Nat) (v32_45 : AV) (H45 : Heap) (l45 : List Lab) (f45 : Option (List Lab)) : Prop :=
  (k23_17 P p Q x0 x1 v32_45 H45 (c + 10))
def k23_21 (P : Program) (p : Lab) (Q : VPost) (x0 : AV) (x1 : AV) (H : Heap) (c : Nat) (_ : Unit) : Prop :=
  vBin .sub .num x1 (.int .i64 1) fun v29_42 =>
  vIx 1 x0 v29_42 fun v30_43 =>
  vLoad 1 false v30_43 H fun v31_44 _ =>
  vCall false P 39 [v31_44] H ((c + 8) :: p) (k23_20 P p Q x0 x1 c)
def k23_22 (P : Program) (p : Lab) (Q : VPost) (y0 : AV) (y1 : AV) (H : Heap) (c : Nat) : Prop :=
  Q (.exit 2) [(0, y0), (1, y1), (33, (.bool false))] H c
def k23_23 (P : Program) (p : Lab) (Q : VPost) (x0 : AV) (x1 : AV) (H : Heap) (c : Nat) (_ : Unit) : Prop :=
  (k23_22 P p Q x0 x1 H (c + 10))
def V23_3 (P : Program) (p : Lab) (Q : VPost) (x0 x1 : AV) (H : Heap) (c : Nat) : Prop :=
  vBin .gtr .num x1 (.int .i64 0) fun v25_38 =>
  vSel v25_38
  (k23_21 P p Q x0 x1 H c)
  (k23_23 P p Q x0 x1 H c)
theorem vt23_3 (P : Program) (p : Lab) (Q : VPost) (x0 x1 : AV) (H : Heap) (c : Nat) : vc P p b23_3 Q [(0, x0), (1, x1)] H c = V23_3 P p Q x0 x1 H c := by kernel_rfl
theorem q23_2_e2 (P : Program) (p : Lab) (Q : VPost) (r : RL) (H : Heap) (c : Nat) : q23_2 P p Q (.exit 2) r H c = (vc P p r23_4 Q r H c) := rfl
def k23_25 (P : Program) (p : Lab) (Q : VPost) (y0 : AV) (y1 : AV) (y61 : AV) (H : Heap) (c : Nat) : Prop :=
  vBin .add .num y1 (.int .i64 1) fun v63_63 =>
  Q .normal [(0, y0), (1, v63_63)] H (c + 3)
def k23_26 (P : Program) (p : Lab) (Q : VPost) (y0 : AV) (y1 : AV) (y61 : AV) (H : Heap) (c : Nat) (_ : Unit) : Prop :=
  (k23_25 P p Q y0 y1 y61 H c)
def k23_24 (P : Program) (p : Lab) (Q : VPost) (y0 : AV) (y1 : AV) (y61 : AV) (H : Heap) (c : Nat) : Prop :=
  vSel y61
  (k23_26 P p Q y0 y1 y61 H c)
  (fun _ =>
  Q (.exit 6) [(0, y0), (1, y1), (61, y61)] H c)
def k23_27 (P : Program) (p : Lab) (Q : VPost) (x0 : AV) (x1 : AV) (c : Nat) (v60_60 : AV) (H60 : Heap) (l60 : List Lab) (f60 : Option (List Lab)) : Prop :=
  (k23_24 P p Q x0 x1 v60_60 H60 (c + 11))
def k23_28 (P : Program) (p : Lab) (Q : VPost) (x0 : AV) (x1 : AV) (H : Heap) (c : Nat) (_ : Unit) : Prop :=
  vIx 1 x0 x1 fun v58_58 =>
  vLoad 1 false v58_58 H fun v59_59 _ =>
  vCall false P 39 [v59_59] H ((c + 9) :: p) (k23_27 P p Q x0 x1 c)
def k23_29 (P : Program) (p : Lab) (Q : VPost) (y0 : AV) (y1 : AV) (H : Heap) (c : Nat) : Prop :=
  Q (.exit 6) [(0, y0), (1, y1), (61, (.bool false))] H c
def k23_30 (P : Program) (p : Lab) (Q : VPost) (x0 : AV) (x1 : AV) (H : Heap) (c : Nat) (_ : Unit) : Prop :=
  (k23_29 P p Q x0 x1 H (c + 11))
def V23_8 (P : Program) (p : Lab) (Q : VPost) (x0 x1 : AV) (H : Heap) (c : Nat) : Prop :=
  vLen x0 fun v53_53 =>
  vBin .lss .num x1 v53_53 fun v54_54 =>
  vSel v54_54
  (k23_28 P p Q x0 x1 H c)
  (k23_30 P p Q x0 x1 H c)
theorem vt23_8 (P : Program) (p : Lab) (Q : VPost) (x0 x1 : AV) (H : Heap) (c : Nat) : vc P p b23_8 Q [(0, x0), (1, x1)] H c = V23_8 P p Q x0 x1 H c := by kernel_rfl
theorem q23_3_e6 (P : Program) (p : Lab) (Q : VPost) (r : RL) (H : Heap) (c : Nat) : q23_3 P p Q (.exit 6) r H c = (vc P p r23_9 Q r H c) := rfl
def V23_4 (P : Program) (p : Lab) (Q : VPost) (x0 x1 x33 : AV) (H : Heap) (c : Nat) : Prop :=
  Q .ret [(6, x1)] H (c + 2)
theorem vt23_4 (P : Program) (p : Lab) (Q : VPost) (x0 x1 x33 : AV) (H : Heap) (c : Nat) : vc P p r23_4 Q [(0, x0), (1, x1), (33, x33)] H c = V23_4 P p Q x0 x1 x33 H c := by kernel_rfl
def V23_9 (P : Program) (p : Lab) (Q : VPost) (x0 x1 x61 : AV) (H : Heap) (c : Nat) : Prop :=
  Q .ret [(6, x1)] H (c + 2)
theorem vt23_9 (P : Program) (p : Lab) (Q : VPost) (x0 x1 x61 : AV) (H : Heap) (c : Nat) : vc P p r23_9 Q [(0, x0), (1, x1), (61, x61)] H c = V23_9 P p Q x0 x1 x61 H c := by kernel_rfl

def b24_1 : ACode := (.seq (.seq (.region [⟨(some 5), none, .move, [.t 4]⟩, ⟨(some 6), none, .move, [.t 0]⟩, ⟨(some 7), none, (.len .num), [.t 6]⟩, ⟨(some 8), none, (.bin .lss .num), [.t 5, .t 7]⟩] none [0, 3, 4, 8])
  (.cond (.t 8) .skip
  (.exit 0)))
  (.seq (.block 1 (.region [⟨(some 11), none, .move, [.t 3]⟩, ⟨(some 12), none, .move, [.t 0]⟩, ⟨(some 13), none, .move, [.t 4]⟩, ⟨(some 14), none, .strAt, [.t 12, .t 13]⟩, ⟨(some 15), none, (.conv .i64), [.t 14]⟩, ⟨(some 16), none, (.buildSlice 1 [(.int .i64 0)] [(0, 1)]), [.t 15]⟩, ⟨(some 17), none, (.append 1 8), [.t 11, .t 16]⟩, ⟨(some 3), none, .move, [.t 17]⟩] none [0, 3, 4]))
  (.region [⟨(some 9), none, .move, [.t 4]⟩, ⟨(some 10), none, (.bin .add .num), [.t 9, .c (.int .i64 1)]⟩, ⟨(some 4), none, .move, [.t 10]⟩] none [0, 3, 4])))
def l24_1 : ACode := .loop [0, 3, 4] b24_1
def r24_2 : ACode := (.seq (.region [⟨(some 18), none, .move, [.t 3]⟩, ⟨(some 2), none, .move, [.t 18]⟩] none [2])
  .ret)
/-- duet/duetlaw18.runes -/
def c24 : AFun := ⟨1, 19, [.tmp 2],
  (.seq (.region [⟨(some 2), none, .move, [.c .nils]⟩] none [0])
  (.seq (.region [⟨(some 3), none, .move, [.c .nils]⟩] none [0, 3])
  (.seq (.seq (.region [⟨(some 4), none, .move, [.c (.int .i64 0)]⟩] none [0, 3, 4])
  (.block 0 l24_1)) r24_2)))⟩
theorem ok24 : FunOk Try.prog 24 c24 := ⟨⟨Try.f24, _, Try.func24, rfl, by kernel_rfl, by kernel_rfl, by kernel_rfl, by kernel_rfl⟩, by decide⟩
theorem res24 : c24.res = [.tmp 2] := rfl
def q24_0 (P : Program) (p : Lab) (Q : VPost) : VPost := (vblockQ 0 (vseqQ (vc P p r24_2 Q) Q))
theorem q24_0_ret (P : Program) (p : Lab) (Q : VPost) (r : RL) (H : Heap) (c : Nat) : q24_0 P p Q .ret r H c = Q .ret r H c := rfl
def V24 (P : Program) (p : Lab) (Q : VPost) (x0 : AV) (H : Heap) (c : Nat) : Prop :=
  vc P p l24_1 (q24_0 P p Q) [(0, x0), (3, .nils), (4, (.int .i64 0))] H (c + 3)
theorem vt24 (P : Program) (p : Lab) (Q : VPost) (x0 : AV) (H : Heap) (c : Nat) : vc P p c24.body Q [(0, x0)] H c = V24 P p Q x0 H c := by kernel_rfl
def k24_1 (P : Program) (p : Lab) (Q : VPost) (y0 : AV) (y3 : AV) (y4 : AV) (c : Nat) (v15_11 : AV) (H11 : Heap) (l11 : List Lab) (f11 : Option (List Lab)) : Prop :=
  vBuildS 1 [(.int .i64 0)] [(0, 1)] [v15_11] fun w12 n12 =>
  (fun (H12 : Heap) =>
  vGen (.append 1 8) [y3, (.sl ((c + 5) :: p) 1 0 n12)] H12 ((c + 6) :: p) (fun v17_13 H13 l13 f13 =>
  vBin .add .num y4 (.int .i64 1) fun v10_16 =>
  Q .normal [(0, y0), (3, v17_13), (4, v10_16)] H13 (c + 11))) (upd [(((c + 5) :: p), some (.rows 1 w12))] H11)
def k24_2 (P : Program) (p : Lab) (Q : VPost) (y0 : AV) (y3 : AV) (y4 : AV) (c : Nat) (v14_10 : AV) (H10 : Heap) (l10 : List Lab) (f10 : Option (List Lab)) : Prop :=
  vGen (.conv .i64) [v14_10] H10 ((c + 4) :: p) (k24_1 P p Q y0 y3 y4 c)
def k24_0 (P : Program) (p : Lab) (Q : VPost) (y0 : AV) (y3 : AV) (y4 : AV) (y8 : AV) (H : Heap) (c : Nat) : Prop :=
  vGen .strAt [y0, y4] H ((c + 3) :: p) (k24_2 P p Q y0 y3 y4 c)
def k24_3 (P : Program) (p : Lab) (Q : VPost) (v8_6 : AV) (H5 : Heap) (x0 : AV) (x3 : AV) (x4 : AV) (c : Nat) (_ : Unit) : Prop :=
  (k24_0 P p Q x0 x3 x4 v8_6 H5 (c + 4))
def k24_4 (P : Program) (p : Lab) (Q : VPost) (x0 : AV) (x3 : AV) (x4 : AV) (c : Nat) (v7_5 : AV) (H5 : Heap) (l5 : List Lab) (f5 : Option (List Lab)) : Prop :=
  vBin .lss .num x4 v7_5 fun v8_6 =>
  vSel v8_6
  (k24_3 P p Q v8_6 H5 x0 x3 x4 c)
  (fun _ =>
  Q (.exit 0) [(0, x0), (3, x3), (4, x4), (8, v8_6)] H5 (c + 4))
def V24_1 (P : Program) (p : Lab) (Q : VPost) (x0 x3 x4 : AV) (H : Heap) (c : Nat) : Prop :=
  vGen (.len .num) [x0] H ((c + 2) :: p) (k24_4 P p Q x0 x3 x4 c)
theorem vt24_1 (P : Program) (p : Lab) (Q : VPost) (x0 x3 x4 : AV) (H : Heap) (c : Nat) : vc P p b24_1 Q [(0, x0), (3, x3), (4, x4)] H c = V24_1 P p Q x0 x3 x4 H c := by kernel_rfl
theorem q24_0_e0 (P : Program) (p : Lab) (Q : VPost) (r : RL) (H : Heap) (c : Nat) : q24_0 P p Q (.exit 0) r H c = (vc P p r24_2 Q r H c) := rfl
def V24_2 (P : Program) (p : Lab) (Q : VPost) (x0 x3 x4 x8 : AV) (H : Heap) (c : Nat) : Prop :=
  Q .ret [(2, x3)] H (c + 2)
theorem vt24_2 (P : Program) (p : Lab) (Q : VPost) (x0 x3 x4 x8 : AV) (H : Heap) (c : Nat) : vc P p r24_2 Q [(0, x0), (3, x3), (4, x4), (8, x8)] H c = V24_2 P p Q x0 x3 x4 x8 H c := by kernel_rfl



end Go.Proofs.Ytbngfbpegdcpkaa
/-! The abstract machine: what is owed at each step, on symbols. -/
namespace Go.Proofs.Ytbngfbpegdcpkaa
set_option linter.unusedVariables false
set_option linter.unusedSimpArgs false

/-- an element of a list, by its place -/
def nth {α : Type} [Inhabited α] (l : List α) (i : Nat) : α := l.getD i default
theorem nth_some {α : Type} [Inhabited α] {l : List α} {i : Nat} (h : i < l.length) : l[i]? = some (nth l i) := by
  simp [nth, List.getD_eq_getElem?_getD, h]
theorem nth_of {α : Type} [Inhabited α] {l : List α} {i : Nat} {x : α} (h : l[i]? = some x) : nth l i = x := by
  simp [nth, List.getD_eq_getElem?_getD, h]
def encI (x : Int) : List AV := [.int .i64 x]
abbrev il (l : List Int) : AV := .isl 1 (l.map encI)
section
variable {P : Program} {p q : Lab} {H : Heap} {K : AV → Prop} {A B : Unit → Prop}
/-! choices -/
theorem sel_t : vSel (.bool true) A B = A () := rfl
theorem sel_f : vSel (.bool false) A B = B () := rfl
theorem sel_d {φ : Prop} [Decidable φ] (ha : φ → A ()) (hb : ¬ φ → B ()) : vSel (.bool (decide φ)) A B := by
  by_cases h : φ
  · rw [decide_eq_true h]; exact ha h
  · rw [decide_eq_false h]; exact hb h
theorem sel_n {φ : Prop} [Decidable φ] (ha : ¬ φ → A ()) (hb : φ → B ()) : vSel (.bool (!decide φ)) A B := by
  by_cases h : φ
  · rw [decide_eq_true h]; exact hb h
  · rw [decide_eq_false h]; exact ha h
theorem sel_b {b : Bool} (ha : b = true → A ()) (hb : b = false → B ()) : vSel (.bool b) A B := by
  cases b
  · exact hb rfl
  · exact ha rfl
theorem sel_nb {b : Bool} (ha : b = false → A ()) (hb : b = true → B ()) : vSel (.bool (!b)) A B := by
  cases b
  · exact ha rfl
  · exact hb rfl
theorem sel_dt {φ : Prop} [Decidable φ] (h : φ) : vSel (.bool (decide φ)) A B = A () := by rw [decide_eq_true h]; rfl
theorem sel_df {φ : Prop} [Decidable φ] (h : ¬ φ) : vSel (.bool (decide φ)) A B = B () := by rw [decide_eq_false h]; rfl
theorem sel_nt {φ : Prop} [Decidable φ] (h : ¬ φ) : vSel (.bool (!decide φ)) A B = A () := by rw [decide_eq_false h]; rfl
theorem sel_nf {φ : Prop} [Decidable φ] (h : φ) : vSel (.bool (!decide φ)) A B = B () := by rw [decide_eq_true h]; rfl
/-! numbers -/
variable {k : IntKind} {a b : Int} {c : Cls}
theorem bin_of {op : BinOp} {x y z : AV} (h : aBin op c x y = some z) : vBin op c x y K = K z := by
  unfold vBin; rw [h]; simp
theorem v_lss : vBin .lss c (.int k a) (.int k b) K = K (.bool (decide (a < b))) := bin_of (by simp [aBin, aBinI])
theorem v_leq : vBin .leq c (.int k a) (.int k b) K = K (.bool (decide (a ≤ b))) := bin_of (by simp [aBin, aBinI])
theorem v_gtr : vBin .gtr c (.int k a) (.int k b) K = K (.bool (decide (b < a))) := bin_of (by simp [aBin, aBinI])
theorem v_geq : vBin .geq c (.int k a) (.int k b) K = K (.bool (decide (b ≤ a))) := bin_of (by simp [aBin, aBinI])
theorem v_eql : vBin .eql c (.int k a) (.int k b) K = K (.bool (decide (a = b))) := bin_of (by simp [aBin, aBinI])
theorem v_neq : vBin .neq c (.int k a) (.int k b) K = K (.bool (!decide (a = b))) := bin_of (by simp [aBin, aBinI])
theorem inR_of (h1 : -9223372036854775808 ≤ a) (h2 : a ≤ 9223372036854775807) : inR a = true := by simp [inR, h1, h2]
theorem v_add (h1 : -9223372036854775808 ≤ a + b) (h2 : a + b ≤ 9223372036854775807) : vBin .add c (.int .i64 a) (.int .i64 b) K = K (.int .i64 (a + b)) := bin_of (by simp [aBin, aBinI, arith, inR_of h1 h2])
theorem v_sub (h1 : -9223372036854775808 ≤ a - b) (h2 : a - b ≤ 9223372036854775807) : vBin .sub c (.int .i64 a) (.int .i64 b) K = K (.int .i64 (a - b)) := bin_of (by simp [aBin, aBinI, arith, inR_of h1 h2])
theorem v_mul (h1 : -9223372036854775808 ≤ a * b) (h2 : a * b ≤ 9223372036854775807) : vBin .mul c (.int .i64 a) (.int .i64 b) K = K (.int .i64 (a * b)) := bin_of (by simp [aBin, aBinI, arith, inR_of h1 h2])
theorem v_or {a b : Nat} (h : vBin .or c (.int .i64 a) (.int .i64 b) K) : vBin .or c (.int .i64 a) (.int .i64 b) K := h
theorem v_beq {x y : Bool} : vBin .eql .bool (.bool x) (.bool y) K = K (.bool (x == y)) := bin_of (by simp [aBin, eqNeq])
theorem v_bne {x y : Bool} : vBin .neq .bool (.bool x) (.bool y) K = K (.bool (!(x == y))) := bin_of (by simp [aBin, eqNeq])
theorem v_not {x : Bool} : vNot (.bool x) K = K (.bool (!x)) := rfl
theorem v_min : vMin (.int k a) (.int k b) K = K (.int k (Min.min a b)) := by simp [vMin]
theorem v_max : vMax (.int k a) (.int k b) K = K (.int k (Max.max a b)) := by simp [vMax]
theorem v_pick_t {x y : AV} : vPick (.bool true) x y K = K x := rfl
theorem v_pick_f {x y : AV} : vPick (.bool false) x y K = K y := rfl
/-! rows -/
theorem v_ext0 {x : AV} {xs : List AV} : vExt 0 (.tuple (x :: xs)) K = K x := by simp [vExt]
theorem v_ext1 {x y : AV} {xs : List AV} : vExt 1 (.tuple (x :: y :: xs)) K = K y := by simp [vExt]
theorem v_ext2 {x y z : AV} {xs : List AV} : vExt 2 (.tuple (x :: y :: z :: xs)) K = K z := by simp [vExt]
theorem v_len_map {α : Type} {f : α → List AV} {l : List α} {e : Nat} : vLen (.isl e (l.map f)) K = K (.int .i64 l.length) := by simp [vLen, AV.len]
theorem v_len_isl {rows : List (List AV)} {e : Nat} : vLen (.isl e rows) K = K (.int .i64 rows.length) := by simp [vLen, AV.len]
theorem v_len_nils : vLen .nils K = K (.int .i64 0) := by simp [vLen, AV.len]
theorem v_len_sl0 : vLen .sl0 K = K (.int .i64 0) := by simp [vLen, AV.len]
theorem v_len_sl {l : Lab} {e o n : Nat} : vLen (.sl l e o n) K = K (.int .i64 n) := by simp [vLen, AV.len]
theorem v_ix_map {α : Type} {f : α → List AV} {l : List α} {e : Nat} {i : Int} (h0 : 0 ≤ i) (h1 : i < l.length) : vIx e (.isl e (l.map f)) (.int k i) K = K (.iptr e (l.map f) i.toNat 0) := by simp [vIx, aIndexAddr, h0, h1]
theorem v_ix_isl {rows : List (List AV)} {e : Nat} {i : Int} (h0 : 0 ≤ i) (h1 : i < rows.length) : vIx e (.isl e rows) (.int k i) K = K (.iptr e rows i.toNat 0) := by simp [vIx, aIndexAddr, h0, h1]
theorem v_ix_sl {l : Lab} {o n e : Nat} {i : Int} (h0 : 0 ≤ i) (h1 : i < n) : vIx e (.sl l e o n) (.int k i) K = K (.ptr l e (o + i.toNat) 0) := by simp [vIx, aIndexAddr, h0, h1]
theorem v_nil_ptr {l : Lab} {e i j : Nat} : vNil (.ptr l e i j) K = K (.ptr l e i j) := by simp [vNil, AV.nonNil]
theorem v_nil_iptr {rows : List (List AV)} {e i j : Nat} : vNil (.iptr e rows i j) K = K (.iptr e rows i j) := by simp [vNil, AV.nonNil]
theorem v_fa_ptr {l : Lab} {e i j o : Nat} : vFA o (.ptr l e i j) K = K (.ptr l e i (j + o)) := by simp [vFA, aFieldAddr]
theorem v_fa_iptr {rows : List (List AV)} {e i j o : Nat} : vFA o (.iptr e rows i j) K = K (.iptr e rows i (j + o)) := by simp [vFA, aFieldAddr]
/-- cells of a row -/
def vCell (n : Nat) (agg : Bool) (r : List AV) (j : Nat) (K : AV → Prop) : Prop := j + n ≤ r.length ∧ ∃ x, wrapCells agg ((r.drop j).take n) = some x ∧ K x
theorem cell_0 {x : AV} {r : List AV} : vCell 1 false (x :: r) 0 K = K x := by simp [vCell, wrapCells]
theorem cell_s {x : AV} {r : List AV} {n j : Nat} {g : Bool} : vCell n g (x :: r) (j + 1) K = vCell n g r j K := by
  simp only [vCell, List.drop_succ_cons, List.length_cons]
  have : (j + 1 + n ≤ r.length + 1) = (j + n ≤ r.length) := by simp; omega
  rw [this]
theorem cell_all {r : List AV} {n : Nat} (h : r.length = n) : vCell n true r 0 K = K (.agg r) := by subst h; simp [vCell, wrapCells]
theorem cell_a2 {a b : AV} {r : List AV} : vCell 2 true (a :: b :: r) 0 K = K (.agg [a, b]) := by simp [vCell, wrapCells]
theorem cell_a3 {a b c : AV} {r : List AV} : vCell 3 true (a :: b :: c :: r) 0 K = K (.agg [a, b, c]) := by simp [vCell, wrapCells]
theorem cell_a7 {a b c d e f g : AV} {r : List AV} : vCell 7 true (a :: b :: c :: d :: e :: f :: g :: r) 0 K = K (.agg [a, b, c, d, e, f, g]) := by simp [vCell, wrapCells]
theorem cell_a10 {a b c d e f g h i j : AV} {r : List AV} : vCell 10 true (a :: b :: c :: d :: e :: f :: g :: h :: i :: j :: r) 0 K = K (.agg [a, b, c, d, e, f, g, h, i, j]) := by simp [vCell, wrapCells]
variable {KL : AV → Option (List Lab) → Prop}
theorem v_load_map {α : Type} [Inhabited α] {f : α → List AV} {l : List α} {e i j n : Nat} {g : Bool} (h : i < l.length) : vLoad n g (.iptr e (l.map f) i j) H KL = vCell n g (f (nth l i)) j fun x => KL x (some []) := by
  simp only [vLoad, aLoad, AO.cells, vCell, List.getElem?_map, nth_some h, Option.map_some, Option.bind_some]
  by_cases hj : j + n ≤ (f (nth l i)).length
  · simp only [hj, if_true, Option.bind_some, true_and, Option.bind_eq_some_iff, Option.some.injEq]
    apply propext
    constructor
    · rintro ⟨r, ⟨y, hy, rfl⟩, hk⟩; exact ⟨y, hy, hk⟩
    · rintro ⟨y, hy, hk⟩; exact ⟨_, ⟨y, hy, rfl⟩, hk⟩
  · simp [hj]
theorem v_load_ptr {α : Type} [Inhabited α] {f : α → List AV} {L : List α} {l : Lab} {e i j n : Nat} {g : Bool} (hl : H l = some (.rows e (L.map f))) (h : i < L.length) : vLoad n g (.ptr l e i j) H KL = vCell n g (f (nth L i)) j fun x => KL x (some [l]) := by
  simp only [vLoad, aLoad, hl, if_true, AO.cells, vCell, List.getElem?_map, nth_some h, Option.map_some, Option.bind_some]
  by_cases hj : j + n ≤ (f (nth L i)).length
  · simp only [hj, if_true, Option.bind_some, true_and, Option.bind_eq_some_iff, Option.some.injEq]
    apply propext
    constructor
    · rintro ⟨r, ⟨y, hy, rfl⟩, hk⟩; exact ⟨y, hy, hk⟩
    · rintro ⟨y, hy, hk⟩; exact ⟨_, ⟨y, hy, rfl⟩, hk⟩
  · simp [hj]
theorem v_load_one {l : Lab} {r : List AV} {e j n : Nat} {g : Bool} (hl : H l = some (.rows e [r])) : vLoad n g (.ptr l e 0 j) H KL = vCell n g r j fun x => KL x (some [l]) := by
  simp only [vLoad, aLoad, hl, if_true, AO.cells, vCell, List.getElem?_cons_zero, Option.bind_some]
  by_cases hj : j + n ≤ r.length
  · simp only [hj, if_true, Option.bind_some, true_and, Option.bind_eq_some_iff, Option.some.injEq]
    apply propext
    constructor
    · rintro ⟨s, ⟨y, hy, rfl⟩, hk⟩; exact ⟨y, hy, hk⟩
    · rintro ⟨y, hy, hk⟩; exact ⟨_, ⟨y, hy, rfl⟩, hk⟩
  · simp [hj]
theorem upd_same {l : Lab} {o : Option AO} {u : Chg} : upd ((l, o) :: u) H l = o := by simp [upd]
theorem upd_ne {k l : Lab} {o : Option AO} {u : Chg} (h : k ≠ l) : upd ((l, o) :: u) H k = upd u H k := by simp [upd, h]
theorem upd_nil {k : Lab} : upd [] H k = H k := rfl
theorem v_build {z : List AV} {ps : List (Nat × Nat)} {xs cs : List AV} (h : fillA z ps xs = some cs) : vBuild z ps xs K = K (.agg cs) := by simp [vBuild, h]
theorem v_buildS {e : Nat} {z : List AV} {ps : List (Nat × Nat)} {xs cs : List AV} {KB : List (List AV) → Nat → Prop} (h : fillA z ps xs = some cs) (h1 : e ≠ 0) (h2 : cs.length % e = 0) (h3 : cs.all AV.one = true) : vBuildS e z ps xs KB = KB (chunk e (cs.length / e) cs) (cs.length / e) := by simp only [vBuildS, h, Option.some.injEq, exists_eq_left', h2, h3, ne_eq, h1, not_false_eq_true, and_self, true_and]
/-- a slice of one's own, with what it holds (none, if there is nothing yet) -/
def Own (H : Heap) (x : AV) (e : Nat) (rows : List (List AV)) : Prop := (x = .nils ∧ rows = []) ∨ ∃ l, x = .sl l e 0 rows.length ∧ H l = some (.rows e rows)
theorem Own.nils {e : Nat} : Own H .nils e [] := .inl ⟨rfl, rfl⟩
theorem v_len_own {x : AV} {e : Nat} {rows : List (List AV)} (h : Own H x e rows) : vLen x K = K (.int .i64 rows.length) := by
  rcases h with ⟨rfl, rfl⟩ | ⟨l, rfl, _⟩
  · simp [vLen, AV.len]
  · simp [vLen, AV.len]
/-- what lies where it lay, but for what a slice held -/
def KeepBut (x : AV) (H H' : Heap) : Prop := ∀ k o, H k = some o → (∀ e i n, x ≠ .sl k e i n) → H' k = some o
variable {KK : KF}
theorem app_own {x y : AV} {e b : Nat} {rows src : List (List AV)} {ls : List Lab} (h : Own H x e rows) (hs : aRows e y H = some (src, ls)) (hne : src ≠ []) (he : 0 < e) (h1 : (rows.length + src.length) * b ≤ 140737488355328) (h2 : rows.length + src.length ≤ 4611686018427387904) (hq : H q = none)
    (hk : ∀ x' H' l f, Own H' x' e (rows ++ src) → KeepBut x H H' → KK x' H' l f) : vGen (.append e b) [x, y] H q KK := by
  have hn : src.isEmpty = false := by cases src <;> simp at hne ⊢
  rcases h with ⟨rfl, rfl⟩ | ⟨l, rfl, hl⟩
  · refine ⟨⟨.sl q e 0 src.length, [(q, some (.rows e src))], some ls⟩, ?_, hk _ _ _ _ (.inr ⟨q, by simp, by simp [upd]⟩) (fun k o hk' _ => ?_)⟩
    · simp only [List.length_nil, Nat.zero_add] at h1 h2
      simp [aop, aAppend, hs, hn, he, h1, h2]
      exact fun h => absurd h hne
    · simp only [upd]
      rw [if_neg (fun e => by rw [e, hq] at hk'; cases hk')]; exact hk'
  · have hlq : q ≠ l := fun e => by rw [e, hl] at hq; cases hq
    refine ⟨⟨.sl q e 0 (rows.length + src.length), [(q, some (.rows e (rows ++ src))), (l, none)], some (l :: ls)⟩, ?_, hk _ _ _ _ (.inr ⟨q, by simp, by simp [upd]⟩) (fun k o hk' hx => ?_)⟩
    · simp [aop, aAppend, hs, hn, hl, he, h1, h2]
      exact fun h => absurd h hne
    · simp only [upd]
      rw [if_neg (fun e => by rw [e, hq] at hk'; cases hk'), if_neg (fun e' => hx e 0 rows.length (by rw [e']))]; exact hk'
/-- writers that wait for all others, or all others for them -/
inductive PsI : List (Nat × Tr) → List Nat → List Nat → Prop
  | nil : PsI [] [] []
  | read {ps : List (Nat × Tr)} {ws al : List Nat} {j : Nat} {q : Lab} {f : Option (List Lab)} (h : PsI ps ws al) : PsI (addTr j [] q f ps) ws (j :: al)
  | write {ps : List (Nat × Tr)} {ws al : List Nat} {j : Nat} {l : List Lab} {q : Lab} {f : Option (List Lab)} (h : PsI ps ws al) : PsI (addTr j l q f ps) (j :: ws) (j :: al)
theorem mem_addTr {j : Nat} {l : List Lab} {q : Lab} {f : Option (List Lab)} {ps : List (Nat × Tr)} {a : Nat × Tr} (h : a ∈ addTr j l q f ps) : a = (j, ⟨l, q, f⟩) ∨ a ∈ ps := by
  unfold addTr at h
  split at h
  · exact .inr h
  · exact List.mem_cons.1 h
theorem PsI.all {ps : List (Nat × Tr)} {ws al : List Nat} (h : PsI ps ws al) : ∀ a ∈ ps, a.1 ∈ al ∧ (a.2.labs = [] ∨ a.1 ∈ ws) := by
  induction h with
  | nil => intro a ha; cases ha
  | read h ih =>
    intro a ha
    rcases mem_addTr ha with rfl | ha
    · exact ⟨by simp, .inl rfl⟩
    · exact ⟨List.mem_cons_of_mem _ (ih a ha).1, (ih a ha).2⟩
  | write h ih =>
    intro a ha
    rcases mem_addTr ha with rfl | ha
    · exact ⟨by simp, .inr (by simp)⟩
    · exact ⟨List.mem_cons_of_mem _ (ih a ha).1, (ih a ha).2.imp id (List.mem_cons_of_mem _)⟩
def ordAll (masks ws al : List Nat) : Bool := ws.all fun i => al.all fun j => i == j || ordered masks i j
theorem clash_ord {masks ws al : List Nat} {ps : List (Nat × Tr)} (h : PsI ps ws al) (hc : ordAll masks ws al = true) : clashFree masks ps := fun a ha b hb hne ho => by
  rcases (h.all a ha).2 with h1 | h1
  · unfold clash; rw [h1]; split <;> simp
  · have := List.all_eq_true.1 (List.all_eq_true.1 hc _ h1) _ (h.all b hb).1
    rw [ho] at this
    simp at this
    exact absurd this hne
/-- the labels of a frame that are still to come are free -/
def Fresh (p : Lab) (c : Nat) (H : Heap) : Prop := ∀ k s, c ≤ k → H (s ++ k :: p) = none
theorem Fresh.mono {c d : Nat} (h : Fresh p c H) (hd : c ≤ d) : Fresh p d H := fun k s hk => h k s (by omega)
theorem Fresh.empty {c : Nat} : Fresh p c (fun _ => none) := fun _ _ _ => rfl
theorem Fresh.at {c k : Nat} (h : Fresh p c H) (hk : c ≤ k) : H (k :: p) = none := h k [] hk
theorem app_ne {j k : Nat} {s : List Nat} (h : j ≠ k) : s ++ j :: p ≠ k :: p := fun e => by
  have hl := congrArg List.length e
  simp at hl
  subst hl
  simp at e
  exact h e
/-- and for a callee -/
theorem Fresh.callee {c : Nat} (h : Fresh p c H) : Fresh (c :: p) 0 H := fun k s _ => by
  have := h c (s ++ [k]) (Nat.le_refl _)
  simpa using this
theorem Fresh.upd {c d k : Nat} {o : Option AO} (h : Fresh p c H) (hd : c ≤ d) (hk : k < d) : Fresh p d (upd [(k :: p, o)] H) := fun j s hj => by
  simp only [Ytbngfbpegdcpkaa.upd]
  rw [if_neg (app_ne (by omega))]
  exact h j s (by omega)
theorem Own.upd {x : AV} {e c k : Nat} {rows : List (List AV)} {o : Option AO} (h : Own H x e rows) (hf : Fresh p c H) (hk : c ≤ k) : Own (upd [(k :: p, o)] H) x e rows := by
  rcases h with h | ⟨l, h1, h2⟩
  · exact .inl h
  · refine .inr ⟨l, h1, ?_⟩
    simp only [Ytbngfbpegdcpkaa.upd]
    rw [if_neg (fun e => by rw [e, hf.at hk] at h2; cases h2)]; exact h2
/-- one more row of the call's own making -/
theorem push_own {x : AV} {e b c k1 k2 : Nat} {rows : List (List AV)} {row : List AV} (h : Own H x e rows) (hf : Fresh p c H) (hc : c ≤ k1) (hk : k1 < k2) (he : 0 < e) (h1 : (rows.length + 1) * b ≤ 140737488355328) (h2 : rows.length + 1 ≤ 4611686018427387904)
    (hK : ∀ x' H' l f, Own H' x' e (rows ++ [row]) → Fresh p (k2 + 1) H' → KeepBut x H H' → KK x' H' l f) : vGen (.append e b) [x, .sl (k1 :: p) e 0 1] (upd [(k1 :: p, some (.rows e [row]))] H) (k2 :: p) KK := by
  have hs : aRows e (.sl (k1 :: p) e 0 1) (upd [(k1 :: p, some (.rows e [row]))] H) = some ([row], [k1 :: p]) := by simp [aRows, upd]
  have hH : ∀ k, k ≠ k1 :: p → upd [(k1 :: p, some (.rows e [row]))] H k = H k := fun k hk => by simp [upd, hk]
  have hq : (k2 :: p) ≠ (k1 :: p) := fun e => by simp at e; omega
  have hq0 : H (k2 :: p) = none := hf.at (by omega)
  rcases h with ⟨rfl, rfl⟩ | ⟨l, rfl, hl⟩
  · refine ⟨⟨.sl (k2 :: p) e 0 1, [(k2 :: p, some (.rows e [row]))], some [k1 :: p]⟩, ?_, hK _ _ _ _ (.inr ⟨k2 :: p, rfl, by simp [upd]⟩) (fun j s hj => ?_) (fun k o hk' _ => ?_)⟩
    · simp only [List.length_nil, Nat.zero_add] at h1 h2
      simp [aop, aAppend, hs, he]
      omega
    · have := hf j s (by omega)
      simp only [Ytbngfbpegdcpkaa.upd, if_neg (app_ne (p := p) (s := s) (show j ≠ k2 by omega)), if_neg (app_ne (p := p) (s := s) (show j ≠ k1 by omega)), this]
    · have e1 : k ≠ k2 :: p := fun e => by rw [e, hq0] at hk'; cases hk'
      have e2 : k ≠ k1 :: p := fun e => by rw [e, hf.at hc] at hk'; cases hk'
      simp [upd, e1, e2, hk']
  · have hl1 : l ≠ k1 :: p := fun e => by rw [e, hf.at hc] at hl; cases hl
    have hl2 : l ≠ k2 :: p := fun e => by rw [e, hq0] at hl; cases hl
    have hl' : upd [(k1 :: p, some (.rows e [row]))] H l = some (.rows e rows) := by rw [hH l hl1]; exact hl
    refine ⟨⟨.sl (k2 :: p) e 0 (rows.length + 1), [(k2 :: p, some (.rows e (rows ++ [row]))), (l, none)], some [l, k1 :: p]⟩, ?_, hK _ _ _ _ (.inr ⟨k2 :: p, by simp, by simp [upd]⟩) (fun j s hj => ?_) (fun k o hk' hx => ?_)⟩
    · simp [aop, aAppend, hs, hl', he, h1, h2]
    · have := hf j s (by omega)
      simp only [Ytbngfbpegdcpkaa.upd, if_neg (app_ne (p := p) (s := s) (show j ≠ k2 by omega)), if_neg (app_ne (p := p) (s := s) (show j ≠ k1 by omega)), this, ite_self]
    · have e1 : k ≠ k2 :: p := fun e => by rw [e, hq0] at hk'; cases hk'
      have e2 : k ≠ k1 :: p := fun e => by rw [e, hf.at hc] at hk'; cases hk'
      have e3 : k ≠ l := fun e' => hx e 0 rows.length (by rw [e'])
      simp [upd, e1, e2, e3, hk']
theorem v_build_eq {z : List AV} {ps : List (Nat × Nat)} {xs : List AV} : vBuild z ps xs K = match fillA z ps xs with
    | some cs => K (.agg cs)
    | none => False := by
  cases h : fillA z ps xs <;> simp [vBuild, h]
theorem v_buildS_eq {e : Nat} {z : List AV} {ps : List (Nat × Nat)} {xs : List AV} {KB : List (List AV) → Nat → Prop} : vBuildS e z ps xs KB = match fillA z ps xs with
    | some cs => (e ≠ 0 ∧ cs.length % e = 0 ∧ cs.all AV.one = true) ∧ KB (chunk e (cs.length / e) cs) (cs.length / e)
    | none => False := by
  cases h : fillA z ps xs <;> simp [vBuildS, h]
theorem rows_sl {l : Lab} {e n : Nat} {rows : List (List AV)} (hl : H l = some (.rows e rows)) (hn : rows.length = n) (h0 : n ≠ 0) : aRows e (.sl l e 0 n) H = some (rows, [l]) := by
  subst hn
  simp [aRows, h0, hl]
theorem rows_isl {e : Nat} {rows : List (List AV)} : aRows e (.isl e rows) H = some (rows, []) := by simp [aRows]
/-! calls -/
theorem call_pure {s : Bool} {f : Nat} {xs : List AV} {y : AV} (h : Pure P f xs y) (hk : KK y H [] (some [])) : vCall s P f xs H q KK := Or.inl ⟨_, h H q, hk⟩
/-! a body's end -/
def VP (res : List AResV) (y : AV) : VPost := fun e r H _ => (e = .normal ∨ e = .ret) ∧ ∃ x, aRes H r res = some x ∧ Fr (fun l => H l ≠ none) H x y
theorem pure_vc (hm : P.follows .mixedOrders = true) {f : Nat} {A : AFun} (hA : FunOk P f A) {xs : List AV} (hlen : xs.length = A.np) {y : AV} (h : ∀ q, vc P q A.body (VP A.res y) (params 0 xs) (fun _ => none) 0) : Pure P f xs y :=
  pure_of hm hA hlen (fun q => gwp_mono (fun _ _ he => he) (vc_sound (ov := []) (H0 := fun _ => none) (h q)))
theorem vloop {keep : List Nat} {b : ACode} {Q : VPost} {r : RL} {c : Nat} (I : Nat → RL → Heap → Nat → Prop) (n : Nat) (h0 : I n (restrict r keep) H c) (h : ∀ n r H c, I n r H c → vc P p b (vloopQ keep I n Q) r H c) : vc P p (.loop keep b) Q r H c := ⟨I, n, h0, h⟩
theorem lq_n {keep : List Nat} {I : Nat → RL → Heap → Nat → Prop} {n : Nat} {Q : VPost} {r : RL} {c : Nat} (m : Nat) (hm : m < n) (h : I m (restrict r keep) H c) : vloopQ keep I n Q .normal r H c := ⟨m, hm, h⟩
theorem lq_e {keep : List Nat} {I : Nat → RL → Heap → Nat → Prop} {n : Nat} {Q : VPost} {r : RL} {c i : Nat} : vloopQ keep I n Q (.exit i) r H c = Q (.exit i) r H c := rfl
theorem lq_r {keep : List Nat} {I : Nat → RL → Heap → Nat → Prop} {n : Nat} {Q : VPost} {r : RL} {c : Nat} : vloopQ keep I n Q .ret r H c = Q .ret r H c := rfl
/-! freezing -/
variable {Z : Lab → Prop}
theorem Fr.two {a b a' b' : AV} (h : Fr Z H a a') (h' : Fr Z H b b') : Fr Z H (.tuple [a, b]) (.tuple [a', b']) := by
  refine .tuple _ _ rfl (fun i => match i with | 0 => a | _ => b) (fun i d hd => ?_) (fun i d hd => ?_)
  · match i with
    | 0 => rfl
    | 1 => rfl
    | i + 2 => simp at hd
  · match i with
    | 0 => simp at hd; subst hd; exact h
    | 1 => simp at hd; subst hd; exact h'
    | i + 2 => simp at hd
theorem Fr.of_own {x : AV} {e : Nat} {rows : List (List AV)} (h : Own H x e rows) (hr : ∀ r ∈ rows, RowOk e r) : Fr (fun l => H l ≠ none) H x (.isl e rows) := by
  rcases h with ⟨rfl, rfl⟩ | ⟨l, rfl, hl⟩
  · exact .nils e
  · exact .own l e 0 _ rows rows (fun i j => (rowsGet rows i j).getD .nilf) (by rw [hl]; simp) hl rfl hr (fun i j x hx => by simp [hx]) (fun i j x hx => by simp [hx]; exact .refl _)
theorem vp1 {t c : Nat} {x y : AV} (h : x = y) : VP [.tmp t] y .ret [(t, x)] H c := ⟨.inr rfl, x, by simp [aRes, aResL, aRes1, rget], h ▸ .refl _⟩
theorem vp1f {t c : Nat} {x y : AV} (h : Fr (fun l => H l ≠ none) H x y) : VP [.tmp t] y .ret [(t, x)] H c := ⟨.inr rfl, x, by simp [aRes, aResL, aRes1, rget], h⟩
theorem vp2 {t u c : Nat} {x y x' y' : AV} (h : Fr (fun l => H l ≠ none) H x x') (h' : Fr (fun l => H l ≠ none) H y y') (hn : u ≠ t) : VP [.tmp t, .tmp u] (.tuple [x', y']) .ret [(t, x), (u, y)] H c := ⟨.inr rfl, .tuple [x, y], by simp [aRes, aResL, aRes1, rget, hn], .two h h'⟩
theorem vp2e {t u c : Nat} {x y x' y' : AV} (h : x = x') (h' : y = y') (hn : u ≠ t) : VP [.tmp t, .tmp u] (.tuple [x', y']) .ret [(t, x), (u, y)] H c := vp2 (h ▸ .refl _) (h' ▸ .refl _) hn
theorem Fr.of_ptr {l : Lab} {e i j : Nat} {rows : List (List AV)} (hl : H l = some (.rows e rows)) : Fr (fun l => H l ≠ none) H (.ptr l e i j) (.iptr e rows i j) :=
  .ptr l e i j rows rows (fun i j => (rowsGet rows i j).getD .nilf) (by rw [hl]; simp) hl (fun i j x hx => by simp [hx]) (fun i j x hx => by simp [hx]; exact .refl _)
theorem v_call_fn {f : Nat} {fs cs args : List AV} : vop P .call (.fn (.func f) fs cs :: args) H q KK = vCall false P f (fs ++ args ++ cs) H q KK := rfl
theorem v_call_fnS {f : Nat} {fs cs args : List AV} : vopS P .call (.fn (.func f) fs cs :: args) H q KK = vCall true P f (fs ++ args ++ cs) H q KK := rfl
theorem v_load_rows {rows : List (List AV)} {r : List AV} {n e i j : Nat} {g : Bool} (h : rows[i]? = some r) : vLoad n g (.iptr e rows i j) H KL = vCell n g r j fun x => KL x (some []) := by
  simp only [vLoad, aLoad, AO.cells, vCell, h]
  by_cases hj : j + n ≤ r.length
  · simp only [hj, if_true, Option.bind_some, true_and, Option.bind_eq_some_iff, Option.some.injEq]
    apply propext
    constructor
    · rintro ⟨r, ⟨y, hy, rfl⟩, hk⟩; exact ⟨y, hy, hk⟩
    · rintro ⟨y, hy, hk⟩; exact ⟨_, ⟨y, hy, rfl⟩, hk⟩
  · simp [hj]
theorem v_load_r1 {r : List AV} {n e j : Nat} {g : Bool} : vLoad n g (.iptr e [r] 0 j) H KL = vCell n g r j fun x => KL x (some []) := v_load_rows rfl
theorem vp3e {t u v c : Nat} {x y z x' y' z' : AV} (h : x = x') (h' : y = y') (h2 : z = z') (hn : u ≠ t) (hn' : v ≠ t) (hn2 : v ≠ u) : VP [.tmp t, .tmp u, .tmp v] (.tuple [x', y', z']) .ret [(t, x), (u, y), (v, z)] H c := by
  subst h h' h2
  exact ⟨.inr rfl, .tuple [x, y, z], by simp [aRes, aResL, aRes1, rget, hn, hn', hn2], .refl _⟩
theorem rowOk_map {α : Type} {f : α → List AV} {e : Nat} {l : List α} (h : ∀ a, RowOk e (f a)) : ∀ r ∈ l.map f, RowOk e r := fun r hr => by
  obtain ⟨a, _, rfl⟩ := List.mem_map.1 hr
  exact h a
end
end Go.Proofs.Ytbngfbpegdcpkaa
/-! The abstract machine: running a function out where some tests are not known: a list says how they are taken to come out, and what was tested is told. -/
namespace Go.Proofs.Ytbngfbpegdcpkaa
set_option linter.unusedVariables false
set_option linter.unusedSimpArgs false
/-- a run's end: how, the state, the answers that are left, what was tested against which answer -/
structure XR where
  e : AEx
  s : ASt
  os : List Bool
  cons : List (Bool × Bool)
def ConsOk (l : List (Bool × Bool)) : Prop := ∀ p ∈ l, p.1 = p.2
theorem ConsOk.left {l m : List (Bool × Bool)} (h : ConsOk (l ++ m)) : ConsOk l := fun p hp => h p (by simp [hp])
theorem ConsOk.right {l m : List (Bool × Bool)} (h : ConsOk (l ++ m)) : ConsOk m := fun p hp => h p (by simp [hp])
/-- a register's truth, taken to be what a list says -/
def askX (asks : List (Nat × Bool)) (d : Option Nat) (x : AV) : AV × List (Bool × Bool) := match d, x with
  | some t, .bool b => match asks.lookup t with
    | some ans => (.bool ans, [(b, ans)])
    | none => (x, [])
  | _, x => (x, [])
theorem askX_ok {asks : List (Nat × Bool)} {d : Option Nat} {x : AV} (h : ConsOk (askX asks d x).2) : (askX asks d x).1 = x := by
  unfold askX at h ⊢
  split
  · rename_i t b
    simp only at h
    split
    · rename_i ans ha
      rw [ha] at h
      have : b = ans := h (b, ans) (by simp)
      rw [this]
    · rfl
  · rfl
section
variable (call : CallF) (H0 : Heap) (p : Lab) (asks : List (Nat × Bool))
def runSeqQ : List AIns → ASt → Option (ASt × List (Bool × Bool))
  | [], s => some (s, [])
  | i :: is, s => (evalIns call H0 p i s).bind fun rc => (runSeqQ is (applyRc i s { rc with x := (askX asks i.dst rc.x).1 })).bind fun r => some (r.1, (askX asks i.dst rc.x).2 ++ r.2)
def runTrQ : List AIns → ASt → Option ((ASt × List Tr) × List (Bool × Bool))
  | [], s => some ((s, []), [])
  | i :: is, s => (evalIns call H0 p i s).bind fun rc => (runTrQ is (applyRc i s { rc with x := (askX asks i.dst rc.x).1 })).bind fun r => some ((r.1.1, trOf rc :: r.1.2), (askX asks i.dst rc.x).2 ++ r.2)
def runRegionQ (ops : List AIns) (draw : Option (List Nat)) (keep : List Nat) (s : ASt) : Option (ASt × List (Bool × Bool)) := match draw with
  | none => (runSeqQ call H0 p asks ops s).bind fun r => some ({ r.1 with regs := restrict r.1.regs keep }, r.2)
  | some masks => (runTrQ call H0 p asks ops s).bind fun r => if clashAll masks r.1.2 r.1.2 0 then none else some ({ r.1.1 with regs := restrict r.1.1.regs keep }, r.2)
end
theorem runSeqQ_ok {call : CallF} {H0 : Heap} {p : Lab} {asks : List (Nat × Bool)} : ∀ {is : List AIns} {s : ASt} {r : ASt × List (Bool × Bool)}, runSeqQ call H0 p asks is s = some r → ConsOk r.2 → runSeq call H0 p is s = some r.1
  | [], s, r, h, _ => by
    simp only [runSeqQ, Option.some.injEq] at h; subst h
    rfl
  | i :: is, s, r, h, hc => by
    simp only [runSeqQ, Option.bind_eq_some_iff, Option.some.injEq] at h
    obtain ⟨rc, h1, q, h2, rfl⟩ := h
    have e := askX_ok hc.left
    rw [e] at h2
    simp only [runSeq, h1, Option.bind_some]
    exact runSeqQ_ok h2 hc.right
theorem runTrQ_ok {call : CallF} {H0 : Heap} {p : Lab} {asks : List (Nat × Bool)} : ∀ {is : List AIns} {s : ASt} {r : (ASt × List Tr) × List (Bool × Bool)}, runTrQ call H0 p asks is s = some r → ConsOk r.2 → runTr call H0 p is s = some r.1
  | [], s, r, h, _ => by
    simp only [runTrQ, Option.some.injEq] at h; subst h
    rfl
  | i :: is, s, r, h, hc => by
    simp only [runTrQ, Option.bind_eq_some_iff, Option.some.injEq] at h
    obtain ⟨rc, h1, q, h2, rfl⟩ := h
    have e := askX_ok hc.left
    rw [e] at h2
    simp only [runTr, h1, Option.bind_some]
    have := runTrQ_ok h2 hc.right
    rw [this]
    rfl
theorem runRegionQ_ok {call : CallF} {H0 : Heap} {p : Lab} {asks : List (Nat × Bool)} {ops : List AIns} {draw : Option (List Nat)} {keep : List Nat} {s : ASt} {r : ASt × List (Bool × Bool)} (h : runRegionQ call H0 p asks ops draw keep s = some r) (hc : ConsOk r.2) : runRegion call H0 p ops draw keep s = some r.1 := by
  unfold runRegionQ at h
  unfold runRegion
  split at h
  · simp only [Option.bind_eq_some_iff, Option.some.injEq] at h
    obtain ⟨q, h1, rfl⟩ := h
    rw [runSeqQ_ok h1 hc]
    rfl
  · simp only [Option.bind_eq_some_iff] at h
    obtain ⟨q, h1, h2⟩ := h
    split at h2
    · cases h2
    · rename_i hcl
      simp only [Option.some.injEq] at h2
      subst h2
      rw [runTrQ_ok h1 hc]
      simp only [Option.bind_some]
      rw [if_neg hcl]
section
variable (call : CallF) (H0 : Heap) (p : Lab) (asks : List (Nat × Bool))
def xloop (f : List Bool → ASt → Option XR) (keep : List Nat) : Nat → List Bool → ASt → Option XR
  | 0, _, _ => none
  | m + 1, os, s => (f os { s with regs := restrict s.regs keep }).bind fun r => match r.e with
    | .normal => (xloop f keep m r.os r.s).bind fun q => some { q with cons := r.cons ++ q.cons }
    | _ => some r
def axb (fuel : Nat) : ACode → List Bool → ASt → Option XR
  | .skip, os, s => some ⟨.normal, s, os, []⟩
  | .region ops draw keep, os, s => (runRegionQ call H0 p asks ops draw keep s).bind fun r => some ⟨.normal, r.1, os, r.2⟩
  | .seq a b, os, s => (axb fuel a os s).bind fun r => match r.e with
    | .normal => (axb fuel b r.os r.s).bind fun q => some { q with cons := r.cons ++ q.cons }
    | _ => some r
  | .cond c t e, os, s => match evArg s.regs c with
    | some (.bool b) => match os with
      | true :: os => (axb fuel t os s).bind fun q => some { q with cons := (b, true) :: q.cons }
      | false :: os => (axb fuel e os s).bind fun q => some { q with cons := (b, false) :: q.cons }
      | [] => match b with
        | true => axb fuel t [] s
        | false => axb fuel e [] s
    | _ => none
  | .block id b, os, s => (axb fuel b os s).bind fun r => match r.e with
    | .exit k => if k = id then some { r with e := .normal } else some r
    | _ => some r
  | .loop keep b, os, s => xloop (axb fuel b) keep fuel os s
  | .exit id, os, s => some ⟨.exit id, s, os, []⟩
  | .ret, os, s => some ⟨.ret, s, os, []⟩
  | _, _, _ => none
end
theorem axb_awp {call : CallF} {H0 : Heap} {p : Lab} {asks : List (Nat × Bool)} {fuel : Nat} {c : ACode} : ∀ {os : List Bool} {s : ASt} {r : XR} {Q : APost}, axb call H0 p asks fuel c os s = some r → ConsOk r.cons → Q r.e r.s → awp call H0 p c Q s := by
  induction c with
  | skip => intro os s r Q h _ hQ; simp only [axb, Option.some.injEq] at h; subst h; exact hQ
  | region ops draw keep =>
    intro os s r Q h hc hQ
    simp only [axb, Option.bind_eq_some_iff, Option.some.injEq] at h
    obtain ⟨s1, h1, rfl⟩ := h
    exact ⟨_, runRegionQ_ok h1 hc, hQ⟩
  | seq a b iha ihb =>
    intro os s r Q h hc hQ
    simp only [axb, Option.bind_eq_some_iff] at h
    obtain ⟨⟨e1, s1, os1, c1⟩, h1, h2⟩ := h
    cases e1 with
    | normal =>
      simp only [Option.bind_eq_some_iff, Option.some.injEq] at h2
      obtain ⟨q, h2, rfl⟩ := h2
      exact iha h1 hc.left (ihb h2 hc.right hQ)
    | exit id => simp only [Option.some.injEq] at h2; subst h2; exact iha h1 hc hQ
    | ret => simp only [Option.some.injEq] at h2; subst h2; exact iha h1 hc hQ
    | goto l => simp only [Option.some.injEq] at h2; subst h2; exact iha h1 hc hQ
  | cond c t e iht ihe =>
    intro os s r Q h hc hQ
    simp only [axb] at h
    simp only [awp]
    split at h
    · rename_i b hb
      rw [hb]
      split at h
      · simp only [Option.bind_eq_some_iff, Option.some.injEq] at h
        obtain ⟨q, h2, rfl⟩ := h
        have : b = true := hc (b, true) (by simp)
        subst this
        exact iht h2 (fun p hp => hc p (by simp [hp])) hQ
      · simp only [Option.bind_eq_some_iff, Option.some.injEq] at h
        obtain ⟨q, h2, rfl⟩ := h
        have : b = false := hc (b, false) (by simp)
        subst this
        exact ihe h2 (fun p hp => hc p (by simp [hp])) hQ
      · cases b with
        | true => exact iht h hc hQ
        | false => exact ihe h hc hQ
    · cases h
  | block id b ih =>
    intro os s r Q h hc hQ
    simp only [axb, Option.bind_eq_some_iff] at h
    obtain ⟨⟨e1, s1, os1, c1⟩, h1, h2⟩ := h
    cases e1 with
    | normal => simp only [Option.some.injEq] at h2; subst h2; exact ih h1 hc hQ
    | exit k =>
      simp only at h2
      split at h2
      · rename_i hk; simp only [Option.some.injEq] at h2; subst h2
        exact ih h1 hc (by simp only [blockQ]; rw [if_pos hk]; exact hQ)
      · rename_i hk; simp only [Option.some.injEq] at h2; subst h2
        exact ih h1 hc (by simp only [blockQ]; rw [if_neg hk]; exact hQ)
    | ret => simp only [Option.some.injEq] at h2; subst h2; exact ih h1 hc hQ
    | goto l => simp only [Option.some.injEq] at h2; subst h2; exact ih h1 hc hQ
  | loop keep b ih =>
    intro os s r Q h hc hQ
    simp only [axb] at h
    refine ⟨fuel, ?_⟩
    have key : ∀ m os s r, xloop (axb call H0 p asks fuel b) keep m os s = some r → ConsOk r.cons → Q r.e r.s → rounds (awp call H0 p b) keep Q m s := by
      intro m
      induction m with
      | zero => intro os s r h; simp [xloop] at h
      | succ m ihm =>
        intro os s r h hc hQ
        simp only [xloop, Option.bind_eq_some_iff] at h
        obtain ⟨⟨e1, s1, os1, c1⟩, h1, h2⟩ := h
        cases e1 with
        | normal =>
          simp only [Option.bind_eq_some_iff, Option.some.injEq] at h2
          obtain ⟨q, h2, rfl⟩ := h2
          exact ih h1 hc.left (ihm _ _ _ h2 hc.right hQ)
        | exit id => simp only [Option.some.injEq] at h2; subst h2; exact ih h1 hc hQ
        | ret => simp only [Option.some.injEq] at h2; subst h2; exact ih h1 hc hQ
        | goto l => simp only [Option.some.injEq] at h2; subst h2; exact ih h1 hc hQ
    exact key fuel os s r h hc hQ
  | exit id => intro os s r Q h _ hQ; simp only [axb, Option.some.injEq] at h; subst h; exact hQ
  | ret => intro os s r Q h _ hQ; simp only [axb, Option.some.injEq] at h; subst h; exact hQ
  | label l => intro os s r Q h; simp [axb] at h
  | goto l => intro os s r Q h; simp [axb] at h
  | scope l b r => intro os s r Q h; simp [axb] at h
  | bad => intro os s r Q h; simp [axb] at h
/-- what a law's body comes to -/
def lawOut (call : CallF) (fuel : Nat) (A : AFun) (xs : List AV) (os : List Bool) (asks : List (Nat × Bool) := []) : Option (AV × List (Bool × Bool)) := (axb call (fun _ => none) [] asks fuel A.body os (entry xs)).bind fun r => match r.e with
  | .normal | .ret => (aRes (upd r.s.ov (fun _ => none)) r.s.regs A.res).bind fun x => some (x, r.cons)
  | _ => none
theorem law_awp {call : CallF} {fuel : Nat} {A : AFun} {xs : List AV} {os : List Bool} {asks : List (Nat × Bool)} {x : AV} {cons : List (Bool × Bool)} (h : lawOut call fuel A xs os asks = some (x, cons)) (hc : ConsOk cons) :
    awp call (fun _ => none) [] A.body (RetQ (fun _ => none) A.res (fun y u => y = x ∧ u = [])) (entry xs) := by
  unfold lawOut at h
  simp only [Option.bind_eq_some_iff] at h
  obtain ⟨r, h1, h2⟩ := h
  have key : (r.e = .normal ∨ r.e = .ret) ∧ aRes (upd r.s.ov (fun _ => none)) r.s.regs A.res = some x ∧ r.cons = cons := by
    split at h2
    · rename_i he
      simp only [Option.bind_eq_some_iff, Option.some.injEq, Prod.mk.injEq] at h2
      obtain ⟨y, h2, rfl, rfl⟩ := h2
      exact ⟨.inl he, h2, rfl⟩
    · rename_i he
      simp only [Option.bind_eq_some_iff, Option.some.injEq, Prod.mk.injEq] at h2
      obtain ⟨y, h2, rfl, rfl⟩ := h2
      exact ⟨.inr he, h2, rfl⟩
    · cases h2
  obtain ⟨he, hx, rfl⟩ := key
  exact axb_awp h1 hc ⟨he, x, [], hx, fun l o h => by simp [upd] at h, rfl, rfl⟩
theorem lookup_ok {P : Program} {l : List (Nat × AFun)} (h : ∀ p ∈ l, FunOk P p.1 p.2) : ∀ f A, l.lookup f = some A → FunOk P f A := by
  induction l with
  | nil => intro f A h; simp at h
  | cons p l ih =>
    intro f A hf
    rw [List.lookup_cons] at hf
    split at hf
    · rename_i e
      cases hf
      have := h p (by simp)
      rw [beq_iff_eq] at e
      subst e
      exact this
    · exact ih (fun q hq => h q (by simp [hq])) f A hf
end Go.Proofs.Ytbngfbpegdcpkaa
/-! The abstract machine: a law's arguments in its terms. -/
namespace Go.Proofs.Ytbngfbpegdcpkaa
set_option linter.unusedVariables false
set_option linter.unusedSimpArgs false

def plainFs (P : Program) (g : TypeId → Bool) : List Field → Nat → Option Nat
  | [], off => some off
  | f :: fs, off => if f.offset = off ∧ g f.type = true then plainFs P g fs (off + P.cellsOf f.type) else none
/-- types of plain data: numbers, texts, slices and structs of them -/
def plainT (P : Program) : Nat → TypeId → Bool
  | 0, _ => false
  | n + 1, t => match P.underlying t with
    | some .bool | some (.int _) | some .string => P.cellsOf t == 1
    | some (.slice e) => P.cellsOf t == 1 && decide (0 < P.cellsOf e) && plainT P n e
    | some (.struct fs) => plainFs P (plainT P n) fs.toList 0 == some (P.cellsOf t)
    | _ => false
def shapeFs (P : Program) (g : TypeId → List AV → Prop) : List Field → List AV → Prop
  | [], xs => xs = []
  | f :: fs, xs => ∃ a b, xs = a ++ b ∧ a.length = P.cellsOf f.type ∧ g f.type a ∧ shapeFs P g fs b
/-- what a datum of a type is, cell by cell -/
def shapeOf (P : Program) : Nat → TypeId → List AV → Prop
  | 0, _, _ => False
  | n + 1, t, xs => match P.underlying t with
    | some .bool => ∃ b, xs = [.bool b]
    | some (.int k) => ∃ i, xs = [.int k i] ∧ k.min ≤ i ∧ i ≤ k.max
    | some .string => ∃ s, xs = [.str s] ∧ s.size ≤ maxLen
    | some (.slice e) => ∃ rows, xs = [.isl (P.cellsOf e) rows] ∧ rows.length ≤ maxLen ∧ ∀ r ∈ rows, shapeOf P n e r
    | some (.struct fs) => shapeFs P (shapeOf P n) fs.toList xs
    | _ => False
def immOf (w : World) : Imm := fun b => w.heap[b]?
section
variable {P : Program} {H : Type} {enc : TypeId × Value → H} {w : World} {ρ : Locs}
theorem shape_len : ∀ {n : Nat} {t : TypeId} {xs : List AV}, plainT P n t = true → shapeOf P n t xs → xs.length = P.cellsOf t ∧ ∀ x ∈ xs, x.one = true
  | 0, _, _, h, _ => by simp [plainT] at h
  | n + 1, t, xs, h, hs => by
    simp only [plainT] at h
    simp only [shapeOf] at hs
    cases hu : P.underlying t with
    | none => simp [hu] at h
    | some d =>
      cases d <;> simp only [hu] at h hs <;> try (cases h; done)
      · obtain ⟨b, rfl⟩ := hs; simp at h; simp [h, AV.one]
      · obtain ⟨b, rfl, _⟩ := hs; simp at h; simp [h, AV.one]
      · obtain ⟨b, rfl, _⟩ := hs; simp at h; simp [h, AV.one]
      · simp only [Bool.and_eq_true, beq_iff_eq] at h
        obtain ⟨rows, rfl, _⟩ := hs
        simp [h.1.1, AV.one]
      · rename_i fs
        simp only [beq_iff_eq] at h
        have key : ∀ (fs : List Field) (off tot : Nat) (xs : List AV), plainFs P (plainT P n) fs off = some tot → shapeFs P (shapeOf P n) fs xs → off + xs.length = tot ∧ ∀ x ∈ xs, x.one = true := by
          intro fs
          induction fs with
          | nil => intro off tot xs h hs; simp only [plainFs, Option.some.injEq] at h; simp only [shapeFs] at hs; subst hs; simp [h]
          | cons f fs ih =>
            intro off tot xs h hs
            simp only [plainFs] at h
            split at h
            · rename_i hc
              obtain ⟨a, b, rfl, hl, ha, hb⟩ := hs
              obtain ⟨h1, h2⟩ := ih _ _ _ h hb
              obtain ⟨_, h3⟩ := shape_len hc.2 ha
              refine ⟨by simp; omega, fun x hx => ?_⟩
              rcases List.mem_append.1 hx with hx | hx
              · exact h3 x hx
              · exact h2 x hx
            · cases h
        obtain ⟨h1, h2⟩ := key _ _ _ _ h hs
        exact ⟨by omega, h2⟩
theorem mapM_some {α β : Type} {f : α → Option β} : ∀ {l : List α} {ys : List β}, l.mapM f = some ys → ys.length = l.length ∧ ∀ (i : Nat) a, l[i]? = some a → ∃ y, ys[i]? = some y ∧ f a = some y
  | [], ys, h => by simp at h; subst h; exact ⟨rfl, fun i a h => by simp at h⟩
  | x :: l, ys, h => by
    rw [List.mapM_cons] at h
    simp only [Option.bind_eq_bind, Option.bind_eq_some_iff, Option.pure_def, Option.some.injEq] at h
    obtain ⟨y, hy, zs, hzs, rfl⟩ := h
    obtain ⟨h1, h2⟩ := mapM_some hzs
    refine ⟨by simp [h1], fun i a ha => ?_⟩
    cases i with
    | zero => simp at ha; subst ha; exact ⟨y, rfl, hy⟩
    | succ i => exact h2 i a (by simpa using ha)
theorem cells_some {base n : Nat} {a : Addr} {us : List Value} (h : w.cells? base a n = some us) : us.length = n ∧ ∀ k, k < n → us[k]? = w.cell? (a.add k) := by
  unfold World.cells? at h
  split at h
  · obtain ⟨h1, h2⟩ := mapM_some h
    simp only [List.length_range] at h1
    refine ⟨h1, fun k hk => ?_⟩
    obtain ⟨y, hy, hc⟩ := h2 k k (by rw [List.getElem?_range hk])
    rw [hy, hc]
  · cases h
theorem kind_wf {k : IntKind} {n : Int} (h : (Lit.int k n).wf = true) : k.min ≤ n ∧ n ≤ k.max := by
  simpa [Lit.wf] using h
/-- what reads as data is of its type's shape -/
theorem trod_shape {base : Nat} {sp : Nat → Bool} {held : Bool} : ∀ (n fuel : Nat) (t : TypeId) (cs : List Value) (x : DataW H × List MemPlace), plainT P n t = true → DataW.trod enc P w base sp held fuel t cs = some x → ∃ xs, RepL ρ (immOf w) xs cs ∧ shapeOf P n t xs
  | 0, _, _, _, _, h, _ => by simp [plainT] at h
  | n + 1, 0, _, _, _, _, h => by simp [DataW.trod] at h
  | n + 1, fuel + 1, t, cs, x, hp, h => by
    simp only [plainT] at hp
    cases hu : P.underlying t with
    | none => simp [hu] at hp
    | some d =>
      cases d <;> simp only [hu] at hp <;> try (cases hp; done)
      · -- bool
        match cs, h with
        | [], h => simp [DataW.trod, hu] at h
        | v :: u :: cs, h => simp [DataW.trod, hu] at h
        | [v], h =>
          cases v <;> simp [DataW.trod, hu] at h
          rename_i b
          exact ⟨[.bool b], .cons (.bool b) .nil, by simp [shapeOf, hu]⟩
      · -- int
        rename_i k
        match cs, h with
        | [], h => simp [DataW.trod, hu] at h
        | v :: u :: cs, h => simp [DataW.trod, hu] at h
        | [v], h =>
          cases v <;> simp [DataW.trod, hu] at h
          rename_i k' i
          obtain ⟨⟨rfl, hw⟩, _⟩ := h
          exact ⟨[.int k' i], .cons (.int k' i) .nil, by simp only [shapeOf, hu]; exact ⟨i, rfl, kind_wf hw⟩⟩
      · -- string
        match cs, h with
        | [], h => simp [DataW.trod, hu] at h
        | v :: u :: cs, h => simp [DataW.trod, hu] at h
        | [v], h =>
          cases v <;> simp [DataW.trod, hu] at h
          rename_i s
          exact ⟨[.str s], .cons (.str s) .nil, by simp only [shapeOf, hu]; exact ⟨s, rfl, h.1⟩⟩
      · -- slice
        rename_i e
        simp only [Bool.and_eq_true, beq_iff_eq, decide_eq_true_eq] at hp
        obtain ⟨⟨_, hpos⟩, hpe⟩ := hp
        match cs, h with
        | [], h => simp [DataW.trod, hu] at h
        | v :: u :: cs, h => simp [DataW.trod, hu] at h
        | [v], h =>
          cases v <;> simp only [DataW.trod, hu] at h <;> try (cases h; done)
          rename_i A len cap
          cases A with
          | none =>
            cases len <;> cases cap <;> simp at h
            exact ⟨[.isl (P.cellsOf e) []], .cons (.isl0 none _ _ (fun _ => rfl)) .nil, by simp [shapeOf, hu]⟩
          | some ad =>
            simp only at h
            split at h
            · rename_i hc
              simp only [Option.bind_eq_some_iff] at h
              obtain ⟨elems, hel, _⟩ := h
              obtain ⟨h1, h2⟩ := mapM_some hel
              simp only [List.length_range] at h1
              -- each row by itself
              have hrow : ∀ i, i < len → ∃ us xs, us.length = P.cellsOf e ∧ (∀ k, k < P.cellsOf e → us[k]? = w.cell? ((ad.add (i * P.cellsOf e)).add k)) ∧ RepL ρ (immOf w) xs us ∧ shapeOf P n e xs := by
                intro i hi
                obtain ⟨y, _, hy⟩ := h2 i i (by rw [List.getElem?_range hi])
                simp only [Option.bind_eq_some_iff] at hy
                obtain ⟨us, hus, hy⟩ := hy
                obtain ⟨g1, g2⟩ := cells_some hus
                obtain ⟨xs, g3, g4⟩ := trod_shape n fuel e us y hpe hy
                exact ⟨us, xs, g1, g2, g3, g4⟩
              rcases Nat.eq_zero_or_pos len with rfl | hlen
              · exact ⟨[.isl (P.cellsOf e) []], .cons (.isl0 _ _ _ (fun h => by cases h)) .nil, by simp only [shapeOf, hu]; exact ⟨[], rfl, Nat.zero_le _, by simp⟩⟩
              · have hch : ∀ i, ∃ xs : List AV, i < len → ∃ us : List Value, us.length = P.cellsOf e ∧ (∀ k, k < P.cellsOf e → us[k]? = w.cell? ((ad.add (i * P.cellsOf e)).add k)) ∧ RepL ρ (immOf w) xs us ∧ shapeOf P n e xs := by
                  intro i
                  by_cases hi : i < len
                  · obtain ⟨us, xs, g⟩ := hrow i hi
                    exact ⟨xs, fun _ => ⟨us, g⟩⟩
                  · exact ⟨[], fun h => absurd h hi⟩
                obtain ⟨F, hF⟩ := Classical.axiomOfChoice hch
                -- the block
                obtain ⟨us0, g1, g2, _, _⟩ := hF 0 hlen
                have hc0 : ∃ v, w.cell? ad = some v := by
                  have := g2 0 hpos
                  rw [List.getElem?_eq_getElem (by omega)] at this
                  simp only [Nat.zero_mul, Addr.add, if_true] at this
                  exact ⟨_, this.symm⟩
                obtain ⟨v0, hv0⟩ := hc0
                have hspot : ad.spot = none := by
                  unfold World.cell? at hv0
                  split at hv0
                  · cases hq : ad.spot with
                    | none => rfl
                    | some _ => simp [hq] at hv0
                  · cases hv0
                obtain ⟨b, o', sp'⟩ := ad
                simp only at hspot; subst hspot
                have hblk : ∃ c T fz, w.heap[b]? = some (.cells c T fz) := by
                  unfold World.cell? at hv0
                  split at hv0
                  · rename_i c T fz hb; exact ⟨c, T, fz, hb⟩
                  · cases hv0
                obtain ⟨c, T, fz, hb⟩ := hblk
                refine ⟨[.isl (P.cellsOf e) ((List.range len).map F)], .cons ?_ .nil, ?_⟩
                · have hget : ∀ i j x, rowsGet ((List.range len).map F) i j = some x → i < len ∧ (F i)[j]? = some x := by
                    intro i j x hx
                    simp only [rowsGet, List.getElem?_map] at hx
                    by_cases hi : i < len
                    · rw [List.getElem?_range hi] at hx; exact ⟨hi, by simpa using hx⟩
                    · rw [List.getElem?_eq_none (by simp; omega)] at hx; simp at hx
                  have hcell : ∀ i j x, rowsGet ((List.range len).map F) i j = some x → ∃ v, c[o' + (i * P.cellsOf e + j)]? = some v ∧ RepV ρ (immOf w) x v := by
                    intro i j x hx
                    obtain ⟨hi, hj⟩ := hget i j x hx
                    obtain ⟨us, k1, k2, k3, k4⟩ := hF i hi
                    obtain ⟨v, hv, hr⟩ := k3.2 j x hj
                    have hje : j < P.cellsOf e := by
                      have := (List.getElem?_eq_some_iff.1 hv).1
                      omega
                    have := k2 j hje
                    rw [hv, add_none, add_none, cell_at hb] at this
                    exact ⟨v, by rw [← Nat.add_assoc]; exact this.symm, hr⟩
                  have := RepV.isl (ρ := ρ) (R := immOf w) (P.cellsOf e) ((List.range len).map F) b o' cap c T fz (fun i j => c.getD (o' + (i * P.cellsOf e + j)) undef) (by simpa using hc.2.1) (fun r hr => ?_) hb (fun i j x hx => ?_) (fun i j x hx => ?_)
                  · simpa using this
                  · obtain ⟨i, hi, rfl⟩ := List.mem_map.1 hr
                    obtain ⟨us, k1, k2, k3, k4⟩ := hF i (by simpa using hi)
                    exact shape_len hpe k4
                  · obtain ⟨v, hv, _⟩ := hcell i j x hx
                    simp [Array.getD_eq_getD_getElem?, hv]
                  · obtain ⟨v, hv, hr⟩ := hcell i j x hx
                    simpa [Array.getD_eq_getD_getElem?, hv] using hr
                · simp only [shapeOf, hu]
                  refine ⟨_, rfl, by simp; omega, fun r hr => ?_⟩
                  obtain ⟨i, hi, rfl⟩ := List.mem_map.1 hr
                  obtain ⟨us, k1, k2, k3, k4⟩ := hF i (by simpa using hi)
                  exact k4
            · cases h
      · -- struct
        rename_i fs
        simp only [beq_iff_eq] at hp
        simp only [DataW.trod, hu] at h
        split at h
        · rename_i hlen
          simp only [Option.map_eq_some_iff] at h
          obtain ⟨ys, hys, _⟩ := h
          have key : ∀ (fs : List Field) (off tot : Nat) (ys : List (DataW H × List MemPlace)), plainFs P (plainT P n) fs off = some tot → tot ≤ cs.length → (fs.mapM fun f => DataW.trod enc P w base sp held fuel f.type ((cs.drop f.offset).take (P.cellsOf f.type))) = some ys →
              ∃ xs, RepL ρ (immOf w) xs ((cs.drop off).take (tot - off)) ∧ shapeFs P (shapeOf P n) fs xs ∧ off ≤ tot := by
            intro fs
            induction fs with
            | nil =>
              intro off tot ys hf ht hm
              simp only [plainFs, Option.some.injEq] at hf
              subst hf
              exact ⟨[], by simpa using RepL.nil, by simp [shapeFs], Nat.le_refl _⟩
            | cons f fs ih =>
              intro off tot ys hf ht hm
              simp only [plainFs] at hf
              split at hf
              · rename_i hc
                rw [List.mapM_cons] at hm
                simp only [Option.bind_eq_bind, Option.bind_eq_some_iff, Option.pure_def, Option.some.injEq] at hm
                obtain ⟨y, hy, zs, hzs, _⟩ := hm
                obtain ⟨xs2, h1, h2, h3⟩ := ih _ _ _ hf ht hzs
                rw [hc.1] at hy
                obtain ⟨xs1, h4, h5⟩ := trod_shape n fuel f.type _ y hc.2 hy
                obtain ⟨h6, _⟩ := shape_len hc.2 h5
                refine ⟨xs1 ++ xs2, ?_, ⟨xs1, xs2, rfl, h6, h5, h2⟩, by omega⟩
                have := h4.append h1
                have e : (cs.drop off).take (P.cellsOf f.type) ++ (cs.drop (off + P.cellsOf f.type)).take (tot - (off + P.cellsOf f.type)) = (cs.drop off).take (tot - off) := by
                  rw [show tot - off = P.cellsOf f.type + (tot - (off + P.cellsOf f.type)) by omega, List.take_add, List.drop_drop]
                rwa [e] at this
              · cases hf
          obtain ⟨xs, h1, h2, _⟩ := key fs.toList 0 _ ys hp (by omega) hys
          refine ⟨xs, ?_, by simp only [shapeOf, hu]; exact h2⟩
          have e : (cs.drop 0).take (P.cellsOf t - 0) = cs := by simp [← hlen]
          rwa [e] at h1
        · cases h
theorem rep_start (w : World) (_q : Lab) : Rep (fun _ => none) (fun _ => none) (immOf w) w := ⟨(fun l o h => by cases h), (fun l l' o o' L L' h => by cases h), (fun l o L h => by cases h), fun b O h => h⟩
/-- whatever a law makes leaves what was there -/
theorem below_of_fut {w w' : World} {ρ' : Locs} {R' : Imm} {W : Lab → Prop} (h : Fut (fun _ => none) (fun _ => none) (immOf w) w W ρ' R' w') : Go.RowKit.Below w.heap.size w w' :=
  ⟨h.os, h.tape, h.output, h.size, fun k hk => h.frame k hk (fun k o K h => (by cases h))⟩
/-- a value of its cells -/
theorem agg_of_cells {xs : List AV} {v : Value} (h : RepL ρ (immOf w) xs v.cells.toList) (ha : ∃ cs, v = .agg cs) : RepV ρ (immOf w) (.agg xs) v := by
  obtain ⟨cs, rfl⟩ := ha
  have := h.agg
  simpa [Value.cells] using this
end
end Go.Proofs.Ytbngfbpegdcpkaa
/-! A law's shell: from the abstract machine's run to the given statement. -/
namespace Go.Proofs.Ytbngfbpegdcpkaa
set_option linter.unusedVariables false
set_option linter.unusedSimpArgs false
open Go.ChangeShapes Go.WideShapes Go.ChangeAt Go.RowKit
theorem Try.laidOut : laidOutB Try.prog = true := by kernel_rfl
theorem Try.mixed : Try.prog.follows .mixedOrders = true := by kernel_rfl
theorem Try.ownKnob : ownKnob Try.prog.godebug = none := by kernel_rfl
section
variable {H : Type} {enc : TypeId × Value → H} {P : Program}
/-- a law's end, where below the heap's old size nothing has turned -/
theorem post_law {f : Func} {s : ChangeSpec} {apart fresh handsOn again : Bool} {W W' : World} {args : Array Value} {v : Value} {ds gs : List (DataW H)} {before : List MemPlace}
    (hW : DataW.Whole enc P f.params.toList s.vars apart W args.toList ds gs before)
    (hres : ∀ (b : Nat) (sp : Nat → Bool) (hd : Bool), DataW.TrodAll enc P W' b sp hd f.resultTypes.toList (v.resultList f.resultTypes.size) (s.fn H (ds ++ gs)).results [])
    (hargs : ∀ sp : Nat → Bool, (∀ p ∈ before, sp p.block = true) → DataW.TrodAll enc P W' 0 sp true f.params.toList args.toList (s.fn H (ds ++ gs)).args before)
    (hvars : ∀ sp : Nat → Bool, DataW.TrodVars enc P W' sp s.vars (s.fn H (ds ++ gs)).vars [])
    (hb : Below W.heap.size W W')
    (hok : ∀ (j : Nat) (t : TypeId) (r : Value), f.resultTypes[j]? = some t → (v.resultList f.resultTypes.size)[j]? = some r → Value.okWide P W' .any 0 t r) :
    s.post enc P f apart fresh handsOn again W args v W' := by
  have hlt : ∀ p ∈ before, p.block < W.heap.size := fun p hp => hW.lt p hp
  have hold : ∀ p ∈ before, (fun b => decide (b < W.heap.size)) p.block = true := fun p hp => by simpa using hlt p hp
  refine ⟨ds, gs, before, [], before, [], hW, hres _ _ _, hargs _ hold, hvars _, World.keptBut_mono (fun p hp => ⟨hp, .inr (.inl hp)⟩) (hb.frame (· ∈ before)), fun _ => ?_⟩
  obtain ⟨_, _, _, _, _, hz, hn⟩ := hW
  refine ⟨hok, _, _, ([] ++ before) ++ [], ⟨[] ++ before, [], trodAll_append (hargs _ (fun _ _ => rfl)) (hres _ _ _), hvars _, rfl, ?_, ?_⟩, ?_⟩
  · intro b off hp
    have hin : MemPlace.cell b off ∈ before := by simpa using hp
    rw [hb.frozen (hlt _ hin)]
    exact hz b off hin
  · intro ha
    simpa using hn ha
  · intro p hp _
    simpa using hp
end
/-- an argument's cells in the abstract machine's terms -/
theorem arg_shape {H : Type} {enc : TypeId × Value → H} {W : World} {t : TypeId} {v : Value} {d : DataW H} {ps : List MemPlace} (hp : plainT Try.prog 8 t = true) (h : DataW.Trod enc Try.prog W 0 (fun _ => true) true t v d ps) :
    ∃ xs, RepL (fun _ => none) (immOf W) xs v.cells.toList ∧ shapeOf Try.prog 8 t xs := by
  obtain ⟨fuel, h⟩ := h
  exact trod_shape 8 fuel t _ _ hp h
/-- the law's call, out of its run -/
theorem law_calls {call : CallF} (hcall : CallOk Try.prog call) {f : Nat} {A : AFun} (hA : FunOk Try.prog f A) {xs : List AV} (hlen : xs.length = A.np) {fuel : Nat} {os : List Bool} {asks : List (Nat × Bool)} {cons : List (Bool × Bool)} (h : lawOut call fuel A xs os asks = some (.bool true, cons)) (hc : ConsOk cons) {W : World} {vs : List Value} (hvs : RepL (fun _ => none) (immOf W) xs vs) :
    Calls Try.prog f vs.toArray W fun e W' => e = .returned (.bool true) ∧ Below W.heap.size W W' := by
  have := call_does Try.mixed hcall hA hlen (law_awp h hc) hvs W (rep_start W []) (fun l _ => rfl)
  refine Calls.mono this ?_
  rintro e W' ⟨v, rfl, x, u, ρ', R', ⟨rfl, rfl⟩, hF, hv, _⟩
  exact ⟨by rw [hv.bool_inv], below_of_fut hF⟩
end Go.Proofs.Ytbngfbpegdcpkaa
/-! A law's shell, 2: every argument at once; from a law's run to its contract. -/
namespace Go.Proofs.Ytbngfbpegdcpkaa
set_option linter.unusedVariables false
set_option linter.unusedSimpArgs false
open Go.ChangeShapes Go.WideShapes Go.ChangeAt Go.RowKit
set_option maxRecDepth 100000
/-- an argument of a type, out of its cells -/
def parOf (P : Program) (t : TypeId) (xs : List AV) : AV := match P.underlying t with
  | some (.struct _) => .agg xs
  | _ => xs.headD .nilp
def parsOf (P : Program) : List TypeId → List AV → Prop
  | [], ys => ys = []
  | t :: ts, ys => ∃ xs zs, ys = parOf P t xs :: zs ∧ shapeOf P 8 t xs ∧ parsOf P ts zs
section
variable {H : Type} {enc : TypeId × Value → H} {W W' : World}
theorem one_rep {t : TypeId} {v : Value} {d : DataW H} {ps : List MemPlace} {b : Nat} (hp : plainT Try.prog 8 t = true) (hv : Value.okWide Try.prog W .any b t v) (h : DataW.Trod enc Try.prog W 0 (fun _ => true) true t v d ps) :
    ∃ xs, RepV (fun _ => none) (immOf W) (parOf Try.prog t xs) v ∧ shapeOf Try.prog 8 t xs := by
  obtain ⟨xs, h1, h2⟩ := arg_shape hp h
  refine ⟨xs, ?_, h2⟩
  have hlen := (shape_len hp h2).1
  unfold plainT at hp
  cases hu : Try.prog.underlying t with
  | none => simp [hu] at hp
  | some u =>
    simp only [hu] at hp
    have one : ∀ {v : Value}, v.cells.toList = [v] → Try.prog.cellsOf t = 1 → RepL (fun _ => none) (immOf W) xs v.cells.toList → RepV (fun _ => none) (immOf W) (xs.headD .nilp) v := by
      intro v hc h3 h1
      rw [hc] at h1
      rw [h3] at hlen
      match xs, hlen with
      | [x], _ =>
        obtain ⟨w, hw, hr⟩ := h1.2 0 x rfl
        simp at hw
        subst hw
        exact hr
    cases u <;> simp only at hp <;> try (cases hp; done)
    all_goals simp only [parOf, hu]
    · obtain ⟨b, rfl⟩ := okWide_bool hu hv
      exact one rfl (by simpa using hp) h1
    · obtain ⟨b, rfl⟩ := okWide_int hu hv
      exact one rfl (by simpa using hp) h1
    · obtain ⟨b, rfl⟩ := okWide_string hu hv
      exact one rfl (by simpa using hp) h1
    · obtain ⟨a, l, c, rfl⟩ := okWide_slice hu hv
      simp only [Bool.and_eq_true, beq_iff_eq] at hp
      exact one rfl hp.1.1 h1
    · obtain ⟨cs, rfl, _⟩ := okWide_struct hu hv
      exact agg_of_cells h1 ⟨_, rfl⟩
theorem args_rep {b : Nat} : ∀ {ts : List TypeId} {vs : List Value} {ds : List (DataW H)} {ps : List MemPlace}, (∀ t ∈ ts, plainT Try.prog 8 t = true) → (∀ (j : Nat) t v, ts[j]? = some t → vs[j]? = some v → Value.okWide Try.prog W .any b t v) →
    DataW.TrodAll enc Try.prog W 0 (fun _ => true) true ts vs ds ps → ∃ ys, RepL (fun _ => none) (immOf W) ys vs ∧ parsOf Try.prog ts ys
  | [], vs, ds, ps, _, _, h => by
    obtain ⟨rfl, rfl, rfl⟩ := trodAll_nil h
    exact ⟨[], .nil, rfl⟩
  | t :: ts, vs, ds, ps, hp, hv, h => by
    obtain ⟨v, vs', d, ds', p, q, rfl, rfl, rfl, h1, h2⟩ := trodAll_cons h
    obtain ⟨xs, h3, h4⟩ := one_rep (hp t (by simp)) (hv 0 t v rfl rfl) h1
    obtain ⟨zs, h5, h6⟩ := args_rep (fun t ht => hp t (by simp [ht])) (fun j t v ht hv' => hv (j + 1) t v (by simpa using ht) (by simpa using hv')) h2
    exact ⟨_, .cons h3 h5, xs, zs, rfl, h4, h6⟩
theorem parsOf_len {P : Program} : ∀ {ts : List TypeId} {ys : List AV}, parsOf P ts ys → ys.length = ts.length
  | [], ys, h => by cases h; rfl
  | t :: ts, ys, h => by
    obtain ⟨xs, zs, rfl, _, h⟩ := h
    simp [parsOf_len h]
theorem trodAll_len : ∀ {ts : List TypeId} {vs : List Value} {ds : List (DataW H)} {ps : List MemPlace}, DataW.TrodAll enc Try.prog W 0 (fun _ => true) true ts vs ds ps → ds.length = ts.length
  | [], vs, ds, ps, h => by
    obtain ⟨rfl, rfl, rfl⟩ := trodAll_nil h
    rfl
  | t :: ts, vs, ds, ps, h => by
    obtain ⟨v, vs', d, ds', p, q, rfl, rfl, rfl, h1, h2⟩ := trodAll_cons h
    simp [trodAll_len h2]
theorem trodAll_stays {sp : Nat → Bool} : ∀ {ts : List TypeId} {vs : List Value} {ds : List (DataW H)} {ps : List MemPlace}, (∀ t ∈ ts, Try.prog.readableRec t = true ∧ t < Try.prog.types.size) → Below W.heap.size W W' → (∀ p ∈ ps, p.block < W.heap.size) → (∀ p ∈ ps, sp p.block = true) →
    DataW.TrodAll enc Try.prog W 0 (fun _ => true) true ts vs ds ps → DataW.TrodAll enc Try.prog W' 0 sp true ts vs ds ps
  | [], vs, ds, ps, _, _, _, _, h => by
    obtain ⟨rfl, rfl, rfl⟩ := trodAll_nil h
    exact trodAll_mk0
  | t :: ts, vs, ds, ps, ht, hb, hlt, hsp, h => by
    obtain ⟨v, vs', d, ds', p, q, rfl, rfl, rfl, h1, h2⟩ := trodAll_cons h
    exact ⟨p, q, Go.WideElems.Trod_stays Try.laidOut (ht t (by simp)).1 (ht t (by simp)).2 h1 (fun x hx => hb.same (hlt x (by simp [hx]))) (fun x hx => hsp x (by simp [hx])),
      trodAll_stays (fun t h => ht t (by simp [h])) hb (fun x hx => hlt x (by simp [hx])) (fun x hx => hsp x (by simp [hx])) h2, rfl⟩
/-- a law that answers true, whatever data it is given -/
theorem law_contract {call : CallF} (hcall : CallOk Try.prog call) {f : Nat} {fn : Func} {A : AFun} {s : ChangeSpec} (hA : FunOk Try.prog f A) (hres : fn.resultTypes = #[4]) (hvars : s.vars = []) (hnp : fn.params.toList.length = A.np)
    (hplain : fn.params.toList.all (fun t => plainT Try.prog 8 t && Try.prog.readableRec t && decide (t < Try.prog.types.size)) = true)
    (hfn : ∀ ds : List (DataW H), ds.length = fn.params.toList.length → s.fn H ds = { results := [.lit (.bool true)], args := ds })
    (hlaw : ∀ ys, parsOf Try.prog fn.params.toList ys → awp call (fun _ => none) [] A.body (RetQ (fun _ => none) A.res (fun y u => y = .bool true ∧ u = [])) (entry ys))
    (W : World) (base : Nat) (args : Array Value) (ds gs : List (DataW H)) (before : List MemPlace)
    (hval : ∀ (j : Nat) t v, fn.params[j]? = some t → args[j]? = some v → Value.okWide Try.prog W .any base t v)
    (hW : DataW.Whole enc Try.prog fn.params.toList s.vars false W args.toList ds gs before) :
    Calls Try.prog f args W fun e W' => ∃ v, e = .returned v ∧ s.post enc Try.prog fn false true false false W args v W' := by
  have hW' := hW
  have hlt : ∀ p ∈ before, p.block < W.heap.size := fun p hp => hW.lt p hp
  obtain ⟨p, q, hA0, hV, rfl, hfz, hnd⟩ := hW
  rw [hvars] at hV
  obtain ⟨rfl, rfl⟩ := trodVars_none hV
  have hpl : ∀ t ∈ fn.params.toList, plainT Try.prog 8 t = true ∧ Try.prog.readableRec t = true ∧ t < Try.prog.types.size := by
    intro t ht
    have := List.all_eq_true.1 hplain t ht
    simp only [Bool.and_eq_true, decide_eq_true_eq] at this
    exact ⟨this.1.1, this.1.2, this.2⟩
  simp only [List.append_nil] at hW' hlt
  obtain ⟨ys, hr, ha⟩ := args_rep (b := base) (fun t ht => (hpl t ht).1) (fun j t v ht hv => hval j t v (by simpa using ht) (by simpa using hv)) hA0
  have hd := trodAll_len hA0
  have := call_does Try.mixed hcall hA ((parsOf_len ha).trans hnp) (hlaw ys ha) hr W (rep_start W []) (fun l _ => rfl)
  rw [Array.toArray_toList] at this
  refine Calls.mono this ?_
  rintro e W' ⟨v, rfl, x, u, ρ', R', ⟨rfl, rfl⟩, hF, hv, _⟩
  have hv' := hv.bool_inv
  subst hv'
  have hb := below_of_fut hF
  refine ⟨_, rfl, post_law hW' ?_ ?_ ?_ hb ?_⟩
  · intro b sp hd'
    rw [hres, List.append_nil, hfn ds hd]
    exact trodAll_cons_mk (shut_bool Try.underlying4 _) trodAll_mk0
  · intro sp hsp
    rw [List.append_nil, hfn ds hd]
    exact trodAll_stays (fun t ht => (hpl t ht).2) hb hlt hsp hA0
  · intro sp
    rw [hvars, List.append_nil, hfn ds hd]
    exact rfl
  · exact ok_one hres rfl (okWide_bool_mk Try.underlying4 _)
end
end Go.Proofs.Ytbngfbpegdcpkaa
/-! The abstract machine: what is one's own, lent to a function that only reckons; a run without arguments; a law's contract. -/
namespace Go.Proofs.Ytbngfbpegdcpkaa
set_option linter.unusedVariables false
set_option linter.unusedSimpArgs false
set_option maxRecDepth 100000
open Go.ChangeShapes Go.WideShapes Go.ChangeAt Go.RowKit
/-- plain values: of no memory -/
def AV.flat1 : AV → Bool
  | .bool _ | .int .. | .str _ | .nilp | .nils | .nilm | .nilf => true
  | _ => false
def AV.flat : AV → Bool
  | .tuple cs => cs.all AV.flat1
  | x => x.flat1
section
variable {ρ ρ' : Locs} {R R' : Imm} {P : Program}
theorem flat1_rep {x : AV} {v : Value} (h : x.flat1 = true) (hv : RepV ρ R x v) : RepV ρ' R' x v := by
  cases hv <;> simp [AV.flat1] at h
  · exact .bool _
  · exact .int _ _
  · exact .str _
  · exact .nilp
  · exact .nils
  · exact .nilm
  · exact .nilf
theorem flat_rep {x : AV} {v : Value} (h : x.flat = true) (hv : RepV ρ R x v) : RepV ρ' R' x v := by
  by_cases h1 : x.flat1 = true
  · exact flat1_rep h1 hv
  · cases x <;> simp [AV.flat, AV.flat1] at h h1
    rename_i cs
    cases hv with
    | tuple _ C hC hc =>
      refine .tuple _ _ hC (fun i x hx => ?_)
      exact flat1_rep (h x (List.mem_of_getElem? hx)) (hc i x hx)
/-- a call that makes nothing that is kept -/
theorem lend_does {f : Nat} {xs xs' : List AV} {y : AV} {H : Heap} {q : Lab} (h : Pure P f xs' y) (hy : y.flat = true) (hfr : ∀ w vs, Rep H ρ R w → RepL ρ R xs vs → RepL ρ (frozenR (fun l => H l ≠ none) ρ R w) xs' vs) {vs : List Value} (hvs : RepL ρ R xs vs) : Does (callC P f vs.toArray) H [] (Under q) ρ R y := by
  intro w hR hfree
  have hext : Ext ρ ρ R (frozenR (fun l => H l ≠ none) ρ R w) := frozen_ext (fun l L hz hL => by
    obtain ⟨o, ho⟩ := Option.ne_none_iff_exists'.1 hz
    exact .inl (hR.dis l o L ho hL))
  have hR0 : Rep (fun _ => none) ρ (frozenR (fun l => H l ≠ none) ρ R w) w := rep_frozen hR (fun l o h => by cases h) hext (fun l hz L _ => hz)
  have := (h (fun _ => none) q).2.2 ρ _ vs (hfr w vs hR hvs) w (by simpa [restr] using hR0) hfree
  refine Calls.mono this ?_
  rintro e w' ⟨v, rfl, ρ', R', hF, hv, hR'⟩
  refine ⟨v, rfl, ρ, R, ⟨.refl _ _, fun l L h => .inl h, fun b O h => .inl h, hF.os, hF.tape, hF.output, hF.size, fun b hb _ => hF.frame b hb (fun k o K hk => by simp [restr] at hk)⟩, flat_rep hy hv, ?_⟩
  have same : ∀ b, b < w.heap.size → w'.heap[b]? = w.heap[b]? := fun b hb => hF.frame b hb (fun k o K hk => by simp [restr] at hk)
  refine ⟨fun l o hl => ?_, hR.sep, hR.dis, fun b O hb => ?_⟩
  · obtain ⟨L, O, h1, h2, h3⟩ := hR.own l o hl
    exact ⟨L, O, h1, by rw [same _ (Array.getElem?_eq_some_iff.1 h2).1]; exact h2, h3⟩
  · have := hR.imm b O hb
    rw [same _ (Array.getElem?_eq_some_iff.1 this).1]; exact this
inductive FrL (H : Heap) : List AV → List AV → Prop
  | nil : FrL H [] []
  | cons {x y : AV} {xs ys : List AV} : Fr (fun l => H l ≠ none) H x y → FrL H xs ys → FrL H (x :: xs) (y :: ys)
theorem FrL.rep {H : Heap} {w : World} (hR : Rep H ρ R w) : ∀ {xs ys : List AV} {vs : List Value}, FrL H xs ys → RepL ρ R xs vs → RepL ρ (frozenR (fun l => H l ≠ none) ρ R w) ys vs
  | [], _, vs, .nil, h => by
    have := h.nil_inv; subst this; exact .nil
  | x :: xs, _, vs, .cons h hs, hv => by
    obtain ⟨v, us, rfl, h1, h2⟩ := hv.head
    have hext : Ext ρ ρ R (frozenR (fun l => H l ≠ none) ρ R w) := frozen_ext (fun l L hz hL => by
      obtain ⟨o, ho⟩ := Option.ne_none_iff_exists'.1 hz
      exact .inl (hR.dis l o L ho hL))
    exact .cons (fr_rep hR hext h h1) (FrL.rep hR hs h2)
theorem call_lend {s : Bool} {f : Nat} {xs xs' : List AV} {y : AV} {H : Heap} {q : Lab} {KK : KF} (h : Pure P f xs' y) (hy : y.flat = true) (hfr : FrL H xs xs') (hk : KK y H [] none) : vCall s P f xs H q KK :=
  Or.inl ⟨⟨y, [], none⟩, ⟨(h H q).1, fun l hl => absurd hl (not_has_nil l), fun ρ R vs hvs => lend_does h hy (fun w vs hR hv => hfr.rep hR hv) hvs⟩, hk⟩
/-- what a run without arguments yields -/
theorem pure_run {call : CallF} (hcall : CallOk P call) {f : Nat} {x : AV} (hx : x.flat = true) (h : (call f [] (fun _ => none) []).map (·.x) = some x) : Pure P f [] x := by
  intro H q
  simp only [Option.map_eq_some_iff] at h
  obtain ⟨⟨y, u, foot⟩, h1, rfl⟩ := h
  obtain ⟨hc, _, hd⟩ := hcall f [] _ [] _ h1
  refine ⟨hc, fun l hl => absurd hl (not_has_nil l), fun ρ R vs hvs w hR hfree => ?_⟩
  have := hvs.nil_inv; subst this
  rw [restr_nil] at hR ⊢
  have e : restr (fun _ => (none : Option AO)) foot = fun _ => none := by cases foot <;> funext l <;> simp [restr]
  have hR0 : Rep (fun _ => none) (fun _ => none) R w := ⟨fun l o h => (by cases h), fun l l' o o' L L' h => (by cases h), fun l o L h => (by cases h), hR.imm⟩
  refine Calls.mono (hd (fun _ => none) R [] .nil w (by rw [e]; exact hR0) (fun l _ => rfl)) ?_
  rintro e' w' ⟨v, rfl, ρ', R', hF, hv, hR'⟩
  have same : ∀ b, b < w.heap.size → w'.heap[b]? = w.heap[b]? := fun b hb => hF.frame b hb (fun k o K hk => by rw [e] at hk; cases hk)
  exact ⟨v, rfl, ρ, R, ⟨.refl _ _, fun l L h => .inl h, fun b O h => .inl h, hF.os, hF.tape, hF.output, hF.size, fun b hb _ => same b hb⟩, flat_rep hx hv,
    ⟨fun l o h => (by simp [upd] at h), fun l l' o o' L L' h => (by simp [upd] at h), fun l o L h => (by simp [upd] at h), fun b O hb => by
      have := hR.imm b O hb
      rw [same _ (Array.getElem?_eq_some_iff.1 this).1]; exact this⟩⟩
end
section
variable {H : Type} {enc : TypeId × Value → H}
/-- a law that answers true, whatever data it is given: by its contract -/
theorem law_pure {f : Nat} {fn : Func} {A : AFun} {s : ChangeSpec} (hA : FunOk Try.prog f A) (hres : fn.resultTypes = #[4]) (hvars : s.vars = []) (hnp : fn.params.toList.length = A.np)
    (hplain : fn.params.toList.all (fun t => plainT Try.prog 8 t && Try.prog.readableRec t && decide (t < Try.prog.types.size)) = true)
    (hfn : ∀ ds : List (DataW H), ds.length = fn.params.toList.length → s.fn H ds = { results := [.lit (.bool true)], args := ds })
    (hlaw : ∀ ys, parsOf Try.prog fn.params.toList ys → Pure Try.prog f ys (.bool true))
    (W : World) (base : Nat) (args : Array Value) (ds gs : List (DataW H)) (before : List MemPlace)
    (hval : ∀ (j : Nat) t v, fn.params[j]? = some t → args[j]? = some v → Value.okWide Try.prog W .any base t v)
    (hW : DataW.Whole enc Try.prog fn.params.toList s.vars false W args.toList ds gs before) :
    Calls Try.prog f args W fun e W' => ∃ v, e = .returned v ∧ s.post enc Try.prog fn false true false false W args v W' := by
  have hW' := hW
  have hlt : ∀ p ∈ before, p.block < W.heap.size := fun p hp => hW.lt p hp
  obtain ⟨p, q, hA0, hV, rfl, hfz, hnd⟩ := hW
  rw [hvars] at hV
  obtain ⟨rfl, rfl⟩ := trodVars_none hV
  have hpl : ∀ t ∈ fn.params.toList, plainT Try.prog 8 t = true ∧ Try.prog.readableRec t = true ∧ t < Try.prog.types.size := by
    intro t ht
    have := List.all_eq_true.1 hplain t ht
    simp only [Bool.and_eq_true, decide_eq_true_eq] at this
    exact ⟨this.1.1, this.1.2, this.2⟩
  simp only [List.append_nil] at hW' hlt
  obtain ⟨ys, hr, ha⟩ := args_rep (b := base) (fun t ht => (hpl t ht).1) (fun j t v ht hv => hval j t v (by simpa using ht) (by simpa using hv)) hA0
  have hd := trodAll_len hA0
  have := (hlaw ys ha (fun _ => none) []).2.2 _ _ _ hr W (by rw [restr_nil]; exact rep_start W []) (fun l _ => rfl)
  rw [Array.toArray_toList] at this
  refine Calls.mono this ?_
  rintro e W' ⟨v, rfl, ρ', R', hF, hv, _⟩
  have hv' := hv.bool_inv
  subst hv'
  rw [restr_nil] at hF
  have hb := below_of_fut hF
  refine ⟨_, rfl, post_law hW' ?_ ?_ ?_ hb ?_⟩
  · intro b sp hd'
    rw [hres, List.append_nil, hfn ds hd]
    exact trodAll_cons_mk (shut_bool Try.underlying4 _) trodAll_mk0
  · intro sp hsp
    rw [List.append_nil, hfn ds hd]
    exact trodAll_stays (fun t ht => (hpl t ht).2) hb hlt hsp hA0
  · intro sp
    rw [hvars, List.append_nil, hfn ds hd]
    exact rfl
  · exact ok_one hres rfl (okWide_bool_mk Try.underlying4 _)
end
end Go.Proofs.Ytbngfbpegdcpkaa
/-! The abstract machine: memory of a frame's own, on symbols. -/
namespace Go.Proofs.Ytbngfbpegdcpkaa
set_option linter.unusedVariables false
set_option linter.unusedSimpArgs false
section
variable {P : Program} {p q : Lab} {H : Heap} {K : AV → Prop} {KL : AV → Option (List Lab) → Prop} {KK : KF}
def vLdH (n : Nat) (g : Bool) (o : Option AO) (l : Lab) (e i j : Nat) (KL : AV → Option (List Lab) → Prop) : Prop := match o with
  | some (.rows e' rs) => e = e' ∧ match rs[i]? with
    | some r => vCell n g r j fun x => KL x (some [l])
    | none => False
  | _ => False
theorem v_load_H {n : Nat} {g : Bool} {l : Lab} {e i j : Nat} : vLoad n g (.ptr l e i j) H KL = vLdH n g (H l) l e i j KL := by
  apply propext
  unfold vLoad vLdH
  cases ho : H l with
  | none => simp [aLoad, ho]
  | some o =>
    cases o with
    | rows e' rs =>
      simp only [aLoad, ho]
      by_cases he : e = e'
      · subst he
        simp only [if_true, AO.cells, true_and]
        cases hr : rs[i]? with
        | none => simp
        | some r =>
          simp only [vCell]
          by_cases hj : j + n ≤ r.length
          · simp only [hj, if_true, Option.bind_some, true_and, Option.bind_eq_some_iff, Option.some.injEq]
            constructor
            · rintro ⟨s, ⟨y, hy, rfl⟩, hk⟩; exact ⟨y, hy, hk⟩
            · rintro ⟨y, hy, hk⟩; exact ⟨_, ⟨y, hy, rfl⟩, hk⟩
          · simp [hj]
      · simp [he]
    | amap es bs ck => simp [aLoad, ho]
    | bag es => simp [aLoad, ho]
    | iter m s se st => simp [aLoad, ho]
theorem ldH_one {n : Nat} {g : Bool} {r : List AV} {l : Lab} {e j : Nat} : vLdH n g (some (.rows e [r])) l e 0 j KL = vCell n g r j fun x => KL x (some [l]) := by simp [vLdH]
theorem ldH_map {α : Type} [Inhabited α] {f : α → List AV} {L : List α} {n : Nat} {g : Bool} {l : Lab} {e i j : Nat} (h : i < L.length) : vLdH n g (some (.rows e (L.map f))) l e i j KL = vCell n g (f (nth L i)) j fun x => KL x (some [l]) := by simp [vLdH, nth_some h]
/-- putting cells into a row -/
def vStH (n : Nat) (o : Option AO) (l : Lab) (e i j : Nat) (x : AV) (H : Heap) (KK : KF) : Prop := match o with
  | some (.rows e' rs) => e = e' ∧ x.cells.length = n ∧ match rs[i]? with
    | some r => (j + n ≤ r.length ∧ x.cells.all AV.one = true) ∧ KK (.tuple []) (upd [(l, some (.rows e' (rs.set i (putL r j x.cells))))] H) [l] (some [l])
    | none => False
  | _ => False
theorem v_store_H {n : Nat} {x : AV} {l : Lab} {e i j : Nat} : vGen (.store n) [.ptr l e i j, x] H q KK = vStH n (H l) l e i j x H KK := by
  apply propext
  unfold vGen vStH
  cases ho : H l with
  | none => simp [aop, aStore, ho]
  | some o =>
    cases o with
    | rows e' rs =>
      simp only [aop, aStore, ho]
      by_cases he : e = e'
      · subst he
        by_cases hc : x.cells.length = n
        · cases hr : rs[i]? with
          | none => simp [hc]
          | some r =>
            by_cases hj : j + n ≤ r.length ∧ x.cells.all AV.one = true
            · simp only [hc, hj, and_self, if_true, Option.some.injEq, exists_eq_left', true_and, List.map_cons, List.map_nil]
            · simp only [hc, hj, if_true, if_false, and_self, true_and, false_and, true_and, reduceCtorEq, false_and, exists_false]
        · simp [hc]
      · simp [he]
    | amap es bs ck => simp [aop, aStore, ho]
    | bag es => simp [aop, aStore, ho]
    | iter m s se st => simp [aop, aStore, ho]
theorem stH_one {n : Nat} {r : List AV} {l : Lab} {e j : Nat} {x : AV} : vStH n (some (.rows e [r])) l e 0 j x H KK = (x.cells.length = n ∧ (j + n ≤ r.length ∧ x.cells.all AV.one = true) ∧ KK (.tuple []) (upd [(l, some (.rows e [putL r j x.cells]))] H) [l] (some [l])) := by simp [vStH]
theorem upd_cons_ne {i j : Nat} {o : Option AO} {u : Chg} (h : i ≠ j) : upd ((j :: p, o) :: u) H (i :: p) = upd u H (i :: p) := by simp [upd, h]
theorem v_box {x : AV} {KB : List AV → Prop} : vBox x KB = (x.cells.all AV.one = true ∧ KB x.cells) := rfl
theorem v_fld {o n : Nat} {g : Bool} {cs : List AV} : vFld o n g (.agg cs) K = vCell n g cs o K := rfl
theorem v_eqs_ii {k k' : IntKind} {a b c d : Int} : vGen (.eqs .eql [.int, .int]) [.agg [.int k a, .int k' b], .agg [.int k c, .int k' d]] H q KK = KK (.bool (decide (a = c) && decide (b = d))) H [] (some []) := by
  have : aop noCall (.eqs .eql [.int, .int]) [.agg [.int k a, .int k' b], .agg [.int k c, .int k' d]] H q = some (.pure (.bool (decide (a = c) && decide (b = d)))) := by
    simp [aop, akeq, shaped, AV.isAgg, AV.cells, aeqs, ceq, eqNeq]
  simp [vGen, this]; rfl
theorem v_neqs_ii {k k' : IntKind} {a b c d : Int} : vGen (.eqs .neq [.int, .int]) [.agg [.int k a, .int k' b], .agg [.int k c, .int k' d]] H q KK = KK (.bool (!(decide (a = c) && decide (b = d)))) H [] (some []) := by
  have : aop noCall (.eqs .neq [.int, .int]) [.agg [.int k a, .int k' b], .agg [.int k c, .int k' d]] H q = some (.pure (.bool (!(decide (a = c) && decide (b = d))))) := by
    simp [aop, akeq, shaped, AV.isAgg, AV.cells, aeqs, ceq, eqNeq]
  simp [vGen, this]; rfl
/-- both, split into a number each -/
theorem sel_and {φ ψ : Prop} [Decidable φ] [Decidable ψ] {A B : Unit → Prop} (ha : φ ∧ ψ → A ()) (hb : ¬ (φ ∧ ψ) → B ()) : vSel (.bool (decide φ && decide ψ)) A B := by
  by_cases h1 : φ <;> by_cases h2 : ψ <;> simp only [h1, h2, decide_true, decide_false, Bool.and_self, Bool.and_true, Bool.and_false, Bool.true_and, Bool.false_and]
  · exact ha ⟨h1, h2⟩
  · exact hb (fun h => h2 h.2)
  · exact hb (fun h => h1 h.1)
  · exact hb (fun h => h1 h.1)
theorem sel_nand {φ ψ : Prop} [Decidable φ] [Decidable ψ] {A B : Unit → Prop} (ha : ¬ (φ ∧ ψ) → A ()) (hb : φ ∧ ψ → B ()) : vSel (.bool (!(decide φ && decide ψ))) A B := by
  by_cases h1 : φ <;> by_cases h2 : ψ <;> simp only [h1, h2, decide_true, decide_false, Bool.and_self, Bool.and_true, Bool.and_false, Bool.true_and, Bool.false_and, Bool.not_true, Bool.not_false]
  · exact hb ⟨h1, h2⟩
  · exact ha (fun h => h2 h.2)
  · exact ha (fun h => h1 h.1)
  · exact ha (fun h => h1 h.1)
theorem sel_andt {φ ψ : Prop} [Decidable φ] [Decidable ψ] {A B : Unit → Prop} (h : φ ∧ ψ) : vSel (.bool (decide φ && decide ψ)) A B = A () := by simp [h.1, h.2, vSel]
theorem sel_andf {φ ψ : Prop} [Decidable φ] [Decidable ψ] {A B : Unit → Prop} (h : ¬ (φ ∧ ψ)) : vSel (.bool (decide φ && decide ψ)) A B = B () := by
  have : (decide φ && decide ψ) = false := by rw [Bool.eq_false_iff]; simpa using h
  rw [this]; rfl
theorem sel_nandt {φ ψ : Prop} [Decidable φ] [Decidable ψ] {A B : Unit → Prop} (h : ¬ (φ ∧ ψ)) : vSel (.bool (!(decide φ && decide ψ))) A B = A () := by
  have : (decide φ && decide ψ) = false := by rw [Bool.eq_false_iff]; simpa using h
  rw [this]; rfl
theorem sel_nandf {φ ψ : Prop} [Decidable φ] [Decidable ψ] {A B : Unit → Prop} (h : φ ∧ ψ) : vSel (.bool (!(decide φ && decide ψ))) A B = B () := by simp [h.1, h.2, vSel]
/-- filling a struct, field by field -/
def vFill (cs : List AV) (ps : List (Nat × Nat)) (xs : List AV) (K : List AV → Prop) : Prop := ∃ ds, fillA cs ps xs = some ds ∧ K ds
section
variable {K : AV → Prop} {KB : List AV → Prop}
theorem v_build_fill {z : List AV} {ps : List (Nat × Nat)} {xs : List AV} : vBuild z ps xs K = vFill z ps xs fun cs => K (.agg cs) := rfl
theorem fill_nil {cs : List AV} : vFill cs [] [] KB = KB cs := by simp [vFill, fillA]
theorem fill_cons {cs : List AV} {o s : Nat} {ps : List (Nat × Nat)} {x : AV} {xs : List AV} : vFill cs ((o, s) :: ps) (x :: xs) KB = ((x.cells.length = s ∧ o + s ≤ cs.length) ∧ vFill (putL cs o x.cells) ps xs KB) := by
  simp only [vFill, fillA]
  by_cases h : x.cells.length = s ∧ o + s ≤ cs.length
  · rw [if_pos h]; simp [h]
  · rw [if_neg h]; simp [h]
theorem v_buildS_fill {e : Nat} {z : List AV} {ps : List (Nat × Nat)} {xs : List AV} {K2 : List (List AV) → Nat → Prop} : vBuildS e z ps xs K2 = vFill z ps xs fun cs => (e ≠ 0 ∧ cs.length % e = 0 ∧ cs.all AV.one = true) ∧ K2 (chunk e (cs.length / e) cs) (cs.length / e) := rfl
end
theorem eqs_isl {e : Nat} {rows : List (List AV)} (ht : rows = [] → K (.bool true)) (hf : K (.bool false)) : vEqS (.isl e rows) .nils K := fun b hb => by
  cases b
  · exact hf
  · refine ht ?_
    cases rows with
    | nil => rfl
    | cons r rows => exact absurd (hb (by simp)) (by simp)
theorem eqs_nils : vEqS .nils .nils K = K (.bool true) := by simp [vEqS, vBin, aBin, eqNeq]
theorem eqs_sl {l : Lab} {e o n : Nat} : vEqS (.sl l e o n) .nils K = K (.bool false) := by simp [vEqS, vBin, aBin, eqNeq]
end
end Go.Proofs.Ytbngfbpegdcpkaa
/-! The abstract machine: contracts of functions that read and change memory. -/
namespace Go.Proofs.Ytbngfbpegdcpkaa
set_option linter.unusedVariables false
set_option linter.unusedSimpArgs false
/-- a body's end: the result, frozen, and what is left of the heap; what the call has made and is not left is changed no more -/
def VR (H0 : Heap) (res : List AResV) (y : AV) (u : Chg) : VPost := fun e r H _ => (e = .normal ∨ e = .ret) ∧ ∃ x, aRes H r res = some x ∧ Fr (fun l => upd u H0 l = none ∧ H l ≠ none) H x y ∧ ∀ l o, upd u H0 l = some o → H l = some o
theorem sound_vc {P : Program} (hm : P.follows .mixedOrders = true) {f : Nat} {A : AFun} (hA : FunOk P f A) {xs : List AV} (hlen : xs.length = A.np) {H : Heap} {q : Lab} {y : AV} {u : Chg} {foot : Option (List Lab)} (hu : ∀ l, u.has l → restr H foot l ≠ none ∨ Under q l)
    (h : vc P q A.body (VR (restr H foot) A.res y u) (params 0 xs) (restr H foot) 0) : SoundRes P f xs H q ⟨y, u, foot⟩ := by
  refine sound_of_gwp (Z := fun l => upd u (restr H foot) l = none) hm hA hlen hu ?_
  refine gwp_mono (fun e s he => ?_) (vc_sound (ov := []) (H0 := restr H foot) h)
  obtain ⟨he, x, hx, hf, hl⟩ := he
  exact ⟨he, x, hx, hf, fun l o hlo => ⟨(fun hn => by rw [hn.1] at hlo; cases hlo), hl l o hlo⟩⟩
theorem has_cons {l k : Lab} {o : Option AO} {u : Chg} : Chg.has ((l, o) :: u) k ↔ k = l ∨ Chg.has u k := by
  constructor
  · rintro ⟨p, hp, rfl⟩
    rcases List.mem_cons.1 hp with rfl | hp
    · exact .inl rfl
    · exact .inr ⟨p, hp, rfl⟩
  · rintro (rfl | ⟨p, hp, rfl⟩)
    · exact ⟨(k, o), by simp, rfl⟩
    · exact ⟨p, by simp [hp], rfl⟩
section
variable {P : Program} {H : Heap} {p q : Lab} {KK : KF}
theorem call_res {s : Bool} {f : Nat} {xs : List AV} {y : AV} {u : Chg} {foot : Option (List Lab)} (h : SoundRes P f xs H q ⟨y, u, foot⟩) (hk : KK y (upd u H) (u.map (·.1)) foot) : vCall s P f xs H q KK := Or.inl ⟨_, h, hk⟩
/-- behind a call the labels to come are free -/
theorem Fresh.after {c : Nat} {f : Nat} {xs : List AV} {r : Res} (h : Fresh p c H) (hr : SoundRes P f xs H (c :: p) r) : Fresh p (c + 1) (Ytbngfbpegdcpkaa.upd r.u H) := fun k s hk => by
  by_cases hh : r.u.has (s ++ k :: p)
  · rcases hr.2.1 _ hh with h1 | ⟨t, ht⟩
    · have := h k s (by omega)
      cases hf : r.foot with
      | none => rw [hf] at h1; exact absurd this h1
      | some ls => rw [hf] at h1; simp only [restr] at h1; split at h1 <;> first | exact absurd this h1 | exact absurd rfl h1
    · exfalso
      have := under_inj (i := k) (j := c) (p := p) (l := s ++ k :: p) ⟨s, rfl⟩ ⟨t, ht⟩
      omega
  · rw [upd_not hh]; exact h k s (by omega)
theorem restr_at {ls : List Lab} {l : Lab} (h : l ∈ ls) : restr H (some ls) l = H l := by simp [restr, h]
theorem restr_some {ls : List Lab} {l : Lab} {o : AO} (h : restr H (some ls) l = some o) : l ∈ ls ∧ H l = some o := by
  simp only [restr] at h
  split at h
  · exact ⟨by assumption, h⟩
  · cases h
theorem Fresh.restr {c : Nat} {f : Option (List Lab)} (h : Fresh p c H) : Fresh p c (restr H f) := fun k s hk => by
  cases f with
  | none => exact h k s hk
  | some ls =>
    simp only [Ytbngfbpegdcpkaa.restr]
    split
    · exact h k s hk
    · rfl
/-! results that lie in memory -/
theorem ld_row {l : Lab} {r : List AV} {e : Nat} {q' : Lab} (hl : H l = some (.rows e [r])) : aLoad r.length true (.ptr l e 0 0) H q' = some ⟨.agg r, [], some [l]⟩ := by
  simp [aLoad, hl, AO.cells, wrapCells]
theorem vpc1 {t c n e : Nat} {l : Lab} {r : List AV} {y : AV} (hl : H l = some (.rows e [r])) (hn : r.length = n) (hf : Fr (fun l => H l ≠ none) H (.agg r) y) : VP [.cell t n true] y .ret [(t, .ptr l e 0 0)] H c := by
  subst hn
  exact ⟨.inr rfl, .agg r, by simp [aRes, aResL, aRes1, rget, ld_row hl], hf⟩
theorem aRes_c1 {t n e : Nat} {l : Lab} {r : List AV} (hl : H l = some (.rows e [r])) (hn : r.length = n) : aRes H [(t, .ptr l e 0 0)] [.cell t n true] = some (.agg r) := by
  subst hn
  simp [aRes, aResL, aRes1, rget, ld_row hl]
theorem aRes_c2 {t n e u : Nat} {l : Lab} {r : List AV} {x : AV} (hl : H l = some (.rows e [r])) (hn : r.length = n) (hu : u ≠ t) : aRes H [(t, .ptr l e 0 0), (u, x)] [.cell t n true, .tmp u] = some (.tuple [.agg r, x]) := by
  subst hn
  simp [aRes, aResL, aRes1, rget, ld_row hl, hu]
inductive FrLs (Z : Lab → Prop) (H : Heap) : List AV → List AV → Prop
  | nil : FrLs Z H [] []
  | cons {x y : AV} {xs ys : List AV} : Fr Z H x y → FrLs Z H xs ys → FrLs Z H (x :: xs) (y :: ys)
theorem FrLs.same {Z : Lab → Prop} {H : Heap} : ∀ {xs : List AV}, FrLs Z H xs xs
  | [] => .nil
  | _ :: _ => .cons (.refl _) .same
theorem FrLs.get {Z : Lab → Prop} {H : Heap} : ∀ {xs ys : List AV}, FrLs Z H xs ys → xs.length = ys.length ∧ ∀ (i : Nat) d, ys[i]? = some d → Fr Z H (xs.getD i .nilf) d ∧ xs[i]? = some (xs.getD i .nilf)
  | [], _, .nil => ⟨rfl, fun i d h => by simp at h⟩
  | x :: xs, _, .cons h hs => by
    obtain ⟨h1, h2⟩ := hs.get
    refine ⟨by simp [h1], fun i d hd => ?_⟩
    cases i with
    | zero => simp at hd; subst hd; exact ⟨by simpa using h, by simp⟩
    | succ i => simpa using h2 i d (by simpa using hd)
theorem FrLs.agg {Z : Lab → Prop} {H : Heap} {xs ys : List AV} (h : FrLs Z H xs ys) : Fr Z H (.agg xs) (.agg ys) := .agg _ _ h.get.1 (fun i => xs.getD i .nilf) (fun i d hd => (h.get.2 i d hd).2) (fun i d hd => (h.get.2 i d hd).1)
theorem FrLs.tuple {Z : Lab → Prop} {H : Heap} {xs ys : List AV} (h : FrLs Z H xs ys) : Fr Z H (.tuple xs) (.tuple ys) := .tuple _ _ h.get.1 (fun i => xs.getD i .nilf) (fun i d hd => (h.get.2 i d hd).2) (fun i d hd => (h.get.2 i d hd).1)
theorem Fr.rows {Z : Lab → Prop} {H : Heap} {l : Lab} {e : Nat} {rows : List (List AV)} (hz : Z l) (hl : H l = some (.rows e rows)) (hr : ∀ r ∈ rows, RowOk e r) {n : Nat} (hn : rows.length = n) : Fr Z H (.sl l e 0 n) (.isl e rows) :=
  .own l e 0 n rows rows (fun i j => (rowsGet rows i j).getD .nilf) hz hl hn hr (fun i j x hx => by simp [hx]) (fun i j x hx => by simp [hx]; exact .refl _)
theorem Own.cells {x : AV} {e : Nat} {rows : List (List AV)} (h : Own H x e rows) : x.cells = [x] ∧ x.one = true := by
  rcases h with ⟨rfl, _⟩ | ⟨l, rfl, _⟩ <;> exact ⟨rfl, rfl⟩
/-- rows that came in, onto one's own -/
theorem app_isl {x : AV} {e b : Nat} {old rows : List (List AV)} (h : Own H x e old) (he : 0 < e) (h1 : (old.length + rows.length) * b ≤ 140737488355328) (h2 : old.length + rows.length ≤ 4611686018427387904) (hq : H q = none)
    (hk : ∀ x' H' l f, Own H' x' e (old ++ rows) → KeepBut x H H' → KK x' H' l f) : vGen (.append e b) [x, .isl e rows] H q KK := by
  cases rows with
  | nil =>
    refine ⟨.pure x, ?_, hk x H [] (some []) (by simpa using h) (fun k o hk _ => hk)⟩
    rcases h with ⟨rfl, rfl⟩ | ⟨l, rfl, hl⟩ <;> simp [aop, aAppend, aRows]
  | cons r rows => exact app_own h (rows_isl (H := H)) (by simp) he h1 h2 hq hk
/-- what reads the same without any change -/
theorem fr0_rep {H : Heap} {ρ : Locs} {R : Imm} {x y : AV} (h : Fr (fun _ => False) H x y) : ∀ {v : Value}, RepV ρ R x v → RepV ρ R y v := by
  induction h with
  | refl x => intro v hv; exact hv
  | own l e off n rs rows g hz => exact hz.elim
  | ptr l e i j rs rows g hz => exact hz.elim
  | nils e => intro v hv; cases hv; exact .isl0 _ _ _ (fun _ => rfl)
  | sl0 e => intro v hv; cases hv; exact .isl0 _ _ _ (fun _ => rfl)
  | agg cs ds hl g h1 h2 ih =>
    intro v hv
    cases hv with
    | agg _ C hC hc => exact .agg _ _ (by omega) (fun i d hd => ih i d hd (hc i _ (h1 i d hd)))
  | tuple cs ds hl g h1 h2 ih =>
    intro v hv
    cases hv with
    | tuple _ C hC hc => exact .tuple _ _ (by omega) (fun i d hd => ih i d hd (hc i _ (h1 i d hd)))
theorem frls0_rep {H : Heap} {ρ : Locs} {R : Imm} : ∀ {xs ys : List AV} {vs : List Value}, FrLs (fun _ => False) H xs ys → RepL ρ R xs vs → RepL ρ R ys vs
  | [], _, vs, .nil, h => h
  | x :: xs, _, vs, .cons h hs, hv => by
    obtain ⟨v, us, rfl, h1, h2⟩ := hv.head
    exact .cons (fr0_rep h h1) (frls0_rep hs h2)
/-- a function that only reckons, at arguments that read as those of its contract -/
theorem call_pure_w {s : Bool} {f : Nat} {xs xs' : List AV} {y : AV} (h : Pure P f xs' y) (hw : FrLs (fun _ => False) (fun _ => none) xs xs') (hk : KK y H [] (some [])) : vCall s P f xs H q KK :=
  Or.inl ⟨_, ⟨(h H q).1, (h H q).2.1, fun ρ R vs hvs => (h H q).2.2 ρ R vs (frls0_rep hw hvs)⟩, hk⟩
end
end Go.Proofs.Ytbngfbpegdcpkaa
/-! The abstract machine: maps whose keys are two numbers, on symbols. -/
namespace Go.Proofs.Ytbngfbpegdcpkaa
set_option linter.unusedVariables false
set_option linter.unusedSimpArgs false
section
variable {α : Type} (key : α → Int × Int) (enc : α → AV)
def encKV (x : α) : AV × AV := (.agg [.int .i64 (key x).1, .int .i64 (key x).2], enc x)
/-- where a key stands, and with what -/
def locK (a b : Int) : List α → Nat → Option (Nat × α)
  | [], _ => none
  | x :: l, i => if (key x).1 = a ∧ (key x).2 = b then some (i, x) else locK a b l (i + 1)
variable {key enc}
theorem akeq_ii {a b c d : Int} : akeq true [.int, .int] (.agg [.int .i64 a, .int .i64 b]) (.agg [.int .i64 c, .int .i64 d]) = some (decide (a = c) && decide (b = d)) := by
  simp [akeq, shaped, AV.isAgg, AV.cells, aeqs, ceq]
theorem afind_map {a b : Int} : ∀ {l : List α} {i : Nat}, afind true [.int, .int] (.agg [.int .i64 a, .int .i64 b]) (l.map (encKV key enc)) i = some ((locK key a b l i).map fun p => (p.1, enc p.2))
  | [], i => rfl
  | x :: l, i => by
    simp only [List.map_cons, afind, encKV, akeq_ii, Option.bind_some, locK]
    by_cases h : (key x).1 = a ∧ (key x).2 = b
    · simp [h]
    · have : (decide (a = (key x).1) && decide (b = (key x).2)) = false := by
        rw [Bool.eq_false_iff]; intro e; simp at e; exact h ⟨e.1.symm, e.2.symm⟩
      simp only [this, Bool.false_eq_true, if_false, if_neg h]
      exact afind_map
theorem loc_none {a b : Int} : ∀ {l : List α} {i : Nat}, locK key a b l i = none ↔ ∀ x ∈ l, ¬ ((key x).1 = a ∧ (key x).2 = b)
  | [], i => by simp [locK]
  | x :: l, i => by
    simp only [locK, List.mem_cons, forall_eq_or_imp]
    by_cases h : (key x).1 = a ∧ (key x).2 = b
    · simp [h]
    · rw [if_neg h, loc_none (l := l)]
      exact ⟨fun hx => ⟨h, hx⟩, fun hx => hx.2⟩
theorem loc_some {a b : Int} : ∀ {l : List α} {i j : Nat} {x : α}, locK key a b l i = some (j, x) → i ≤ j ∧ l[j - i]? = some x ∧ (key x).1 = a ∧ (key x).2 = b
  | [], i, j, x, h => by simp [locK] at h
  | y :: l, i, j, x, h => by
    simp only [locK] at h
    split at h
    · rename_i hc; cases h; exact ⟨Nat.le_refl _, by simp, hc.1, hc.2⟩
    · obtain ⟨h1, h2, h3, h4⟩ := loc_some h
      refine ⟨by omega, ?_, h3, h4⟩
      rw [show j - i = (j - (i + 1)) + 1 by omega]; exact h2
variable {H : Heap} {q lM : Lab} {KK : KF} {L : List α} {bs : List Nat} {ck : Nat} {a b : Int}
theorem v_lookup (hl : H lM = some (.amap (L.map (encKV key enc)) bs ck)) {zero : AV} {ok : Bool} : vGen (.lookup true [.int, .int] zero ok) [.map lM, .agg [.int .i64 a, .int .i64 b]] H q KK =
    KK (match locK key a b L 0 with | some p => (if ok then .tuple [enc p.2, .bool true] else enc p.2) | none => (if ok then .tuple [zero, .bool false] else zero)) H [] (some [lM]) := by
  have hs : shaped true [.int, .int] (.agg [.int .i64 a, .int .i64 b]) = true := by simp [shaped, AV.isAgg, AV.cells]
  have : aop noCall (.lookup true [.int, .int] zero ok) [.map lM, .agg [.int .i64 a, .int .i64 b]] H q = some ⟨match locK key a b L 0 with | some p => (if ok then .tuple [enc p.2, .bool true] else enc p.2) | none => (if ok then .tuple [zero, .bool false] else zero), [], some [lM]⟩ := by
    simp only [aop, aLookup, hs, if_true, hl, afind_map, Option.bind_some]
    cases locK key a b L 0 <;> simp
  simp [vGen, this]; rfl
theorem v_len_m (hl : H lM = some (.amap (L.map (encKV key enc)) bs ck)) : vGen (.len .map) [.map lM] H q KK = KK (.int .i64 L.length) H [] (some [lM]) := by
  have : aop noCall (.len .map) [.map lM] H q = some ⟨.int .i64 L.length, [], some [lM]⟩ := by simp [aop, aLen, hl]
  simp [vGen, this]; rfl
/-- one more, of a key that is not there -/
theorem v_update (hl : H lM = some (.amap (L.map (encKV key enc)) bs ck)) {x : α} (hk : locK key (key x).1 (key x).2 L 0 = none) : vGen (.mapUpdate true [.int, .int]) [.map lM, .agg [.int .i64 (key x).1, .int .i64 (key x).2], enc x] H q KK =
    KK (.tuple []) (upd [(lM, some (.amap ((L ++ [x]).map (encKV key enc)) (bs ++ [ck]) (ck + 1)))] H) [lM] (some [lM]) := by
  have hs : shaped true [.int, .int] (.agg [.int .i64 (key x).1, .int .i64 (key x).2]) = true := by simp [shaped, AV.isAgg, AV.cells]
  have : aop noCall (.mapUpdate true [.int, .int]) [.map lM, .agg [.int .i64 (key x).1, .int .i64 (key x).2], enc x] H q = some ⟨.tuple [], [(lM, some (.amap ((L ++ [x]).map (encKV key enc)) (bs ++ [ck]) (ck + 1)))], some [lM]⟩ := by
    simp only [aop, aMapUpdate, hs, if_true, hl, afind_map, hk, Option.map_none, Option.bind_some]
    simp [encKV]
  simp [vGen, this]
theorem erase_map {β : Type} {f : α → β} {l : List α} {i : Nat} : (l.map f).eraseIdx i = (l.eraseIdx i).map f := by
  simp [List.eraseIdx_eq_take_drop_succ, List.map_take, List.map_drop]
theorem v_delete (hl : H lM = some (.amap (L.map (encKV key enc)) bs ck)) : vGen (.delete true [.int, .int]) [.map lM, .agg [.int .i64 a, .int .i64 b]] H q KK =
    match locK key a b L 0 with
    | some p => KK (.tuple []) (upd [(lM, some (.amap ((L.eraseIdx p.1).map (encKV key enc)) (bs.eraseIdx p.1) ck))] H) [lM] (some [lM])
    | none => KK (.tuple []) H [] (some [lM]) := by
  have hs : shaped true [.int, .int] (.agg [.int .i64 a, .int .i64 b]) = true := by simp [shaped, AV.isAgg, AV.cells]
  have : aop noCall (.delete true [.int, .int]) [.map lM, .agg [.int .i64 a, .int .i64 b]] H q = some (match locK key a b L 0 with | some p => ⟨.tuple [], [(lM, some (.amap ((L.eraseIdx p.1).map (encKV key enc)) (bs.eraseIdx p.1) ck))], some [lM]⟩ | none => ⟨.tuple [], [], some [lM]⟩) := by
    simp only [aop, aDelete, hs, if_true, hl, afind_map, Option.bind_some]
    cases locK key a b L 0 <;> simp [erase_map]
  unfold vGen
  rw [this]
  cases locK key a b L 0 <;> simp <;> rfl
theorem v_mkmap : vGen .mkmap [] H q KK = KK (.map q) (upd [(q, some (.amap [] [] 0))] H) [q] (some []) := by
  simp [vGen, aop]
end
end Go.Proofs.Ytbngfbpegdcpkaa
/-! The abstract machine: operations in any order that do not meet: pair by pair. -/
namespace Go.Proofs.Ytbngfbpegdcpkaa
set_option linter.unusedVariables false
set_option linter.unusedSimpArgs false
def AllTr (φ : Nat → Tr → Prop) (ps : List (Nat × Tr)) : Prop := ∀ b ∈ ps, φ b.1 b.2
theorem cf_nil {m : List Nat} : clashFree m [] := fun a ha => by cases ha
theorem allp_nil {φ : Nat → Tr → Prop} : AllTr φ [] := fun a ha => by cases ha
theorem allp_add {φ : Nat → Tr → Prop} {j : Nat} {l : List Lab} {q : Lab} {f : Option (List Lab)} {ps : List (Nat × Tr)} (h1 : φ j ⟨l, q, f⟩) (h2 : AllTr φ ps) : AllTr φ (addTr j l q f ps) := fun b hb => by
  rcases mem_addTr hb with rfl | hb
  · exact h1
  · exact h2 b hb
theorem ordered_symm {m : List Nat} {i j : Nat} : ordered m i j = ordered m j i := by unfold ordered; rw [Bool.or_comm]
theorem cf_add {m : List Nat} {j : Nat} {l : List Lab} {q : Lab} {f : Option (List Lab)} {ps : List (Nat × Tr)} (h : clashFree m ps) (hb : AllTr (fun i b => ordered m j i = true ∨ (clash j i ⟨l, q, f⟩ b = false ∧ clash i j b ⟨l, q, f⟩ = false)) ps) : clashFree m (addTr j l q f ps) := fun a ha b hb' hne ho => by
  rcases mem_addTr ha with rfl | ha
  · rcases mem_addTr hb' with rfl | hb'
    · exact absurd rfl hne
    · rcases hb b hb' with h1 | h1
      · rw [h1] at ho; cases ho
      · exact h1.1
  · rcases mem_addTr hb' with rfl | hb'
    · rcases hb a ha with h1 | h1
      · rw [ordered_symm, h1] at ho; cases ho
      · exact h1.2
    · exact h a ha b hb' hne ho
theorem call_res_gen {s : Bool} {P : Program} {H : Heap} {p : Lab} {KK : KF} {c : Nat} {f : Nat} {xs : List AV} {y : AV} {u : Chg} {foot : Option (List Lab)} (h : SoundRes P f xs H (c :: p) ⟨y, u, foot⟩) (hf : Fresh p c H) (hk : ∀ H', (∀ l, H' l = upd u H l) → Fresh p (c + 1) H' → KK y H' (u.map (·.1)) foot) : vCall s P f xs H (c :: p) KK :=
  call_res h (hk _ (fun _ => rfl) (hf.after h))
theorem Fresh.old {H : Heap} {p l : Lab} {c : Nat} {o : Option AO} (h : Fresh p c H) (hl : H l ≠ none) : Fresh p c (Ytbngfbpegdcpkaa.upd [(l, o)] H) := fun k s hk => by
  rw [upd_ne (fun e => hl (by rw [← e]; exact h k s hk)), upd_nil]; exact h k s hk
end Go.Proofs.Ytbngfbpegdcpkaa
/-! The abstract machine: calls that are run out, some of them by contract. -/
namespace Go.Proofs.Ytbngfbpegdcpkaa
set_option linter.unusedVariables false
set_option linter.unusedSimpArgs false
/-- calls that are run out, so deep; some by what is known of them -/
def arunX (ext : CallF) (tbl : Nat → Option AFun) (fuel : Nat) : Nat → CallF
  | 0, _, _, _, _ => none
  | d + 1, f, xs, H, q => match ext f xs H q with
    | some r => some r
    | none => (tbl f).bind fun A => if xs.length = A.np then (aexec (arunX ext tbl fuel d) H q fuel A.body (entry xs)).bind fun r => match r.1 with
      | .exit _ => none
      | .goto _ => none
      | _ => (aRes (upd r.2.ov H) r.2.regs A.res).bind fun x => if ovOk H q r.2.ov then some ⟨x, r.2.ov, none⟩ else none
      else none
theorem arunX_ok {P : Program} (hm : P.follows .mixedOrders = true) {ext : CallF} (he : CallOk P ext) {tbl : Nat → Option AFun} (ht : ∀ f A, tbl f = some A → FunOk P f A) (fuel : Nat) : ∀ d, CallOk P (arunX ext tbl fuel d)
  | 0 => fun f xs H q r h => by simp [arunX] at h
  | d + 1 => fun f xs H q r h => by
    have ih := arunX_ok hm he ht fuel d
    simp only [arunX] at h
    split at h
    · rename_i r' hr'
      cases h
      exact he f xs H q _ hr'
    simp only [Option.bind_eq_some_iff] at h
    obtain ⟨A, hA, h⟩ := h
    have hF := ht f A hA
    split at h
    · rename_i hlen
      simp only [Option.bind_eq_some_iff] at h
      obtain ⟨⟨e, s⟩, he, h⟩ := h
      have hne : e = .normal ∨ e = .ret := by
        cases e with
        | normal => exact .inl rfl
        | exit k => cases h
        | ret => exact .inr rfl
        | goto k => cases h
      have h' : (aRes (upd s.ov H) s.regs A.res).bind (fun x => if ovOk H q s.ov then some (⟨x, s.ov, none⟩ : Res) else none) = some r := by
        rcases hne with rfl | rfl <;> exact h
      simp only [Option.bind_eq_some_iff] at h'
      obtain ⟨x, hx, h'⟩ := h'
      split at h'
      · rename_i hov
        simp only [Option.some.injEq] at h'
        subst h'
        obtain ⟨fn, c, hf, hb, hn, _⟩ := hF.ex
        refine ⟨⟨fn, hf, by rw [hb]; rfl, hn⟩, ?_, ?_⟩
        · rintro l ⟨pr, hp, rfl⟩
          have := List.all_eq_true.1 hov pr hp
          simp only [Bool.or_eq_true] at this
          rcases this with h1 | h1
          · exact .inr (isUnder_spec h1)
          · refine .inl ?_
            simp only [restr]
            intro e0; rw [e0] at h1; cases h1
        · intro ρ R vs hvs w hR hfr
          simp only [restr] at hR
          have := call_does hm ih hF hlen (K := fun y u => y = x ∧ u = s.ov) (exec_awp he ⟨hne, x, s.ov, hx, fun l o h => h, rfl, rfl⟩) hvs w hR hfr
          refine Calls.mono this ?_
          rintro e' w' ⟨v, rfl, y, u, ρ', R', ⟨rfl, rfl⟩, hF', hv, hR'⟩
          exact ⟨v, rfl, ρ', R', hF', hv, hR'⟩
      · cases h'
    · cases h
end Go.Proofs.Ytbngfbpegdcpkaa
/-! The abstract machine: a map's literal, its entries laid in whatever order. -/
namespace Go.Proofs.Ytbngfbpegdcpkaa
set_option linter.unusedVariables false
set_option linter.unusedSimpArgs false
def AllIdx (Q : Nat → AIns → Prop) : Nat → List AIns → Prop
  | _, [] => True
  | k, x :: l => Q k x ∧ AllIdx Q (k + 1) l
theorem all_idx {Q : Nat → AIns → Prop} : ∀ {l : List AIns} {k : Nat}, AllIdx Q k l → ∀ j i, l[j]? = some i → Q (k + j) i
  | [], _, _, j, i, h => by simp at h
  | x :: l, k, hq, j, i, h => by
    cases j with
    | zero => simp at h; subst h; exact hq.1
    | succ j =>
      have := all_idx hq.2 j i (by simpa using h)
      rwa [show k + 1 + j = k + (j + 1) by omega] at this
theorem v_conv {H : Heap} {q : Lab} {KK : KF} {k : IntKind} {n : Int} (h1 : -9223372036854775808 ≤ n) (h2 : n ≤ 9223372036854775807) : vGen (.conv .i64) [.int k n] H q KK = KK (.int .i64 n) H [] (some []) := by
  have : aop noCall (.conv .i64) [.int k n] H q = some (.pure (.int .i64 n)) := by simp [aop, arith, inR, h1, h2]
  simp [vGen, this]; rfl
theorem afind_no {agg : Bool} {ks : List CK} {k : AV} : ∀ {es : List (AV × AV)} {i : Nat}, (∀ e ∈ es, akeq agg ks k e.1 = some false) → afind agg ks k es i = some none
  | [], _, _ => rfl
  | e :: es, i, h => by
    simp only [afind, h e (by simp), Option.bind_some, Bool.false_eq_true, if_false]
    exact afind_no (fun x hx => h x (by simp [hx]))
theorem evArgs_cong {rl V : RL} : ∀ {xs : List AArg}, (∀ a, AArg.t a ∈ xs → rget rl a = rget V a) → evArgs rl xs = evArgs V xs
  | [], _ => rfl
  | x :: xs, h => by
    have ih := evArgs_cong (xs := xs) (fun a ha => h a (by simp [ha]))
    simp only [evArgs, ih]
    cases x with
    | t a => simp only [evArg, h a (by simp)]
    | c v => rfl
def depsOk (ops : List AIns) (masks base : List Nat) (j : Nat) (xs : List AArg) : Bool := xs.all fun
  | .t a => base.contains a || (List.range ops.length).any fun k => (masks.getD j 0).testBit k && ((ops[k]?).bind (·.dst)) == some a
  | .c _ => true
/-- the entries of those that are done -/
def entsD (U : List (Nat × (AV × AV))) (D : Nat → Bool) : List (AV × AV) := (U.filter fun u => D u.1).map (·.2)
theorem ents_add {U : List (Nat × (AV × AV))} {D : Nat → Bool} {j : Nat} {e : AV × AV} (hn : (U.map (·.1)).Nodup) (hj : (j, e) ∈ U) (hD : D j = false) : (entsD U D ++ [e]).Perm (entsD U (addD D j)) := by
  induction U with
  | nil => cases hj
  | cons u U ih =>
    rw [List.map_cons, List.nodup_cons] at hn
    have rest : ∀ V : List (Nat × (AV × AV)), j ∉ V.map (·.1) → entsD V (addD D j) = entsD V D := by
      intro V hV
      unfold entsD
      congr 1
      refine List.filter_congr fun x hx => ?_
      have : x.1 ≠ j := fun e => hV (e ▸ List.mem_map_of_mem hx)
      simp [addD, this]
    rcases List.mem_cons.1 hj with h | h
    · subst h
      have e1 : entsD ((j, e) :: U) D = entsD U D := by simp [entsD, hD]
      have e2 : entsD ((j, e) :: U) (addD D j) = e :: entsD U (addD D j) := by simp [entsD, addD]
      rw [e1, e2, rest U hn.1]
      exact List.perm_append_singleton _ _
    · have hne : u.1 ≠ j := fun e' => hn.1 (e' ▸ List.mem_map_of_mem (f := (·.1)) h)
      have ih := ih hn.2 h
      cases hu : D u.1
      · have e1 : entsD (u :: U) D = entsD U D := by simp [entsD, hu]
        have e2 : entsD (u :: U) (addD D j) = entsD U (addD D j) := by simp [entsD, addD, hu, hne]
        rw [e1, e2]; exact ih
      · have e1 : entsD (u :: U) D = u.2 :: entsD U D := by simp [entsD, hu]
        have e2 : entsD (u :: U) (addD D j) = u.2 :: entsD U (addD D j) := by simp [entsD, addD, hu]
        rw [e1, e2]; exact ih.cons _
section
variable (P : Program) (call : CallF) (ops : List AIns) (masks base : List Nat) (V : RL) (U : List (Nat × (AV × AV))) (agg : Bool) (ks : List CK) (lM : Lab)
/-- an operation of a map's literal -/
inductive LitOp : Nat → AIns → Prop
  | mk (t : Nat) (hv : rget V t = some (.map lM)) : LitOp 0 ⟨some t, none, .mkmap, []⟩
  | upd (j : Nat) (m k v : AArg) (kv vv : AV) (hd : depsOk ops masks base j [m, k, v] = true) (h0 : (masks.getD j 0).testBit 0 = true) (he : evArgs V [m, k, v] = some [.map lM, kv, vv]) (hu : (j, (kv, vv)) ∈ U) : LitOp j ⟨none, none, .mapUpdate agg ks, [m, k, v]⟩
  | val (j t : Nat) (ak : AK) (xs : List AArg) (ys : List AV) (x : AV) (f : Option (List Lab)) (hd : depsOk ops masks base j xs = true) (he : evArgs V xs = some ys) (hr : ∀ H q, aop call ak ys H q = some ⟨x, [], f⟩) (hv : rget V t = some x) (hj : j ≠ 0) (hu : j ∉ U.map (·.1)) : LitOp j ⟨some t, none, ak, xs⟩
end
section
variable {P : Program} {call : CallF} {ops : List AIns} {masks base : List Nat} {V : RL} {U : List (Nat × (AV × AV))} {agg : Bool} {ks : List CK} {H0 : Heap} {p : Lab}
theorem nd_lit {s : ASt} {keep : List Nat} {Q : APost} (hb : ∀ a ∈ base, rget s.regs a = rget V a) (hops : ∀ j i, ops[j]? = some i → LitOp call ops masks base V U agg ks (s.c :: p) j i)
    (hU : (U.map (·.1)).Nodup) (hk : ∀ u ∈ U, shaped agg ks u.2.1 = true ∧ ∀ u' ∈ U, u'.1 ≠ u.1 → akeq agg ks u.2.1 u'.2.1 = some false) (hUo : ∀ u ∈ U, u.1 < ops.length ∧ u.1 ≠ 0) (h0 : 0 < ops.length)
    (hQ : ∀ rl ov es, (∀ (k : Nat) i t, ops[k]? = some i → i.dst = some t → rget rl t = rget V t) → upd ov H0 (s.c :: p) = some (.amap es (List.range es.length) es.length) → es.Perm (U.map (·.2)) → (∀ l, l ≠ s.c :: p → upd ov H0 l = upd s.ov H0 l) → ∃ s', Weak H0 p ⟨restrict rl keep, ov, s.c + ops.length⟩ s' ∧ Q .normal s') :
    NdOk H0 p call ops masks keep Q s := by
  refine ⟨fun D rl ov => (∀ a ∈ base, rget rl a = rget V a) ∧ (∀ (k : Nat) i t, D k = true → ops[k]? = some i → i.dst = some t → rget rl t = rget V t) ∧
    (D 0 = true → ∃ es, upd ov H0 (s.c :: p) = some (.amap es (List.range es.length) es.length) ∧ es.Perm (entsD U D)) ∧ (∀ u ∈ U, D u.1 = true → D 0 = true) ∧ ∀ l, l ≠ s.c :: p → upd ov H0 l = upd s.ov H0 l,
    ⟨hb, fun k i t h => (by cases h), fun h => (by cases h), fun u _ h => (by cases h), fun l _ => rfl⟩, ?_, ?_⟩
  · rintro D rl ov j i ⟨h1, h2, h3, h4, h5⟩ hi hj hm
    have deps : ∀ {xs : List AArg}, depsOk ops masks base j xs = true → evArgs rl xs = evArgs V xs := fun {xs} hd => evArgs_cong fun a ha => by
      have := List.all_eq_true.1 hd _ ha
      simp only [Bool.or_eq_true, List.contains_iff_mem, List.any_eq_true, List.mem_range, Bool.and_eq_true, beq_iff_eq] at this
      rcases this with hb' | ⟨k, _, hk1, hk2⟩
      · exact h1 a hb'
      · cases hok : ops[k]? with
        | none => rw [hok] at hk2; cases hk2
        | some ik => rw [hok] at hk2; exact h2 k ik a (hm k hk1) hok hk2
    cases hops j i hi with
    | mk t hv =>
      have hnone : entsD U D = [] := by
        unfold entsD
        rw [List.map_eq_nil_iff, List.filter_eq_nil_iff]
        intro u hu hDu
        rw [h4 u hu hDu] at hj; cases hj
      refine ⟨⟨false, .map (s.c :: p), [(s.c :: p, some (.amap [] [] 0))], s.c :: p, some []⟩, by simp [evalIns, runIns, evArgs, aop], fun a ha => ?_, fun k i' t' hDk hik hdt => ?_, fun _ => ⟨[], ?_, ?_⟩, fun u hu _ => by simp [addD], fun l hl => ?_⟩
      · simp only [putReg, rget_rset]
        split
        · rename_i e; rw [e, hv]
        · exact h1 a ha
      · simp only [putReg, rget_rset]
        split
        · rename_i e; rw [e, hv]
        · rename_i hne
          simp only [addD, Bool.or_eq_true, beq_iff_eq] at hDk
          rcases hDk with rfl | hDk
          · rw [hi] at hik; cases hik; simp only [Option.some.injEq] at hdt; exact absurd hdt.symm hne
          · exact h2 k i' t' hDk hik hdt
      · rw [upd_omerge]; simp [upd]
      · have e : entsD U (addD D 0) = entsD U D := by
          unfold entsD
          congr 1
          refine List.filter_congr fun u hu => ?_
          have e := (hUo u hu).2
          simp [addD, e]
        rw [e, hnone]
      · rw [upd_omerge]
        simp only [upd]
        rw [if_neg hl]
        exact h5 l hl
    | upd _ m k v kv vv hd hm0 he hu =>
      obtain ⟨es, g1, g2⟩ := h3 (hm 0 hm0)
      have hev := (deps hd).trans he
      have hno : afind agg ks kv es 0 = some none := afind_no (fun e he' => by
        have h6 := g2.subset he'
        obtain ⟨u', hu', rfl⟩ := List.mem_map.1 h6
        obtain ⟨hu1, hu2⟩ := List.mem_filter.1 hu'
        exact (hk _ hu).2 u' hu1 (fun e => by simp only at e; rw [e, hj] at hu2; cases hu2))
      have hup : aMapUpdate agg ks (.map (s.c :: p)) kv vv (upd ov H0) = some ⟨.tuple [], [(s.c :: p, some (.amap (es ++ [(kv, vv)]) (List.range es.length ++ [es.length]) (es.length + 1)))], some [s.c :: p]⟩ := by
        simp only [aMapUpdate, (hk _ hu).1, if_true, g1, hno, Option.bind_some]
      have hrun : runIns call H0 p ⟨none, none, .mapUpdate agg ks, [m, k, v]⟩ ⟨rl, ov, s.c + j⟩ = some ⟨false, .tuple [], [(s.c :: p, some (.amap (es ++ [(kv, vv)]) (List.range es.length ++ [es.length]) (es.length + 1)))], (s.c + j) :: p, some [s.c :: p]⟩ := by
        simp only [runIns, hev, Option.bind_some, aop, hup]
      have hj0 : D 0 = true := hm 0 hm0
      refine ⟨_, by simpa only [evalIns] using hrun, h1, fun k' i' t' hDk hik hdt => ?_, fun _ => ⟨es ++ [(kv, vv)], ?_, ?_⟩, fun u _ _ => by simp [addD, hj0], fun l hl => ?_⟩
      · simp only [addD, Bool.or_eq_true, beq_iff_eq] at hDk
        rcases hDk with rfl | hDk
        · rw [hi] at hik; cases hik; cases hdt
        · exact h2 k' i' t' hDk hik hdt
      · rw [upd_omerge]; simp [upd, List.range_succ]
      · exact (g2.append_right _).trans (ents_add hU hu hj)
      · rw [upd_omerge]
        simp only [upd]
        rw [if_neg hl]
        exact h5 l hl
    | val _ t ak xs ys x f hd he hr hv hj0 hu =>
      have hev := (deps hd).trans he
      have hrun : runIns call H0 p ⟨some t, none, ak, xs⟩ ⟨rl, ov, s.c + j⟩ = some ⟨false, x, [], (s.c + j) :: p, f⟩ := by
        simp only [runIns, hev, Option.bind_some, hr]
      have hents : entsD U (addD D j) = entsD U D := by
        unfold entsD
        congr 1
        refine List.filter_congr fun u hu' => ?_
        have e : u.1 ≠ j := fun e => hu (e ▸ List.mem_map_of_mem (f := (·.1)) hu')
        simp [addD, e]
      refine ⟨_, by simpa only [evalIns] using hrun, fun a ha => ?_, fun k' i' t' hDk hik hdt => ?_, fun hD0 => ?_, fun u hu' hDu => ?_, fun l hl => by rw [upd_omerge]; exact h5 l hl⟩
      · simp only [putReg, rget_rset]
        split
        · rename_i e; rw [e, hv]
        · exact h1 a ha
      · simp only [putReg, rget_rset]
        split
        · rename_i e; rw [e, hv]
        · rename_i hne
          simp only [addD, Bool.or_eq_true, beq_iff_eq] at hDk
          rcases hDk with rfl | hDk
          · rw [hi] at hik; cases hik; simp only [Option.some.injEq] at hdt; exact absurd hdt.symm hne
          · exact h2 k' i' t' hDk hik hdt
      · simp only [addD, Bool.or_eq_true, beq_iff_eq] at hD0
        rcases hD0 with e | hD0
        · exact absurd e.symm hj0
        · obtain ⟨es, g1, g2⟩ := h3 hD0
          exact ⟨es, by rw [upd_omerge]; exact g1, by rw [hents]; exact g2⟩
      · simp only [addD, Bool.or_eq_true, beq_iff_eq] at hDu ⊢
        rcases hDu with e | hDu
        · exact absurd (e ▸ List.mem_map_of_mem (f := (·.1)) hu') hu
        · exact .inr (h4 u hu' hDu)
  · rintro D rl ov hD ⟨h1, h2, h3, h4, h5⟩
    obtain ⟨es, g1, g2⟩ := h3 (hD 0 h0)
    have hall : entsD U D = U.map (·.2) := by
      unfold entsD
      rw [List.filter_eq_self.2 (fun u hu => hD u.1 (hUo u hu).1)]
    rw [hall] at g2
    exact hQ rl ov es (fun k i t hik hdt => h2 k i t (hD k (List.getElem?_eq_some_iff.1 hik).1) hik hdt) g1 g2 h5
end
end Go.Proofs.Ytbngfbpegdcpkaa
/-! Joined texts. -/
namespace Go.Proofs.Ytbngfbpegdcpkaa
set_option linter.unusedVariables false
set_option linter.unusedSimpArgs false
set_option maxRecDepth 100000
/-! slices.Insert, walked: what becomes of memory. -/
section
open Go.RowKit Go.Lib
theorem run_copy_fit {P : Program} {dT sT ty E : TypeId} {i : TypeInfo} (hd : P.underlying dT = some (.slice E)) (hi : P.info? E = some i) (b o dLen dCap : Nat) (a : Addr) (sLen sCap : Nat) (us : List Value) (w : World) (k : Nat) (hk : k = Nat.min sLen dLen) (hlen : us.length = k * i.size)
    (hus : ∀ j u, us[j]? = some u → w.cell? (a.add j) = some u) (hone : ∀ v ∈ us, v.oneCell' = true) (cc : Array Value) (T' : TypeId) (hb : w.heap[b]? = some (.cells cc T' (0, 0))) (hfit : o + us.length ≤ cc.size) :
    (Builtin.copy_ #[dT, sT] ty #[.slice (some ⟨b, o, none⟩) dLen dCap, .slice (some a) sLen sCap]).run P w = .ok (goInt k) (w.setB b (.cells (putC cc o us) T' (0, 0))) := by
  have hf := run_firstCells_some (P := P) w i.size k a sLen sCap us hlen hus
  have hs := run_storeCells (P := P) us w b o 0 cc T' hb hone (by omega)
  simp only [Nat.add_zero] at hs
  simp [Builtin.copy_, run_underlying' hd, run_sizeOf' hi, Builtin.lenOf, ← hk, hf, add_none, hs]
theorem shape_cells {w : World} {b : Nat} {c : Array Value} {T : TypeId} {fz : Nat × Nat} (h : w.heap[b]? = some (.cells c T fz)) : w.shape? b = some (T, c.size) := by simp [World.shape?, h]
theorem frozen_cells {w : World} {b : Nat} {c : Array Value} {T : TypeId} (h : w.heap[b]? = some (.cells c T (0, 0))) (o : Nat) (s : Option Nat) : w.frozen? ⟨b, o, s⟩ = false := by simp [World.frozen?, h]
theorem info_el : ∃ I, Try.prog.info? 3 = some I ∧ I.size = 1 ∧ I.bytes = 8 := by
  have h : (Try.prog.info? 3).map (fun i => (i.size, i.bytes)) = some (1, 8) := by kernel_rfl
  cases hq : Try.prog.info? 3 with
  | none => rw [hq] at h; cases h
  | some I => rw [hq] at h; simp only [Option.map_some, Option.some.injEq, Prod.mk.injEq] at h; exact ⟨I, rfl, h.1, h.2⟩
theorem info_elz : ∃ I, Try.prog.info? 3 = some I ∧ I.zero = some (Value.int .i64 0) ∧ I.size = 1 ∧ I.bytes = 8 := info_parts (by kernel_rfl)
section
set_option maxHeartbeats 4000000
variable (b off n c i vb voff vc : Nat) (cc cv : Array Value) (T Tv : TypeId) (us vs : List Value) (w : World)
theorem overlaps_no (lb cb la ca oa ob : Nat) (hvb : vb ≠ b) (hb : w.heap[b]? = some (.cells cc T (0, 0))) (hv : w.heap[vb]? = some (.cells cv Tv (0, 0))) (h0 : cc.size ≠ 0) :
    (callFunc 60 #[.slice (some ⟨vb, oa, none⟩) la ca, .slice (some ⟨b, ob, none⟩) lb cb]).run Try.prog w = .ok (.value (.bool false)) w := by
  rw [run_callFunc_extern Try.func60 (by kernel_rfl) (by kernel_rfl) (by kernel_rfl) (e := Extern.SlicesOverlaps.overlaps #[22, 22] #[4]) (by kernel_rfl),
    Lib.run_overlaps_apart w 22 4 3 Try.underlying22 1 (fun w => by kernel_rfl) ⟨vb, oa, none⟩ ⟨b, ob, none⟩ la ca lb cb hvb Tv T cv.size cc.size (shape_cells hv) (shape_cells hb) h0 (frozen_cells hv _ _) (frozen_cells hv _ _)]
  rfl
theorem ins_shift (hi : i < n) (hroom : n + 1 ≤ c) (hn63 : n + 1 ≤ 4611686018427387904) (hvb : vb ≠ b) (hb : w.heap[b]? = some (.cells cc T (0, 0))) (hfit : off + (c) ≤ cc.size)
    (hul : us.length = (n - i)) (hus : ∀ k u, us[k]? = some u → w.cell? ⟨b, off + (i) + k, none⟩ = some u) (h1u : ∀ v ∈ us, v.oneCell' = true)
    (hv : w.heap[vb]? = some (.cells cv Tv (0, 0))) (hvl : vs.length = 1) (hvs : ∀ k u, vs[k]? = some u → w.cell? ⟨vb, voff + k, none⟩ = some u) (h1v : ∀ v ∈ vs, v.oneCell' = true) :
    Calls Try.prog 33 #[.slice (some ⟨b, off, none⟩) n c, .int .i64 i, .slice (some ⟨vb, voff, none⟩) 1 vc] w fun e w' =>
      e = .returned (.slice (some ⟨b, off, none⟩) (n + 1) c) ∧ w' = w.drew.setB b (.cells (putC (putC cc (off + (i + 1)) us) (off + (i)) vs) T (0, 0)) := by
  have hz2 : ¬ ((i : Int) = (n : Int)) := by omega
  have hw1 : IntKind.i64.wrap ((i : Int) + 1) = (i : Int) + 1 := by rw [IntKind.wrap_i64]; omega
  have hw2 : IntKind.i64.wrap ((n : Int) + 1) = (n : Int) + 1 := by rw [IntKind.wrap_i64]; omega
  have hov : ∀ lb cb, (callFunc 60 #[.slice (some ⟨vb, voff, none⟩) 1 vc, .slice (some ⟨b, off + (i + 1), none⟩) lb cb]).run Try.prog w = .ok (.value (.bool false)) w := fun lb cb => overlaps_no (b := b) (vb := vb) (cc := cc) (cv := cv) (T := T) (Tv := Tv) (w := w) _ _ _ _ _ _ hvb hb hv (by omega)
  obtain ⟨I, hinfo, hsz, hby⟩ := info_el
  have hcp1 : ∀ ty dc sc, (Builtin.copy_ #[22, 22] ty #[.slice (some ⟨b, off + (i + 1), none⟩) (n - i) dc, .slice (some ⟨b, off + (i), none⟩) (n + 1 - i) sc]).run Try.prog w.drew = .ok (goInt (n - i : Nat)) (w.drew.setB b (.cells (putC cc (off + (i + 1)) us) T (0, 0))) := fun ty dc sc =>
    run_copy_fit Try.underlying22 hinfo b _ _ dc ⟨b, off + (i), none⟩ _ sc us w.drew (n - i) (by simp only [Nat.min_def]; split <;> omega) (by rw [hul, hsz]; try omega) (fun j u hj => by rw [Addr.add_lit]; exact hus j u hj) h1u cc T hb (by rw [hul]; omega)
  have hb2 : (w.drew.setB b (.cells (putC cc (off + (i + 1)) us) T (0, 0))).heap[b]? = some (.cells (putC cc (off + (i + 1)) us) T (0, 0)) := setB_at (w := w.drew) hb _
  have hcp2 : ∀ (W : World), W = w.drew.setB b (.cells (putC cc (off + (i + 1)) us) T (0, 0)) → ∀ ty dc, (Builtin.copy_ #[22, 22] ty #[.slice (some ⟨b, off + (i), none⟩) (n + 1 - i) dc, .slice (some ⟨vb, voff, none⟩) 1 vc]).run Try.prog W = .ok (goInt (1 : Nat)) (W.setB b (.cells (putC (putC cc (off + (i + 1)) us) (off + (i)) vs) T (0, 0))) := fun W hW ty dc =>
    run_copy_fit Try.underlying22 hinfo b _ _ dc ⟨vb, voff, none⟩ _ vc vs W 1 (by simp only [Nat.min_def]; split <;> omega) (by rw [hvl, hsz]) (fun j u hj => by
      rw [Addr.add_lit, hW]
      have := hvs j u hj
      unfold World.cell? at this ⊢
      rw [setB_other _ _ hvb]; exact this) h1v _ T (by rw [hW]; exact hb2) (by rw [putC_size, hvl]; omega)
  have hb1 : (0 : Int) ≤ (i : Int) + 1 := by omega
  have hin : i ≤ n := by omega
  have hci1 : ¬ (c = i + 1) := by omega
  have hci : ¬ (c = i) := by omega
  have hb3 : (i : Int) ≤ (n : Int) + 1 := by omega
  have htn : ((i : Int) + 1).toNat = i + 1 := by omega
  have mixed : Try.prog.follows .mixedOrders = true := by kernel_rfl
  go_enter Try.func33, Try.ntmps33
  go_wp2_with (simp only [hov])
  go_region_law_o (refine step_copy_runI rfl _ _ 22 22 rfl _ _ (by simp [Act.eval, Act.put]) (by simp [Act.eval, Act.put]) (hcp1 _ _ _) ?_)
  go_wp2_with (at_builtin; refine wpList_copy_runI _ rfl _ _ 22 22 rfl _ _ rfl rfl (hcp2 _ rfl _ _) ?_)
  go_ret
  exact ⟨rfl, by rw [setB_setB]⟩
theorem alloc_setB (w : World) (O O' : Obj) : (w.alloc O).setB w.heap.size O' = w.alloc O' := by
  have h : (w.heap.push O).setIfInBounds w.heap.size O' = w.heap.push O' := by
    apply Array.ext_getElem?
    intro j
    simp only [Array.getElem?_setIfInBounds, Array.getElem?_push, Array.size_push]
    by_cases e : w.heap.size = j
    · simp [e]
    · simp [e, Ne.symm e]
  unfold World.alloc World.setB
  simp only [h]
theorem ins_row (us0 zs vs us : List Value) (rest : Array Value) (h : zs.length = vs.length + us.length) : putC (putC ((us0 ++ zs).toArray ++ rest) us0.length vs) (us0.length + vs.length) us = (us0 ++ vs ++ us).toArray ++ rest := by
  apply Array.ext_getElem?
  intro j
  rw [putC_get, putC_get, putC_size]
  simp only [Array.size_append, List.size_toArray, List.length_append]
  by_cases h1 : j < us0.length
  · rw [if_neg (by omega), if_neg (by omega), Array.getElem?_append_left (by simp; omega), Array.getElem?_append_left (by simp; omega)]
    simp only [List.getElem?_toArray]
    rw [List.getElem?_append_left h1, List.append_assoc, List.getElem?_append_left h1]
  · by_cases h2 : j < us0.length + vs.length
    · rw [if_neg (by omega), if_pos (by omega), Array.getElem?_append_left (by simp; omega)]
      simp only [List.getElem?_toArray]
      rw [List.getElem?_append_left (by simp; omega), List.getElem?_append_right (by omega)]
    · by_cases h3 : j < us0.length + vs.length + us.length
      · rw [if_pos (by omega), Array.getElem?_append_left (by simp; omega)]
        simp only [List.getElem?_toArray]
        rw [List.getElem?_append_right (by simp; omega)]
        congr 1
        simp
      · rw [if_neg (by omega), if_neg (by omega), Array.getElem?_append_right (by simp; omega), Array.getElem?_append_right (by simp; omega)]
        congr 1
        simp only [List.size_toArray, List.length_append]
        omega
theorem ins_grow (us0 : List Value) (hi : i < n) (hnc : n ≤ c) (hroom : c < n + 1) (hbig : (n + 1) * 8 ≤ 140737488355328) (hn63 : n + 1 ≤ 4611686018427387904) (hvb : vb ≠ b) (hb : w.heap[b]? = some (.cells cc T (0, 0)))
    (hu0 : us0.length = (i)) (hus0 : ∀ k u, us0[k]? = some u → w.cell? ⟨b, off + k, none⟩ = some u)
    (hul : us.length = (n - i)) (hus : ∀ k u, us[k]? = some u → w.cell? ⟨b, off + (i) + k, none⟩ = some u) (h1u : ∀ v ∈ us, v.oneCell' = true)
    (hv : w.heap[vb]? = some (.cells cv Tv (0, 0))) (hvl : vs.length = 1) (hvs : ∀ k u, vs[k]? = some u → w.cell? ⟨vb, voff + k, none⟩ = some u) (h1v : ∀ v ∈ vs, v.oneCell' = true) :
    ∃ (G : Nat) (rest : Array Value), n + 1 ≤ G ∧ rest.size = (G - (n + 1)) * 1 ∧ Calls Try.prog 33 #[.slice (some ⟨b, off, none⟩) n c, .int .i64 i, .slice (some ⟨vb, voff, none⟩) 1 vc] w fun e w' =>
      e = .returned (.slice (some ⟨w.heap.size, 0, none⟩) (n + 1) G) ∧ w' = w.drew.drew.alloc (.cells ((us0 ++ vs ++ us).toArray ++ rest) 3) := by
  obtain ⟨I, hinfo, hz, hsz, hby⟩ := info_elz
  have hbw : b < w.heap.size := (Array.getElem?_eq_some_iff.1 hb).1
  have hvw : vb < w.heap.size := (Array.getElem?_eq_some_iff.1 hv).1
  have hz2 : ¬ ((i : Int) = (n : Int)) := by omega
  have hz3 : (c : Int) < (n : Int) + 1 := by omega
  have hkk : (n : Int) + 1 - (i : Int) = ((n + 1 - i : Nat) : Int) := by omega
  have hik : i + (n + 1 - i) = n + 1 := by omega
  have hold : (Builtin.firstCells I.size i (.slice (some ⟨b, off, none⟩) i c)).run Try.prog w.drew = .ok us0.toArray w.drew :=
    run_firstCells_some w.drew I.size i ⟨b, off, none⟩ i c us0 (by rw [hu0, hsz]; try omega) (fun j v hj => by rw [Addr.add_lit]; exact hus0 j v hj)
  have hrz : ∀ ty, (Builtin.append_ #[22, 3] ty #[.slice (some ⟨b, off, none⟩) i c, .int .i64 ((n : Int) + 1 - (i : Int))]).run Try.prog w =
      .ok (.slice (some ⟨w.heap.size, 0, none⟩) (n + 1) (grownCap w (n + 1) c 3)) (w.drew.alloc (.cells (us0.toArray ++ Builtin.zeroCells (Value.int .i64 0).cells (n + 1 - i) ++ Builtin.zeroCells (Value.int .i64 0).cells (grownCap w (n + 1) c 3 - (n + 1))) 3)) := fun ty => by
    have h := Lib.run_append_grow_zeros (P := Try.prog) w 22 3 ty 3 I _ .i64 .i64 Try.underlying22 Try.underlying3 hinfo hz (some ⟨b, off, none⟩) i c us0 hold (n + 1 - i) (by omega) (by omega) (by omega) (by omega) (by rw [hby]; omega) (by rw [hby, hik]; exact growslice_fits hroom hbig)
    rw [hik] at h
    rw [hkk]
    exact h
  obtain ⟨G, hG⟩ : ∃ G, G = grownCap w (n + 1) c 3 := ⟨_, rfl⟩
  obtain ⟨zs, hzs⟩ : ∃ zs : List Value, zs = (Builtin.zeroCells (Value.int .i64 0).cells (n + 1 - i)).toList := ⟨_, rfl⟩
  obtain ⟨rest, hrest⟩ : ∃ rest : Array Value, rest = Builtin.zeroCells (Value.int .i64 0).cells (G - (n + 1)) := ⟨_, rfl⟩
  rw [← hG, ← hrest] at hrz
  have hzl : zs.length = vs.length + us.length := by rw [hzs, hvl, hul]; simp [Builtin.zeroCells, Value.cells]; omega
  have hROW : us0.toArray ++ Builtin.zeroCells (Value.int .i64 0).cells (n + 1 - i) ++ rest = (us0 ++ zs).toArray ++ rest := by rw [hzs]; apply Array.ext'; simp
  rw [hROW] at hrz
  have hGn : n + 1 ≤ G := by rw [hG]; exact grownCap_ge w _ _ _
  refine ⟨G, rest, hGn, by rw [hrest]; simp [Builtin.zeroCells, Value.cells], ?_⟩
  obtain ⟨ROW, hR⟩ : ∃ ROW, ROW = (us0 ++ zs).toArray ++ rest := ⟨_, rfl⟩
  obtain ⟨W1, hW1⟩ : ∃ W1, W1 = w.drew.alloc (.cells ROW 3) := ⟨_, rfl⟩
  rw [← hR, ← hW1] at hrz
  have hRs : ROW.size = us0.length + zs.length + rest.size := by rw [hR]; simp
  have h1 : W1.heap[w.heap.size]? = some (.cells ROW 3 (0, 0)) := by rw [hW1]; exact Array.getElem?_push_size
  have hold1 : ∀ k, k < w.heap.size → W1.heap[k]? = w.heap[k]? := fun k hk => by rw [hW1]; show (w.heap.push _)[k]? = _; rw [Array.getElem?_push, if_neg (by omega)]
  have hcpA : ∀ (W : World), W.heap = W1.heap → ∀ ty dc, (Builtin.copy_ #[22, 22] ty #[.slice (some ⟨w.heap.size, (i), none⟩) (n + 1 - i) dc, .slice (some ⟨vb, voff, none⟩) 1 vc]).run Try.prog W = .ok (goInt (1 : Nat)) (W.setB w.heap.size (.cells (putC ROW ((i)) vs) 3 (0, 0))) := fun W hW ty dc =>
    run_copy_fit Try.underlying22 hinfo _ _ _ dc ⟨vb, voff, none⟩ _ vc vs W 1 (by simp only [Nat.min_def]; split <;> omega) (by rw [hvl, hsz]) (fun j u hj => by
      rw [Addr.add_lit]
      have := hvs j u hj
      unfold World.cell? at this ⊢
      simp only at this ⊢
      rw [hW, hold1 _ hvw]; exact this) h1v ROW _ (by rw [hW]; exact h1) (by rw [hRs, hu0, hzl, hvl]; omega)
  have hcpB : ∀ (W : World), W.heap = (W1.setB w.heap.size (.cells (putC ROW ((i)) vs) 3 (0, 0))).heap → ∀ ty dc sc, (Builtin.copy_ #[22, 22] ty #[.slice (some ⟨w.heap.size, (i + 1), none⟩) (n - i) dc, .slice (some ⟨b, off + (i), none⟩) (n - i) sc]).run Try.prog W = .ok (goInt (n - i : Nat)) (W.setB w.heap.size (.cells (putC (putC ROW ((i)) vs) ((i + 1)) us) 3 (0, 0))) := fun W hW ty dc sc =>
    run_copy_fit Try.underlying22 hinfo _ _ _ dc ⟨b, off + (i), none⟩ _ sc us W (n - i) (by simp) (by rw [hul, hsz]; try omega) (fun j u hj => by
      rw [Addr.add_lit]
      have := hus j u hj
      unfold World.cell? at this ⊢
      simp only at this ⊢
      rw [hW, setB_other _ _ (by omega), hold1 _ hbw]; exact this) h1u _ _ (by rw [hW]; exact setB_at h1 _) (by rw [putC_size, hRs, hu0, hzl, hul, hvl]; omega)
  have hb1 : (0 : Int) ≤ (i : Int) + 1 := by omega
  have hin : i ≤ n := by omega
  have hci : ¬ (c = i) := by omega
  have hGi : ¬ (G = i) := by omega
  have hGi1 : ¬ (G = i + 1) := by omega
  have hb3 : (i : Int) ≤ (n : Int) + 1 := by omega
  have htn : ((i : Int) + 1).toNat = i + 1 := by omega
  have hw1 : IntKind.i64.wrap ((i : Int) + 1) = (i : Int) + 1 := by rw [IntKind.wrap_i64]; omega
  have hw2 : IntKind.i64.wrap ((n : Int) + 1) = (n : Int) + 1 := by rw [IntKind.wrap_i64]; omega
  have hw3 : IntKind.i64.wrap ((n : Int) + 1 - (i : Int)) = (n : Int) + 1 - (i : Int) := by rw [IntKind.wrap_i64]; omega
  have hfin : (((W1.setB w.heap.size (.cells (putC ROW ((i)) vs) 3 (0, 0))).drew).setB w.heap.size (.cells (putC (putC ROW ((i)) vs) ((i + 1)) us) 3 (0, 0))) = w.drew.drew.alloc (.cells ((us0 ++ vs ++ us).toArray ++ rest) 3) := by
    have e1 := ins_row us0 zs vs us rest hzl
    have e2 : us0.length + vs.length = (i + 1) := by rw [hu0, hvl]; try omega
    rw [← hR, e2, hu0] at e1
    rw [e1, hW1]
    exact (setB_setB (w.drew.alloc (.cells ROW 3)).drew w.heap.size _ _).trans (alloc_setB w.drew.drew _ _)
  obtain ⟨CA, hCA⟩ : ∃ CA, CA = putC ROW ((i)) vs := ⟨_, rfl⟩
  obtain ⟨CB, hCB⟩ : ∃ CB, CB = putC CA ((i + 1)) us := ⟨_, rfl⟩
  rw [← hCA] at hcpA hcpB hfin
  rw [← hCB] at hcpB hfin
  clear hCA hCB hkk hik hold hROW hG hRs hR hW1 hzs hrest h1 hold1 hzl
  have mixed : Try.prog.follows .mixedOrders = true := by kernel_rfl
  go_enter Try.func33, Try.ntmps33
  go_wp2_with (first
    | (at_builtin; refine Lib.wpList_append_run _ rfl _ _ _ _ rfl _ _ rfl rfl _ _ (hrz _) ?_)
    | (at_builtin; refine wpList_copy_runI _ rfl _ _ 22 22 rfl _ _ rfl rfl (hcpA _ rfl _ _) ?_))
  go_region_law_o (refine step_copy_runI rfl _ _ 22 22 rfl (.slice (some ⟨w.heap.size, (i + 1), none⟩) (n - i) (G - (i + 1))) (.slice (some ⟨b, off + (i), none⟩) (n - i) (c - i)) (by simp [Act.eval, Act.put]) (by simp [Act.eval, Act.put]) (hcpB (W1.setB w.heap.size (.cells CA 3 (0, 0))).drew rfl 3 (G - (i + 1)) (c - i)) ?_)
  go_wp2
  go_ret
  first | exact ⟨rfl, hfin⟩ | exact ⟨rfl, by rw [List.append_assoc]; rfl⟩
theorem ins_end (A : Option Addr) (hnc : n ≤ c) (hn63 : n + 1 ≤ 4611686018427387904) {r : Value} {w' : World} (hr : ∀ ty, (Builtin.append_ #[22, 22] ty #[.slice A n c, .slice (some ⟨vb, voff, none⟩) 1 vc]).run Try.prog w = .ok r w') :
    Calls Try.prog 33 #[.slice A n c, .int .i64 n, .slice (some ⟨vb, voff, none⟩) 1 vc] w fun e w2 => e = .returned r ∧ w2 = w' := by
  have mixed : Try.prog.follows .mixedOrders = true := by kernel_rfl
  go_enter Try.func33, Try.ntmps33
  go_wp2_with (at_builtin; refine Lib.wpList_append_run _ rfl _ _ _ _ rfl _ _ rfl rfl _ _ (hr _) ?_)
  all_goals (go_ret; exact ⟨rfl, rfl⟩)
end
end
/-! slices.Insert's contract: own memory. -/
section
open Go.RowKit Go.Lib

/-- a world that differs in what was drawn alone -/
structure Like (w w0 : World) : Prop where
  heap : w0.heap = w.heap
  os : w0.os = w.os
  tape : w0.tape = w.tape
  output : w0.output = w.output
theorem Like.rfl' {w : World} : Like w w := ⟨rfl, rfl, rfl, rfl⟩
theorem Like.drew {w : World} : Like w w.drew := ⟨rfl, rfl, rfl, rfl⟩
theorem Like.drew2 {w : World} : Like w w.drew.drew := ⟨rfl, rfl, rfl, rfl⟩
theorem Like.rep {w w0 : World} (h : Like w w0) {H : Heap} {ρ : Locs} {R : Imm} (hR : Rep H ρ R w) : Rep H ρ R w0 := ⟨fun l o e => by rw [h.heap]; exact hR.own l o e, hR.sep, hR.dis, fun b O e => by rw [h.heap]; exact hR.imm b O e⟩
theorem Like.fut {w w0 : World} (h : Like w w0) {H : Heap} {ρ ρ' : Locs} {R R' : Imm} {W : Lab → Prop} {w' : World} (hF : Fut H ρ R w0 W ρ' R' w') : Fut H ρ R w W ρ' R' w' :=
  ⟨hF.ext, fun l L e => by have := hF.win l L e; rw [h.heap] at this; exact this, fun b O e => by have := hF.new b O e; rw [h.heap] at this; exact this, hF.os.trans h.os, hF.tape.trans h.tape, hF.output.trans h.output, by have := hF.size; rw [h.heap] at this; exact this, fun b hb hno => by
    have := hF.frame b (by rw [h.heap]; exact hb) hno; rw [h.heap] at this; exact this⟩
section
variable (b off n c i vb voff vc : Nat) (cc cv : Array Value) (T Tv : TypeId) (us vs : List Value) (w : World)
theorem ins_fit (hi : i ≤ n) (hroom : n + 1 ≤ c) (hn63 : n + 1 ≤ 4611686018427387904) (hvb : vb ≠ b) (hb : w.heap[b]? = some (.cells cc T (0, 0))) (hfit : off + (c) ≤ cc.size)
    (hul : us.length = (n - i)) (hus : ∀ k u, us[k]? = some u → w.cell? ⟨b, off + (i) + k, none⟩ = some u) (h1u : ∀ v ∈ us, v.oneCell' = true)
    (hv : w.heap[vb]? = some (.cells cv Tv (0, 0))) (hvl : vs.length = 1) (hvs : ∀ k u, vs[k]? = some u → w.cell? ⟨vb, voff + k, none⟩ = some u) (h1v : ∀ v ∈ vs, v.oneCell' = true) :
    Calls Try.prog 33 #[.slice (some ⟨b, off, none⟩) n c, .int .i64 i, .slice (some ⟨vb, voff, none⟩) 1 vc] w fun e w' =>
      e = .returned (.slice (some ⟨b, off, none⟩) (n + 1) c) ∧ ∃ w0, Like w w0 ∧ w' = w0.setB b (.cells (putC (putC cc (off + (i + 1)) us) (off + (i)) vs) T (0, 0)) := by
  obtain ⟨I, hinfo, hz, hsz, hby⟩ := info_elz
  rcases Nat.lt_or_ge i n with hlt | hge
  · refine (ins_shift b off n c i vb voff vc cc cv T Tv us vs w hlt hroom hn63 hvb hb hfit hul hus h1u hv hvl hvs h1v).mono ?_
    rintro e w' ⟨he, hw⟩
    exact ⟨he, w.drew, .drew, hw⟩
  · obtain rfl : i = n := by omega
    have hus0 : us = [] := List.length_eq_zero_iff.1 (by rw [hul]; simp)
    subst hus0
    have hr := fun ty => run_append_fit (ty := ty) (P := Try.prog) Try.underlying22 Try.underlying22 hinfo b off i 1 c vc ⟨vb, voff, none⟩ vs hroom w (by rw [hvl, hsz]) (fun k u hk => by rw [Addr.add_lit]; exact hvs k u hk) h1v cc T hb (by rw [hsz, hvl]; omega)
    rw [hsz] at hr
    refine (ins_end i c vb voff vc w _ (by omega) hn63 hr).mono ?_
    rintro e w' ⟨he, hw⟩
    refine ⟨he, w, .rfl', ?_⟩
    rw [hw]; simp [putC]
theorem ins_more (A : Option Addr) (us0 : List Value) (hi : i ≤ n) (hnc : n ≤ c) (hroom : c < n + 1) (hbig : (n + 1) * 8 ≤ 140737488355328) (hn63 : n + 1 ≤ 4611686018427387904)
    (hA : n = 0 ∨ (A = some ⟨b, off, none⟩ ∧ vb ≠ b ∧ w.heap[b]? = some (.cells cc T (0, 0))))
    (hu0 : us0.length = (i)) (hus0 : ∀ k u, us0[k]? = some u → w.cell? ⟨b, off + k, none⟩ = some u)
    (hul : us.length = (n - i)) (hus : ∀ k u, us[k]? = some u → w.cell? ⟨b, off + (i) + k, none⟩ = some u) (h1u : ∀ v ∈ us, v.oneCell' = true)
    (hv : w.heap[vb]? = some (.cells cv Tv (0, 0))) (hvl : vs.length = 1) (hvs : ∀ k u, vs[k]? = some u → w.cell? ⟨vb, voff + k, none⟩ = some u) (h1v : ∀ v ∈ vs, v.oneCell' = true) :
    Calls Try.prog 33 #[.slice A n c, .int .i64 i, .slice (some ⟨vb, voff, none⟩) 1 vc] w fun e w' =>
      ∃ (G : Nat) (rest : Array Value) (w0 : World), n + 1 ≤ G ∧ rest.size = (G - (n + 1)) * 1 ∧ Like w w0 ∧ e = .returned (.slice (some ⟨w.heap.size, 0, none⟩) (n + 1) G) ∧ w' = w0.alloc (.cells ((us0 ++ vs ++ us).toArray ++ rest) 3 (0, 0)) := by
  obtain ⟨I, hinfo, hz, hsz, hby⟩ := info_elz
  rcases Nat.lt_or_ge i n with hlt | hge
  · obtain ⟨rfl, hvb, hb⟩ := hA.resolve_left (by omega)
    obtain ⟨G, rest, h1, h2, h3⟩ := ins_grow b off n c i vb voff vc cc cv T Tv us vs w us0 hlt hnc hroom hbig hn63 hvb hb hu0 hus0 hul hus h1u hv hvl hvs h1v
    refine h3.mono ?_
    rintro e w' ⟨he, hw⟩
    exact ⟨G, rest, w.drew.drew, h1, h2, .drew2, he, hw⟩
  · obtain rfl : i = n := by omega
    have husn : us = [] := List.length_eq_zero_iff.1 (by rw [hul]; simp)
    subst husn
    have key : ∃ nc rest, i + 1 ≤ nc ∧ rest.size = (nc - (i + 1)) * 1 ∧ ∀ ty, (Builtin.append_ #[22, 22] ty #[.slice A i c, .slice (some ⟨vb, voff, none⟩) 1 vc]).run Try.prog w = .ok (.slice (some ⟨w.heap.size, 0, none⟩) (i + 1) nc) (w.drew.alloc (.cells (us0.toArray ++ vs.toArray ++ rest) 3)) := by
      have hall := fun ty => run_append_more (ty := ty) (P := Try.prog) Try.underlying22 Try.underlying22 hinfo hz A i 1 c vc ⟨vb, voff, none⟩ us0 vs hroom hnc w (by rw [hu0, hsz]; try omega) (by
          rcases hA with h0 | ⟨rfl, _, _⟩
          · exact .inl h0
          · exact .inr ⟨_, rfl, fun k u hk => by rw [Addr.add_lit]; exact hus0 k u hk⟩) (by rw [hvl, hsz]) (fun k u hk => by rw [Addr.add_lit]; exact hvs k u hk) hn63 (by rw [hby]; exact hbig)
      obtain ⟨nc, rest, h1, _, h3, h4⟩ := hall 0
      refine ⟨nc, rest, h1, by rw [h3]; simp [Value.cells], fun ty => ?_⟩
      unfold Builtin.append_ at h4 ⊢
      exact h4
    obtain ⟨nc, rest, h1, h2, h3⟩ := key
    refine (ins_end i c vb voff vc w A hnc hn63 h3).mono ?_
    rintro e w' ⟨he, hw⟩
    refine ⟨nc, rest, w.drew, h1, h2, .drew, he, ?_⟩
    rw [hw]; simp
end
theorem shift_get (cc : Array Value) (o : Nat) (us0 vs us : List Value) (h0 : ∀ k u, us0[k]? = some u → cc[o + k]? = some u) (hfit : o + us0.length + vs.length + us.length ≤ cc.size) :
    ∀ k u, (us0 ++ vs ++ us)[k]? = some u → (putC (putC cc (o + us0.length + vs.length) us) (o + us0.length) vs)[o + k]? = some u := by
  intro k u hk
  rw [putC_get, putC_get, putC_size]
  have hlt := (List.getElem?_eq_some_iff.1 hk).1
  simp only [List.length_append] at hlt
  by_cases h1 : k < us0.length
  · rw [if_neg (by omega), if_neg (by omega)]
    rw [List.append_assoc, List.getElem?_append_left h1] at hk
    exact h0 k u hk
  · by_cases h2 : k < us0.length + vs.length
    · rw [if_pos (by omega), show o + k - (o + us0.length) = k - us0.length by omega]
      rw [List.getElem?_append_left (by simp; omega), List.getElem?_append_right (by omega)] at hk
      exact hk
    · rw [if_neg (by omega), if_pos (by omega), show o + k - (o + us0.length + vs.length) = k - (us0.length + vs.length) by omega]
      rw [List.getElem?_append_right (by simp; omega)] at hk
      simpa using hk
theorem insert_callable : Callable Try.prog 33 := ⟨_, Try.func33, by kernel_rfl, by kernel_rfl⟩
theorem insert_sl {H : Heap} {q l lv : Lab} {off n i : Nat} {rs : List (List AV)} {row : List AV} (hl : H l = some (.rows 1 rs)) (hn : off + n ≤ rs.length) (hv : H lv = some (.rows 1 [row])) (hne : l ≠ lv) (hi : i ≤ n) (h48 : (n + 1) * 8 ≤ 140737488355328) (h63 : n + 1 ≤ 4611686018427387904) :
    SoundRes Try.prog 33 [.sl l 1 off n, .int .i64 i, .sl lv 1 0 1] H q ⟨.sl q 1 0 (n + 1), [(q, some (.rows 1 ((rs.drop off).take i ++ [row] ++ (rs.drop (off + i)).take (n - i)))), (l, none)], some [l, lv]⟩ := by
  refine ⟨insert_callable, fun k hk => ?_, fun ρ R vals hvs w hR hfr => ?_⟩
  · obtain ⟨pr, hp, rfl⟩ := hk
    simp at hp
    rcases hp with rfl | rfl
    · exact .inr (.self _)
    · exact .inl (by simp [restr, hl])
  obtain ⟨v0, vals, rfl, hx0, hvs⟩ := hvs.head
  obtain ⟨v1, vals, rfl, hx1, hvs⟩ := hvs.head
  obtain ⟨v2, vals, rfl, hx2, hvs⟩ := hvs.head
  obtain rfl : vals = [] := List.length_eq_zero_iff.1 hvs.1
  cases hx1
  have hqf : ρ q = none := hfr q (.self q)
  have hGl : restr H (some [l, lv]) l = some (.rows 1 rs) := by rw [restr_at (by simp)]; exact hl
  have hGv : restr H (some [l, lv]) lv = some (.rows 1 [row]) := by rw [restr_at (by simp)]; exact hv
  obtain ⟨Lv, Ov, hLv, hOv, hrv⟩ := hR.own lv _ hGv
  obtain ⟨L, O, hL, hO, hr⟩ := hR.own l _ hGl
  have hbn : Lv.blk ≠ L.blk := fun e => hne (hR.sep lv l _ _ Lv L hGv hGl hLv hL e).symm
  cases Ov <;> (have hrv' := hrv; simp only [RepO] at hrv')
  rename_i cv Tv fzv
  obtain ⟨rfl, hvsz, hvrow, hvtop, hvcell⟩ := hrv'
  cases O <;> (have hr' := hr; simp only [RepO] at hr')
  rename_i cc T fz
  obtain ⟨rfl, hsz, hrow, htop, hcell⟩ := hr'
  obtain ⟨hV, hVr⟩ := rowsL_of hrv (off := 0) (n := 1) (by simp)
  generalize ((List.range (1 * 1)).map fun k => cv.getD (Lv.off + 0 * 1 + k) undef) = vs at hV hVr
  have hVl : vs.length = 1 := by rw [hV.1]; simp
  rcases hx2.sl_inv with ⟨L2, vc, hL2, _, _, _, rfl⟩ | ⟨h0, _⟩
  rotate_left
  · cases h0
  rw [hLv] at hL2; cases hL2
  obtain ⟨h0, h0r⟩ := rowsL_of hr (off := off) (n := i) (by omega)
  obtain ⟨hU, hUr⟩ := rowsL_of hr (off := off + i) (n := n - i) (by omega)
  generalize ((List.range (i * 1)).map fun k => cc.getD (L.off + off * 1 + k) undef) = us0 at h0 h0r
  generalize ((List.range ((n - i) * 1)).map fun k => cc.getD (L.off + (off + i) * 1 + k) undef) = us at hU hUr
  have h0l : us0.length = (i) := by rw [h0.1, List.length_take, List.length_drop]; simp; omega
  have hUl : us.length = (n - i) := by rw [hU.1, List.length_take, List.length_drop]; simp; omega
  have hall : RowsL ρ R 1 ((rs.drop off).take i ++ [row] ++ (rs.drop (off + i)).take (n - i)) (us0 ++ vs ++ us) := (h0.append (by simpa using hV)).append hU
  have hlen : ((rs.drop off).take i ++ [row] ++ (rs.drop (off + i)).take (n - i)).length = n + 1 := by simp; omega
  have hvread : ∀ k u, vs[k]? = some u → w.cell? ⟨Lv.blk, Lv.off + 0 * 1 + k, none⟩ = some u := fun k u hk => by rw [cell_at hOv]; exact hVr k u hk
  have huread : ∀ k u, us[k]? = some u → w.cell? ⟨L.blk, L.off + off * 1 + (i) + k, none⟩ = some u := fun k u hk => by
    rw [cell_at hO]
    have := hUr k u hk
    rw [Nat.add_mul] at this
    rw [← this]; congr 1; omega
  have h0read : ∀ k u, us0[k]? = some u → w.cell? ⟨L.blk, L.off + off * 1 + k, none⟩ = some u := fun k u hk => by rw [cell_at hO]; exact h0r k u hk
  have more : ∀ (A : Option Addr) (c : Nat), n ≤ c → c < n + 1 → (n = 0 ∨ A = some ⟨L.blk, L.off + off * 1, none⟩) → callC Try.prog 33 #[.slice A n c, .int .i64 i, .slice (some ⟨Lv.blk, Lv.off + 0 * 1, none⟩) 1 vc] w fun v w' => ∃ ρ' R', Fut (restr H (some [l, lv])) ρ R w (Under q) ρ' R' w' ∧ RepV ρ' R' (.sl q 1 0 (n + 1)) v ∧ Rep (upd [(q, some (.rows 1 ((rs.drop off).take i ++ [row] ++ (rs.drop (off + i)).take (n - i)))), (l, none)] (restr H (some [l, lv]))) ρ' R' w' := by
    intro A c h1 h2 h3
    refine (ins_more L.blk (L.off + off * 1) n c i Lv.blk (Lv.off + 0 * 1) vc cc cv T Tv us vs w A us0 hi h1 h2 h48 h63 (h3.imp id fun e => ⟨e, hbn, hO⟩) h0l h0read hUl huread (hU.one (by decide)) hOv hVl hvread (hV.one (by decide))).mono ?_
    rintro e w' ⟨G, rest, w0, hG, hrest, hlk, rfl, rfl⟩
    have hsz0 : w0.heap.size = w.heap.size := by rw [hlk.heap]
    obtain ⟨hF, hRep⟩ := fut_new (W := Under q) (hlk.rep hR) hqf (Under.self q) (O := .cells ((us0 ++ vs ++ us).toArray ++ rest) 3 (0, 0)) (L := ⟨w0.heap.size, 0, ((us0 ++ vs ++ us).toArray ++ rest).size, ((rs.drop off).take i ++ [row] ++ (rs.drop (off + i)).take (n - i)).length⟩) rfl (repO_rows hall rest _ _)
    refine ⟨_, rfl, _, _, hlk.fut hF, ?_, hRep.drop (fun k ob hk => ?_)⟩
    · have := RepV.sl (ρ := fun k => if k = q then some ⟨w0.heap.size, 0, ((us0 ++ vs ++ us).toArray ++ rest).size, ((rs.drop off).take i ++ [row] ++ (rs.drop (off + i)).take (n - i)).length⟩ else ρ k) (R := R) q 1 0 (n + 1) G _ (if_pos rfl) hG (by
        simp only [Nat.zero_add, Array.size_append, List.size_toArray, List.length_append]
        rw [h0l, hVl, hUl, hrest]; omega) (by rw [hlen]; simp only [Nat.zero_add]; exact hG)
      rw [hsz0] at this
      simpa [hsz0] using this
    · simp only [upd] at hk ⊢
      split at hk
      · rename_i e; rw [if_pos e]; exact hk
      · rename_i e; rw [if_neg e]
        split at hk
        · cases hk
        · exact hk
  show callC Try.prog 33 #[v0, .int .i64 i, _] w _
  rcases hx0.sl_inv with ⟨L3, cap, hL3, hcap, ht, hext, rfl⟩ | ⟨rfl, L3, ad, hL3, hext, rfl⟩
  · rw [hL] at hL3; cases hL3
    rcases Nat.lt_or_ge cap (n + 1) with hlt | hge
    · exact more _ _ hcap hlt (.inr rfl)
    · refine (ins_fit L.blk (L.off + off * 1) n cap i Lv.blk (Lv.off + 0 * 1) vc cc cv T Tv us vs w hi hge h63 hbn hO (by rw [hsz]; rw [Nat.add_mul] at ht; omega) hUl huread (hU.one (by decide)) hOv hVl hvread (hV.one (by decide))).mono ?_
      rintro e w' ⟨rfl, w0, hlk, rfl⟩
      have hroom : L.off + off * 1 + us0.length + vs.length + us.length ≤ cc.size := by rw [h0l, hVl, hUl, hsz]; rw [Nat.add_mul] at ht; omega
      have hget := shift_get cc (L.off + off * 1) us0 vs us h0r hroom
      have e1 : L.off + off * 1 + us0.length + vs.length = L.off + off * 1 + (i + 1) := by rw [h0l, hVl]; omega
      have e2 : L.off + off * 1 + us0.length = L.off + off * 1 + (i) := by rw [h0l]
      rw [e1, e2] at hget
      have hnew : RepO ρ R ⟨L.blk, L.off + off * 1, L.top, n + 1⟩ (.rows 1 ((rs.drop off).take i ++ [row] ++ (rs.drop (off + i)).take (n - i))) (.cells (putC (putC cc (L.off + off * 1 + (i + 1)) us) (L.off + off * 1 + (i)) vs) T (0, 0)) := by
        refine ⟨rfl, by rw [putC_size, putC_size]; exact hsz, hall.2.1, ⟨hlen, ?_⟩, fun ii jj xx hxx => ?_⟩
        · rw [hlen, ← hsz]; rw [h0l, hVl, hUl] at hroom; simp only; omega
        · obtain ⟨v, hv, hvr⟩ := hall.2.2 ii jj xx hxx
          exact ⟨v, hget _ _ hv, hvr⟩
      have hO0 : w0.heap[L.blk]? = some (.cells cc T (0, 0)) := by rw [hlk.heap]; exact hO
      obtain ⟨hF, hRep⟩ := fut_move (W := Under q) (hlk.rep hR) hqf (Under.self q) hGl hL hO0 (L' := ⟨L.blk, L.off + off * 1, L.top, n + 1⟩) rfl hnew
      refine ⟨_, rfl, _, _, hlk.fut hF, ?_, hRep⟩
      have := RepV.sl (ρ := fun k => if k = q then some ⟨L.blk, L.off + off * 1, L.top, n + 1⟩ else ρ k) (R := R) q 1 0 (n + 1) cap _ (if_pos rfl) hge (by simp only; rw [Nat.add_mul] at ht; omega) (by simp only [Nat.zero_add]; exact hge)
      simpa using this
  · exact more _ _ (Nat.le_refl _) (by omega) (.inl rfl)
theorem insert_none {H : Heap} {q lv : Lab} {x : AV} {row : List AV} (hxn : x = .nils ∨ x = .sl0) (hv : H lv = some (.rows 1 [row])) :
    SoundRes Try.prog 33 [x, .int .i64 0, .sl lv 1 0 1] H q ⟨.sl q 1 0 1, [(q, some (.rows 1 [row]))], some [lv]⟩ := by
  refine ⟨insert_callable, fun k hk => by rw [has_one hk]; exact .inr (.self _), fun ρ R vals hvs w hR hfr => ?_⟩
  obtain ⟨v0, vals, rfl, hx0, hvs⟩ := hvs.head
  obtain ⟨v1, vals, rfl, hx1, hvs⟩ := hvs.head
  obtain ⟨v2, vals, rfl, hx2, hvs⟩ := hvs.head
  obtain rfl : vals = [] := List.length_eq_zero_iff.1 hvs.1
  cases hx1
  obtain ⟨A, rfl⟩ : ∃ A, v0 = .slice A 0 0 := by
    rcases hxn with rfl | rfl <;> (cases hx0; exact ⟨_, rfl⟩)
  have hqf : ρ q = none := hfr q (.self q)
  have hGv : restr H (some [lv]) lv = some (.rows 1 [row]) := by rw [restr_at (by simp)]; exact hv
  obtain ⟨Lv, Ov, hLv, hOv, hrv⟩ := hR.own lv _ hGv
  cases Ov <;> (have hrv' := hrv; simp only [RepO] at hrv')
  rename_i cv Tv fzv
  obtain ⟨rfl, hvsz, hvrow, hvtop, hvcell⟩ := hrv'
  obtain ⟨hV, hVr⟩ := rowsL_of hrv (off := 0) (n := 1) (by simp)
  generalize ((List.range (1 * 1)).map fun k => cv.getD (Lv.off + 0 * 1 + k) undef) = vs at hV hVr
  have hVl : vs.length = 1 := by rw [hV.1]; simp
  rcases hx2.sl_inv with ⟨L2, vc, hL2, _, _, _, rfl⟩ | ⟨h0, _⟩
  rotate_left
  · cases h0
  rw [hLv] at hL2; cases hL2
  have hall : RowsL ρ R 1 [row] vs := by simpa using hV
  have hvread : ∀ k u, vs[k]? = some u → w.cell? ⟨Lv.blk, Lv.off + 0 * 1 + k, none⟩ = some u := fun k u hk => by rw [cell_at hOv]; exact hVr k u hk
  refine (ins_more 0 0 0 0 0 Lv.blk (Lv.off + 0 * 1) vc #[] cv 0 Tv [] vs w A [] (Nat.le_refl _) (Nat.le_refl _) (by decide) (by decide) (by decide) (.inl rfl) (by simp) (fun k u h => by simp at h) (by simp) (fun k u h => by simp at h) (by simp) hOv hVl hvread (hV.one (by decide))).mono ?_
  rintro e w' ⟨G, rest, w0, hG, hrest, hlk, rfl, rfl⟩
  have hsz0 : w0.heap.size = w.heap.size := by rw [hlk.heap]
  obtain ⟨hF, hRep⟩ := fut_new (W := Under q) (hlk.rep hR) hqf (Under.self q) (O := .cells (vs.toArray ++ rest) 3 (0, 0)) (L := ⟨w0.heap.size, 0, (vs.toArray ++ rest).size, 1⟩) rfl (repO_rows hall rest _ _)
  have e0 : ([] ++ vs ++ [] : List Value) = vs := by simp
  rw [e0]
  refine ⟨_, rfl, _, _, hlk.fut hF, ?_, hRep⟩
  have := RepV.sl (ρ := fun k => if k = q then some ⟨w0.heap.size, 0, (vs.toArray ++ rest).size, 1⟩ else ρ k) (R := R) q 1 0 1 G _ (if_pos rfl) hG (by
    simp only [Nat.zero_add, Array.size_append, List.size_toArray]
    rw [hVl, hrest]; omega) (by simp only [Nat.zero_add]; exact hG)
  rw [hsz0] at this
  simpa [hsz0] using this
theorem insert_nil {H : Heap} {q lv : Lab} {row : List AV} (hv : H lv = some (.rows 1 [row])) :
    SoundRes Try.prog 33 [.nils, .int .i64 0, .sl lv 1 0 1] H q ⟨.sl q 1 0 1, [(q, some (.rows 1 [row]))], some [lv]⟩ := insert_none (.inl rfl) hv
end
/-! slices.Delete, walked; its contract: own memory. -/
section
open Go.RowKit Go.Lib
theorem run_clear_fit {P : Program} {t ty E : TypeId} {z : Value} (hd : P.underlying t = some (.slice E)) (hzv : ∀ w, (zeroValue E).run P w = .ok z w) (b o k c : Nat) (w : World) (hk : 0 < k)
    (hone : ∀ v ∈ (Builtin.zeroCells z.cells k).toList, v.oneCell' = true) (cc : Array Value) (T' : TypeId) (hb : w.heap[b]? = some (.cells cc T' (0, 0))) (hfit : o + (Builtin.zeroCells z.cells k).size ≤ cc.size) :
    (Builtin.clear_ #[t] ty #[.slice (some ⟨b, o, none⟩) k c]).run P w = .ok (.tuple #[]) (w.setB b (.cells (putC cc o (Builtin.zeroCells z.cells k).toList) T' (0, 0))) := by
  have hs := run_storeCells (P := P) (Builtin.zeroCells z.cells k).toList w b o 0 cc T' hb hone (by simpa using hfit)
  simp only [Nat.add_zero] at hs
  obtain ⟨m, rfl⟩ : ∃ m, k = m + 1 := ⟨k - 1, by omega⟩
  simp [Builtin.clear_, run_underlying' hd, hzv, hs]
theorem step_append_runI {P : Program} {ops : Array Oper} {o : Oper} {a : Act} {w : World} {K : Act → World → Prop} {Q : Exit → Act → World → Prop} {E : Prop}
    (hg : o.guard = none) (d x : Operand) (dT sT : TypeId) (hop : o.op = Op.call { callee := Callee.builtin Builtin.append, args := #[d, x], argTypes := #[dT, sT] })
    (v u : Value) (hd : a.eval d = v) (hx : a.eval x = u) {v' : Value} {w' : World} (hr : (Builtin.append_ #[dT, sT] o.type #[v, u]).run P w = .ok v' w') (hK : K (a.put o.dst v') w') :
    if Region.wanted o (yielded ops a.tmps) = true then Oper.wp P o a w K Q else E := by
  have hw : Region.wanted o (yielded ops a.tmps) = true := by simp [Region.wanted, hg]
  rw [if_pos hw]
  unfold Oper.wp
  simp [execOp, hop, resolve, invoke, builtin, hd, hx, hr, Result.andThen]
  exact hK
theorem zero_one (k : Nat) : ∀ v ∈ (Builtin.zeroCells (Value.int .i64 0).cells k).toList, v.oneCell' = true := by
  intro v hv
  have hz : ∀ m, m < (Value.int .i64 0).cells.size → ((Value.int .i64 0).cells[m]!).oneCell' = true := by decide
  simp only [Builtin.zeroCells, Array.toList_map, List.mem_map] at hv
  obtain ⟨m, _, rfl⟩ := hv
  exact hz _ (Nat.mod_lt _ (by decide))
section
set_option maxHeartbeats 4000000
variable (b off n c i j : Nat) (cc : Array Value) (T : TypeId) (us : List Value) (w : World)
theorem del_walk (hi : i < j) (hj : j ≤ n) (hc : n ≤ c) (hn63 : n ≤ 4611686018427387904) (hb : w.heap[b]? = some (.cells cc T (0, 0))) (hfit : off + (c) ≤ cc.size)
    (hul : us.length = (n - j)) (hus : ∀ k u, us[k]? = some u → w.cell? ⟨b, off + (j) + k, none⟩ = some u) (h1u : ∀ v ∈ us, v.oneCell' = true) :
    Calls Try.prog 34 #[.slice (some ⟨b, off, none⟩) n c, .int .i64 i, .int .i64 j] w fun e w' =>
      e = .returned (.slice (some ⟨b, off, none⟩) (i + (n - j)) c) ∧ ∃ zs : List Value, zs.length = (j - i) ∧ w' = w.drew.setB b (.cells (putC (putC cc (off + (i)) us) (off + (i + (n - j))) zs) T (0, 0)) := by
  obtain ⟨I, hinfo, hz, hsz, hby⟩ := info_elz
  have hz2 : ¬ ((i : Int) = (j : Int)) := by omega
  obtain ⟨A, hA, hsrc⟩ : ∃ A : Addr, (if c = j then some (⟨b, off, none⟩ : Addr) else some ⟨b, off + (j), none⟩) = some A ∧ (∀ k u, us[k]? = some u → w.drew.cell? (A.add k) = some u) := by
    by_cases h : c = j
    · refine ⟨⟨b, off, none⟩, by simp [h], fun k u hu => ?_⟩
      have h0 : us = [] := List.length_eq_zero_iff.1 (by rw [hul]; omega)
      rw [h0] at hu; simp at hu
    · exact ⟨⟨b, off + (j), none⟩, by simp [h], fun k u hu => by rw [Addr.add_lit]; exact hus k u hu⟩
  obtain ⟨C1, hC1⟩ : ∃ C1, C1 = putC cc (off + (i)) us := ⟨_, rfl⟩
  have happ : ∀ ty cx, (Builtin.append_ #[22, 22] ty #[.slice (some ⟨b, off, none⟩) i c, .slice (some A) (n - j) cx]).run Try.prog w.drew = .ok (.slice (some ⟨b, off, none⟩) (i + (n - j)) c) (w.drew.setB b (.cells C1 T (0, 0))) := fun ty cx => by
    have := run_append_fit (ty := ty) (P := Try.prog) Try.underlying22 Try.underlying22 hinfo b off i (n - j) c cx A us (by omega) w.drew (by rw [hul, hsz]; try omega) hsrc h1u cc T hb (by rw [hsz, hul]; omega)
    rw [hsz] at this
    try simp only [Nat.mul_one] at this
    rw [hC1]; exact this
  obtain ⟨W1, hW1⟩ : ∃ W1, W1 = w.drew.setB b (.cells C1 T (0, 0)) := ⟨_, rfl⟩
  rw [← hW1] at happ
  have hs1 : C1.size = cc.size := by rw [hC1, putC_size]
  have hb1 : W1.heap[b]? = some (.cells C1 T (0, 0)) := by rw [hW1]; exact setB_at (w := w.drew) hb _
  have hzl : (Builtin.zeroCells (Value.int .i64 0).cells (j - i)).size = (j - i) := by simp [Builtin.zeroCells, Value.cells]
  have hcl : ∀ ty cx, (Builtin.clear_ #[22] ty #[.slice (some ⟨b, off + (i + (n - j)), none⟩) (n - (i + (n - j))) cx]).run Try.prog W1 = .ok (.tuple #[]) (W1.setB b (.cells (putC C1 (off + (i + (n - j))) (Builtin.zeroCells (Value.int .i64 0).cells (j - i)).toList) T (0, 0))) := fun ty cx => by
    have e : n - (i + (n - j)) = j - i := by omega
    rw [e]
    exact run_clear_fit Try.underlying22 (run_zero' hinfo hz) b _ (j - i) cx W1 (by omega) (zero_one _) C1 T hb1 (by rw [hzl, hs1]; omega)
  have hic : i ≤ c := by omega
  have hjc : j ≤ c := by omega
  have hin : i ≤ n := by omega
  have hjn : (j : Int) ≤ (n : Int) := by omega
  have hij : (i : Int) ≤ (j : Int) := by omega
  have hci : ¬ (c = i) := by omega
  have hcne : ¬ (c = i + (n - j)) := by omega
  have hcl2 : (off + (i + (n - j)) + (j - i)) ≤ cc.size := by omega
  have mixed : Try.prog.follows .mixedOrders = true := by kernel_rfl
  have hfin : ∀ O, W1.setB b O = w.drew.setB b O := fun O => by rw [hW1, setB_setB]
  rw [← hC1]
  clear hb1 hs1 hC1 hW1
  go_enter Try.func34, Try.ntmps34
  go_wp2_with fail
  go_region_law_o (refine step_append_runI rfl _ _ 22 22 rfl (.slice (some ⟨b, off, none⟩) i c) (.slice (some A) (n - j) (c - j)) (by simp [Act.eval, Act.put]) (by simp [Act.eval, Act.put]) (happ _ _) ?_)
  go_wp2
  go_ret
  refine ⟨rfl, (Builtin.zeroCells (Value.int .i64 0).cells (j - i)).toList, by simpa using hzl, ?_⟩
  first | exact hfin _ | rfl
theorem del_same (A : Option Addr) (hi : i ≤ n) (hc : n ≤ c) : Calls Try.prog 34 #[.slice A n c, .int .i64 i, .int .i64 i] w fun e w' => e = .returned (.slice A n c) ∧ w' = w := by
  have hin : (i : Int) ≤ (n : Int) := by omega
  have hic : i ≤ c := by omega
  have mixed : Try.prog.follows .mixedOrders = true := by kernel_rfl
  go_enter Try.func34, Try.ntmps34
  go_wp2
  all_goals (go_ret; exact ⟨rfl, rfl⟩)
end
theorem del_get (cc : Array Value) (o : Nat) (us0 us zs : List Value) (h0 : ∀ k u, us0[k]? = some u → cc[o + k]? = some u) (hfit : o + us0.length + us.length + zs.length ≤ cc.size) :
    ∀ k u, (us0 ++ us)[k]? = some u → (putC (putC cc (o + us0.length) us) (o + us0.length + us.length) zs)[o + k]? = some u := by
  intro k u hk
  rw [putC_get, putC_get, putC_size]
  have hlt := (List.getElem?_eq_some_iff.1 hk).1
  simp only [List.length_append] at hlt
  rw [if_neg (by omega)]
  by_cases h1 : k < us0.length
  · rw [if_neg (by omega)]
    rw [List.getElem?_append_left h1] at hk
    exact h0 k u hk
  · rw [if_pos (by omega), show o + k - (o + us0.length) = k - us0.length by omega]
    rw [List.getElem?_append_right (by omega)] at hk
    exact hk
theorem delete_callable : Callable Try.prog 34 := ⟨_, Try.func34, by kernel_rfl, by kernel_rfl⟩
theorem delete_sl {H : Heap} {q l : Lab} {off n i j : Nat} {rs : List (List AV)} (hl : H l = some (.rows 1 rs)) (hn : off + n ≤ rs.length) (hij : i ≤ j) (hj : j ≤ n) (h63 : n ≤ 4611686018427387904) :
    SoundRes Try.prog 34 [.sl l 1 off n, .int .i64 i, .int .i64 j] H q ⟨.sl q 1 0 (i + (n - j)), [(q, some (.rows 1 ((rs.drop off).take i ++ (rs.drop (off + j)).take (n - j)))), (l, none)], some [l]⟩ := by
  refine ⟨delete_callable, fun k hk => ?_, fun ρ R vals hvs w hR hfr => ?_⟩
  · obtain ⟨pr, hp, rfl⟩ := hk
    simp at hp
    rcases hp with rfl | rfl
    · exact .inr (.self _)
    · exact .inl (by simp [restr, hl])
  obtain ⟨v0, vals, rfl, hx0, hvs⟩ := hvs.head
  obtain ⟨v1, vals, rfl, hx1, hvs⟩ := hvs.head
  obtain ⟨v2, vals, rfl, hx2, hvs⟩ := hvs.head
  obtain rfl : vals = [] := List.length_eq_zero_iff.1 hvs.1
  cases hx1
  cases hx2
  have hqf : ρ q = none := hfr q (.self q)
  have hGl : restr H (some [l]) l = some (.rows 1 rs) := by rw [restr_at (by simp)]; exact hl
  obtain ⟨L, O, hL, hO, hr⟩ := hR.own l _ hGl
  cases O <;> (have hr' := hr; simp only [RepO] at hr')
  rename_i cc T fz
  obtain ⟨rfl, hsz, hrow, htop, hcell⟩ := hr'
  obtain ⟨h0, h0r⟩ := rowsL_of hr (off := off) (n := i) (by omega)
  obtain ⟨hU, hUr⟩ := rowsL_of hr (off := off + j) (n := n - j) (by omega)
  generalize ((List.range (i * 1)).map fun k => cc.getD (L.off + off * 1 + k) undef) = us0 at h0 h0r
  generalize ((List.range ((n - j) * 1)).map fun k => cc.getD (L.off + (off + j) * 1 + k) undef) = us at hU hUr
  have h0l : us0.length = (i) := by rw [h0.1, List.length_take, List.length_drop]; simp; omega
  have hUl : us.length = (n - j) := by rw [hU.1, List.length_take, List.length_drop]; simp; omega
  have hall : RowsL ρ R 1 ((rs.drop off).take i ++ (rs.drop (off + j)).take (n - j)) (us0 ++ us) := h0.append hU
  have hlen : ((rs.drop off).take i ++ (rs.drop (off + j)).take (n - j)).length = i + (n - j) := by simp; omega
  have huread : ∀ k u, us[k]? = some u → w.cell? ⟨L.blk, L.off + off * 1 + (j) + k, none⟩ = some u := fun k u hk => by
    rw [cell_at hO]
    have := hUr k u hk
    rw [Nat.add_mul] at this
    rw [← this]; congr 1; omega
  have htop1 : L.off + off * 1 + (n) ≤ L.top := by
    have : (off + n) * 1 ≤ rs.length * 1 := Nat.mul_le_mul_right _ hn
    have := htop.2
    rw [Nat.add_mul] at *
    omega
  -- what becomes of the block
  have fin : ∀ (w0 : World) (C : Array Value), Like w w0 → C.size = cc.size → (∀ k u, (us0 ++ us)[k]? = some u → C[L.off + off * 1 + k]? = some u) →
      ∃ ρ' R', Fut (restr H (some [l])) ρ R w (Under q) ρ' R' (w0.setB L.blk (.cells C T (0, 0))) ∧ ρ' q = some ⟨L.blk, L.off + off * 1, L.top, i + (n - j)⟩ ∧ Rep (upd [(q, some (.rows 1 ((rs.drop off).take i ++ (rs.drop (off + j)).take (n - j)))), (l, none)] (restr H (some [l]))) ρ' R' (w0.setB L.blk (.cells C T (0, 0))) := by
    intro w0 C hlk hCs hget
    have hnew : RepO ρ R ⟨L.blk, L.off + off * 1, L.top, i + (n - j)⟩ (.rows 1 ((rs.drop off).take i ++ (rs.drop (off + j)).take (n - j))) (.cells C T (0, 0)) := by
      refine ⟨rfl, by rw [hCs]; exact hsz, hall.2.1, ⟨hlen, ?_⟩, fun ii jj xx hxx => ?_⟩
      · rw [hlen]; simp only; omega
      · obtain ⟨v, hv, hvr⟩ := hall.2.2 ii jj xx hxx
        exact ⟨v, hget _ _ hv, hvr⟩
    have hO0 : w0.heap[L.blk]? = some (.cells cc T (0, 0)) := by rw [hlk.heap]; exact hO
    obtain ⟨hF, hRep⟩ := fut_move (W := Under q) (hlk.rep hR) hqf (Under.self q) hGl hL hO0 (L' := ⟨L.blk, L.off + off * 1, L.top, i + (n - j)⟩) rfl hnew
    exact ⟨_, _, hlk.fut hF, if_pos rfl, hRep⟩
  rcases Nat.lt_or_ge i j with hlt | hge
  · show callC Try.prog 34 #[v0, .int .i64 i, .int .i64 j] w _
    rcases hx0.sl_inv with ⟨L3, cap, hL3, hcap, ht, hext, rfl⟩ | ⟨rfl, _⟩
    · rw [hL] at hL3; cases hL3
      refine (del_walk L.blk (L.off + off * 1) n cap i j cc T us w hlt hj hcap h63 hO (by rw [hsz]; rw [Nat.add_mul] at ht; omega) hUl huread (hU.one (by decide))).mono ?_
      rintro e w' ⟨rfl, zs, hzs, rfl⟩
      have hroom : L.off + off * 1 + us0.length + us.length + zs.length ≤ cc.size := by rw [h0l, hUl, hzs, hsz]; omega
      have hget := del_get cc (L.off + off * 1) us0 us zs h0r hroom
      have e1 : L.off + off * 1 + us0.length = L.off + off * 1 + (i) := by rw [h0l]
      have e2 : L.off + off * 1 + (i) + us.length = L.off + off * 1 + (i + (n - j)) := by rw [hUl]; omega
      rw [e1, e2] at hget
      obtain ⟨ρ', R', hF, hq, hRep⟩ := fin w.drew _ .drew (by rw [putC_size, putC_size]) hget
      refine ⟨_, rfl, ρ', R', hF, ?_, hRep⟩
      have := RepV.sl (ρ := ρ') (R := R') q 1 0 (i + (n - j)) cap _ hq (by omega) (by simp only; rw [Nat.add_mul] at ht; omega) (by simp only [Nat.zero_add]; omega)
      simpa using this
    · omega
  · obtain rfl : i = j := by omega
    have e5 : i + (n - i) = n := by omega
    show callC Try.prog 34 #[v0, .int .i64 i, .int .i64 i] w _
    have hid : w.setB L.blk (.cells cc T (0, 0)) = w := setB_id hO
    have hget : ∀ k u, (us0 ++ us)[k]? = some u → cc[L.off + off * 1 + k]? = some u := fun k u hk => by
      by_cases h1 : k < us0.length
      · rw [List.getElem?_append_left h1] at hk; exact h0r k u hk
      · rw [List.getElem?_append_right (by omega)] at hk
        have := hUr _ _ hk
        rw [h0l] at this h1
        rw [Nat.add_mul] at this
        rw [← this]; congr 1; omega
    obtain ⟨ρ', R', hF, hq, hRep⟩ := fin w cc .rfl' rfl hget
    rw [hid] at hF hRep
    rw [e5] at hq ⊢
    rcases hx0.sl_inv with ⟨L3, cap, hL3, hcap, ht, hext, rfl⟩ | ⟨rfl, L3, ad, hL3, hext, rfl⟩
    · rw [hL] at hL3; cases hL3
      refine (del_same n cap i w _ hj hcap).mono ?_
      rintro e w' ⟨rfl, rfl⟩
      refine ⟨_, rfl, ρ', R', hF, ?_, hRep⟩
      have := RepV.sl (ρ := ρ') (R := R') q 1 0 n cap _ hq hcap (by simp only; rw [Nat.add_mul] at ht; omega) (by simp only [Nat.zero_add]; omega)
      simpa using this
    · refine (del_same 0 0 i w _ hj (Nat.le_refl _)).mono ?_
      rintro e w' ⟨rfl, rfl⟩
      exact ⟨_, rfl, ρ', R', hF, .slz q 1 0 ad _ hq (Nat.le_refl _), hRep⟩
end
/-! slices.Insert and slices.Delete, as calls that are run by their contracts. -/
section
def insF (xs : List AV) (H : Heap) (q : Lab) : Option Res := match xs with
  | [.nils, .int .i64 0, .sl lv 1 0 1] => match H lv with
    | some (.rows 1 [row]) => some ⟨.sl q 1 0 1, [(q, some (.rows 1 [row]))], some [lv]⟩
    | _ => none
  | [.sl l 1 off n, .int .i64 k, .sl lv 1 0 1] => match H l, H lv with
    | some (.rows 1 rs), some (.rows 1 [row]) => if off + n ≤ rs.length ∧ l ≠ lv ∧ 0 ≤ k ∧ k.toNat ≤ n ∧ (n + 1) * 8 ≤ 140737488355328 then some ⟨.sl q 1 0 (n + 1), [(q, some (.rows 1 ((rs.drop off).take k.toNat ++ [row] ++ (rs.drop (off + k.toNat)).take (n - k.toNat)))), (l, none)], some [l, lv]⟩ else none
    | _, _ => none
  | _ => none
def delF (xs : List AV) (H : Heap) (q : Lab) : Option Res := match xs with
  | [.sl l 1 off n, .int .i64 a, .int .i64 b] => match H l with
    | some (.rows 1 rs) => if off + n ≤ rs.length ∧ 0 ≤ a ∧ a ≤ b ∧ b ≤ (n : Int) ∧ n ≤ 4611686018427387904 then some ⟨.sl q 1 0 (a.toNat + (n - b.toNat)), [(q, some (.rows 1 ((rs.drop off).take a.toNat ++ (rs.drop (off + b.toNat)).take (n - b.toNat)))), (l, none)], some [l]⟩ else none
    | _ => none
  | _ => none
def extI : CallF := fun f xs H q => if f = 33 then insF xs H q else if f = 34 then delF xs H q else none
theorem extI_ok : CallOk Try.prog extI := callOk_of fun f xs H q r h => by
  unfold extI at h
  split at h
  · rename_i hf; subst hf
    unfold insF at h
    split at h
    · split at h
      · cases h; exact insert_nil (by assumption)
      · cases h
    · split at h
      · split at h
        · rename_i hl hv hc
          obtain ⟨h1, h2, h3, h4, h5⟩ := hc
          cases h
          have := insert_sl (q := q) hl h1 hv h2 h4 h5 (by omega)
          rw [Int.toNat_of_nonneg h3] at this
          exact this
        · cases h
      · cases h
    · cases h
  · split at h
    · rename_i hf; subst hf
      unfold delF at h
      split at h
      · split at h
        · split at h
          · rename_i hl hc
            obtain ⟨h1, h2, h3, h4, h5⟩ := hc
            cases h
            have := delete_sl (q := q) (i := Int.toNat _) (j := Int.toNat _) hl h1 (Int.toNat_le_toNat h3) (by omega) h5
            rw [Int.toNat_of_nonneg h2, Int.toNat_of_nonneg (by omega)] at this
            exact this
          · cases h
        · cases h
      · cases h
    · cases h
end
/-! slices.Clone at nothing: no capacity is left. -/
section
open Go.RowKit Go.Lib
section
set_option maxHeartbeats 4000000
theorem clone_walk (A : Option Addr) (c : Nat) (w : World) : Calls Try.prog 25 #[.slice A 0 c] w fun e w' => ∃ B, e = .returned (.slice B 0 0) ∧ (w' = w ∨ w' = w.alloc (.cells #[] 3 (0, 0))) := by
  have mixed : Try.prog.follows .mixedOrders = true := by kernel_rfl
  obtain ⟨I, hinfo, hz, hsz, hby⟩ := info_elz
  have he : ∀ (B : Option Addr) w, (binOp .eql 22 (.slice B 0 c) (.slice none 0 0)).run Try.prog w = .ok (.bool B.isNone) w := fun B w => Lib.run_eql_slice_nil w 22 3 B 0 c 0 0 Try.underlying22
  cases A with
  | none =>
    have he' := he none
    simp only [Option.isNone_none] at he'
    clear he
    go_enter Try.func25, Try.ntmps25
    go_wp2
    go_ret
    exact ⟨_, rfl, .inl rfl⟩
  | some ad =>
    have he' := he (some ad)
    simp only [Option.isNone_some] at he'
    clear he
    go_enter Try.func25, Try.ntmps25
    go_wp2
    go_ret
    exact ⟨_, rfl, .inr rfl⟩
end
theorem clone_callable : Callable Try.prog 25 := ⟨_, Try.func25, by kernel_rfl, by kernel_rfl⟩
theorem clone_empty {H : Heap} {q : Lab} {x : AV} (hx0 : x = .isl 1 [] ∨ x = .nils ∨ x = .sl0) : SoundRes Try.prog 25 [x] H q ⟨.sl0, [], some []⟩ := by
  refine ⟨clone_callable, fun l hl => absurd hl (not_has_nil l), fun ρ R vals hvs w hR hfr => ?_⟩
  obtain ⟨v0, vals, rfl, hx, hvs⟩ := hvs.head
  obtain rfl : vals = [] := List.length_eq_zero_iff.1 hvs.1
  obtain ⟨A, c, rfl⟩ : ∃ A c, v0 = .slice A 0 c := by
    rcases hx0 with rfl | rfl | rfl
    · rcases hx.isl_inv with ⟨b, o, cap, cc, T, fz, g, _, _, _, _, _, rfl⟩ | ⟨_, ad, cap, _, rfl⟩
      · exact ⟨_, _, rfl⟩
      · exact ⟨_, _, rfl⟩
    · cases hx; exact ⟨_, _, rfl⟩
    · cases hx; exact ⟨_, _, rfl⟩
  refine (clone_walk A c w).mono ?_
  rintro e w' ⟨B, rfl, rfl | rfl⟩
  · exact ⟨_, rfl, ρ, R, Fut.refl _ _ _ _ _, .sl0 _, hR⟩
  · have hqf : ρ q = none := hfr q (.self q)
    have hO : RepO ρ R ⟨w.heap.size, 0, 0, 0⟩ (.rows 1 []) (.cells #[] 3 (0, 0)) := ⟨rfl, rfl, by simp, ⟨rfl, by simp⟩, fun i j x hx => by simp [rowsGet] at hx⟩
    obtain ⟨hF, hRep⟩ := fut_new (W := Under q) hR hqf (Under.self q) (O := .cells #[] 3 (0, 0)) (o := .rows 1 []) (L := ⟨w.heap.size, 0, 0, 0⟩) rfl hO
    exact ⟨_, rfl, _, R, hF, .sl0 _, hRep.drop (fun l o h => by simp [restr, upd] at h)⟩
end
end Go.Proofs.Ytbngfbpegdcpkaa
