/- What is owed of functions of the program, as formulas. -/
import Derived.Test.YtbngfbpegdcpkaaA26
import Derived.Test.YtbngfbpegdcpkaaProg
import Derived.KernelRfl
namespace Go.Proofs.Ytbngfbpegdcpkaa
set_option maxRecDepth 100000
set_option linter.unusedVariables false
set_option linter.unusedSimpArgs false
/-- duet/edit.ways$1 -/
def c41 : AFun := ⟨1, 6, [.cell 2 2 true],
  (.seq (.region [⟨(some 2), none, (.alloc [(.int .i64 0), (.int .i64 0)]), []⟩] none [0, 2])
  (.seq (.region [⟨(some 3), none, .move, [.t 0]⟩, ⟨(some 4), none, (.conv .i64), [.t 3]⟩, ⟨(some 5), none, (.build [(.int .i64 0), (.int .i64 0)] [(0, 1), (1, 1)]), [.c (.int .i64 2), .t 4]⟩, ⟨none, none, (.store 2), [.t 2, .t 5]⟩] none [2])
  .ret))⟩
theorem ok41 : FunOk Try.prog 41 c41 := ⟨⟨Try.f41, _, Try.func41, rfl, by kernel_rfl, by kernel_rfl, by kernel_rfl, by kernel_rfl⟩, by decide⟩
theorem res41 : c41.res = [.cell 2 2 true] := rfl
def k41_0 (P : Program) (p : Lab) (Q : VPost) (c : Nat) (v4_2 : AV) (H2 : Heap) (l2 : List Lab) (f2 : Option (List Lab)) : Prop :=
  vBuild [(.int .i64 0), (.int .i64 0)] [(0, 1), (1, 1)] [(.int .i64 2), v4_2] fun v5_3 =>
  vGen (.store 2) [(.ptr (c :: p) 2 0 0), v5_3] H2 ((c + 4) :: p) (fun v_4 H4 l4 f4 =>
  Q .ret [(2, (.ptr (c :: p) 2 0 0))] H4 (c + 5))
def V41 (P : Program) (p : Lab) (Q : VPost) (x0 : AV) (H : Heap) (c : Nat) : Prop :=
  (fun (H0 : Heap) =>
  vGen (.conv .i64) [x0] H0 ((c + 2) :: p) (k41_0 P p Q c)) (upd [((c :: p), some (.rows 2 [[(.int .i64 0), (.int .i64 0)]]))] H)
theorem vt41 (P : Program) (p : Lab) (Q : VPost) (x0 : AV) (H : Heap) (c : Nat) : vc P p c41.body Q [(0, x0)] H c = V41 P p Q x0 H c := by kernel_rfl


/-- duet/edit.ways$2 -/
def c42 : AFun := ⟨1, 6, [.cell 2 2 true],
  (.seq (.region [⟨(some 2), none, (.alloc [(.int .i64 0), (.int .i64 0)]), []⟩] none [0, 2])
  (.seq (.region [⟨(some 3), none, .move, [.t 0]⟩, ⟨(some 4), none, (.conv .i64), [.t 3]⟩, ⟨(some 5), none, (.build [(.int .i64 0), (.int .i64 0)] [(0, 1), (1, 1)]), [.c (.int .i64 3), .t 4]⟩, ⟨none, none, (.store 2), [.t 2, .t 5]⟩] none [2])
  .ret))⟩
theorem ok42 : FunOk Try.prog 42 c42 := ⟨⟨Try.f42, _, Try.func42, rfl, by kernel_rfl, by kernel_rfl, by kernel_rfl, by kernel_rfl⟩, by decide⟩
theorem res42 : c42.res = [.cell 2 2 true] := rfl
def k42_0 (P : Program) (p : Lab) (Q : VPost) (c : Nat) (v4_2 : AV) (H2 : Heap) (l2 : List Lab) (f2 : Option (List Lab)) : Prop :=
  vBuild [(.int .i64 0), (.int .i64 0)] [(0, 1), (1, 1)] [(.int .i64 3), v4_2] fun v5_3 =>
  vGen (.store 2) [(.ptr (c :: p) 2 0 0), v5_3] H2 ((c + 4) :: p) (fun v_4 H4 l4 f4 =>
  Q .ret [(2, (.ptr (c :: p) 2 0 0))] H4 (c + 5))
def V42 (P : Program) (p : Lab) (Q : VPost) (x0 : AV) (H : Heap) (c : Nat) : Prop :=
  (fun (H0 : Heap) =>
  vGen (.conv .i64) [x0] H0 ((c + 2) :: p) (k42_0 P p Q c)) (upd [((c :: p), some (.rows 2 [[(.int .i64 0), (.int .i64 0)]]))] H)
theorem vt42 (P : Program) (p : Lab) (Q : VPost) (x0 : AV) (H : Heap) (c : Nat) : vc P p c42.body Q [(0, x0)] H c = V42 P p Q x0 H c := by kernel_rfl


/-- duet/edit.held -/
def c26 : AFun := ⟨2, 10, [.tmp 4],
  (.seq (.region [⟨(some 4), none, .move, [.c (.int .i64 0)]⟩] none [0, 1])
  (.seq (.region [⟨(some 5), none, .move, [.t 1]⟩, ⟨(some 6), none, .max, [.t 5, .c (.int .i64 0)]⟩, ⟨(some 7), none, .move, [.t 0]⟩, ⟨(some 8), none, (.len .slice), [.t 7]⟩, ⟨(some 9), none, .min, [.t 6, .t 8]⟩, ⟨(some 4), none, .move, [.t 9]⟩] none [4])
  .ret))⟩
theorem ok26 : FunOk Try.prog 26 c26 := ⟨⟨Try.f26, _, Try.func26, rfl, by kernel_rfl, by kernel_rfl, by kernel_rfl, by kernel_rfl⟩, by decide⟩
theorem res26 : c26.res = [.tmp 4] := rfl
def V26 (P : Program) (p : Lab) (Q : VPost) (x0 x1 : AV) (H : Heap) (c : Nat) : Prop :=
  vMax x1 (.int .i64 0) fun v6_2 =>
  vLen x0 fun v8_4 =>
  vMin v6_2 v8_4 fun v9_5 =>
  Q .ret [(4, v9_5)] H (c + 7)
theorem vt26 (P : Program) (p : Lab) (Q : VPost) (x0 x1 : AV) (H : Heap) (c : Nat) : vc P p c26.body Q [(0, x0), (1, x1)] H c = V26 P p Q x0 x1 H c := by kernel_rfl


/-- duet/edit.isLetter -/
def c38 : AFun := ⟨1, 27, [.tmp 2],
  (.seq (.region [⟨(some 2), none, .move, [.c (.bool false)]⟩] none [0])
  (.seq (.region [⟨(some 3), none, .move, [.t 0]⟩, ⟨(some 4), none, (.bin .geq .num), [.t 3, .c (.int .i64 48)]⟩, ⟨(some 5), none, .move, [.t 4]⟩, ⟨(some 6), (some (5, true)), .move, [.t 0]⟩, ⟨(some 7), (some (5, true)), (.bin .leq .num), [.t 6, .c (.int .i64 57)]⟩, ⟨(some 8), none, .pick, [.t 5, .t 7, .c (.bool false)]⟩, ⟨(some 9), none, .move, [.t 8]⟩, ⟨(some 10), (some (9, false)), .move, [.t 0]⟩, ⟨(some 11), (some (9, false)), (.bin .or .num), [.t 10, .c (.int .i64 32)]⟩, ⟨(some 12), (some (9, false)), (.bin .geq .num), [.t 11, .c (.int .i64 97)]⟩, ⟨(some 13), (some (9, false)), .move, [.t 12]⟩, ⟨(some 14), (some (13, true)), .move, [.t 0]⟩, ⟨(some 15), (some (13, true)), (.bin .or .num), [.t 14, .c (.int .i64 32)]⟩, ⟨(some 16), (some (13, true)), (.bin .leq .num), [.t 15, .c (.int .i64 122)]⟩, ⟨(some 17), (some (9, false)), .pick, [.t 13, .t 16, .c (.bool false)]⟩, ⟨(some 18), none, .pick, [.t 9, .c (.bool true), .t 17]⟩, ⟨(some 19), none, .move, [.t 18]⟩, ⟨(some 20), (some (19, false)), .move, [.t 0]⟩, ⟨(some 21), (some (19, false)), (.bin .eql .num), [.t 20, .c (.int .i64 95)]⟩, ⟨(some 22), none, .pick, [.t 19, .c (.bool true), .t 21]⟩, ⟨(some 23), none, .move, [.t 22]⟩, ⟨(some 24), (some (23, false)), .move, [.t 0]⟩, ⟨(some 25), (some (23, false)), (.bin .gtr .num), [.t 24, .c (.int .i64 127)]⟩, ⟨(some 26), none, .pick, [.t 23, .c (.bool true), .t 25]⟩, ⟨(some 2), none, .move, [.t 26]⟩] none [2])
  .ret))⟩
theorem ok38 : FunOk Try.prog 38 c38 := ⟨⟨Try.f38, _, Try.func38, rfl, by kernel_rfl, by kernel_rfl, by kernel_rfl, by kernel_rfl⟩, by decide⟩
theorem res38 : c38.res = [.tmp 2] := rfl
def k38_3 (P : Program) (p : Lab) (Q : VPost)  (H : Heap) (c : Nat) : Prop :=
  Q .ret [(2, (.bool true))] H c
def k38_2 (P : Program) (p : Lab) (Q : VPost) (y0 : AV) (H : Heap) (c : Nat) : Prop :=
  (k38_3 P p Q  H (c + 6))
def k38_1 (P : Program) (p : Lab) (Q : VPost) (y0 : AV) (H : Heap) (c : Nat) : Prop :=
  (k38_2 P p Q y0 H (c + 4))
def k38_4 (P : Program) (p : Lab) (Q : VPost) (y0 : AV) (H : Heap) (c : Nat) (_ : Unit) : Prop :=
  (k38_1 P p Q y0 H (c + 10))
def k38_6 (P : Program) (p : Lab) (Q : VPost) (y0 : AV) (H : Heap) (c : Nat) : Prop :=
  (k38_3 P p Q  H (c + 6))
def k38_7 (P : Program) (p : Lab) (Q : VPost) (y0 : AV) (H : Heap) (c : Nat) (_ : Unit) : Prop :=
  (k38_6 P p Q y0 H (c + 4))
def k38_9 (P : Program) (p : Lab) (Q : VPost) (H : Heap) (c : Nat) (_ : Unit) : Prop :=
  (k38_3 P p Q  H (c + 6))
def k38_10 (P : Program) (p : Lab) (Q : VPost) (y2 : AV) (H : Heap) (c : Nat) : Prop :=
  Q .ret [(2, y2)] H c
def k38_11 (P : Program) (p : Lab) (Q : VPost) (y0 : AV) (H : Heap) (c : Nat) (_ : Unit) : Prop :=
  vBin .gtr .num y0 (.int .i64 127) fun v25_35 =>
  (k38_10 P p Q v25_35 H (c + 6))
def k38_8 (P : Program) (p : Lab) (Q : VPost) (y0 : AV) (y21 : AV) (H : Heap) (c : Nat) : Prop :=
  vSel y21
  (k38_9 P p Q H c)
  (k38_11 P p Q y0 H c)
def k38_12 (P : Program) (p : Lab) (Q : VPost) (y0 : AV) (H : Heap) (c : Nat) (_ : Unit) : Prop :=
  vBin .eql .num y0 (.int .i64 95) fun v21_29 =>
  (k38_8 P p Q y0 v21_29 H (c + 4))
def k38_5 (P : Program) (p : Lab) (Q : VPost) (y0 : AV) (y17 : AV) (H : Heap) (c : Nat) : Prop :=
  vSel y17
  (k38_7 P p Q y0 H c)
  (k38_12 P p Q y0 H c)
def k38_13 (P : Program) (p : Lab) (Q : VPost) (y0 : AV) (H : Heap) (c : Nat) (_ : Unit) : Prop :=
  vBin .or .num y0 (.int .i64 32) fun v15_19 =>
  vBin .leq .num v15_19 (.int .i64 122) fun v16_20 =>
  (k38_5 P p Q y0 v16_20 H (c + 10))
def k38_16 (P : Program) (p : Lab) (Q : VPost) (H : Heap) (c : Nat) (_ : Unit) : Prop :=
  (k38_3 P p Q  H (c + 6))
def k38_17 (P : Program) (p : Lab) (Q : VPost) (y0 : AV) (H : Heap) (c : Nat) (_ : Unit) : Prop :=
  vBin .gtr .num y0 (.int .i64 127) fun v25_48 =>
  (k38_10 P p Q v25_48 H (c + 6))
def k38_15 (P : Program) (p : Lab) (Q : VPost) (y0 : AV) (y21 : AV) (H : Heap) (c : Nat) : Prop :=
  vSel y21
  (k38_16 P p Q H c)
  (k38_17 P p Q y0 H c)
def k38_14 (P : Program) (p : Lab) (Q : VPost) (y0 : AV) (H : Heap) (c : Nat) : Prop :=
  vBin .eql .num y0 (.int .i64 95) fun v21_42 =>
  (k38_15 P p Q y0 v21_42 H (c + 4))
def k38_18 (P : Program) (p : Lab) (Q : VPost) (y0 : AV) (H : Heap) (c : Nat) (_ : Unit) : Prop :=
  (k38_14 P p Q y0 H (c + 10))
def k38_19 (P : Program) (p : Lab) (Q : VPost) (y0 : AV) (H : Heap) (c : Nat) (_ : Unit) : Prop :=
  vBin .or .num y0 (.int .i64 32) fun v11_15 =>
  vBin .geq .num v11_15 (.int .i64 97) fun v12_16 =>
  vSel v12_16
  (k38_13 P p Q y0 H c)
  (k38_18 P p Q y0 H c)
def k38_0 (P : Program) (p : Lab) (Q : VPost) (y0 : AV) (y7 : AV) (H : Heap) (c : Nat) : Prop :=
  vSel y7
  (k38_4 P p Q y0 H c)
  (k38_19 P p Q y0 H c)
def k38_20 (P : Program) (p : Lab) (Q : VPost) (x0 : AV) (H : Heap) (c : Nat) (_ : Unit) : Prop :=
  vBin .leq .num x0 (.int .i64 57) fun v7_5 =>
  (k38_0 P p Q x0 v7_5 H (c + 6))
def k38_23 (P : Program) (p : Lab) (Q : VPost) (y0 : AV) (H : Heap) (c : Nat) : Prop :=
  (k38_3 P p Q  H (c + 6))
def k38_24 (P : Program) (p : Lab) (Q : VPost) (y0 : AV) (H : Heap) (c : Nat) (_ : Unit) : Prop :=
  (k38_23 P p Q y0 H (c + 4))
def k38_26 (P : Program) (p : Lab) (Q : VPost) (H : Heap) (c : Nat) (_ : Unit) : Prop :=
  (k38_3 P p Q  H (c + 6))
def k38_27 (P : Program) (p : Lab) (Q : VPost) (y0 : AV) (H : Heap) (c : Nat) (_ : Unit) : Prop :=
  vBin .gtr .num y0 (.int .i64 127) fun v25_74 =>
  (k38_10 P p Q v25_74 H (c + 6))
def k38_25 (P : Program) (p : Lab) (Q : VPost) (y0 : AV) (y21 : AV) (H : Heap) (c : Nat) : Prop :=
  vSel y21
  (k38_26 P p Q H c)
  (k38_27 P p Q y0 H c)
def k38_28 (P : Program) (p : Lab) (Q : VPost) (y0 : AV) (H : Heap) (c : Nat) (_ : Unit) : Prop :=
  vBin .eql .num y0 (.int .i64 95) fun v21_68 =>
  (k38_25 P p Q y0 v21_68 H (c + 4))
def k38_22 (P : Program) (p : Lab) (Q : VPost) (y0 : AV) (y17 : AV) (H : Heap) (c : Nat) : Prop :=
  vSel y17
  (k38_24 P p Q y0 H c)
  (k38_28 P p Q y0 H c)
def k38_29 (P : Program) (p : Lab) (Q : VPost) (y0 : AV) (H : Heap) (c : Nat) (_ : Unit) : Prop :=
  vBin .or .num y0 (.int .i64 32) fun v15_58 =>
  vBin .leq .num v15_58 (.int .i64 122) fun v16_59 =>
  (k38_22 P p Q y0 v16_59 H (c + 10))
def k38_32 (P : Program) (p : Lab) (Q : VPost) (H : Heap) (c : Nat) (_ : Unit) : Prop :=
  (k38_3 P p Q  H (c + 6))
def k38_33 (P : Program) (p : Lab) (Q : VPost) (y0 : AV) (H : Heap) (c : Nat) (_ : Unit) : Prop :=
  vBin .gtr .num y0 (.int .i64 127) fun v25_87 =>
  (k38_10 P p Q v25_87 H (c + 6))
def k38_31 (P : Program) (p : Lab) (Q : VPost) (y0 : AV) (y21 : AV) (H : Heap) (c : Nat) : Prop :=
  vSel y21
  (k38_32 P p Q H c)
  (k38_33 P p Q y0 H c)
def k38_30 (P : Program) (p : Lab) (Q : VPost) (y0 : AV) (H : Heap) (c : Nat) : Prop :=
  vBin .eql .num y0 (.int .i64 95) fun v21_81 =>
  (k38_31 P p Q y0 v21_81 H (c + 4))
def k38_34 (P : Program) (p : Lab) (Q : VPost) (y0 : AV) (H : Heap) (c : Nat) (_ : Unit) : Prop :=
  (k38_30 P p Q y0 H (c + 10))
def k38_21 (P : Program) (p : Lab) (Q : VPost) (y0 : AV) (H : Heap) (c : Nat) : Prop :=
  vBin .or .num y0 (.int .i64 32) fun v11_54 =>
  vBin .geq .num v11_54 (.int .i64 97) fun v12_55 =>
  vSel v12_55
  (k38_29 P p Q y0 H c)
  (k38_34 P p Q y0 H c)
def k38_35 (P : Program) (p : Lab) (Q : VPost) (x0 : AV) (H : Heap) (c : Nat) (_ : Unit) : Prop :=
  (k38_21 P p Q x0 H (c + 6))
def V38 (P : Program) (p : Lab) (Q : VPost) (x0 : AV) (H : Heap) (c : Nat) : Prop :=
  vBin .geq .num x0 (.int .i64 48) fun v4_2 =>
  vSel v4_2
  (k38_20 P p Q x0 H c)
  (k38_35 P p Q x0 H c)
theorem vt38 (P : Program) (p : Lab) (Q : VPost) (x0 : AV) (H : Heap) (c : Nat) : vc P p c38.body Q [(0, x0)] H c = V38 P p Q x0 H c := by kernel_rfl


/-- duet/edit.Word$1 -/
def c37 : AFun := ⟨2, 8, [.tmp 3],
  (.seq (.region [⟨(some 3), none, .move, [.c (.bool false)]⟩] none [0, 1])
  (.seq (.region [⟨(some 4), none, .move, [.t 0]⟩, ⟨(some 5), none, .call, [.c (.fn (.func 38) [] []), .t 4]⟩, ⟨(some 6), none, (.load 1 false), [.t 1]⟩, ⟨(some 7), none, (.bin .neq .bool), [.t 5, .t 6]⟩, ⟨(some 3), none, .move, [.t 7]⟩] (some [0, 1, 0, 7, 15]) [3])
  .ret))⟩
theorem ok37 : FunOk Try.prog 37 c37 := ⟨⟨Try.f37, _, Try.func37, rfl, by kernel_rfl, by kernel_rfl, by kernel_rfl, by kernel_rfl⟩, by decide⟩
theorem res37 : c37.res = [.tmp 3] := rfl
def k37_0 (P : Program) (p : Lab) (Q : VPost) (x1 : AV) (c : Nat) (v5_2 : AV) (H2 : Heap) (l2 : List Lab) (f2 : Option (List Lab)) : Prop :=
  vLoad 1 false x1 H2 fun v6_3 f3 =>
  vBin .neq .bool v5_2 v6_3 fun v7_4 =>
  clashFree [0, 1, 0, 7, 15] (addTr 1 l2 ((c + 2) :: p) f2 (addTr 2 [] ((c + 3) :: p) f3 [])) ∧
  Q .ret [(3, v7_4)] H2 (c + 6)
def V37 (P : Program) (p : Lab) (Q : VPost) (x0 x1 : AV) (H : Heap) (c : Nat) : Prop :=
  vCall false P 38 [x0] H ((c + 2) :: p) (k37_0 P p Q x1 c)
theorem vt37 (P : Program) (p : Lab) (Q : VPost) (x0 x1 : AV) (H : Heap) (c : Nat) : vc P p c37.body Q [(0, x0), (1, x1)] H c = V37 P p Q x0 x1 H c := by kernel_rfl


/-- duet/mesg.Rune -/
def c40 : AFun := ⟨1, 22, [.tmp 2],
  (.seq (.region [⟨(some 2), none, .move, [.c (.bool false)]⟩] none [0])
  (.seq (.block 0 (.seq (.seq (.region [⟨(some 4), none, .move, [.t 0]⟩, ⟨(some 5), none, (.bin .lss .num), [.t 4, .c (.int .i64 32)]⟩, ⟨(some 6), none, .move, [.t 5]⟩, ⟨(some 7), (some (6, false)), .move, [.t 0]⟩, ⟨(some 8), (some (6, false)), (.bin .gtr .num), [.t 7, .c (.int .i64 1114111)]⟩, ⟨(some 9), none, .pick, [.t 6, .c (.bool true), .t 8]⟩, ⟨(some 3), none, .move, [.t 9]⟩] none [0, 3])
  (.cond (.t 3) .skip
  (.seq (.region [⟨(some 10), none, .move, [.t 0]⟩, ⟨(some 11), none, (.bin .geq .num), [.t 10, .c (.int .i64 127)]⟩, ⟨(some 12), none, .move, [.t 11]⟩, ⟨(some 13), (some (12, true)), .move, [.t 0]⟩, ⟨(some 14), (some (12, true)), (.bin .leq .num), [.t 13, .c (.int .i64 159)]⟩, ⟨(some 15), none, .pick, [.t 12, .t 14, .c (.bool false)]⟩, ⟨(some 3), none, .move, [.t 15]⟩] none [0, 3])
  (.cond (.t 3) .skip
  (.region [⟨(some 16), none, .move, [.t 0]⟩, ⟨(some 17), none, (.bin .geq .num), [.t 16, .c (.int .i64 55296)]⟩, ⟨(some 18), none, .move, [.t 17]⟩, ⟨(some 19), (some (18, true)), .move, [.t 0]⟩, ⟨(some 20), (some (18, true)), (.bin .leq .num), [.t 19, .c (.int .i64 57343)]⟩, ⟨(some 21), none, .pick, [.t 18, .t 20, .c (.bool false)]⟩, ⟨(some 3), none, .move, [.t 21]⟩] none [3])))))
  (.cond (.t 3) (.seq (.region [⟨(some 2), none, .move, [.c (.bool false)]⟩] none [2])
  .ret)
  .skip)))
  (.seq (.region [⟨(some 2), none, .move, [.c (.bool true)]⟩] none [2])
  .ret)))⟩
theorem ok40 : FunOk Try.prog 40 c40 := ⟨⟨Try.f40, _, Try.func40, rfl, by kernel_rfl, by kernel_rfl, by kernel_rfl, by kernel_rfl⟩, by decide⟩
theorem res40 : c40.res = [.tmp 2] := rfl
def k40_0 (P : Program) (p : Lab) (Q : VPost) (y0 : AV) (H : Heap) (c : Nat) : Prop :=
  Q .ret [(2, (.bool false))] H (c + 1)
def k40_1 (P : Program) (p : Lab) (Q : VPost) (x0 : AV) (H : Heap) (c : Nat) (_ : Unit) : Prop :=
  (k40_0 P p Q x0 H (c + 8))
def k40_4 (P : Program) (p : Lab) (Q : VPost)  (H : Heap) (c : Nat) : Prop :=
  Q .ret [(2, (.bool false))] H c
def k40_5 (P : Program) (p : Lab) (Q : VPost) (H : Heap) (c : Nat) (_ : Unit) : Prop :=
  (k40_4 P p Q  H (c + 1))
def k40_6 (P : Program) (p : Lab) (Q : VPost) (y0 : AV) (y3 : AV) (H : Heap) (c : Nat) : Prop :=
  Q .ret [(2, (.bool true))] H (c + 1)
def k40_7 (P : Program) (p : Lab) (Q : VPost) (y0 : AV) (y3 : AV) (H : Heap) (c : Nat) (_ : Unit) : Prop :=
  (k40_6 P p Q y0 y3 H c)
def k40_3 (P : Program) (p : Lab) (Q : VPost) (y0 : AV) (y3 : AV) (H : Heap) (c : Nat) : Prop :=
  vSel y3
  (k40_5 P p Q H c)
  (k40_7 P p Q y0 y3 H c)
def k40_8 (P : Program) (p : Lab) (Q : VPost) (y0 : AV) (y3 : AV) (H : Heap) (c : Nat) (_ : Unit) : Prop :=
  (k40_3 P p Q y0 y3 H c)
def k40_11 (P : Program) (p : Lab) (Q : VPost) (y0 : AV) (y3 : AV) (H : Heap) (c : Nat) (_ : Unit) : Prop :=
  (k40_3 P p Q y0 y3 H c)
def k40_14 (P : Program) (p : Lab) (Q : VPost) (H : Heap) (c : Nat) (_ : Unit) : Prop :=
  (k40_4 P p Q  H (c + 1))
def k40_15 (P : Program) (p : Lab) (Q : VPost) (y3 : AV) (H : Heap) (c : Nat) : Prop :=
  Q .ret [(2, (.bool true))] H (c + 1)
def k40_16 (P : Program) (p : Lab) (Q : VPost) (y3 : AV) (H : Heap) (c : Nat) (_ : Unit) : Prop :=
  (k40_15 P p Q y3 H c)
def k40_13 (P : Program) (p : Lab) (Q : VPost) (y3 : AV) (H : Heap) (c : Nat) : Prop :=
  vSel y3
  (k40_14 P p Q H c)
  (k40_16 P p Q y3 H c)
def k40_17 (P : Program) (p : Lab) (Q : VPost) (y0 : AV) (H : Heap) (c : Nat) (_ : Unit) : Prop :=
  vBin .leq .num y0 (.int .i64 57343) fun v20_24 =>
  (k40_13 P p Q v20_24 H (c + 7))
def k40_18 (P : Program) (p : Lab) (Q : VPost)  (H : Heap) (c : Nat) : Prop :=
  Q .ret [(2, (.bool true))] H (c + 1)
def k40_19 (P : Program) (p : Lab) (Q : VPost) (H : Heap) (c : Nat) (_ : Unit) : Prop :=
  (k40_18 P p Q  H (c + 7))
def k40_12 (P : Program) (p : Lab) (Q : VPost) (y0 : AV) (y3 : AV) (H : Heap) (c : Nat) : Prop :=
  vBin .geq .num y0 (.int .i64 55296) fun v17_21 =>
  vSel v17_21
  (k40_17 P p Q y0 H c)
  (k40_19 P p Q H c)
def k40_20 (P : Program) (p : Lab) (Q : VPost) (y0 : AV) (y3 : AV) (H : Heap) (c : Nat) (_ : Unit) : Prop :=
  (k40_12 P p Q y0 y3 H c)
def k40_10 (P : Program) (p : Lab) (Q : VPost) (y0 : AV) (y3 : AV) (H : Heap) (c : Nat) : Prop :=
  vSel y3
  (k40_11 P p Q y0 y3 H c)
  (k40_20 P p Q y0 y3 H c)
def k40_21 (P : Program) (p : Lab) (Q : VPost) (y0 : AV) (H : Heap) (c : Nat) (_ : Unit) : Prop :=
  vBin .leq .num y0 (.int .i64 159) fun v14_17 =>
  (k40_10 P p Q y0 v14_17 H (c + 7))
def k40_23 (P : Program) (p : Lab) (Q : VPost) (y0 : AV) (H : Heap) (c : Nat) (_ : Unit) : Prop :=
  vBin .leq .num y0 (.int .i64 57343) fun v20_38 =>
  (k40_13 P p Q v20_38 H (c + 7))
def k40_24 (P : Program) (p : Lab) (Q : VPost) (H : Heap) (c : Nat) (_ : Unit) : Prop :=
  (k40_18 P p Q  H (c + 7))
def k40_22 (P : Program) (p : Lab) (Q : VPost) (y0 : AV) (H : Heap) (c : Nat) : Prop :=
  vBin .geq .num y0 (.int .i64 55296) fun v17_35 =>
  vSel v17_35
  (k40_23 P p Q y0 H c)
  (k40_24 P p Q H c)
def k40_25 (P : Program) (p : Lab) (Q : VPost) (y0 : AV) (H : Heap) (c : Nat) (_ : Unit) : Prop :=
  (k40_22 P p Q y0 H (c + 7))
def k40_9 (P : Program) (p : Lab) (Q : VPost) (y0 : AV) (y3 : AV) (H : Heap) (c : Nat) : Prop :=
  vBin .geq .num y0 (.int .i64 127) fun v11_14 =>
  vSel v11_14
  (k40_21 P p Q y0 H c)
  (k40_25 P p Q y0 H c)
def k40_26 (P : Program) (p : Lab) (Q : VPost) (y0 : AV) (y3 : AV) (H : Heap) (c : Nat) (_ : Unit) : Prop :=
  (k40_9 P p Q y0 y3 H c)
def k40_2 (P : Program) (p : Lab) (Q : VPost) (y0 : AV) (y3 : AV) (H : Heap) (c : Nat) : Prop :=
  vSel y3
  (k40_8 P p Q y0 y3 H c)
  (k40_26 P p Q y0 y3 H c)
def k40_27 (P : Program) (p : Lab) (Q : VPost) (x0 : AV) (H : Heap) (c : Nat) (_ : Unit) : Prop :=
  vBin .gtr .num x0 (.int .i64 1114111) fun v8_8 =>
  (k40_2 P p Q x0 v8_8 H (c + 8))
def V40 (P : Program) (p : Lab) (Q : VPost) (x0 : AV) (H : Heap) (c : Nat) : Prop :=
  vBin .lss .num x0 (.int .i64 32) fun v5_2 =>
  vSel v5_2
  (k40_1 P p Q x0 H c)
  (k40_27 P p Q x0 H c)
theorem vt40 (P : Program) (p : Lab) (Q : VPost) (x0 : AV) (H : Heap) (c : Nat) : vc P p c40.body Q [(0, x0)] H c = V40 P p Q x0 H c := by kernel_rfl


/-- duet/duetref04.Rune -/
def c57 : AFun := ⟨1, 27, [.tmp 2],
  (.seq (.region [⟨(some 2), none, .move, [.c (.bool false)]⟩] none [0])
  (.seq (.region [⟨(some 3), none, .move, [.t 0]⟩, ⟨(some 4), none, (.bin .geq .num), [.t 3, .c (.int .i64 32)]⟩, ⟨(some 5), none, .move, [.t 4]⟩, ⟨(some 6), (some (5, true)), .move, [.t 0]⟩, ⟨(some 7), (some (5, true)), (.bin .leq .num), [.t 6, .c (.int .i64 1114111)]⟩, ⟨(some 8), none, .pick, [.t 5, .t 7, .c (.bool false)]⟩, ⟨(some 9), none, .move, [.t 8]⟩, ⟨(some 10), (some (9, true)), .move, [.t 0]⟩, ⟨(some 11), (some (9, true)), (.bin .geq .num), [.t 10, .c (.int .i64 127)]⟩, ⟨(some 12), (some (9, true)), .move, [.t 11]⟩, ⟨(some 13), (some (12, true)), .move, [.t 0]⟩, ⟨(some 14), (some (12, true)), (.bin .leq .num), [.t 13, .c (.int .i64 159)]⟩, ⟨(some 15), (some (9, true)), .pick, [.t 12, .t 14, .c (.bool false)]⟩, ⟨(some 16), (some (9, true)), (.un .not), [.t 15]⟩, ⟨(some 17), none, .pick, [.t 9, .t 16, .c (.bool false)]⟩, ⟨(some 18), none, .move, [.t 17]⟩, ⟨(some 19), (some (18, true)), .move, [.t 0]⟩, ⟨(some 20), (some (18, true)), (.bin .geq .num), [.t 19, .c (.int .i64 55296)]⟩, ⟨(some 21), (some (18, true)), .move, [.t 20]⟩, ⟨(some 22), (some (21, true)), .move, [.t 0]⟩, ⟨(some 23), (some (21, true)), (.bin .leq .num), [.t 22, .c (.int .i64 57343)]⟩, ⟨(some 24), (some (18, true)), .pick, [.t 21, .t 23, .c (.bool false)]⟩, ⟨(some 25), (some (18, true)), (.un .not), [.t 24]⟩, ⟨(some 26), none, .pick, [.t 18, .t 25, .c (.bool false)]⟩, ⟨(some 2), none, .move, [.t 26]⟩] none [2])
  .ret))⟩
theorem ok57 : FunOk Try.prog 57 c57 := ⟨⟨Try.f57, _, Try.func57, rfl, by kernel_rfl, by kernel_rfl, by kernel_rfl, by kernel_rfl⟩, by decide⟩
theorem res57 : c57.res = [.tmp 2] := rfl
def k57_2 (P : Program) (p : Lab) (Q : VPost) (y2 : AV) (H : Heap) (c : Nat) : Prop :=
  Q .ret [(2, y2)] H c
def k57_3 (P : Program) (p : Lab) (Q : VPost) (y0 : AV) (H : Heap) (c : Nat) (_ : Unit) : Prop :=
  vBin .leq .num y0 (.int .i64 57343) fun v23_21 =>
  vNot v23_21 fun v25_23 =>
  (k57_2 P p Q v25_23 H (c + 11))
def k57_4 (P : Program) (p : Lab) (Q : VPost) (H : Heap) (c : Nat) (_ : Unit) : Prop :=
  vNot (.bool false) fun v25_27 =>
  (k57_2 P p Q v25_27 H (c + 11))
def k57_5 (P : Program) (p : Lab) (Q : VPost) (y0 : AV) (H : Heap) (c : Nat) (_ : Unit) : Prop :=
  vBin .geq .num y0 (.int .i64 55296) fun v20_18 =>
  vSel v20_18
  (k57_3 P p Q y0 H c)
  (k57_4 P p Q H c)
def k57_6 (P : Program) (p : Lab) (Q : VPost)  (H : Heap) (c : Nat) : Prop :=
  Q .ret [(2, (.bool false))] H c
def k57_7 (P : Program) (p : Lab) (Q : VPost) (H : Heap) (c : Nat) (_ : Unit) : Prop :=
  (k57_6 P p Q  H (c + 11))
def k57_1 (P : Program) (p : Lab) (Q : VPost) (y0 : AV) (y16 : AV) (H : Heap) (c : Nat) : Prop :=
  vSel y16
  (k57_5 P p Q y0 H c)
  (k57_7 P p Q H c)
def k57_8 (P : Program) (p : Lab) (Q : VPost) (y0 : AV) (H : Heap) (c : Nat) (_ : Unit) : Prop :=
  vBin .leq .num y0 (.int .i64 159) fun v14_12 =>
  vNot v14_12 fun v16_14 =>
  (k57_1 P p Q y0 v16_14 H (c + 9))
def k57_10 (P : Program) (p : Lab) (Q : VPost) (y0 : AV) (H : Heap) (c : Nat) (_ : Unit) : Prop :=
  vBin .leq .num y0 (.int .i64 57343) fun v23_40 =>
  vNot v23_40 fun v25_42 =>
  (k57_2 P p Q v25_42 H (c + 11))
def k57_11 (P : Program) (p : Lab) (Q : VPost) (H : Heap) (c : Nat) (_ : Unit) : Prop :=
  vNot (.bool false) fun v25_46 =>
  (k57_2 P p Q v25_46 H (c + 11))
def k57_12 (P : Program) (p : Lab) (Q : VPost) (y0 : AV) (H : Heap) (c : Nat) (_ : Unit) : Prop :=
  vBin .geq .num y0 (.int .i64 55296) fun v20_37 =>
  vSel v20_37
  (k57_10 P p Q y0 H c)
  (k57_11 P p Q H c)
def k57_13 (P : Program) (p : Lab) (Q : VPost) (H : Heap) (c : Nat) (_ : Unit) : Prop :=
  (k57_6 P p Q  H (c + 11))
def k57_9 (P : Program) (p : Lab) (Q : VPost) (y0 : AV) (y16 : AV) (H : Heap) (c : Nat) : Prop :=
  vSel y16
  (k57_12 P p Q y0 H c)
  (k57_13 P p Q H c)
def k57_14 (P : Program) (p : Lab) (Q : VPost) (y0 : AV) (H : Heap) (c : Nat) (_ : Unit) : Prop :=
  vNot (.bool false) fun v16_33 =>
  (k57_9 P p Q y0 v16_33 H (c + 9))
def k57_15 (P : Program) (p : Lab) (Q : VPost) (y0 : AV) (H : Heap) (c : Nat) (_ : Unit) : Prop :=
  vBin .geq .num y0 (.int .i64 127) fun v11_9 =>
  vSel v11_9
  (k57_8 P p Q y0 H c)
  (k57_14 P p Q y0 H c)
def k57_16 (P : Program) (p : Lab) (Q : VPost) (y0 : AV) (H : Heap) (c : Nat) : Prop :=
  (k57_6 P p Q  H (c + 11))
def k57_17 (P : Program) (p : Lab) (Q : VPost) (y0 : AV) (H : Heap) (c : Nat) (_ : Unit) : Prop :=
  (k57_16 P p Q y0 H (c + 9))
def k57_0 (P : Program) (p : Lab) (Q : VPost) (y0 : AV) (y7 : AV) (H : Heap) (c : Nat) : Prop :=
  vSel y7
  (k57_15 P p Q y0 H c)
  (k57_17 P p Q y0 H c)
def k57_18 (P : Program) (p : Lab) (Q : VPost) (x0 : AV) (H : Heap) (c : Nat) (_ : Unit) : Prop :=
  vBin .leq .num x0 (.int .i64 1114111) fun v7_5 =>
  (k57_0 P p Q x0 v7_5 H (c + 6))
def k57_20 (P : Program) (p : Lab) (Q : VPost) (y0 : AV) (H : Heap) (c : Nat) : Prop :=
  (k57_6 P p Q  H (c + 11))
def k57_19 (P : Program) (p : Lab) (Q : VPost) (y0 : AV) (H : Heap) (c : Nat) : Prop :=
  (k57_20 P p Q y0 H (c + 9))
def k57_21 (P : Program) (p : Lab) (Q : VPost) (x0 : AV) (H : Heap) (c : Nat) (_ : Unit) : Prop :=
  (k57_19 P p Q x0 H (c + 6))
def V57 (P : Program) (p : Lab) (Q : VPost) (x0 : AV) (H : Heap) (c : Nat) : Prop :=
  vBin .geq .num x0 (.int .i64 32) fun v4_2 =>
  vSel v4_2
  (k57_18 P p Q x0 H c)
  (k57_21 P p Q x0 H c)
theorem vt57 (P : Program) (p : Lab) (Q : VPost) (x0 : AV) (H : Heap) (c : Nat) : vc P p c57.body Q [(0, x0)] H c = V57 P p Q x0 H c := by kernel_rfl


/-- duet/duetref18.letter -/
def c39 : AFun := ⟨1, 33, [.tmp 2],
  (.seq (.region [⟨(some 2), none, .move, [.c (.bool false)]⟩] none [0])
  (.seq (.region [⟨(some 3), none, .move, [.t 0]⟩, ⟨(some 4), none, (.bin .geq .num), [.t 3, .c (.int .i64 48)]⟩, ⟨(some 5), none, .move, [.t 4]⟩, ⟨(some 6), (some (5, true)), .move, [.t 0]⟩, ⟨(some 7), (some (5, true)), (.bin .leq .num), [.t 6, .c (.int .i64 57)]⟩, ⟨(some 8), none, .pick, [.t 5, .t 7, .c (.bool false)]⟩, ⟨(some 9), none, .move, [.t 8]⟩, ⟨(some 10), (some (9, false)), .move, [.t 0]⟩, ⟨(some 11), (some (9, false)), (.bin .geq .num), [.t 10, .c (.int .i64 97)]⟩, ⟨(some 12), (some (9, false)), .move, [.t 11]⟩, ⟨(some 13), (some (12, true)), .move, [.t 0]⟩, ⟨(some 14), (some (12, true)), (.bin .leq .num), [.t 13, .c (.int .i64 122)]⟩, ⟨(some 15), (some (9, false)), .pick, [.t 12, .t 14, .c (.bool false)]⟩, ⟨(some 16), none, .pick, [.t 9, .c (.bool true), .t 15]⟩, ⟨(some 17), none, .move, [.t 16]⟩, ⟨(some 18), (some (17, false)), .move, [.t 0]⟩, ⟨(some 19), (some (17, false)), (.bin .geq .num), [.t 18, .c (.int .i64 65)]⟩, ⟨(some 20), (some (17, false)), .move, [.t 19]⟩, ⟨(some 21), (some (20, true)), .move, [.t 0]⟩, ⟨(some 22), (some (20, true)), (.bin .leq .num), [.t 21, .c (.int .i64 90)]⟩, ⟨(some 23), (some (17, false)), .pick, [.t 20, .t 22, .c (.bool false)]⟩, ⟨(some 24), none, .pick, [.t 17, .c (.bool true), .t 23]⟩, ⟨(some 25), none, .move, [.t 24]⟩, ⟨(some 26), (some (25, false)), .move, [.t 0]⟩, ⟨(some 27), (some (25, false)), (.bin .eql .num), [.t 26, .c (.int .i64 95)]⟩, ⟨(some 28), none, .pick, [.t 25, .c (.bool true), .t 27]⟩, ⟨(some 29), none, .move, [.t 28]⟩, ⟨(some 30), (some (29, false)), .move, [.t 0]⟩, ⟨(some 31), (some (29, false)), (.bin .gtr .num), [.t 30, .c (.int .i64 127)]⟩, ⟨(some 32), none, .pick, [.t 29, .c (.bool true), .t 31]⟩, ⟨(some 2), none, .move, [.t 32]⟩] none [2])
  .ret))⟩
theorem ok39 : FunOk Try.prog 39 c39 := ⟨⟨Try.f39, _, Try.func39, rfl, by kernel_rfl, by kernel_rfl, by kernel_rfl, by kernel_rfl⟩, by decide⟩
theorem res39 : c39.res = [.tmp 2] := rfl
def k39_4 (P : Program) (p : Lab) (Q : VPost)  (H : Heap) (c : Nat) : Prop :=
  Q .ret [(2, (.bool true))] H c
def k39_3 (P : Program) (p : Lab) (Q : VPost) (y0 : AV) (H : Heap) (c : Nat) : Prop :=
  (k39_4 P p Q  H (c + 6))
def k39_2 (P : Program) (p : Lab) (Q : VPost) (y0 : AV) (H : Heap) (c : Nat) : Prop :=
  (k39_3 P p Q y0 H (c + 4))
def k39_1 (P : Program) (p : Lab) (Q : VPost) (y0 : AV) (H : Heap) (c : Nat) : Prop :=
  (k39_2 P p Q y0 H (c + 8))
def k39_5 (P : Program) (p : Lab) (Q : VPost) (y0 : AV) (H : Heap) (c : Nat) (_ : Unit) : Prop :=
  (k39_1 P p Q y0 H (c + 8))
def k39_8 (P : Program) (p : Lab) (Q : VPost) (y0 : AV) (H : Heap) (c : Nat) : Prop :=
  (k39_4 P p Q  H (c + 6))
def k39_7 (P : Program) (p : Lab) (Q : VPost) (y0 : AV) (H : Heap) (c : Nat) : Prop :=
  (k39_8 P p Q y0 H (c + 4))
def k39_9 (P : Program) (p : Lab) (Q : VPost) (y0 : AV) (H : Heap) (c : Nat) (_ : Unit) : Prop :=
  (k39_7 P p Q y0 H (c + 8))
def k39_11 (P : Program) (p : Lab) (Q : VPost) (y0 : AV) (H : Heap) (c : Nat) : Prop :=
  (k39_4 P p Q  H (c + 6))
def k39_12 (P : Program) (p : Lab) (Q : VPost) (y0 : AV) (H : Heap) (c : Nat) (_ : Unit) : Prop :=
  (k39_11 P p Q y0 H (c + 4))
def k39_14 (P : Program) (p : Lab) (Q : VPost) (H : Heap) (c : Nat) (_ : Unit) : Prop :=
  (k39_4 P p Q  H (c + 6))
def k39_15 (P : Program) (p : Lab) (Q : VPost) (y2 : AV) (H : Heap) (c : Nat) : Prop :=
  Q .ret [(2, y2)] H c
def k39_16 (P : Program) (p : Lab) (Q : VPost) (y0 : AV) (H : Heap) (c : Nat) (_ : Unit) : Prop :=
  vBin .gtr .num y0 (.int .i64 127) fun v31_49 =>
  (k39_15 P p Q v31_49 H (c + 6))
def k39_13 (P : Program) (p : Lab) (Q : VPost) (y0 : AV) (y27 : AV) (H : Heap) (c : Nat) : Prop :=
  vSel y27
  (k39_14 P p Q H c)
  (k39_16 P p Q y0 H c)
def k39_17 (P : Program) (p : Lab) (Q : VPost) (y0 : AV) (H : Heap) (c : Nat) (_ : Unit) : Prop :=
  vBin .eql .num y0 (.int .i64 95) fun v27_43 =>
  (k39_13 P p Q y0 v27_43 H (c + 4))
def k39_10 (P : Program) (p : Lab) (Q : VPost) (y0 : AV) (y23 : AV) (H : Heap) (c : Nat) : Prop :=
  vSel y23
  (k39_12 P p Q y0 H c)
  (k39_17 P p Q y0 H c)
def k39_18 (P : Program) (p : Lab) (Q : VPost) (y0 : AV) (H : Heap) (c : Nat) (_ : Unit) : Prop :=
  vBin .leq .num y0 (.int .i64 90) fun v22_34 =>
  (k39_10 P p Q y0 v22_34 H (c + 8))
def k39_21 (P : Program) (p : Lab) (Q : VPost) (H : Heap) (c : Nat) (_ : Unit) : Prop :=
  (k39_4 P p Q  H (c + 6))
def k39_22 (P : Program) (p : Lab) (Q : VPost) (y0 : AV) (H : Heap) (c : Nat) (_ : Unit) : Prop :=
  vBin .gtr .num y0 (.int .i64 127) fun v31_62 =>
  (k39_15 P p Q v31_62 H (c + 6))
def k39_20 (P : Program) (p : Lab) (Q : VPost) (y0 : AV) (y27 : AV) (H : Heap) (c : Nat) : Prop :=
  vSel y27
  (k39_21 P p Q H c)
  (k39_22 P p Q y0 H c)
def k39_19 (P : Program) (p : Lab) (Q : VPost) (y0 : AV) (H : Heap) (c : Nat) : Prop :=
  vBin .eql .num y0 (.int .i64 95) fun v27_56 =>
  (k39_20 P p Q y0 v27_56 H (c + 4))
def k39_23 (P : Program) (p : Lab) (Q : VPost) (y0 : AV) (H : Heap) (c : Nat) (_ : Unit) : Prop :=
  (k39_19 P p Q y0 H (c + 8))
def k39_24 (P : Program) (p : Lab) (Q : VPost) (y0 : AV) (H : Heap) (c : Nat) (_ : Unit) : Prop :=
  vBin .geq .num y0 (.int .i64 65) fun v19_31 =>
  vSel v19_31
  (k39_18 P p Q y0 H c)
  (k39_23 P p Q y0 H c)
def k39_6 (P : Program) (p : Lab) (Q : VPost) (y0 : AV) (y15 : AV) (H : Heap) (c : Nat) : Prop :=
  vSel y15
  (k39_9 P p Q y0 H c)
  (k39_24 P p Q y0 H c)
def k39_25 (P : Program) (p : Lab) (Q : VPost) (y0 : AV) (H : Heap) (c : Nat) (_ : Unit) : Prop :=
  vBin .leq .num y0 (.int .i64 122) fun v14_20 =>
  (k39_6 P p Q y0 v14_20 H (c + 8))
def k39_28 (P : Program) (p : Lab) (Q : VPost) (y0 : AV) (H : Heap) (c : Nat) : Prop :=
  (k39_4 P p Q  H (c + 6))
def k39_29 (P : Program) (p : Lab) (Q : VPost) (y0 : AV) (H : Heap) (c : Nat) (_ : Unit) : Prop :=
  (k39_28 P p Q y0 H (c + 4))
def k39_31 (P : Program) (p : Lab) (Q : VPost) (H : Heap) (c : Nat) (_ : Unit) : Prop :=
  (k39_4 P p Q  H (c + 6))
def k39_32 (P : Program) (p : Lab) (Q : VPost) (y0 : AV) (H : Heap) (c : Nat) (_ : Unit) : Prop :=
  vBin .gtr .num y0 (.int .i64 127) fun v31_87 =>
  (k39_15 P p Q v31_87 H (c + 6))
def k39_30 (P : Program) (p : Lab) (Q : VPost) (y0 : AV) (y27 : AV) (H : Heap) (c : Nat) : Prop :=
  vSel y27
  (k39_31 P p Q H c)
  (k39_32 P p Q y0 H c)
def k39_33 (P : Program) (p : Lab) (Q : VPost) (y0 : AV) (H : Heap) (c : Nat) (_ : Unit) : Prop :=
  vBin .eql .num y0 (.int .i64 95) fun v27_81 =>
  (k39_30 P p Q y0 v27_81 H (c + 4))
def k39_27 (P : Program) (p : Lab) (Q : VPost) (y0 : AV) (y23 : AV) (H : Heap) (c : Nat) : Prop :=
  vSel y23
  (k39_29 P p Q y0 H c)
  (k39_33 P p Q y0 H c)
def k39_34 (P : Program) (p : Lab) (Q : VPost) (y0 : AV) (H : Heap) (c : Nat) (_ : Unit) : Prop :=
  vBin .leq .num y0 (.int .i64 90) fun v22_72 =>
  (k39_27 P p Q y0 v22_72 H (c + 8))
def k39_37 (P : Program) (p : Lab) (Q : VPost) (H : Heap) (c : Nat) (_ : Unit) : Prop :=
  (k39_4 P p Q  H (c + 6))
def k39_38 (P : Program) (p : Lab) (Q : VPost) (y0 : AV) (H : Heap) (c : Nat) (_ : Unit) : Prop :=
  vBin .gtr .num y0 (.int .i64 127) fun v31_100 =>
  (k39_15 P p Q v31_100 H (c + 6))
def k39_36 (P : Program) (p : Lab) (Q : VPost) (y0 : AV) (y27 : AV) (H : Heap) (c : Nat) : Prop :=
  vSel y27
  (k39_37 P p Q H c)
  (k39_38 P p Q y0 H c)
def k39_35 (P : Program) (p : Lab) (Q : VPost) (y0 : AV) (H : Heap) (c : Nat) : Prop :=
  vBin .eql .num y0 (.int .i64 95) fun v27_94 =>
  (k39_36 P p Q y0 v27_94 H (c + 4))
def k39_39 (P : Program) (p : Lab) (Q : VPost) (y0 : AV) (H : Heap) (c : Nat) (_ : Unit) : Prop :=
  (k39_35 P p Q y0 H (c + 8))
def k39_26 (P : Program) (p : Lab) (Q : VPost) (y0 : AV) (H : Heap) (c : Nat) : Prop :=
  vBin .geq .num y0 (.int .i64 65) fun v19_69 =>
  vSel v19_69
  (k39_34 P p Q y0 H c)
  (k39_39 P p Q y0 H c)
def k39_40 (P : Program) (p : Lab) (Q : VPost) (y0 : AV) (H : Heap) (c : Nat) (_ : Unit) : Prop :=
  (k39_26 P p Q y0 H (c + 8))
def k39_41 (P : Program) (p : Lab) (Q : VPost) (y0 : AV) (H : Heap) (c : Nat) (_ : Unit) : Prop :=
  vBin .geq .num y0 (.int .i64 97) fun v11_17 =>
  vSel v11_17
  (k39_25 P p Q y0 H c)
  (k39_40 P p Q y0 H c)
def k39_0 (P : Program) (p : Lab) (Q : VPost) (y0 : AV) (y7 : AV) (H : Heap) (c : Nat) : Prop :=
  vSel y7
  (k39_5 P p Q y0 H c)
  (k39_41 P p Q y0 H c)
def k39_42 (P : Program) (p : Lab) (Q : VPost) (x0 : AV) (H : Heap) (c : Nat) (_ : Unit) : Prop :=
  vBin .leq .num x0 (.int .i64 57) fun v7_5 =>
  (k39_0 P p Q x0 v7_5 H (c + 6))
def k39_46 (P : Program) (p : Lab) (Q : VPost) (y0 : AV) (H : Heap) (c : Nat) : Prop :=
  (k39_4 P p Q  H (c + 6))
def k39_45 (P : Program) (p : Lab) (Q : VPost) (y0 : AV) (H : Heap) (c : Nat) : Prop :=
  (k39_46 P p Q y0 H (c + 4))
def k39_47 (P : Program) (p : Lab) (Q : VPost) (y0 : AV) (H : Heap) (c : Nat) (_ : Unit) : Prop :=
  (k39_45 P p Q y0 H (c + 8))
def k39_49 (P : Program) (p : Lab) (Q : VPost) (y0 : AV) (H : Heap) (c : Nat) : Prop :=
  (k39_4 P p Q  H (c + 6))
def k39_50 (P : Program) (p : Lab) (Q : VPost) (y0 : AV) (H : Heap) (c : Nat) (_ : Unit) : Prop :=
  (k39_49 P p Q y0 H (c + 4))
def k39_52 (P : Program) (p : Lab) (Q : VPost) (H : Heap) (c : Nat) (_ : Unit) : Prop :=
  (k39_4 P p Q  H (c + 6))
def k39_53 (P : Program) (p : Lab) (Q : VPost) (y0 : AV) (H : Heap) (c : Nat) (_ : Unit) : Prop :=
  vBin .gtr .num y0 (.int .i64 127) fun v31_138 =>
  (k39_15 P p Q v31_138 H (c + 6))
def k39_51 (P : Program) (p : Lab) (Q : VPost) (y0 : AV) (y27 : AV) (H : Heap) (c : Nat) : Prop :=
  vSel y27
  (k39_52 P p Q H c)
  (k39_53 P p Q y0 H c)
def k39_54 (P : Program) (p : Lab) (Q : VPost) (y0 : AV) (H : Heap) (c : Nat) (_ : Unit) : Prop :=
  vBin .eql .num y0 (.int .i64 95) fun v27_132 =>
  (k39_51 P p Q y0 v27_132 H (c + 4))
def k39_48 (P : Program) (p : Lab) (Q : VPost) (y0 : AV) (y23 : AV) (H : Heap) (c : Nat) : Prop :=
  vSel y23
  (k39_50 P p Q y0 H c)
  (k39_54 P p Q y0 H c)
def k39_55 (P : Program) (p : Lab) (Q : VPost) (y0 : AV) (H : Heap) (c : Nat) (_ : Unit) : Prop :=
  vBin .leq .num y0 (.int .i64 90) fun v22_123 =>
  (k39_48 P p Q y0 v22_123 H (c + 8))
def k39_58 (P : Program) (p : Lab) (Q : VPost) (H : Heap) (c : Nat) (_ : Unit) : Prop :=
  (k39_4 P p Q  H (c + 6))
def k39_59 (P : Program) (p : Lab) (Q : VPost) (y0 : AV) (H : Heap) (c : Nat) (_ : Unit) : Prop :=
  vBin .gtr .num y0 (.int .i64 127) fun v31_151 =>
  (k39_15 P p Q v31_151 H (c + 6))
def k39_57 (P : Program) (p : Lab) (Q : VPost) (y0 : AV) (y27 : AV) (H : Heap) (c : Nat) : Prop :=
  vSel y27
  (k39_58 P p Q H c)
  (k39_59 P p Q y0 H c)
def k39_56 (P : Program) (p : Lab) (Q : VPost) (y0 : AV) (H : Heap) (c : Nat) : Prop :=
  vBin .eql .num y0 (.int .i64 95) fun v27_145 =>
  (k39_57 P p Q y0 v27_145 H (c + 4))
def k39_60 (P : Program) (p : Lab) (Q : VPost) (y0 : AV) (H : Heap) (c : Nat) (_ : Unit) : Prop :=
  (k39_56 P p Q y0 H (c + 8))
def k39_61 (P : Program) (p : Lab) (Q : VPost) (y0 : AV) (H : Heap) (c : Nat) (_ : Unit) : Prop :=
  vBin .geq .num y0 (.int .i64 65) fun v19_120 =>
  vSel v19_120
  (k39_55 P p Q y0 H c)
  (k39_60 P p Q y0 H c)
def k39_44 (P : Program) (p : Lab) (Q : VPost) (y0 : AV) (y15 : AV) (H : Heap) (c : Nat) : Prop :=
  vSel y15
  (k39_47 P p Q y0 H c)
  (k39_61 P p Q y0 H c)
def k39_62 (P : Program) (p : Lab) (Q : VPost) (y0 : AV) (H : Heap) (c : Nat) (_ : Unit) : Prop :=
  vBin .leq .num y0 (.int .i64 122) fun v14_109 =>
  (k39_44 P p Q y0 v14_109 H (c + 8))
def k39_65 (P : Program) (p : Lab) (Q : VPost) (y0 : AV) (H : Heap) (c : Nat) : Prop :=
  (k39_4 P p Q  H (c + 6))
def k39_66 (P : Program) (p : Lab) (Q : VPost) (y0 : AV) (H : Heap) (c : Nat) (_ : Unit) : Prop :=
  (k39_65 P p Q y0 H (c + 4))
def k39_68 (P : Program) (p : Lab) (Q : VPost) (H : Heap) (c : Nat) (_ : Unit) : Prop :=
  (k39_4 P p Q  H (c + 6))
def k39_69 (P : Program) (p : Lab) (Q : VPost) (y0 : AV) (H : Heap) (c : Nat) (_ : Unit) : Prop :=
  vBin .gtr .num y0 (.int .i64 127) fun v31_176 =>
  (k39_15 P p Q v31_176 H (c + 6))
def k39_67 (P : Program) (p : Lab) (Q : VPost) (y0 : AV) (y27 : AV) (H : Heap) (c : Nat) : Prop :=
  vSel y27
  (k39_68 P p Q H c)
  (k39_69 P p Q y0 H c)
def k39_70 (P : Program) (p : Lab) (Q : VPost) (y0 : AV) (H : Heap) (c : Nat) (_ : Unit) : Prop :=
  vBin .eql .num y0 (.int .i64 95) fun v27_170 =>
  (k39_67 P p Q y0 v27_170 H (c + 4))
def k39_64 (P : Program) (p : Lab) (Q : VPost) (y0 : AV) (y23 : AV) (H : Heap) (c : Nat) : Prop :=
  vSel y23
  (k39_66 P p Q y0 H c)
  (k39_70 P p Q y0 H c)
def k39_71 (P : Program) (p : Lab) (Q : VPost) (y0 : AV) (H : Heap) (c : Nat) (_ : Unit) : Prop :=
  vBin .leq .num y0 (.int .i64 90) fun v22_161 =>
  (k39_64 P p Q y0 v22_161 H (c + 8))
def k39_74 (P : Program) (p : Lab) (Q : VPost) (H : Heap) (c : Nat) (_ : Unit) : Prop :=
  (k39_4 P p Q  H (c + 6))
def k39_75 (P : Program) (p : Lab) (Q : VPost) (y0 : AV) (H : Heap) (c : Nat) (_ : Unit) : Prop :=
  vBin .gtr .num y0 (.int .i64 127) fun v31_189 =>
  (k39_15 P p Q v31_189 H (c + 6))
def k39_73 (P : Program) (p : Lab) (Q : VPost) (y0 : AV) (y27 : AV) (H : Heap) (c : Nat) : Prop :=
  vSel y27
  (k39_74 P p Q H c)
  (k39_75 P p Q y0 H c)
def k39_72 (P : Program) (p : Lab) (Q : VPost) (y0 : AV) (H : Heap) (c : Nat) : Prop :=
  vBin .eql .num y0 (.int .i64 95) fun v27_183 =>
  (k39_73 P p Q y0 v27_183 H (c + 4))
def k39_76 (P : Program) (p : Lab) (Q : VPost) (y0 : AV) (H : Heap) (c : Nat) (_ : Unit) : Prop :=
  (k39_72 P p Q y0 H (c + 8))
def k39_63 (P : Program) (p : Lab) (Q : VPost) (y0 : AV) (H : Heap) (c : Nat) : Prop :=
  vBin .geq .num y0 (.int .i64 65) fun v19_158 =>
  vSel v19_158
  (k39_71 P p Q y0 H c)
  (k39_76 P p Q y0 H c)
def k39_77 (P : Program) (p : Lab) (Q : VPost) (y0 : AV) (H : Heap) (c : Nat) (_ : Unit) : Prop :=
  (k39_63 P p Q y0 H (c + 8))
def k39_43 (P : Program) (p : Lab) (Q : VPost) (y0 : AV) (H : Heap) (c : Nat) : Prop :=
  vBin .geq .num y0 (.int .i64 97) fun v11_106 =>
  vSel v11_106
  (k39_62 P p Q y0 H c)
  (k39_77 P p Q y0 H c)
def k39_78 (P : Program) (p : Lab) (Q : VPost) (x0 : AV) (H : Heap) (c : Nat) (_ : Unit) : Prop :=
  (k39_43 P p Q x0 H (c + 6))
def V39 (P : Program) (p : Lab) (Q : VPost) (x0 : AV) (H : Heap) (c : Nat) : Prop :=
  vBin .geq .num x0 (.int .i64 48) fun v4_2 =>
  vSel v4_2
  (k39_42 P p Q x0 H c)
  (k39_78 P p Q x0 H c)
theorem vt39 (P : Program) (p : Lab) (Q : VPost) (x0 : AV) (H : Heap) (c : Nat) : vc P p c39.body Q [(0, x0)] H c = V39 P p Q x0 H c := by kernel_rfl


/-- duet/duetref18.held -/
def c29 : AFun := ⟨2, 10, [.tmp 4],
  (.seq (.region [⟨(some 4), none, .move, [.c (.int .i64 0)]⟩] none [0, 1])
  (.seq (.region [⟨(some 5), none, .move, [.t 1]⟩, ⟨(some 6), none, .max, [.t 5, .c (.int .i64 0)]⟩, ⟨(some 7), none, .move, [.t 0]⟩, ⟨(some 8), none, (.len .slice), [.t 7]⟩, ⟨(some 9), none, .min, [.t 6, .t 8]⟩, ⟨(some 4), none, .move, [.t 9]⟩] none [4])
  .ret))⟩
theorem ok29 : FunOk Try.prog 29 c29 := ⟨⟨Try.f29, _, Try.func29, rfl, by kernel_rfl, by kernel_rfl, by kernel_rfl, by kernel_rfl⟩, by decide⟩
theorem res29 : c29.res = [.tmp 4] := rfl
def V29 (P : Program) (p : Lab) (Q : VPost) (x0 x1 : AV) (H : Heap) (c : Nat) : Prop :=
  vMax x1 (.int .i64 0) fun v6_2 =>
  vLen x0 fun v8_4 =>
  vMin v6_2 v8_4 fun v9_5 =>
  Q .ret [(4, v9_5)] H (c + 7)
theorem vt29 (P : Program) (p : Lab) (Q : VPost) (x0 x1 : AV) (H : Heap) (c : Nat) : vc P p c29.body Q [(0, x0), (1, x1)] H c = V29 P p Q x0 x1 H c := by kernel_rfl


/-- duet/duetlaw18.few -/
def c10 : AFun := ⟨1, 13, [.tmp 2],
  (.seq (.region [⟨(some 1), none, .box, [.t 0]⟩, ⟨(some 2), none, .move, [.c (.bool false)]⟩] none [1])
  (.seq (.region [⟨(some 3), none, (.fieldAddr 0), [.t 1]⟩, ⟨(some 4), none, (.load 1 false), [.t 3]⟩, ⟨(some 5), none, (.len .slice), [.t 4]⟩, ⟨(some 6), none, (.bin .leq .num), [.t 5, .c (.int .i64 1100)]⟩, ⟨(some 7), none, .move, [.t 6]⟩, ⟨(some 8), (some (7, true)), (.fieldAddr 2), [.t 1]⟩, ⟨(some 9), (some (7, true)), (.load 1 false), [.t 8]⟩, ⟨(some 10), (some (7, true)), (.len .slice), [.t 9]⟩, ⟨(some 11), (some (7, true)), (.bin .leq .num), [.t 10, .c (.int .i64 1100)]⟩, ⟨(some 12), none, .pick, [.t 7, .t 11, .c (.bool false)]⟩, ⟨(some 2), none, .move, [.t 12]⟩] none [2])
  .ret))⟩
theorem ok10 : FunOk Try.prog 10 c10 := ⟨⟨Try.f10, _, Try.func10, rfl, by kernel_rfl, by kernel_rfl, by kernel_rfl, by kernel_rfl⟩, by decide⟩
theorem res10 : c10.res = [.tmp 2] := rfl
def k10_0 (P : Program) (p : Lab) (Q : VPost) (y2 : AV) (H : Heap) (c : Nat) : Prop :=
  Q .ret [(2, y2)] H c
def k10_1 (P : Program) (p : Lab) (Q : VPost) (H0 : Heap) (w0 : List AV) (c : Nat) (_ : Unit) : Prop :=
  vFA 2 (.ptr (c :: p) w0.length 0 0) fun v8_7 =>
  vLoad 1 false v8_7 H0 fun v9_8 _ =>
  vLen v9_8 fun v10_9 =>
  vBin .leq .num v10_9 (.int .i64 1100) fun v11_10 =>
  (k10_0 P p Q v11_10 H0 (c + 13))
def k10_2 (P : Program) (p : Lab) (Q : VPost)  (H : Heap) (c : Nat) : Prop :=
  Q .ret [(2, (.bool false))] H c
def k10_3 (P : Program) (p : Lab) (Q : VPost) (H0 : Heap) (c : Nat) (_ : Unit) : Prop :=
  (k10_2 P p Q  H0 (c + 13))
def V10 (P : Program) (p : Lab) (Q : VPost) (x0 : AV) (H : Heap) (c : Nat) : Prop :=
  vBox x0 fun w0 =>
  (fun (H0 : Heap) =>
  vFA 0 (.ptr (c :: p) w0.length 0 0) fun v3_2 =>
  vLoad 1 false v3_2 H0 fun v4_3 _ =>
  vLen v4_3 fun v5_4 =>
  vBin .leq .num v5_4 (.int .i64 1100) fun v6_5 =>
  vSel v6_5
  (k10_1 P p Q H0 w0 c)
  (k10_3 P p Q H0 c)) (upd [((c :: p), some (.rows w0.length [w0]))] H)
theorem vt10 (P : Program) (p : Lab) (Q : VPost) (x0 : AV) (H : Heap) (c : Nat) : vc P p c10.body Q [(0, x0)] H c = V10 P p Q x0 H c := by kernel_rfl


/-- duet/duetlaw18.key -/
def c13 : AFun := ⟨1, 8, [.cell 2 2 true],
  (.seq (.region [⟨(some 1), none, .box, [.t 0]⟩, ⟨(some 2), none, (.alloc [(.int .i64 0), (.int .i64 0)]), []⟩] none [1, 2])
  (.seq (.region [⟨(some 3), none, (.fieldAddr 0), [.t 1]⟩, ⟨(some 4), none, (.load 1 false), [.t 3]⟩, ⟨(some 5), none, (.fieldAddr 1), [.t 1]⟩, ⟨(some 6), none, (.load 1 false), [.t 5]⟩, ⟨(some 7), none, (.build [(.int .i64 0), (.int .i64 0)] [(0, 1), (1, 1)]), [.t 4, .t 6]⟩, ⟨none, none, (.store 2), [.t 2, .t 7]⟩] none [2])
  .ret))⟩
theorem ok13 : FunOk Try.prog 13 c13 := ⟨⟨Try.f13, _, Try.func13, rfl, by kernel_rfl, by kernel_rfl, by kernel_rfl, by kernel_rfl⟩, by decide⟩
theorem res13 : c13.res = [.cell 2 2 true] := rfl
def V13 (P : Program) (p : Lab) (Q : VPost) (x0 : AV) (H : Heap) (c : Nat) : Prop :=
  vBox x0 fun w0 =>
  (fun (H0 : Heap) =>
  (fun (H1 : Heap) =>
  vFA 0 (.ptr (c :: p) w0.length 0 0) fun v3_2 =>
  vLoad 1 false v3_2 H1 fun v4_3 _ =>
  vFA 1 (.ptr (c :: p) w0.length 0 0) fun v5_4 =>
  vLoad 1 false v5_4 H1 fun v6_5 _ =>
  vBuild [(.int .i64 0), (.int .i64 0)] [(0, 1), (1, 1)] [v4_3, v6_5] fun v7_6 =>
  vGen (.store 2) [(.ptr ((c + 1) :: p) 2 0 0), v7_6] H1 ((c + 7) :: p) (fun v_7 H7 l7 f7 =>
  Q .ret [(2, (.ptr ((c + 1) :: p) 2 0 0))] H7 (c + 8))) (upd [(((c + 1) :: p), some (.rows 2 [[(.int .i64 0), (.int .i64 0)]]))] H0)) (upd [((c :: p), some (.rows w0.length [w0]))] H)
theorem vt13 (P : Program) (p : Lab) (Q : VPost) (x0 : AV) (H : Heap) (c : Nat) : vc P p c13.body Q [(0, x0)] H c = V13 P p Q x0 H c := by kernel_rfl

def b21_1 : ACode := (.seq (.seq (.region [⟨(some 11), none, .move, [.t 5]⟩, ⟨(some 12), none, .move, [.t 0]⟩, ⟨(some 13), none, (.len .slice), [.t 12]⟩, ⟨(some 14), none, (.bin .lss .num), [.t 11, .t 13]⟩] none [0, 1, 5, 14])
  (.cond (.t 14) .skip
  (.exit 0)))
  (.seq (.block 1 (.seq (.region [⟨(some 17), none, .move, [.t 0]⟩, ⟨(some 18), none, .move, [.t 5]⟩, ⟨(some 19), none, (.indexAddr 1), [.t 17, .t 18]⟩, ⟨(some 20), none, (.load 1 false), [.t 19]⟩, ⟨(some 21), none, .move, [.t 1]⟩, ⟨(some 22), none, .move, [.t 5]⟩, ⟨(some 23), none, (.indexAddr 1), [.t 21, .t 22]⟩, ⟨(some 24), none, (.load 1 false), [.t 23]⟩, ⟨(some 25), none, (.bin .neq .num), [.t 20, .t 24]⟩] (some [0, 0, 3, 7, 0, 0, 48, 112, 255]) [0, 1, 5, 25])
  (.cond (.t 25) (.seq (.region [⟨(some 4), none, .move, [.c (.bool false)]⟩] none [4])
  .ret)
  .skip)))
  (.region [⟨(some 15), none, .move, [.t 5]⟩, ⟨(some 16), none, (.bin .add .num), [.t 15, .c (.int .i64 1)]⟩, ⟨(some 5), none, .move, [.t 16]⟩] none [0, 1, 5])))
def l21_1 : ACode := .loop [0, 1, 5] b21_1
def r21_2 : ACode := (.seq (.region [⟨(some 4), none, .move, [.c (.bool true)]⟩] none [4])
  .ret)
/-- duet/duetref01.Same -/
def c21 : AFun := ⟨2, 26, [.tmp 4],
  (.seq (.region [⟨(some 4), none, .move, [.c (.bool false)]⟩] none [0, 1])
  (.seq (.seq (.region [⟨(some 6), none, .move, [.t 0]⟩, ⟨(some 7), none, (.len .slice), [.t 6]⟩, ⟨(some 8), none, .move, [.t 1]⟩, ⟨(some 9), none, (.len .slice), [.t 8]⟩, ⟨(some 10), none, (.bin .neq .num), [.t 7, .t 9]⟩] none [0, 1, 10])
  (.cond (.t 10) (.seq (.region [⟨(some 4), none, .move, [.c (.bool false)]⟩] none [4])
  .ret)
  .skip))
  (.seq (.seq (.region [⟨(some 5), none, .move, [.c (.int .i64 0)]⟩] none [0, 1, 5])
  (.block 0 l21_1)) r21_2)))⟩
theorem ok21 : FunOk Try.prog 21 c21 := ⟨⟨Try.f21, _, Try.func21, rfl, by kernel_rfl, by kernel_rfl, by kernel_rfl, by kernel_rfl⟩, by decide⟩
theorem res21 : c21.res = [.tmp 4] := rfl
def k21_0 (P : Program) (p : Lab) (Q : VPost)  (H : Heap) (c : Nat) : Prop :=
  Q .ret [(4, (.bool false))] H c
def k21_1 (P : Program) (p : Lab) (Q : VPost) (H : Heap) (c : Nat) (_ : Unit) : Prop :=
  (k21_0 P p Q  H (c + 7))
def q21_0 (P : Program) (p : Lab) (Q : VPost) : VPost := (vblockQ 0 (vseqQ (vc P p r21_2 Q) Q))
theorem q21_0_ret (P : Program) (p : Lab) (Q : VPost) (r : RL) (H : Heap) (c : Nat) : q21_0 P p Q .ret r H c = Q .ret r H c := rfl
def k21_2 (P : Program) (p : Lab) (Q : VPost) (y0 : AV) (y1 : AV) (y10 : AV) (H : Heap) (c : Nat) : Prop :=
  vc P p l21_1 (q21_0 P p Q) [(0, y0), (1, y1), (5, (.int .i64 0))] H (c + 1)
def k21_3 (P : Program) (p : Lab) (Q : VPost) (v10_5 : AV) (x0 : AV) (x1 : AV) (H : Heap) (c : Nat) (_ : Unit) : Prop :=
  (k21_2 P p Q x0 x1 v10_5 H (c + 6))
def V21 (P : Program) (p : Lab) (Q : VPost) (x0 x1 : AV) (H : Heap) (c : Nat) : Prop :=
  vLen x0 fun v7_2 =>
  vLen x1 fun v9_4 =>
  vBin .neq .num v7_2 v9_4 fun v10_5 =>
  vSel v10_5
  (k21_1 P p Q H c)
  (k21_3 P p Q v10_5 x0 x1 H c)
theorem vt21 (P : Program) (p : Lab) (Q : VPost) (x0 x1 : AV) (H : Heap) (c : Nat) : vc P p c21.body Q [(0, x0), (1, x1)] H c = V21 P p Q x0 x1 H c := by kernel_rfl
def k21_5 (P : Program) (p : Lab) (Q : VPost)  (H : Heap) (c : Nat) : Prop :=
  Q .ret [(4, (.bool false))] H c
def k21_6 (P : Program) (p : Lab) (Q : VPost) (H : Heap) (c : Nat) (_ : Unit) : Prop :=
  (k21_5 P p Q  H (c + 10))
def k21_7 (P : Program) (p : Lab) (Q : VPost) (y0 : AV) (y1 : AV) (y5 : AV) (y25 : AV) (H : Heap) (c : Nat) : Prop :=
  vBin .add .num y5 (.int .i64 1) fun v16_23 =>
  Q .normal [(0, y0), (1, y1), (5, v16_23)] H (c + 3)
def k21_8 (P : Program) (p : Lab) (Q : VPost) (v25_20 : AV) (y0 : AV) (y1 : AV) (y5 : AV) (H : Heap) (c : Nat) (_ : Unit) : Prop :=
  (k21_7 P p Q y0 y1 y5 v25_20 H (c + 9))
def k21_4 (P : Program) (p : Lab) (Q : VPost) (y0 : AV) (y1 : AV) (y5 : AV) (y14 : AV) (H : Heap) (c : Nat) : Prop :=
  vIx 1 y0 y5 fun v19_14 =>
  vLoad 1 false v19_14 H fun v20_15 f15 =>
  vIx 1 y1 y5 fun v23_18 =>
  vLoad 1 false v23_18 H fun v24_19 f19 =>
  vBin .neq .num v20_15 v24_19 fun v25_20 =>
  clashFree [0, 0, 3, 7, 0, 0, 48, 112, 255] (addTr 3 [] ((c + 3) :: p) f15 (addTr 7 [] ((c + 7) :: p) f19 [])) ∧
  vSel v25_20
  (k21_6 P p Q H c)
  (k21_8 P p Q v25_20 y0 y1 y5 H c)
def k21_9 (P : Program) (p : Lab) (Q : VPost) (v14_11 : AV) (x0 : AV) (x1 : AV) (x5 : AV) (H : Heap) (c : Nat) (_ : Unit) : Prop :=
  (k21_4 P p Q x0 x1 x5 v14_11 H (c + 4))
def V21_1 (P : Program) (p : Lab) (Q : VPost) (x0 x1 x5 : AV) (H : Heap) (c : Nat) : Prop :=
  vLen x0 fun v13_10 =>
  vBin .lss .num x5 v13_10 fun v14_11 =>
  vSel v14_11
  (k21_9 P p Q v14_11 x0 x1 x5 H c)
  (fun _ =>
  Q (.exit 0) [(0, x0), (1, x1), (5, x5), (14, v14_11)] H (c + 4))
theorem vt21_1 (P : Program) (p : Lab) (Q : VPost) (x0 x1 x5 : AV) (H : Heap) (c : Nat) : vc P p b21_1 Q [(0, x0), (1, x1), (5, x5)] H c = V21_1 P p Q x0 x1 x5 H c := by kernel_rfl
theorem q21_0_e0 (P : Program) (p : Lab) (Q : VPost) (r : RL) (H : Heap) (c : Nat) : q21_0 P p Q (.exit 0) r H c = (vc P p r21_2 Q r H c) := rfl
def V21_2 (P : Program) (p : Lab) (Q : VPost) (x0 x1 x5 x14 : AV) (H : Heap) (c : Nat) : Prop :=
  Q .ret [(4, (.bool true))] H (c + 1)
theorem vt21_2 (P : Program) (p : Lab) (Q : VPost) (x0 x1 x5 x14 : AV) (H : Heap) (c : Nat) : vc P p r21_2 Q [(0, x0), (1, x1), (5, x5), (14, x14)] H c = V21_2 P p Q x0 x1 x5 x14 H c := by kernel_rfl


/-- slices.Clone[[]int,int] -/
def c25 : AFun := ⟨1, 8, [.tmp 2],
  (.seq (.region [⟨(some 2), none, .move, [.c .nils]⟩] none [0])
  (.seq (.seq (.region [⟨(some 3), none, .move, [.t 0]⟩, ⟨(some 4), none, (.bin .eql .slice), [.t 3, .c .nils]⟩] none [0, 4])
  (.cond (.t 4) (.seq (.region [⟨(some 2), none, .move, [.c .nils]⟩] none [2])
  .ret)
  .skip))
  (.seq (.region [⟨(some 5), none, (.buildSlice 1 [] []), []⟩, ⟨(some 6), none, .move, [.t 0]⟩, ⟨(some 7), none, (.append 1 8), [.t 5, .t 6]⟩, ⟨(some 2), none, .move, [.t 7]⟩] none [2])
  .ret)))⟩
theorem ok25 : FunOk Try.prog 25 c25 := ⟨⟨Try.f25, _, Try.func25, rfl, by kernel_rfl, by kernel_rfl, by kernel_rfl, by kernel_rfl⟩, by decide⟩
theorem res25 : c25.res = [.tmp 2] := rfl
def k25_0 (P : Program) (p : Lab) (Q : VPost)  (H : Heap) (c : Nat) : Prop :=
  Q .ret [(2, .nils)] H c
def k25_1 (P : Program) (p : Lab) (Q : VPost) (H : Heap) (c : Nat) (_ : Unit) : Prop :=
  (k25_0 P p Q  H (c + 4))
def k25_2 (P : Program) (p : Lab) (Q : VPost) (y0 : AV) (y4 : AV) (H : Heap) (c : Nat) : Prop :=
  vBuildS 1 [] [] [] fun w4 n4 =>
  (fun (H4 : Heap) =>
  vGen (.append 1 8) [(.sl (c :: p) 1 0 n4), y0] H4 ((c + 2) :: p) (fun v7_6 H6 l6 f6 =>
  Q .ret [(2, v7_6)] H6 (c + 4))) (upd [((c :: p), some (.rows 1 w4))] H)
def k25_3 (P : Program) (p : Lab) (Q : VPost) (v4_2 : AV) (x0 : AV) (H : Heap) (c : Nat) (_ : Unit) : Prop :=
  (k25_2 P p Q x0 v4_2 H (c + 3))
def V25 (P : Program) (p : Lab) (Q : VPost) (x0 : AV) (H : Heap) (c : Nat) : Prop :=
  vEqS x0 .nils fun v4_2 =>
  vSel v4_2
  (k25_1 P p Q H c)
  (k25_3 P p Q v4_2 x0 H c)
theorem vt25 (P : Program) (p : Lab) (Q : VPost) (x0 : AV) (H : Heap) (c : Nat) : vc P p c25.body Q [(0, x0)] H c = V25 P p Q x0 H c := by kernel_rfl

def b35_1 : ACode := (.seq (.seq (.region [⟨(some 7), none, .move, [.t 2]⟩, ⟨(some 8), none, .move, [.t 3]⟩, ⟨(some 9), none, (.bin .lss .num), [.t 7, .t 8]⟩] none [0, 2, 3, 9])
  (.cond (.t 9) .skip
  (.exit 0)))
  (.seq (.block 1 (.region [⟨(some 14), none, .move, [.t 0]⟩, ⟨(some 15), none, .move, [.t 2]⟩, ⟨(some 16), none, .move, [.t 0]⟩, ⟨(some 17), none, .move, [.t 3]⟩, ⟨(some 18), none, .move, [.t 0]⟩, ⟨(some 19), none, .move, [.t 3]⟩, ⟨(some 20), none, (.indexAddr 1), [.t 18, .t 19]⟩, ⟨(some 21), none, (.load 1 false), [.t 20]⟩, ⟨(some 22), none, .move, [.t 0]⟩, ⟨(some 23), none, .move, [.t 2]⟩, ⟨(some 24), none, (.indexAddr 1), [.t 22, .t 23]⟩, ⟨(some 25), none, (.load 1 false), [.t 24]⟩, ⟨(some 26), none, (.indexAddr 1), [.t 14, .t 15]⟩, ⟨none, none, (.store 1), [.t 26, .t 21]⟩, ⟨(some 27), none, (.indexAddr 1), [.t 16, .t 17]⟩, ⟨none, none, (.store 1), [.t 27, .t 25]⟩] (some [0, 0, 0, 0, 0, 0, 48, 112, 0, 0, 768, 1792, 4083, 8179, 16383, 32767]) [0, 2, 3]))
  (.region [⟨(some 10), none, .move, [.t 2]⟩, ⟨(some 11), none, (.bin .add .num), [.t 10, .c (.int .i64 1)]⟩, ⟨(some 12), none, .move, [.t 3]⟩, ⟨(some 13), none, (.bin .sub .num), [.t 12, .c (.int .i64 1)]⟩, ⟨(some 2), none, .move, [.t 11]⟩, ⟨(some 3), none, .move, [.t 13]⟩] none [0, 2, 3])))
def l35_1 : ACode := .loop [0, 2, 3] b35_1
/-- slices.Reverse[[]int,int] -/
def c35 : AFun := ⟨1, 28, [],
  (.seq (.region [⟨(some 4), none, .move, [.t 0]⟩, ⟨(some 5), none, (.len .slice), [.t 4]⟩, ⟨(some 6), none, (.bin .sub .num), [.t 5, .c (.int .i64 1)]⟩, ⟨(some 2), none, .move, [.c (.int .i64 0)]⟩, ⟨(some 3), none, .move, [.t 6]⟩] none [0, 2, 3])
  (.block 0 l35_1))⟩
theorem ok35 : FunOk Try.prog 35 c35 := ⟨⟨Try.f35, _, Try.func35, rfl, by kernel_rfl, by kernel_rfl, by kernel_rfl, by kernel_rfl⟩, by decide⟩
theorem res35 : c35.res = [] := rfl
def q35_0 (P : Program) (p : Lab) (Q : VPost) : VPost := (vblockQ 0 Q)
theorem q35_0_ret (P : Program) (p : Lab) (Q : VPost) (r : RL) (H : Heap) (c : Nat) : q35_0 P p Q .ret r H c = Q .ret r H c := rfl
def V35 (P : Program) (p : Lab) (Q : VPost) (x0 : AV) (H : Heap) (c : Nat) : Prop :=
  vLen x0 fun v5_1 =>
  vBin .sub .num v5_1 (.int .i64 1) fun v6_2 =>
  vc P p l35_1 (q35_0 P p Q) [(0, x0), (2, (.int .i64 0)), (3, v6_2)] H (c + 5)
theorem vt35 (P : Program) (p : Lab) (Q : VPost) (x0 : AV) (H : Heap) (c : Nat) : vc P p c35.body Q [(0, x0)] H c = V35 P p Q x0 H c := by kernel_rfl
def k35_1 (P : Program) (p : Lab) (Q : VPost) (l21 : List Lab) (f21 : Option (List Lab)) (f19 : Option (List Lab)) (f15 : Option (List Lab)) (y0 : AV) (y2 : AV) (y3 : AV) (c : Nat) (v_23 : AV) (H23 : Heap) (l23 : List Lab) (f23 : Option (List Lab)) : Prop :=
  clashFree [0, 0, 0, 0, 0, 0, 48, 112, 0, 0, 768, 1792, 4083, 8179, 16383, 32767] (addTr 7 [] ((c + 7) :: p) f15 (addTr 11 [] ((c + 11) :: p) f19 (addTr 13 l21 ((c + 13) :: p) f21 (addTr 15 l23 ((c + 15) :: p) f23 [])))) ∧
  vBin .add .num y2 (.int .i64 1) fun v11_25 =>
  vBin .sub .num y3 (.int .i64 1) fun v13_27 =>
  Q .normal [(0, y0), (2, v11_25), (3, v13_27)] H23 (c + 22)
def k35_2 (P : Program) (p : Lab) (Q : VPost) (v25_19 : AV) (f19 : Option (List Lab)) (f15 : Option (List Lab)) (y0 : AV) (y2 : AV) (y3 : AV) (c : Nat) (v_21 : AV) (H21 : Heap) (l21 : List Lab) (f21 : Option (List Lab)) : Prop :=
  vIx 1 y0 y3 fun v27_22 =>
  vGen (.store 1) [v27_22, v25_19] H21 ((c + 15) :: p) (k35_1 P p Q l21 f21 f19 f15 y0 y2 y3 c)
def k35_0 (P : Program) (p : Lab) (Q : VPost) (y0 : AV) (y2 : AV) (y3 : AV) (y9 : AV) (H : Heap) (c : Nat) : Prop :=
  vIx 1 y0 y3 fun v20_14 =>
  vLoad 1 false v20_14 H fun v21_15 f15 =>
  vIx 1 y0 y2 fun v24_18 =>
  vLoad 1 false v24_18 H fun v25_19 f19 =>
  vIx 1 y0 y2 fun v26_20 =>
  vGen (.store 1) [v26_20, v21_15] H ((c + 13) :: p) (k35_2 P p Q v25_19 f19 f15 y0 y2 y3 c)
def k35_3 (P : Program) (p : Lab) (Q : VPost) (v9_7 : AV) (x0 : AV) (x2 : AV) (x3 : AV) (H : Heap) (c : Nat) (_ : Unit) : Prop :=
  (k35_0 P p Q x0 x2 x3 v9_7 H (c + 3))
def V35_1 (P : Program) (p : Lab) (Q : VPost) (x0 x2 x3 : AV) (H : Heap) (c : Nat) : Prop :=
  vBin .lss .num x2 x3 fun v9_7 =>
  vSel v9_7
  (k35_3 P p Q v9_7 x0 x2 x3 H c)
  (fun _ =>
  Q (.exit 0) [(0, x0), (2, x2), (3, x3), (9, v9_7)] H (c + 3))
theorem vt35_1 (P : Program) (p : Lab) (Q : VPost) (x0 x2 x3 : AV) (H : Heap) (c : Nat) : vc P p b35_1 Q [(0, x0), (2, x2), (3, x3)] H c = V35_1 P p Q x0 x2 x3 H c := by kernel_rfl
theorem q35_0_e0 (P : Program) (p : Lab) (Q : VPost) (r : RL) (H : Heap) (c : Nat) : q35_0 P p Q (.exit 0) r H c = (Q .normal r H c) := rfl

def b36_1 : ACode := (.seq (.region [⟨(some 9), none, (.bin .lss .num), [.t 8, .t 7]⟩] none [0, 1, 7, 8, 9])
  (.seq (.cond (.t 9) .skip
  (.exit 0))
  (.seq (.block 1 (.seq (.region [⟨(some 10), none, .move, [.t 8]⟩, ⟨(some 5), none, .move, [.t 10]⟩] none [0, 1, 5, 7, 8])
  (.seq (.region [⟨(some 11), none, .move, [.t 1]⟩, ⟨(some 12), none, .move, [.t 0]⟩, ⟨(some 13), none, .move, [.t 5]⟩, ⟨(some 14), none, (.indexAddr 1), [.t 12, .t 13]⟩, ⟨(some 15), none, (.load 1 false), [.t 14]⟩, ⟨(some 16), none, .call, [.t 11, .t 15]⟩] none [0, 1, 5, 7, 8, 16])
  (.cond (.t 16) (.seq (.region [⟨(some 17), none, .move, [.t 5]⟩, ⟨(some 4), none, .move, [.t 17]⟩] none [4])
  .ret)
  .skip))))
  (.region [⟨(some 18), none, (.bin .add .num), [.t 8, .c (.int .i64 1)]⟩, ⟨(some 8), none, .move, [.t 18]⟩] none [0, 1, 7, 8]))))
def l36_1 : ACode := .loop [0, 1, 7, 8] b36_1
def r36_2 : ACode := (.seq (.region [⟨(some 4), none, .move, [.c (.int .i64 (-1))]⟩] none [4])
  .ret)
/-- slices.IndexFunc[[]int,int] -/
def c36 : AFun := ⟨2, 19, [.tmp 4],
  (.seq (.region [⟨(some 4), none, .move, [.c (.int .i64 0)]⟩] none [0, 1])
  (.seq (.seq (.region [⟨(some 6), none, .move, [.t 0]⟩, ⟨(some 7), none, (.len .slice), [.t 6]⟩, ⟨(some 8), none, .move, [.c (.int .i64 0)]⟩] none [0, 1, 7, 8])
  (.block 0 l36_1)) r36_2))⟩
theorem ok36 : FunOk Try.prog 36 c36 := ⟨⟨Try.f36, _, Try.func36, rfl, by kernel_rfl, by kernel_rfl, by kernel_rfl, by kernel_rfl⟩, by decide⟩
theorem res36 : c36.res = [.tmp 4] := rfl
def q36_0 (P : Program) (p : Lab) (Q : VPost) : VPost := (vblockQ 0 (vseqQ (vc P p r36_2 Q) Q))
theorem q36_0_ret (P : Program) (p : Lab) (Q : VPost) (r : RL) (H : Heap) (c : Nat) : q36_0 P p Q .ret r H c = Q .ret r H c := rfl
def V36 (P : Program) (p : Lab) (Q : VPost) (x0 x1 : AV) (H : Heap) (c : Nat) : Prop :=
  vLen x0 fun v7_2 =>
  vc P p l36_1 (q36_0 P p Q) [(0, x0), (1, x1), (7, v7_2), (8, (.int .i64 0))] H (c + 4)
theorem vt36 (P : Program) (p : Lab) (Q : VPost) (x0 x1 : AV) (H : Heap) (c : Nat) : vc P p c36.body Q [(0, x0), (1, x1)] H c = V36 P p Q x0 x1 H c := by kernel_rfl
def k36_1 (P : Program) (p : Lab) (Q : VPost) (y4 : AV) (H : Heap) (c : Nat) : Prop :=
  Q .ret [(4, y4)] H c
def k36_2 (P : Program) (p : Lab) (Q : VPost) (H12 : Heap) (y8 : AV) (c : Nat) (_ : Unit) : Prop :=
  (k36_1 P p Q y8 H12 (c + 10))
def k36_3 (P : Program) (p : Lab) (Q : VPost) (y0 : AV) (y1 : AV) (y5 : AV) (y7 : AV) (y8 : AV) (y16 : AV) (H : Heap) (c : Nat) : Prop :=
  vBin .add .num y8 (.int .i64 1) fun v18_15 =>
  Q .normal [(0, y0), (1, y1), (7, y7), (8, v18_15)] H (c + 2)
def k36_4 (P : Program) (p : Lab) (Q : VPost) (v16_12 : AV) (H12 : Heap) (y0 : AV) (y1 : AV) (y7 : AV) (y8 : AV) (c : Nat) (_ : Unit) : Prop :=
  (k36_3 P p Q y0 y1 y8 y7 y8 v16_12 H12 (c + 8))
def k36_5 (P : Program) (p : Lab) (Q : VPost) (y0 : AV) (y1 : AV) (y7 : AV) (y8 : AV) (c : Nat) (v16_12 : AV) (H12 : Heap) (l12 : List Lab) (f12 : Option (List Lab)) : Prop :=
  vSel v16_12
  (k36_2 P p Q H12 y8 c)
  (k36_4 P p Q v16_12 H12 y0 y1 y7 y8 c)
def k36_0 (P : Program) (p : Lab) (Q : VPost) (y0 : AV) (y1 : AV) (y7 : AV) (y8 : AV) (y9 : AV) (H : Heap) (c : Nat) : Prop :=
  vIx 1 y0 y8 fun v14_10 =>
  vLoad 1 false v14_10 H fun v15_11 _ =>
  vopS P .call [y1, v15_11] H ((c + 7) :: p) (k36_5 P p Q y0 y1 y7 y8 c)
def k36_6 (P : Program) (p : Lab) (Q : VPost) (v9_4 : AV) (x0 : AV) (x1 : AV) (x7 : AV) (x8 : AV) (H : Heap) (c : Nat) (_ : Unit) : Prop :=
  (k36_0 P p Q x0 x1 x7 x8 v9_4 H (c + 1))
def V36_1 (P : Program) (p : Lab) (Q : VPost) (x0 x1 x7 x8 : AV) (H : Heap) (c : Nat) : Prop :=
  vBin .lss .num x8 x7 fun v9_4 =>
  vSel v9_4
  (k36_6 P p Q v9_4 x0 x1 x7 x8 H c)
  (fun _ =>
  Q (.exit 0) [(0, x0), (1, x1), (7, x7), (8, x8), (9, v9_4)] H (c + 1))
theorem vt36_1 (P : Program) (p : Lab) (Q : VPost) (x0 x1 x7 x8 : AV) (H : Heap) (c : Nat) : vc P p b36_1 Q [(0, x0), (1, x1), (7, x7), (8, x8)] H c = V36_1 P p Q x0 x1 x7 x8 H c := by kernel_rfl
theorem q36_0_e0 (P : Program) (p : Lab) (Q : VPost) (r : RL) (H : Heap) (c : Nat) : q36_0 P p Q (.exit 0) r H c = (vc P p r36_2 Q r H c) := rfl
def V36_2 (P : Program) (p : Lab) (Q : VPost) (x0 x1 x7 x8 x9 : AV) (H : Heap) (c : Nat) : Prop :=
  Q .ret [(4, (.int .i64 (-1)))] H (c + 1)
theorem vt36_2 (P : Program) (p : Lab) (Q : VPost) (x0 x1 x7 x8 x9 : AV) (H : Heap) (c : Nat) : vc P p r36_2 Q [(0, x0), (1, x1), (7, x7), (8, x8), (9, x9)] H c = V36_2 P p Q x0 x1 x7 x8 x9 H c := by kernel_rfl

def b22_1 : ACode := (.seq (.region [⟨(some 28), none, (.bin .lss .num), [.t 27, .t 26]⟩] none [0, 1, 25, 26, 27, 28])
  (.seq (.cond (.t 28) .skip
  (.exit 0))
  (.seq (.block 1 (.seq (.region [⟨(some 29), none, (.indexAddr 1), [.t 25, .t 27]⟩, ⟨(some 30), none, (.load 1 false), [.t 29]⟩, ⟨(some 9), none, (.alloc [(.bool false)]), []⟩, ⟨none, none, (.store 1), [.t 9, .t 30]⟩] none [0, 1, 9, 25, 26, 27])
  (.seq (.region [⟨(some 31), none, .move, [.t 0]⟩, ⟨(some 32), none, .move, [.t 1]⟩, ⟨(some 33), none, (.slice 1 true false false), [.t 31, .t 32]⟩, ⟨(some 34), none, (.mkfn (.func 37) 0), [.t 9]⟩, ⟨(some 35), none, .call, [.c (.fn (.func 36) [] []), .t 33, .t 34]⟩, ⟨(some 10), none, .move, [.t 35]⟩] none [0, 1, 10, 25, 26, 27])
  (.seq (.seq (.region [⟨(some 36), none, .move, [.t 10]⟩, ⟨(some 37), none, (.bin .lss .num), [.t 36, .c (.int .i64 0)]⟩] none [0, 1, 10, 25, 26, 27, 37])
  (.cond (.t 37) (.seq (.region [⟨(some 38), none, .move, [.t 0]⟩, ⟨(some 39), none, (.len .slice), [.t 38]⟩, ⟨(some 6), none, .move, [.t 39]⟩] none [6])
  .ret)
  .skip))
  (.region [⟨(some 40), none, .move, [.t 1]⟩, ⟨(some 41), none, .move, [.t 10]⟩, ⟨(some 42), none, (.bin .add .num), [.t 40, .t 41]⟩, ⟨(some 1), none, .move, [.t 42]⟩] none [0, 1, 25, 26, 27])))))
  (.region [⟨(some 43), none, (.bin .add .num), [.t 27, .c (.int .i64 1)]⟩, ⟨(some 27), none, .move, [.t 43]⟩] none [0, 1, 25, 26, 27]))))
def l22_1 : ACode := .loop [0, 1, 25, 26, 27] b22_1
def r22_2 : ACode := (.seq (.region [⟨(some 44), none, .move, [.t 1]⟩, ⟨(some 6), none, .move, [.t 44]⟩] none [6])
  .ret)
/-- duet/edit.Word -/
def c22 : AFun := ⟨3, 45, [.tmp 6],
  (.seq (.region [⟨(some 6), none, .move, [.c (.int .i64 0)]⟩] none [0, 1, 2])
  (.seq (.region [⟨(some 11), none, .move, [.t 0]⟩, ⟨(some 12), none, .move, [.t 1]⟩, ⟨(some 13), none, .call, [.c (.fn (.func 26) [] []), .t 11, .t 12]⟩, ⟨(some 1), none, .move, [.t 13]⟩] none [0, 1, 2])
  (.seq (.seq (.region [⟨(some 14), none, .move, [.t 2]⟩] none [0, 1, 14])
  (.cond (.t 14) (.seq (.region [⟨(some 15), none, .move, [.t 0]⟩, ⟨(some 16), none, .move, [.t 1]⟩, ⟨(some 17), none, (.slice 1 false true false), [.t 15, .t 16]⟩, ⟨(some 18), none, .call, [.c (.fn (.func 25) [] []), .t 17]⟩, ⟨(some 7), none, .move, [.t 18]⟩] none [1, 7])
  (.seq (.region [⟨(some 19), none, .move, [.t 7]⟩, ⟨(some 20), none, .call, [.c (.fn (.func 35) [] []), .t 19]⟩] none [1, 7])
  (.seq (.region [⟨(some 21), none, .move, [.t 1]⟩, ⟨(some 22), none, .move, [.t 7]⟩, ⟨(some 23), none, .call, [.c (.fn (.func 22) [] []), .t 22, .c (.int .i64 0), .c (.bool false)]⟩, ⟨(some 24), none, (.bin .sub .num), [.t 21, .t 23]⟩, ⟨(some 6), none, .move, [.t 24]⟩] none [6])
  .ret)))
  .skip))
  (.seq (.seq (.region [⟨(some 25), none, (.buildSlice 1 [(.bool false), (.bool false)] [(0, 1), (1, 1)]), [.c (.bool false), .c (.bool true)]⟩, ⟨(some 26), none, (.len .slice), [.t 25]⟩, ⟨(some 27), none, .move, [.c (.int .i64 0)]⟩] none [0, 1, 25, 26, 27])
  (.block 0 l22_1)) r22_2))))⟩
theorem ok22 : FunOk Try.prog 22 c22 := ⟨⟨Try.f22, _, Try.func22, rfl, by kernel_rfl, by kernel_rfl, by kernel_rfl, by kernel_rfl⟩, by decide⟩
theorem res22 : c22.res = [.tmp 6] := rfl
def k22_1 (P : Program) (p : Lab) (Q : VPost) (v18_9 : AV) (y1 : AV) (c : Nat) (v20_12 : AV) (H12 : Heap) (l12 : List Lab) (f12 : Option (List Lab)) : Prop :=
  vCall true P 22 [v18_9, (.int .i64 0), (.bool false)] H12 ((c + 9) :: p) (fun v23_15 H15 l15 f15 =>
  vBin .sub .num y1 v23_15 fun v24_16 =>
  Q .ret [(6, v24_16)] H15 (c + 12))
def k22_2 (P : Program) (p : Lab) (Q : VPost) (y1 : AV) (c : Nat) (v18_9 : AV) (H9 : Heap) (l9 : List Lab) (f9 : Option (List Lab)) : Prop :=
  vCall true P 35 [v18_9] H9 ((c + 6) :: p) (k22_1 P p Q v18_9 y1 c)
def k22_3 (P : Program) (p : Lab) (Q : VPost) (y1 : AV) (c : Nat) (v17_8 : AV) (H8 : Heap) (l8 : List Lab) (f8 : Option (List Lab)) : Prop :=
  vCall true P 25 [v17_8] H8 ((c + 3) :: p) (k22_2 P p Q y1 c)
def k22_0 (P : Program) (p : Lab) (Q : VPost) (y0 : AV) (y1 : AV) (H : Heap) (c : Nat) : Prop :=
  vGen (.slice 1 false true false) [y0, y1] H ((c + 2) :: p) (k22_3 P p Q y1 c)
def k22_4 (P : Program) (p : Lab) (Q : VPost) (v13_3 : AV) (H3 : Heap) (x0 : AV) (c : Nat) (_ : Unit) : Prop :=
  (k22_0 P p Q x0 v13_3 H3 (c + 6))
def q22_0 (P : Program) (p : Lab) (Q : VPost) : VPost := (vblockQ 0 (vseqQ (vc P p r22_2 Q) Q))
theorem q22_0_ret (P : Program) (p : Lab) (Q : VPost) (r : RL) (H : Heap) (c : Nat) : q22_0 P p Q .ret r H c = Q .ret r H c := rfl
def k22_5 (P : Program) (p : Lab) (Q : VPost) (y0 : AV) (y1 : AV) (y14 : AV) (H : Heap) (c : Nat) : Prop :=
  vBuildS 1 [(.bool false), (.bool false)] [(0, 1), (1, 1)] [(.bool false), (.bool true)] fun w18 n18 =>
  (fun (H18 : Heap) =>
  vLen (.sl (c :: p) 1 0 n18) fun v26_19 =>
  vc P p l22_1 (q22_0 P p Q) [(0, y0), (1, y1), (25, (.sl (c :: p) 1 0 n18)), (26, v26_19), (27, (.int .i64 0))] H18 (c + 3)) (upd [((c :: p), some (.rows 1 w18))] H)
def k22_6 (P : Program) (p : Lab) (Q : VPost) (v13_3 : AV) (H3 : Heap) (x0 : AV) (x2 : AV) (c : Nat) (_ : Unit) : Prop :=
  (k22_5 P p Q x0 v13_3 x2 H3 (c + 6))
def k22_7 (P : Program) (p : Lab) (Q : VPost) (x0 : AV) (x2 : AV) (c : Nat) (v13_3 : AV) (H3 : Heap) (l3 : List Lab) (f3 : Option (List Lab)) : Prop :=
  vSel x2
  (k22_4 P p Q v13_3 H3 x0 c)
  (k22_6 P p Q v13_3 H3 x0 x2 c)
def V22 (P : Program) (p : Lab) (Q : VPost) (x0 x1 x2 : AV) (H : Heap) (c : Nat) : Prop :=
  vCall true P 26 [x0, x1] H ((c + 3) :: p) (k22_7 P p Q x0 x2 c)
theorem vt22 (P : Program) (p : Lab) (Q : VPost) (x0 x1 x2 : AV) (H : Heap) (c : Nat) : vc P p c22.body Q [(0, x0), (1, x1), (2, x2)] H c = V22 P p Q x0 x1 x2 H c := by kernel_rfl
def k22_9 (P : Program) (p : Lab) (Q : VPost) (y6 : AV) (H : Heap) (c : Nat) : Prop :=
  Q .ret [(6, y6)] H c
def k22_10 (P : Program) (p : Lab) (Q : VPost) (H30 : Heap) (y0 : AV) (c : Nat) (_ : Unit) : Prop :=
  vLen y0 fun v39_35 =>
  (k22_9 P p Q v39_35 H30 (c + 15))
def k22_11 (P : Program) (p : Lab) (Q : VPost) (y0 : AV) (y1 : AV) (y10 : AV) (y25 : AV) (y26 : AV) (y27 : AV) (y37 : AV) (H : Heap) (c : Nat) : Prop :=
  vBin .add .num y1 y10 fun v42_39 =>
  vBin .add .num y27 (.int .i64 1) fun v43_41 =>
  Q .normal [(0, y0), (1, v42_39), (25, y25), (26, y26), (27, v43_41)] H (c + 6)
def k22_12 (P : Program) (p : Lab) (Q : VPost) (v37_33 : AV) (v35_30 : AV) (H30 : Heap) (y0 : AV) (y1 : AV) (y25 : AV) (y26 : AV) (y27 : AV) (c : Nat) (_ : Unit) : Prop :=
  (k22_11 P p Q y0 y1 v35_30 y25 y26 y27 v37_33 H30 (c + 12))
def k22_13 (P : Program) (p : Lab) (Q : VPost) (y0 : AV) (y1 : AV) (y25 : AV) (y26 : AV) (y27 : AV) (c : Nat) (v35_30 : AV) (H30 : Heap) (l30 : List Lab) (f30 : Option (List Lab)) : Prop :=
  vBin .lss .num v35_30 (.int .i64 0) fun v37_33 =>
  vSel v37_33
  (k22_10 P p Q H30 y0 c)
  (k22_12 P p Q v37_33 v35_30 H30 y0 y1 y25 y26 y27 c)
def k22_14 (P : Program) (p : Lab) (Q : VPost) (y0 : AV) (y1 : AV) (y25 : AV) (y26 : AV) (y27 : AV) (c : Nat) (v33_28 : AV) (H28 : Heap) (l28 : List Lab) (f28 : Option (List Lab)) : Prop :=
  vCall true P 36 [v33_28, (.fn (.func 37) [] [(.ptr ((c + 2) :: p) 1 0 0)])] H28 ((c + 8) :: p) (k22_13 P p Q y0 y1 y25 y26 y27 c)
def k22_15 (P : Program) (p : Lab) (Q : VPost) (y0 : AV) (y1 : AV) (y25 : AV) (y26 : AV) (y27 : AV) (c : Nat) (v_25 : AV) (H25 : Heap) (l25 : List Lab) (f25 : Option (List Lab)) : Prop :=
  vGen (.slice 1 true false false) [y0, y1] H25 ((c + 6) :: p) (k22_14 P p Q y0 y1 y25 y26 y27 c)
def k22_8 (P : Program) (p : Lab) (Q : VPost) (y0 : AV) (y1 : AV) (y25 : AV) (y26 : AV) (y27 : AV) (y28 : AV) (H : Heap) (c : Nat) : Prop :=
  vIx 1 y25 y27 fun v29_22 =>
  vLoad 1 false v29_22 H fun v30_23 _ =>
  (fun (H24 : Heap) =>
  vGen (.store 1) [(.ptr ((c + 2) :: p) 1 0 0), v30_23] H24 ((c + 3) :: p) (k22_15 P p Q y0 y1 y25 y26 y27 c)) (upd [(((c + 2) :: p), some (.rows 1 [[(.bool false)]]))] H)
def k22_16 (P : Program) (p : Lab) (Q : VPost) (v28_21 : AV) (x0 : AV) (x1 : AV) (x25 : AV) (x26 : AV) (x27 : AV) (H : Heap) (c : Nat) (_ : Unit) : Prop :=
  (k22_8 P p Q x0 x1 x25 x26 x27 v28_21 H (c + 1))
def V22_1 (P : Program) (p : Lab) (Q : VPost) (x0 x1 x25 x26 x27 : AV) (H : Heap) (c : Nat) : Prop :=
  vBin .lss .num x27 x26 fun v28_21 =>
  vSel v28_21
  (k22_16 P p Q v28_21 x0 x1 x25 x26 x27 H c)
  (fun _ =>
  Q (.exit 0) [(0, x0), (1, x1), (25, x25), (26, x26), (27, x27), (28, v28_21)] H (c + 1))
theorem vt22_1 (P : Program) (p : Lab) (Q : VPost) (x0 x1 x25 x26 x27 : AV) (H : Heap) (c : Nat) : vc P p b22_1 Q [(0, x0), (1, x1), (25, x25), (26, x26), (27, x27)] H c = V22_1 P p Q x0 x1 x25 x26 x27 H c := by kernel_rfl
theorem q22_0_e0 (P : Program) (p : Lab) (Q : VPost) (r : RL) (H : Heap) (c : Nat) : q22_0 P p Q (.exit 0) r H c = (vc P p r22_2 Q r H c) := rfl
def V22_2 (P : Program) (p : Lab) (Q : VPost) (x0 x1 x25 x26 x27 x28 : AV) (H : Heap) (c : Nat) : Prop :=
  Q .ret [(6, x1)] H (c + 2)
theorem vt22_2 (P : Program) (p : Lab) (Q : VPost) (x0 x1 x25 x26 x27 x28 : AV) (H : Heap) (c : Nat) : vc P p r22_2 Q [(0, x0), (1, x1), (25, x25), (26, x26), (27, x27), (28, x28)] H c = V22_2 P p Q x0 x1 x25 x26 x27 x28 H c := by kernel_rfl

def b23_1 : ACode := (.seq (.seq (.region [⟨(some 11), none, .move, [.t 1]⟩, ⟨(some 12), none, (.bin .gtr .num), [.t 11, .c (.int .i64 0)]⟩, ⟨(some 13), none, .move, [.t 12]⟩, ⟨(some 14), (some (13, true)), .move, [.t 0]⟩, ⟨(some 15), (some (13, true)), .move, [.t 1]⟩, ⟨(some 16), (some (13, true)), (.bin .sub .num), [.t 15, .c (.int .i64 1)]⟩, ⟨(some 17), (some (13, true)), (.indexAddr 1), [.t 14, .t 16]⟩, ⟨(some 18), (some (13, true)), (.load 1 false), [.t 17]⟩, ⟨(some 19), (some (13, true)), .call, [.c (.fn (.func 39) [] []), .t 18]⟩, ⟨(some 20), (some (13, true)), (.un .not), [.t 19]⟩, ⟨(some 21), none, .pick, [.t 13, .t 20, .c (.bool false)]⟩] none [0, 1, 21])
  (.cond (.t 21) .skip
  (.exit 0)))
  (.block 1 (.region [⟨(some 22), none, .move, [.t 1]⟩, ⟨(some 23), none, (.bin .sub .num), [.t 22, .c (.int .i64 1)]⟩, ⟨(some 1), none, .move, [.t 23]⟩] none [0, 1])))
def l23_1 : ACode := .loop [0, 1] b23_1
def b23_3 : ACode := (.seq (.seq (.region [⟨(some 24), none, .move, [.t 1]⟩, ⟨(some 25), none, (.bin .gtr .num), [.t 24, .c (.int .i64 0)]⟩, ⟨(some 26), none, .move, [.t 25]⟩, ⟨(some 27), (some (26, true)), .move, [.t 0]⟩, ⟨(some 28), (some (26, true)), .move, [.t 1]⟩, ⟨(some 29), (some (26, true)), (.bin .sub .num), [.t 28, .c (.int .i64 1)]⟩, ⟨(some 30), (some (26, true)), (.indexAddr 1), [.t 27, .t 29]⟩, ⟨(some 31), (some (26, true)), (.load 1 false), [.t 30]⟩, ⟨(some 32), (some (26, true)), .call, [.c (.fn (.func 39) [] []), .t 31]⟩, ⟨(some 33), none, .pick, [.t 26, .t 32, .c (.bool false)]⟩] none [0, 1, 33])
  (.cond (.t 33) .skip
  (.exit 2)))
  (.block 3 (.region [⟨(some 34), none, .move, [.t 1]⟩, ⟨(some 35), none, (.bin .sub .num), [.t 34, .c (.int .i64 1)]⟩, ⟨(some 1), none, .move, [.t 35]⟩] none [0, 1])))
def l23_3 : ACode := .loop [0, 1] b23_3
def r23_4 : ACode := (.seq (.region [⟨(some 36), none, .move, [.t 1]⟩, ⟨(some 6), none, .move, [.t 36]⟩] none [6])
  .ret)
def r23_2 : ACode := (.seq (.block 2 l23_3) r23_4)
def b23_6 : ACode := (.seq (.seq (.region [⟨(some 37), none, .move, [.t 1]⟩, ⟨(some 38), none, .move, [.t 0]⟩, ⟨(some 39), none, (.len .slice), [.t 38]⟩, ⟨(some 40), none, (.bin .lss .num), [.t 37, .t 39]⟩, ⟨(some 41), none, .move, [.t 40]⟩, ⟨(some 42), (some (41, true)), .move, [.t 0]⟩, ⟨(some 43), (some (41, true)), .move, [.t 1]⟩, ⟨(some 44), (some (41, true)), (.indexAddr 1), [.t 42, .t 43]⟩, ⟨(some 45), (some (41, true)), (.load 1 false), [.t 44]⟩, ⟨(some 46), (some (41, true)), .call, [.c (.fn (.func 39) [] []), .t 45]⟩, ⟨(some 47), (some (41, true)), (.un .not), [.t 46]⟩, ⟨(some 48), none, .pick, [.t 41, .t 47, .c (.bool false)]⟩] none [0, 1, 48])
  (.cond (.t 48) .skip
  (.exit 4)))
  (.block 5 (.region [⟨(some 49), none, .move, [.t 1]⟩, ⟨(some 50), none, (.bin .add .num), [.t 49, .c (.int .i64 1)]⟩, ⟨(some 1), none, .move, [.t 50]⟩] none [0, 1])))
def l23_6 : ACode := .loop [0, 1] b23_6
def b23_8 : ACode := (.seq (.seq (.region [⟨(some 51), none, .move, [.t 1]⟩, ⟨(some 52), none, .move, [.t 0]⟩, ⟨(some 53), none, (.len .slice), [.t 52]⟩, ⟨(some 54), none, (.bin .lss .num), [.t 51, .t 53]⟩, ⟨(some 55), none, .move, [.t 54]⟩, ⟨(some 56), (some (55, true)), .move, [.t 0]⟩, ⟨(some 57), (some (55, true)), .move, [.t 1]⟩, ⟨(some 58), (some (55, true)), (.indexAddr 1), [.t 56, .t 57]⟩, ⟨(some 59), (some (55, true)), (.load 1 false), [.t 58]⟩, ⟨(some 60), (some (55, true)), .call, [.c (.fn (.func 39) [] []), .t 59]⟩, ⟨(some 61), none, .pick, [.t 55, .t 60, .c (.bool false)]⟩] none [0, 1, 61])
  (.cond (.t 61) .skip
  (.exit 6)))
  (.block 7 (.region [⟨(some 62), none, .move, [.t 1]⟩, ⟨(some 63), none, (.bin .add .num), [.t 62, .c (.int .i64 1)]⟩, ⟨(some 1), none, .move, [.t 63]⟩] none [0, 1])))
def l23_8 : ACode := .loop [0, 1] b23_8
def r23_9 : ACode := (.seq (.region [⟨(some 64), none, .move, [.t 1]⟩, ⟨(some 6), none, .move, [.t 64]⟩] none [6])
  .ret)
def r23_7 : ACode := (.seq (.block 6 l23_8) r23_9)
def r23_5 : ACode := (.seq (.block 4 l23_6) r23_7)
/-- duet/duetref18.Word -/
def c23 : AFun := ⟨3, 65, [.tmp 6],
  (.seq (.region [⟨(some 6), none, .move, [.c (.int .i64 0)]⟩] none [0, 1, 2])
  (.seq (.region [⟨(some 7), none, .move, [.t 0]⟩, ⟨(some 8), none, .move, [.t 1]⟩, ⟨(some 9), none, .call, [.c (.fn (.func 29) [] []), .t 7, .t 8]⟩, ⟨(some 1), none, .move, [.t 9]⟩] none [0, 1, 2])
  (.seq (.seq (.region [⟨(some 10), none, .move, [.t 2]⟩] none [0, 1, 10])
  (.cond (.t 10) (.seq (.block 0 l23_1) r23_2)
  .skip)) r23_5)))⟩
theorem ok23 : FunOk Try.prog 23 c23 := ⟨⟨Try.f23, _, Try.func23, rfl, by kernel_rfl, by kernel_rfl, by kernel_rfl, by kernel_rfl⟩, by decide⟩
theorem res23 : c23.res = [.tmp 6] := rfl
def q23_0 (P : Program) (p : Lab) (Q : VPost) : VPost := (vblockQ 0 (vseqQ (vc P p r23_2 (vseqQ (vc P p r23_5 Q) Q)) (vseqQ (vc P p r23_5 Q) Q)))
theorem q23_0_ret (P : Program) (p : Lab) (Q : VPost) (r : RL) (H : Heap) (c : Nat) : q23_0 P p Q .ret r H c = Q .ret r H c := rfl
def q23_1 (P : Program) (p : Lab) (Q : VPost) : VPost := (vblockQ 4 (vseqQ (vc P p r23_7 Q) Q))
theorem q23_1_ret (P : Program) (p : Lab) (Q : VPost) (r : RL) (H : Heap) (c : Nat) : q23_1 P p Q .ret r H c = Q .ret r H c := rfl
def k23_0 (P : Program) (p : Lab) (Q : VPost) (y0 : AV) (y1 : AV) (y10 : AV) (H : Heap) (c : Nat) : Prop :=
  vc P p l23_6 (q23_1 P p Q) [(0, y0), (1, y1), (10, y10)] H c
def k23_1 (P : Program) (p : Lab) (Q : VPost) (v9_3 : AV) (H3 : Heap) (x0 : AV) (x2 : AV) (c : Nat) (_ : Unit) : Prop :=
  (k23_0 P p Q x0 v9_3 x2 H3 (c + 6))
def k23_2 (P : Program) (p : Lab) (Q : VPost) (x0 : AV) (x2 : AV) (c : Nat) (v9_3 : AV) (H3 : Heap) (l3 : List Lab) (f3 : Option (List Lab)) : Prop :=
  vSel x2
  (fun _ =>
  vc P p l23_1 (q23_0 P p Q) [(0, x0), (1, v9_3), (10, x2)] H3 (c + 6))
  (k23_1 P p Q v9_3 H3 x0 x2 c)
def V23 (P : Program) (p : Lab) (Q : VPost) (x0 x1 x2 : AV) (H : Heap) (c : Nat) : Prop :=
  vCall true P 29 [x0, x1] H ((c + 3) :: p) (k23_2 P p Q x0 x2 c)
theorem vt23 (P : Program) (p : Lab) (Q : VPost) (x0 x1 x2 : AV) (H : Heap) (c : Nat) : vc P p c23.body Q [(0, x0), (1, x1), (2, x2)] H c = V23 P p Q x0 x1 x2 H c := by kernel_rfl
def k23_4 (P : Program) (p : Lab) (Q : VPost) (y0 : AV) (y1 : AV) (y21 : AV) (H : Heap) (c : Nat) : Prop :=
  vBin .sub .num y1 (.int .i64 1) fun v23_18 =>
  Q .normal [(0, y0), (1, v23_18)] H (c + 3)
def k23_5 (P : Program) (p : Lab) (Q : VPost) (y0 : AV) (y1 : AV) (y21 : AV) (H : Heap) (c : Nat) (_ : Unit) : Prop :=
  (k23_4 P p Q y0 y1 y21 H c)
def k23_3 (P : Program) (p : Lab) (Q : VPost) (y0 : AV) (y1 : AV) (y21 : AV) (H : Heap) (c : Nat) : Prop :=
  vSel y21
  (k23_5 P p Q y0 y1 y21 H c)
  (fun _ =>
  Q (.exit 0) [(0, y0), (1, y1), (21, y21)] H c)
def k23_6 (P : Program) (p : Lab) (Q : VPost) (x0 : AV) (x1 : AV) (c : Nat) (v19_14 : AV) (H14 : Heap) (l14 : List Lab) (f14 : Option (List Lab)) : Prop :=
  vNot v19_14 fun v20_15 =>
  (k23_3 P p Q x0 x1 v20_15 H14 (c + 11))
def k23_7 (P : Program) (p : Lab) (Q : VPost) (x0 : AV) (x1 : AV) (H : Heap) (c : Nat) (_ : Unit) : Prop :=
  vBin .sub .num x1 (.int .i64 1) fun v16_11 =>
  vIx 1 x0 v16_11 fun v17_12 =>
  vLoad 1 false v17_12 H fun v18_13 _ =>
  vCall false P 39 [v18_13] H ((c + 8) :: p) (k23_6 P p Q x0 x1 c)
def k23_8 (P : Program) (p : Lab) (Q : VPost) (y0 : AV) (y1 : AV) (H : Heap) (c : Nat) : Prop :=
  Q (.exit 0) [(0, y0), (1, y1), (21, (.bool false))] H c
def k23_9 (P : Program) (p : Lab) (Q : VPost) (x0 : AV) (x1 : AV) (H : Heap) (c : Nat) (_ : Unit) : Prop :=
  (k23_8 P p Q x0 x1 H (c + 11))
def V23_1 (P : Program) (p : Lab) (Q : VPost) (x0 x1 : AV) (H : Heap) (c : Nat) : Prop :=
  vBin .gtr .num x1 (.int .i64 0) fun v12_7 =>
  vSel v12_7
  (k23_7 P p Q x0 x1 H c)
  (k23_9 P p Q x0 x1 H c)
theorem vt23_1 (P : Program) (p : Lab) (Q : VPost) (x0 x1 : AV) (H : Heap) (c : Nat) : vc P p b23_1 Q [(0, x0), (1, x1)] H c = V23_1 P p Q x0 x1 H c := by kernel_rfl
theorem q23_0_e0 (P : Program) (p : Lab) (Q : VPost) (r : RL) (H : Heap) (c : Nat) : q23_0 P p Q (.exit 0) r H c = (vc P p r23_2 (vseqQ (vc P p r23_5 Q) Q) r H c) := rfl
def k23_11 (P : Program) (p : Lab) (Q : VPost) (y0 : AV) (y1 : AV) (y48 : AV) (H : Heap) (c : Nat) : Prop :=
  vBin .add .num y1 (.int .i64 1) fun v50_34 =>
  Q .normal [(0, y0), (1, v50_34)] H (c + 3)
def k23_12 (P : Program) (p : Lab) (Q : VPost) (y0 : AV) (y1 : AV) (y48 : AV) (H : Heap) (c : Nat) (_ : Unit) : Prop :=
  (k23_11 P p Q y0 y1 y48 H c)
def k23_10 (P : Program) (p : Lab) (Q : VPost) (y0 : AV) (y1 : AV) (y48 : AV) (H : Heap) (c : Nat) : Prop :=
  vSel y48
  (k23_12 P p Q y0 y1 y48 H c)
  (fun _ =>
  Q (.exit 4) [(0, y0), (1, y1), (48, y48)] H c)
def k23_13 (P : Program) (p : Lab) (Q : VPost) (x0 : AV) (x1 : AV) (c : Nat) (v46_30 : AV) (H30 : Heap) (l30 : List Lab) (f30 : Option (List Lab)) : Prop :=
  vNot v46_30 fun v47_31 =>
  (k23_10 P p Q x0 x1 v47_31 H30 (c + 12))
def k23_14 (P : Program) (p : Lab) (Q : VPost) (x0 : AV) (x1 : AV) (H : Heap) (c : Nat) (_ : Unit) : Prop :=
  vIx 1 x0 x1 fun v44_28 =>
  vLoad 1 false v44_28 H fun v45_29 _ =>
  vCall false P 39 [v45_29] H ((c + 9) :: p) (k23_13 P p Q x0 x1 c)
def k23_15 (P : Program) (p : Lab) (Q : VPost) (y0 : AV) (y1 : AV) (H : Heap) (c : Nat) : Prop :=
  Q (.exit 4) [(0, y0), (1, y1), (48, (.bool false))] H c
def k23_16 (P : Program) (p : Lab) (Q : VPost) (x0 : AV) (x1 : AV) (H : Heap) (c : Nat) (_ : Unit) : Prop :=
  (k23_15 P p Q x0 x1 H (c + 12))
def V23_6 (P : Program) (p : Lab) (Q : VPost) (x0 x1 : AV) (H : Heap) (c : Nat) : Prop :=
  vLen x0 fun v39_23 =>
  vBin .lss .num x1 v39_23 fun v40_24 =>
  vSel v40_24
  (k23_14 P p Q x0 x1 H c)
  (k23_16 P p Q x0 x1 H c)
theorem vt23_6 (P : Program) (p : Lab) (Q : VPost) (x0 x1 : AV) (H : Heap) (c : Nat) : vc P p b23_6 Q [(0, x0), (1, x1)] H c = V23_6 P p Q x0 x1 H c := by kernel_rfl
theorem q23_1_e4 (P : Program) (p : Lab) (Q : VPost) (r : RL) (H : Heap) (c : Nat) : q23_1 P p Q (.exit 4) r H c = (vc P p r23_7 Q r H c) := rfl
def q23_2 (P : Program) (p : Lab) (Q : VPost) : VPost := (vblockQ 2 (vseqQ (vc P p r23_4 Q) Q))
theorem q23_2_ret (P : Program) (p : Lab) (Q : VPost) (r : RL) (H : Heap) (c : Nat) : q23_2 P p Q .ret r H c = Q .ret r H c := rfl
def V23_2 (P : Program) (p : Lab) (Q : VPost) (x0 x1 x21 : AV) (H : Heap) (c : Nat) : Prop :=
  vc P p l23_3 (q23_2 P p Q) [(0, x0), (1, x1), (21, x21)] H c
theorem vt23_2 (P : Program) (p : Lab) (Q : VPost) (x0 x1 x21 : AV) (H : Heap) (c : Nat) : vc P p r23_2 Q [(0, x0), (1, x1), (21, x21)] H c = V23_2 P p Q x0 x1 x21 H c := by kernel_rfl
def q23_3 (P : Program) (p : Lab) (Q : VPost) : VPost := (vblockQ 6 (vseqQ (vc P p r23_9 Q) Q))
theorem q23_3_ret (P : Program) (p : Lab) (Q : VPost) (r : RL) (H : Heap) (c : Nat) : q23_3 P p Q .ret r H c = Q .ret r H c := rfl
def V23_7 (P : Program) (p : Lab) (Q : VPost) (x0 x1 x48 : AV) (H : Heap) (c : Nat) : Prop :=
  vc P p l23_8 (q23_3 P p Q) [(0, x0), (1, x1), (48, x48)] H c
theorem vt23_7 (P : Program) (p : Lab) (Q : VPost) (x0 x1 x48 : AV) (H : Heap) (c : Nat) : vc P p r23_7 Q [(0, x0), (1, x1), (48, x48)] H c = V23_7 P p Q x0 x1 x48 H c := by kernel_rfl
def k23_18 (P : Program) (p : Lab) (Q : VPost) (y0 : AV) (y1 : AV) (y33 : AV) (H : Heap) (c : Nat) : Prop :=
  vBin .sub .num y1 (.int .i64 1) fun v35_48 =>
  Q .normal [(0, y0), (1, v35_48)] H (c + 3)
def k23_19 (P : Program) (p : Lab) (Q : VPost) (y0 : AV) (y1 : AV) (y33 : AV) (H : Heap) (c : Nat) (_ : Unit) : Prop :=
  (k23_18 P p Q y0 y1 y33 H c)
def k23_17 (P : Program) (p : Lab) (Q : VPost) (y0 : AV) (y1 : AV) (y33 : AV) (H : Heap) (c : Nat) : Prop :=
  vSel y33
  (k23_19 P p Q y0 y1 y33 H c)
  (fun _ =>
  Q (.exit 2) [(0, y0), (1, y1), (33, y33)] H c)
def k23_20 (P : Program) (p : Lab) (Q : VPost) (x0 : AV) (x1 : AV) (c : Nat) (v32_45 : AV) (H45 : Heap) (l45 : List Lab) (f45 : Option (List Lab)) : Prop :=
  (k23_17 P p Q x0 x1 v32_45 H45 (c + 10))
def k23_21 (P : Program) (p : Lab) (Q : VPost) (x0 : AV) (x1 : AV) (H : Heap) (c : Nat) (_ : Unit) : Prop :=
  vBin .sub .num x1 (.int .i64 1) fun v29_42 =>
  vIx 1 x0 v29_42 fun v30_43 =>
  vLoad 1 false v30_43 H fun v31_44 _ =>
  vCall false P 39 [v31_44] H ((c + 8) :: p) (k23_20 P p Q x0 x1 c)
def k23_22 (P : Program) (p : Lab) (Q : VPost) (y0 : AV) (y1 : AV) (H : Heap) (c : Nat) : Prop :=
  Q (.exit 2) [(0, y0), (1, y1), (33, (.bool false))] H c
def k23_23 (P : Program) (p : Lab) (Q : VPost) (x0 : AV) (x1 : AV) (H : Heap) (c : Nat) (_ : Unit) : Prop :=
  (k23_22 P p Q x0 x1 H (c + 10))
def V23_3 (P : Program) (p : Lab) (Q : VPost) (x0 x1 : AV) (H : Heap) (c : Nat) : Prop :=
  vBin .gtr .num x1 (.int .i64 0) fun v25_38 =>
  vSel v25_38
  (k23_21 P p Q x0 x1 H c)
  (k23_23 P p Q x0 x1 H c)
theorem vt23_3 (P : Program) (p : Lab) (Q : VPost) (x0 x1 : AV) (H : Heap) (c : Nat) : vc P p b23_3 Q [(0, x0), (1, x1)] H c = V23_3 P p Q x0 x1 H c := by kernel_rfl
theorem q23_2_e2 (P : Program) (p : Lab) (Q : VPost) (r : RL) (H : Heap) (c : Nat) : q23_2 P p Q (.exit 2) r H c = (vc P p r23_4 Q r H c) := rfl
def k23_25 (P : Program) (p : Lab) (Q : VPost) (y0 : AV) (y1 : AV) (y61 : AV) (H : Heap) (c : Nat) : Prop :=
  vBin .add .num y1 (.int .i64 1) fun v63_63 =>
  Q .normal [(0, y0), (1, v63_63)] H (c + 3)
def k23_26 (P : Program) (p : Lab) (Q : VPost) (y0 : AV) (y1 : AV) (y61 : AV) (H : Heap) (c : Nat) (_ : Unit) : Prop :=
  (k23_25 P p Q y0 y1 y61 H c)
def k23_24 (P : Program) (p : Lab) (Q : VPost) (y0 : AV) (y1 : AV) (y61 : AV) (H : Heap) (c : Nat) : Prop :=
  vSel y61
  (k23_26 P p Q y0 y1 y61 H c)
  (fun _ =>
  Q (.exit 6) [(0, y0), (1, y1), (61, y61)] H c)
def k23_27 (P : Program) (p : Lab) (Q : VPost) (x0 : AV) (x1 : AV) (c : Nat) (v60_60 : AV) (H60 : Heap) (l60 : List Lab) (f60 : Option (List Lab)) : Prop :=
  (k23_24 P p Q x0 x1 v60_60 H60 (c + 11))
def k23_28 (P : Program) (p : Lab) (Q : VPost) (x0 : AV) (x1 : AV) (H : Heap) (c : Nat) (_ : Unit) : Prop :=
  vIx 1 x0 x1 fun v58_58 =>
  vLoad 1 false v58_58 H fun v59_59 _ =>
  vCall false P 39 [v59_59] H ((c + 9) :: p) (k23_27 P p Q x0 x1 c)
def k23_29 (P : Program) (p : Lab) (Q : VPost) (y0 : AV) (y1 : AV) (H : Heap) (c : Nat) : Prop :=
  Q (.exit 6) [(0, y0), (1, y1), (61, (.bool false))] H c
def k23_30 (P : Program) (p : Lab) (Q : VPost) (x0 : AV) (x1 : AV) (H : Heap) (c : Nat) (_ : Unit) : Prop :=
  (k23_29 P p Q x0 x1 H (c + 11))
def V23_8 (P : Program) (p : Lab) (Q : VPost) (x0 x1 : AV) (H : Heap) (c : Nat) : Prop :=
  vLen x0 fun v53_53 =>
  vBin .lss .num x1 v53_53 fun v54_54 =>
  vSel v54_54
  (k23_28 P p Q x0 x1 H c)
  (k23_30 P p Q x0 x1 H c)
theorem vt23_8 (P : Program) (p : Lab) (Q : VPost) (x0 x1 : AV) (H : Heap) (c : Nat) : vc P p b23_8 Q [(0, x0), (1, x1)] H c = V23_8 P p Q x0 x1 H c := by kernel_rfl
theorem q23_3_e6 (P : Program) (p : Lab) (Q : VPost) (r : RL) (H : Heap) (c : Nat) : q23_3 P p Q (.exit 6) r H c = (vc P p r23_9 Q r H c) := rfl
def V23_4 (P : Program) (p : Lab) (Q : VPost) (x0 x1 x33 : AV) (H : Heap) (c : Nat) : Prop :=
  Q .ret [(6, x1)] H (c + 2)
theorem vt23_4 (P : Program) (p : Lab) (Q : VPost) (x0 x1 x33 : AV) (H : Heap) (c : Nat) : vc P p r23_4 Q [(0, x0), (1, x1), (33, x33)] H c = V23_4 P p Q x0 x1 x33 H c := by kernel_rfl
def V23_9 (P : Program) (p : Lab) (Q : VPost) (x0 x1 x61 : AV) (H : Heap) (c : Nat) : Prop :=
  Q .ret [(6, x1)] H (c + 2)
theorem vt23_9 (P : Program) (p : Lab) (Q : VPost) (x0 x1 x61 : AV) (H : Heap) (c : Nat) : vc P p r23_9 Q [(0, x0), (1, x1), (61, x61)] H c = V23_9 P p Q x0 x1 x61 H c := by kernel_rfl

def b24_1 : ACode := (.seq (.seq (.region [⟨(some 5), none, .move, [.t 4]⟩, ⟨(some 6), none, .move, [.t 0]⟩, ⟨(some 7), none, (.len .num), [.t 6]⟩, ⟨(some 8), none, (.bin .lss .num), [.t 5, .t 7]⟩] none [0, 3, 4, 8])
  (.cond (.t 8) .skip
  (.exit 0)))
  (.seq (.block 1 (.region [⟨(some 11), none, .move, [.t 3]⟩, ⟨(some 12), none, .move, [.t 0]⟩, ⟨(some 13), none, .move, [.t 4]⟩, ⟨(some 14), none, .strAt, [.t 12, .t 13]⟩, ⟨(some 15), none, (.conv .i64), [.t 14]⟩, ⟨(some 16), none, (.buildSlice 1 [(.int .i64 0)] [(0, 1)]), [.t 15]⟩, ⟨(some 17), none, (.append 1 8), [.t 11, .t 16]⟩, ⟨(some 3), none, .move, [.t 17]⟩] none [0, 3, 4]))
  (.region [⟨(some 9), none, .move, [.t 4]⟩, ⟨(some 10), none, (.bin .add .num), [.t 9, .c (.int .i64 1)]⟩, ⟨(some 4), none, .move, [.t 10]⟩] none [0, 3, 4])))
def l24_1 : ACode := .loop [0, 3, 4] b24_1
def r24_2 : ACode := (.seq (.region [⟨(some 18), none, .move, [.t 3]⟩, ⟨(some 2), none, .move, [.t 18]⟩] none [2])
  .ret)
/-- duet/duetlaw18.runes -/
def c24 : AFun := ⟨1, 19, [.tmp 2],
  (.seq (.region [⟨(some 2), none, .move, [.c .nils]⟩] none [0])
  (.seq (.region [⟨(some 3), none, .move, [.c .nils]⟩] none [0, 3])
  (.seq (.seq (.region [⟨(some 4), none, .move, [.c (.int .i64 0)]⟩] none [0, 3, 4])
  (.block 0 l24_1)) r24_2)))⟩
theorem ok24 : FunOk Try.prog 24 c24 := ⟨⟨Try.f24, _, Try.func24, rfl, by kernel_rfl, by kernel_rfl, by kernel_rfl, by kernel_rfl⟩, by decide⟩
theorem res24 : c24.res = [.tmp 2] := rfl
def q24_0 (P : Program) (p : Lab) (Q : VPost) : VPost := (vblockQ 0 (vseqQ (vc P p r24_2 Q) Q))
theorem q24_0_ret (P : Program) (p : Lab) (Q : VPost) (r : RL) (H : Heap) (c : Nat) : q24_0 P p Q .ret r H c = Q .ret r H c := rfl
def V24 (P : Program) (p : Lab) (Q : VPost) (x0 : AV) (H : Heap) (c : Nat) : Prop :=
  vc P p l24_1 (q24_0 P p Q) [(0, x0), (3, .nils), (4, (.int .i64 0))] H (c + 3)
theorem vt24 (P : Program) (p : Lab) (Q : VPost) (x0 : AV) (H : Heap) (c : Nat) : vc P p c24.body Q [(0, x0)] H c = V24 P p Q x0 H c := by kernel_rfl
def k24_1 (P : Program) (p : Lab) (Q : VPost) (y0 : AV) (y3 : AV) (y4 : AV) (c : Nat) (v15_11 : AV) (H11 : Heap) (l11 : List Lab) (f11 : Option (List Lab)) : Prop :=
  vBuildS 1 [(.int .i64 0)] [(0, 1)] [v15_11] fun w12 n12 =>
  (fun (H12 : Heap) =>
  vGen (.append 1 8) [y3, (.sl ((c + 5) :: p) 1 0 n12)] H12 ((c + 6) :: p) (fun v17_13 H13 l13 f13 =>
  vBin .add .num y4 (.int .i64 1) fun v10_16 =>
  Q .normal [(0, y0), (3, v17_13), (4, v10_16)] H13 (c + 11))) (upd [(((c + 5) :: p), some (.rows 1 w12))] H11)
def k24_2 (P : Program) (p : Lab) (Q : VPost) (y0 : AV) (y3 : AV) (y4 : AV) (c : Nat) (v14_10 : AV) (H10 : Heap) (l10 : List Lab) (f10 : Option (List Lab)) : Prop :=
  vGen (.conv .i64) [v14_10] H10 ((c + 4) :: p) (k24_1 P p Q y0 y3 y4 c)
def k24_0 (P : Program) (p : Lab) (Q : VPost) (y0 : AV) (y3 : AV) (y4 : AV) (y8 : AV) (H : Heap) (c : Nat) : Prop :=
  vGen .strAt [y0, y4] H ((c + 3) :: p) (k24_2 P p Q y0 y3 y4 c)
def k24_3 (P : Program) (p : Lab) (Q : VPost) (v8_6 : AV) (H5 : Heap) (x0 : AV) (x3 : AV) (x4 : AV) (c : Nat) (_ : Unit) : Prop :=
  (k24_0 P p Q x0 x3 x4 v8_6 H5 (c + 4))
def k24_4 (P : Program) (p : Lab) (Q : VPost) (x0 : AV) (x3 : AV) (x4 : AV) (c : Nat) (v7_5 : AV) (H5 : Heap) (l5 : List Lab) (f5 : Option (List Lab)) : Prop :=
  vBin .lss .num x4 v7_5 fun v8_6 =>
  vSel v8_6
  (k24_3 P p Q v8_6 H5 x0 x3 x4 c)
  (fun _ =>
  Q (.exit 0) [(0, x0), (3, x3), (4, x4), (8, v8_6)] H5 (c + 4))
def V24_1 (P : Program) (p : Lab) (Q : VPost) (x0 x3 x4 : AV) (H : Heap) (c : Nat) : Prop :=
  vGen (.len .num) [x0] H ((c + 2) :: p) (k24_4 P p Q x0 x3 x4 c)
theorem vt24_1 (P : Program) (p : Lab) (Q : VPost) (x0 x3 x4 : AV) (H : Heap) (c : Nat) : vc P p b24_1 Q [(0, x0), (3, x3), (4, x4)] H c = V24_1 P p Q x0 x3 x4 H c := by kernel_rfl
theorem q24_0_e0 (P : Program) (p : Lab) (Q : VPost) (r : RL) (H : Heap) (c : Nat) : q24_0 P p Q (.exit 0) r H c = (vc P p r24_2 Q r H c) := rfl
def V24_2 (P : Program) (p : Lab) (Q : VPost) (x0 x3 x4 x8 : AV) (H : Heap) (c : Nat) : Prop :=
  Q .ret [(2, x3)] H (c + 2)
theorem vt24_2 (P : Program) (p : Lab) (Q : VPost) (x0 x3 x4 x8 : AV) (H : Heap) (c : Nat) : vc P p r24_2 Q [(0, x0), (3, x3), (4, x4), (8, x8)] H c = V24_2 P p Q x0 x3 x4 x8 H c := by kernel_rfl



end Go.Proofs.Ytbngfbpegdcpkaa
