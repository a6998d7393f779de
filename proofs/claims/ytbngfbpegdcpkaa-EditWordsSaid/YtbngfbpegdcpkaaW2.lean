/- What is owed of functions of the program, as formulas. -/
import Derived.Test.YtbngfbpegdcpkaaA26
import Derived.Test.YtbngfbpegdcpkaaProg
import Derived.KernelRfl
namespace Go.Proofs.Ytbngfbpegdcpkaa
set_option maxRecDepth 100000
set_option linter.unusedVariables false
set_option linter.unusedSimpArgs false
/-- duet/duetlaw18.EditWords -/
def c9 : AFun := ⟨2, 80, [.tmp 4],
  (.seq (.region [⟨(some 4), none, .move, [.c (.bool false)]⟩] none [0, 1])
  (.seq (.seq (.region [⟨(some 7), none, .move, [.t 0]⟩, ⟨(some 8), none, (.len .slice), [.t 7]⟩, ⟨(some 9), none, (.bin .gtr .num), [.t 8, .c (.int .i64 300)]⟩, ⟨(some 10), none, .move, [.t 9]⟩, ⟨(some 11), (some (10, false)), .move, [.t 1]⟩, ⟨(some 12), (some (10, false)), (.bin .lss .num), [.t 11, .c (.int .i64 0)]⟩, ⟨(some 13), none, .pick, [.t 10, .c (.bool true), .t 12]⟩, ⟨(some 14), none, .move, [.t 13]⟩, ⟨(some 15), (some (14, false)), .move, [.t 1]⟩, ⟨(some 16), (some (14, false)), .move, [.t 0]⟩, ⟨(some 17), (some (14, false)), (.len .slice), [.t 16]⟩, ⟨(some 18), (some (14, false)), (.bin .gtr .num), [.t 15, .t 17]⟩, ⟨(some 19), none, .pick, [.t 14, .c (.bool true), .t 18]⟩] none [0, 1, 19])
  (.cond (.t 19) (.seq (.region [⟨(some 20), none, .call, [.c (.fn (.func 11) [] [])]⟩, ⟨(some 4), none, .move, [.t 20]⟩] none [4])
  .ret)
  .skip))
  (.seq (.region [⟨(some 21), none, .move, [.t 0]⟩, ⟨(some 22), none, .move, [.t 1]⟩, ⟨(some 23), none, .call, [.c (.fn (.func 22) [] []), .t 21, .t 22, .c (.bool false)]⟩, ⟨(some 5), none, .move, [.t 23]⟩] none [0, 1, 5])
  (.seq (.region [⟨(some 24), none, .move, [.t 0]⟩, ⟨(some 25), none, .move, [.t 1]⟩, ⟨(some 26), none, .call, [.c (.fn (.func 22) [] []), .t 24, .t 25, .c (.bool true)]⟩, ⟨(some 6), none, .move, [.t 26]⟩] none [0, 1, 5, 6])
  (.seq (.seq (.region [⟨(some 27), none, .move, [.t 5]⟩, ⟨(some 28), none, .move, [.t 1]⟩, ⟨(some 29), none, (.bin .lss .num), [.t 27, .t 28]⟩, ⟨(some 30), none, .move, [.t 29]⟩, ⟨(some 31), (some (30, false)), .move, [.t 6]⟩, ⟨(some 32), (some (30, false)), .move, [.t 1]⟩, ⟨(some 33), (some (30, false)), (.bin .gtr .num), [.t 31, .t 32]⟩, ⟨(some 34), none, .pick, [.t 30, .c (.bool true), .t 33]⟩, ⟨(some 35), none, .move, [.t 34]⟩, ⟨(some 36), (some (35, false)), .move, [.t 5]⟩, ⟨(some 37), (some (35, false)), .move, [.t 0]⟩, ⟨(some 38), (some (35, false)), (.len .slice), [.t 37]⟩, ⟨(some 39), (some (35, false)), (.bin .gtr .num), [.t 36, .t 38]⟩, ⟨(some 40), none, .pick, [.t 35, .c (.bool true), .t 39]⟩, ⟨(some 41), none, .move, [.t 40]⟩, ⟨(some 42), (some (41, false)), .move, [.t 6]⟩, ⟨(some 43), (some (41, false)), (.bin .lss .num), [.t 42, .c (.int .i64 0)]⟩, ⟨(some 44), none, .pick, [.t 41, .c (.bool true), .t 43]⟩] none [0, 5, 6, 44])
  (.cond (.t 44) (.seq (.region [⟨(some 4), none, .move, [.c (.bool false)]⟩] none [4])
  .ret)
  .skip))
  (.seq (.seq (.region [⟨(some 45), none, .move, [.t 5]⟩, ⟨(some 46), none, .move, [.t 0]⟩, ⟨(some 47), none, (.len .slice), [.t 46]⟩, ⟨(some 48), none, (.bin .lss .num), [.t 45, .t 47]⟩, ⟨(some 49), none, .move, [.t 48]⟩, ⟨(some 50), (some (49, true)), .move, [.t 5]⟩, ⟨(some 51), (some (49, true)), (.bin .gtr .num), [.t 50, .c (.int .i64 0)]⟩, ⟨(some 52), (some (49, true)), .move, [.t 51]⟩, ⟨(some 53), (some (52, true)), .move, [.t 0]⟩, ⟨(some 54), (some (52, true)), .move, [.t 5]⟩, ⟨(some 55), (some (52, true)), (.bin .sub .num), [.t 54, .c (.int .i64 1)]⟩, ⟨(some 56), (some (52, true)), .call, [.c (.fn (.func 22) [] []), .t 53, .t 55, .c (.bool false)]⟩, ⟨(some 57), (some (52, true)), .move, [.t 5]⟩, ⟨(some 58), (some (52, true)), (.bin .eql .num), [.t 56, .t 57]⟩, ⟨(some 59), (some (49, true)), .pick, [.t 52, .t 58, .c (.bool false)]⟩, ⟨(some 60), (some (49, true)), (.un .not), [.t 59]⟩, ⟨(some 61), none, .pick, [.t 49, .t 60, .c (.bool false)]⟩] none [0, 5, 6, 61])
  (.cond (.t 61) (.seq (.region [⟨(some 4), none, .move, [.c (.bool false)]⟩] none [4])
  .ret)
  .skip))
  (.seq (.seq (.region [⟨(some 62), none, .move, [.t 6]⟩, ⟨(some 63), none, (.bin .gtr .num), [.t 62, .c (.int .i64 0)]⟩, ⟨(some 64), none, .move, [.t 63]⟩, ⟨(some 65), (some (64, true)), .move, [.t 0]⟩, ⟨(some 66), (some (64, true)), .move, [.t 6]⟩, ⟨(some 67), (some (64, true)), (.bin .add .num), [.t 66, .c (.int .i64 1)]⟩, ⟨(some 68), (some (64, true)), .call, [.c (.fn (.func 22) [] []), .t 65, .t 67, .c (.bool true)]⟩, ⟨(some 69), (some (64, true)), .move, [.t 6]⟩, ⟨(some 70), (some (64, true)), (.bin .neq .num), [.t 68, .t 69]⟩, ⟨(some 71), none, .pick, [.t 64, .t 70, .c (.bool false)]⟩] none [0, 5, 71])
  (.cond (.t 71) (.seq (.region [⟨(some 4), none, .move, [.c (.bool false)]⟩] none [4])
  .ret)
  .skip))
  (.seq (.region [⟨(some 72), none, .move, [.t 0]⟩, ⟨(some 73), none, .move, [.t 5]⟩, ⟨(some 74), none, .call, [.c (.fn (.func 22) [] []), .t 72, .t 73, .c (.bool true)]⟩, ⟨(some 75), none, .move, [.t 5]⟩, ⟨(some 76), none, (.bin .leq .num), [.t 74, .t 75]⟩, ⟨(some 77), none, .move, [.t 76]⟩, ⟨(some 78), (some (77, true)), .call, [.c (.fn (.func 11) [] [])]⟩, ⟨(some 79), none, .pick, [.t 77, .t 78, .c (.bool false)]⟩, ⟨(some 4), none, .move, [.t 79]⟩] none [4])
  .ret))))))))⟩
theorem ok9 : FunOk Try.prog 9 c9 := ⟨⟨Try.f9, _, Try.func9, rfl, by kernel_rfl, by kernel_rfl, by kernel_rfl, by kernel_rfl⟩, by decide⟩
theorem res9 : c9.res = [.tmp 4] := rfl
def k9_1 (P : Program) (p : Lab) (Q : VPost) (y0 : AV) (y1 : AV) (H : Heap) (c : Nat) : Prop :=
  vCall P 11 [] H (c :: p) (fun v20_8 H8 l8 f8 =>
  Q .ret [(4, v20_8)] H8 (c + 2))
def k9_0 (P : Program) (p : Lab) (Q : VPost) (y0 : AV) (y1 : AV) (H : Heap) (c : Nat) : Prop :=
  (k9_1 P p Q y0 y1 H (c + 7))
def k9_2 (P : Program) (p : Lab) (Q : VPost) (x0 : AV) (x1 : AV) (H : Heap) (c : Nat) (_ : Unit) : Prop :=
  (k9_0 P p Q x0 x1 H (c + 7))
def k9_4 (P : Program) (p : Lab) (Q : VPost) (y0 : AV) (y1 : AV) (H : Heap) (c : Nat) (_ : Unit) : Prop :=
  (k9_1 P p Q y0 y1 H (c + 7))
def k9_6 (P : Program) (p : Lab) (Q : VPost) (y4 : AV) (H : Heap) (c : Nat) : Prop :=
  Q .ret [(4, y4)] H c
def k9_7 (P : Program) (p : Lab) (Q : VPost) (c : Nat) (v20_20 : AV) (H20 : Heap) (l20 : List Lab) (f20 : Option (List Lab)) : Prop :=
  (k9_6 P p Q v20_20 H20 (c + 2))
def k9_8 (P : Program) (p : Lab) (Q : VPost) (H : Heap) (c : Nat) (_ : Unit) : Prop :=
  vCall P 11 [] H (c :: p) (k9_7 P p Q c)
def k9_12 (P : Program) (p : Lab) (Q : VPost) (y0 : AV) (y5 : AV) (y6 : AV) (H : Heap) (c : Nat) : Prop :=
  Q .ret [(4, (.bool false))] H (c + 1)
def k9_11 (P : Program) (p : Lab) (Q : VPost) (y0 : AV) (y5 : AV) (y6 : AV) (H : Heap) (c : Nat) : Prop :=
  (k9_12 P p Q y0 y5 y6 H (c + 5))
def k9_10 (P : Program) (p : Lab) (Q : VPost) (y0 : AV) (y5 : AV) (y6 : AV) (H : Heap) (c : Nat) : Prop :=
  (k9_11 P p Q y0 y5 y6 H (c + 6))
def k9_13 (P : Program) (p : Lab) (Q : VPost) (v26_28 : AV) (H28 : Heap) (v23_24 : AV) (y0 : AV) (c : Nat) (_ : Unit) : Prop :=
  (k9_10 P p Q y0 v23_24 v26_28 H28 (c + 15))
def k9_15 (P : Program) (p : Lab) (Q : VPost) (y0 : AV) (y5 : AV) (y6 : AV) (H : Heap) (c : Nat) : Prop :=
  (k9_12 P p Q y0 y5 y6 H (c + 5))
def k9_16 (P : Program) (p : Lab) (Q : VPost) (y0 : AV) (y5 : AV) (y6 : AV) (H : Heap) (c : Nat) (_ : Unit) : Prop :=
  (k9_15 P p Q y0 y5 y6 H (c + 6))
def k9_18 (P : Program) (p : Lab) (Q : VPost) (y0 : AV) (y5 : AV) (y6 : AV) (H : Heap) (c : Nat) (_ : Unit) : Prop :=
  (k9_12 P p Q y0 y5 y6 H (c + 5))
def k9_20 (P : Program) (p : Lab) (Q : VPost)  (H : Heap) (c : Nat) : Prop :=
  Q .ret [(4, (.bool false))] H c
def k9_21 (P : Program) (p : Lab) (Q : VPost) (H : Heap) (c : Nat) (_ : Unit) : Prop :=
  (k9_20 P p Q  H (c + 1))
def k9_24 (P : Program) (p : Lab) (Q : VPost) (H : Heap) (c : Nat) (_ : Unit) : Prop :=
  (k9_20 P p Q  H (c + 1))
def k9_27 (P : Program) (p : Lab) (Q : VPost) (H : Heap) (c : Nat) (_ : Unit) : Prop :=
  (k9_20 P p Q  H (c + 1))
def k9_29 (P : Program) (p : Lab) (Q : VPost) (y4 : AV) (H : Heap) (c : Nat) : Prop :=
  Q .ret [(4, y4)] H c
def k9_30 (P : Program) (p : Lab) (Q : VPost) (c : Nat) (v78_94 : AV) (H94 : Heap) (l94 : List Lab) (f94 : Option (List Lab)) : Prop :=
  (k9_29 P p Q v78_94 H94 (c + 9))
def k9_31 (P : Program) (p : Lab) (Q : VPost) (H90 : Heap) (c : Nat) (_ : Unit) : Prop :=
  vCall P 11 [] H90 ((c + 6) :: p) (k9_30 P p Q c)
def k9_32 (P : Program) (p : Lab) (Q : VPost)  (H : Heap) (c : Nat) : Prop :=
  Q .ret [(4, (.bool false))] H c
def k9_33 (P : Program) (p : Lab) (Q : VPost) (H90 : Heap) (c : Nat) (_ : Unit) : Prop :=
  (k9_32 P p Q  H90 (c + 9))
def k9_34 (P : Program) (p : Lab) (Q : VPost) (y5 : AV) (c : Nat) (v74_90 : AV) (H90 : Heap) (l90 : List Lab) (f90 : Option (List Lab)) : Prop :=
  vBin .leq .num v74_90 y5 fun v76_92 =>
  vSel v76_92
  (k9_31 P p Q H90 c)
  (k9_33 P p Q H90 c)
def k9_28 (P : Program) (p : Lab) (Q : VPost) (y0 : AV) (y5 : AV) (y71 : AV) (H : Heap) (c : Nat) : Prop :=
  vCall P 22 [y0, y5, (.bool true)] H ((c + 2) :: p) (k9_34 P p Q y5 c)
def k9_35 (P : Program) (p : Lab) (Q : VPost) (y0 : AV) (y5 : AV) (y71 : AV) (H : Heap) (c : Nat) (_ : Unit) : Prop :=
  (k9_28 P p Q y0 y5 y71 H c)
def k9_26 (P : Program) (p : Lab) (Q : VPost) (y0 : AV) (y5 : AV) (y71 : AV) (H : Heap) (c : Nat) : Prop :=
  vSel y71
  (k9_27 P p Q H c)
  (k9_35 P p Q y0 y5 y71 H c)
def k9_36 (P : Program) (p : Lab) (Q : VPost) (y0 : AV) (y5 : AV) (y6 : AV) (c : Nat) (v68_83 : AV) (H83 : Heap) (l83 : List Lab) (f83 : Option (List Lab)) : Prop :=
  vBin .neq .num v68_83 y6 fun v70_85 =>
  (k9_26 P p Q y0 y5 v70_85 H83 (c + 10))
def k9_37 (P : Program) (p : Lab) (Q : VPost) (y0 : AV) (y5 : AV) (y6 : AV) (H : Heap) (c : Nat) (_ : Unit) : Prop :=
  vBin .add .num y6 (.int .i64 1) fun v67_82 =>
  vCall P 22 [y0, v67_82, (.bool true)] H ((c + 6) :: p) (k9_36 P p Q y0 y5 y6 c)
def k9_39 (P : Program) (p : Lab) (Q : VPost) (c : Nat) (v78_106 : AV) (H106 : Heap) (l106 : List Lab) (f106 : Option (List Lab)) : Prop :=
  (k9_29 P p Q v78_106 H106 (c + 9))
def k9_40 (P : Program) (p : Lab) (Q : VPost) (H102 : Heap) (c : Nat) (_ : Unit) : Prop :=
  vCall P 11 [] H102 ((c + 6) :: p) (k9_39 P p Q c)
def k9_41 (P : Program) (p : Lab) (Q : VPost) (H102 : Heap) (c : Nat) (_ : Unit) : Prop :=
  (k9_32 P p Q  H102 (c + 9))
def k9_42 (P : Program) (p : Lab) (Q : VPost) (y5 : AV) (c : Nat) (v74_102 : AV) (H102 : Heap) (l102 : List Lab) (f102 : Option (List Lab)) : Prop :=
  vBin .leq .num v74_102 y5 fun v76_104 =>
  vSel v76_104
  (k9_40 P p Q H102 c)
  (k9_41 P p Q H102 c)
def k9_38 (P : Program) (p : Lab) (Q : VPost) (y0 : AV) (y5 : AV) (H : Heap) (c : Nat) : Prop :=
  vCall P 22 [y0, y5, (.bool true)] H ((c + 2) :: p) (k9_42 P p Q y5 c)
def k9_43 (P : Program) (p : Lab) (Q : VPost) (y0 : AV) (y5 : AV) (H : Heap) (c : Nat) (_ : Unit) : Prop :=
  (k9_38 P p Q y0 y5 H (c + 10))
def k9_25 (P : Program) (p : Lab) (Q : VPost) (y0 : AV) (y5 : AV) (y6 : AV) (y61 : AV) (H : Heap) (c : Nat) : Prop :=
  vBin .gtr .num y6 (.int .i64 0) fun v63_78 =>
  vSel v63_78
  (k9_37 P p Q y0 y5 y6 H c)
  (k9_43 P p Q y0 y5 H c)
def k9_44 (P : Program) (p : Lab) (Q : VPost) (y0 : AV) (y5 : AV) (y6 : AV) (y61 : AV) (H : Heap) (c : Nat) (_ : Unit) : Prop :=
  (k9_25 P p Q y0 y5 y6 y61 H c)
def k9_23 (P : Program) (p : Lab) (Q : VPost) (y0 : AV) (y5 : AV) (y6 : AV) (y61 : AV) (H : Heap) (c : Nat) : Prop :=
  vSel y61
  (k9_24 P p Q H c)
  (k9_44 P p Q y0 y5 y6 y61 H c)
def k9_45 (P : Program) (p : Lab) (Q : VPost) (y0 : AV) (y5 : AV) (y6 : AV) (c : Nat) (v56_70 : AV) (H70 : Heap) (l70 : List Lab) (f70 : Option (List Lab)) : Prop :=
  vBin .eql .num v56_70 y5 fun v58_72 =>
  vNot v58_72 fun v60_74 =>
  (k9_23 P p Q y0 y5 y6 v60_74 H70 (c + 17))
def k9_46 (P : Program) (p : Lab) (Q : VPost) (y0 : AV) (y5 : AV) (y6 : AV) (H : Heap) (c : Nat) (_ : Unit) : Prop :=
  vBin .sub .num y5 (.int .i64 1) fun v55_69 =>
  vCall P 22 [y0, v55_69, (.bool false)] H ((c + 11) :: p) (k9_45 P p Q y0 y5 y6 c)
def k9_47 (P : Program) (p : Lab) (Q : VPost) (y0 : AV) (y5 : AV) (y6 : AV) (H : Heap) (c : Nat) (_ : Unit) : Prop :=
  vNot (.bool false) fun v60_112 =>
  (k9_23 P p Q y0 y5 y6 v60_112 H (c + 17))
def k9_48 (P : Program) (p : Lab) (Q : VPost) (y0 : AV) (y5 : AV) (y6 : AV) (H : Heap) (c : Nat) (_ : Unit) : Prop :=
  vBin .gtr .num y5 (.int .i64 0) fun v51_65 =>
  vSel v51_65
  (k9_46 P p Q y0 y5 y6 H c)
  (k9_47 P p Q y0 y5 y6 H c)
def k9_50 (P : Program) (p : Lab) (Q : VPost) (y0 : AV) (y5 : AV) (y6 : AV) (c : Nat) (v68_121 : AV) (H121 : Heap) (l121 : List Lab) (f121 : Option (List Lab)) : Prop :=
  vBin .neq .num v68_121 y6 fun v70_123 =>
  (k9_26 P p Q y0 y5 v70_123 H121 (c + 10))
def k9_51 (P : Program) (p : Lab) (Q : VPost) (y0 : AV) (y5 : AV) (y6 : AV) (H : Heap) (c : Nat) (_ : Unit) : Prop :=
  vBin .add .num y6 (.int .i64 1) fun v67_120 =>
  vCall P 22 [y0, v67_120, (.bool true)] H ((c + 6) :: p) (k9_50 P p Q y0 y5 y6 c)
def k9_52 (P : Program) (p : Lab) (Q : VPost) (y0 : AV) (y5 : AV) (H : Heap) (c : Nat) (_ : Unit) : Prop :=
  (k9_38 P p Q y0 y5 H (c + 10))
def k9_49 (P : Program) (p : Lab) (Q : VPost) (y0 : AV) (y5 : AV) (y6 : AV) (H : Heap) (c : Nat) : Prop :=
  vBin .gtr .num y6 (.int .i64 0) fun v63_116 =>
  vSel v63_116
  (k9_51 P p Q y0 y5 y6 H c)
  (k9_52 P p Q y0 y5 H c)
def k9_53 (P : Program) (p : Lab) (Q : VPost) (y0 : AV) (y5 : AV) (y6 : AV) (H : Heap) (c : Nat) (_ : Unit) : Prop :=
  (k9_49 P p Q y0 y5 y6 H (c + 17))
def k9_22 (P : Program) (p : Lab) (Q : VPost) (y0 : AV) (y5 : AV) (y6 : AV) (y44 : AV) (H : Heap) (c : Nat) : Prop :=
  vLen y0 fun v47_61 =>
  vBin .lss .num y5 v47_61 fun v48_62 =>
  vSel v48_62
  (k9_48 P p Q y0 y5 y6 H c)
  (k9_53 P p Q y0 y5 y6 H c)
def k9_54 (P : Program) (p : Lab) (Q : VPost) (y0 : AV) (y5 : AV) (y6 : AV) (y44 : AV) (H : Heap) (c : Nat) (_ : Unit) : Prop :=
  (k9_22 P p Q y0 y5 y6 y44 H c)
def k9_19 (P : Program) (p : Lab) (Q : VPost) (y0 : AV) (y5 : AV) (y6 : AV) (y44 : AV) (H : Heap) (c : Nat) : Prop :=
  vSel y44
  (k9_21 P p Q H c)
  (k9_54 P p Q y0 y5 y6 y44 H c)
def k9_55 (P : Program) (p : Lab) (Q : VPost) (y0 : AV) (y5 : AV) (y6 : AV) (H : Heap) (c : Nat) (_ : Unit) : Prop :=
  vBin .lss .num y6 (.int .i64 0) fun v43_56 =>
  (k9_19 P p Q y0 y5 y6 v43_56 H (c + 5))
def k9_17 (P : Program) (p : Lab) (Q : VPost) (y0 : AV) (y5 : AV) (y6 : AV) (y39 : AV) (H : Heap) (c : Nat) : Prop :=
  vSel y39
  (k9_18 P p Q y0 y5 y6 H c)
  (k9_55 P p Q y0 y5 y6 H c)
def k9_56 (P : Program) (p : Lab) (Q : VPost) (y0 : AV) (y5 : AV) (y6 : AV) (H : Heap) (c : Nat) (_ : Unit) : Prop :=
  vLen y0 fun v38_50 =>
  vBin .gtr .num y5 v38_50 fun v39_51 =>
  (k9_17 P p Q y0 y5 y6 v39_51 H (c + 6))
def k9_14 (P : Program) (p : Lab) (Q : VPost) (y0 : AV) (y5 : AV) (y6 : AV) (y33 : AV) (H : Heap) (c : Nat) : Prop :=
  vSel y33
  (k9_16 P p Q y0 y5 y6 H c)
  (k9_56 P p Q y0 y5 y6 H c)
def k9_57 (P : Program) (p : Lab) (Q : VPost) (v26_28 : AV) (H28 : Heap) (v23_24 : AV) (y0 : AV) (y1 : AV) (c : Nat) (_ : Unit) : Prop :=
  vBin .gtr .num v26_28 y1 fun v33_42 =>
  (k9_14 P p Q y0 v23_24 v26_28 v33_42 H28 (c + 15))
def k9_58 (P : Program) (p : Lab) (Q : VPost) (v23_24 : AV) (y0 : AV) (y1 : AV) (c : Nat) (v26_28 : AV) (H28 : Heap) (l28 : List Lab) (f28 : Option (List Lab)) : Prop :=
  vBin .lss .num v23_24 y1 fun v29_32 =>
  vSel v29_32
  (k9_13 P p Q v26_28 H28 v23_24 y0 c)
  (k9_57 P p Q v26_28 H28 v23_24 y0 y1 c)
def k9_59 (P : Program) (p : Lab) (Q : VPost) (y0 : AV) (y1 : AV) (c : Nat) (v23_24 : AV) (H24 : Heap) (l24 : List Lab) (f24 : Option (List Lab)) : Prop :=
  vCall P 22 [y0, y1, (.bool true)] H24 ((c + 6) :: p) (k9_58 P p Q v23_24 y0 y1 c)
def k9_9 (P : Program) (p : Lab) (Q : VPost) (y0 : AV) (y1 : AV) (y19 : AV) (H : Heap) (c : Nat) : Prop :=
  vCall P 22 [y0, y1, (.bool false)] H ((c + 2) :: p) (k9_59 P p Q y0 y1 c)
def k9_60 (P : Program) (p : Lab) (Q : VPost) (y0 : AV) (y1 : AV) (y19 : AV) (H : Heap) (c : Nat) (_ : Unit) : Prop :=
  (k9_9 P p Q y0 y1 y19 H c)
def k9_5 (P : Program) (p : Lab) (Q : VPost) (y0 : AV) (y1 : AV) (y19 : AV) (H : Heap) (c : Nat) : Prop :=
  vSel y19
  (k9_8 P p Q H c)
  (k9_60 P p Q y0 y1 y19 H c)
def k9_61 (P : Program) (p : Lab) (Q : VPost) (y0 : AV) (y1 : AV) (H : Heap) (c : Nat) (_ : Unit) : Prop :=
  vLen y0 fun v17_17 =>
  vBin .gtr .num y1 v17_17 fun v18_18 =>
  (k9_5 P p Q y0 y1 v18_18 H (c + 7))
def k9_3 (P : Program) (p : Lab) (Q : VPost) (y0 : AV) (y1 : AV) (y12 : AV) (H : Heap) (c : Nat) : Prop :=
  vSel y12
  (k9_4 P p Q y0 y1 H c)
  (k9_61 P p Q y0 y1 H c)
def k9_62 (P : Program) (p : Lab) (Q : VPost) (x0 : AV) (x1 : AV) (H : Heap) (c : Nat) (_ : Unit) : Prop :=
  vBin .lss .num x1 (.int .i64 0) fun v12_11 =>
  (k9_3 P p Q x0 x1 v12_11 H (c + 7))
def V9 (P : Program) (p : Lab) (Q : VPost) (x0 x1 : AV) (H : Heap) (c : Nat) : Prop :=
  vLen x0 fun v8_2 =>
  vBin .gtr .num v8_2 (.int .i64 300) fun v9_3 =>
  vSel v9_3
  (k9_2 P p Q x0 x1 H c)
  (k9_62 P p Q x0 x1 H c)
theorem vt9 (P : Program) (p : Lab) (Q : VPost) (x0 x1 : AV) (H : Heap) (c : Nat) : vc P p c9.body Q [(0, x0), (1, x1)] H c = V9 P p Q x0 x1 H c := by kernel_rfl



end Go.Proofs.Ytbngfbpegdcpkaa
