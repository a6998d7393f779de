/- What is owed of functions of the program, as formulas. -/
import Derived.Test.YtoajcigegjhiaaaA26
import Derived.Test.YtoajcigegjhiaaaProg
import Derived.KernelRfl
namespace Go.Proofs.Ytoajcigegjhiaaa
set_option maxRecDepth 100000
set_option linter.unusedVariables false
set_option linter.unusedSimpArgs false
def b4_1 : ACode := (.seq (.seq (.region [⟨(some 36), none, .move, [.t 12]⟩, ⟨(some 37), none, .move, [.t 7]⟩, ⟨(some 38), none, (.len .slice), [.t 37]⟩, ⟨(some 39), none, (.bin .lss .num), [.t 36, .t 38]⟩] none [7, 8, 9, 10, 11, 12, 39])
  (.cond (.t 39) .skip
  (.exit 0)))
  (.seq (.block 1 (.region [⟨(some 42), none, .move, [.t 11]⟩, ⟨(some 43), none, .move, [.t 7]⟩, ⟨(some 44), none, .move, [.t 12]⟩, ⟨(some 45), none, (.indexAddr 2), [.t 43, .t 44]⟩, ⟨(some 46), none, (.fieldAddr 0), [.t 45]⟩, ⟨(some 47), none, (.load 1 false), [.t 46]⟩, ⟨(some 48), none, .move, [.t 7]⟩, ⟨(some 49), none, .move, [.t 12]⟩, ⟨(some 50), none, (.indexAddr 2), [.t 48, .t 49]⟩, ⟨(some 51), none, (.fieldAddr 1), [.t 50]⟩, ⟨(some 52), none, (.load 1 false), [.t 51]⟩, ⟨(some 53), none, (.build [(.int .i64 0), (.int .i64 0)] [(0, 1), (1, 1)]), [.t 47, .t 52]⟩, ⟨(some 54), none, (.buildSlice 2 [(.int .i64 0), (.int .i64 0)] [(0, 2)]), [.t 53]⟩, ⟨(some 55), none, (.append 2 16), [.t 42, .t 54]⟩, ⟨(some 11), none, .move, [.t 55]⟩] (some [0, 0, 0, 6, 14, 30, 0, 0, 192, 448, 960, 2046, 4094, 8191, 16383]) [7, 8, 9, 10, 11, 12]))
  (.region [⟨(some 40), none, .move, [.t 12]⟩, ⟨(some 41), none, (.bin .add .num), [.t 40, .c (.int .i64 1)]⟩, ⟨(some 12), none, .move, [.t 41]⟩] none [7, 8, 9, 10, 11, 12])))
def l4_1 : ACode := .loop [7, 8, 9, 10, 11, 12] b4_1
def r4_2 : ACode := (.seq (.region [⟨(some 56), none, .move, [.t 11]⟩, ⟨(some 57), none, .move, [.t 9]⟩, ⟨(some 58), none, .call, [.c (.fn (.func 26) [] []), .t 56, .t 57]⟩, ⟨(some 59), none, .move, [.t 58]⟩, ⟨(some 60), (some (59, true)), .move, [.t 8]⟩, ⟨(some 61), (some (59, true)), .move, [.t 10]⟩, ⟨(some 62), (some (59, true)), (.bin .eql .num), [.t 60, .t 61]⟩, ⟨(some 63), none, .pick, [.t 59, .t 62, .c (.bool false)]⟩, ⟨(some 64), none, .move, [.t 63]⟩, ⟨(some 65), (some (64, true)), .call, [.c (.fn (.func 15) [] [])]⟩, ⟨(some 66), none, .pick, [.t 64, .t 65, .c (.bool false)]⟩, ⟨(some 6), none, .move, [.t 66]⟩] none [6])
  .ret)
/-- duet/duetlaw08.ResendAsks -/
def c4 : AFun := ⟨3, 67, [.tmp 6],
  (.seq (.region [⟨(some 6), none, .move, [.c (.bool false)]⟩] none [0, 1, 2])
  (.seq (.seq (.region [⟨(some 13), none, .move, [.t 0]⟩, ⟨(some 14), none, (.len .slice), [.t 13]⟩, ⟨(some 15), none, (.bin .gtr .num), [.t 14, .c (.int .i64 30)]⟩, ⟨(some 16), none, .move, [.t 15]⟩, ⟨(some 17), (some (16, false)), .move, [.t 1]⟩, ⟨(some 18), (some (16, false)), (.len .slice), [.t 17]⟩, ⟨(some 19), (some (16, false)), (.bin .gtr .num), [.t 18, .c (.int .i64 30)]⟩, ⟨(some 20), none, .pick, [.t 16, .c (.bool true), .t 19]⟩] none [0, 1, 2, 20])
  (.cond (.t 20) (.seq (.region [⟨(some 21), none, .call, [.c (.fn (.func 15) [] [])]⟩, ⟨(some 6), none, .move, [.t 21]⟩] none [6])
  .ret)
  .skip))
  (.seq (.region [⟨(some 23), none, .move, [.t 0]⟩, ⟨(some 24), none, .move, [.t 1]⟩, ⟨(some 25), none, .move, [.t 2]⟩, ⟨(some 26), none, .call, [.c (.fn (.func 24) [] []), .t 23, .t 24, .t 25]⟩, ⟨(some 22), none, .move, [.t 26]⟩, ⟨(some 27), none, (.extract 0), [.t 22]⟩, ⟨(some 28), none, (.extract 1), [.t 22]⟩, ⟨(some 7), none, .move, [.t 27]⟩, ⟨(some 8), none, .move, [.t 28]⟩] none [0, 1, 2, 7, 8])
  (.seq (.region [⟨(some 30), none, .move, [.t 0]⟩, ⟨(some 31), none, .move, [.t 1]⟩, ⟨(some 32), none, .move, [.t 2]⟩, ⟨(some 33), none, .call, [.c (.fn (.func 25) [] []), .t 30, .t 31, .t 32]⟩, ⟨(some 29), none, .move, [.t 33]⟩, ⟨(some 34), none, (.extract 0), [.t 29]⟩, ⟨(some 35), none, (.extract 1), [.t 29]⟩, ⟨(some 9), none, .move, [.t 34]⟩, ⟨(some 10), none, .move, [.t 35]⟩] none [7, 8, 9, 10])
  (.seq (.region [⟨(some 11), none, .move, [.c .nils]⟩] none [7, 8, 9, 10, 11])
  (.seq (.seq (.region [⟨(some 12), none, .move, [.c (.int .i64 0)]⟩] none [7, 8, 9, 10, 11, 12])
  (.block 0 l4_1)) r4_2))))))⟩
theorem ok4 : FunOk Try.prog 4 c4 := ⟨⟨Try.f4, _, Try.func4, rfl, by kernel_rfl, by kernel_rfl, by kernel_rfl, by kernel_rfl⟩, by decide⟩
theorem res4 : c4.res = [.tmp 6] := rfl
def k4_0 (P : Program) (p : Lab) (Q : VPost) (y0 : AV) (y1 : AV) (y2 : AV) (H : Heap) (c : Nat) : Prop :=
  vCall P 15 [] H (c :: p) (fun v21_6 H6 l6 f6 =>
  Q .ret [(6, v21_6)] H6 (c + 2))
def k4_1 (P : Program) (p : Lab) (Q : VPost) (x0 : AV) (x1 : AV) (x2 : AV) (H : Heap) (c : Nat) (_ : Unit) : Prop :=
  (k4_0 P p Q x0 x1 x2 H (c + 9))
def k4_3 (P : Program) (p : Lab) (Q : VPost) (y6 : AV) (H : Heap) (c : Nat) : Prop :=
  Q .ret [(6, y6)] H c
def k4_4 (P : Program) (p : Lab) (Q : VPost) (c : Nat) (v21_12 : AV) (H12 : Heap) (l12 : List Lab) (f12 : Option (List Lab)) : Prop :=
  (k4_3 P p Q v21_12 H12 (c + 2))
def k4_5 (P : Program) (p : Lab) (Q : VPost) (H : Heap) (c : Nat) (_ : Unit) : Prop :=
  vCall P 15 [] H (c :: p) (k4_4 P p Q c)
def q4_0 (P : Program) (p : Lab) (Q : VPost) : VPost := (vblockQ 0 (vseqQ (vc P p r4_2 Q) Q))
theorem q4_0_ret (P : Program) (p : Lab) (Q : VPost) (r : RL) (H : Heap) (c : Nat) : q4_0 P p Q .ret r H c = Q .ret r H c := rfl
def k4_7 (P : Program) (p : Lab) (Q : VPost) (v28_20 : AV) (v27_19 : AV) (c : Nat) (v33_26 : AV) (H26 : Heap) (l26 : List Lab) (f26 : Option (List Lab)) : Prop :=
  vExt 0 v33_26 fun v34_28 =>
  vExt 1 v33_26 fun v35_29 =>
  vc P p l4_1 (q4_0 P p Q) [(7, v27_19), (8, v28_20), (9, v34_28), (10, v35_29), (11, .nils), (12, (.int .i64 0))] H26 (c + 20)
def k4_8 (P : Program) (p : Lab) (Q : VPost) (y0 : AV) (y1 : AV) (y2 : AV) (c : Nat) (v26_17 : AV) (H17 : Heap) (l17 : List Lab) (f17 : Option (List Lab)) : Prop :=
  vExt 0 v26_17 fun v27_19 =>
  vExt 1 v26_17 fun v28_20 =>
  vCall P 25 [y0, y1, y2] H17 ((c + 12) :: p) (k4_7 P p Q v28_20 v27_19 c)
def k4_6 (P : Program) (p : Lab) (Q : VPost) (y0 : AV) (y1 : AV) (y2 : AV) (y20 : AV) (H : Heap) (c : Nat) : Prop :=
  vCall P 24 [y0, y1, y2] H ((c + 3) :: p) (k4_8 P p Q y0 y1 y2 c)
def k4_9 (P : Program) (p : Lab) (Q : VPost) (y0 : AV) (y1 : AV) (y2 : AV) (y20 : AV) (H : Heap) (c : Nat) (_ : Unit) : Prop :=
  (k4_6 P p Q y0 y1 y2 y20 H c)
def k4_2 (P : Program) (p : Lab) (Q : VPost) (y0 : AV) (y1 : AV) (y2 : AV) (y20 : AV) (H : Heap) (c : Nat) : Prop :=
  vSel y20
  (k4_5 P p Q H c)
  (k4_9 P p Q y0 y1 y2 y20 H c)
def k4_10 (P : Program) (p : Lab) (Q : VPost) (x0 : AV) (x1 : AV) (x2 : AV) (H : Heap) (c : Nat) (_ : Unit) : Prop :=
  vLen x1 fun v18_9 =>
  vBin .gtr .num v18_9 (.int .i64 30) fun v19_10 =>
  (k4_2 P p Q x0 x1 x2 v19_10 H (c + 9))
def V4 (P : Program) (p : Lab) (Q : VPost) (x0 x1 x2 : AV) (H : Heap) (c : Nat) : Prop :=
  vLen x0 fun v14_2 =>
  vBin .gtr .num v14_2 (.int .i64 30) fun v15_3 =>
  vSel v15_3
  (k4_1 P p Q x0 x1 x2 H c)
  (k4_10 P p Q x0 x1 x2 H c)
theorem vt4 (P : Program) (p : Lab) (Q : VPost) (x0 x1 x2 : AV) (H : Heap) (c : Nat) : vc P p c4.body Q [(0, x0), (1, x1), (2, x2)] H c = V4 P p Q x0 x1 x2 H c := by kernel_rfl
def k4_12 (P : Program) (p : Lab) (Q : VPost) (f48 : Option (List Lab)) (f43 : Option (List Lab)) (y7 : AV) (y8 : AV) (y9 : AV) (y10 : AV) (y12 : AV) (c : Nat) (v55_51 : AV) (H51 : Heap) (l51 : List Lab) (f51 : Option (List Lab)) : Prop :=
  clashFree [0, 0, 0, 6, 14, 30, 0, 0, 192, 448, 960, 2046, 4094, 8191, 16383] (addTr 5 [] ((c + 5) :: p) f43 (addTr 10 [] ((c + 10) :: p) f48 (addTr 12 [((c + 12) :: p)] ((c + 12) :: p) (some []) (addTr 13 l51 ((c + 13) :: p) f51 [])))) ∧
  vBin .add .num y12 (.int .i64 1) fun v41_54 =>
  Q .normal [(7, y7), (8, y8), (9, y9), (10, y10), (11, v55_51), (12, v41_54)] H51 (c + 18)
def k4_11 (P : Program) (p : Lab) (Q : VPost) (y7 : AV) (y8 : AV) (y9 : AV) (y10 : AV) (y11 : AV) (y12 : AV) (y39 : AV) (H : Heap) (c : Nat) : Prop :=
  vIx 2 y7 y12 fun v45_41 =>
  vFA 0 v45_41 fun v46_42 =>
  vLoad 1 false v46_42 H fun v47_43 f43 =>
  vIx 2 y7 y12 fun v50_46 =>
  vFA 1 v50_46 fun v51_47 =>
  vLoad 1 false v51_47 H fun v52_48 f48 =>
  vBuild [(.int .i64 0), (.int .i64 0)] [(0, 1), (1, 1)] [v47_43, v52_48] fun v53_49 =>
  vBuildS 2 [(.int .i64 0), (.int .i64 0)] [(0, 2)] [v53_49] fun w50 n50 =>
  (fun (H50 : Heap) =>
  vGen (.append 2 16) [y11, (.sl ((c + 12) :: p) 2 0 n50)] H50 ((c + 13) :: p) (k4_12 P p Q f48 f43 y7 y8 y9 y10 y12 c)) (upd [(((c + 12) :: p), some (.rows 2 w50))] H)
def k4_13 (P : Program) (p : Lab) (Q : VPost) (v39_37 : AV) (x7 : AV) (x8 : AV) (x9 : AV) (x10 : AV) (x11 : AV) (x12 : AV) (H : Heap) (c : Nat) (_ : Unit) : Prop :=
  (k4_11 P p Q x7 x8 x9 x10 x11 x12 v39_37 H (c + 4))
def V4_1 (P : Program) (p : Lab) (Q : VPost) (x7 x8 x9 x10 x11 x12 : AV) (H : Heap) (c : Nat) : Prop :=
  vLen x7 fun v38_36 =>
  vBin .lss .num x12 v38_36 fun v39_37 =>
  vSel v39_37
  (k4_13 P p Q v39_37 x7 x8 x9 x10 x11 x12 H c)
  (fun _ =>
  Q (.exit 0) [(7, x7), (8, x8), (9, x9), (10, x10), (11, x11), (12, x12), (39, v39_37)] H (c + 4))
theorem vt4_1 (P : Program) (p : Lab) (Q : VPost) (x7 x8 x9 x10 x11 x12 : AV) (H : Heap) (c : Nat) : vc P p b4_1 Q [(7, x7), (8, x8), (9, x9), (10, x10), (11, x11), (12, x12)] H c = V4_1 P p Q x7 x8 x9 x10 x11 x12 H c := by kernel_rfl
theorem q4_0_e0 (P : Program) (p : Lab) (Q : VPost) (r : RL) (H : Heap) (c : Nat) : q4_0 P p Q (.exit 0) r H c = (vc P p r4_2 Q r H c) := rfl
def k4_15 (P : Program) (p : Lab) (Q : VPost) (y6 : AV) (H : Heap) (c : Nat) : Prop :=
  Q .ret [(6, y6)] H c
def k4_16 (P : Program) (p : Lab) (Q : VPost) (c : Nat) (v65_65 : AV) (H65 : Heap) (l65 : List Lab) (f65 : Option (List Lab)) : Prop :=
  (k4_15 P p Q v65_65 H65 (c + 5))
def k4_17 (P : Program) (p : Lab) (Q : VPost) (H : Heap) (c : Nat) (_ : Unit) : Prop :=
  vCall P 15 [] H ((c + 2) :: p) (k4_16 P p Q c)
def k4_18 (P : Program) (p : Lab) (Q : VPost)  (H : Heap) (c : Nat) : Prop :=
  Q .ret [(6, (.bool false))] H c
def k4_19 (P : Program) (p : Lab) (Q : VPost) (H : Heap) (c : Nat) (_ : Unit) : Prop :=
  (k4_18 P p Q  H (c + 5))
def k4_14 (P : Program) (p : Lab) (Q : VPost) (y62 : AV) (H : Heap) (c : Nat) : Prop :=
  vSel y62
  (k4_17 P p Q H c)
  (k4_19 P p Q H c)
def k4_20 (P : Program) (p : Lab) (Q : VPost) (H58 : Heap) (x8 : AV) (x10 : AV) (c : Nat) (_ : Unit) : Prop :=
  vBin .eql .num x8 x10 fun v62_62 =>
  (k4_14 P p Q v62_62 H58 (c + 7))
def k4_21 (P : Program) (p : Lab) (Q : VPost)  (H : Heap) (c : Nat) : Prop :=
  (k4_18 P p Q  H (c + 5))
def k4_22 (P : Program) (p : Lab) (Q : VPost) (H58 : Heap) (c : Nat) (_ : Unit) : Prop :=
  (k4_21 P p Q  H58 (c + 7))
def k4_23 (P : Program) (p : Lab) (Q : VPost) (x8 : AV) (x10 : AV) (c : Nat) (v58_58 : AV) (H58 : Heap) (l58 : List Lab) (f58 : Option (List Lab)) : Prop :=
  vSel v58_58
  (k4_20 P p Q H58 x8 x10 c)
  (k4_22 P p Q H58 c)
def V4_2 (P : Program) (p : Lab) (Q : VPost) (x7 x8 x9 x10 x11 x12 x39 : AV) (H : Heap) (c : Nat) : Prop :=
  vCall P 26 [x11, x9] H ((c + 2) :: p) (k4_23 P p Q x8 x10 c)
theorem vt4_2 (P : Program) (p : Lab) (Q : VPost) (x7 x8 x9 x10 x11 x12 x39 : AV) (H : Heap) (c : Nat) : vc P p r4_2 Q [(7, x7), (8, x8), (9, x9), (10, x10), (11, x11), (12, x12), (39, x39)] H c = V4_2 P p Q x7 x8 x9 x10 x11 x12 x39 H c := by kernel_rfl

def b28_1 : ACode := (.seq (.seq (.region [⟨(some 5), none, .move, [.t 4]⟩, ⟨(some 6), none, .move, [.t 0]⟩, ⟨(some 7), none, (.bin .lss .num), [.t 5, .t 6]⟩] none [0, 3, 4, 7])
  (.cond (.t 7) .skip
  (.exit 0)))
  (.seq (.block 1 (.region [⟨(some 10), none, .move, [.t 3]⟩, ⟨(some 11), none, (.buildSlice 1 [(.int .i64 0)] [(0, 1)]), [.c (.int .i64 0)]⟩, ⟨(some 12), none, (.append 1 8), [.t 10, .t 11]⟩, ⟨(some 3), none, .move, [.t 12]⟩] none [0, 3, 4]))
  (.region [⟨(some 8), none, .move, [.t 4]⟩, ⟨(some 9), none, (.bin .add .num), [.t 8, .c (.int .i64 1)]⟩, ⟨(some 4), none, .move, [.t 9]⟩] none [0, 3, 4])))
def l28_1 : ACode := .loop [0, 3, 4] b28_1
def r28_2 : ACode := (.seq (.region [⟨(some 13), none, .move, [.t 3]⟩, ⟨(some 2), none, .move, [.t 13]⟩] none [2])
  .ret)
/-- duet/duetref06.Zero -/
def c28 : AFun := ⟨1, 14, [.tmp 2],
  (.seq (.region [⟨(some 2), none, .move, [.c .nils]⟩] none [0])
  (.seq (.region [⟨(some 3), none, .move, [.c .nils]⟩] none [0, 3])
  (.seq (.seq (.region [⟨(some 4), none, .move, [.c (.int .i64 0)]⟩] none [0, 3, 4])
  (.block 0 l28_1)) r28_2)))⟩
theorem ok28 : FunOk Try.prog 28 c28 := ⟨⟨Try.f28, _, Try.func28, rfl, by kernel_rfl, by kernel_rfl, by kernel_rfl, by kernel_rfl⟩, by decide⟩
theorem res28 : c28.res = [.tmp 2] := rfl
def q28_0 (P : Program) (p : Lab) (Q : VPost) : VPost := (vblockQ 0 (vseqQ (vc P p r28_2 Q) Q))
theorem q28_0_ret (P : Program) (p : Lab) (Q : VPost) (r : RL) (H : Heap) (c : Nat) : q28_0 P p Q .ret r H c = Q .ret r H c := rfl
def V28 (P : Program) (p : Lab) (Q : VPost) (x0 : AV) (H : Heap) (c : Nat) : Prop :=
  vc P p l28_1 (q28_0 P p Q) [(0, x0), (3, .nils), (4, (.int .i64 0))] H (c + 3)
theorem vt28 (P : Program) (p : Lab) (Q : VPost) (x0 : AV) (H : Heap) (c : Nat) : vc P p c28.body Q [(0, x0)] H c = V28 P p Q x0 H c := by kernel_rfl
def k28_0 (P : Program) (p : Lab) (Q : VPost) (y0 : AV) (y3 : AV) (y4 : AV) (y7 : AV) (H : Heap) (c : Nat) : Prop :=
  vBuildS 1 [(.int .i64 0)] [(0, 1)] [(.int .i64 0)] fun w7 n7 =>
  (fun (H7 : Heap) =>
  vGen (.append 1 8) [y3, (.sl ((c + 1) :: p) 1 0 n7)] H7 ((c + 2) :: p) (fun v12_8 H8 l8 f8 =>
  vBin .add .num y4 (.int .i64 1) fun v9_11 =>
  Q .normal [(0, y0), (3, v12_8), (4, v9_11)] H8 (c + 7))) (upd [(((c + 1) :: p), some (.rows 1 w7))] H)
def k28_1 (P : Program) (p : Lab) (Q : VPost) (v7_5 : AV) (x0 : AV) (x3 : AV) (x4 : AV) (H : Heap) (c : Nat) (_ : Unit) : Prop :=
  (k28_0 P p Q x0 x3 x4 v7_5 H (c + 3))
def V28_1 (P : Program) (p : Lab) (Q : VPost) (x0 x3 x4 : AV) (H : Heap) (c : Nat) : Prop :=
  vBin .lss .num x4 x0 fun v7_5 =>
  vSel v7_5
  (k28_1 P p Q v7_5 x0 x3 x4 H c)
  (fun _ =>
  Q (.exit 0) [(0, x0), (3, x3), (4, x4), (7, v7_5)] H (c + 3))
theorem vt28_1 (P : Program) (p : Lab) (Q : VPost) (x0 x3 x4 : AV) (H : Heap) (c : Nat) : vc P p b28_1 Q [(0, x0), (3, x3), (4, x4)] H c = V28_1 P p Q x0 x3 x4 H c := by kernel_rfl
theorem q28_0_e0 (P : Program) (p : Lab) (Q : VPost) (r : RL) (H : Heap) (c : Nat) : q28_0 P p Q (.exit 0) r H c = (vc P p r28_2 Q r H c) := rfl
def V28_2 (P : Program) (p : Lab) (Q : VPost) (x0 x3 x4 x7 : AV) (H : Heap) (c : Nat) : Prop :=
  Q .ret [(2, x3)] H (c + 2)
theorem vt28_2 (P : Program) (p : Lab) (Q : VPost) (x0 x3 x4 x7 : AV) (H : Heap) (c : Nat) : vc P p r28_2 Q [(0, x0), (3, x3), (4, x4), (7, x7)] H c = V28_2 P p Q x0 x3 x4 x7 H c := by kernel_rfl


/-- (duet/vec.Vec).Covers -/
def c47 : AFun := ⟨3, 32, [.tmp 6],
  (.seq (.region [⟨(some 6), none, .move, [.c (.bool false)]⟩] none [0, 1, 2])
  (.seq (.region [⟨(some 7), none, .move, [.t 0]⟩, ⟨(some 8), none, .call, [.c (.fn (.func 46) [] []), .t 7]⟩, ⟨(some 9), none, (.bin .eql .num), [.t 8, .c (.int .i64 0)]⟩, ⟨(some 10), none, .move, [.t 9]⟩, ⟨(some 11), (some (10, true)), .move, [.t 1]⟩, ⟨(some 12), (some (10, true)), (.bin .geq .num), [.t 11, .c (.int .i64 0)]⟩, ⟨(some 13), none, .pick, [.t 10, .t 12, .c (.bool false)]⟩, ⟨(some 14), none, .move, [.t 13]⟩, ⟨(some 15), (some (14, true)), .move, [.t 1]⟩, ⟨(some 16), (some (14, true)), .move, [.t 0]⟩, ⟨(some 17), (some (14, true)), (.len .slice), [.t 16]⟩, ⟨(some 18), (some (14, true)), (.bin .lss .num), [.t 15, .t 17]⟩, ⟨(some 19), none, .pick, [.t 14, .t 18, .c (.bool false)]⟩, ⟨(some 20), none, .move, [.t 19]⟩, ⟨(some 21), (some (20, true)), .move, [.t 2]⟩, ⟨(some 22), (some (20, true)), (.bin .gtr .num), [.t 21, .c (.int .i64 0)]⟩, ⟨(some 23), none, .pick, [.t 20, .t 22, .c (.bool false)]⟩, ⟨(some 24), none, .move, [.t 23]⟩, ⟨(some 25), (some (24, true)), .move, [.t 2]⟩, ⟨(some 26), (some (24, true)), .move, [.t 0]⟩, ⟨(some 27), (some (24, true)), .move, [.t 1]⟩, ⟨(some 28), (some (24, true)), (.indexAddr 1), [.t 26, .t 27]⟩, ⟨(some 29), (some (24, true)), (.load 1 false), [.t 28]⟩, ⟨(some 30), (some (24, true)), (.bin .leq .num), [.t 25, .t 29]⟩, ⟨(some 31), none, .pick, [.t 24, .t 30, .c (.bool false)]⟩, ⟨(some 6), none, .move, [.t 31]⟩] none [6])
  .ret))⟩
theorem ok47 : FunOk Try.prog 47 c47 := ⟨⟨Try.f47, _, Try.func47, rfl, by kernel_rfl, by kernel_rfl, by kernel_rfl, by kernel_rfl⟩, by decide⟩
theorem res47 : c47.res = [.tmp 6] := rfl
def k47_3 (P : Program) (p : Lab) (Q : VPost) (y6 : AV) (H : Heap) (c : Nat) : Prop :=
  Q .ret [(6, y6)] H c
def k47_4 (P : Program) (p : Lab) (Q : VPost) (y0 : AV) (y1 : AV) (y2 : AV) (H : Heap) (c : Nat) (_ : Unit) : Prop :=
  vIx 1 y0 y1 fun v28_22 =>
  vLoad 1 false v28_22 H fun v29_23 _ =>
  vBin .leq .num y2 v29_23 fun v30_24 =>
  (k47_3 P p Q v30_24 H (c + 10))
def k47_5 (P : Program) (p : Lab) (Q : VPost)  (H : Heap) (c : Nat) : Prop :=
  Q .ret [(6, (.bool false))] H c
def k47_6 (P : Program) (p : Lab) (Q : VPost) (H : Heap) (c : Nat) (_ : Unit) : Prop :=
  (k47_5 P p Q  H (c + 10))
def k47_2 (P : Program) (p : Lab) (Q : VPost) (y0 : AV) (y1 : AV) (y2 : AV) (y22 : AV) (H : Heap) (c : Nat) : Prop :=
  vSel y22
  (k47_4 P p Q y0 y1 y2 H c)
  (k47_6 P p Q H c)
def k47_7 (P : Program) (p : Lab) (Q : VPost) (y0 : AV) (y1 : AV) (y2 : AV) (H : Heap) (c : Nat) (_ : Unit) : Prop :=
  vBin .gtr .num y2 (.int .i64 0) fun v22_16 =>
  (k47_2 P p Q y0 y1 y2 v22_16 H (c + 4))
def k47_8 (P : Program) (p : Lab) (Q : VPost) (y0 : AV) (y1 : AV) (y2 : AV) (H : Heap) (c : Nat) : Prop :=
  (k47_5 P p Q  H (c + 10))
def k47_9 (P : Program) (p : Lab) (Q : VPost) (y0 : AV) (y1 : AV) (y2 : AV) (H : Heap) (c : Nat) (_ : Unit) : Prop :=
  (k47_8 P p Q y0 y1 y2 H (c + 4))
def k47_1 (P : Program) (p : Lab) (Q : VPost) (y0 : AV) (y1 : AV) (y2 : AV) (y18 : AV) (H : Heap) (c : Nat) : Prop :=
  vSel y18
  (k47_7 P p Q y0 y1 y2 H c)
  (k47_9 P p Q y0 y1 y2 H c)
def k47_10 (P : Program) (p : Lab) (Q : VPost) (y0 : AV) (y1 : AV) (y2 : AV) (H : Heap) (c : Nat) (_ : Unit) : Prop :=
  vLen y0 fun v17_11 =>
  vBin .lss .num y1 v17_11 fun v18_12 =>
  (k47_1 P p Q y0 y1 y2 v18_12 H (c + 6))
def k47_12 (P : Program) (p : Lab) (Q : VPost) (y0 : AV) (y1 : AV) (y2 : AV) (H : Heap) (c : Nat) : Prop :=
  (k47_5 P p Q  H (c + 10))
def k47_11 (P : Program) (p : Lab) (Q : VPost) (y0 : AV) (y1 : AV) (y2 : AV) (H : Heap) (c : Nat) : Prop :=
  (k47_12 P p Q y0 y1 y2 H (c + 4))
def k47_13 (P : Program) (p : Lab) (Q : VPost) (y0 : AV) (y1 : AV) (y2 : AV) (H : Heap) (c : Nat) (_ : Unit) : Prop :=
  (k47_11 P p Q y0 y1 y2 H (c + 6))
def k47_0 (P : Program) (p : Lab) (Q : VPost) (y0 : AV) (y1 : AV) (y2 : AV) (y12 : AV) (H : Heap) (c : Nat) : Prop :=
  vSel y12
  (k47_10 P p Q y0 y1 y2 H c)
  (k47_13 P p Q y0 y1 y2 H c)
def k47_14 (P : Program) (p : Lab) (Q : VPost) (H2 : Heap) (x0 : AV) (x1 : AV) (x2 : AV) (c : Nat) (_ : Unit) : Prop :=
  vBin .geq .num x1 (.int .i64 0) fun v12_6 =>
  (k47_0 P p Q x0 x1 x2 v12_6 H2 (c + 7))
def k47_17 (P : Program) (p : Lab) (Q : VPost) (y0 : AV) (y1 : AV) (y2 : AV) (H : Heap) (c : Nat) : Prop :=
  (k47_5 P p Q  H (c + 10))
def k47_16 (P : Program) (p : Lab) (Q : VPost) (y0 : AV) (y1 : AV) (y2 : AV) (H : Heap) (c : Nat) : Prop :=
  (k47_17 P p Q y0 y1 y2 H (c + 4))
def k47_15 (P : Program) (p : Lab) (Q : VPost) (y0 : AV) (y1 : AV) (y2 : AV) (H : Heap) (c : Nat) : Prop :=
  (k47_16 P p Q y0 y1 y2 H (c + 6))
def k47_18 (P : Program) (p : Lab) (Q : VPost) (H2 : Heap) (x0 : AV) (x1 : AV) (x2 : AV) (c : Nat) (_ : Unit) : Prop :=
  (k47_15 P p Q x0 x1 x2 H2 (c + 7))
def k47_19 (P : Program) (p : Lab) (Q : VPost) (x0 : AV) (x1 : AV) (x2 : AV) (c : Nat) (v8_2 : AV) (H2 : Heap) (l2 : List Lab) (f2 : Option (List Lab)) : Prop :=
  vBin .eql .num v8_2 (.int .i64 0) fun v9_3 =>
  vSel v9_3
  (k47_14 P p Q H2 x0 x1 x2 c)
  (k47_18 P p Q H2 x0 x1 x2 c)
def V47 (P : Program) (p : Lab) (Q : VPost) (x0 x1 x2 : AV) (H : Heap) (c : Nat) : Prop :=
  vCall P 46 [x0] H ((c + 2) :: p) (k47_19 P p Q x0 x1 x2 c)
theorem vt47 (P : Program) (p : Lab) (Q : VPost) (x0 x1 x2 : AV) (H : Heap) (c : Nat) : vc P p c47.body Q [(0, x0), (1, x1), (2, x2)] H c = V47 P p Q x0 x1 x2 H c := by kernel_rfl


/-- duet/duetref06.Covers -/
def c49 : AFun := ⟨3, 31, [.tmp 6],
  (.seq (.region [⟨(some 6), none, .move, [.c (.bool false)]⟩] none [0, 1, 2])
  (.seq (.region [⟨(some 7), none, .move, [.t 0]⟩, ⟨(some 8), none, .call, [.c (.fn (.func 48) [] []), .t 7]⟩, ⟨(some 9), none, .move, [.t 8]⟩, ⟨(some 10), (some (9, true)), .move, [.t 1]⟩, ⟨(some 11), (some (9, true)), (.bin .geq .num), [.t 10, .c (.int .i64 0)]⟩, ⟨(some 12), none, .pick, [.t 9, .t 11, .c (.bool false)]⟩, ⟨(some 13), none, .move, [.t 12]⟩, ⟨(some 14), (some (13, true)), .move, [.t 1]⟩, ⟨(some 15), (some (13, true)), .move, [.t 0]⟩, ⟨(some 16), (some (13, true)), (.len .slice), [.t 15]⟩, ⟨(some 17), (some (13, true)), (.bin .lss .num), [.t 14, .t 16]⟩, ⟨(some 18), none, .pick, [.t 13, .t 17, .c (.bool false)]⟩, ⟨(some 19), none, .move, [.t 18]⟩, ⟨(some 20), (some (19, true)), .move, [.t 2]⟩, ⟨(some 21), (some (19, true)), (.bin .geq .num), [.t 20, .c (.int .i64 1)]⟩, ⟨(some 22), none, .pick, [.t 19, .t 21, .c (.bool false)]⟩, ⟨(some 23), none, .move, [.t 22]⟩, ⟨(some 24), (some (23, true)), .move, [.t 2]⟩, ⟨(some 25), (some (23, true)), .move, [.t 0]⟩, ⟨(some 26), (some (23, true)), .move, [.t 1]⟩, ⟨(some 27), (some (23, true)), (.indexAddr 1), [.t 25, .t 26]⟩, ⟨(some 28), (some (23, true)), (.load 1 false), [.t 27]⟩, ⟨(some 29), (some (23, true)), (.bin .leq .num), [.t 24, .t 28]⟩, ⟨(some 30), none, .pick, [.t 23, .t 29, .c (.bool false)]⟩, ⟨(some 6), none, .move, [.t 30]⟩] none [6])
  .ret))⟩
theorem ok49 : FunOk Try.prog 49 c49 := ⟨⟨Try.f49, _, Try.func49, rfl, by kernel_rfl, by kernel_rfl, by kernel_rfl, by kernel_rfl⟩, by decide⟩
theorem res49 : c49.res = [.tmp 6] := rfl
def k49_3 (P : Program) (p : Lab) (Q : VPost) (y6 : AV) (H : Heap) (c : Nat) : Prop :=
  Q .ret [(6, y6)] H c
def k49_4 (P : Program) (p : Lab) (Q : VPost) (y0 : AV) (y1 : AV) (y2 : AV) (H : Heap) (c : Nat) (_ : Unit) : Prop :=
  vIx 1 y0 y1 fun v27_21 =>
  vLoad 1 false v27_21 H fun v28_22 _ =>
  vBin .leq .num y2 v28_22 fun v29_23 =>
  (k49_3 P p Q v29_23 H (c + 10))
def k49_5 (P : Program) (p : Lab) (Q : VPost)  (H : Heap) (c : Nat) : Prop :=
  Q .ret [(6, (.bool false))] H c
def k49_6 (P : Program) (p : Lab) (Q : VPost) (H : Heap) (c : Nat) (_ : Unit) : Prop :=
  (k49_5 P p Q  H (c + 10))
def k49_2 (P : Program) (p : Lab) (Q : VPost) (y0 : AV) (y1 : AV) (y2 : AV) (y21 : AV) (H : Heap) (c : Nat) : Prop :=
  vSel y21
  (k49_4 P p Q y0 y1 y2 H c)
  (k49_6 P p Q H c)
def k49_7 (P : Program) (p : Lab) (Q : VPost) (y0 : AV) (y1 : AV) (y2 : AV) (H : Heap) (c : Nat) (_ : Unit) : Prop :=
  vBin .geq .num y2 (.int .i64 1) fun v21_15 =>
  (k49_2 P p Q y0 y1 y2 v21_15 H (c + 4))
def k49_8 (P : Program) (p : Lab) (Q : VPost) (y0 : AV) (y1 : AV) (y2 : AV) (H : Heap) (c : Nat) : Prop :=
  (k49_5 P p Q  H (c + 10))
def k49_9 (P : Program) (p : Lab) (Q : VPost) (y0 : AV) (y1 : AV) (y2 : AV) (H : Heap) (c : Nat) (_ : Unit) : Prop :=
  (k49_8 P p Q y0 y1 y2 H (c + 4))
def k49_1 (P : Program) (p : Lab) (Q : VPost) (y0 : AV) (y1 : AV) (y2 : AV) (y17 : AV) (H : Heap) (c : Nat) : Prop :=
  vSel y17
  (k49_7 P p Q y0 y1 y2 H c)
  (k49_9 P p Q y0 y1 y2 H c)
def k49_10 (P : Program) (p : Lab) (Q : VPost) (y0 : AV) (y1 : AV) (y2 : AV) (H : Heap) (c : Nat) (_ : Unit) : Prop :=
  vLen y0 fun v16_10 =>
  vBin .lss .num y1 v16_10 fun v17_11 =>
  (k49_1 P p Q y0 y1 y2 v17_11 H (c + 6))
def k49_12 (P : Program) (p : Lab) (Q : VPost) (y0 : AV) (y1 : AV) (y2 : AV) (H : Heap) (c : Nat) : Prop :=
  (k49_5 P p Q  H (c + 10))
def k49_11 (P : Program) (p : Lab) (Q : VPost) (y0 : AV) (y1 : AV) (y2 : AV) (H : Heap) (c : Nat) : Prop :=
  (k49_12 P p Q y0 y1 y2 H (c + 4))
def k49_13 (P : Program) (p : Lab) (Q : VPost) (y0 : AV) (y1 : AV) (y2 : AV) (H : Heap) (c : Nat) (_ : Unit) : Prop :=
  (k49_11 P p Q y0 y1 y2 H (c + 6))
def k49_0 (P : Program) (p : Lab) (Q : VPost) (y0 : AV) (y1 : AV) (y2 : AV) (y11 : AV) (H : Heap) (c : Nat) : Prop :=
  vSel y11
  (k49_10 P p Q y0 y1 y2 H c)
  (k49_13 P p Q y0 y1 y2 H c)
def k49_14 (P : Program) (p : Lab) (Q : VPost) (H2 : Heap) (x0 : AV) (x1 : AV) (x2 : AV) (c : Nat) (_ : Unit) : Prop :=
  vBin .geq .num x1 (.int .i64 0) fun v11_5 =>
  (k49_0 P p Q x0 x1 x2 v11_5 H2 (c + 6))
def k49_17 (P : Program) (p : Lab) (Q : VPost) (y0 : AV) (y1 : AV) (y2 : AV) (H : Heap) (c : Nat) : Prop :=
  (k49_5 P p Q  H (c + 10))
def k49_16 (P : Program) (p : Lab) (Q : VPost) (y0 : AV) (y1 : AV) (y2 : AV) (H : Heap) (c : Nat) : Prop :=
  (k49_17 P p Q y0 y1 y2 H (c + 4))
def k49_15 (P : Program) (p : Lab) (Q : VPost) (y0 : AV) (y1 : AV) (y2 : AV) (H : Heap) (c : Nat) : Prop :=
  (k49_16 P p Q y0 y1 y2 H (c + 6))
def k49_18 (P : Program) (p : Lab) (Q : VPost) (H2 : Heap) (x0 : AV) (x1 : AV) (x2 : AV) (c : Nat) (_ : Unit) : Prop :=
  (k49_15 P p Q x0 x1 x2 H2 (c + 6))
def k49_19 (P : Program) (p : Lab) (Q : VPost) (x0 : AV) (x1 : AV) (x2 : AV) (c : Nat) (v8_2 : AV) (H2 : Heap) (l2 : List Lab) (f2 : Option (List Lab)) : Prop :=
  vSel v8_2
  (k49_14 P p Q H2 x0 x1 x2 c)
  (k49_18 P p Q H2 x0 x1 x2 c)
def V49 (P : Program) (p : Lab) (Q : VPost) (x0 x1 x2 : AV) (H : Heap) (c : Nat) : Prop :=
  vCall P 48 [x0] H ((c + 2) :: p) (k49_19 P p Q x0 x1 x2 c)
theorem vt49 (P : Program) (p : Lab) (Q : VPost) (x0 x1 x2 : AV) (H : Heap) (c : Nat) : vc P p c49.body Q [(0, x0), (1, x1), (2, x2)] H c = V49 P p Q x0 x1 x2 H c := by kernel_rfl



end Go.Proofs.Ytoajcigegjhiaaa
