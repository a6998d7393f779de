/- What is owed of functions of the program, as formulas. -/
import Derived.Test.YtoajcigegjhiaaaA26
import Derived.Test.YtoajcigegjhiaaaProg
import Derived.KernelRfl
namespace Go.Proofs.Ytoajcigegjhiaaa
set_option maxRecDepth 100000
set_option linter.unusedVariables false
set_option linter.unusedSimpArgs false
def b24_2 : ACode := (.seq (.region [⟨(some 50), none, (.bin .lss .num), [.t 49, .t 48]⟩] none [1, 2, 10, 11, 12, 30, 31, 32, 48, 49, 50])
  (.seq (.cond (.t 50) .skip
  (.exit 2))
  (.seq (.block 3 (.seq (.region [⟨(some 51), none, .move, [.t 49]⟩, ⟨(some 13), none, .move, [.t 51]⟩] none [1, 2, 10, 11, 12, 13, 30, 31, 32, 48, 49])
  (.region [⟨(some 52), none, .move, [.t 10]⟩, ⟨(some 53), none, .move, [.t 11]⟩, ⟨(some 54), none, .move, [.t 12]⟩, ⟨(some 55), none, (.bin .add .num), [.t 54, .c (.int .i64 1)]⟩, ⟨(some 56), none, .move, [.t 13]⟩, ⟨(some 57), none, (.bin .add .num), [.t 55, .t 56]⟩, ⟨(some 58), none, (.build [(.int .i64 0), (.int .i64 0)] [(0, 1), (1, 1)]), [.t 53, .t 57]⟩, ⟨(some 59), none, (.buildSlice 2 [(.int .i64 0), (.int .i64 0)] [(0, 2)]), [.t 58]⟩, ⟨(some 60), none, (.append 2 16), [.t 52, .t 59]⟩, ⟨(some 10), none, .move, [.t 60]⟩] none [1, 2, 10, 11, 12, 30, 31, 32, 48, 49])))
  (.region [⟨(some 61), none, (.bin .add .num), [.t 49, .c (.int .i64 1)]⟩, ⟨(some 49), none, .move, [.t 61]⟩] none [1, 2, 10, 11, 12, 30, 31, 32, 48, 49]))))
def l24_2 : ACode := .loop [1, 2, 10, 11, 12, 30, 31, 32, 48, 49] b24_2
def r24_3 : ACode := (.region [⟨(some 62), none, (.bin .add .num), [.t 32, .c (.int .i64 1)]⟩, ⟨(some 32), none, .move, [.t 62]⟩] none [1, 2, 10, 30, 31, 32])
def b24_1 : ACode := (.seq (.region [⟨(some 33), none, (.bin .lss .num), [.t 32, .t 31]⟩] none [1, 2, 10, 30, 31, 32, 33])
  (.seq (.cond (.t 33) .skip
  (.exit 0))
  (.seq (.block 1 (.seq (.region [⟨(some 34), none, .move, [.t 32]⟩, ⟨(some 35), none, (.indexAddr 1), [.t 30, .t 32]⟩, ⟨(some 36), none, (.load 1 false), [.t 35]⟩, ⟨(some 11), none, .move, [.t 34]⟩, ⟨(some 12), none, .move, [.t 36]⟩] none [1, 2, 10, 11, 12, 30, 31, 32])
  (.seq (.region [⟨(some 37), none, .move, [.t 1]⟩, ⟨(some 38), none, .move, [.t 11]⟩, ⟨(some 39), none, (.indexAddr 1), [.t 37, .t 38]⟩, ⟨(some 40), none, (.load 1 false), [.t 39]⟩, ⟨(some 41), none, .move, [.t 12]⟩, ⟨(some 42), none, (.bin .sub .num), [.t 40, .t 41]⟩, ⟨(some 43), none, .max, [.t 42, .c (.int .i64 0)]⟩, ⟨(some 44), none, .move, [.t 2]⟩, ⟨(some 45), none, .move, [.t 10]⟩, ⟨(some 46), none, (.len .slice), [.t 45]⟩, ⟨(some 47), none, (.bin .sub .num), [.t 44, .t 46]⟩, ⟨(some 48), none, .min, [.t 43, .t 47]⟩, ⟨(some 49), none, .move, [.c (.int .i64 0)]⟩] none [1, 2, 10, 11, 12, 30, 31, 32, 48, 49])
  (.block 2 l24_2)))) r24_3)))
def l24_1 : ACode := .loop [1, 2, 10, 30, 31, 32] b24_1
def r24_4 : ACode := (.seq (.region [⟨(some 63), none, .move, [.t 10]⟩, ⟨(some 6), none, .move, [.t 63]⟩, ⟨(some 7), none, .move, [.c (.int .i64 0)]⟩] none [6, 7])
  .ret)
/-- duet/resend.Asks -/
def c24 : AFun := ⟨3, 64, [.tmp 6, .tmp 7],
  (.seq (.region [⟨(some 6), none, .move, [.c .nils]⟩, ⟨(some 7), none, .move, [.c (.int .i64 0)]⟩] none [0, 1, 2])
  (.seq (.seq (.region [⟨(some 15), none, .move, [.t 0]⟩, ⟨(some 16), none, .move, [.t 1]⟩, ⟨(some 17), none, .call, [.c (.fn (.func 50) [] []), .t 15, .t 16]⟩, ⟨(some 14), none, .move, [.t 17]⟩, ⟨(some 18), none, (.extract 0), [.t 14]⟩, ⟨(some 19), none, (.extract 1), [.t 14]⟩, ⟨(some 8), none, .move, [.t 18]⟩, ⟨(some 9), none, .move, [.t 19]⟩] none [0, 1, 2, 9])
  (.seq (.region [⟨(some 20), none, .move, [.t 9]⟩, ⟨(some 21), none, (.bin .neq .num), [.t 20, .c (.int .i64 0)]⟩, ⟨(some 22), none, .move, [.t 21]⟩, ⟨(some 23), (some (22, false)), .move, [.t 2]⟩, ⟨(some 24), (some (22, false)), (.bin .lss .num), [.t 23, .c (.int .i64 0)]⟩, ⟨(some 25), none, .pick, [.t 22, .c (.bool true), .t 24]⟩, ⟨(some 26), none, .move, [.t 25]⟩, ⟨(some 27), (some (26, false)), .move, [.t 2]⟩, ⟨(some 28), (some (26, false)), (.bin .gtr .num), [.t 27, .c (.int .i64 1000)]⟩, ⟨(some 29), none, .pick, [.t 26, .c (.bool true), .t 28]⟩] none [0, 1, 2, 29])
  (.cond (.t 29) (.seq (.region [⟨(some 6), none, .move, [.c .nils]⟩, ⟨(some 7), none, .move, [.c (.int .i64 1)]⟩] none [6, 7])
  .ret)
  .skip)))
  (.seq (.region [⟨(some 10), none, .move, [.c .nils]⟩] none [0, 1, 2, 10])
  (.seq (.seq (.region [⟨(some 30), none, .move, [.t 0]⟩, ⟨(some 31), none, (.len .slice), [.t 30]⟩, ⟨(some 32), none, .move, [.c (.int .i64 0)]⟩] none [1, 2, 10, 30, 31, 32])
  (.block 0 l24_1)) r24_4))))⟩
theorem ok24 : FunOk Try.prog 24 c24 := ⟨⟨Try.f24, _, Try.func24, rfl, by kernel_rfl, by kernel_rfl, by kernel_rfl, by kernel_rfl⟩, by decide⟩
theorem res24 : c24.res = [.tmp 6, .tmp 7] := rfl
def k24_1 (P : Program) (p : Lab) (Q : VPost) (y0 : AV) (y1 : AV) (y2 : AV) (H : Heap) (c : Nat) : Prop :=
  Q .ret [(6, .nils), (7, (.int .i64 1))] H (c + 2)
def k24_0 (P : Program) (p : Lab) (Q : VPost) (y0 : AV) (y1 : AV) (y2 : AV) (H : Heap) (c : Nat) : Prop :=
  (k24_1 P p Q y0 y1 y2 H (c + 5))
def k24_2 (P : Program) (p : Lab) (Q : VPost) (H4 : Heap) (x0 : AV) (x1 : AV) (x2 : AV) (c : Nat) (_ : Unit) : Prop :=
  (k24_0 P p Q x0 x1 x2 H4 (c + 15))
def k24_4 (P : Program) (p : Lab) (Q : VPost) (y0 : AV) (y1 : AV) (y2 : AV) (H : Heap) (c : Nat) (_ : Unit) : Prop :=
  (k24_1 P p Q y0 y1 y2 H (c + 5))
def k24_6 (P : Program) (p : Lab) (Q : VPost)  (H : Heap) (c : Nat) : Prop :=
  Q .ret [(6, .nils), (7, (.int .i64 1))] H c
def k24_7 (P : Program) (p : Lab) (Q : VPost) (H : Heap) (c : Nat) (_ : Unit) : Prop :=
  (k24_6 P p Q  H (c + 2))
def q24_0 (P : Program) (p : Lab) (Q : VPost) : VPost := (vblockQ 0 (vseqQ (vc P p r24_4 Q) Q))
theorem q24_0_ret (P : Program) (p : Lab) (Q : VPost) (r : RL) (H : Heap) (c : Nat) : q24_0 P p Q .ret r H c = Q .ret r H c := rfl
def k24_8 (P : Program) (p : Lab) (Q : VPost) (y0 : AV) (y1 : AV) (y2 : AV) (y29 : AV) (H : Heap) (c : Nat) : Prop :=
  vLen y0 fun v31_30 =>
  vc P p l24_1 (q24_0 P p Q) [(1, y1), (2, y2), (10, .nils), (30, y0), (31, v31_30), (32, (.int .i64 0))] H (c + 4)
def k24_9 (P : Program) (p : Lab) (Q : VPost) (y0 : AV) (y1 : AV) (y2 : AV) (y29 : AV) (H : Heap) (c : Nat) (_ : Unit) : Prop :=
  (k24_8 P p Q y0 y1 y2 y29 H c)
def k24_5 (P : Program) (p : Lab) (Q : VPost) (y0 : AV) (y1 : AV) (y2 : AV) (y29 : AV) (H : Heap) (c : Nat) : Prop :=
  vSel y29
  (k24_7 P p Q H c)
  (k24_9 P p Q y0 y1 y2 y29 H c)
def k24_10 (P : Program) (p : Lab) (Q : VPost) (y0 : AV) (y1 : AV) (y2 : AV) (H : Heap) (c : Nat) (_ : Unit) : Prop :=
  vBin .gtr .num y2 (.int .i64 1000) fun v28_24 =>
  (k24_5 P p Q y0 y1 y2 v28_24 H (c + 5))
def k24_3 (P : Program) (p : Lab) (Q : VPost) (y0 : AV) (y1 : AV) (y2 : AV) (y24 : AV) (H : Heap) (c : Nat) : Prop :=
  vSel y24
  (k24_4 P p Q y0 y1 y2 H c)
  (k24_10 P p Q y0 y1 y2 H c)
def k24_11 (P : Program) (p : Lab) (Q : VPost) (H4 : Heap) (x0 : AV) (x1 : AV) (x2 : AV) (c : Nat) (_ : Unit) : Prop :=
  vBin .lss .num x2 (.int .i64 0) fun v24_19 =>
  (k24_3 P p Q x0 x1 x2 v24_19 H4 (c + 15))
def k24_12 (P : Program) (p : Lab) (Q : VPost) (x0 : AV) (x1 : AV) (x2 : AV) (c : Nat) (v17_4 : AV) (H4 : Heap) (l4 : List Lab) (f4 : Option (List Lab)) : Prop :=
  vExt 0 v17_4 fun v18_6 =>
  vExt 1 v17_4 fun v19_7 =>
  vBin .neq .num v19_7 (.int .i64 0) fun v21_11 =>
  vSel v21_11
  (k24_2 P p Q H4 x0 x1 x2 c)
  (k24_11 P p Q H4 x0 x1 x2 c)
def V24 (P : Program) (p : Lab) (Q : VPost) (x0 x1 x2 : AV) (H : Heap) (c : Nat) : Prop :=
  vCall P 50 [x0, x1] H ((c + 4) :: p) (k24_12 P p Q x0 x1 x2 c)
theorem vt24 (P : Program) (p : Lab) (Q : VPost) (x0 x1 x2 : AV) (H : Heap) (c : Nat) : vc P p c24.body Q [(0, x0), (1, x1), (2, x2)] H c = V24 P p Q x0 x1 x2 H c := by kernel_rfl
def q24_1 (P : Program) (p : Lab) (Q : VPost) : VPost := (vblockQ 2 (vblockQ 1 (vseqQ (vc P p r24_3 Q) Q)))
theorem q24_1_ret (P : Program) (p : Lab) (Q : VPost) (r : RL) (H : Heap) (c : Nat) : q24_1 P p Q .ret r H c = Q .ret r H c := rfl
def k24_13 (P : Program) (p : Lab) (Q : VPost) (y1 : AV) (y2 : AV) (y10 : AV) (y30 : AV) (y31 : AV) (y32 : AV) (y33 : AV) (H : Heap) (c : Nat) : Prop :=
  vIx 1 y30 y32 fun v35_34 =>
  vLoad 1 false v35_34 H fun v36_35 _ =>
  vIx 1 y1 y32 fun v39_40 =>
  vLoad 1 false v39_40 H fun v40_41 _ =>
  vBin .sub .num v40_41 v36_35 fun v42_43 =>
  vMax v42_43 (.int .i64 0) fun v43_44 =>
  vLen y10 fun v46_47 =>
  vBin .sub .num y2 v46_47 fun v47_48 =>
  vMin v43_44 v47_48 fun v48_49 =>
  vc P p l24_2 (q24_1 P p Q) [(1, y1), (2, y2), (10, y10), (11, y32), (12, v36_35), (30, y30), (31, y31), (32, y32), (48, v48_49), (49, (.int .i64 0))] H (c + 18)
def k24_14 (P : Program) (p : Lab) (Q : VPost) (v33_32 : AV) (x1 : AV) (x2 : AV) (x10 : AV) (x30 : AV) (x31 : AV) (x32 : AV) (H : Heap) (c : Nat) (_ : Unit) : Prop :=
  (k24_13 P p Q x1 x2 x10 x30 x31 x32 v33_32 H (c + 1))
def V24_1 (P : Program) (p : Lab) (Q : VPost) (x1 x2 x10 x30 x31 x32 : AV) (H : Heap) (c : Nat) : Prop :=
  vBin .lss .num x32 x31 fun v33_32 =>
  vSel v33_32
  (k24_14 P p Q v33_32 x1 x2 x10 x30 x31 x32 H c)
  (fun _ =>
  Q (.exit 0) [(1, x1), (2, x2), (10, x10), (30, x30), (31, x31), (32, x32), (33, v33_32)] H (c + 1))
theorem vt24_1 (P : Program) (p : Lab) (Q : VPost) (x1 x2 x10 x30 x31 x32 : AV) (H : Heap) (c : Nat) : vc P p b24_1 Q [(1, x1), (2, x2), (10, x10), (30, x30), (31, x31), (32, x32)] H c = V24_1 P p Q x1 x2 x10 x30 x31 x32 H c := by kernel_rfl
theorem q24_0_e0 (P : Program) (p : Lab) (Q : VPost) (r : RL) (H : Heap) (c : Nat) : q24_0 P p Q (.exit 0) r H c = (vc P p r24_4 Q r H c) := rfl
def k24_16 (P : Program) (p : Lab) (Q : VPost) (y1 : AV) (y2 : AV) (y11 : AV) (y12 : AV) (y30 : AV) (y31 : AV) (y32 : AV) (y48 : AV) (y49 : AV) (c : Nat) (v60_62 : AV) (H62 : Heap) (l62 : List Lab) (f62 : Option (List Lab)) : Prop :=
  vBin .add .num y49 (.int .i64 1) fun v61_64 =>
  Q .normal [(1, y1), (2, y2), (10, v60_62), (11, y11), (12, y12), (30, y30), (31, y31), (32, y32), (48, y48), (49, v61_64)] H62 (c + 14)
def k24_15 (P : Program) (p : Lab) (Q : VPost) (y1 : AV) (y2 : AV) (y10 : AV) (y11 : AV) (y12 : AV) (y30 : AV) (y31 : AV) (y32 : AV) (y48 : AV) (y49 : AV) (y50 : AV) (H : Heap) (c : Nat) : Prop :=
  vBin .add .num y12 (.int .i64 1) fun v55_57 =>
  vBin .add .num v55_57 y49 fun v57_59 =>
  vBuild [(.int .i64 0), (.int .i64 0)] [(0, 1), (1, 1)] [y11, v57_59] fun v58_60 =>
  vBuildS 2 [(.int .i64 0), (.int .i64 0)] [(0, 2)] [v58_60] fun w61 n61 =>
  (fun (H61 : Heap) =>
  vGen (.append 2 16) [y10, (.sl ((c + 9) :: p) 2 0 n61)] H61 ((c + 10) :: p) (k24_16 P p Q y1 y2 y11 y12 y30 y31 y32 y48 y49 c)) (upd [(((c + 9) :: p), some (.rows 2 w61))] H)
def k24_17 (P : Program) (p : Lab) (Q : VPost) (v50_51 : AV) (x1 : AV) (x2 : AV) (x10 : AV) (x11 : AV) (x12 : AV) (x30 : AV) (x31 : AV) (x32 : AV) (x48 : AV) (x49 : AV) (H : Heap) (c : Nat) (_ : Unit) : Prop :=
  (k24_15 P p Q x1 x2 x10 x11 x12 x30 x31 x32 x48 x49 v50_51 H (c + 1))
def k24_18 (P : Program) (p : Lab) (Q : VPost) (v50_51 : AV) (x1 : AV) (x2 : AV) (x10 : AV) (x11 : AV) (x12 : AV) (x30 : AV) (x31 : AV) (x32 : AV) (x48 : AV) (x49 : AV) (H : Heap) (c : Nat) (_ : Unit) : Prop :=
  Q (.exit 2) [(1, x1), (2, x2), (10, x10), (11, x11), (12, x12), (30, x30), (31, x31), (32, x32), (48, x48), (49, x49), (50, v50_51)] H (c + 1)
def V24_2 (P : Program) (p : Lab) (Q : VPost) (x1 x2 x10 x11 x12 x30 x31 x32 x48 x49 : AV) (H : Heap) (c : Nat) : Prop :=
  vBin .lss .num x49 x48 fun v50_51 =>
  vSel v50_51
  (k24_17 P p Q v50_51 x1 x2 x10 x11 x12 x30 x31 x32 x48 x49 H c)
  (k24_18 P p Q v50_51 x1 x2 x10 x11 x12 x30 x31 x32 x48 x49 H c)
theorem vt24_2 (P : Program) (p : Lab) (Q : VPost) (x1 x2 x10 x11 x12 x30 x31 x32 x48 x49 : AV) (H : Heap) (c : Nat) : vc P p b24_2 Q [(1, x1), (2, x2), (10, x10), (11, x11), (12, x12), (30, x30), (31, x31), (32, x32), (48, x48), (49, x49)] H c = V24_2 P p Q x1 x2 x10 x11 x12 x30 x31 x32 x48 x49 H c := by kernel_rfl
theorem q24_1_e2 (P : Program) (p : Lab) (Q : VPost) (r : RL) (H : Heap) (c : Nat) : q24_1 P p Q (.exit 2) r H c = (vc P p r24_3 Q r H c) := rfl
def V24_4 (P : Program) (p : Lab) (Q : VPost) (x1 x2 x10 x30 x31 x32 x33 : AV) (H : Heap) (c : Nat) : Prop :=
  Q .ret [(6, x10), (7, (.int .i64 0))] H (c + 3)
theorem vt24_4 (P : Program) (p : Lab) (Q : VPost) (x1 x2 x10 x30 x31 x32 x33 : AV) (H : Heap) (c : Nat) : vc P p r24_4 Q [(1, x1), (2, x2), (10, x10), (30, x30), (31, x31), (32, x32), (33, x33)] H c = V24_4 P p Q x1 x2 x10 x30 x31 x32 x33 H c := by kernel_rfl
def V24_3 (P : Program) (p : Lab) (Q : VPost) (x1 x2 x10 x11 x12 x30 x31 x32 x48 x49 x50 : AV) (H : Heap) (c : Nat) : Prop :=
  vBin .add .num x32 (.int .i64 1) fun v62_69 =>
  Q .normal [(1, x1), (2, x2), (10, x10), (30, x30), (31, x31), (32, v62_69)] H (c + 2)
theorem vt24_3 (P : Program) (p : Lab) (Q : VPost) (x1 x2 x10 x11 x12 x30 x31 x32 x48 x49 x50 : AV) (H : Heap) (c : Nat) : vc P p r24_3 Q [(1, x1), (2, x2), (10, x10), (11, x11), (12, x12), (30, x30), (31, x31), (32, x32), (48, x48), (49, x49), (50, x50)] H c = V24_3 P p Q x1 x2 x10 x11 x12 x30 x31 x32 x48 x49 x50 H c := by kernel_rfl

def b25_2 : ACode := (.seq (.seq (.region [⟨(some 40), none, .move, [.t 12]⟩, ⟨(some 41), none, .move, [.t 1]⟩, ⟨(some 42), none, .move, [.t 11]⟩, ⟨(some 43), none, (.indexAddr 1), [.t 41, .t 42]⟩, ⟨(some 44), none, (.load 1 false), [.t 43]⟩, ⟨(some 45), none, (.bin .leq .num), [.t 40, .t 44]⟩, ⟨(some 46), none, .move, [.t 45]⟩, ⟨(some 47), (some (46, true)), .move, [.t 10]⟩, ⟨(some 48), (some (46, true)), (.len .slice), [.t 47]⟩, ⟨(some 49), (some (46, true)), .move, [.t 2]⟩, ⟨(some 50), (some (46, true)), (.bin .lss .num), [.t 48, .t 49]⟩, ⟨(some 51), none, .pick, [.t 46, .t 50, .c (.bool false)]⟩] none [0, 1, 2, 10, 11, 12, 51])
  (.cond (.t 51) .skip
  (.exit 2)))
  (.seq (.block 3 (.region [⟨(some 54), none, .move, [.t 10]⟩, ⟨(some 55), none, .move, [.t 11]⟩, ⟨(some 56), none, .move, [.t 12]⟩, ⟨(some 57), none, (.build [(.int .i64 0), (.int .i64 0)] [(0, 1), (1, 1)]), [.t 55, .t 56]⟩, ⟨(some 58), none, (.buildSlice 2 [(.int .i64 0), (.int .i64 0)] [(0, 2)]), [.t 57]⟩, ⟨(some 59), none, (.append 2 16), [.t 54, .t 58]⟩, ⟨(some 10), none, .move, [.t 59]⟩] none [0, 1, 2, 10, 11, 12]))
  (.region [⟨(some 52), none, .move, [.t 12]⟩, ⟨(some 53), none, (.bin .add .num), [.t 52, .c (.int .i64 1)]⟩, ⟨(some 12), none, .move, [.t 53]⟩] none [0, 1, 2, 10, 11, 12])))
def l25_2 : ACode := .loop [0, 1, 2, 10, 11, 12] b25_2
def r25_3 : ACode := (.region [⟨(some 33), none, .move, [.t 11]⟩, ⟨(some 34), none, (.bin .add .num), [.t 33, .c (.int .i64 1)]⟩, ⟨(some 11), none, .move, [.t 34]⟩] none [0, 1, 2, 10, 11])
def b25_1 : ACode := (.seq (.seq (.region [⟨(some 29), none, .move, [.t 11]⟩, ⟨(some 30), none, .move, [.t 0]⟩, ⟨(some 31), none, (.len .slice), [.t 30]⟩, ⟨(some 32), none, (.bin .lss .num), [.t 29, .t 31]⟩] none [0, 1, 2, 10, 11, 32])
  (.cond (.t 32) .skip
  (.exit 0)))
  (.seq (.block 1 (.seq (.region [⟨(some 35), none, .move, [.t 0]⟩, ⟨(some 36), none, .move, [.t 11]⟩, ⟨(some 37), none, (.indexAddr 1), [.t 35, .t 36]⟩, ⟨(some 38), none, (.load 1 false), [.t 37]⟩, ⟨(some 39), none, (.bin .add .num), [.t 38, .c (.int .i64 1)]⟩, ⟨(some 12), none, .move, [.t 39]⟩] none [0, 1, 2, 10, 11, 12])
  (.block 2 l25_2))) r25_3))
def l25_1 : ACode := .loop [0, 1, 2, 10, 11] b25_1
def r25_4 : ACode := (.seq (.region [⟨(some 60), none, .move, [.t 10]⟩, ⟨(some 6), none, .move, [.t 60]⟩, ⟨(some 7), none, .move, [.c (.int .i64 0)]⟩] none [6, 7])
  .ret)
/-- duet/duetref08.Asks -/
def c25 : AFun := ⟨3, 61, [.tmp 6, .tmp 7],
  (.seq (.region [⟨(some 6), none, .move, [.c .nils]⟩, ⟨(some 7), none, .move, [.c (.int .i64 0)]⟩] none [0, 1, 2])
  (.seq (.region [⟨(some 14), none, .move, [.t 0]⟩, ⟨(some 15), none, .move, [.t 1]⟩, ⟨(some 16), none, .call, [.c (.fn (.func 51) [] []), .t 14, .t 15]⟩, ⟨(some 13), none, .move, [.t 16]⟩, ⟨(some 17), none, (.extract 0), [.t 13]⟩, ⟨(some 18), none, (.extract 1), [.t 13]⟩, ⟨(some 8), none, .move, [.t 17]⟩, ⟨(some 9), none, .move, [.t 18]⟩] none [0, 1, 2, 9])
  (.seq (.seq (.region [⟨(some 19), none, .move, [.t 9]⟩, ⟨(some 20), none, (.bin .neq .num), [.t 19, .c (.int .i64 0)]⟩, ⟨(some 21), none, .move, [.t 20]⟩, ⟨(some 22), (some (21, false)), .move, [.t 2]⟩, ⟨(some 23), (some (21, false)), (.bin .lss .num), [.t 22, .c (.int .i64 0)]⟩, ⟨(some 24), none, .pick, [.t 21, .c (.bool true), .t 23]⟩, ⟨(some 25), none, .move, [.t 24]⟩, ⟨(some 26), (some (25, false)), .move, [.t 2]⟩, ⟨(some 27), (some (25, false)), (.bin .gtr .num), [.t 26, .c (.int .i64 1000)]⟩, ⟨(some 28), none, .pick, [.t 25, .c (.bool true), .t 27]⟩] none [0, 1, 2, 28])
  (.cond (.t 28) (.seq (.region [⟨(some 6), none, .move, [.c .nils]⟩, ⟨(some 7), none, .move, [.c (.int .i64 1)]⟩] none [6, 7])
  .ret)
  .skip))
  (.seq (.region [⟨(some 10), none, .move, [.c .nils]⟩] none [0, 1, 2, 10])
  (.seq (.seq (.region [⟨(some 11), none, .move, [.c (.int .i64 0)]⟩] none [0, 1, 2, 10, 11])
  (.block 0 l25_1)) r25_4)))))⟩
theorem ok25 : FunOk Try.prog 25 c25 := ⟨⟨Try.f25, _, Try.func25, rfl, by kernel_rfl, by kernel_rfl, by kernel_rfl, by kernel_rfl⟩, by decide⟩
theorem res25 : c25.res = [.tmp 6, .tmp 7] := rfl
def k25_1 (P : Program) (p : Lab) (Q : VPost) (y0 : AV) (y1 : AV) (y2 : AV) (H : Heap) (c : Nat) : Prop :=
  Q .ret [(6, .nils), (7, (.int .i64 1))] H (c + 2)
def k25_0 (P : Program) (p : Lab) (Q : VPost) (y0 : AV) (y1 : AV) (y2 : AV) (H : Heap) (c : Nat) : Prop :=
  (k25_1 P p Q y0 y1 y2 H (c + 5))
def k25_2 (P : Program) (p : Lab) (Q : VPost) (H4 : Heap) (x0 : AV) (x1 : AV) (x2 : AV) (c : Nat) (_ : Unit) : Prop :=
  (k25_0 P p Q x0 x1 x2 H4 (c + 15))
def k25_4 (P : Program) (p : Lab) (Q : VPost) (y0 : AV) (y1 : AV) (y2 : AV) (H : Heap) (c : Nat) (_ : Unit) : Prop :=
  (k25_1 P p Q y0 y1 y2 H (c + 5))
def k25_6 (P : Program) (p : Lab) (Q : VPost)  (H : Heap) (c : Nat) : Prop :=
  Q .ret [(6, .nils), (7, (.int .i64 1))] H c
def k25_7 (P : Program) (p : Lab) (Q : VPost) (H : Heap) (c : Nat) (_ : Unit) : Prop :=
  (k25_6 P p Q  H (c + 2))
def q25_0 (P : Program) (p : Lab) (Q : VPost) : VPost := (vblockQ 0 (vseqQ (vc P p r25_4 Q) Q))
theorem q25_0_ret (P : Program) (p : Lab) (Q : VPost) (r : RL) (H : Heap) (c : Nat) : q25_0 P p Q .ret r H c = Q .ret r H c := rfl
def k25_8 (P : Program) (p : Lab) (Q : VPost) (y0 : AV) (y1 : AV) (y2 : AV) (y28 : AV) (H : Heap) (c : Nat) : Prop :=
  vc P p l25_1 (q25_0 P p Q) [(0, y0), (1, y1), (2, y2), (10, .nils), (11, (.int .i64 0))] H (c + 2)
def k25_9 (P : Program) (p : Lab) (Q : VPost) (y0 : AV) (y1 : AV) (y2 : AV) (y28 : AV) (H : Heap) (c : Nat) (_ : Unit) : Prop :=
  (k25_8 P p Q y0 y1 y2 y28 H c)
def k25_5 (P : Program) (p : Lab) (Q : VPost) (y0 : AV) (y1 : AV) (y2 : AV) (y28 : AV) (H : Heap) (c : Nat) : Prop :=
  vSel y28
  (k25_7 P p Q H c)
  (k25_9 P p Q y0 y1 y2 y28 H c)
def k25_10 (P : Program) (p : Lab) (Q : VPost) (y0 : AV) (y1 : AV) (y2 : AV) (H : Heap) (c : Nat) (_ : Unit) : Prop :=
  vBin .gtr .num y2 (.int .i64 1000) fun v27_24 =>
  (k25_5 P p Q y0 y1 y2 v27_24 H (c + 5))
def k25_3 (P : Program) (p : Lab) (Q : VPost) (y0 : AV) (y1 : AV) (y2 : AV) (y23 : AV) (H : Heap) (c : Nat) : Prop :=
  vSel y23
  (k25_4 P p Q y0 y1 y2 H c)
  (k25_10 P p Q y0 y1 y2 H c)
def k25_11 (P : Program) (p : Lab) (Q : VPost) (H4 : Heap) (x0 : AV) (x1 : AV) (x2 : AV) (c : Nat) (_ : Unit) : Prop :=
  vBin .lss .num x2 (.int .i64 0) fun v23_19 =>
  (k25_3 P p Q x0 x1 x2 v23_19 H4 (c + 15))
def k25_12 (P : Program) (p : Lab) (Q : VPost) (x0 : AV) (x1 : AV) (x2 : AV) (c : Nat) (v16_4 : AV) (H4 : Heap) (l4 : List Lab) (f4 : Option (List Lab)) : Prop :=
  vExt 0 v16_4 fun v17_6 =>
  vExt 1 v16_4 fun v18_7 =>
  vBin .neq .num v18_7 (.int .i64 0) fun v20_11 =>
  vSel v20_11
  (k25_2 P p Q H4 x0 x1 x2 c)
  (k25_11 P p Q H4 x0 x1 x2 c)
def V25 (P : Program) (p : Lab) (Q : VPost) (x0 x1 x2 : AV) (H : Heap) (c : Nat) : Prop :=
  vCall P 51 [x0, x1] H ((c + 4) :: p) (k25_12 P p Q x0 x1 x2 c)
theorem vt25 (P : Program) (p : Lab) (Q : VPost) (x0 x1 x2 : AV) (H : Heap) (c : Nat) : vc P p c25.body Q [(0, x0), (1, x1), (2, x2)] H c = V25 P p Q x0 x1 x2 H c := by kernel_rfl
def q25_1 (P : Program) (p : Lab) (Q : VPost) : VPost := (vblockQ 2 (vblockQ 1 (vseqQ (vc P p r25_3 Q) Q)))
theorem q25_1_ret (P : Program) (p : Lab) (Q : VPost) (r : RL) (H : Heap) (c : Nat) : q25_1 P p Q .ret r H c = Q .ret r H c := rfl
def k25_13 (P : Program) (p : Lab) (Q : VPost) (y0 : AV) (y1 : AV) (y2 : AV) (y10 : AV) (y11 : AV) (y32 : AV) (H : Heap) (c : Nat) : Prop :=
  vIx 1 y0 y11 fun v37_36 =>
  vLoad 1 false v37_36 H fun v38_37 _ =>
  vBin .add .num v38_37 (.int .i64 1) fun v39_38 =>
  vc P p l25_2 (q25_1 P p Q) [(0, y0), (1, y1), (2, y2), (10, y10), (11, y11), (12, v39_38)] H (c + 6)
def k25_14 (P : Program) (p : Lab) (Q : VPost) (v32_33 : AV) (x0 : AV) (x1 : AV) (x2 : AV) (x10 : AV) (x11 : AV) (H : Heap) (c : Nat) (_ : Unit) : Prop :=
  (k25_13 P p Q x0 x1 x2 x10 x11 v32_33 H (c + 4))
def V25_1 (P : Program) (p : Lab) (Q : VPost) (x0 x1 x2 x10 x11 : AV) (H : Heap) (c : Nat) : Prop :=
  vLen x0 fun v31_32 =>
  vBin .lss .num x11 v31_32 fun v32_33 =>
  vSel v32_33
  (k25_14 P p Q v32_33 x0 x1 x2 x10 x11 H c)
  (fun _ =>
  Q (.exit 0) [(0, x0), (1, x1), (2, x2), (10, x10), (11, x11), (32, v32_33)] H (c + 4))
theorem vt25_1 (P : Program) (p : Lab) (Q : VPost) (x0 x1 x2 x10 x11 : AV) (H : Heap) (c : Nat) : vc P p b25_1 Q [(0, x0), (1, x1), (2, x2), (10, x10), (11, x11)] H c = V25_1 P p Q x0 x1 x2 x10 x11 H c := by kernel_rfl
theorem q25_0_e0 (P : Program) (p : Lab) (Q : VPost) (r : RL) (H : Heap) (c : Nat) : q25_0 P p Q (.exit 0) r H c = (vc P p r25_4 Q r H c) := rfl
def k25_17 (P : Program) (p : Lab) (Q : VPost) (y0 : AV) (y1 : AV) (y2 : AV) (y11 : AV) (y12 : AV) (c : Nat) (v59_57 : AV) (H57 : Heap) (l57 : List Lab) (f57 : Option (List Lab)) : Prop :=
  vBin .add .num y12 (.int .i64 1) fun v53_60 =>
  Q .normal [(0, y0), (1, y1), (2, y2), (10, v59_57), (11, y11), (12, v53_60)] H57 (c + 10)
def k25_16 (P : Program) (p : Lab) (Q : VPost) (y0 : AV) (y1 : AV) (y2 : AV) (y10 : AV) (y11 : AV) (y12 : AV) (y51 : AV) (H : Heap) (c : Nat) : Prop :=
  vBuild [(.int .i64 0), (.int .i64 0)] [(0, 1), (1, 1)] [y11, y12] fun v57_55 =>
  vBuildS 2 [(.int .i64 0), (.int .i64 0)] [(0, 2)] [v57_55] fun w56 n56 =>
  (fun (H56 : Heap) =>
  vGen (.append 2 16) [y10, (.sl ((c + 4) :: p) 2 0 n56)] H56 ((c + 5) :: p) (k25_17 P p Q y0 y1 y2 y11 y12 c)) (upd [(((c + 4) :: p), some (.rows 2 w56))] H)
def k25_18 (P : Program) (p : Lab) (Q : VPost) (y0 : AV) (y1 : AV) (y2 : AV) (y10 : AV) (y11 : AV) (y12 : AV) (y51 : AV) (H : Heap) (c : Nat) (_ : Unit) : Prop :=
  (k25_16 P p Q y0 y1 y2 y10 y11 y12 y51 H c)
def k25_15 (P : Program) (p : Lab) (Q : VPost) (y0 : AV) (y1 : AV) (y2 : AV) (y10 : AV) (y11 : AV) (y12 : AV) (y51 : AV) (H : Heap) (c : Nat) : Prop :=
  vSel y51
  (k25_18 P p Q y0 y1 y2 y10 y11 y12 y51 H c)
  (fun _ =>
  Q (.exit 2) [(0, y0), (1, y1), (2, y2), (10, y10), (11, y11), (12, y12), (51, y51)] H c)
def k25_19 (P : Program) (p : Lab) (Q : VPost) (x0 : AV) (x1 : AV) (x2 : AV) (x10 : AV) (x11 : AV) (x12 : AV) (H : Heap) (c : Nat) (_ : Unit) : Prop :=
  vLen x10 fun v48_48 =>
  vBin .lss .num v48_48 x2 fun v50_50 =>
  (k25_15 P p Q x0 x1 x2 x10 x11 x12 v50_50 H (c + 12))
def k25_20 (P : Program) (p : Lab) (Q : VPost) (y0 : AV) (y1 : AV) (y2 : AV) (y10 : AV) (y11 : AV) (y12 : AV) (H : Heap) (c : Nat) : Prop :=
  Q (.exit 2) [(0, y0), (1, y1), (2, y2), (10, y10), (11, y11), (12, y12), (51, (.bool false))] H c
def k25_21 (P : Program) (p : Lab) (Q : VPost) (x0 : AV) (x1 : AV) (x2 : AV) (x10 : AV) (x11 : AV) (x12 : AV) (H : Heap) (c : Nat) (_ : Unit) : Prop :=
  (k25_20 P p Q x0 x1 x2 x10 x11 x12 H (c + 12))
def V25_2 (P : Program) (p : Lab) (Q : VPost) (x0 x1 x2 x10 x11 x12 : AV) (H : Heap) (c : Nat) : Prop :=
  vIx 1 x1 x11 fun v43_43 =>
  vLoad 1 false v43_43 H fun v44_44 _ =>
  vBin .leq .num x12 v44_44 fun v45_45 =>
  vSel v45_45
  (k25_19 P p Q x0 x1 x2 x10 x11 x12 H c)
  (k25_21 P p Q x0 x1 x2 x10 x11 x12 H c)
theorem vt25_2 (P : Program) (p : Lab) (Q : VPost) (x0 x1 x2 x10 x11 x12 : AV) (H : Heap) (c : Nat) : vc P p b25_2 Q [(0, x0), (1, x1), (2, x2), (10, x10), (11, x11), (12, x12)] H c = V25_2 P p Q x0 x1 x2 x10 x11 x12 H c := by kernel_rfl
theorem q25_1_e2 (P : Program) (p : Lab) (Q : VPost) (r : RL) (H : Heap) (c : Nat) : q25_1 P p Q (.exit 2) r H c = (vc P p r25_3 Q r H c) := rfl
def V25_4 (P : Program) (p : Lab) (Q : VPost) (x0 x1 x2 x10 x11 x32 : AV) (H : Heap) (c : Nat) : Prop :=
  Q .ret [(6, x10), (7, (.int .i64 0))] H (c + 3)
theorem vt25_4 (P : Program) (p : Lab) (Q : VPost) (x0 x1 x2 x10 x11 x32 : AV) (H : Heap) (c : Nat) : vc P p r25_4 Q [(0, x0), (1, x1), (2, x2), (10, x10), (11, x11), (32, x32)] H c = V25_4 P p Q x0 x1 x2 x10 x11 x32 H c := by kernel_rfl
def V25_3 (P : Program) (p : Lab) (Q : VPost) (x0 x1 x2 x10 x11 x12 x51 : AV) (H : Heap) (c : Nat) : Prop :=
  vBin .add .num x11 (.int .i64 1) fun v34_67 =>
  Q .normal [(0, x0), (1, x1), (2, x2), (10, x10), (11, v34_67)] H (c + 3)
theorem vt25_3 (P : Program) (p : Lab) (Q : VPost) (x0 x1 x2 x10 x11 x12 x51 : AV) (H : Heap) (c : Nat) : vc P p r25_3 Q [(0, x0), (1, x1), (2, x2), (10, x10), (11, x11), (12, x12), (51, x51)] H c = V25_3 P p Q x0 x1 x2 x10 x11 x12 x51 H c := by kernel_rfl

def b26_1 : ACode := (.seq (.seq (.region [⟨(some 11), none, .move, [.t 5]⟩, ⟨(some 12), none, .move, [.t 0]⟩, ⟨(some 13), none, (.len .slice), [.t 12]⟩, ⟨(some 14), none, (.bin .lss .num), [.t 11, .t 13]⟩] none [0, 1, 5, 14])
  (.cond (.t 14) .skip
  (.exit 0)))
  (.seq (.block 1 (.seq (.region [⟨(some 17), none, .move, [.t 0]⟩, ⟨(some 18), none, .move, [.t 5]⟩, ⟨(some 19), none, (.indexAddr 2), [.t 17, .t 18]⟩, ⟨(some 20), none, (.load 2 true), [.t 19]⟩, ⟨(some 21), none, .move, [.t 1]⟩, ⟨(some 22), none, .move, [.t 5]⟩, ⟨(some 23), none, (.indexAddr 2), [.t 21, .t 22]⟩, ⟨(some 24), none, (.load 2 true), [.t 23]⟩, ⟨(some 25), none, (.eqs .neq [.int, .int]), [.t 20, .t 24]⟩] (some [0, 0, 3, 7, 0, 0, 48, 112, 255]) [0, 1, 5, 25])
  (.cond (.t 25) (.seq (.region [⟨(some 4), none, .move, [.c (.bool false)]⟩] none [4])
  .ret)
  .skip)))
  (.region [⟨(some 15), none, .move, [.t 5]⟩, ⟨(some 16), none, (.bin .add .num), [.t 15, .c (.int .i64 1)]⟩, ⟨(some 5), none, .move, [.t 16]⟩] none [0, 1, 5])))
def l26_1 : ACode := .loop [0, 1, 5] b26_1
def r26_2 : ACode := (.seq (.region [⟨(some 4), none, .move, [.c (.bool true)]⟩] none [4])
  .ret)
/-- duet/duetref08.Same -/
def c26 : AFun := ⟨2, 26, [.tmp 4],
  (.seq (.region [⟨(some 4), none, .move, [.c (.bool false)]⟩] none [0, 1])
  (.seq (.seq (.region [⟨(some 6), none, .move, [.t 0]⟩, ⟨(some 7), none, (.len .slice), [.t 6]⟩, ⟨(some 8), none, .move, [.t 1]⟩, ⟨(some 9), none, (.len .slice), [.t 8]⟩, ⟨(some 10), none, (.bin .neq .num), [.t 7, .t 9]⟩] none [0, 1, 10])
  (.cond (.t 10) (.seq (.region [⟨(some 4), none, .move, [.c (.bool false)]⟩] none [4])
  .ret)
  .skip))
  (.seq (.seq (.region [⟨(some 5), none, .move, [.c (.int .i64 0)]⟩] none [0, 1, 5])
  (.block 0 l26_1)) r26_2)))⟩
theorem ok26 : FunOk Try.prog 26 c26 := ⟨⟨Try.f26, _, Try.func26, rfl, by kernel_rfl, by kernel_rfl, by kernel_rfl, by kernel_rfl⟩, by decide⟩
theorem res26 : c26.res = [.tmp 4] := rfl
def k26_0 (P : Program) (p : Lab) (Q : VPost)  (H : Heap) (c : Nat) : Prop :=
  Q .ret [(4, (.bool false))] H c
def k26_1 (P : Program) (p : Lab) (Q : VPost) (H : Heap) (c : Nat) (_ : Unit) : Prop :=
  (k26_0 P p Q  H (c + 7))
def q26_0 (P : Program) (p : Lab) (Q : VPost) : VPost := (vblockQ 0 (vseqQ (vc P p r26_2 Q) Q))
theorem q26_0_ret (P : Program) (p : Lab) (Q : VPost) (r : RL) (H : Heap) (c : Nat) : q26_0 P p Q .ret r H c = Q .ret r H c := rfl
def k26_2 (P : Program) (p : Lab) (Q : VPost) (y0 : AV) (y1 : AV) (y10 : AV) (H : Heap) (c : Nat) : Prop :=
  vc P p l26_1 (q26_0 P p Q) [(0, y0), (1, y1), (5, (.int .i64 0))] H (c + 1)
def k26_3 (P : Program) (p : Lab) (Q : VPost) (v10_5 : AV) (x0 : AV) (x1 : AV) (H : Heap) (c : Nat) (_ : Unit) : Prop :=
  (k26_2 P p Q x0 x1 v10_5 H (c + 6))
def V26 (P : Program) (p : Lab) (Q : VPost) (x0 x1 : AV) (H : Heap) (c : Nat) : Prop :=
  vLen x0 fun v7_2 =>
  vLen x1 fun v9_4 =>
  vBin .neq .num v7_2 v9_4 fun v10_5 =>
  vSel v10_5
  (k26_1 P p Q H c)
  (k26_3 P p Q v10_5 x0 x1 H c)
theorem vt26 (P : Program) (p : Lab) (Q : VPost) (x0 x1 : AV) (H : Heap) (c : Nat) : vc P p c26.body Q [(0, x0), (1, x1)] H c = V26 P p Q x0 x1 H c := by kernel_rfl
def k26_5 (P : Program) (p : Lab) (Q : VPost)  (H : Heap) (c : Nat) : Prop :=
  Q .ret [(4, (.bool false))] H c
def k26_6 (P : Program) (p : Lab) (Q : VPost) (H20 : Heap) (c : Nat) (_ : Unit) : Prop :=
  (k26_5 P p Q  H20 (c + 10))
def k26_7 (P : Program) (p : Lab) (Q : VPost) (y0 : AV) (y1 : AV) (y5 : AV) (y25 : AV) (H : Heap) (c : Nat) : Prop :=
  vBin .add .num y5 (.int .i64 1) fun v16_23 =>
  Q .normal [(0, y0), (1, y1), (5, v16_23)] H (c + 3)
def k26_8 (P : Program) (p : Lab) (Q : VPost) (v25_20 : AV) (H20 : Heap) (y0 : AV) (y1 : AV) (y5 : AV) (c : Nat) (_ : Unit) : Prop :=
  (k26_7 P p Q y0 y1 y5 v25_20 H20 (c + 9))
def k26_9 (P : Program) (p : Lab) (Q : VPost) (f19 : Option (List Lab)) (f15 : Option (List Lab)) (y0 : AV) (y1 : AV) (y5 : AV) (c : Nat) (v25_20 : AV) (H20 : Heap) (l20 : List Lab) (f20 : Option (List Lab)) : Prop :=
  clashFree [0, 0, 3, 7, 0, 0, 48, 112, 255] (addTr 3 [] ((c + 3) :: p) f15 (addTr 7 [] ((c + 7) :: p) f19 (addTr 8 l20 ((c + 8) :: p) f20 []))) ∧
  vSel v25_20
  (k26_6 P p Q H20 c)
  (k26_8 P p Q v25_20 H20 y0 y1 y5 c)
def k26_4 (P : Program) (p : Lab) (Q : VPost) (y0 : AV) (y1 : AV) (y5 : AV) (y14 : AV) (H : Heap) (c : Nat) : Prop :=
  vIx 2 y0 y5 fun v19_14 =>
  vLoad 2 true v19_14 H fun v20_15 f15 =>
  vIx 2 y1 y5 fun v23_18 =>
  vLoad 2 true v23_18 H fun v24_19 f19 =>
  vGen (.eqs .neq [.int, .int]) [v20_15, v24_19] H ((c + 8) :: p) (k26_9 P p Q f19 f15 y0 y1 y5 c)
def k26_10 (P : Program) (p : Lab) (Q : VPost) (v14_11 : AV) (x0 : AV) (x1 : AV) (x5 : AV) (H : Heap) (c : Nat) (_ : Unit) : Prop :=
  (k26_4 P p Q x0 x1 x5 v14_11 H (c + 4))
def V26_1 (P : Program) (p : Lab) (Q : VPost) (x0 x1 x5 : AV) (H : Heap) (c : Nat) : Prop :=
  vLen x0 fun v13_10 =>
  vBin .lss .num x5 v13_10 fun v14_11 =>
  vSel v14_11
  (k26_10 P p Q v14_11 x0 x1 x5 H c)
  (fun _ =>
  Q (.exit 0) [(0, x0), (1, x1), (5, x5), (14, v14_11)] H (c + 4))
theorem vt26_1 (P : Program) (p : Lab) (Q : VPost) (x0 x1 x5 : AV) (H : Heap) (c : Nat) : vc P p b26_1 Q [(0, x0), (1, x1), (5, x5)] H c = V26_1 P p Q x0 x1 x5 H c := by kernel_rfl
theorem q26_0_e0 (P : Program) (p : Lab) (Q : VPost) (r : RL) (H : Heap) (c : Nat) : q26_0 P p Q (.exit 0) r H c = (vc P p r26_2 Q r H c) := rfl
def V26_2 (P : Program) (p : Lab) (Q : VPost) (x0 x1 x5 x14 : AV) (H : Heap) (c : Nat) : Prop :=
  Q .ret [(4, (.bool true))] H (c + 1)
theorem vt26_2 (P : Program) (p : Lab) (Q : VPost) (x0 x1 x5 x14 : AV) (H : Heap) (c : Nat) : vc P p r26_2 Q [(0, x0), (1, x1), (5, x5), (14, x14)] H c = V26_2 P p Q x0 x1 x5 x14 H c := by kernel_rfl

def b41_1 : ACode := (.seq (.seq (.region [⟨(some 6), none, .move, [.t 5]⟩, ⟨(some 7), none, .move, [.t 0]⟩, ⟨(some 8), none, (.len .slice), [.t 7]⟩, ⟨(some 9), none, (.bin .lss .num), [.t 6, .t 8]⟩, ⟨(some 10), none, .move, [.t 9]⟩, ⟨(some 11), (some (10, true)), .move, [.t 5]⟩, ⟨(some 12), (some (10, true)), .move, [.t 1]⟩, ⟨(some 13), (some (10, true)), (.len .slice), [.t 12]⟩, ⟨(some 14), (some (10, true)), (.bin .lss .num), [.t 11, .t 13]⟩, ⟨(some 15), none, .pick, [.t 10, .t 14, .c (.bool false)]⟩] none [0, 1, 5, 15])
  (.cond (.t 15) .skip
  (.exit 0)))
  (.seq (.block 1 (.seq (.region [⟨(some 18), none, .move, [.t 0]⟩, ⟨(some 19), none, .move, [.t 5]⟩, ⟨(some 20), none, (.indexAddr 1), [.t 18, .t 19]⟩, ⟨(some 21), none, (.load 1 false), [.t 20]⟩, ⟨(some 22), none, .move, [.t 1]⟩, ⟨(some 23), none, .move, [.t 5]⟩, ⟨(some 24), none, (.indexAddr 1), [.t 22, .t 23]⟩, ⟨(some 25), none, (.load 1 false), [.t 24]⟩, ⟨(some 26), none, (.bin .gtr .num), [.t 21, .t 25]⟩] (some [0, 0, 3, 7, 0, 0, 48, 112, 255]) [0, 1, 5, 26])
  (.cond (.t 26) (.seq (.region [⟨(some 4), none, .move, [.c (.bool false)]⟩] none [4])
  .ret)
  .skip)))
  (.region [⟨(some 16), none, .move, [.t 5]⟩, ⟨(some 17), none, (.bin .add .num), [.t 16, .c (.int .i64 1)]⟩, ⟨(some 5), none, .move, [.t 17]⟩] none [0, 1, 5])))
def l41_1 : ACode := .loop [0, 1, 5] b41_1
def r41_2 : ACode := (.seq (.region [⟨(some 4), none, .move, [.c (.bool true)]⟩] none [4])
  .ret)
/-- duet/duetref06.Below -/
def c41 : AFun := ⟨2, 27, [.tmp 4],
  (.seq (.region [⟨(some 4), none, .move, [.c (.bool false)]⟩] none [0, 1])
  (.seq (.seq (.region [⟨(some 5), none, .move, [.c (.int .i64 0)]⟩] none [0, 1, 5])
  (.block 0 l41_1)) r41_2))⟩
theorem ok41 : FunOk Try.prog 41 c41 := ⟨⟨Try.f41, _, Try.func41, rfl, by kernel_rfl, by kernel_rfl, by kernel_rfl, by kernel_rfl⟩, by decide⟩
theorem res41 : c41.res = [.tmp 4] := rfl
def q41_0 (P : Program) (p : Lab) (Q : VPost) : VPost := (vblockQ 0 (vseqQ (vc P p r41_2 Q) Q))
theorem q41_0_ret (P : Program) (p : Lab) (Q : VPost) (r : RL) (H : Heap) (c : Nat) : q41_0 P p Q .ret r H c = Q .ret r H c := rfl
def V41 (P : Program) (p : Lab) (Q : VPost) (x0 x1 : AV) (H : Heap) (c : Nat) : Prop :=
  vc P p l41_1 (q41_0 P p Q) [(0, x0), (1, x1), (5, (.int .i64 0))] H (c + 2)
theorem vt41 (P : Program) (p : Lab) (Q : VPost) (x0 x1 : AV) (H : Heap) (c : Nat) : vc P p c41.body Q [(0, x0), (1, x1)] H c = V41 P p Q x0 x1 H c := by kernel_rfl
def k41_2 (P : Program) (p : Lab) (Q : VPost)  (H : Heap) (c : Nat) : Prop :=
  Q .ret [(4, (.bool false))] H c
def k41_3 (P : Program) (p : Lab) (Q : VPost) (H : Heap) (c : Nat) (_ : Unit) : Prop :=
  (k41_2 P p Q  H (c + 10))
def k41_4 (P : Program) (p : Lab) (Q : VPost) (y0 : AV) (y1 : AV) (y5 : AV) (y26 : AV) (H : Heap) (c : Nat) : Prop :=
  vBin .add .num y5 (.int .i64 1) fun v17_23 =>
  Q .normal [(0, y0), (1, y1), (5, v17_23)] H (c + 3)
def k41_5 (P : Program) (p : Lab) (Q : VPost) (v26_20 : AV) (y0 : AV) (y1 : AV) (y5 : AV) (H : Heap) (c : Nat) (_ : Unit) : Prop :=
  (k41_4 P p Q y0 y1 y5 v26_20 H (c + 9))
def k41_1 (P : Program) (p : Lab) (Q : VPost) (y0 : AV) (y1 : AV) (y5 : AV) (y15 : AV) (H : Heap) (c : Nat) : Prop :=
  vIx 1 y0 y5 fun v20_14 =>
  vLoad 1 false v20_14 H fun v21_15 f15 =>
  vIx 1 y1 y5 fun v24_18 =>
  vLoad 1 false v24_18 H fun v25_19 f19 =>
  vBin .gtr .num v21_15 v25_19 fun v26_20 =>
  clashFree [0, 0, 3, 7, 0, 0, 48, 112, 255] (addTr 3 [] ((c + 3) :: p) f15 (addTr 7 [] ((c + 7) :: p) f19 [])) ∧
  vSel v26_20
  (k41_3 P p Q H c)
  (k41_5 P p Q v26_20 y0 y1 y5 H c)
def k41_6 (P : Program) (p : Lab) (Q : VPost) (y0 : AV) (y1 : AV) (y5 : AV) (y15 : AV) (H : Heap) (c : Nat) (_ : Unit) : Prop :=
  (k41_1 P p Q y0 y1 y5 y15 H c)
def k41_0 (P : Program) (p : Lab) (Q : VPost) (y0 : AV) (y1 : AV) (y5 : AV) (y15 : AV) (H : Heap) (c : Nat) : Prop :=
  vSel y15
  (k41_6 P p Q y0 y1 y5 y15 H c)
  (fun _ =>
  Q (.exit 0) [(0, y0), (1, y1), (5, y5), (15, y15)] H c)
def k41_7 (P : Program) (p : Lab) (Q : VPost) (x0 : AV) (x1 : AV) (x5 : AV) (H : Heap) (c : Nat) (_ : Unit) : Prop :=
  vLen x1 fun v13_9 =>
  vBin .lss .num x5 v13_9 fun v14_10 =>
  (k41_0 P p Q x0 x1 x5 v14_10 H (c + 10))
def k41_8 (P : Program) (p : Lab) (Q : VPost) (y0 : AV) (y1 : AV) (y5 : AV) (H : Heap) (c : Nat) : Prop :=
  Q (.exit 0) [(0, y0), (1, y1), (5, y5), (15, (.bool false))] H c
def k41_9 (P : Program) (p : Lab) (Q : VPost) (x0 : AV) (x1 : AV) (x5 : AV) (H : Heap) (c : Nat) (_ : Unit) : Prop :=
  (k41_8 P p Q x0 x1 x5 H (c + 10))
def V41_1 (P : Program) (p : Lab) (Q : VPost) (x0 x1 x5 : AV) (H : Heap) (c : Nat) : Prop :=
  vLen x0 fun v8_4 =>
  vBin .lss .num x5 v8_4 fun v9_5 =>
  vSel v9_5
  (k41_7 P p Q x0 x1 x5 H c)
  (k41_9 P p Q x0 x1 x5 H c)
theorem vt41_1 (P : Program) (p : Lab) (Q : VPost) (x0 x1 x5 : AV) (H : Heap) (c : Nat) : vc P p b41_1 Q [(0, x0), (1, x1), (5, x5)] H c = V41_1 P p Q x0 x1 x5 H c := by kernel_rfl
theorem q41_0_e0 (P : Program) (p : Lab) (Q : VPost) (r : RL) (H : Heap) (c : Nat) : q41_0 P p Q (.exit 0) r H c = (vc P p r41_2 Q r H c) := rfl
def V41_2 (P : Program) (p : Lab) (Q : VPost) (x0 x1 x5 x15 : AV) (H : Heap) (c : Nat) : Prop :=
  Q .ret [(4, (.bool true))] H (c + 1)
theorem vt41_2 (P : Program) (p : Lab) (Q : VPost) (x0 x1 x5 x15 : AV) (H : Heap) (c : Nat) : vc P p r41_2 Q [(0, x0), (1, x1), (5, x5), (15, x15)] H c = V41_2 P p Q x0 x1 x5 x15 H c := by kernel_rfl

def b50_1 : ACode := (.seq (.region [⟨(some 16), none, (.bin .lss .num), [.t 15, .t 14]⟩] none [1, 6, 13, 14, 15, 16])
  (.seq (.cond (.t 16) .skip
  (.exit 0))
  (.seq (.block 1 (.seq (.region [⟨(some 17), none, .move, [.t 15]⟩, ⟨(some 18), none, (.indexAddr 1), [.t 13, .t 15]⟩, ⟨(some 19), none, (.load 1 false), [.t 18]⟩, ⟨(some 7), none, .move, [.t 17]⟩, ⟨(some 8), none, .move, [.t 19]⟩] none [1, 6, 7, 8, 13, 14, 15])
  (.block 2 (.seq (.region [⟨(some 21), none, .move, [.t 8]⟩, ⟨(some 22), none, .move, [.t 1]⟩, ⟨(some 23), none, .move, [.t 7]⟩, ⟨(some 24), none, (.indexAddr 1), [.t 22, .t 23]⟩, ⟨(some 25), none, (.load 1 false), [.t 24]⟩, ⟨(some 26), none, (.bin .lss .num), [.t 21, .t 25]⟩, ⟨(some 20), none, .move, [.t 26]⟩] none [1, 6, 7, 8, 13, 14, 15, 20])
  (.cond (.t 20) (.region [⟨(some 27), none, .move, [.t 6]⟩, ⟨(some 28), none, (.bin .or .num), [.t 27, .c (.int .i64 1)]⟩, ⟨(some 6), none, .move, [.t 28]⟩] none [1, 6, 13, 14, 15])
  (.seq (.region [⟨(some 30), none, .move, [.t 8]⟩, ⟨(some 31), none, .move, [.t 1]⟩, ⟨(some 32), none, .move, [.t 7]⟩, ⟨(some 33), none, (.indexAddr 1), [.t 31, .t 32]⟩, ⟨(some 34), none, (.load 1 false), [.t 33]⟩, ⟨(some 35), none, (.bin .gtr .num), [.t 30, .t 34]⟩, ⟨(some 29), none, .move, [.t 35]⟩] none [1, 6, 13, 14, 15, 29])
  (.cond (.t 29) (.region [⟨(some 36), none, .move, [.t 6]⟩, ⟨(some 37), none, (.bin .or .num), [.t 36, .c (.int .i64 2)]⟩, ⟨(some 6), none, .move, [.t 37]⟩] none [1, 6, 13, 14, 15])
  .skip)))))))
  (.region [⟨(some 38), none, (.bin .add .num), [.t 15, .c (.int .i64 1)]⟩, ⟨(some 15), none, .move, [.t 38]⟩] none [1, 6, 13, 14, 15]))))
def l50_1 : ACode := .loop [1, 6, 13, 14, 15] b50_1
def r50_2 : ACode := (.seq (.region [⟨(some 39), none, .move, [.t 6]⟩, ⟨(some 4), none, .move, [.t 39]⟩, ⟨(some 5), none, .move, [.c (.int .i64 0)]⟩] none [4, 5])
  .ret)
/-- (duet/vec.Vec).Compare -/
def c50 : AFun := ⟨2, 40, [.tmp 4, .tmp 5],
  (.seq (.region [⟨(some 4), none, .move, [.c (.int .i64 0)]⟩, ⟨(some 5), none, .move, [.c (.int .i64 0)]⟩] none [0, 1])
  (.seq (.seq (.region [⟨(some 9), none, .move, [.t 0]⟩, ⟨(some 10), none, .move, [.t 1]⟩, ⟨(some 11), none, .call, [.c (.fn (.func 75) [] []), .t 9, .t 10]⟩, ⟨(some 12), none, (.un .not), [.t 11]⟩] none [0, 1, 12])
  (.cond (.t 12) (.seq (.region [⟨(some 4), none, .move, [.c (.int .i64 0)]⟩, ⟨(some 5), none, .move, [.c (.int .i64 1)]⟩] none [4, 5])
  .ret)
  .skip))
  (.seq (.region [⟨(some 6), none, .move, [.c (.int .i64 0)]⟩] none [0, 1, 6])
  (.seq (.seq (.region [⟨(some 13), none, .move, [.t 0]⟩, ⟨(some 14), none, (.len .slice), [.t 13]⟩, ⟨(some 15), none, .move, [.c (.int .i64 0)]⟩] none [1, 6, 13, 14, 15])
  (.block 0 l50_1)) r50_2))))⟩
theorem ok50 : FunOk Try.prog 50 c50 := ⟨⟨Try.f50, _, Try.func50, rfl, by kernel_rfl, by kernel_rfl, by kernel_rfl, by kernel_rfl⟩, by decide⟩
theorem res50 : c50.res = [.tmp 4, .tmp 5] := rfl
def k50_0 (P : Program) (p : Lab) (Q : VPost)  (H : Heap) (c : Nat) : Prop :=
  Q .ret [(4, (.int .i64 0)), (5, (.int .i64 1))] H c
def k50_1 (P : Program) (p : Lab) (Q : VPost) (H4 : Heap) (c : Nat) (_ : Unit) : Prop :=
  (k50_0 P p Q  H4 (c + 8))
def q50_0 (P : Program) (p : Lab) (Q : VPost) : VPost := (vblockQ 0 (vseqQ (vc P p r50_2 Q) Q))
theorem q50_0_ret (P : Program) (p : Lab) (Q : VPost) (r : RL) (H : Heap) (c : Nat) : q50_0 P p Q .ret r H c = Q .ret r H c := rfl
def k50_2 (P : Program) (p : Lab) (Q : VPost) (y0 : AV) (y1 : AV) (y12 : AV) (H : Heap) (c : Nat) : Prop :=
  vLen y0 fun v14_10 =>
  vc P p l50_1 (q50_0 P p Q) [(1, y1), (6, (.int .i64 0)), (13, y0), (14, v14_10), (15, (.int .i64 0))] H (c + 4)
def k50_3 (P : Program) (p : Lab) (Q : VPost) (v12_5 : AV) (H4 : Heap) (x0 : AV) (x1 : AV) (c : Nat) (_ : Unit) : Prop :=
  (k50_2 P p Q x0 x1 v12_5 H4 (c + 6))
def k50_4 (P : Program) (p : Lab) (Q : VPost) (x0 : AV) (x1 : AV) (c : Nat) (v11_4 : AV) (H4 : Heap) (l4 : List Lab) (f4 : Option (List Lab)) : Prop :=
  vNot v11_4 fun v12_5 =>
  vSel v12_5
  (k50_1 P p Q H4 c)
  (k50_3 P p Q v12_5 H4 x0 x1 c)
def V50 (P : Program) (p : Lab) (Q : VPost) (x0 x1 : AV) (H : Heap) (c : Nat) : Prop :=
  vCall P 75 [x0, x1] H ((c + 4) :: p) (k50_4 P p Q x0 x1 c)
theorem vt50 (P : Program) (p : Lab) (Q : VPost) (x0 x1 : AV) (H : Heap) (c : Nat) : vc P p c50.body Q [(0, x0), (1, x1)] H c = V50 P p Q x0 x1 H c := by kernel_rfl
def k50_6 (P : Program) (p : Lab) (Q : VPost) (y1 : AV) (y6 : AV) (y13 : AV) (y14 : AV) (y15 : AV) (H : Heap) (c : Nat) : Prop :=
  vBin .add .num y15 (.int .i64 1) fun v38_28 =>
  Q .normal [(1, y1), (6, y6), (13, y13), (14, y14), (15, v38_28)] H (c + 2)
def k50_7 (P : Program) (p : Lab) (Q : VPost) (y1 : AV) (y6 : AV) (y13 : AV) (y14 : AV) (y15 : AV) (H : Heap) (c : Nat) (_ : Unit) : Prop :=
  vBin .or .num y6 (.int .i64 1) fun v28_26 =>
  (k50_6 P p Q y1 v28_26 y13 y14 y15 H (c + 15))
def k50_9 (P : Program) (p : Lab) (Q : VPost) (y1 : AV) (y6 : AV) (y13 : AV) (y14 : AV) (y15 : AV) (H : Heap) (c : Nat) (_ : Unit) : Prop :=
  vBin .or .num y6 (.int .i64 2) fun v37_38 =>
  (k50_6 P p Q y1 v37_38 y13 y14 y15 H (c + 10))
def k50_10 (P : Program) (p : Lab) (Q : VPost) (y1 : AV) (y6 : AV) (y13 : AV) (y14 : AV) (y15 : AV) (y29 : AV) (H : Heap) (c : Nat) : Prop :=
  vBin .add .num y15 (.int .i64 1) fun v38_40 =>
  Q .normal [(1, y1), (6, y6), (13, y13), (14, y14), (15, v38_40)] H (c + 2)
def k50_11 (P : Program) (p : Lab) (Q : VPost) (v35_35 : AV) (y1 : AV) (y6 : AV) (y13 : AV) (y14 : AV) (y15 : AV) (H : Heap) (c : Nat) (_ : Unit) : Prop :=
  (k50_10 P p Q y1 y6 y13 y14 y15 v35_35 H (c + 7))
def k50_8 (P : Program) (p : Lab) (Q : VPost) (y1 : AV) (y6 : AV) (y7 : AV) (y8 : AV) (y13 : AV) (y14 : AV) (y15 : AV) (H : Heap) (c : Nat) : Prop :=
  vIx 1 y1 y7 fun v33_33 =>
  vLoad 1 false v33_33 H fun v34_34 _ =>
  vBin .gtr .num y8 v34_34 fun v35_35 =>
  vSel v35_35
  (k50_9 P p Q y1 y6 y13 y14 y15 H c)
  (k50_11 P p Q v35_35 y1 y6 y13 y14 y15 H c)
def k50_12 (P : Program) (p : Lab) (Q : VPost) (v19_15 : AV) (y1 : AV) (y6 : AV) (y13 : AV) (y14 : AV) (y15 : AV) (H : Heap) (c : Nat) (_ : Unit) : Prop :=
  (k50_8 P p Q y1 y6 y15 v19_15 y13 y14 y15 H (c + 12))
def k50_5 (P : Program) (p : Lab) (Q : VPost) (y1 : AV) (y6 : AV) (y13 : AV) (y14 : AV) (y15 : AV) (y16 : AV) (H : Heap) (c : Nat) : Prop :=
  vIx 1 y13 y15 fun v18_14 =>
  vLoad 1 false v18_14 H fun v19_15 _ =>
  vIx 1 y1 y15 fun v24_21 =>
  vLoad 1 false v24_21 H fun v25_22 _ =>
  vBin .lss .num v19_15 v25_22 fun v26_23 =>
  vSel v26_23
  (k50_7 P p Q y1 y6 y13 y14 y15 H c)
  (k50_12 P p Q v19_15 y1 y6 y13 y14 y15 H c)
def k50_13 (P : Program) (p : Lab) (Q : VPost) (v16_12 : AV) (x1 : AV) (x6 : AV) (x13 : AV) (x14 : AV) (x15 : AV) (H : Heap) (c : Nat) (_ : Unit) : Prop :=
  (k50_5 P p Q x1 x6 x13 x14 x15 v16_12 H (c + 1))
def V50_1 (P : Program) (p : Lab) (Q : VPost) (x1 x6 x13 x14 x15 : AV) (H : Heap) (c : Nat) : Prop :=
  vBin .lss .num x15 x14 fun v16_12 =>
  vSel v16_12
  (k50_13 P p Q v16_12 x1 x6 x13 x14 x15 H c)
  (fun _ =>
  Q (.exit 0) [(1, x1), (6, x6), (13, x13), (14, x14), (15, x15), (16, v16_12)] H (c + 1))
theorem vt50_1 (P : Program) (p : Lab) (Q : VPost) (x1 x6 x13 x14 x15 : AV) (H : Heap) (c : Nat) : vc P p b50_1 Q [(1, x1), (6, x6), (13, x13), (14, x14), (15, x15)] H c = V50_1 P p Q x1 x6 x13 x14 x15 H c := by kernel_rfl
theorem q50_0_e0 (P : Program) (p : Lab) (Q : VPost) (r : RL) (H : Heap) (c : Nat) : q50_0 P p Q (.exit 0) r H c = (vc P p r50_2 Q r H c) := rfl
def V50_2 (P : Program) (p : Lab) (Q : VPost) (x1 x6 x13 x14 x15 x16 : AV) (H : Heap) (c : Nat) : Prop :=
  Q .ret [(4, x6), (5, (.int .i64 0))] H (c + 3)
theorem vt50_2 (P : Program) (p : Lab) (Q : VPost) (x1 x6 x13 x14 x15 x16 : AV) (H : Heap) (c : Nat) : vc P p r50_2 Q [(1, x1), (6, x6), (13, x13), (14, x14), (15, x15), (16, x16)] H c = V50_2 P p Q x1 x6 x13 x14 x15 x16 H c := by kernel_rfl


/-- duet/duetref06.Compare -/
def c51 : AFun := ⟨2, 27, [.tmp 4, .tmp 5],
  (.seq (.region [⟨(some 4), none, .move, [.c (.int .i64 0)]⟩, ⟨(some 5), none, .move, [.c (.int .i64 0)]⟩] none [0, 1])
  (.seq (.seq (.region [⟨(some 8), none, .move, [.t 0]⟩, ⟨(some 9), none, .move, [.t 1]⟩, ⟨(some 10), none, .call, [.c (.fn (.func 76) [] []), .t 8, .t 9]⟩, ⟨(some 11), none, (.un .not), [.t 10]⟩] none [0, 1, 11])
  (.cond (.t 11) (.seq (.region [⟨(some 4), none, .move, [.c (.int .i64 0)]⟩, ⟨(some 5), none, .move, [.c (.int .i64 1)]⟩] none [4, 5])
  .ret)
  .skip))
  (.seq (.region [⟨(some 12), none, .move, [.t 0]⟩, ⟨(some 13), none, .move, [.t 1]⟩, ⟨(some 14), none, .call, [.c (.fn (.func 41) [] []), .t 12, .t 13]⟩, ⟨(some 6), none, .move, [.t 14]⟩] none [0, 1, 6])
  (.seq (.region [⟨(some 15), none, .move, [.t 1]⟩, ⟨(some 16), none, .move, [.t 0]⟩, ⟨(some 17), none, .call, [.c (.fn (.func 41) [] []), .t 15, .t 16]⟩, ⟨(some 7), none, .move, [.t 17]⟩] none [6, 7])
  (.seq (.block 0 (.seq (.region [⟨(some 19), none, .move, [.t 6]⟩, ⟨(some 20), none, .move, [.t 19]⟩, ⟨(some 21), (some (20, true)), .move, [.t 7]⟩, ⟨(some 22), none, .pick, [.t 20, .t 21, .c (.bool false)]⟩, ⟨(some 18), none, .move, [.t 22]⟩] none [6, 7, 18])
  (.cond (.t 18) (.seq (.region [⟨(some 4), none, .move, [.c (.int .i64 0)]⟩, ⟨(some 5), none, .move, [.c (.int .i64 0)]⟩] none [4, 5])
  .ret)
  (.seq (.region [⟨(some 24), none, .move, [.t 6]⟩, ⟨(some 23), none, .move, [.t 24]⟩] none [7, 23])
  (.cond (.t 23) (.seq (.region [⟨(some 4), none, .move, [.c (.int .i64 1)]⟩, ⟨(some 5), none, .move, [.c (.int .i64 0)]⟩] none [4, 5])
  .ret)
  (.seq (.region [⟨(some 26), none, .move, [.t 7]⟩, ⟨(some 25), none, .move, [.t 26]⟩] none [25])
  (.cond (.t 25) (.seq (.region [⟨(some 4), none, .move, [.c (.int .i64 2)]⟩, ⟨(some 5), none, .move, [.c (.int .i64 0)]⟩] none [4, 5])
  .ret)
  .skip)))))))
  (.seq (.region [⟨(some 4), none, .move, [.c (.int .i64 3)]⟩, ⟨(some 5), none, .move, [.c (.int .i64 0)]⟩] none [4, 5])
  .ret))))))⟩
theorem ok51 : FunOk Try.prog 51 c51 := ⟨⟨Try.f51, _, Try.func51, rfl, by kernel_rfl, by kernel_rfl, by kernel_rfl, by kernel_rfl⟩, by decide⟩
theorem res51 : c51.res = [.tmp 4, .tmp 5] := rfl
def k51_0 (P : Program) (p : Lab) (Q : VPost)  (H : Heap) (c : Nat) : Prop :=
  Q .ret [(4, (.int .i64 0)), (5, (.int .i64 1))] H c
def k51_1 (P : Program) (p : Lab) (Q : VPost) (H4 : Heap) (c : Nat) (_ : Unit) : Prop :=
  (k51_0 P p Q  H4 (c + 8))
def k51_4 (P : Program) (p : Lab) (Q : VPost)  (H : Heap) (c : Nat) : Prop :=
  Q .ret [(4, (.int .i64 0)), (5, (.int .i64 0))] H c
def k51_5 (P : Program) (p : Lab) (Q : VPost) (H : Heap) (c : Nat) (_ : Unit) : Prop :=
  (k51_4 P p Q  H (c + 2))
def k51_7 (P : Program) (p : Lab) (Q : VPost)  (H : Heap) (c : Nat) : Prop :=
  Q .ret [(4, (.int .i64 1)), (5, (.int .i64 0))] H c
def k51_8 (P : Program) (p : Lab) (Q : VPost) (H : Heap) (c : Nat) (_ : Unit) : Prop :=
  (k51_7 P p Q  H (c + 2))
def k51_10 (P : Program) (p : Lab) (Q : VPost)  (H : Heap) (c : Nat) : Prop :=
  Q .ret [(4, (.int .i64 2)), (5, (.int .i64 0))] H c
def k51_11 (P : Program) (p : Lab) (Q : VPost) (H : Heap) (c : Nat) (_ : Unit) : Prop :=
  (k51_10 P p Q  H (c + 2))
def k51_12 (P : Program) (p : Lab) (Q : VPost) (y25 : AV) (H : Heap) (c : Nat) : Prop :=
  Q .ret [(4, (.int .i64 3)), (5, (.int .i64 0))] H (c + 2)
def k51_13 (P : Program) (p : Lab) (Q : VPost) (y25 : AV) (H : Heap) (c : Nat) (_ : Unit) : Prop :=
  (k51_12 P p Q y25 H c)
def k51_9 (P : Program) (p : Lab) (Q : VPost) (y25 : AV) (H : Heap) (c : Nat) : Prop :=
  vSel y25
  (k51_11 P p Q H c)
  (k51_13 P p Q y25 H c)
def k51_14 (P : Program) (p : Lab) (Q : VPost) (y7 : AV) (H : Heap) (c : Nat) (_ : Unit) : Prop :=
  (k51_9 P p Q y7 H (c + 2))
def k51_6 (P : Program) (p : Lab) (Q : VPost) (y7 : AV) (y23 : AV) (H : Heap) (c : Nat) : Prop :=
  vSel y23
  (k51_8 P p Q H c)
  (k51_14 P p Q y7 H c)
def k51_15 (P : Program) (p : Lab) (Q : VPost) (y6 : AV) (y7 : AV) (H : Heap) (c : Nat) (_ : Unit) : Prop :=
  (k51_6 P p Q y7 y6 H (c + 2))
def k51_3 (P : Program) (p : Lab) (Q : VPost) (y6 : AV) (y7 : AV) (y18 : AV) (H : Heap) (c : Nat) : Prop :=
  vSel y18
  (k51_5 P p Q H c)
  (k51_15 P p Q y6 y7 H c)
def k51_16 (P : Program) (p : Lab) (Q : VPost) (v17_14 : AV) (H14 : Heap) (v14_10 : AV) (c : Nat) (_ : Unit) : Prop :=
  (k51_3 P p Q v14_10 v17_14 v17_14 H14 (c + 13))
def k51_18 (P : Program) (p : Lab) (Q : VPost) (H : Heap) (c : Nat) (_ : Unit) : Prop :=
  (k51_7 P p Q  H (c + 4))
def k51_19 (P : Program) (p : Lab) (Q : VPost) (y7 : AV) (H : Heap) (c : Nat) (_ : Unit) : Prop :=
  (k51_9 P p Q y7 H (c + 4))
def k51_17 (P : Program) (p : Lab) (Q : VPost) (y6 : AV) (y7 : AV) (H : Heap) (c : Nat) : Prop :=
  vSel y6
  (k51_18 P p Q H c)
  (k51_19 P p Q y7 H c)
def k51_20 (P : Program) (p : Lab) (Q : VPost) (v17_14 : AV) (H14 : Heap) (v14_10 : AV) (c : Nat) (_ : Unit) : Prop :=
  (k51_17 P p Q v14_10 v17_14 H14 (c + 13))
def k51_21 (P : Program) (p : Lab) (Q : VPost) (v14_10 : AV) (c : Nat) (v17_14 : AV) (H14 : Heap) (l14 : List Lab) (f14 : Option (List Lab)) : Prop :=
  vSel v14_10
  (k51_16 P p Q v17_14 H14 v14_10 c)
  (k51_20 P p Q v17_14 H14 v14_10 c)
def k51_22 (P : Program) (p : Lab) (Q : VPost) (y0 : AV) (y1 : AV) (c : Nat) (v14_10 : AV) (H10 : Heap) (l10 : List Lab) (f10 : Option (List Lab)) : Prop :=
  vCall P 41 [y1, y0] H10 ((c + 6) :: p) (k51_21 P p Q v14_10 c)
def k51_2 (P : Program) (p : Lab) (Q : VPost) (y0 : AV) (y1 : AV) (y11 : AV) (H : Heap) (c : Nat) : Prop :=
  vCall P 41 [y0, y1] H ((c + 2) :: p) (k51_22 P p Q y0 y1 c)
def k51_23 (P : Program) (p : Lab) (Q : VPost) (v11_5 : AV) (H4 : Heap) (x0 : AV) (x1 : AV) (c : Nat) (_ : Unit) : Prop :=
  (k51_2 P p Q x0 x1 v11_5 H4 (c + 6))
def k51_24 (P : Program) (p : Lab) (Q : VPost) (x0 : AV) (x1 : AV) (c : Nat) (v10_4 : AV) (H4 : Heap) (l4 : List Lab) (f4 : Option (List Lab)) : Prop :=
  vNot v10_4 fun v11_5 =>
  vSel v11_5
  (k51_1 P p Q H4 c)
  (k51_23 P p Q v11_5 H4 x0 x1 c)
def V51 (P : Program) (p : Lab) (Q : VPost) (x0 x1 : AV) (H : Heap) (c : Nat) : Prop :=
  vCall P 76 [x0, x1] H ((c + 4) :: p) (k51_24 P p Q x0 x1 c)
theorem vt51 (P : Program) (p : Lab) (Q : VPost) (x0 x1 : AV) (H : Heap) (c : Nat) : vc P p c51.body Q [(0, x0), (1, x1)] H c = V51 P p Q x0 x1 H c := by kernel_rfl


/-- (duet/vec.Vec).goes -/
def c75 : AFun := ⟨2, 20, [.tmp 4],
  (.seq (.region [⟨(some 4), none, .move, [.c (.bool false)]⟩] none [0, 1])
  (.seq (.region [⟨(some 5), none, .move, [.t 0]⟩, ⟨(some 6), none, (.len .slice), [.t 5]⟩, ⟨(some 7), none, .move, [.t 1]⟩, ⟨(some 8), none, (.len .slice), [.t 7]⟩, ⟨(some 9), none, (.bin .eql .num), [.t 6, .t 8]⟩, ⟨(some 10), none, .move, [.t 9]⟩, ⟨(some 11), (some (10, true)), .move, [.t 0]⟩, ⟨(some 12), (some (10, true)), .call, [.c (.fn (.func 46) [] []), .t 11]⟩, ⟨(some 13), (some (10, true)), (.bin .eql .num), [.t 12, .c (.int .i64 0)]⟩, ⟨(some 14), none, .pick, [.t 10, .t 13, .c (.bool false)]⟩, ⟨(some 15), none, .move, [.t 14]⟩, ⟨(some 16), (some (15, true)), .move, [.t 1]⟩, ⟨(some 17), (some (15, true)), .call, [.c (.fn (.func 46) [] []), .t 16]⟩, ⟨(some 18), (some (15, true)), (.bin .eql .num), [.t 17, .c (.int .i64 0)]⟩, ⟨(some 19), none, .pick, [.t 15, .t 18, .c (.bool false)]⟩, ⟨(some 4), none, .move, [.t 19]⟩] none [4])
  .ret))⟩
theorem ok75 : FunOk Try.prog 75 c75 := ⟨⟨Try.f75, _, Try.func75, rfl, by kernel_rfl, by kernel_rfl, by kernel_rfl, by kernel_rfl⟩, by decide⟩
theorem res75 : c75.res = [.tmp 4] := rfl
def k75_1 (P : Program) (p : Lab) (Q : VPost) (y4 : AV) (H : Heap) (c : Nat) : Prop :=
  Q .ret [(4, y4)] H c
def k75_2 (P : Program) (p : Lab) (Q : VPost) (c : Nat) (v17_13 : AV) (H13 : Heap) (l13 : List Lab) (f13 : Option (List Lab)) : Prop :=
  vBin .eql .num v17_13 (.int .i64 0) fun v18_14 =>
  (k75_1 P p Q v18_14 H13 (c + 7))
def k75_3 (P : Program) (p : Lab) (Q : VPost) (y1 : AV) (H : Heap) (c : Nat) (_ : Unit) : Prop :=
  vCall P 46 [y1] H ((c + 3) :: p) (k75_2 P p Q c)
def k75_4 (P : Program) (p : Lab) (Q : VPost)  (H : Heap) (c : Nat) : Prop :=
  Q .ret [(4, (.bool false))] H c
def k75_5 (P : Program) (p : Lab) (Q : VPost) (H : Heap) (c : Nat) (_ : Unit) : Prop :=
  (k75_4 P p Q  H (c + 7))
def k75_0 (P : Program) (p : Lab) (Q : VPost) (y1 : AV) (y13 : AV) (H : Heap) (c : Nat) : Prop :=
  vSel y13
  (k75_3 P p Q y1 H c)
  (k75_5 P p Q H c)
def k75_6 (P : Program) (p : Lab) (Q : VPost) (x1 : AV) (c : Nat) (v12_8 : AV) (H8 : Heap) (l8 : List Lab) (f8 : Option (List Lab)) : Prop :=
  vBin .eql .num v12_8 (.int .i64 0) fun v13_9 =>
  (k75_0 P p Q x1 v13_9 H8 (c + 10))
def k75_7 (P : Program) (p : Lab) (Q : VPost) (x0 : AV) (x1 : AV) (H : Heap) (c : Nat) (_ : Unit) : Prop :=
  vCall P 46 [x0] H ((c + 8) :: p) (k75_6 P p Q x1 c)
def k75_8 (P : Program) (p : Lab) (Q : VPost) (y1 : AV) (H : Heap) (c : Nat) : Prop :=
  (k75_4 P p Q  H (c + 7))
def k75_9 (P : Program) (p : Lab) (Q : VPost) (x1 : AV) (H : Heap) (c : Nat) (_ : Unit) : Prop :=
  (k75_8 P p Q x1 H (c + 10))
def V75 (P : Program) (p : Lab) (Q : VPost) (x0 x1 : AV) (H : Heap) (c : Nat) : Prop :=
  vLen x0 fun v6_2 =>
  vLen x1 fun v8_4 =>
  vBin .eql .num v6_2 v8_4 fun v9_5 =>
  vSel v9_5
  (k75_7 P p Q x0 x1 H c)
  (k75_9 P p Q x1 H c)
theorem vt75 (P : Program) (p : Lab) (Q : VPost) (x0 x1 : AV) (H : Heap) (c : Nat) : vc P p c75.body Q [(0, x0), (1, x1)] H c = V75 P p Q x0 x1 H c := by kernel_rfl

def b48_1 : ACode := (.seq (.seq (.region [⟨(some 4), none, .move, [.t 3]⟩, ⟨(some 5), none, .move, [.t 0]⟩, ⟨(some 6), none, (.len .slice), [.t 5]⟩, ⟨(some 7), none, (.bin .lss .num), [.t 4, .t 6]⟩] none [0, 3, 7])
  (.cond (.t 7) .skip
  (.exit 0)))
  (.seq (.block 1 (.seq (.region [⟨(some 10), none, .move, [.t 0]⟩, ⟨(some 11), none, .move, [.t 3]⟩, ⟨(some 12), none, (.indexAddr 1), [.t 10, .t 11]⟩, ⟨(some 13), none, (.load 1 false), [.t 12]⟩, ⟨(some 14), none, (.bin .lss .num), [.t 13, .c (.int .i64 0)]⟩, ⟨(some 15), none, .move, [.t 14]⟩, ⟨(some 16), (some (15, false)), .move, [.t 0]⟩, ⟨(some 17), (some (15, false)), .move, [.t 3]⟩, ⟨(some 18), (some (15, false)), (.indexAddr 1), [.t 16, .t 17]⟩, ⟨(some 19), (some (15, false)), (.load 1 false), [.t 18]⟩, ⟨(some 20), (some (15, false)), (.bin .gtr .num), [.t 19, .c (.int .i64 4294967295)]⟩, ⟨(some 21), none, .pick, [.t 15, .c (.bool true), .t 20]⟩] none [0, 3, 21])
  (.cond (.t 21) (.seq (.region [⟨(some 2), none, .move, [.c (.bool false)]⟩] none [2])
  .ret)
  .skip)))
  (.region [⟨(some 8), none, .move, [.t 3]⟩, ⟨(some 9), none, (.bin .add .num), [.t 8, .c (.int .i64 1)]⟩, ⟨(some 3), none, .move, [.t 9]⟩] none [0, 3])))
def l48_1 : ACode := .loop [0, 3] b48_1
def r48_2 : ACode := (.seq (.region [⟨(some 22), none, .move, [.t 0]⟩, ⟨(some 23), none, (.len .slice), [.t 22]⟩, ⟨(some 24), none, (.bin .geq .num), [.t 23, .c (.int .i64 1)]⟩, ⟨(some 25), none, .move, [.t 24]⟩, ⟨(some 26), (some (25, true)), .move, [.t 0]⟩, ⟨(some 27), (some (25, true)), (.len .slice), [.t 26]⟩, ⟨(some 28), (some (25, true)), (.bin .leq .num), [.t 27, .c (.int .i64 16)]⟩, ⟨(some 29), none, .pick, [.t 25, .t 28, .c (.bool false)]⟩, ⟨(some 2), none, .move, [.t 29]⟩] none [2])
  .ret)
/-- duet/duetref06.May -/
def c48 : AFun := ⟨1, 30, [.tmp 2],
  (.seq (.region [⟨(some 2), none, .move, [.c (.bool false)]⟩] none [0])
  (.seq (.seq (.region [⟨(some 3), none, .move, [.c (.int .i64 0)]⟩] none [0, 3])
  (.block 0 l48_1)) r48_2))⟩
theorem ok48 : FunOk Try.prog 48 c48 := ⟨⟨Try.f48, _, Try.func48, rfl, by kernel_rfl, by kernel_rfl, by kernel_rfl, by kernel_rfl⟩, by decide⟩
theorem res48 : c48.res = [.tmp 2] := rfl
def q48_0 (P : Program) (p : Lab) (Q : VPost) : VPost := (vblockQ 0 (vseqQ (vc P p r48_2 Q) Q))
theorem q48_0_ret (P : Program) (p : Lab) (Q : VPost) (r : RL) (H : Heap) (c : Nat) : q48_0 P p Q .ret r H c = Q .ret r H c := rfl
def V48 (P : Program) (p : Lab) (Q : VPost) (x0 : AV) (H : Heap) (c : Nat) : Prop :=
  vc P p l48_1 (q48_0 P p Q) [(0, x0), (3, (.int .i64 0))] H (c + 2)
theorem vt48 (P : Program) (p : Lab) (Q : VPost) (x0 : AV) (H : Heap) (c : Nat) : vc P p c48.body Q [(0, x0)] H c = V48 P p Q x0 H c := by kernel_rfl
def k48_1 (P : Program) (p : Lab) (Q : VPost) (y0 : AV) (y3 : AV) (H : Heap) (c : Nat) : Prop :=
  Q .ret [(2, (.bool false))] H (c + 1)
def k48_2 (P : Program) (p : Lab) (Q : VPost) (y0 : AV) (y3 : AV) (H : Heap) (c : Nat) (_ : Unit) : Prop :=
  (k48_1 P p Q y0 y3 H (c + 12))
def k48_4 (P : Program) (p : Lab) (Q : VPost)  (H : Heap) (c : Nat) : Prop :=
  Q .ret [(2, (.bool false))] H c
def k48_5 (P : Program) (p : Lab) (Q : VPost) (H : Heap) (c : Nat) (_ : Unit) : Prop :=
  (k48_4 P p Q  H (c + 1))
def k48_6 (P : Program) (p : Lab) (Q : VPost) (y0 : AV) (y3 : AV) (y21 : AV) (H : Heap) (c : Nat) : Prop :=
  vBin .add .num y3 (.int .i64 1) fun v9_22 =>
  Q .normal [(0, y0), (3, v9_22)] H (c + 3)
def k48_7 (P : Program) (p : Lab) (Q : VPost) (y0 : AV) (y3 : AV) (y21 : AV) (H : Heap) (c : Nat) (_ : Unit) : Prop :=
  (k48_6 P p Q y0 y3 y21 H c)
def k48_3 (P : Program) (p : Lab) (Q : VPost) (y0 : AV) (y3 : AV) (y21 : AV) (H : Heap) (c : Nat) : Prop :=
  vSel y21
  (k48_5 P p Q H c)
  (k48_7 P p Q y0 y3 y21 H c)
def k48_8 (P : Program) (p : Lab) (Q : VPost) (y0 : AV) (y3 : AV) (H : Heap) (c : Nat) (_ : Unit) : Prop :=
  vIx 1 y0 y3 fun v18_16 =>
  vLoad 1 false v18_16 H fun v19_17 _ =>
  vBin .gtr .num v19_17 (.int .i64 4294967295) fun v20_18 =>
  (k48_3 P p Q y0 y3 v20_18 H (c + 12))
def k48_0 (P : Program) (p : Lab) (Q : VPost) (y0 : AV) (y3 : AV) (y7 : AV) (H : Heap) (c : Nat) : Prop :=
  vIx 1 y0 y3 fun v12_8 =>
  vLoad 1 false v12_8 H fun v13_9 _ =>
  vBin .lss .num v13_9 (.int .i64 0) fun v14_10 =>
  vSel v14_10
  (k48_2 P p Q y0 y3 H c)
  (k48_8 P p Q y0 y3 H c)
def k48_9 (P : Program) (p : Lab) (Q : VPost) (v7_5 : AV) (x0 : AV) (x3 : AV) (H : Heap) (c : Nat) (_ : Unit) : Prop :=
  (k48_0 P p Q x0 x3 v7_5 H (c + 4))
def V48_1 (P : Program) (p : Lab) (Q : VPost) (x0 x3 : AV) (H : Heap) (c : Nat) : Prop :=
  vLen x0 fun v6_4 =>
  vBin .lss .num x3 v6_4 fun v7_5 =>
  vSel v7_5
  (k48_9 P p Q v7_5 x0 x3 H c)
  (fun _ =>
  Q (.exit 0) [(0, x0), (3, x3), (7, v7_5)] H (c + 4))
theorem vt48_1 (P : Program) (p : Lab) (Q : VPost) (x0 x3 : AV) (H : Heap) (c : Nat) : vc P p b48_1 Q [(0, x0), (3, x3)] H c = V48_1 P p Q x0 x3 H c := by kernel_rfl
theorem q48_0_e0 (P : Program) (p : Lab) (Q : VPost) (r : RL) (H : Heap) (c : Nat) : q48_0 P p Q (.exit 0) r H c = (vc P p r48_2 Q r H c) := rfl
def k48_10 (P : Program) (p : Lab) (Q : VPost) (y2 : AV) (H : Heap) (c : Nat) : Prop :=
  Q .ret [(2, y2)] H c
def k48_11 (P : Program) (p : Lab) (Q : VPost) (x0 : AV) (H : Heap) (c : Nat) (_ : Unit) : Prop :=
  vLen x0 fun v27_29 =>
  vBin .leq .num v27_29 (.int .i64 16) fun v28_30 =>
  (k48_10 P p Q v28_30 H (c + 9))
def k48_12 (P : Program) (p : Lab) (Q : VPost)  (H : Heap) (c : Nat) : Prop :=
  Q .ret [(2, (.bool false))] H c
def k48_13 (P : Program) (p : Lab) (Q : VPost) (H : Heap) (c : Nat) (_ : Unit) : Prop :=
  (k48_12 P p Q  H (c + 9))
def V48_2 (P : Program) (p : Lab) (Q : VPost) (x0 x3 x7 : AV) (H : Heap) (c : Nat) : Prop :=
  vLen x0 fun v23_25 =>
  vBin .geq .num v23_25 (.int .i64 1) fun v24_26 =>
  vSel v24_26
  (k48_11 P p Q x0 H c)
  (k48_13 P p Q H c)
theorem vt48_2 (P : Program) (p : Lab) (Q : VPost) (x0 x3 x7 : AV) (H : Heap) (c : Nat) : vc P p r48_2 Q [(0, x0), (3, x3), (7, x7)] H c = V48_2 P p Q x0 x3 x7 H c := by kernel_rfl


/-- duet/duetref06.together -/
def c76 : AFun := ⟨2, 18, [.tmp 4],
  (.seq (.region [⟨(some 4), none, .move, [.c (.bool false)]⟩] none [0, 1])
  (.seq (.region [⟨(some 5), none, .move, [.t 0]⟩, ⟨(some 6), none, .call, [.c (.fn (.func 48) [] []), .t 5]⟩, ⟨(some 7), none, .move, [.t 6]⟩, ⟨(some 8), (some (7, true)), .move, [.t 1]⟩, ⟨(some 9), (some (7, true)), .call, [.c (.fn (.func 48) [] []), .t 8]⟩, ⟨(some 10), none, .pick, [.t 7, .t 9, .c (.bool false)]⟩, ⟨(some 11), none, .move, [.t 10]⟩, ⟨(some 12), (some (11, true)), .move, [.t 0]⟩, ⟨(some 13), (some (11, true)), (.len .slice), [.t 12]⟩, ⟨(some 14), (some (11, true)), .move, [.t 1]⟩, ⟨(some 15), (some (11, true)), (.len .slice), [.t 14]⟩, ⟨(some 16), (some (11, true)), (.bin .eql .num), [.t 13, .t 15]⟩, ⟨(some 17), none, .pick, [.t 11, .t 16, .c (.bool false)]⟩, ⟨(some 4), none, .move, [.t 17]⟩] none [4])
  .ret))⟩
theorem ok76 : FunOk Try.prog 76 c76 := ⟨⟨Try.f76, _, Try.func76, rfl, by kernel_rfl, by kernel_rfl, by kernel_rfl, by kernel_rfl⟩, by decide⟩
theorem res76 : c76.res = [.tmp 4] := rfl
def k76_1 (P : Program) (p : Lab) (Q : VPost) (y4 : AV) (H : Heap) (c : Nat) : Prop :=
  Q .ret [(4, y4)] H c
def k76_2 (P : Program) (p : Lab) (Q : VPost) (y0 : AV) (y1 : AV) (H : Heap) (c : Nat) (_ : Unit) : Prop :=
  vLen y0 fun v13_9 =>
  vLen y1 fun v15_11 =>
  vBin .eql .num v13_9 v15_11 fun v16_12 =>
  (k76_1 P p Q v16_12 H (c + 9))
def k76_3 (P : Program) (p : Lab) (Q : VPost)  (H : Heap) (c : Nat) : Prop :=
  Q .ret [(4, (.bool false))] H c
def k76_4 (P : Program) (p : Lab) (Q : VPost) (H : Heap) (c : Nat) (_ : Unit) : Prop :=
  (k76_3 P p Q  H (c + 9))
def k76_0 (P : Program) (p : Lab) (Q : VPost) (y0 : AV) (y1 : AV) (y9 : AV) (H : Heap) (c : Nat) : Prop :=
  vSel y9
  (k76_2 P p Q y0 y1 H c)
  (k76_4 P p Q H c)
def k76_5 (P : Program) (p : Lab) (Q : VPost) (x0 : AV) (x1 : AV) (c : Nat) (v9_5 : AV) (H5 : Heap) (l5 : List Lab) (f5 : Option (List Lab)) : Prop :=
  (k76_0 P p Q x0 x1 v9_5 H5 (c + 6))
def k76_6 (P : Program) (p : Lab) (Q : VPost) (H2 : Heap) (x0 : AV) (x1 : AV) (c : Nat) (_ : Unit) : Prop :=
  vCall P 48 [x1] H2 ((c + 5) :: p) (k76_5 P p Q x0 x1 c)
def k76_7 (P : Program) (p : Lab) (Q : VPost) (y0 : AV) (y1 : AV) (H : Heap) (c : Nat) : Prop :=
  (k76_3 P p Q  H (c + 9))
def k76_8 (P : Program) (p : Lab) (Q : VPost) (H2 : Heap) (x0 : AV) (x1 : AV) (c : Nat) (_ : Unit) : Prop :=
  (k76_7 P p Q x0 x1 H2 (c + 6))
def k76_9 (P : Program) (p : Lab) (Q : VPost) (x0 : AV) (x1 : AV) (c : Nat) (v6_2 : AV) (H2 : Heap) (l2 : List Lab) (f2 : Option (List Lab)) : Prop :=
  vSel v6_2
  (k76_6 P p Q H2 x0 x1 c)
  (k76_8 P p Q H2 x0 x1 c)
def V76 (P : Program) (p : Lab) (Q : VPost) (x0 x1 : AV) (H : Heap) (c : Nat) : Prop :=
  vCall P 48 [x0] H ((c + 2) :: p) (k76_9 P p Q x0 x1 c)
theorem vt76 (P : Program) (p : Lab) (Q : VPost) (x0 x1 : AV) (H : Heap) (c : Nat) : vc P p c76.body Q [(0, x0), (1, x1)] H c = V76 P p Q x0 x1 H c := by kernel_rfl


/-- (duet/vec.Vec).Check -/
def c46 : AFun := ⟨1, 21, [.tmp 2],
  (.seq (.region [⟨(some 2), none, .move, [.c (.int .i64 0)]⟩] none [0])
  (.seq (.seq (.region [⟨(some 3), none, .move, [.t 0]⟩, ⟨(some 4), none, (.len .slice), [.t 3]⟩, ⟨(some 5), none, (.bin .lss .num), [.t 4, .c (.int .i64 1)]⟩, ⟨(some 6), none, .move, [.t 5]⟩, ⟨(some 7), (some (6, false)), .move, [.t 0]⟩, ⟨(some 8), (some (6, false)), (.len .slice), [.t 7]⟩, ⟨(some 9), (some (6, false)), (.bin .gtr .num), [.t 8, .c (.int .i64 16)]⟩, ⟨(some 10), none, .pick, [.t 6, .c (.bool true), .t 9]⟩, ⟨(some 11), none, .move, [.t 10]⟩, ⟨(some 12), (some (11, false)), .move, [.t 0]⟩, ⟨(some 13), (some (11, false)), .call, [.c (.fn (.func 73) [] []), .t 12]⟩, ⟨(some 14), (some (11, false)), (.bin .lss .num), [.t 13, .c (.int .i64 0)]⟩, ⟨(some 15), none, .pick, [.t 11, .c (.bool true), .t 14]⟩, ⟨(some 16), none, .move, [.t 15]⟩, ⟨(some 17), (some (16, false)), .move, [.t 0]⟩, ⟨(some 18), (some (16, false)), .call, [.c (.fn (.func 74) [] []), .t 17]⟩, ⟨(some 19), (some (16, false)), (.bin .gtr .num), [.t 18, .c (.int .i64 4294967295)]⟩, ⟨(some 20), none, .pick, [.t 16, .c (.bool true), .t 19]⟩] none [20])
  (.cond (.t 20) (.seq (.region [⟨(some 2), none, .move, [.c (.int .i64 1)]⟩] none [2])
  .ret)
  .skip))
  (.seq (.region [⟨(some 2), none, .move, [.c (.int .i64 0)]⟩] none [2])
  .ret)))⟩
theorem ok46 : FunOk Try.prog 46 c46 := ⟨⟨Try.f46, _, Try.func46, rfl, by kernel_rfl, by kernel_rfl, by kernel_rfl, by kernel_rfl⟩, by decide⟩
theorem res46 : c46.res = [.tmp 2] := rfl
def k46_2 (P : Program) (p : Lab) (Q : VPost)  (H : Heap) (c : Nat) : Prop :=
  Q .ret [(2, (.int .i64 1))] H (c + 1)
def k46_1 (P : Program) (p : Lab) (Q : VPost) (y0 : AV) (H : Heap) (c : Nat) : Prop :=
  (k46_2 P p Q  H (c + 6))
def k46_0 (P : Program) (p : Lab) (Q : VPost) (y0 : AV) (H : Heap) (c : Nat) : Prop :=
  (k46_1 P p Q y0 H (c + 5))
def k46_3 (P : Program) (p : Lab) (Q : VPost) (x0 : AV) (H : Heap) (c : Nat) (_ : Unit) : Prop :=
  (k46_0 P p Q x0 H (c + 8))
def k46_5 (P : Program) (p : Lab) (Q : VPost) (y0 : AV) (H : Heap) (c : Nat) : Prop :=
  (k46_2 P p Q  H (c + 6))
def k46_6 (P : Program) (p : Lab) (Q : VPost) (y0 : AV) (H : Heap) (c : Nat) (_ : Unit) : Prop :=
  (k46_5 P p Q y0 H (c + 5))
def k46_8 (P : Program) (p : Lab) (Q : VPost) (H : Heap) (c : Nat) (_ : Unit) : Prop :=
  (k46_2 P p Q  H (c + 6))
def k46_10 (P : Program) (p : Lab) (Q : VPost)  (H : Heap) (c : Nat) : Prop :=
  Q .ret [(2, (.int .i64 1))] H c
def k46_11 (P : Program) (p : Lab) (Q : VPost) (H : Heap) (c : Nat) (_ : Unit) : Prop :=
  (k46_10 P p Q  H (c + 1))
def k46_12 (P : Program) (p : Lab) (Q : VPost) (y20 : AV) (H : Heap) (c : Nat) : Prop :=
  Q .ret [(2, (.int .i64 0))] H (c + 1)
def k46_13 (P : Program) (p : Lab) (Q : VPost) (y20 : AV) (H : Heap) (c : Nat) (_ : Unit) : Prop :=
  (k46_12 P p Q y20 H c)
def k46_9 (P : Program) (p : Lab) (Q : VPost) (y20 : AV) (H : Heap) (c : Nat) : Prop :=
  vSel y20
  (k46_11 P p Q H c)
  (k46_13 P p Q y20 H c)
def k46_14 (P : Program) (p : Lab) (Q : VPost) (c : Nat) (v18_26 : AV) (H26 : Heap) (l26 : List Lab) (f26 : Option (List Lab)) : Prop :=
  vBin .gtr .num v18_26 (.int .i64 4294967295) fun v19_27 =>
  (k46_9 P p Q v19_27 H26 (c + 6))
def k46_15 (P : Program) (p : Lab) (Q : VPost) (y0 : AV) (H : Heap) (c : Nat) (_ : Unit) : Prop :=
  vCall P 74 [y0] H ((c + 3) :: p) (k46_14 P p Q c)
def k46_7 (P : Program) (p : Lab) (Q : VPost) (y0 : AV) (y14 : AV) (H : Heap) (c : Nat) : Prop :=
  vSel y14
  (k46_8 P p Q H c)
  (k46_15 P p Q y0 H c)
def k46_16 (P : Program) (p : Lab) (Q : VPost) (y0 : AV) (c : Nat) (v13_20 : AV) (H20 : Heap) (l20 : List Lab) (f20 : Option (List Lab)) : Prop :=
  vBin .lss .num v13_20 (.int .i64 0) fun v14_21 =>
  (k46_7 P p Q y0 v14_21 H20 (c + 5))
def k46_17 (P : Program) (p : Lab) (Q : VPost) (y0 : AV) (H : Heap) (c : Nat) (_ : Unit) : Prop :=
  vCall P 73 [y0] H ((c + 3) :: p) (k46_16 P p Q y0 c)
def k46_4 (P : Program) (p : Lab) (Q : VPost) (y0 : AV) (y9 : AV) (H : Heap) (c : Nat) : Prop :=
  vSel y9
  (k46_6 P p Q y0 H c)
  (k46_17 P p Q y0 H c)
def k46_18 (P : Program) (p : Lab) (Q : VPost) (x0 : AV) (H : Heap) (c : Nat) (_ : Unit) : Prop :=
  vLen x0 fun v8_12 =>
  vBin .gtr .num v8_12 (.int .i64 16) fun v9_13 =>
  (k46_4 P p Q x0 v9_13 H (c + 8))
def V46 (P : Program) (p : Lab) (Q : VPost) (x0 : AV) (H : Heap) (c : Nat) : Prop :=
  vLen x0 fun v4_2 =>
  vBin .lss .num v4_2 (.int .i64 1) fun v5_3 =>
  vSel v5_3
  (k46_3 P p Q x0 H c)
  (k46_18 P p Q x0 H c)
theorem vt46 (P : Program) (p : Lab) (Q : VPost) (x0 : AV) (H : Heap) (c : Nat) : vc P p c46.body Q [(0, x0)] H c = V46 P p Q x0 H c := by kernel_rfl

def b73_1 : ACode := (.seq (.seq (.region [⟨(some 12), none, .move, [.t 4]⟩, ⟨(some 13), none, .move, [.t 0]⟩, ⟨(some 14), none, (.len .slice), [.t 13]⟩, ⟨(some 15), none, (.bin .lss .num), [.t 12, .t 14]⟩] none [0, 3, 4, 15])
  (.cond (.t 15) .skip
  (.exit 0)))
  (.seq (.block 1 (.region [⟨(some 18), none, .move, [.t 3]⟩, ⟨(some 19), none, .move, [.t 0]⟩, ⟨(some 20), none, .move, [.t 4]⟩, ⟨(some 21), none, (.indexAddr 1), [.t 19, .t 20]⟩, ⟨(some 22), none, (.load 1 false), [.t 21]⟩, ⟨(some 23), none, .min, [.t 18, .t 22]⟩, ⟨(some 3), none, .move, [.t 23]⟩] none [0, 3, 4]))
  (.region [⟨(some 16), none, .move, [.t 4]⟩, ⟨(some 17), none, (.bin .add .num), [.t 16, .c (.int .i64 1)]⟩, ⟨(some 4), none, .move, [.t 17]⟩] none [0, 3, 4])))
def l73_1 : ACode := .loop [0, 3, 4] b73_1
def r73_2 : ACode := (.seq (.region [⟨(some 24), none, .move, [.t 3]⟩, ⟨(some 2), none, .move, [.t 24]⟩] none [2])
  .ret)
/-- slices.Min[duet/vec.Vec,int] -/
def c73 : AFun := ⟨1, 25, [.tmp 2],
  (.seq (.region [⟨(some 2), none, .move, [.c (.int .i64 0)]⟩] none [0])
  (.seq (.seq (.region [⟨(some 5), none, .move, [.t 0]⟩, ⟨(some 6), none, (.len .slice), [.t 5]⟩, ⟨(some 7), none, (.bin .lss .num), [.t 6, .c (.int .i64 1)]⟩] none [0, 7])
  (.cond (.t 7) (.region [⟨(some 8), none, .bad, []⟩, ⟨none, none, .bad, []⟩] none [0])
  .skip))
  (.seq (.region [⟨(some 9), none, .move, [.t 0]⟩, ⟨(some 10), none, (.indexAddr 1), [.t 9, .c (.int .i64 0)]⟩, ⟨(some 11), none, (.load 1 false), [.t 10]⟩, ⟨(some 3), none, .move, [.t 11]⟩] none [0, 3])
  (.seq (.seq (.region [⟨(some 4), none, .move, [.c (.int .i64 1)]⟩] none [0, 3, 4])
  (.block 0 l73_1)) r73_2))))⟩
theorem ok73 : FunOk Try.prog 73 c73 := ⟨⟨Try.f73, _, Try.func73, rfl, by kernel_rfl, by kernel_rfl, by kernel_rfl, by kernel_rfl⟩, by decide⟩
theorem res73 : c73.res = [.tmp 2] := rfl
def q73_0 (P : Program) (p : Lab) (Q : VPost) : VPost := (vblockQ 0 (vseqQ (vc P p r73_2 Q) Q))
theorem q73_0_ret (P : Program) (p : Lab) (Q : VPost) (r : RL) (H : Heap) (c : Nat) : q73_0 P p Q .ret r H c = Q .ret r H c := rfl
def k73_0 (P : Program) (p : Lab) (Q : VPost) (y0 : AV) (H : Heap) (c : Nat) : Prop :=
  vIx 1 y0 (.int .i64 0) fun v10_7 =>
  vLoad 1 false v10_7 H fun v11_8 _ =>
  vc P p l73_1 (q73_0 P p Q) [(0, y0), (3, v11_8), (4, (.int .i64 1))] H (c + 5)
def k73_1 (P : Program) (p : Lab) (Q : VPost) (x0 : AV) (c : Nat) (v_5 : AV) (H5 : Heap) (l5 : List Lab) (f5 : Option (List Lab)) : Prop :=
  (k73_0 P p Q x0 H5 (c + 6))
def k73_2 (P : Program) (p : Lab) (Q : VPost) (x0 : AV) (c : Nat) (v8_4 : AV) (H4 : Heap) (l4 : List Lab) (f4 : Option (List Lab)) : Prop :=
  vGen .bad [] H4 ((c + 5) :: p) (k73_1 P p Q x0 c)
def k73_3 (P : Program) (p : Lab) (Q : VPost) (x0 : AV) (H : Heap) (c : Nat) (_ : Unit) : Prop :=
  vGen .bad [] H ((c + 4) :: p) (k73_2 P p Q x0 c)
def k73_4 (P : Program) (p : Lab) (Q : VPost) (y0 : AV) (y7 : AV) (H : Heap) (c : Nat) : Prop :=
  vIx 1 y0 (.int .i64 0) fun v10_12 =>
  vLoad 1 false v10_12 H fun v11_13 _ =>
  vc P p l73_1 (q73_0 P p Q) [(0, y0), (3, v11_13), (4, (.int .i64 1))] H (c + 5)
def k73_5 (P : Program) (p : Lab) (Q : VPost) (v7_3 : AV) (x0 : AV) (H : Heap) (c : Nat) (_ : Unit) : Prop :=
  (k73_4 P p Q x0 v7_3 H (c + 4))
def V73 (P : Program) (p : Lab) (Q : VPost) (x0 : AV) (H : Heap) (c : Nat) : Prop :=
  vLen x0 fun v6_2 =>
  vBin .lss .num v6_2 (.int .i64 1) fun v7_3 =>
  vSel v7_3
  (k73_3 P p Q x0 H c)
  (k73_5 P p Q v7_3 x0 H c)
theorem vt73 (P : Program) (p : Lab) (Q : VPost) (x0 : AV) (H : Heap) (c : Nat) : vc P p c73.body Q [(0, x0)] H c = V73 P p Q x0 H c := by kernel_rfl
def k73_6 (P : Program) (p : Lab) (Q : VPost) (y0 : AV) (y3 : AV) (y4 : AV) (y15 : AV) (H : Heap) (c : Nat) : Prop :=
  vIx 1 y0 y4 fun v21_23 =>
  vLoad 1 false v21_23 H fun v22_24 _ =>
  vMin y3 v22_24 fun v23_25 =>
  vBin .add .num y4 (.int .i64 1) fun v17_28 =>
  Q .normal [(0, y0), (3, v23_25), (4, v17_28)] H (c + 10)
def k73_7 (P : Program) (p : Lab) (Q : VPost) (v15_19 : AV) (x0 : AV) (x3 : AV) (x4 : AV) (H : Heap) (c : Nat) (_ : Unit) : Prop :=
  (k73_6 P p Q x0 x3 x4 v15_19 H (c + 4))
def V73_1 (P : Program) (p : Lab) (Q : VPost) (x0 x3 x4 : AV) (H : Heap) (c : Nat) : Prop :=
  vLen x0 fun v14_18 =>
  vBin .lss .num x4 v14_18 fun v15_19 =>
  vSel v15_19
  (k73_7 P p Q v15_19 x0 x3 x4 H c)
  (fun _ =>
  Q (.exit 0) [(0, x0), (3, x3), (4, x4), (15, v15_19)] H (c + 4))
theorem vt73_1 (P : Program) (p : Lab) (Q : VPost) (x0 x3 x4 : AV) (H : Heap) (c : Nat) : vc P p b73_1 Q [(0, x0), (3, x3), (4, x4)] H c = V73_1 P p Q x0 x3 x4 H c := by kernel_rfl
theorem q73_0_e0 (P : Program) (p : Lab) (Q : VPost) (r : RL) (H : Heap) (c : Nat) : q73_0 P p Q (.exit 0) r H c = (vc P p r73_2 Q r H c) := rfl
def V73_2 (P : Program) (p : Lab) (Q : VPost) (x0 x3 x4 x15 : AV) (H : Heap) (c : Nat) : Prop :=
  Q .ret [(2, x3)] H (c + 2)
theorem vt73_2 (P : Program) (p : Lab) (Q : VPost) (x0 x3 x4 x15 : AV) (H : Heap) (c : Nat) : vc P p r73_2 Q [(0, x0), (3, x3), (4, x4), (15, x15)] H c = V73_2 P p Q x0 x3 x4 x15 H c := by kernel_rfl

def b74_1 : ACode := (.seq (.seq (.region [⟨(some 12), none, .move, [.t 4]⟩, ⟨(some 13), none, .move, [.t 0]⟩, ⟨(some 14), none, (.len .slice), [.t 13]⟩, ⟨(some 15), none, (.bin .lss .num), [.t 12, .t 14]⟩] none [0, 3, 4, 15])
  (.cond (.t 15) .skip
  (.exit 0)))
  (.seq (.block 1 (.region [⟨(some 18), none, .move, [.t 3]⟩, ⟨(some 19), none, .move, [.t 0]⟩, ⟨(some 20), none, .move, [.t 4]⟩, ⟨(some 21), none, (.indexAddr 1), [.t 19, .t 20]⟩, ⟨(some 22), none, (.load 1 false), [.t 21]⟩, ⟨(some 23), none, .max, [.t 18, .t 22]⟩, ⟨(some 3), none, .move, [.t 23]⟩] none [0, 3, 4]))
  (.region [⟨(some 16), none, .move, [.t 4]⟩, ⟨(some 17), none, (.bin .add .num), [.t 16, .c (.int .i64 1)]⟩, ⟨(some 4), none, .move, [.t 17]⟩] none [0, 3, 4])))
def l74_1 : ACode := .loop [0, 3, 4] b74_1
def r74_2 : ACode := (.seq (.region [⟨(some 24), none, .move, [.t 3]⟩, ⟨(some 2), none, .move, [.t 24]⟩] none [2])
  .ret)
/-- slices.Max[duet/vec.Vec,int] -/
def c74 : AFun := ⟨1, 25, [.tmp 2],
  (.seq (.region [⟨(some 2), none, .move, [.c (.int .i64 0)]⟩] none [0])
  (.seq (.seq (.region [⟨(some 5), none, .move, [.t 0]⟩, ⟨(some 6), none, (.len .slice), [.t 5]⟩, ⟨(some 7), none, (.bin .lss .num), [.t 6, .c (.int .i64 1)]⟩] none [0, 7])
  (.cond (.t 7) (.region [⟨(some 8), none, .bad, []⟩, ⟨none, none, .bad, []⟩] none [0])
  .skip))
  (.seq (.region [⟨(some 9), none, .move, [.t 0]⟩, ⟨(some 10), none, (.indexAddr 1), [.t 9, .c (.int .i64 0)]⟩, ⟨(some 11), none, (.load 1 false), [.t 10]⟩, ⟨(some 3), none, .move, [.t 11]⟩] none [0, 3])
  (.seq (.seq (.region [⟨(some 4), none, .move, [.c (.int .i64 1)]⟩] none [0, 3, 4])
  (.block 0 l74_1)) r74_2))))⟩
theorem ok74 : FunOk Try.prog 74 c74 := ⟨⟨Try.f74, _, Try.func74, rfl, by kernel_rfl, by kernel_rfl, by kernel_rfl, by kernel_rfl⟩, by decide⟩
theorem res74 : c74.res = [.tmp 2] := rfl
def q74_0 (P : Program) (p : Lab) (Q : VPost) : VPost := (vblockQ 0 (vseqQ (vc P p r74_2 Q) Q))
theorem q74_0_ret (P : Program) (p : Lab) (Q : VPost) (r : RL) (H : Heap) (c : Nat) : q74_0 P p Q .ret r H c = Q .ret r H c := rfl
def k74_0 (P : Program) (p : Lab) (Q : VPost) (y0 : AV) (H : Heap) (c : Nat) : Prop :=
  vIx 1 y0 (.int .i64 0) fun v10_7 =>
  vLoad 1 false v10_7 H fun v11_8 _ =>
  vc P p l74_1 (q74_0 P p Q) [(0, y0), (3, v11_8), (4, (.int .i64 1))] H (c + 5)
def k74_1 (P : Program) (p : Lab) (Q : VPost) (x0 : AV) (c : Nat) (v_5 : AV) (H5 : Heap) (l5 : List Lab) (f5 : Option (List Lab)) : Prop :=
  (k74_0 P p Q x0 H5 (c + 6))
def k74_2 (P : Program) (p : Lab) (Q : VPost) (x0 : AV) (c : Nat) (v8_4 : AV) (H4 : Heap) (l4 : List Lab) (f4 : Option (List Lab)) : Prop :=
  vGen .bad [] H4 ((c + 5) :: p) (k74_1 P p Q x0 c)
def k74_3 (P : Program) (p : Lab) (Q : VPost) (x0 : AV) (H : Heap) (c : Nat) (_ : Unit) : Prop :=
  vGen .bad [] H ((c + 4) :: p) (k74_2 P p Q x0 c)
def k74_4 (P : Program) (p : Lab) (Q : VPost) (y0 : AV) (y7 : AV) (H : Heap) (c : Nat) : Prop :=
  vIx 1 y0 (.int .i64 0) fun v10_12 =>
  vLoad 1 false v10_12 H fun v11_13 _ =>
  vc P p l74_1 (q74_0 P p Q) [(0, y0), (3, v11_13), (4, (.int .i64 1))] H (c + 5)
def k74_5 (P : Program) (p : Lab) (Q : VPost) (v7_3 : AV) (x0 : AV) (H : Heap) (c : Nat) (_ : Unit) : Prop :=
  (k74_4 P p Q x0 v7_3 H (c + 4))
def V74 (P : Program) (p : Lab) (Q : VPost) (x0 : AV) (H : Heap) (c : Nat) : Prop :=
  vLen x0 fun v6_2 =>
  vBin .lss .num v6_2 (.int .i64 1) fun v7_3 =>
  vSel v7_3
  (k74_3 P p Q x0 H c)
  (k74_5 P p Q v7_3 x0 H c)
theorem vt74 (P : Program) (p : Lab) (Q : VPost) (x0 : AV) (H : Heap) (c : Nat) : vc P p c74.body Q [(0, x0)] H c = V74 P p Q x0 H c := by kernel_rfl
def k74_6 (P : Program) (p : Lab) (Q : VPost) (y0 : AV) (y3 : AV) (y4 : AV) (y15 : AV) (H : Heap) (c : Nat) : Prop :=
  vIx 1 y0 y4 fun v21_23 =>
  vLoad 1 false v21_23 H fun v22_24 _ =>
  vMax y3 v22_24 fun v23_25 =>
  vBin .add .num y4 (.int .i64 1) fun v17_28 =>
  Q .normal [(0, y0), (3, v23_25), (4, v17_28)] H (c + 10)
def k74_7 (P : Program) (p : Lab) (Q : VPost) (v15_19 : AV) (x0 : AV) (x3 : AV) (x4 : AV) (H : Heap) (c : Nat) (_ : Unit) : Prop :=
  (k74_6 P p Q x0 x3 x4 v15_19 H (c + 4))
def V74_1 (P : Program) (p : Lab) (Q : VPost) (x0 x3 x4 : AV) (H : Heap) (c : Nat) : Prop :=
  vLen x0 fun v14_18 =>
  vBin .lss .num x4 v14_18 fun v15_19 =>
  vSel v15_19
  (k74_7 P p Q v15_19 x0 x3 x4 H c)
  (fun _ =>
  Q (.exit 0) [(0, x0), (3, x3), (4, x4), (15, v15_19)] H (c + 4))
theorem vt74_1 (P : Program) (p : Lab) (Q : VPost) (x0 x3 x4 : AV) (H : Heap) (c : Nat) : vc P p b74_1 Q [(0, x0), (3, x3), (4, x4)] H c = V74_1 P p Q x0 x3 x4 H c := by kernel_rfl
theorem q74_0_e0 (P : Program) (p : Lab) (Q : VPost) (r : RL) (H : Heap) (c : Nat) : q74_0 P p Q (.exit 0) r H c = (vc P p r74_2 Q r H c) := rfl
def V74_2 (P : Program) (p : Lab) (Q : VPost) (x0 x3 x4 x15 : AV) (H : Heap) (c : Nat) : Prop :=
  Q .ret [(2, x3)] H (c + 2)
theorem vt74_2 (P : Program) (p : Lab) (Q : VPost) (x0 x3 x4 x15 : AV) (H : Heap) (c : Nat) : vc P p r74_2 Q [(0, x0), (3, x3), (4, x4), (15, x15)] H c = V74_2 P p Q x0 x3 x4 x15 H c := by kernel_rfl



end Go.Proofs.Ytoajcigegjhiaaa
