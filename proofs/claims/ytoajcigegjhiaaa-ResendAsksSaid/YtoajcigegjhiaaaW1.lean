/- What is owed of functions of the program, as formulas. -/
import Derived.Test.YtoajcigegjhiaaaA26
import Derived.Test.YtoajcigegjhiaaaProg
import Derived.KernelRfl
namespace Go.Proofs.Ytoajcigegjhiaaa
set_option maxRecDepth 100000
set_option linter.unusedVariables false
set_option linter.unusedSimpArgs false
def b24_2 : ACode := (.seq (.region [⟨(some 50), none, (.bin .lss .num), [.t 49, .t 48]⟩] none [1, 2, 10, 11, 12, 30, 31, 32, 48, 49, 50])
  (.seq (.cond (.t 50) .skip
  (.exit 2))
  (.seq (.block 3 (.seq (.region [⟨(some 51), none, .move, [.t 49]⟩, ⟨(some 13), none, .move, [.t 51]⟩] none [1, 2, 10, 11, 12, 13, 30, 31, 32, 48, 49])
  (.region [⟨(some 52), none, .move, [.t 10]⟩, ⟨(some 53), none, .move, [.t 11]⟩, ⟨(some 54), none, .move, [.t 12]⟩, ⟨(some 55), none, (.bin .add .num), [.t 54, .c (.int .i64 1)]⟩, ⟨(some 56), none, .move, [.t 13]⟩, ⟨(some 57), none, (.bin .add .num), [.t 55, .t 56]⟩, ⟨(some 58), none, (.build [(.int .i64 0), (.int .i64 0)] [(0, 1), (1, 1)]), [.t 53, .t 57]⟩, ⟨(some 59), none, (.buildSlice 2 [(.int .i64 0), (.int .i64 0)] [(0, 2)]), [.t 58]⟩, ⟨(some 60), none, (.append 2 16), [.t 52, .t 59]⟩, ⟨(some 10), none, .move, [.t 60]⟩] none [1, 2, 10, 11, 12, 30, 31, 32, 48, 49])))
  (.region [⟨(some 61), none, (.bin .add .num), [.t 49, .c (.int .i64 1)]⟩, ⟨(some 49), none, .move, [.t 61]⟩] none [1, 2, 10, 11, 12, 30, 31, 32, 48, 49]))))
def l24_2 : ACode := .loop [1, 2, 10, 11, 12, 30, 31, 32, 48, 49] b24_2
def r24_3 : ACode := (.region [⟨(some 62), none, (.bin .add .num), [.t 32, .c (.int .i64 1)]⟩, ⟨(some 32), none, .move, [.t 62]⟩] none [1, 2, 10, 30, 31, 32])
def b24_1 : ACode := (.seq (.region [⟨(some 33), none, (.bin .lss .num), [.t 32, .t 31]⟩] none [1, 2, 10, 30, 31, 32, 33])
  (.seq (.cond (.t 33) .skip
  (.exit 0))
  (.seq (.block 1 (.seq (.region [⟨(some 34), none, .move, [.t 32]⟩, ⟨(some 35), none, (.indexAddr 1), [.t 30, .t 32]⟩, ⟨(some 36), none, (.load 1 false), [.t 35]⟩, ⟨(some 11), none, .move, [.t 34]⟩, ⟨(some 12), none, .move, [.t 36]⟩] none [1, 2, 10, 11, 12, 30, 31, 32])
  (.seq (.region [⟨(some 37), none, .move, [.t 1]⟩, ⟨(some 38), none, .move, [.t 11]⟩, ⟨(some 39), none, (.indexAddr 1), [.t 37, .t 38]⟩, ⟨(some 40), none, (.load 1 false), [.t 39]⟩, ⟨(some 41), none, .move, [.t 12]⟩, ⟨(some 42), none, (.bin .sub .num), [.t 40, .t 41]⟩, ⟨(some 43), none, .max, [.t 42, .c (.int .i64 0)]⟩, ⟨(some 44), none, .move, [.t 2]⟩, ⟨(some 45), none, .move, [.t 10]⟩, ⟨(some 46), none, (.len .slice), [.t 45]⟩, ⟨(some 47), none, (.bin .sub .num), [.t 44, .t 46]⟩, ⟨(some 48), none, .min, [.t 43, .t 47]⟩, ⟨(some 49), none, .move, [.c (.int .i64 0)]⟩] none [1, 2, 10, 11, 12, 30, 31, 32, 48, 49])
  (.block 2 l24_2)))) r24_3)))
def l24_1 : ACode := .loop [1, 2, 10, 30, 31, 32] b24_1
def r24_4 : ACode := (.seq (.region [⟨(some 63), none, .move, [.t 10]⟩, ⟨(some 6), none, .move, [.t 63]⟩, ⟨(some 7), none, .move, [.c (.int .i64 0)]⟩] none [6, 7])
  .ret)
/-- duet/resend.Asks -/
def c24 : AFun := ⟨3, 64, [.tmp 6, .tmp 7],
  (.seq (.region [⟨(some 6), none, .move, [.c .nils]⟩, ⟨(some 7), none, .move, [.c (.int .i64 0)]⟩] none [0, 1, 2])
  (.seq (.seq (.region [⟨(some 15), none, .move, [.t 0]⟩, ⟨(some 16), none, .move, [.t 1]⟩, ⟨(some 17), none, .call, [.c (.fn (.func 50) [] []), .t 15, .t 16]⟩, ⟨(some 14), none, .move, [.t 17]⟩, ⟨(some 18), none, (.extract 0), [.t 14]⟩, ⟨(some 19), none, (.extract 1), [.t 14]⟩, ⟨(some 8), none, .move, [.t 18]⟩, ⟨(some 9), none, .move, [.t 19]⟩] none [0, 1, 2, 9])
  (.seq (.region [⟨(some 20), none, .move, [.t 9]⟩, ⟨(some 21), none, (.bin .neq .num), [.t 20, .c (.int .i64 0)]⟩, ⟨(some 22), none, .move, [.t 21]⟩, ⟨(some 23), (some (22, false)), .move, [.t 2]⟩, ⟨(some 24), (some (22, false)), (.bin .lss .num), [.t 23, .c (.int .i64 0)]⟩, ⟨(some 25), none, .pick, [.t 22, .c (.bool true), .t 24]⟩, ⟨(some 26), none, .move, [.t 25]⟩, ⟨(some 27), (some (26, false)), .move, [.t 2]⟩, ⟨(some 28), (some (26, false)), (.bin .gtr .num), [.t 27, .c (.int .i64 1000)]⟩, ⟨(some 29), none, .pick, [.t 26, .c (.bool true), .t 28]⟩] none [0, 1, 2, 29])
  (.cond (.t 29) (.seq (.region [⟨(some 6), none, .move, [.c .nils]⟩, ⟨(some 7), none, .move, [.c (.int .i64 1)]⟩] none [6, 7])
  .ret)
  .skip)))
  (.seq (.region [⟨(some 10), none, .move, [.c .nils]⟩] none [0, 1, 2, 10])
  (.seq (.seq (.region [⟨(some 30), none, .move, [.t 0]⟩, ⟨(some 31), none, (.len .slice), [.t 30]⟩, ⟨(some 32), none, .move, [.c (.int .i64 0)]⟩] none [1, 2, 10, 30, 31, 32])
  (.block 0 l24_1)) r24_4))))⟩
theorem ok24 : FunOk Try.prog 24 c24 := ⟨⟨Try.f24, _, Try.func24, rfl, by kernel_rfl, by kernel_rfl, by kernel_rfl, by kernel_rfl⟩, by decide⟩
theorem res24 : c24.res = [.tmp 6, .tmp 7] := rfl
def q24_0 (P : Program) (p : Lab) (Q : VPost) : VPost := (vblockQ 0 (vseqQ (vc P p r24_4 Q) Q))
theorem q24_0_ret (P : Program) (p : Lab) (Q : VPost) (r : RL) (H : Heap) (c : Nat) : q24_0 P p Q .ret r H c = Q .ret r H c := rfl
def V24 (P : Program) (p : Lab) (Q : VPost) (x0 x1 x2 : AV) (H : Heap) (c : Nat) : Prop :=
  vCall P 50 [x0, x1] H ((c + 4) :: p) fun v17_4 H4 _ _ =>
  vExt 0 v17_4 fun v18_6 =>
  vExt 1 v17_4 fun v19_7 =>
  vBin .neq .num v19_7 (.int .i64 0) fun v21_11 =>
  vSel v21_11
  (Q .ret [(6, .nils), (7, (.int .i64 1))] H4 (c + 22))
  (vBin .lss .num x2 (.int .i64 0) fun v24_19 =>
  vSel v24_19
  (Q .ret [(6, .nils), (7, (.int .i64 1))] H4 (c + 22))
  (vBin .gtr .num x2 (.int .i64 1000) fun v28_26 =>
  vSel v28_26
  (Q .ret [(6, .nils), (7, (.int .i64 1))] H4 (c + 22))
  (vLen x0 fun v31_32 =>
  vc P p l24_1 (q24_0 P p Q) [(1, x1), (2, x2), (10, .nils), (30, x0), (31, v31_32), (32, (.int .i64 0))] H4 (c + 24))))
theorem vt24 (P : Program) (p : Lab) (Q : VPost) (x0 x1 x2 : AV) (H : Heap) (c : Nat) : vc P p c24.body Q [(0, x0), (1, x1), (2, x2)] H c = V24 P p Q x0 x1 x2 H c := by kernel_rfl
def q24_1 (P : Program) (p : Lab) (Q : VPost) : VPost := (vblockQ 2 (vblockQ 1 (vseqQ (vc P p r24_3 Q) Q)))
theorem q24_1_ret (P : Program) (p : Lab) (Q : VPost) (r : RL) (H : Heap) (c : Nat) : q24_1 P p Q .ret r H c = Q .ret r H c := rfl
def V24_1 (P : Program) (p : Lab) (Q : VPost) (x1 x2 x10 x30 x31 x32 : AV) (H : Heap) (c : Nat) : Prop :=
  vBin .lss .num x32 x31 fun v33_34 =>
  vSel v33_34
  (vIx 1 x30 x32 fun v35_36 =>
  vLoad 1 false v35_36 H fun v36_37 _ =>
  vIx 1 x1 x32 fun v39_42 =>
  vLoad 1 false v39_42 H fun v40_43 _ =>
  vBin .sub .num v40_43 v36_37 fun v42_45 =>
  vMax v42_45 (.int .i64 0) fun v43_46 =>
  vLen x10 fun v46_49 =>
  vBin .sub .num x2 v46_49 fun v47_50 =>
  vMin v43_46 v47_50 fun v48_51 =>
  vc P p l24_2 (q24_1 P p Q) [(1, x1), (2, x2), (10, x10), (11, x32), (12, v36_37), (30, x30), (31, x31), (32, x32), (48, v48_51), (49, (.int .i64 0))] H (c + 19))
  (Q (.exit 0) [(1, x1), (2, x2), (10, x10), (30, x30), (31, x31), (32, x32), (33, v33_34)] H (c + 1))
theorem vt24_1 (P : Program) (p : Lab) (Q : VPost) (x1 x2 x10 x30 x31 x32 : AV) (H : Heap) (c : Nat) : vc P p b24_1 Q [(1, x1), (2, x2), (10, x10), (30, x30), (31, x31), (32, x32)] H c = V24_1 P p Q x1 x2 x10 x30 x31 x32 H c := by kernel_rfl
theorem q24_0_e0 (P : Program) (p : Lab) (Q : VPost) (r : RL) (H : Heap) (c : Nat) : q24_0 P p Q (.exit 0) r H c = (vc P p r24_4 Q r H c) := rfl
def V24_2 (P : Program) (p : Lab) (Q : VPost) (x1 x2 x10 x11 x12 x30 x31 x32 x48 x49 : AV) (H : Heap) (c : Nat) : Prop :=
  vBin .lss .num x49 x48 fun v50_53 =>
  vSel v50_53
  (vBin .add .num x12 (.int .i64 1) fun v55_59 =>
  vBin .add .num v55_59 x49 fun v57_61 =>
  vBuild [(.int .i64 0), (.int .i64 0)] [(0, 1), (1, 1)] [x11, v57_61] fun v58_62 =>
  vBuildS 2 [(.int .i64 0), (.int .i64 0)] [(0, 2)] [v58_62] fun w63 n63 =>
  (fun (H63 : Heap) =>
  vGen (.append 2 16) [x10, (.sl ((c + 10) :: p) 2 0 n63)] H63 ((c + 11) :: p) fun v60_64 H64 _ _ =>
  vBin .add .num x49 (.int .i64 1) fun v61_66 =>
  Q .normal [(1, x1), (2, x2), (10, v60_64), (11, x11), (12, x12), (30, x30), (31, x31), (32, x32), (48, x48), (49, v61_66)] H64 (c + 15)) (upd [(((c + 10) :: p), some (.rows 2 w63))] H))
  (Q (.exit 2) [(1, x1), (2, x2), (10, x10), (11, x11), (12, x12), (30, x30), (31, x31), (32, x32), (48, x48), (49, x49), (50, v50_53)] H (c + 1))
theorem vt24_2 (P : Program) (p : Lab) (Q : VPost) (x1 x2 x10 x11 x12 x30 x31 x32 x48 x49 : AV) (H : Heap) (c : Nat) : vc P p b24_2 Q [(1, x1), (2, x2), (10, x10), (11, x11), (12, x12), (30, x30), (31, x31), (32, x32), (48, x48), (49, x49)] H c = V24_2 P p Q x1 x2 x10 x11 x12 x30 x31 x32 x48 x49 H c := by kernel_rfl
theorem q24_1_e2 (P : Program) (p : Lab) (Q : VPost) (r : RL) (H : Heap) (c : Nat) : q24_1 P p Q (.exit 2) r H c = (vc P p r24_3 Q r H c) := rfl
def V24_4 (P : Program) (p : Lab) (Q : VPost) (x1 x2 x10 x30 x31 x32 x33 : AV) (H : Heap) (c : Nat) : Prop :=
  Q .ret [(6, x10), (7, (.int .i64 0))] H (c + 3)
theorem vt24_4 (P : Program) (p : Lab) (Q : VPost) (x1 x2 x10 x30 x31 x32 x33 : AV) (H : Heap) (c : Nat) : vc P p r24_4 Q [(1, x1), (2, x2), (10, x10), (30, x30), (31, x31), (32, x32), (33, x33)] H c = V24_4 P p Q x1 x2 x10 x30 x31 x32 x33 H c := by kernel_rfl
def V24_3 (P : Program) (p : Lab) (Q : VPost) (x1 x2 x10 x11 x12 x30 x31 x32 x48 x49 x50 : AV) (H : Heap) (c : Nat) : Prop :=
  vBin .add .num x32 (.int .i64 1) fun v62_71 =>
  Q .normal [(1, x1), (2, x2), (10, x10), (30, x30), (31, x31), (32, v62_71)] H (c + 2)
theorem vt24_3 (P : Program) (p : Lab) (Q : VPost) (x1 x2 x10 x11 x12 x30 x31 x32 x48 x49 x50 : AV) (H : Heap) (c : Nat) : vc P p r24_3 Q [(1, x1), (2, x2), (10, x10), (11, x11), (12, x12), (30, x30), (31, x31), (32, x32), (48, x48), (49, x49), (50, x50)] H c = V24_3 P p Q x1 x2 x10 x11 x12 x30 x31 x32 x48 x49 x50 H c := by kernel_rfl

def b25_2 : ACode := (.seq (.seq (.region [⟨(some 40), none, .move, [.t 12]⟩, ⟨(some 41), none, .move, [.t 1]⟩, ⟨(some 42), none, .move, [.t 11]⟩, ⟨(some 43), none, (.indexAddr 1), [.t 41, .t 42]⟩, ⟨(some 44), none, (.load 1 false), [.t 43]⟩, ⟨(some 45), none, (.bin .leq .num), [.t 40, .t 44]⟩, ⟨(some 46), none, .move, [.t 45]⟩, ⟨(some 47), (some (46, true)), .move, [.t 10]⟩, ⟨(some 48), (some (46, true)), (.len .slice), [.t 47]⟩, ⟨(some 49), (some (46, true)), .move, [.t 2]⟩, ⟨(some 50), (some (46, true)), (.bin .lss .num), [.t 48, .t 49]⟩, ⟨(some 51), none, .pick, [.t 46, .t 50, .c (.bool false)]⟩] none [0, 1, 2, 10, 11, 12, 51])
  (.cond (.t 51) .skip
  (.exit 2)))
  (.seq (.block 3 (.region [⟨(some 54), none, .move, [.t 10]⟩, ⟨(some 55), none, .move, [.t 11]⟩, ⟨(some 56), none, .move, [.t 12]⟩, ⟨(some 57), none, (.build [(.int .i64 0), (.int .i64 0)] [(0, 1), (1, 1)]), [.t 55, .t 56]⟩, ⟨(some 58), none, (.buildSlice 2 [(.int .i64 0), (.int .i64 0)] [(0, 2)]), [.t 57]⟩, ⟨(some 59), none, (.append 2 16), [.t 54, .t 58]⟩, ⟨(some 10), none, .move, [.t 59]⟩] none [0, 1, 2, 10, 11, 12]))
  (.region [⟨(some 52), none, .move, [.t 12]⟩, ⟨(some 53), none, (.bin .add .num), [.t 52, .c (.int .i64 1)]⟩, ⟨(some 12), none, .move, [.t 53]⟩] none [0, 1, 2, 10, 11, 12])))
def l25_2 : ACode := .loop [0, 1, 2, 10, 11, 12] b25_2
def r25_3 : ACode := (.region [⟨(some 33), none, .move, [.t 11]⟩, ⟨(some 34), none, (.bin .add .num), [.t 33, .c (.int .i64 1)]⟩, ⟨(some 11), none, .move, [.t 34]⟩] none [0, 1, 2, 10, 11])
def b25_1 : ACode := (.seq (.seq (.region [⟨(some 29), none, .move, [.t 11]⟩, ⟨(some 30), none, .move, [.t 0]⟩, ⟨(some 31), none, (.len .slice), [.t 30]⟩, ⟨(some 32), none, (.bin .lss .num), [.t 29, .t 31]⟩] none [0, 1, 2, 10, 11, 32])
  (.cond (.t 32) .skip
  (.exit 0)))
  (.seq (.block 1 (.seq (.region [⟨(some 35), none, .move, [.t 0]⟩, ⟨(some 36), none, .move, [.t 11]⟩, ⟨(some 37), none, (.indexAddr 1), [.t 35, .t 36]⟩, ⟨(some 38), none, (.load 1 false), [.t 37]⟩, ⟨(some 39), none, (.bin .add .num), [.t 38, .c (.int .i64 1)]⟩, ⟨(some 12), none, .move, [.t 39]⟩] none [0, 1, 2, 10, 11, 12])
  (.block 2 l25_2))) r25_3))
def l25_1 : ACode := .loop [0, 1, 2, 10, 11] b25_1
def r25_4 : ACode := (.seq (.region [⟨(some 60), none, .move, [.t 10]⟩, ⟨(some 6), none, .move, [.t 60]⟩, ⟨(some 7), none, .move, [.c (.int .i64 0)]⟩] none [6, 7])
  .ret)
/-- duet/duetref08.Asks -/
def c25 : AFun := ⟨3, 61, [.tmp 6, .tmp 7],
  (.seq (.region [⟨(some 6), none, .move, [.c .nils]⟩, ⟨(some 7), none, .move, [.c (.int .i64 0)]⟩] none [0, 1, 2])
  (.seq (.region [⟨(some 14), none, .move, [.t 0]⟩, ⟨(some 15), none, .move, [.t 1]⟩, ⟨(some 16), none, .call, [.c (.fn (.func 51) [] []), .t 14, .t 15]⟩, ⟨(some 13), none, .move, [.t 16]⟩, ⟨(some 17), none, (.extract 0), [.t 13]⟩, ⟨(some 18), none, (.extract 1), [.t 13]⟩, ⟨(some 8), none, .move, [.t 17]⟩, ⟨(some 9), none, .move, [.t 18]⟩] none [0, 1, 2, 9])
  (.seq (.seq (.region [⟨(some 19), none, .move, [.t 9]⟩, ⟨(some 20), none, (.bin .neq .num), [.t 19, .c (.int .i64 0)]⟩, ⟨(some 21), none, .move, [.t 20]⟩, ⟨(some 22), (some (21, false)), .move, [.t 2]⟩, ⟨(some 23), (some (21, false)), (.bin .lss .num), [.t 22, .c (.int .i64 0)]⟩, ⟨(some 24), none, .pick, [.t 21, .c (.bool true), .t 23]⟩, ⟨(some 25), none, .move, [.t 24]⟩, ⟨(some 26), (some (25, false)), .move, [.t 2]⟩, ⟨(some 27), (some (25, false)), (.bin .gtr .num), [.t 26, .c (.int .i64 1000)]⟩, ⟨(some 28), none, .pick, [.t 25, .c (.bool true), .t 27]⟩] none [0, 1, 2, 28])
  (.cond (.t 28) (.seq (.region [⟨(some 6), none, .move, [.c .nils]⟩, ⟨(some 7), none, .move, [.c (.int .i64 1)]⟩] none [6, 7])
  .ret)
  .skip))
  (.seq (.region [⟨(some 10), none, .move, [.c .nils]⟩] none [0, 1, 2, 10])
  (.seq (.seq (.region [⟨(some 11), none, .move, [.c (.int .i64 0)]⟩] none [0, 1, 2, 10, 11])
  (.block 0 l25_1)) r25_4)))))⟩
theorem ok25 : FunOk Try.prog 25 c25 := ⟨⟨Try.f25, _, Try.func25, rfl, by kernel_rfl, by kernel_rfl, by kernel_rfl, by kernel_rfl⟩, by decide⟩
theorem res25 : c25.res = [.tmp 6, .tmp 7] := rfl
def q25_0 (P : Program) (p : Lab) (Q : VPost) : VPost := (vblockQ 0 (vseqQ (vc P p r25_4 Q) Q))
theorem q25_0_ret (P : Program) (p : Lab) (Q : VPost) (r : RL) (H : Heap) (c : Nat) : q25_0 P p Q .ret r H c = Q .ret r H c := rfl
def V25 (P : Program) (p : Lab) (Q : VPost) (x0 x1 x2 : AV) (H : Heap) (c : Nat) : Prop :=
  vCall P 51 [x0, x1] H ((c + 4) :: p) fun v16_4 H4 _ _ =>
  vExt 0 v16_4 fun v17_6 =>
  vExt 1 v16_4 fun v18_7 =>
  vBin .neq .num v18_7 (.int .i64 0) fun v20_11 =>
  vSel v20_11
  (Q .ret [(6, .nils), (7, (.int .i64 1))] H4 (c + 22))
  (vBin .lss .num x2 (.int .i64 0) fun v23_19 =>
  vSel v23_19
  (Q .ret [(6, .nils), (7, (.int .i64 1))] H4 (c + 22))
  (vBin .gtr .num x2 (.int .i64 1000) fun v27_26 =>
  vSel v27_26
  (Q .ret [(6, .nils), (7, (.int .i64 1))] H4 (c + 22))
  (vc P p l25_1 (q25_0 P p Q) [(0, x0), (1, x1), (2, x2), (10, .nils), (11, (.int .i64 0))] H4 (c + 22))))
theorem vt25 (P : Program) (p : Lab) (Q : VPost) (x0 x1 x2 : AV) (H : Heap) (c : Nat) : vc P p c25.body Q [(0, x0), (1, x1), (2, x2)] H c = V25 P p Q x0 x1 x2 H c := by kernel_rfl
def q25_1 (P : Program) (p : Lab) (Q : VPost) : VPost := (vblockQ 2 (vblockQ 1 (vseqQ (vc P p r25_3 Q) Q)))
theorem q25_1_ret (P : Program) (p : Lab) (Q : VPost) (r : RL) (H : Heap) (c : Nat) : q25_1 P p Q .ret r H c = Q .ret r H c := rfl
def V25_1 (P : Program) (p : Lab) (Q : VPost) (x0 x1 x2 x10 x11 : AV) (H : Heap) (c : Nat) : Prop :=
  vLen x0 fun v31_34 =>
  vBin .lss .num x11 v31_34 fun v32_35 =>
  vSel v32_35
  (vIx 1 x0 x11 fun v37_38 =>
  vLoad 1 false v37_38 H fun v38_39 _ =>
  vBin .add .num v38_39 (.int .i64 1) fun v39_40 =>
  vc P p l25_2 (q25_1 P p Q) [(0, x0), (1, x1), (2, x2), (10, x10), (11, x11), (12, v39_40)] H (c + 10))
  (Q (.exit 0) [(0, x0), (1, x1), (2, x2), (10, x10), (11, x11), (32, v32_35)] H (c + 4))
theorem vt25_1 (P : Program) (p : Lab) (Q : VPost) (x0 x1 x2 x10 x11 : AV) (H : Heap) (c : Nat) : vc P p b25_1 Q [(0, x0), (1, x1), (2, x2), (10, x10), (11, x11)] H c = V25_1 P p Q x0 x1 x2 x10 x11 H c := by kernel_rfl
theorem q25_0_e0 (P : Program) (p : Lab) (Q : VPost) (r : RL) (H : Heap) (c : Nat) : q25_0 P p Q (.exit 0) r H c = (vc P p r25_4 Q r H c) := rfl
def V25_2 (P : Program) (p : Lab) (Q : VPost) (x0 x1 x2 x10 x11 x12 : AV) (H : Heap) (c : Nat) : Prop :=
  vIx 1 x1 x11 fun v43_45 =>
  vLoad 1 false v43_45 H fun v44_46 _ =>
  vBin .leq .num x12 v44_46 fun v45_47 =>
  vSel v45_47
  (vLen x10 fun v48_50 =>
  vBin .lss .num v48_50 x2 fun v50_52 =>
  vSel v50_52
  (vBuild [(.int .i64 0), (.int .i64 0)] [(0, 1), (1, 1)] [x11, x12] fun v57_57 =>
  vBuildS 2 [(.int .i64 0), (.int .i64 0)] [(0, 2)] [v57_57] fun w58 n58 =>
  (fun (H58 : Heap) =>
  vGen (.append 2 16) [x10, (.sl ((c + 16) :: p) 2 0 n58)] H58 ((c + 17) :: p) fun v59_59 H59 _ _ =>
  vBin .add .num x12 (.int .i64 1) fun v53_62 =>
  Q .normal [(0, x0), (1, x1), (2, x2), (10, v59_59), (11, x11), (12, v53_62)] H59 (c + 22)) (upd [(((c + 16) :: p), some (.rows 2 w58))] H))
  (Q (.exit 2) [(0, x0), (1, x1), (2, x2), (10, x10), (11, x11), (12, x12), (51, v50_52)] H (c + 12)))
  (Q (.exit 2) [(0, x0), (1, x1), (2, x2), (10, x10), (11, x11), (12, x12), (51, (.bool false))] H (c + 12))
theorem vt25_2 (P : Program) (p : Lab) (Q : VPost) (x0 x1 x2 x10 x11 x12 : AV) (H : Heap) (c : Nat) : vc P p b25_2 Q [(0, x0), (1, x1), (2, x2), (10, x10), (11, x11), (12, x12)] H c = V25_2 P p Q x0 x1 x2 x10 x11 x12 H c := by kernel_rfl
theorem q25_1_e2 (P : Program) (p : Lab) (Q : VPost) (r : RL) (H : Heap) (c : Nat) : q25_1 P p Q (.exit 2) r H c = (vc P p r25_3 Q r H c) := rfl
def V25_4 (P : Program) (p : Lab) (Q : VPost) (x0 x1 x2 x10 x11 x32 : AV) (H : Heap) (c : Nat) : Prop :=
  Q .ret [(6, x10), (7, (.int .i64 0))] H (c + 3)
theorem vt25_4 (P : Program) (p : Lab) (Q : VPost) (x0 x1 x2 x10 x11 x32 : AV) (H : Heap) (c : Nat) : vc P p r25_4 Q [(0, x0), (1, x1), (2, x2), (10, x10), (11, x11), (32, x32)] H c = V25_4 P p Q x0 x1 x2 x10 x11 x32 H c := by kernel_rfl
def V25_3 (P : Program) (p : Lab) (Q : VPost) (x0 x1 x2 x10 x11 x12 x51 : AV) (H : Heap) (c : Nat) : Prop :=
  vBin .add .num x11 (.int .i64 1) fun v34_69 =>
  Q .normal [(0, x0), (1, x1), (2, x2), (10, x10), (11, v34_69)] H (c + 3)
theorem vt25_3 (P : Program) (p : Lab) (Q : VPost) (x0 x1 x2 x10 x11 x12 x51 : AV) (H : Heap) (c : Nat) : vc P p r25_3 Q [(0, x0), (1, x1), (2, x2), (10, x10), (11, x11), (12, x12), (51, x51)] H c = V25_3 P p Q x0 x1 x2 x10 x11 x12 x51 H c := by kernel_rfl

def b26_1 : ACode := (.seq (.seq (.region [⟨(some 11), none, .move, [.t 5]⟩, ⟨(some 12), none, .move, [.t 0]⟩, ⟨(some 13), none, (.len .slice), [.t 12]⟩, ⟨(some 14), none, (.bin .lss .num), [.t 11, .t 13]⟩] none [0, 1, 5, 14])
  (.cond (.t 14) .skip
  (.exit 0)))
  (.seq (.block 1 (.seq (.region [⟨(some 17), none, .move, [.t 0]⟩, ⟨(some 18), none, .move, [.t 5]⟩, ⟨(some 19), none, (.indexAddr 2), [.t 17, .t 18]⟩, ⟨(some 20), none, (.load 2 true), [.t 19]⟩, ⟨(some 21), none, .move, [.t 1]⟩, ⟨(some 22), none, .move, [.t 5]⟩, ⟨(some 23), none, (.indexAddr 2), [.t 21, .t 22]⟩, ⟨(some 24), none, (.load 2 true), [.t 23]⟩, ⟨(some 25), none, (.eqs .neq [.int, .int]), [.t 20, .t 24]⟩] (some [0, 0, 3, 7, 0, 0, 48, 112, 255]) [0, 1, 5, 25])
  (.cond (.t 25) (.seq (.region [⟨(some 4), none, .move, [.c (.bool false)]⟩] none [4])
  .ret)
  .skip)))
  (.region [⟨(some 15), none, .move, [.t 5]⟩, ⟨(some 16), none, (.bin .add .num), [.t 15, .c (.int .i64 1)]⟩, ⟨(some 5), none, .move, [.t 16]⟩] none [0, 1, 5])))
def l26_1 : ACode := .loop [0, 1, 5] b26_1
def r26_2 : ACode := (.seq (.region [⟨(some 4), none, .move, [.c (.bool true)]⟩] none [4])
  .ret)
/-- duet/duetref08.Same -/
def c26 : AFun := ⟨2, 26, [.tmp 4],
  (.seq (.region [⟨(some 4), none, .move, [.c (.bool false)]⟩] none [0, 1])
  (.seq (.seq (.region [⟨(some 6), none, .move, [.t 0]⟩, ⟨(some 7), none, (.len .slice), [.t 6]⟩, ⟨(some 8), none, .move, [.t 1]⟩, ⟨(some 9), none, (.len .slice), [.t 8]⟩, ⟨(some 10), none, (.bin .neq .num), [.t 7, .t 9]⟩] none [0, 1, 10])
  (.cond (.t 10) (.seq (.region [⟨(some 4), none, .move, [.c (.bool false)]⟩] none [4])
  .ret)
  .skip))
  (.seq (.seq (.region [⟨(some 5), none, .move, [.c (.int .i64 0)]⟩] none [0, 1, 5])
  (.block 0 l26_1)) r26_2)))⟩
theorem ok26 : FunOk Try.prog 26 c26 := ⟨⟨Try.f26, _, Try.func26, rfl, by kernel_rfl, by kernel_rfl, by kernel_rfl, by kernel_rfl⟩, by decide⟩
theorem res26 : c26.res = [.tmp 4] := rfl
def q26_0 (P : Program) (p : Lab) (Q : VPost) : VPost := (vblockQ 0 (vseqQ (vc P p r26_2 Q) Q))
theorem q26_0_ret (P : Program) (p : Lab) (Q : VPost) (r : RL) (H : Heap) (c : Nat) : q26_0 P p Q .ret r H c = Q .ret r H c := rfl
def V26 (P : Program) (p : Lab) (Q : VPost) (x0 x1 : AV) (H : Heap) (c : Nat) : Prop :=
  vLen x0 fun v7_2 =>
  vLen x1 fun v9_4 =>
  vBin .neq .num v7_2 v9_4 fun v10_5 =>
  vSel v10_5
  (Q .ret [(4, (.bool false))] H (c + 7))
  (vc P p l26_1 (q26_0 P p Q) [(0, x0), (1, x1), (5, (.int .i64 0))] H (c + 7))
theorem vt26 (P : Program) (p : Lab) (Q : VPost) (x0 x1 : AV) (H : Heap) (c : Nat) : vc P p c26.body Q [(0, x0), (1, x1)] H c = V26 P p Q x0 x1 H c := by kernel_rfl
def V26_1 (P : Program) (p : Lab) (Q : VPost) (x0 x1 x5 : AV) (H : Heap) (c : Nat) : Prop :=
  vLen x0 fun v13_10 =>
  vBin .lss .num x5 v13_10 fun v14_11 =>
  vSel v14_11
  (vIx 2 x0 x5 fun v19_14 =>
  vLoad 2 true v19_14 H fun v20_15 f15 =>
  vIx 2 x1 x5 fun v23_18 =>
  vLoad 2 true v23_18 H fun v24_19 f19 =>
  vGen (.eqs .neq [.int, .int]) [v20_15, v24_19] H ((c + 12) :: p) fun v25_20 H20 l20 f20 =>
  clashFree [0, 0, 3, 7, 0, 0, 48, 112, 255] [⟨[], ((c + 4) :: p), some []⟩, ⟨[], ((c + 5) :: p), some []⟩, ⟨[], ((c + 6) :: p), some []⟩, ⟨[], ((c + 7) :: p), f15⟩, ⟨[], ((c + 8) :: p), some []⟩, ⟨[], ((c + 9) :: p), some []⟩, ⟨[], ((c + 10) :: p), some []⟩, ⟨[], ((c + 11) :: p), f19⟩, ⟨l20, ((c + 12) :: p), f20⟩] ∧
  vSel v25_20
  (Q .ret [(4, (.bool false))] H20 (c + 14))
  (vBin .add .num x5 (.int .i64 1) fun v16_23 =>
  Q .normal [(0, x0), (1, x1), (5, v16_23)] H20 (c + 16)))
  (Q (.exit 0) [(0, x0), (1, x1), (5, x5), (14, v14_11)] H (c + 4))
theorem vt26_1 (P : Program) (p : Lab) (Q : VPost) (x0 x1 x5 : AV) (H : Heap) (c : Nat) : vc P p b26_1 Q [(0, x0), (1, x1), (5, x5)] H c = V26_1 P p Q x0 x1 x5 H c := by kernel_rfl
theorem q26_0_e0 (P : Program) (p : Lab) (Q : VPost) (r : RL) (H : Heap) (c : Nat) : q26_0 P p Q (.exit 0) r H c = (vc P p r26_2 Q r H c) := rfl
def V26_2 (P : Program) (p : Lab) (Q : VPost) (x0 x1 x5 x14 : AV) (H : Heap) (c : Nat) : Prop :=
  Q .ret [(4, (.bool true))] H (c + 1)
theorem vt26_2 (P : Program) (p : Lab) (Q : VPost) (x0 x1 x5 x14 : AV) (H : Heap) (c : Nat) : vc P p r26_2 Q [(0, x0), (1, x1), (5, x5), (14, x14)] H c = V26_2 P p Q x0 x1 x5 x14 H c := by kernel_rfl

def b41_1 : ACode := (.seq (.seq (.region [⟨(some 6), none, .move, [.t 5]⟩, ⟨(some 7), none, .move, [.t 0]⟩, ⟨(some 8), none, (.len .slice), [.t 7]⟩, ⟨(some 9), none, (.bin .lss .num), [.t 6, .t 8]⟩, ⟨(some 10), none, .move, [.t 9]⟩, ⟨(some 11), (some (10, true)), .move, [.t 5]⟩, ⟨(some 12), (some (10, true)), .move, [.t 1]⟩, ⟨(some 13), (some (10, true)), (.len .slice), [.t 12]⟩, ⟨(some 14), (some (10, true)), (.bin .lss .num), [.t 11, .t 13]⟩, ⟨(some 15), none, .pick, [.t 10, .t 14, .c (.bool false)]⟩] none [0, 1, 5, 15])
  (.cond (.t 15) .skip
  (.exit 0)))
  (.seq (.block 1 (.seq (.region [⟨(some 18), none, .move, [.t 0]⟩, ⟨(some 19), none, .move, [.t 5]⟩, ⟨(some 20), none, (.indexAddr 1), [.t 18, .t 19]⟩, ⟨(some 21), none, (.load 1 false), [.t 20]⟩, ⟨(some 22), none, .move, [.t 1]⟩, ⟨(some 23), none, .move, [.t 5]⟩, ⟨(some 24), none, (.indexAddr 1), [.t 22, .t 23]⟩, ⟨(some 25), none, (.load 1 false), [.t 24]⟩, ⟨(some 26), none, (.bin .gtr .num), [.t 21, .t 25]⟩] (some [0, 0, 3, 7, 0, 0, 48, 112, 255]) [0, 1, 5, 26])
  (.cond (.t 26) (.seq (.region [⟨(some 4), none, .move, [.c (.bool false)]⟩] none [4])
  .ret)
  .skip)))
  (.region [⟨(some 16), none, .move, [.t 5]⟩, ⟨(some 17), none, (.bin .add .num), [.t 16, .c (.int .i64 1)]⟩, ⟨(some 5), none, .move, [.t 17]⟩] none [0, 1, 5])))
def l41_1 : ACode := .loop [0, 1, 5] b41_1
def r41_2 : ACode := (.seq (.region [⟨(some 4), none, .move, [.c (.bool true)]⟩] none [4])
  .ret)
/-- duet/duetref06.Below -/
def c41 : AFun := ⟨2, 27, [.tmp 4],
  (.seq (.region [⟨(some 4), none, .move, [.c (.bool false)]⟩] none [0, 1])
  (.seq (.seq (.region [⟨(some 5), none, .move, [.c (.int .i64 0)]⟩] none [0, 1, 5])
  (.block 0 l41_1)) r41_2))⟩
theorem ok41 : FunOk Try.prog 41 c41 := ⟨⟨Try.f41, _, Try.func41, rfl, by kernel_rfl, by kernel_rfl, by kernel_rfl, by kernel_rfl⟩, by decide⟩
theorem res41 : c41.res = [.tmp 4] := rfl
def q41_0 (P : Program) (p : Lab) (Q : VPost) : VPost := (vblockQ 0 (vseqQ (vc P p r41_2 Q) Q))
theorem q41_0_ret (P : Program) (p : Lab) (Q : VPost) (r : RL) (H : Heap) (c : Nat) : q41_0 P p Q .ret r H c = Q .ret r H c := rfl
def V41 (P : Program) (p : Lab) (Q : VPost) (x0 x1 : AV) (H : Heap) (c : Nat) : Prop :=
  vc P p l41_1 (q41_0 P p Q) [(0, x0), (1, x1), (5, (.int .i64 0))] H (c + 2)
theorem vt41 (P : Program) (p : Lab) (Q : VPost) (x0 x1 : AV) (H : Heap) (c : Nat) : vc P p c41.body Q [(0, x0), (1, x1)] H c = V41 P p Q x0 x1 H c := by kernel_rfl
def V41_1 (P : Program) (p : Lab) (Q : VPost) (x0 x1 x5 : AV) (H : Heap) (c : Nat) : Prop :=
  vLen x0 fun v8_4 =>
  vBin .lss .num x5 v8_4 fun v9_5 =>
  vSel v9_5
  (vLen x1 fun v13_9 =>
  vBin .lss .num x5 v13_9 fun v14_10 =>
  vSel v14_10
  (vIx 1 x0 x5 fun v20_14 =>
  vLoad 1 false v20_14 H fun v21_15 f15 =>
  vIx 1 x1 x5 fun v24_18 =>
  vLoad 1 false v24_18 H fun v25_19 f19 =>
  vBin .gtr .num v21_15 v25_19 fun v26_20 =>
  clashFree [0, 0, 3, 7, 0, 0, 48, 112, 255] [⟨[], ((c + 10) :: p), some []⟩, ⟨[], ((c + 11) :: p), some []⟩, ⟨[], ((c + 12) :: p), some []⟩, ⟨[], ((c + 13) :: p), f15⟩, ⟨[], ((c + 14) :: p), some []⟩, ⟨[], ((c + 15) :: p), some []⟩, ⟨[], ((c + 16) :: p), some []⟩, ⟨[], ((c + 17) :: p), f19⟩, ⟨[], ((c + 18) :: p), some []⟩] ∧
  vSel v26_20
  (Q .ret [(4, (.bool false))] H (c + 20))
  (vBin .add .num x5 (.int .i64 1) fun v17_23 =>
  Q .normal [(0, x0), (1, x1), (5, v17_23)] H (c + 22)))
  (Q (.exit 0) [(0, x0), (1, x1), (5, x5), (15, v14_10)] H (c + 10)))
  (Q (.exit 0) [(0, x0), (1, x1), (5, x5), (15, (.bool false))] H (c + 10))
theorem vt41_1 (P : Program) (p : Lab) (Q : VPost) (x0 x1 x5 : AV) (H : Heap) (c : Nat) : vc P p b41_1 Q [(0, x0), (1, x1), (5, x5)] H c = V41_1 P p Q x0 x1 x5 H c := by kernel_rfl
theorem q41_0_e0 (P : Program) (p : Lab) (Q : VPost) (r : RL) (H : Heap) (c : Nat) : q41_0 P p Q (.exit 0) r H c = (vc P p r41_2 Q r H c) := rfl
def V41_2 (P : Program) (p : Lab) (Q : VPost) (x0 x1 x5 x15 : AV) (H : Heap) (c : Nat) : Prop :=
  Q .ret [(4, (.bool true))] H (c + 1)
theorem vt41_2 (P : Program) (p : Lab) (Q : VPost) (x0 x1 x5 x15 : AV) (H : Heap) (c : Nat) : vc P p r41_2 Q [(0, x0), (1, x1), (5, x5), (15, x15)] H c = V41_2 P p Q x0 x1 x5 x15 H c := by kernel_rfl

def b50_1 : ACode := (.seq (.region [⟨(some 16), none, (.bin .lss .num), [.t 15, .t 14]⟩] none [1, 6, 13, 14, 15, 16])
  (.seq (.cond (.t 16) .skip
  (.exit 0))
  (.seq (.block 1 (.seq (.region [⟨(some 17), none, .move, [.t 15]⟩, ⟨(some 18), none, (.indexAddr 1), [.t 13, .t 15]⟩, ⟨(some 19), none, (.load 1 false), [.t 18]⟩, ⟨(some 7), none, .move, [.t 17]⟩, ⟨(some 8), none, .move, [.t 19]⟩] none [1, 6, 7, 8, 13, 14, 15])
  (.block 2 (.seq (.region [⟨(some 21), none, .move, [.t 8]⟩, ⟨(some 22), none, .move, [.t 1]⟩, ⟨(some 23), none, .move, [.t 7]⟩, ⟨(some 24), none, (.indexAddr 1), [.t 22, .t 23]⟩, ⟨(some 25), none, (.load 1 false), [.t 24]⟩, ⟨(some 26), none, (.bin .lss .num), [.t 21, .t 25]⟩, ⟨(some 20), none, .move, [.t 26]⟩] none [1, 6, 7, 8, 13, 14, 15, 20])
  (.cond (.t 20) (.region [⟨(some 27), none, .move, [.t 6]⟩, ⟨(some 28), none, (.bin .or .num), [.t 27, .c (.int .i64 1)]⟩, ⟨(some 6), none, .move, [.t 28]⟩] none [1, 6, 13, 14, 15])
  (.seq (.region [⟨(some 30), none, .move, [.t 8]⟩, ⟨(some 31), none, .move, [.t 1]⟩, ⟨(some 32), none, .move, [.t 7]⟩, ⟨(some 33), none, (.indexAddr 1), [.t 31, .t 32]⟩, ⟨(some 34), none, (.load 1 false), [.t 33]⟩, ⟨(some 35), none, (.bin .gtr .num), [.t 30, .t 34]⟩, ⟨(some 29), none, .move, [.t 35]⟩] none [1, 6, 13, 14, 15, 29])
  (.cond (.t 29) (.region [⟨(some 36), none, .move, [.t 6]⟩, ⟨(some 37), none, (.bin .or .num), [.t 36, .c (.int .i64 2)]⟩, ⟨(some 6), none, .move, [.t 37]⟩] none [1, 6, 13, 14, 15])
  .skip)))))))
  (.region [⟨(some 38), none, (.bin .add .num), [.t 15, .c (.int .i64 1)]⟩, ⟨(some 15), none, .move, [.t 38]⟩] none [1, 6, 13, 14, 15]))))
def l50_1 : ACode := .loop [1, 6, 13, 14, 15] b50_1
def r50_2 : ACode := (.seq (.region [⟨(some 39), none, .move, [.t 6]⟩, ⟨(some 4), none, .move, [.t 39]⟩, ⟨(some 5), none, .move, [.c (.int .i64 0)]⟩] none [4, 5])
  .ret)
/-- (duet/vec.Vec).Compare -/
def c50 : AFun := ⟨2, 40, [.tmp 4, .tmp 5],
  (.seq (.region [⟨(some 4), none, .move, [.c (.int .i64 0)]⟩, ⟨(some 5), none, .move, [.c (.int .i64 0)]⟩] none [0, 1])
  (.seq (.seq (.region [⟨(some 9), none, .move, [.t 0]⟩, ⟨(some 10), none, .move, [.t 1]⟩, ⟨(some 11), none, .call, [.c (.fn (.func 75) [] []), .t 9, .t 10]⟩, ⟨(some 12), none, (.un .not), [.t 11]⟩] none [0, 1, 12])
  (.cond (.t 12) (.seq (.region [⟨(some 4), none, .move, [.c (.int .i64 0)]⟩, ⟨(some 5), none, .move, [.c (.int .i64 1)]⟩] none [4, 5])
  .ret)
  .skip))
  (.seq (.region [⟨(some 6), none, .move, [.c (.int .i64 0)]⟩] none [0, 1, 6])
  (.seq (.seq (.region [⟨(some 13), none, .move, [.t 0]⟩, ⟨(some 14), none, (.len .slice), [.t 13]⟩, ⟨(some 15), none, .move, [.c (.int .i64 0)]⟩] none [1, 6, 13, 14, 15])
  (.block 0 l50_1)) r50_2))))⟩
theorem ok50 : FunOk Try.prog 50 c50 := ⟨⟨Try.f50, _, Try.func50, rfl, by kernel_rfl, by kernel_rfl, by kernel_rfl, by kernel_rfl⟩, by decide⟩
theorem res50 : c50.res = [.tmp 4, .tmp 5] := rfl
def q50_0 (P : Program) (p : Lab) (Q : VPost) : VPost := (vblockQ 0 (vseqQ (vc P p r50_2 Q) Q))
theorem q50_0_ret (P : Program) (p : Lab) (Q : VPost) (r : RL) (H : Heap) (c : Nat) : q50_0 P p Q .ret r H c = Q .ret r H c := rfl
def V50 (P : Program) (p : Lab) (Q : VPost) (x0 x1 : AV) (H : Heap) (c : Nat) : Prop :=
  vCall P 75 [x0, x1] H ((c + 4) :: p) fun v11_4 H4 _ _ =>
  vNot v11_4 fun v12_5 =>
  vSel v12_5
  (Q .ret [(4, (.int .i64 0)), (5, (.int .i64 1))] H4 (c + 8))
  (vLen x0 fun v14_10 =>
  vc P p l50_1 (q50_0 P p Q) [(1, x1), (6, (.int .i64 0)), (13, x0), (14, v14_10), (15, (.int .i64 0))] H4 (c + 10))
theorem vt50 (P : Program) (p : Lab) (Q : VPost) (x0 x1 : AV) (H : Heap) (c : Nat) : vc P p c50.body Q [(0, x0), (1, x1)] H c = V50 P p Q x0 x1 H c := by kernel_rfl
def V50_1 (P : Program) (p : Lab) (Q : VPost) (x1 x6 x13 x14 x15 : AV) (H : Heap) (c : Nat) : Prop :=
  vBin .lss .num x15 x14 fun v16_12 =>
  vSel v16_12
  (vIx 1 x13 x15 fun v18_14 =>
  vLoad 1 false v18_14 H fun v19_15 _ =>
  vIx 1 x1 x15 fun v24_21 =>
  vLoad 1 false v24_21 H fun v25_22 _ =>
  vBin .lss .num v19_15 v25_22 fun v26_23 =>
  vSel v26_23
  (vBin .or .num x6 (.int .i64 1) fun v28_26 =>
  vBin .add .num x15 (.int .i64 1) fun v38_28 =>
  Q .normal [(1, x1), (6, v28_26), (13, x13), (14, x14), (15, v38_28)] H (c + 18))
  (vIx 1 x1 x15 fun v33_33 =>
  vLoad 1 false v33_33 H fun v34_34 _ =>
  vBin .gtr .num v19_15 v34_34 fun v35_35 =>
  vSel v35_35
  (vBin .or .num x6 (.int .i64 2) fun v37_38 =>
  vBin .add .num x15 (.int .i64 1) fun v38_40 =>
  Q .normal [(1, x1), (6, v37_38), (13, x13), (14, x14), (15, v38_40)] H (c + 25))
  (vBin .add .num x15 (.int .i64 1) fun v38_42 =>
  Q .normal [(1, x1), (6, x6), (13, x13), (14, x14), (15, v38_42)] H (c + 22))))
  (Q (.exit 0) [(1, x1), (6, x6), (13, x13), (14, x14), (15, x15), (16, v16_12)] H (c + 1))
theorem vt50_1 (P : Program) (p : Lab) (Q : VPost) (x1 x6 x13 x14 x15 : AV) (H : Heap) (c : Nat) : vc P p b50_1 Q [(1, x1), (6, x6), (13, x13), (14, x14), (15, x15)] H c = V50_1 P p Q x1 x6 x13 x14 x15 H c := by kernel_rfl
theorem q50_0_e0 (P : Program) (p : Lab) (Q : VPost) (r : RL) (H : Heap) (c : Nat) : q50_0 P p Q (.exit 0) r H c = (vc P p r50_2 Q r H c) := rfl
def V50_2 (P : Program) (p : Lab) (Q : VPost) (x1 x6 x13 x14 x15 x16 : AV) (H : Heap) (c : Nat) : Prop :=
  Q .ret [(4, x6), (5, (.int .i64 0))] H (c + 3)
theorem vt50_2 (P : Program) (p : Lab) (Q : VPost) (x1 x6 x13 x14 x15 x16 : AV) (H : Heap) (c : Nat) : vc P p r50_2 Q [(1, x1), (6, x6), (13, x13), (14, x14), (15, x15), (16, x16)] H c = V50_2 P p Q x1 x6 x13 x14 x15 x16 H c := by kernel_rfl


/-- duet/duetref06.Compare -/
def c51 : AFun := ⟨2, 27, [.tmp 4, .tmp 5],
  (.seq (.region [⟨(some 4), none, .move, [.c (.int .i64 0)]⟩, ⟨(some 5), none, .move, [.c (.int .i64 0)]⟩] none [0, 1])
  (.seq (.seq (.region [⟨(some 8), none, .move, [.t 0]⟩, ⟨(some 9), none, .move, [.t 1]⟩, ⟨(some 10), none, .call, [.c (.fn (.func 76) [] []), .t 8, .t 9]⟩, ⟨(some 11), none, (.un .not), [.t 10]⟩] none [0, 1, 11])
  (.cond (.t 11) (.seq (.region [⟨(some 4), none, .move, [.c (.int .i64 0)]⟩, ⟨(some 5), none, .move, [.c (.int .i64 1)]⟩] none [4, 5])
  .ret)
  .skip))
  (.seq (.region [⟨(some 12), none, .move, [.t 0]⟩, ⟨(some 13), none, .move, [.t 1]⟩, ⟨(some 14), none, .call, [.c (.fn (.func 41) [] []), .t 12, .t 13]⟩, ⟨(some 6), none, .move, [.t 14]⟩] none [0, 1, 6])
  (.seq (.region [⟨(some 15), none, .move, [.t 1]⟩, ⟨(some 16), none, .move, [.t 0]⟩, ⟨(some 17), none, .call, [.c (.fn (.func 41) [] []), .t 15, .t 16]⟩, ⟨(some 7), none, .move, [.t 17]⟩] none [6, 7])
  (.seq (.block 0 (.seq (.region [⟨(some 19), none, .move, [.t 6]⟩, ⟨(some 20), none, .move, [.t 19]⟩, ⟨(some 21), (some (20, true)), .move, [.t 7]⟩, ⟨(some 22), none, .pick, [.t 20, .t 21, .c (.bool false)]⟩, ⟨(some 18), none, .move, [.t 22]⟩] none [6, 7, 18])
  (.cond (.t 18) (.seq (.region [⟨(some 4), none, .move, [.c (.int .i64 0)]⟩, ⟨(some 5), none, .move, [.c (.int .i64 0)]⟩] none [4, 5])
  .ret)
  (.seq (.region [⟨(some 24), none, .move, [.t 6]⟩, ⟨(some 23), none, .move, [.t 24]⟩] none [7, 23])
  (.cond (.t 23) (.seq (.region [⟨(some 4), none, .move, [.c (.int .i64 1)]⟩, ⟨(some 5), none, .move, [.c (.int .i64 0)]⟩] none [4, 5])
  .ret)
  (.seq (.region [⟨(some 26), none, .move, [.t 7]⟩, ⟨(some 25), none, .move, [.t 26]⟩] none [25])
  (.cond (.t 25) (.seq (.region [⟨(some 4), none, .move, [.c (.int .i64 2)]⟩, ⟨(some 5), none, .move, [.c (.int .i64 0)]⟩] none [4, 5])
  .ret)
  .skip)))))))
  (.seq (.region [⟨(some 4), none, .move, [.c (.int .i64 3)]⟩, ⟨(some 5), none, .move, [.c (.int .i64 0)]⟩] none [4, 5])
  .ret))))))⟩
theorem ok51 : FunOk Try.prog 51 c51 := ⟨⟨Try.f51, _, Try.func51, rfl, by kernel_rfl, by kernel_rfl, by kernel_rfl, by kernel_rfl⟩, by decide⟩
theorem res51 : c51.res = [.tmp 4, .tmp 5] := rfl
def V51 (P : Program) (p : Lab) (Q : VPost) (x0 x1 : AV) (H : Heap) (c : Nat) : Prop :=
  vCall P 76 [x0, x1] H ((c + 4) :: p) fun v10_4 H4 _ _ =>
  vNot v10_4 fun v11_5 =>
  vSel v11_5
  (Q .ret [(4, (.int .i64 0)), (5, (.int .i64 1))] H4 (c + 8))
  (vCall P 41 [x0, x1] H4 ((c + 8) :: p) fun v14_10 H10 _ _ =>
  vCall P 41 [x1, x0] H10 ((c + 12) :: p) fun v17_14 H14 _ _ =>
  vSel v14_10
  (vSel v17_14
  (Q .ret [(4, (.int .i64 0)), (5, (.int .i64 0))] H14 (c + 21))
  (vSel v14_10
  (Q .ret [(4, (.int .i64 1)), (5, (.int .i64 0))] H14 (c + 23))
  (vSel v17_14
  (Q .ret [(4, (.int .i64 2)), (5, (.int .i64 0))] H14 (c + 25))
  (Q .ret [(4, (.int .i64 3)), (5, (.int .i64 0))] H14 (c + 25)))))
  (vSel v14_10
  (Q .ret [(4, (.int .i64 1)), (5, (.int .i64 0))] H14 (c + 23))
  (vSel v17_14
  (Q .ret [(4, (.int .i64 2)), (5, (.int .i64 0))] H14 (c + 25))
  (Q .ret [(4, (.int .i64 3)), (5, (.int .i64 0))] H14 (c + 25)))))
theorem vt51 (P : Program) (p : Lab) (Q : VPost) (x0 x1 : AV) (H : Heap) (c : Nat) : vc P p c51.body Q [(0, x0), (1, x1)] H c = V51 P p Q x0 x1 H c := by kernel_rfl


/-- (duet/vec.Vec).goes -/
def c75 : AFun := ⟨2, 20, [.tmp 4],
  (.seq (.region [⟨(some 4), none, .move, [.c (.bool false)]⟩] none [0, 1])
  (.seq (.region [⟨(some 5), none, .move, [.t 0]⟩, ⟨(some 6), none, (.len .slice), [.t 5]⟩, ⟨(some 7), none, .move, [.t 1]⟩, ⟨(some 8), none, (.len .slice), [.t 7]⟩, ⟨(some 9), none, (.bin .eql .num), [.t 6, .t 8]⟩, ⟨(some 10), none, .move, [.t 9]⟩, ⟨(some 11), (some (10, true)), .move, [.t 0]⟩, ⟨(some 12), (some (10, true)), .call, [.c (.fn (.func 46) [] []), .t 11]⟩, ⟨(some 13), (some (10, true)), (.bin .eql .num), [.t 12, .c (.int .i64 0)]⟩, ⟨(some 14), none, .pick, [.t 10, .t 13, .c (.bool false)]⟩, ⟨(some 15), none, .move, [.t 14]⟩, ⟨(some 16), (some (15, true)), .move, [.t 1]⟩, ⟨(some 17), (some (15, true)), .call, [.c (.fn (.func 46) [] []), .t 16]⟩, ⟨(some 18), (some (15, true)), (.bin .eql .num), [.t 17, .c (.int .i64 0)]⟩, ⟨(some 19), none, .pick, [.t 15, .t 18, .c (.bool false)]⟩, ⟨(some 4), none, .move, [.t 19]⟩] none [4])
  .ret))⟩
theorem ok75 : FunOk Try.prog 75 c75 := ⟨⟨Try.f75, _, Try.func75, rfl, by kernel_rfl, by kernel_rfl, by kernel_rfl, by kernel_rfl⟩, by decide⟩
theorem res75 : c75.res = [.tmp 4] := rfl
def V75 (P : Program) (p : Lab) (Q : VPost) (x0 x1 : AV) (H : Heap) (c : Nat) : Prop :=
  vLen x0 fun v6_2 =>
  vLen x1 fun v8_4 =>
  vBin .eql .num v6_2 v8_4 fun v9_5 =>
  vSel v9_5
  (vCall P 46 [x0] H ((c + 8) :: p) fun v12_8 H8 _ _ =>
  vBin .eql .num v12_8 (.int .i64 0) fun v13_9 =>
  vSel v13_9
  (vCall P 46 [x1] H8 ((c + 13) :: p) fun v17_13 H13 _ _ =>
  vBin .eql .num v17_13 (.int .i64 0) fun v18_14 =>
  Q .ret [(4, v18_14)] H13 (c + 17))
  (Q .ret [(4, (.bool false))] H8 (c + 17)))
  (Q .ret [(4, (.bool false))] H (c + 17))
theorem vt75 (P : Program) (p : Lab) (Q : VPost) (x0 x1 : AV) (H : Heap) (c : Nat) : vc P p c75.body Q [(0, x0), (1, x1)] H c = V75 P p Q x0 x1 H c := by kernel_rfl

def b48_1 : ACode := (.seq (.seq (.region [⟨(some 4), none, .move, [.t 3]⟩, ⟨(some 5), none, .move, [.t 0]⟩, ⟨(some 6), none, (.len .slice), [.t 5]⟩, ⟨(some 7), none, (.bin .lss .num), [.t 4, .t 6]⟩] none [0, 3, 7])
  (.cond (.t 7) .skip
  (.exit 0)))
  (.seq (.block 1 (.seq (.region [⟨(some 10), none, .move, [.t 0]⟩, ⟨(some 11), none, .move, [.t 3]⟩, ⟨(some 12), none, (.indexAddr 1), [.t 10, .t 11]⟩, ⟨(some 13), none, (.load 1 false), [.t 12]⟩, ⟨(some 14), none, (.bin .lss .num), [.t 13, .c (.int .i64 0)]⟩, ⟨(some 15), none, .move, [.t 14]⟩, ⟨(some 16), (some (15, false)), .move, [.t 0]⟩, ⟨(some 17), (some (15, false)), .move, [.t 3]⟩, ⟨(some 18), (some (15, false)), (.indexAddr 1), [.t 16, .t 17]⟩, ⟨(some 19), (some (15, false)), (.load 1 false), [.t 18]⟩, ⟨(some 20), (some (15, false)), (.bin .gtr .num), [.t 19, .c (.int .i64 4294967295)]⟩, ⟨(some 21), none, .pick, [.t 15, .c (.bool true), .t 20]⟩] none [0, 3, 21])
  (.cond (.t 21) (.seq (.region [⟨(some 2), none, .move, [.c (.bool false)]⟩] none [2])
  .ret)
  .skip)))
  (.region [⟨(some 8), none, .move, [.t 3]⟩, ⟨(some 9), none, (.bin .add .num), [.t 8, .c (.int .i64 1)]⟩, ⟨(some 3), none, .move, [.t 9]⟩] none [0, 3])))
def l48_1 : ACode := .loop [0, 3] b48_1
def r48_2 : ACode := (.seq (.region [⟨(some 22), none, .move, [.t 0]⟩, ⟨(some 23), none, (.len .slice), [.t 22]⟩, ⟨(some 24), none, (.bin .geq .num), [.t 23, .c (.int .i64 1)]⟩, ⟨(some 25), none, .move, [.t 24]⟩, ⟨(some 26), (some (25, true)), .move, [.t 0]⟩, ⟨(some 27), (some (25, true)), (.len .slice), [.t 26]⟩, ⟨(some 28), (some (25, true)), (.bin .leq .num), [.t 27, .c (.int .i64 16)]⟩, ⟨(some 29), none, .pick, [.t 25, .t 28, .c (.bool false)]⟩, ⟨(some 2), none, .move, [.t 29]⟩] none [2])
  .ret)
/-- duet/duetref06.May -/
def c48 : AFun := ⟨1, 30, [.tmp 2],
  (.seq (.region [⟨(some 2), none, .move, [.c (.bool false)]⟩] none [0])
  (.seq (.seq (.region [⟨(some 3), none, .move, [.c (.int .i64 0)]⟩] none [0, 3])
  (.block 0 l48_1)) r48_2))⟩
theorem ok48 : FunOk Try.prog 48 c48 := ⟨⟨Try.f48, _, Try.func48, rfl, by kernel_rfl, by kernel_rfl, by kernel_rfl, by kernel_rfl⟩, by decide⟩
theorem res48 : c48.res = [.tmp 2] := rfl
def q48_0 (P : Program) (p : Lab) (Q : VPost) : VPost := (vblockQ 0 (vseqQ (vc P p r48_2 Q) Q))
theorem q48_0_ret (P : Program) (p : Lab) (Q : VPost) (r : RL) (H : Heap) (c : Nat) : q48_0 P p Q .ret r H c = Q .ret r H c := rfl
def V48 (P : Program) (p : Lab) (Q : VPost) (x0 : AV) (H : Heap) (c : Nat) : Prop :=
  vc P p l48_1 (q48_0 P p Q) [(0, x0), (3, (.int .i64 0))] H (c + 2)
theorem vt48 (P : Program) (p : Lab) (Q : VPost) (x0 : AV) (H : Heap) (c : Nat) : vc P p c48.body Q [(0, x0)] H c = V48 P p Q x0 H c := by kernel_rfl
def V48_1 (P : Program) (p : Lab) (Q : VPost) (x0 x3 : AV) (H : Heap) (c : Nat) : Prop :=
  vLen x0 fun v6_4 =>
  vBin .lss .num x3 v6_4 fun v7_5 =>
  vSel v7_5
  (vIx 1 x0 x3 fun v12_8 =>
  vLoad 1 false v12_8 H fun v13_9 _ =>
  vBin .lss .num v13_9 (.int .i64 0) fun v14_10 =>
  vSel v14_10
  (Q .ret [(2, (.bool false))] H (c + 17))
  (vIx 1 x0 x3 fun v18_16 =>
  vLoad 1 false v18_16 H fun v19_17 _ =>
  vBin .gtr .num v19_17 (.int .i64 4294967295) fun v20_18 =>
  vSel v20_18
  (Q .ret [(2, (.bool false))] H (c + 17))
  (vBin .add .num x3 (.int .i64 1) fun v9_22 =>
  Q .normal [(0, x0), (3, v9_22)] H (c + 19))))
  (Q (.exit 0) [(0, x0), (3, x3), (7, v7_5)] H (c + 4))
theorem vt48_1 (P : Program) (p : Lab) (Q : VPost) (x0 x3 : AV) (H : Heap) (c : Nat) : vc P p b48_1 Q [(0, x0), (3, x3)] H c = V48_1 P p Q x0 x3 H c := by kernel_rfl
theorem q48_0_e0 (P : Program) (p : Lab) (Q : VPost) (r : RL) (H : Heap) (c : Nat) : q48_0 P p Q (.exit 0) r H c = (vc P p r48_2 Q r H c) := rfl
def V48_2 (P : Program) (p : Lab) (Q : VPost) (x0 x3 x7 : AV) (H : Heap) (c : Nat) : Prop :=
  vLen x0 fun v23_25 =>
  vBin .geq .num v23_25 (.int .i64 1) fun v24_26 =>
  vSel v24_26
  (vLen x0 fun v27_29 =>
  vBin .leq .num v27_29 (.int .i64 16) fun v28_30 =>
  Q .ret [(2, v28_30)] H (c + 9))
  (Q .ret [(2, (.bool false))] H (c + 9))
theorem vt48_2 (P : Program) (p : Lab) (Q : VPost) (x0 x3 x7 : AV) (H : Heap) (c : Nat) : vc P p r48_2 Q [(0, x0), (3, x3), (7, x7)] H c = V48_2 P p Q x0 x3 x7 H c := by kernel_rfl


/-- duet/duetref06.together -/
def c76 : AFun := ⟨2, 18, [.tmp 4],
  (.seq (.region [⟨(some 4), none, .move, [.c (.bool false)]⟩] none [0, 1])
  (.seq (.region [⟨(some 5), none, .move, [.t 0]⟩, ⟨(some 6), none, .call, [.c (.fn (.func 48) [] []), .t 5]⟩, ⟨(some 7), none, .move, [.t 6]⟩, ⟨(some 8), (some (7, true)), .move, [.t 1]⟩, ⟨(some 9), (some (7, true)), .call, [.c (.fn (.func 48) [] []), .t 8]⟩, ⟨(some 10), none, .pick, [.t 7, .t 9, .c (.bool false)]⟩, ⟨(some 11), none, .move, [.t 10]⟩, ⟨(some 12), (some (11, true)), .move, [.t 0]⟩, ⟨(some 13), (some (11, true)), (.len .slice), [.t 12]⟩, ⟨(some 14), (some (11, true)), .move, [.t 1]⟩, ⟨(some 15), (some (11, true)), (.len .slice), [.t 14]⟩, ⟨(some 16), (some (11, true)), (.bin .eql .num), [.t 13, .t 15]⟩, ⟨(some 17), none, .pick, [.t 11, .t 16, .c (.bool false)]⟩, ⟨(some 4), none, .move, [.t 17]⟩] none [4])
  .ret))⟩
theorem ok76 : FunOk Try.prog 76 c76 := ⟨⟨Try.f76, _, Try.func76, rfl, by kernel_rfl, by kernel_rfl, by kernel_rfl, by kernel_rfl⟩, by decide⟩
theorem res76 : c76.res = [.tmp 4] := rfl
def V76 (P : Program) (p : Lab) (Q : VPost) (x0 x1 : AV) (H : Heap) (c : Nat) : Prop :=
  vCall P 48 [x0] H ((c + 2) :: p) fun v6_2 H2 _ _ =>
  vSel v6_2
  (vCall P 48 [x1] H2 ((c + 5) :: p) fun v9_5 H5 _ _ =>
  vSel v9_5
  (vLen x0 fun v13_9 =>
  vLen x1 fun v15_11 =>
  vBin .eql .num v13_9 v15_11 fun v16_12 =>
  Q .ret [(4, v16_12)] H5 (c + 15))
  (Q .ret [(4, (.bool false))] H5 (c + 15)))
  (Q .ret [(4, (.bool false))] H2 (c + 15))
theorem vt76 (P : Program) (p : Lab) (Q : VPost) (x0 x1 : AV) (H : Heap) (c : Nat) : vc P p c76.body Q [(0, x0), (1, x1)] H c = V76 P p Q x0 x1 H c := by kernel_rfl


/-- (duet/vec.Vec).Check -/
def c46 : AFun := ⟨1, 21, [.tmp 2],
  (.seq (.region [⟨(some 2), none, .move, [.c (.int .i64 0)]⟩] none [0])
  (.seq (.seq (.region [⟨(some 3), none, .move, [.t 0]⟩, ⟨(some 4), none, (.len .slice), [.t 3]⟩, ⟨(some 5), none, (.bin .lss .num), [.t 4, .c (.int .i64 1)]⟩, ⟨(some 6), none, .move, [.t 5]⟩, ⟨(some 7), (some (6, false)), .move, [.t 0]⟩, ⟨(some 8), (some (6, false)), (.len .slice), [.t 7]⟩, ⟨(some 9), (some (6, false)), (.bin .gtr .num), [.t 8, .c (.int .i64 16)]⟩, ⟨(some 10), none, .pick, [.t 6, .c (.bool true), .t 9]⟩, ⟨(some 11), none, .move, [.t 10]⟩, ⟨(some 12), (some (11, false)), .move, [.t 0]⟩, ⟨(some 13), (some (11, false)), .call, [.c (.fn (.func 73) [] []), .t 12]⟩, ⟨(some 14), (some (11, false)), (.bin .lss .num), [.t 13, .c (.int .i64 0)]⟩, ⟨(some 15), none, .pick, [.t 11, .c (.bool true), .t 14]⟩, ⟨(some 16), none, .move, [.t 15]⟩, ⟨(some 17), (some (16, false)), .move, [.t 0]⟩, ⟨(some 18), (some (16, false)), .call, [.c (.fn (.func 74) [] []), .t 17]⟩, ⟨(some 19), (some (16, false)), (.bin .gtr .num), [.t 18, .c (.int .i64 4294967295)]⟩, ⟨(some 20), none, .pick, [.t 16, .c (.bool true), .t 19]⟩] none [20])
  (.cond (.t 20) (.seq (.region [⟨(some 2), none, .move, [.c (.int .i64 1)]⟩] none [2])
  .ret)
  .skip))
  (.seq (.region [⟨(some 2), none, .move, [.c (.int .i64 0)]⟩] none [2])
  .ret)))⟩
theorem ok46 : FunOk Try.prog 46 c46 := ⟨⟨Try.f46, _, Try.func46, rfl, by kernel_rfl, by kernel_rfl, by kernel_rfl, by kernel_rfl⟩, by decide⟩
theorem res46 : c46.res = [.tmp 2] := rfl
def V46 (P : Program) (p : Lab) (Q : VPost) (x0 : AV) (H : Heap) (c : Nat) : Prop :=
  vLen x0 fun v4_2 =>
  vBin .lss .num v4_2 (.int .i64 1) fun v5_3 =>
  vSel v5_3
  (Q .ret [(2, (.int .i64 1))] H (c + 20))
  (vLen x0 fun v8_12 =>
  vBin .gtr .num v8_12 (.int .i64 16) fun v9_13 =>
  vSel v9_13
  (Q .ret [(2, (.int .i64 1))] H (c + 20))
  (vCall P 73 [x0] H ((c + 11) :: p) fun v13_21 H21 _ _ =>
  vBin .lss .num v13_21 (.int .i64 0) fun v14_22 =>
  vSel v14_22
  (Q .ret [(2, (.int .i64 1))] H21 (c + 20))
  (vCall P 74 [x0] H21 ((c + 16) :: p) fun v18_28 H28 _ _ =>
  vBin .gtr .num v18_28 (.int .i64 4294967295) fun v19_29 =>
  vSel v19_29
  (Q .ret [(2, (.int .i64 1))] H28 (c + 20))
  (Q .ret [(2, (.int .i64 0))] H28 (c + 20)))))
theorem vt46 (P : Program) (p : Lab) (Q : VPost) (x0 : AV) (H : Heap) (c : Nat) : vc P p c46.body Q [(0, x0)] H c = V46 P p Q x0 H c := by kernel_rfl

def b27_1 : ACode := (.seq (.seq (.region [⟨(some 57), none, .move, [.t 4]⟩, ⟨(some 58), none, .move, [.t 3]⟩, ⟨(some 59), none, (.bin .lss .num), [.t 57, .t 58]⟩] none [1, 3, 4, 59])
  (.cond (.t 59) .skip
  (.exit 0)))
  (.seq (.block 1 (.seq (.region [⟨(some 62), none, (.fieldAddr 2), [.t 1]⟩, ⟨(some 63), none, (.load 1 false), [.t 62]⟩, ⟨(some 64), none, .move, [.t 4]⟩, ⟨(some 65), none, (.indexAddr 1), [.t 63, .t 64]⟩, ⟨(some 66), none, (.load 1 false), [.t 65]⟩, ⟨(some 67), none, .call, [.c (.fn (.func 52) [] []), .t 66]⟩, ⟨(some 68), none, (.un .not), [.t 67]⟩] none [1, 3, 4, 68])
  (.cond (.t 68) (.seq (.region [⟨(some 2), none, .move, [.c (.int .i64 1)]⟩] none [2])
  .ret)
  .skip)))
  (.region [⟨(some 60), none, .move, [.t 4]⟩, ⟨(some 61), none, (.bin .add .num), [.t 60, .c (.int .i64 1)]⟩, ⟨(some 4), none, .move, [.t 61]⟩] none [1, 3, 4])))
def l27_1 : ACode := .loop [1, 3, 4] b27_1
def r27_2 : ACode := (.seq (.region [⟨(some 2), none, .move, [.c (.int .i64 0)]⟩] none [2])
  .ret)
/-- duet/duetref04.Check -/
def c27 : AFun := ⟨1, 69, [.tmp 2],
  (.seq (.region [⟨(some 1), none, .box, [.t 0]⟩, ⟨(some 2), none, .move, [.c (.int .i64 0)]⟩] none [1])
  (.seq (.region [⟨(some 5), none, (.fieldAddr 2), [.t 1]⟩, ⟨(some 6), none, (.load 1 false), [.t 5]⟩, ⟨(some 7), none, (.len .slice), [.t 6]⟩, ⟨(some 3), none, .move, [.t 7]⟩] none [1, 3])
  (.seq (.seq (.region [⟨(some 8), none, .move, [.t 3]⟩, ⟨(some 9), none, (.bin .lss .num), [.t 8, .c (.int .i64 1)]⟩, ⟨(some 10), none, .move, [.t 9]⟩, ⟨(some 11), (some (10, false)), .move, [.t 3]⟩, ⟨(some 12), (some (10, false)), (.bin .gtr .num), [.t 11, .c (.int .i64 16)]⟩, ⟨(some 13), none, .pick, [.t 10, .c (.bool true), .t 12]⟩, ⟨(some 14), none, .move, [.t 13]⟩, ⟨(some 15), (some (14, false)), (.fieldAddr 0), [.t 1]⟩, ⟨(some 16), (some (14, false)), (.load 1 false), [.t 15]⟩, ⟨(some 17), (some (14, false)), (.bin .lss .num), [.t 16, .c (.int .i64 0)]⟩, ⟨(some 18), none, .pick, [.t 14, .c (.bool true), .t 17]⟩, ⟨(some 19), none, .move, [.t 18]⟩, ⟨(some 20), (some (19, false)), (.fieldAddr 0), [.t 1]⟩, ⟨(some 21), (some (19, false)), (.load 1 false), [.t 20]⟩, ⟨(some 22), (some (19, false)), .move, [.t 3]⟩, ⟨(some 23), (some (19, false)), (.bin .geq .num), [.t 21, .t 22]⟩, ⟨(some 24), none, .pick, [.t 19, .c (.bool true), .t 23]⟩, ⟨(some 25), none, .move, [.t 24]⟩, ⟨(some 26), (some (25, false)), (.fieldAddr 1), [.t 1]⟩, ⟨(some 27), (some (25, false)), (.load 1 false), [.t 26]⟩, ⟨(some 28), (some (25, false)), (.bin .lss .num), [.t 27, .c (.int .i64 1)]⟩, ⟨(some 29), none, .pick, [.t 25, .c (.bool true), .t 28]⟩, ⟨(some 30), none, .move, [.t 29]⟩, ⟨(some 31), (some (30, false)), (.fieldAddr 1), [.t 1]⟩, ⟨(some 32), (some (30, false)), (.load 1 false), [.t 31]⟩, ⟨(some 33), (some (30, false)), .call, [.c (.fn (.func 52) [] []), .t 32]⟩, ⟨(some 34), (some (30, false)), (.un .not), [.t 33]⟩, ⟨(some 35), none, .pick, [.t 30, .c (.bool true), .t 34]⟩, ⟨(some 36), none, .move, [.t 35]⟩, ⟨(some 37), (some (36, false)), (.fieldAddr 2), [.t 1]⟩, ⟨(some 38), (some (36, false)), (.load 1 false), [.t 37]⟩, ⟨(some 39), (some (36, false)), (.fieldAddr 0), [.t 1]⟩, ⟨(some 40), (some (36, false)), (.load 1 false), [.t 39]⟩, ⟨(some 41), (some (36, false)), (.indexAddr 1), [.t 38, .t 40]⟩, ⟨(some 42), (some (36, false)), (.load 1 false), [.t 41]⟩, ⟨(some 43), (some (36, false)), (.fieldAddr 1), [.t 1]⟩, ⟨(some 44), (some (36, false)), (.load 1 false), [.t 43]⟩, ⟨(some 45), (some (36, false)), (.bin .sub .num), [.t 44, .c (.int .i64 1)]⟩, ⟨(some 46), (some (36, false)), (.bin .neq .num), [.t 42, .t 45]⟩, ⟨(some 47), none, .pick, [.t 36, .c (.bool true), .t 46]⟩, ⟨(some 48), none, .move, [.t 47]⟩, ⟨(some 49), (some (48, false)), (.fieldAddr 3), [.t 1]⟩, ⟨(some 50), (some (48, false)), (.load 7 true), [.t 49]⟩, ⟨(some 51), (some (48, false)), (.fieldAddr 0), [.t 1]⟩, ⟨(some 52), (some (48, false)), (.load 1 false), [.t 51]⟩, ⟨(some 53), (some (48, false)), .move, [.t 3]⟩, ⟨(some 54), (some (48, false)), .call, [.c (.fn (.func 53) [] []), .t 50, .t 52, .t 53]⟩, ⟨(some 55), (some (48, false)), (.un .not), [.t 54]⟩, ⟨(some 56), none, .pick, [.t 48, .c (.bool true), .t 55]⟩] (some [0, 1, 3, 7, 15, 31, 63, 127, 255, 511, 1023, 2047, 4095, 8191, 4095, 32767, 65535, 131071, 262143, 524287, 1048575, 2097151, 4194303, 8388607, 16777215, 33554431, 67108863, 134217727, 268435455, 536870911, 1073741823, 536870911, 2684354559, 8589934591, 17179869183, 536870911, 34896609279, 103616086015, 274877906943, 549755813887, 1099511627775, 2199023255551, 4398046511103, 2199023255551, 10995116277759, 2199023255551, 70368744177663, 140737488355327, 281474976710655]) [1, 3, 56])
  (.cond (.t 56) (.seq (.region [⟨(some 2), none, .move, [.c (.int .i64 1)]⟩] none [2])
  .ret)
  .skip))
  (.seq (.seq (.region [⟨(some 4), none, .move, [.c (.int .i64 0)]⟩] none [1, 3, 4])
  (.block 0 l27_1)) r27_2))))⟩
theorem ok27 : FunOk Try.prog 27 c27 := ⟨⟨Try.f27, _, Try.func27, rfl, by kernel_rfl, by kernel_rfl, by kernel_rfl, by kernel_rfl⟩, by decide⟩
theorem res27 : c27.res = [.tmp 2] := rfl
def q27_0 (P : Program) (p : Lab) (Q : VPost) : VPost := (vblockQ 0 (vseqQ (vc P p r27_2 Q) Q))
theorem q27_0_ret (P : Program) (p : Lab) (Q : VPost) (r : RL) (H : Heap) (c : Nat) : q27_0 P p Q .ret r H c = Q .ret r H c := rfl
def V27 (P : Program) (p : Lab) (Q : VPost) (x0 : AV) (H : Heap) (c : Nat) : Prop :=
  vBox x0 fun w0 =>
  (fun (H0 : Heap) =>
  vFA 2 (.ptr (c :: p) w0.length 0 0) fun v5_2 =>
  vLoad 1 false v5_2 H0 fun v6_3 _ =>
  vLen v6_3 fun v7_4 =>
  vBin .lss .num v7_4 (.int .i64 1) fun v9_7 =>
  vSel v9_7
  (clashFree [0, 1, 3, 7, 15, 31, 63, 127, 255, 511, 1023, 2047, 4095, 8191, 4095, 32767, 65535, 131071, 262143, 524287, 1048575, 2097151, 4194303, 8388607, 16777215, 33554431, 67108863, 134217727, 268435455, 536870911, 1073741823, 536870911, 2684354559, 8589934591, 17179869183, 536870911, 34896609279, 103616086015, 274877906943, 549755813887, 1099511627775, 2199023255551, 4398046511103, 2199023255551, 10995116277759, 2199023255551, 70368744177663, 140737488355327, 281474976710655] [⟨[], ((c + 6) :: p), some []⟩, ⟨[], ((c + 7) :: p), some []⟩, ⟨[], ((c + 8) :: p), some []⟩, ⟨[], ((c + 9) :: p), some []⟩, ⟨[], ((c + 10) :: p), some []⟩, ⟨[], ((c + 11) :: p), some []⟩, ⟨[], ((c + 12) :: p), some []⟩, ⟨[], ((c + 13) :: p), some []⟩, ⟨[], ((c + 14) :: p), some []⟩, ⟨[], ((c + 15) :: p), some []⟩, ⟨[], ((c + 16) :: p), some []⟩, ⟨[], ((c + 17) :: p), some []⟩, ⟨[], ((c + 18) :: p), some []⟩, ⟨[], ((c + 19) :: p), some []⟩, ⟨[], ((c + 20) :: p), some []⟩, ⟨[], ((c + 21) :: p), some []⟩, ⟨[], ((c + 22) :: p), some []⟩, ⟨[], ((c + 23) :: p), some []⟩, ⟨[], ((c + 24) :: p), some []⟩, ⟨[], ((c + 25) :: p), some []⟩, ⟨[], ((c + 26) :: p), some []⟩, ⟨[], ((c + 27) :: p), some []⟩, ⟨[], ((c + 28) :: p), some []⟩, ⟨[], ((c + 29) :: p), some []⟩, ⟨[], ((c + 30) :: p), some []⟩, ⟨[], ((c + 31) :: p), some []⟩, ⟨[], ((c + 32) :: p), some []⟩, ⟨[], ((c + 33) :: p), some []⟩, ⟨[], ((c + 34) :: p), some []⟩, ⟨[], ((c + 35) :: p), some []⟩, ⟨[], ((c + 36) :: p), some []⟩, ⟨[], ((c + 37) :: p), some []⟩, ⟨[], ((c + 38) :: p), some []⟩, ⟨[], ((c + 39) :: p), some []⟩, ⟨[], ((c + 40) :: p), some []⟩, ⟨[], ((c + 41) :: p), some []⟩, ⟨[], ((c + 42) :: p), some []⟩, ⟨[], ((c + 43) :: p), some []⟩, ⟨[], ((c + 44) :: p), some []⟩, ⟨[], ((c + 45) :: p), some []⟩, ⟨[], ((c + 46) :: p), some []⟩, ⟨[], ((c + 47) :: p), some []⟩, ⟨[], ((c + 48) :: p), some []⟩, ⟨[], ((c + 49) :: p), some []⟩, ⟨[], ((c + 50) :: p), some []⟩, ⟨[], ((c + 51) :: p), some []⟩, ⟨[], ((c + 52) :: p), some []⟩, ⟨[], ((c + 53) :: p), some []⟩, ⟨[], ((c + 54) :: p), some []⟩] ∧
  Q .ret [(2, (.int .i64 1))] H0 (c + 56))
  (vBin .gtr .num v7_4 (.int .i64 16) fun v12_24 =>
  vSel v12_24
  (clashFree [0, 1, 3, 7, 15, 31, 63, 127, 255, 511, 1023, 2047, 4095, 8191, 4095, 32767, 65535, 131071, 262143, 524287, 1048575, 2097151, 4194303, 8388607, 16777215, 33554431, 67108863, 134217727, 268435455, 536870911, 1073741823, 536870911, 2684354559, 8589934591, 17179869183, 536870911, 34896609279, 103616086015, 274877906943, 549755813887, 1099511627775, 2199023255551, 4398046511103, 2199023255551, 10995116277759, 2199023255551, 70368744177663, 140737488355327, 281474976710655] [⟨[], ((c + 6) :: p), some []⟩, ⟨[], ((c + 7) :: p), some []⟩, ⟨[], ((c + 8) :: p), some []⟩, ⟨[], ((c + 9) :: p), some []⟩, ⟨[], ((c + 10) :: p), some []⟩, ⟨[], ((c + 11) :: p), some []⟩, ⟨[], ((c + 12) :: p), some []⟩, ⟨[], ((c + 13) :: p), some []⟩, ⟨[], ((c + 14) :: p), some []⟩, ⟨[], ((c + 15) :: p), some []⟩, ⟨[], ((c + 16) :: p), some []⟩, ⟨[], ((c + 17) :: p), some []⟩, ⟨[], ((c + 18) :: p), some []⟩, ⟨[], ((c + 19) :: p), some []⟩, ⟨[], ((c + 20) :: p), some []⟩, ⟨[], ((c + 21) :: p), some []⟩, ⟨[], ((c + 22) :: p), some []⟩, ⟨[], ((c + 23) :: p), some []⟩, ⟨[], ((c + 24) :: p), some []⟩, ⟨[], ((c + 25) :: p), some []⟩, ⟨[], ((c + 26) :: p), some []⟩, ⟨[], ((c + 27) :: p), some []⟩, ⟨[], ((c + 28) :: p), some []⟩, ⟨[], ((c + 29) :: p), some []⟩, ⟨[], ((c + 30) :: p), some []⟩, ⟨[], ((c + 31) :: p), some []⟩, ⟨[], ((c + 32) :: p), some []⟩, ⟨[], ((c + 33) :: p), some []⟩, ⟨[], ((c + 34) :: p), some []⟩, ⟨[], ((c + 35) :: p), some []⟩, ⟨[], ((c + 36) :: p), some []⟩, ⟨[], ((c + 37) :: p), some []⟩, ⟨[], ((c + 38) :: p), some []⟩, ⟨[], ((c + 39) :: p), some []⟩, ⟨[], ((c + 40) :: p), some []⟩, ⟨[], ((c + 41) :: p), some []⟩, ⟨[], ((c + 42) :: p), some []⟩, ⟨[], ((c + 43) :: p), some []⟩, ⟨[], ((c + 44) :: p), some []⟩, ⟨[], ((c + 45) :: p), some []⟩, ⟨[], ((c + 46) :: p), some []⟩, ⟨[], ((c + 47) :: p), some []⟩, ⟨[], ((c + 48) :: p), some []⟩, ⟨[], ((c + 49) :: p), some []⟩, ⟨[], ((c + 50) :: p), some []⟩, ⟨[], ((c + 51) :: p), some []⟩, ⟨[], ((c + 52) :: p), some []⟩, ⟨[], ((c + 53) :: p), some []⟩, ⟨[], ((c + 54) :: p), some []⟩] ∧
  Q .ret [(2, (.int .i64 1))] H0 (c + 56))
  (vFA 0 (.ptr (c :: p) w0.length 0 0) fun v15_39 =>
  vLoad 1 false v15_39 H0 fun v16_40 f40 =>
  vBin .lss .num v16_40 (.int .i64 0) fun v17_41 =>
  vSel v17_41
  (clashFree [0, 1, 3, 7, 15, 31, 63, 127, 255, 511, 1023, 2047, 4095, 8191, 4095, 32767, 65535, 131071, 262143, 524287, 1048575, 2097151, 4194303, 8388607, 16777215, 33554431, 67108863, 134217727, 268435455, 536870911, 1073741823, 536870911, 2684354559, 8589934591, 17179869183, 536870911, 34896609279, 103616086015, 274877906943, 549755813887, 1099511627775, 2199023255551, 4398046511103, 2199023255551, 10995116277759, 2199023255551, 70368744177663, 140737488355327, 281474976710655] [⟨[], ((c + 6) :: p), some []⟩, ⟨[], ((c + 7) :: p), some []⟩, ⟨[], ((c + 8) :: p), some []⟩, ⟨[], ((c + 9) :: p), some []⟩, ⟨[], ((c + 10) :: p), some []⟩, ⟨[], ((c + 11) :: p), some []⟩, ⟨[], ((c + 12) :: p), some []⟩, ⟨[], ((c + 13) :: p), some []⟩, ⟨[], ((c + 14) :: p), f40⟩, ⟨[], ((c + 15) :: p), some []⟩, ⟨[], ((c + 16) :: p), some []⟩, ⟨[], ((c + 17) :: p), some []⟩, ⟨[], ((c + 18) :: p), some []⟩, ⟨[], ((c + 19) :: p), some []⟩, ⟨[], ((c + 20) :: p), some []⟩, ⟨[], ((c + 21) :: p), some []⟩, ⟨[], ((c + 22) :: p), some []⟩, ⟨[], ((c + 23) :: p), some []⟩, ⟨[], ((c + 24) :: p), some []⟩, ⟨[], ((c + 25) :: p), some []⟩, ⟨[], ((c + 26) :: p), some []⟩, ⟨[], ((c + 27) :: p), some []⟩, ⟨[], ((c + 28) :: p), some []⟩, ⟨[], ((c + 29) :: p), some []⟩, ⟨[], ((c + 30) :: p), some []⟩, ⟨[], ((c + 31) :: p), some []⟩, ⟨[], ((c + 32) :: p), some []⟩, ⟨[], ((c + 33) :: p), some []⟩, ⟨[], ((c + 34) :: p), some []⟩, ⟨[], ((c + 35) :: p), some []⟩, ⟨[], ((c + 36) :: p), some []⟩, ⟨[], ((c + 37) :: p), some []⟩, ⟨[], ((c + 38) :: p), some []⟩, ⟨[], ((c + 39) :: p), some []⟩, ⟨[], ((c + 40) :: p), some []⟩, ⟨[], ((c + 41) :: p), some []⟩, ⟨[], ((c + 42) :: p), some []⟩, ⟨[], ((c + 43) :: p), some []⟩, ⟨[], ((c + 44) :: p), some []⟩, ⟨[], ((c + 45) :: p), some []⟩, ⟨[], ((c + 46) :: p), some []⟩, ⟨[], ((c + 47) :: p), some []⟩, ⟨[], ((c + 48) :: p), some []⟩, ⟨[], ((c + 49) :: p), some []⟩, ⟨[], ((c + 50) :: p), some []⟩, ⟨[], ((c + 51) :: p), some []⟩, ⟨[], ((c + 52) :: p), some []⟩, ⟨[], ((c + 53) :: p), some []⟩, ⟨[], ((c + 54) :: p), some []⟩] ∧
  Q .ret [(2, (.int .i64 1))] H0 (c + 56))
  (vFA 0 (.ptr (c :: p) w0.length 0 0) fun v20_54 =>
  vLoad 1 false v20_54 H0 fun v21_55 f55 =>
  vBin .geq .num v21_55 v7_4 fun v23_57 =>
  vSel v23_57
  (clashFree [0, 1, 3, 7, 15, 31, 63, 127, 255, 511, 1023, 2047, 4095, 8191, 4095, 32767, 65535, 131071, 262143, 524287, 1048575, 2097151, 4194303, 8388607, 16777215, 33554431, 67108863, 134217727, 268435455, 536870911, 1073741823, 536870911, 2684354559, 8589934591, 17179869183, 536870911, 34896609279, 103616086015, 274877906943, 549755813887, 1099511627775, 2199023255551, 4398046511103, 2199023255551, 10995116277759, 2199023255551, 70368744177663, 140737488355327, 281474976710655] [⟨[], ((c + 6) :: p), some []⟩, ⟨[], ((c + 7) :: p), some []⟩, ⟨[], ((c + 8) :: p), some []⟩, ⟨[], ((c + 9) :: p), some []⟩, ⟨[], ((c + 10) :: p), some []⟩, ⟨[], ((c + 11) :: p), some []⟩, ⟨[], ((c + 12) :: p), some []⟩, ⟨[], ((c + 13) :: p), some []⟩, ⟨[], ((c + 14) :: p), f40⟩, ⟨[], ((c + 15) :: p), some []⟩, ⟨[], ((c + 16) :: p), some []⟩, ⟨[], ((c + 17) :: p), some []⟩, ⟨[], ((c + 18) :: p), some []⟩, ⟨[], ((c + 19) :: p), f55⟩, ⟨[], ((c + 20) :: p), some []⟩, ⟨[], ((c + 21) :: p), some []⟩, ⟨[], ((c + 22) :: p), some []⟩, ⟨[], ((c + 23) :: p), some []⟩, ⟨[], ((c + 24) :: p), some []⟩, ⟨[], ((c + 25) :: p), some []⟩, ⟨[], ((c + 26) :: p), some []⟩, ⟨[], ((c + 27) :: p), some []⟩, ⟨[], ((c + 28) :: p), some []⟩, ⟨[], ((c + 29) :: p), some []⟩, ⟨[], ((c + 30) :: p), some []⟩, ⟨[], ((c + 31) :: p), some []⟩, ⟨[], ((c + 32) :: p), some []⟩, ⟨[], ((c + 33) :: p), some []⟩, ⟨[], ((c + 34) :: p), some []⟩, ⟨[], ((c + 35) :: p), some []⟩, ⟨[], ((c + 36) :: p), some []⟩, ⟨[], ((c + 37) :: p), some []⟩, ⟨[], ((c + 38) :: p), some []⟩, ⟨[], ((c + 39) :: p), some []⟩, ⟨[], ((c + 40) :: p), some []⟩, ⟨[], ((c + 41) :: p), some []⟩, ⟨[], ((c + 42) :: p), some []⟩, ⟨[], ((c + 43) :: p), some []⟩, ⟨[], ((c + 44) :: p), some []⟩, ⟨[], ((c + 45) :: p), some []⟩, ⟨[], ((c + 46) :: p), some []⟩, ⟨[], ((c + 47) :: p), some []⟩, ⟨[], ((c + 48) :: p), some []⟩, ⟨[], ((c + 49) :: p), some []⟩, ⟨[], ((c + 50) :: p), some []⟩, ⟨[], ((c + 51) :: p), some []⟩, ⟨[], ((c + 52) :: p), some []⟩, ⟨[], ((c + 53) :: p), some []⟩, ⟨[], ((c + 54) :: p), some []⟩] ∧
  Q .ret [(2, (.int .i64 1))] H0 (c + 56))
  (vFA 1 (.ptr (c :: p) w0.length 0 0) fun v26_68 =>
  vLoad 1 false v26_68 H0 fun v27_69 f69 =>
  vBin .lss .num v27_69 (.int .i64 1) fun v28_70 =>
  vSel v28_70
  (clashFree [0, 1, 3, 7, 15, 31, 63, 127, 255, 511, 1023, 2047, 4095, 8191, 4095, 32767, 65535, 131071, 262143, 524287, 1048575, 2097151, 4194303, 8388607, 16777215, 33554431, 67108863, 134217727, 268435455, 536870911, 1073741823, 536870911, 2684354559, 8589934591, 17179869183, 536870911, 34896609279, 103616086015, 274877906943, 549755813887, 1099511627775, 2199023255551, 4398046511103, 2199023255551, 10995116277759, 2199023255551, 70368744177663, 140737488355327, 281474976710655] [⟨[], ((c + 6) :: p), some []⟩, ⟨[], ((c + 7) :: p), some []⟩, ⟨[], ((c + 8) :: p), some []⟩, ⟨[], ((c + 9) :: p), some []⟩, ⟨[], ((c + 10) :: p), some []⟩, ⟨[], ((c + 11) :: p), some []⟩, ⟨[], ((c + 12) :: p), some []⟩, ⟨[], ((c + 13) :: p), some []⟩, ⟨[], ((c + 14) :: p), f40⟩, ⟨[], ((c + 15) :: p), some []⟩, ⟨[], ((c + 16) :: p), some []⟩, ⟨[], ((c + 17) :: p), some []⟩, ⟨[], ((c + 18) :: p), some []⟩, ⟨[], ((c + 19) :: p), f55⟩, ⟨[], ((c + 20) :: p), some []⟩, ⟨[], ((c + 21) :: p), some []⟩, ⟨[], ((c + 22) :: p), some []⟩, ⟨[], ((c + 23) :: p), some []⟩, ⟨[], ((c + 24) :: p), some []⟩, ⟨[], ((c + 25) :: p), f69⟩, ⟨[], ((c + 26) :: p), some []⟩, ⟨[], ((c + 27) :: p), some []⟩, ⟨[], ((c + 28) :: p), some []⟩, ⟨[], ((c + 29) :: p), some []⟩, ⟨[], ((c + 30) :: p), some []⟩, ⟨[], ((c + 31) :: p), some []⟩, ⟨[], ((c + 32) :: p), some []⟩, ⟨[], ((c + 33) :: p), some []⟩, ⟨[], ((c + 34) :: p), some []⟩, ⟨[], ((c + 35) :: p), some []⟩, ⟨[], ((c + 36) :: p), some []⟩, ⟨[], ((c + 37) :: p), some []⟩, ⟨[], ((c + 38) :: p), some []⟩, ⟨[], ((c + 39) :: p), some []⟩, ⟨[], ((c + 40) :: p), some []⟩, ⟨[], ((c + 41) :: p), some []⟩, ⟨[], ((c + 42) :: p), some []⟩, ⟨[], ((c + 43) :: p), some []⟩, ⟨[], ((c + 44) :: p), some []⟩, ⟨[], ((c + 45) :: p), some []⟩, ⟨[], ((c + 46) :: p), some []⟩, ⟨[], ((c + 47) :: p), some []⟩, ⟨[], ((c + 48) :: p), some []⟩, ⟨[], ((c + 49) :: p), some []⟩, ⟨[], ((c + 50) :: p), some []⟩, ⟨[], ((c + 51) :: p), some []⟩, ⟨[], ((c + 52) :: p), some []⟩, ⟨[], ((c + 53) :: p), some []⟩, ⟨[], ((c + 54) :: p), some []⟩] ∧
  Q .ret [(2, (.int .i64 1))] H0 (c + 56))
  (vFA 1 (.ptr (c :: p) w0.length 0 0) fun v31_79 =>
  vLoad 1 false v31_79 H0 fun v32_80 f80 =>
  vCall P 52 [v32_80] H0 ((c + 31) :: p) fun v33_81 H81 l81 f81 =>
  vNot v33_81 fun v34_82 =>
  vSel v34_82
  (clashFree [0, 1, 3, 7, 15, 31, 63, 127, 255, 511, 1023, 2047, 4095, 8191, 4095, 32767, 65535, 131071, 262143, 524287, 1048575, 2097151, 4194303, 8388607, 16777215, 33554431, 67108863, 134217727, 268435455, 536870911, 1073741823, 536870911, 2684354559, 8589934591, 17179869183, 536870911, 34896609279, 103616086015, 274877906943, 549755813887, 1099511627775, 2199023255551, 4398046511103, 2199023255551, 10995116277759, 2199023255551, 70368744177663, 140737488355327, 281474976710655] [⟨[], ((c + 6) :: p), some []⟩, ⟨[], ((c + 7) :: p), some []⟩, ⟨[], ((c + 8) :: p), some []⟩, ⟨[], ((c + 9) :: p), some []⟩, ⟨[], ((c + 10) :: p), some []⟩, ⟨[], ((c + 11) :: p), some []⟩, ⟨[], ((c + 12) :: p), some []⟩, ⟨[], ((c + 13) :: p), some []⟩, ⟨[], ((c + 14) :: p), f40⟩, ⟨[], ((c + 15) :: p), some []⟩, ⟨[], ((c + 16) :: p), some []⟩, ⟨[], ((c + 17) :: p), some []⟩, ⟨[], ((c + 18) :: p), some []⟩, ⟨[], ((c + 19) :: p), f55⟩, ⟨[], ((c + 20) :: p), some []⟩, ⟨[], ((c + 21) :: p), some []⟩, ⟨[], ((c + 22) :: p), some []⟩, ⟨[], ((c + 23) :: p), some []⟩, ⟨[], ((c + 24) :: p), some []⟩, ⟨[], ((c + 25) :: p), f69⟩, ⟨[], ((c + 26) :: p), some []⟩, ⟨[], ((c + 27) :: p), some []⟩, ⟨[], ((c + 28) :: p), some []⟩, ⟨[], ((c + 29) :: p), some []⟩, ⟨[], ((c + 30) :: p), f80⟩, ⟨l81, ((c + 31) :: p), f81⟩, ⟨[], ((c + 32) :: p), some []⟩, ⟨[], ((c + 33) :: p), some []⟩, ⟨[], ((c + 34) :: p), some []⟩, ⟨[], ((c + 35) :: p), some []⟩, ⟨[], ((c + 36) :: p), some []⟩, ⟨[], ((c + 37) :: p), some []⟩, ⟨[], ((c + 38) :: p), some []⟩, ⟨[], ((c + 39) :: p), some []⟩, ⟨[], ((c + 40) :: p), some []⟩, ⟨[], ((c + 41) :: p), some []⟩, ⟨[], ((c + 42) :: p), some []⟩, ⟨[], ((c + 43) :: p), some []⟩, ⟨[], ((c + 44) :: p), some []⟩, ⟨[], ((c + 45) :: p), some []⟩, ⟨[], ((c + 46) :: p), some []⟩, ⟨[], ((c + 47) :: p), some []⟩, ⟨[], ((c + 48) :: p), some []⟩, ⟨[], ((c + 49) :: p), some []⟩, ⟨[], ((c + 50) :: p), some []⟩, ⟨[], ((c + 51) :: p), some []⟩, ⟨[], ((c + 52) :: p), some []⟩, ⟨[], ((c + 53) :: p), some []⟩, ⟨[], ((c + 54) :: p), some []⟩] ∧
  Q .ret [(2, (.int .i64 1))] H81 (c + 56))
  (vFA 2 (.ptr (c :: p) w0.length 0 0) fun v37_89 =>
  vLoad 1 false v37_89 H81 fun v38_90 f90 =>
  vFA 0 (.ptr (c :: p) w0.length 0 0) fun v39_91 =>
  vLoad 1 false v39_91 H81 fun v40_92 f92 =>
  vIx 1 v38_90 v40_92 fun v41_93 =>
  vLoad 1 false v41_93 H81 fun v42_94 f94 =>
  vFA 1 (.ptr (c :: p) w0.length 0 0) fun v43_95 =>
  vLoad 1 false v43_95 H81 fun v44_96 f96 =>
  vBin .sub .num v44_96 (.int .i64 1) fun v45_97 =>
  vBin .neq .num v42_94 v45_97 fun v46_98 =>
  vSel v46_98
  (clashFree [0, 1, 3, 7, 15, 31, 63, 127, 255, 511, 1023, 2047, 4095, 8191, 4095, 32767, 65535, 131071, 262143, 524287, 1048575, 2097151, 4194303, 8388607, 16777215, 33554431, 67108863, 134217727, 268435455, 536870911, 1073741823, 536870911, 2684354559, 8589934591, 17179869183, 536870911, 34896609279, 103616086015, 274877906943, 549755813887, 1099511627775, 2199023255551, 4398046511103, 2199023255551, 10995116277759, 2199023255551, 70368744177663, 140737488355327, 281474976710655] [⟨[], ((c + 6) :: p), some []⟩, ⟨[], ((c + 7) :: p), some []⟩, ⟨[], ((c + 8) :: p), some []⟩, ⟨[], ((c + 9) :: p), some []⟩, ⟨[], ((c + 10) :: p), some []⟩, ⟨[], ((c + 11) :: p), some []⟩, ⟨[], ((c + 12) :: p), some []⟩, ⟨[], ((c + 13) :: p), some []⟩, ⟨[], ((c + 14) :: p), f40⟩, ⟨[], ((c + 15) :: p), some []⟩, ⟨[], ((c + 16) :: p), some []⟩, ⟨[], ((c + 17) :: p), some []⟩, ⟨[], ((c + 18) :: p), some []⟩, ⟨[], ((c + 19) :: p), f55⟩, ⟨[], ((c + 20) :: p), some []⟩, ⟨[], ((c + 21) :: p), some []⟩, ⟨[], ((c + 22) :: p), some []⟩, ⟨[], ((c + 23) :: p), some []⟩, ⟨[], ((c + 24) :: p), some []⟩, ⟨[], ((c + 25) :: p), f69⟩, ⟨[], ((c + 26) :: p), some []⟩, ⟨[], ((c + 27) :: p), some []⟩, ⟨[], ((c + 28) :: p), some []⟩, ⟨[], ((c + 29) :: p), some []⟩, ⟨[], ((c + 30) :: p), f80⟩, ⟨l81, ((c + 31) :: p), f81⟩, ⟨[], ((c + 32) :: p), some []⟩, ⟨[], ((c + 33) :: p), some []⟩, ⟨[], ((c + 34) :: p), some []⟩, ⟨[], ((c + 35) :: p), some []⟩, ⟨[], ((c + 36) :: p), f90⟩, ⟨[], ((c + 37) :: p), some []⟩, ⟨[], ((c + 38) :: p), f92⟩, ⟨[], ((c + 39) :: p), some []⟩, ⟨[], ((c + 40) :: p), f94⟩, ⟨[], ((c + 41) :: p), some []⟩, ⟨[], ((c + 42) :: p), f96⟩, ⟨[], ((c + 43) :: p), some []⟩, ⟨[], ((c + 44) :: p), some []⟩, ⟨[], ((c + 45) :: p), some []⟩, ⟨[], ((c + 46) :: p), some []⟩, ⟨[], ((c + 47) :: p), some []⟩, ⟨[], ((c + 48) :: p), some []⟩, ⟨[], ((c + 49) :: p), some []⟩, ⟨[], ((c + 50) :: p), some []⟩, ⟨[], ((c + 51) :: p), some []⟩, ⟨[], ((c + 52) :: p), some []⟩, ⟨[], ((c + 53) :: p), some []⟩, ⟨[], ((c + 54) :: p), some []⟩] ∧
  Q .ret [(2, (.int .i64 1))] H81 (c + 56))
  (vFA 3 (.ptr (c :: p) w0.length 0 0) fun v49_103 =>
  vLoad 7 true v49_103 H81 fun v50_104 f104 =>
  vFA 0 (.ptr (c :: p) w0.length 0 0) fun v51_105 =>
  vLoad 1 false v51_105 H81 fun v52_106 f106 =>
  vCall P 53 [v50_104, v52_106, v7_4] H81 ((c + 52) :: p) fun v54_108 H108 l108 f108 =>
  vNot v54_108 fun v55_109 =>
  clashFree [0, 1, 3, 7, 15, 31, 63, 127, 255, 511, 1023, 2047, 4095, 8191, 4095, 32767, 65535, 131071, 262143, 524287, 1048575, 2097151, 4194303, 8388607, 16777215, 33554431, 67108863, 134217727, 268435455, 536870911, 1073741823, 536870911, 2684354559, 8589934591, 17179869183, 536870911, 34896609279, 103616086015, 274877906943, 549755813887, 1099511627775, 2199023255551, 4398046511103, 2199023255551, 10995116277759, 2199023255551, 70368744177663, 140737488355327, 281474976710655] [⟨[], ((c + 6) :: p), some []⟩, ⟨[], ((c + 7) :: p), some []⟩, ⟨[], ((c + 8) :: p), some []⟩, ⟨[], ((c + 9) :: p), some []⟩, ⟨[], ((c + 10) :: p), some []⟩, ⟨[], ((c + 11) :: p), some []⟩, ⟨[], ((c + 12) :: p), some []⟩, ⟨[], ((c + 13) :: p), some []⟩, ⟨[], ((c + 14) :: p), f40⟩, ⟨[], ((c + 15) :: p), some []⟩, ⟨[], ((c + 16) :: p), some []⟩, ⟨[], ((c + 17) :: p), some []⟩, ⟨[], ((c + 18) :: p), some []⟩, ⟨[], ((c + 19) :: p), f55⟩, ⟨[], ((c + 20) :: p), some []⟩, ⟨[], ((c + 21) :: p), some []⟩, ⟨[], ((c + 22) :: p), some []⟩, ⟨[], ((c + 23) :: p), some []⟩, ⟨[], ((c + 24) :: p), some []⟩, ⟨[], ((c + 25) :: p), f69⟩, ⟨[], ((c + 26) :: p), some []⟩, ⟨[], ((c + 27) :: p), some []⟩, ⟨[], ((c + 28) :: p), some []⟩, ⟨[], ((c + 29) :: p), some []⟩, ⟨[], ((c + 30) :: p), f80⟩, ⟨l81, ((c + 31) :: p), f81⟩, ⟨[], ((c + 32) :: p), some []⟩, ⟨[], ((c + 33) :: p), some []⟩, ⟨[], ((c + 34) :: p), some []⟩, ⟨[], ((c + 35) :: p), some []⟩, ⟨[], ((c + 36) :: p), f90⟩, ⟨[], ((c + 37) :: p), some []⟩, ⟨[], ((c + 38) :: p), f92⟩, ⟨[], ((c + 39) :: p), some []⟩, ⟨[], ((c + 40) :: p), f94⟩, ⟨[], ((c + 41) :: p), some []⟩, ⟨[], ((c + 42) :: p), f96⟩, ⟨[], ((c + 43) :: p), some []⟩, ⟨[], ((c + 44) :: p), some []⟩, ⟨[], ((c + 45) :: p), some []⟩, ⟨[], ((c + 46) :: p), some []⟩, ⟨[], ((c + 47) :: p), some []⟩, ⟨[], ((c + 48) :: p), f104⟩, ⟨[], ((c + 49) :: p), some []⟩, ⟨[], ((c + 50) :: p), f106⟩, ⟨[], ((c + 51) :: p), some []⟩, ⟨l108, ((c + 52) :: p), f108⟩, ⟨[], ((c + 53) :: p), some []⟩, ⟨[], ((c + 54) :: p), some []⟩] ∧
  vSel v55_109
  (Q .ret [(2, (.int .i64 1))] H108 (c + 56))
  (vc P p l27_1 (q27_0 P p Q) [(1, (.ptr (c :: p) w0.length 0 0)), (3, v7_4), (4, (.int .i64 0))] H108 (c + 56)))))))))) (upd [((c :: p), some (.rows w0.length [w0]))] H)
theorem vt27 (P : Program) (p : Lab) (Q : VPost) (x0 : AV) (H : Heap) (c : Nat) : vc P p c27.body Q [(0, x0)] H c = V27 P p Q x0 H c := by kernel_rfl
def V27_1 (P : Program) (p : Lab) (Q : VPost) (x1 x3 x4 : AV) (H : Heap) (c : Nat) : Prop :=
  vBin .lss .num x4 x3 fun v59_115 =>
  vSel v59_115
  (vFA 2 x1 fun v62_116 =>
  vLoad 1 false v62_116 H fun v63_117 _ =>
  vIx 1 v63_117 x4 fun v65_119 =>
  vLoad 1 false v65_119 H fun v66_120 _ =>
  vCall P 52 [v66_120] H ((c + 8) :: p) fun v67_121 H121 _ _ =>
  vNot v67_121 fun v68_122 =>
  vSel v68_122
  (Q .ret [(2, (.int .i64 1))] H121 (c + 11))
  (vBin .add .num x4 (.int .i64 1) fun v61_125 =>
  Q .normal [(1, x1), (3, x3), (4, v61_125)] H121 (c + 13)))
  (Q (.exit 0) [(1, x1), (3, x3), (4, x4), (59, v59_115)] H (c + 3))
theorem vt27_1 (P : Program) (p : Lab) (Q : VPost) (x1 x3 x4 : AV) (H : Heap) (c : Nat) : vc P p b27_1 Q [(1, x1), (3, x3), (4, x4)] H c = V27_1 P p Q x1 x3 x4 H c := by kernel_rfl
theorem q27_0_e0 (P : Program) (p : Lab) (Q : VPost) (r : RL) (H : Heap) (c : Nat) : q27_0 P p Q (.exit 0) r H c = (vc P p r27_2 Q r H c) := rfl
def V27_2 (P : Program) (p : Lab) (Q : VPost) (x1 x3 x4 x59 : AV) (H : Heap) (c : Nat) : Prop :=
  Q .ret [(2, (.int .i64 0))] H (c + 1)
theorem vt27_2 (P : Program) (p : Lab) (Q : VPost) (x1 x3 x4 x59 : AV) (H : Heap) (c : Nat) : vc P p r27_2 Q [(1, x1), (3, x3), (4, x4), (59, x59)] H c = V27_2 P p Q x1 x3 x4 x59 H c := by kernel_rfl


/-- duet/duetref04.clock -/
def c52 : AFun := ⟨1, 9, [.tmp 2],
  (.seq (.region [⟨(some 2), none, .move, [.c (.bool false)]⟩] none [0])
  (.seq (.region [⟨(some 3), none, .move, [.t 0]⟩, ⟨(some 4), none, (.bin .geq .num), [.t 3, .c (.int .i64 0)]⟩, ⟨(some 5), none, .move, [.t 4]⟩, ⟨(some 6), (some (5, true)), .move, [.t 0]⟩, ⟨(some 7), (some (5, true)), (.bin .leq .num), [.t 6, .c (.int .i64 4294967295)]⟩, ⟨(some 8), none, .pick, [.t 5, .t 7, .c (.bool false)]⟩, ⟨(some 2), none, .move, [.t 8]⟩] none [2])
  .ret))⟩
theorem ok52 : FunOk Try.prog 52 c52 := ⟨⟨Try.f52, _, Try.func52, rfl, by kernel_rfl, by kernel_rfl, by kernel_rfl, by kernel_rfl⟩, by decide⟩
theorem res52 : c52.res = [.tmp 2] := rfl
def V52 (P : Program) (p : Lab) (Q : VPost) (x0 : AV) (H : Heap) (c : Nat) : Prop :=
  vBin .geq .num x0 (.int .i64 0) fun v4_2 =>
  vSel v4_2
  (vBin .leq .num x0 (.int .i64 4294967295) fun v7_5 =>
  Q .ret [(2, v7_5)] H (c + 8))
  (Q .ret [(2, (.bool false))] H (c + 8))
theorem vt52 (P : Program) (p : Lab) (Q : VPost) (x0 : AV) (H : Heap) (c : Nat) : vc P p c52.body Q [(0, x0)] H c = V52 P p Q x0 H c := by kernel_rfl


/-- duet/duetref04.op -/
def c53 : AFun := ⟨3, 122, [.tmp 6],
  (.seq (.region [⟨(some 3), none, .box, [.t 0]⟩, ⟨(some 6), none, .move, [.c (.bool false)]⟩] none [1, 2, 3])
  (.seq (.region [⟨(some 8), none, (.build [(.int .i64 0), (.int .i64 0)] []), []⟩, ⟨(some 7), none, (.alloc [(.int .i64 0), (.int .i64 0)]), []⟩, ⟨none, none, (.store 2), [.t 7, .t 8]⟩] none [1, 2, 3, 7])
  (.seq (.seq (.region [⟨(some 9), none, (.fieldAddr 1), [.t 3]⟩, ⟨(some 10), none, (.load 1 false), [.t 9]⟩, ⟨(some 11), none, .call, [.c (.fn (.func 52) [] []), .t 10]⟩, ⟨(some 12), none, (.un .not), [.t 11]⟩] none [1, 2, 3, 7, 12])
  (.cond (.t 12) (.seq (.region [⟨(some 6), none, .move, [.c (.bool false)]⟩] none [6])
  .ret)
  .skip))
  (.seq (.seq (.region [⟨(some 13), none, (.fieldAddr 0), [.t 3]⟩, ⟨(some 14), none, (.load 1 false), [.t 13]⟩] none [1, 2, 3, 7, 14])
  (.block 0 (.seq (.region [⟨(some 16), none, (.bin .eql .num), [.t 14, .c (.int .i64 1)]⟩, ⟨(some 15), none, .move, [.t 16]⟩] none [1, 2, 3, 7, 14, 15])
  (.cond (.t 15) (.seq (.region [⟨(some 17), none, (.fieldAddr 2), [.t 3]⟩, ⟨(some 18), none, (.load 2 true), [.t 17]⟩, ⟨(some 19), none, .move, [.t 2]⟩, ⟨(some 20), none, .call, [.c (.fn (.func 77) [] []), .t 18, .t 19]⟩, ⟨(some 21), none, .move, [.t 20]⟩, ⟨(some 22), (some (21, true)), (.fieldAddr 2), [.t 3]⟩, ⟨(some 23), (some (21, true)), (.fieldAddr 1), [.t 22]⟩, ⟨(some 24), (some (21, true)), (.load 1 false), [.t 23]⟩, ⟨(some 25), (some (21, true)), .move, [.t 1]⟩, ⟨(some 26), (some (21, true)), (.bin .eql .num), [.t 24, .t 25]⟩, ⟨(some 27), none, .pick, [.t 21, .t 26, .c (.bool false)]⟩, ⟨(some 28), none, .move, [.t 27]⟩, ⟨(some 29), (some (28, true)), (.fieldAddr 4), [.t 3]⟩, ⟨(some 30), (some (28, true)), (.load 2 true), [.t 29]⟩, ⟨(some 31), (some (28, true)), (.load 2 true), [.t 7]⟩, ⟨(some 32), (some (28, true)), (.eqs .eql [.int, .int]), [.t 30, .t 31]⟩, ⟨(some 33), (some (28, true)), .move, [.t 32]⟩, ⟨(some 34), (some (33, false)), (.fieldAddr 4), [.t 3]⟩, ⟨(some 35), (some (33, false)), (.load 2 true), [.t 34]⟩, ⟨(some 36), (some (33, false)), .move, [.t 2]⟩, ⟨(some 37), (some (33, false)), .call, [.c (.fn (.func 77) [] []), .t 35, .t 36]⟩, ⟨(some 38), (some (33, false)), .move, [.t 37]⟩, ⟨(some 39), (some (38, true)), (.fieldAddr 4), [.t 3]⟩, ⟨(some 40), (some (38, true)), (.fieldAddr 0), [.t 39]⟩, ⟨(some 41), (some (38, true)), (.load 1 false), [.t 40]⟩, ⟨(some 42), (some (38, true)), (.fieldAddr 2), [.t 3]⟩, ⟨(some 43), (some (38, true)), (.fieldAddr 0), [.t 42]⟩, ⟨(some 44), (some (38, true)), (.load 1 false), [.t 43]⟩, ⟨(some 45), (some (38, true)), (.bin .lss .num), [.t 41, .t 44]⟩, ⟨(some 46), (some (33, false)), .pick, [.t 38, .t 45, .c (.bool false)]⟩, ⟨(some 47), (some (28, true)), .pick, [.t 33, .c (.bool true), .t 46]⟩, ⟨(some 48), none, .pick, [.t 28, .t 47, .c (.bool false)]⟩, ⟨(some 49), none, .move, [.t 48]⟩, ⟨(some 50), (some (49, true)), (.fieldAddr 6), [.t 3]⟩, ⟨(some 51), (some (49, true)), (.load 1 false), [.t 50]⟩, ⟨(some 52), (some (49, true)), .call, [.c (.fn (.func 78) [] []), .t 51]⟩, ⟨(some 53), none, .pick, [.t 49, .t 52, .c (.bool false)]⟩, ⟨(some 6), none, .move, [.t 53]⟩] none [6])
  .ret)
  (.seq (.seq (.region [⟨(some 55), none, (.bin .eql .num), [.t 14, .c (.int .i64 2)]⟩, ⟨(some 54), none, .move, [.t 55]⟩] none [1, 2, 3, 7, 14, 54])
  (.cond (.t 54) .skip
  (.seq (.region [⟨(some 56), none, (.bin .eql .num), [.t 14, .c (.int .i64 3)]⟩, ⟨(some 54), none, .move, [.t 56]⟩] none [1, 2, 3, 7, 14, 54])
  (.cond (.t 54) .skip
  (.seq (.region [⟨(some 57), none, (.bin .eql .num), [.t 14, .c (.int .i64 4)]⟩, ⟨(some 54), none, .move, [.t 57]⟩] none [1, 2, 3, 7, 14, 54])
  (.cond (.t 54) .skip
  (.seq (.region [⟨(some 58), none, (.bin .eql .num), [.t 14, .c (.int .i64 7)]⟩, ⟨(some 54), none, .move, [.t 58]⟩] none [1, 2, 3, 7, 14, 54])
  (.cond (.t 54) .skip
  (.region [⟨(some 59), none, (.bin .eql .num), [.t 14, .c (.int .i64 8)]⟩, ⟨(some 54), none, .move, [.t 59]⟩] none [1, 2, 3, 7, 14, 54])))))))))
  (.cond (.t 54) (.seq (.region [⟨(some 60), none, (.fieldAddr 4), [.t 3]⟩, ⟨(some 61), none, (.load 2 true), [.t 60]⟩, ⟨(some 62), none, .move, [.t 2]⟩, ⟨(some 63), none, .call, [.c (.fn (.func 77) [] []), .t 61, .t 62]⟩, ⟨(some 64), none, .move, [.t 63]⟩, ⟨(some 65), (some (64, true)), (.fieldAddr 2), [.t 3]⟩, ⟨(some 66), (some (64, true)), (.load 2 true), [.t 65]⟩, ⟨(some 67), (some (64, true)), (.load 2 true), [.t 7]⟩, ⟨(some 68), (some (64, true)), (.eqs .eql [.int, .int]), [.t 66, .t 67]⟩, ⟨(some 69), none, .pick, [.t 64, .t 68, .c (.bool false)]⟩, ⟨(some 70), none, .move, [.t 69]⟩, ⟨(some 71), (some (70, true)), (.fieldAddr 6), [.t 3]⟩, ⟨(some 72), (some (70, true)), (.load 1 false), [.t 71]⟩, ⟨(some 73), (some (70, true)), (.bin .eql .num), [.t 72, .c (.int .i64 0)]⟩, ⟨(some 74), none, .pick, [.t 70, .t 73, .c (.bool false)]⟩, ⟨(some 6), none, .move, [.t 74]⟩] none [6])
  .ret)
  (.seq (.region [⟨(some 76), none, (.bin .eql .num), [.t 14, .c (.int .i64 5)]⟩, ⟨(some 75), none, .move, [.t 76]⟩] none [1, 2, 3, 7, 14, 75])
  (.cond (.t 75) (.seq (.region [⟨(some 77), none, (.fieldAddr 4), [.t 3]⟩, ⟨(some 78), none, (.load 2 true), [.t 77]⟩, ⟨(some 79), none, (.load 2 true), [.t 7]⟩, ⟨(some 80), none, (.eqs .eql [.int, .int]), [.t 78, .t 79]⟩, ⟨(some 81), none, .move, [.t 80]⟩, ⟨(some 82), (some (81, false)), (.fieldAddr 4), [.t 3]⟩, ⟨(some 83), (some (81, false)), (.load 2 true), [.t 82]⟩, ⟨(some 84), (some (81, false)), .move, [.t 2]⟩, ⟨(some 85), (some (81, false)), .call, [.c (.fn (.func 77) [] []), .t 83, .t 84]⟩, ⟨(some 86), none, .pick, [.t 81, .c (.bool true), .t 85]⟩, ⟨(some 87), none, .move, [.t 86]⟩, ⟨(some 88), (some (87, true)), (.fieldAddr 2), [.t 3]⟩, ⟨(some 89), (some (87, true)), (.load 2 true), [.t 88]⟩, ⟨(some 90), (some (87, true)), (.load 2 true), [.t 7]⟩, ⟨(some 91), (some (87, true)), (.eqs .eql [.int, .int]), [.t 89, .t 90]⟩, ⟨(some 92), none, .pick, [.t 87, .t 91, .c (.bool false)]⟩, ⟨(some 93), none, .move, [.t 92]⟩, ⟨(some 94), (some (93, true)), (.fieldAddr 6), [.t 3]⟩, ⟨(some 95), (some (93, true)), (.load 1 false), [.t 94]⟩, ⟨(some 96), (some (93, true)), (.bin .eql .num), [.t 95, .c (.int .i64 0)]⟩, ⟨(some 97), none, .pick, [.t 93, .t 96, .c (.bool false)]⟩, ⟨(some 6), none, .move, [.t 97]⟩] none [6])
  .ret)
  (.seq (.region [⟨(some 99), none, (.bin .eql .num), [.t 14, .c (.int .i64 6)]⟩, ⟨(some 98), none, .move, [.t 99]⟩] none [1, 2, 3, 7, 98])
  (.cond (.t 98) (.seq (.region [⟨(some 100), none, (.fieldAddr 2), [.t 3]⟩, ⟨(some 101), none, (.load 2 true), [.t 100]⟩, ⟨(some 102), none, .move, [.t 2]⟩, ⟨(some 103), none, .call, [.c (.fn (.func 77) [] []), .t 101, .t 102]⟩, ⟨(some 104), none, .move, [.t 103]⟩, ⟨(some 105), (some (104, true)), (.fieldAddr 2), [.t 3]⟩, ⟨(some 106), (some (104, true)), (.fieldAddr 1), [.t 105]⟩, ⟨(some 107), (some (104, true)), (.load 1 false), [.t 106]⟩, ⟨(some 108), (some (104, true)), .move, [.t 1]⟩, ⟨(some 109), (some (104, true)), (.bin .eql .num), [.t 107, .t 108]⟩, ⟨(some 110), none, .pick, [.t 104, .t 109, .c (.bool false)]⟩, ⟨(some 111), none, .move, [.t 110]⟩, ⟨(some 112), (some (111, true)), (.fieldAddr 4), [.t 3]⟩, ⟨(some 113), (some (111, true)), (.load 2 true), [.t 112]⟩, ⟨(some 114), (some (111, true)), (.load 2 true), [.t 7]⟩, ⟨(some 115), (some (111, true)), (.eqs .eql [.int, .int]), [.t 113, .t 114]⟩, ⟨(some 116), none, .pick, [.t 111, .t 115, .c (.bool false)]⟩, ⟨(some 117), none, .move, [.t 116]⟩, ⟨(some 118), (some (117, true)), (.fieldAddr 6), [.t 3]⟩, ⟨(some 119), (some (117, true)), (.load 1 false), [.t 118]⟩, ⟨(some 120), (some (117, true)), (.bin .eql .num), [.t 119, .c (.int .i64 0)]⟩, ⟨(some 121), none, .pick, [.t 117, .t 120, .c (.bool false)]⟩, ⟨(some 6), none, .move, [.t 121]⟩] none [6])
  .ret)
  .skip))))))))))
  (.seq (.region [⟨(some 6), none, .move, [.c (.bool false)]⟩] none [6])
  .ret)))))⟩
theorem ok53 : FunOk Try.prog 53 c53 := ⟨⟨Try.f53, _, Try.func53, rfl, by kernel_rfl, by kernel_rfl, by kernel_rfl, by kernel_rfl⟩, by decide⟩
theorem res53 : c53.res = [.tmp 6] := rfl
def V53 (P : Program) (p : Lab) (Q : VPost) (x0 x1 x2 : AV) (H : Heap) (c : Nat) : Prop :=
  vBox x0 fun w0 =>
  (fun (H0 : Heap) =>
  vBuild [(.int .i64 0), (.int .i64 0)] [] [] fun v8_2 =>
  (fun (H3 : Heap) =>
  vGen (.store 2) [(.ptr ((c + 3) :: p) 2 0 0), v8_2] H3 ((c + 4) :: p) fun v_4 H4 _ _ =>
  vFA 1 (.ptr (c :: p) w0.length 0 0) fun v9_5 =>
  vLoad 1 false v9_5 H4 fun v10_6 _ =>
  vCall P 52 [v10_6] H4 ((c + 7) :: p) fun v11_7 H7 _ _ =>
  vNot v11_7 fun v12_8 =>
  vSel v12_8
  (Q .ret [(6, (.bool false))] H7 (c + 10))
  (vFA 0 (.ptr (c :: p) w0.length 0 0) fun v13_10 =>
  vLoad 1 false v13_10 H7 fun v14_11 _ =>
  vBin .eql .num v14_11 (.int .i64 1) fun v16_12 =>
  vSel v16_12
  (vFA 2 (.ptr (c :: p) w0.length 0 0) fun v17_14 =>
  vLoad 2 true v17_14 H7 fun v18_15 _ =>
  vCall P 77 [v18_15, x2] H7 ((c + 16) :: p) fun v20_17 H17 _ _ =>
  vSel v20_17
  (vFA 2 (.ptr (c :: p) w0.length 0 0) fun v22_19 =>
  vFA 1 v22_19 fun v23_20 =>
  vLoad 1 false v23_20 H17 fun v24_21 _ =>
  vBin .eql .num v24_21 x1 fun v26_23 =>
  vSel v26_23
  (vFA 4 (.ptr (c :: p) w0.length 0 0) fun v29_26 =>
  vLoad 2 true v29_26 H17 fun v30_27 _ =>
  vLoad 2 true (.ptr ((c + 3) :: p) 2 0 0) H17 fun v31_28 _ =>
  vGen (.eqs .eql [.int, .int]) [v30_27, v31_28] H17 ((c + 28) :: p) fun v32_29 H29 _ _ =>
  vSel v32_29
  (vFA 6 (.ptr (c :: p) w0.length 0 0) fun v50_34 =>
  vLoad 1 false v50_34 H29 fun v51_35 _ =>
  vCall P 78 [v51_35] H29 ((c + 48) :: p) fun v52_36 H36 _ _ =>
  Q .ret [(6, v52_36)] H36 (c + 51))
  (vFA 4 (.ptr (c :: p) w0.length 0 0) fun v34_39 =>
  vLoad 2 true v34_39 H29 fun v35_40 _ =>
  vCall P 77 [v35_40, x2] H29 ((c + 33) :: p) fun v37_42 H42 _ _ =>
  vSel v37_42
  (vFA 4 (.ptr (c :: p) w0.length 0 0) fun v39_44 =>
  vFA 0 v39_44 fun v40_45 =>
  vLoad 1 false v40_45 H42 fun v41_46 _ =>
  vFA 2 (.ptr (c :: p) w0.length 0 0) fun v42_47 =>
  vFA 0 v42_47 fun v43_48 =>
  vLoad 1 false v43_48 H42 fun v44_49 _ =>
  vBin .lss .num v41_46 v44_49 fun v45_50 =>
  vSel v45_50
  (vFA 6 (.ptr (c :: p) w0.length 0 0) fun v50_55 =>
  vLoad 1 false v50_55 H42 fun v51_56 _ =>
  vCall P 78 [v51_56] H42 ((c + 48) :: p) fun v52_57 H57 _ _ =>
  Q .ret [(6, v52_57)] H57 (c + 51))
  (Q .ret [(6, (.bool false))] H42 (c + 51)))
  (Q .ret [(6, (.bool false))] H42 (c + 51))))
  (Q .ret [(6, (.bool false))] H17 (c + 51)))
  (Q .ret [(6, (.bool false))] H17 (c + 51)))
  (vBin .eql .num v14_11 (.int .i64 2) fun v55_78 =>
  vSel v55_78
  (vSel v55_78
  (vFA 4 (.ptr (c :: p) w0.length 0 0) fun v60_80 =>
  vLoad 2 true v60_80 H7 fun v61_81 _ =>
  vCall P 77 [v61_81, x2] H7 ((c + 18) :: p) fun v63_83 H83 _ _ =>
  vSel v63_83
  (vFA 2 (.ptr (c :: p) w0.length 0 0) fun v65_85 =>
  vLoad 2 true v65_85 H83 fun v66_86 _ =>
  vLoad 2 true (.ptr ((c + 3) :: p) 2 0 0) H83 fun v67_87 _ =>
  vGen (.eqs .eql [.int, .int]) [v66_86, v67_87] H83 ((c + 23) :: p) fun v68_88 H88 _ _ =>
  vSel v68_88
  (vFA 6 (.ptr (c :: p) w0.length 0 0) fun v71_91 =>
  vLoad 1 false v71_91 H88 fun v72_92 _ =>
  vBin .eql .num v72_92 (.int .i64 0) fun v73_93 =>
  Q .ret [(6, v73_93)] H88 (c + 31))
  (Q .ret [(6, (.bool false))] H88 (c + 31)))
  (Q .ret [(6, (.bool false))] H83 (c + 31)))
  (vBin .eql .num v14_11 (.int .i64 5) fun v76_102 =>
  vSel v76_102
  (vFA 4 (.ptr (c :: p) w0.length 0 0) fun v77_104 =>
  vLoad 2 true v77_104 H7 fun v78_105 _ =>
  vLoad 2 true (.ptr ((c + 3) :: p) 2 0 0) H7 fun v79_106 _ =>
  vGen (.eqs .eql [.int, .int]) [v78_105, v79_106] H7 ((c + 20) :: p) fun v80_107 H107 _ _ =>
  vSel v80_107
  (vFA 2 (.ptr (c :: p) w0.length 0 0) fun v88_111 =>
  vLoad 2 true v88_111 H107 fun v89_112 _ =>
  vLoad 2 true (.ptr ((c + 3) :: p) 2 0 0) H107 fun v90_113 _ =>
  vGen (.eqs .eql [.int, .int]) [v89_112, v90_113] H107 ((c + 31) :: p) fun v91_114 H114 _ _ =>
  vSel v91_114
  (vFA 6 (.ptr (c :: p) w0.length 0 0) fun v94_117 =>
  vLoad 1 false v94_117 H114 fun v95_118 _ =>
  vBin .eql .num v95_118 (.int .i64 0) fun v96_119 =>
  Q .ret [(6, v96_119)] H114 (c + 39))
  (Q .ret [(6, (.bool false))] H114 (c + 39)))
  (vFA 4 (.ptr (c :: p) w0.length 0 0) fun v82_124 =>
  vLoad 2 true v82_124 H107 fun v83_125 _ =>
  vCall P 77 [v83_125, x2] H107 ((c + 25) :: p) fun v85_127 H127 _ _ =>
  vSel v85_127
  (vFA 2 (.ptr (c :: p) w0.length 0 0) fun v88_130 =>
  vLoad 2 true v88_130 H127 fun v89_131 _ =>
  vLoad 2 true (.ptr ((c + 3) :: p) 2 0 0) H127 fun v90_132 _ =>
  vGen (.eqs .eql [.int, .int]) [v89_131, v90_132] H127 ((c + 31) :: p) fun v91_133 H133 _ _ =>
  vSel v91_133
  (vFA 6 (.ptr (c :: p) w0.length 0 0) fun v94_136 =>
  vLoad 1 false v94_136 H133 fun v95_137 _ =>
  vBin .eql .num v95_137 (.int .i64 0) fun v96_138 =>
  Q .ret [(6, v96_138)] H133 (c + 39))
  (Q .ret [(6, (.bool false))] H133 (c + 39)))
  (Q .ret [(6, (.bool false))] H127 (c + 39))))
  (vBin .eql .num v14_11 (.int .i64 6) fun v99_147 =>
  vSel v99_147
  (vFA 2 (.ptr (c :: p) w0.length 0 0) fun v100_149 =>
  vLoad 2 true v100_149 H7 fun v101_150 _ =>
  vCall P 77 [v101_150, x2] H7 ((c + 22) :: p) fun v103_152 H152 _ _ =>
  vSel v103_152
  (vFA 2 (.ptr (c :: p) w0.length 0 0) fun v105_154 =>
  vFA 1 v105_154 fun v106_155 =>
  vLoad 1 false v106_155 H152 fun v107_156 _ =>
  vBin .eql .num v107_156 x1 fun v109_158 =>
  vSel v109_158
  (vFA 4 (.ptr (c :: p) w0.length 0 0) fun v112_161 =>
  vLoad 2 true v112_161 H152 fun v113_162 _ =>
  vLoad 2 true (.ptr ((c + 3) :: p) 2 0 0) H152 fun v114_163 _ =>
  vGen (.eqs .eql [.int, .int]) [v113_162, v114_163] H152 ((c + 34) :: p) fun v115_164 H164 _ _ =>
  vSel v115_164
  (vFA 6 (.ptr (c :: p) w0.length 0 0) fun v118_167 =>
  vLoad 1 false v118_167 H164 fun v119_168 _ =>
  vBin .eql .num v119_168 (.int .i64 0) fun v120_169 =>
  Q .ret [(6, v120_169)] H164 (c + 42))
  (Q .ret [(6, (.bool false))] H164 (c + 42)))
  (Q .ret [(6, (.bool false))] H152 (c + 42)))
  (Q .ret [(6, (.bool false))] H152 (c + 42)))
  (Q .ret [(6, (.bool false))] H7 (c + 20)))))
  (vBin .eql .num v14_11 (.int .i64 3) fun v56_185 =>
  vSel v56_185
  (vSel v56_185
  (vFA 4 (.ptr (c :: p) w0.length 0 0) fun v60_187 =>
  vLoad 2 true v60_187 H7 fun v61_188 _ =>
  vCall P 77 [v61_188, x2] H7 ((c + 20) :: p) fun v63_190 H190 _ _ =>
  vSel v63_190
  (vFA 2 (.ptr (c :: p) w0.length 0 0) fun v65_192 =>
  vLoad 2 true v65_192 H190 fun v66_193 _ =>
  vLoad 2 true (.ptr ((c + 3) :: p) 2 0 0) H190 fun v67_194 _ =>
  vGen (.eqs .eql [.int, .int]) [v66_193, v67_194] H190 ((c + 25) :: p) fun v68_195 H195 _ _ =>
  vSel v68_195
  (vFA 6 (.ptr (c :: p) w0.length 0 0) fun v71_198 =>
  vLoad 1 false v71_198 H195 fun v72_199 _ =>
  vBin .eql .num v72_199 (.int .i64 0) fun v73_200 =>
  Q .ret [(6, v73_200)] H195 (c + 33))
  (Q .ret [(6, (.bool false))] H195 (c + 33)))
  (Q .ret [(6, (.bool false))] H190 (c + 33)))
  (vBin .eql .num v14_11 (.int .i64 5) fun v76_209 =>
  vSel v76_209
  (vFA 4 (.ptr (c :: p) w0.length 0 0) fun v77_211 =>
  vLoad 2 true v77_211 H7 fun v78_212 _ =>
  vLoad 2 true (.ptr ((c + 3) :: p) 2 0 0) H7 fun v79_213 _ =>
  vGen (.eqs .eql [.int, .int]) [v78_212, v79_213] H7 ((c + 22) :: p) fun v80_214 H214 _ _ =>
  vSel v80_214
  (vFA 2 (.ptr (c :: p) w0.length 0 0) fun v88_218 =>
  vLoad 2 true v88_218 H214 fun v89_219 _ =>
  vLoad 2 true (.ptr ((c + 3) :: p) 2 0 0) H214 fun v90_220 _ =>
  vGen (.eqs .eql [.int, .int]) [v89_219, v90_220] H214 ((c + 33) :: p) fun v91_221 H221 _ _ =>
  vSel v91_221
  (vFA 6 (.ptr (c :: p) w0.length 0 0) fun v94_224 =>
  vLoad 1 false v94_224 H221 fun v95_225 _ =>
  vBin .eql .num v95_225 (.int .i64 0) fun v96_226 =>
  Q .ret [(6, v96_226)] H221 (c + 41))
  (Q .ret [(6, (.bool false))] H221 (c + 41)))
  (vFA 4 (.ptr (c :: p) w0.length 0 0) fun v82_231 =>
  vLoad 2 true v82_231 H214 fun v83_232 _ =>
  vCall P 77 [v83_232, x2] H214 ((c + 27) :: p) fun v85_234 H234 _ _ =>
  vSel v85_234
  (vFA 2 (.ptr (c :: p) w0.length 0 0) fun v88_237 =>
  vLoad 2 true v88_237 H234 fun v89_238 _ =>
  vLoad 2 true (.ptr ((c + 3) :: p) 2 0 0) H234 fun v90_239 _ =>
  vGen (.eqs .eql [.int, .int]) [v89_238, v90_239] H234 ((c + 33) :: p) fun v91_240 H240 _ _ =>
  vSel v91_240
  (vFA 6 (.ptr (c :: p) w0.length 0 0) fun v94_243 =>
  vLoad 1 false v94_243 H240 fun v95_244 _ =>
  vBin .eql .num v95_244 (.int .i64 0) fun v96_245 =>
  Q .ret [(6, v96_245)] H240 (c + 41))
  (Q .ret [(6, (.bool false))] H240 (c + 41)))
  (Q .ret [(6, (.bool false))] H234 (c + 41))))
  (vBin .eql .num v14_11 (.int .i64 6) fun v99_254 =>
  vSel v99_254
  (vFA 2 (.ptr (c :: p) w0.length 0 0) fun v100_256 =>
  vLoad 2 true v100_256 H7 fun v101_257 _ =>
  vCall P 77 [v101_257, x2] H7 ((c + 24) :: p) fun v103_259 H259 _ _ =>
  vSel v103_259
  (vFA 2 (.ptr (c :: p) w0.length 0 0) fun v105_261 =>
  vFA 1 v105_261 fun v106_262 =>
  vLoad 1 false v106_262 H259 fun v107_263 _ =>
  vBin .eql .num v107_263 x1 fun v109_265 =>
  vSel v109_265
  (vFA 4 (.ptr (c :: p) w0.length 0 0) fun v112_268 =>
  vLoad 2 true v112_268 H259 fun v113_269 _ =>
  vLoad 2 true (.ptr ((c + 3) :: p) 2 0 0) H259 fun v114_270 _ =>
  vGen (.eqs .eql [.int, .int]) [v113_269, v114_270] H259 ((c + 36) :: p) fun v115_271 H271 _ _ =>
  vSel v115_271
  (vFA 6 (.ptr (c :: p) w0.length 0 0) fun v118_274 =>
  vLoad 1 false v118_274 H271 fun v119_275 _ =>
  vBin .eql .num v119_275 (.int .i64 0) fun v120_276 =>
  Q .ret [(6, v120_276)] H271 (c + 44))
  (Q .ret [(6, (.bool false))] H271 (c + 44)))
  (Q .ret [(6, (.bool false))] H259 (c + 44)))
  (Q .ret [(6, (.bool false))] H259 (c + 44)))
  (Q .ret [(6, (.bool false))] H7 (c + 22)))))
  (vBin .eql .num v14_11 (.int .i64 4) fun v57_292 =>
  vSel v57_292
  (vSel v57_292
  (vFA 4 (.ptr (c :: p) w0.length 0 0) fun v60_294 =>
  vLoad 2 true v60_294 H7 fun v61_295 _ =>
  vCall P 77 [v61_295, x2] H7 ((c + 22) :: p) fun v63_297 H297 _ _ =>
  vSel v63_297
  (vFA 2 (.ptr (c :: p) w0.length 0 0) fun v65_299 =>
  vLoad 2 true v65_299 H297 fun v66_300 _ =>
  vLoad 2 true (.ptr ((c + 3) :: p) 2 0 0) H297 fun v67_301 _ =>
  vGen (.eqs .eql [.int, .int]) [v66_300, v67_301] H297 ((c + 27) :: p) fun v68_302 H302 _ _ =>
  vSel v68_302
  (vFA 6 (.ptr (c :: p) w0.length 0 0) fun v71_305 =>
  vLoad 1 false v71_305 H302 fun v72_306 _ =>
  vBin .eql .num v72_306 (.int .i64 0) fun v73_307 =>
  Q .ret [(6, v73_307)] H302 (c + 35))
  (Q .ret [(6, (.bool false))] H302 (c + 35)))
  (Q .ret [(6, (.bool false))] H297 (c + 35)))
  (vBin .eql .num v14_11 (.int .i64 5) fun v76_316 =>
  vSel v76_316
  (vFA 4 (.ptr (c :: p) w0.length 0 0) fun v77_318 =>
  vLoad 2 true v77_318 H7 fun v78_319 _ =>
  vLoad 2 true (.ptr ((c + 3) :: p) 2 0 0) H7 fun v79_320 _ =>
  vGen (.eqs .eql [.int, .int]) [v78_319, v79_320] H7 ((c + 24) :: p) fun v80_321 H321 _ _ =>
  vSel v80_321
  (vFA 2 (.ptr (c :: p) w0.length 0 0) fun v88_325 =>
  vLoad 2 true v88_325 H321 fun v89_326 _ =>
  vLoad 2 true (.ptr ((c + 3) :: p) 2 0 0) H321 fun v90_327 _ =>
  vGen (.eqs .eql [.int, .int]) [v89_326, v90_327] H321 ((c + 35) :: p) fun v91_328 H328 _ _ =>
  vSel v91_328
  (vFA 6 (.ptr (c :: p) w0.length 0 0) fun v94_331 =>
  vLoad 1 false v94_331 H328 fun v95_332 _ =>
  vBin .eql .num v95_332 (.int .i64 0) fun v96_333 =>
  Q .ret [(6, v96_333)] H328 (c + 43))
  (Q .ret [(6, (.bool false))] H328 (c + 43)))
  (vFA 4 (.ptr (c :: p) w0.length 0 0) fun v82_338 =>
  vLoad 2 true v82_338 H321 fun v83_339 _ =>
  vCall P 77 [v83_339, x2] H321 ((c + 29) :: p) fun v85_341 H341 _ _ =>
  vSel v85_341
  (vFA 2 (.ptr (c :: p) w0.length 0 0) fun v88_344 =>
  vLoad 2 true v88_344 H341 fun v89_345 _ =>
  vLoad 2 true (.ptr ((c + 3) :: p) 2 0 0) H341 fun v90_346 _ =>
  vGen (.eqs .eql [.int, .int]) [v89_345, v90_346] H341 ((c + 35) :: p) fun v91_347 H347 _ _ =>
  vSel v91_347
  (vFA 6 (.ptr (c :: p) w0.length 0 0) fun v94_350 =>
  vLoad 1 false v94_350 H347 fun v95_351 _ =>
  vBin .eql .num v95_351 (.int .i64 0) fun v96_352 =>
  Q .ret [(6, v96_352)] H347 (c + 43))
  (Q .ret [(6, (.bool false))] H347 (c + 43)))
  (Q .ret [(6, (.bool false))] H341 (c + 43))))
  (vBin .eql .num v14_11 (.int .i64 6) fun v99_361 =>
  vSel v99_361
  (vFA 2 (.ptr (c :: p) w0.length 0 0) fun v100_363 =>
  vLoad 2 true v100_363 H7 fun v101_364 _ =>
  vCall P 77 [v101_364, x2] H7 ((c + 26) :: p) fun v103_366 H366 _ _ =>
  vSel v103_366
  (vFA 2 (.ptr (c :: p) w0.length 0 0) fun v105_368 =>
  vFA 1 v105_368 fun v106_369 =>
  vLoad 1 false v106_369 H366 fun v107_370 _ =>
  vBin .eql .num v107_370 x1 fun v109_372 =>
  vSel v109_372
  (vFA 4 (.ptr (c :: p) w0.length 0 0) fun v112_375 =>
  vLoad 2 true v112_375 H366 fun v113_376 _ =>
  vLoad 2 true (.ptr ((c + 3) :: p) 2 0 0) H366 fun v114_377 _ =>
  vGen (.eqs .eql [.int, .int]) [v113_376, v114_377] H366 ((c + 38) :: p) fun v115_378 H378 _ _ =>
  vSel v115_378
  (vFA 6 (.ptr (c :: p) w0.length 0 0) fun v118_381 =>
  vLoad 1 false v118_381 H378 fun v119_382 _ =>
  vBin .eql .num v119_382 (.int .i64 0) fun v120_383 =>
  Q .ret [(6, v120_383)] H378 (c + 46))
  (Q .ret [(6, (.bool false))] H378 (c + 46)))
  (Q .ret [(6, (.bool false))] H366 (c + 46)))
  (Q .ret [(6, (.bool false))] H366 (c + 46)))
  (Q .ret [(6, (.bool false))] H7 (c + 24)))))
  (vBin .eql .num v14_11 (.int .i64 7) fun v58_399 =>
  vSel v58_399
  (vSel v58_399
  (vFA 4 (.ptr (c :: p) w0.length 0 0) fun v60_401 =>
  vLoad 2 true v60_401 H7 fun v61_402 _ =>
  vCall P 77 [v61_402, x2] H7 ((c + 24) :: p) fun v63_404 H404 _ _ =>
  vSel v63_404
  (vFA 2 (.ptr (c :: p) w0.length 0 0) fun v65_406 =>
  vLoad 2 true v65_406 H404 fun v66_407 _ =>
  vLoad 2 true (.ptr ((c + 3) :: p) 2 0 0) H404 fun v67_408 _ =>
  vGen (.eqs .eql [.int, .int]) [v66_407, v67_408] H404 ((c + 29) :: p) fun v68_409 H409 _ _ =>
  vSel v68_409
  (vFA 6 (.ptr (c :: p) w0.length 0 0) fun v71_412 =>
  vLoad 1 false v71_412 H409 fun v72_413 _ =>
  vBin .eql .num v72_413 (.int .i64 0) fun v73_414 =>
  Q .ret [(6, v73_414)] H409 (c + 37))
  (Q .ret [(6, (.bool false))] H409 (c + 37)))
  (Q .ret [(6, (.bool false))] H404 (c + 37)))
  (vBin .eql .num v14_11 (.int .i64 5) fun v76_423 =>
  vSel v76_423
  (vFA 4 (.ptr (c :: p) w0.length 0 0) fun v77_425 =>
  vLoad 2 true v77_425 H7 fun v78_426 _ =>
  vLoad 2 true (.ptr ((c + 3) :: p) 2 0 0) H7 fun v79_427 _ =>
  vGen (.eqs .eql [.int, .int]) [v78_426, v79_427] H7 ((c + 26) :: p) fun v80_428 H428 _ _ =>
  vSel v80_428
  (vFA 2 (.ptr (c :: p) w0.length 0 0) fun v88_432 =>
  vLoad 2 true v88_432 H428 fun v89_433 _ =>
  vLoad 2 true (.ptr ((c + 3) :: p) 2 0 0) H428 fun v90_434 _ =>
  vGen (.eqs .eql [.int, .int]) [v89_433, v90_434] H428 ((c + 37) :: p) fun v91_435 H435 _ _ =>
  vSel v91_435
  (vFA 6 (.ptr (c :: p) w0.length 0 0) fun v94_438 =>
  vLoad 1 false v94_438 H435 fun v95_439 _ =>
  vBin .eql .num v95_439 (.int .i64 0) fun v96_440 =>
  Q .ret [(6, v96_440)] H435 (c + 45))
  (Q .ret [(6, (.bool false))] H435 (c + 45)))
  (vFA 4 (.ptr (c :: p) w0.length 0 0) fun v82_445 =>
  vLoad 2 true v82_445 H428 fun v83_446 _ =>
  vCall P 77 [v83_446, x2] H428 ((c + 31) :: p) fun v85_448 H448 _ _ =>
  vSel v85_448
  (vFA 2 (.ptr (c :: p) w0.length 0 0) fun v88_451 =>
  vLoad 2 true v88_451 H448 fun v89_452 _ =>
  vLoad 2 true (.ptr ((c + 3) :: p) 2 0 0) H448 fun v90_453 _ =>
  vGen (.eqs .eql [.int, .int]) [v89_452, v90_453] H448 ((c + 37) :: p) fun v91_454 H454 _ _ =>
  vSel v91_454
  (vFA 6 (.ptr (c :: p) w0.length 0 0) fun v94_457 =>
  vLoad 1 false v94_457 H454 fun v95_458 _ =>
  vBin .eql .num v95_458 (.int .i64 0) fun v96_459 =>
  Q .ret [(6, v96_459)] H454 (c + 45))
  (Q .ret [(6, (.bool false))] H454 (c + 45)))
  (Q .ret [(6, (.bool false))] H448 (c + 45))))
  (vBin .eql .num v14_11 (.int .i64 6) fun v99_468 =>
  vSel v99_468
  (vFA 2 (.ptr (c :: p) w0.length 0 0) fun v100_470 =>
  vLoad 2 true v100_470 H7 fun v101_471 _ =>
  vCall P 77 [v101_471, x2] H7 ((c + 28) :: p) fun v103_473 H473 _ _ =>
  vSel v103_473
  (vFA 2 (.ptr (c :: p) w0.length 0 0) fun v105_475 =>
  vFA 1 v105_475 fun v106_476 =>
  vLoad 1 false v106_476 H473 fun v107_477 _ =>
  vBin .eql .num v107_477 x1 fun v109_479 =>
  vSel v109_479
  (vFA 4 (.ptr (c :: p) w0.length 0 0) fun v112_482 =>
  vLoad 2 true v112_482 H473 fun v113_483 _ =>
  vLoad 2 true (.ptr ((c + 3) :: p) 2 0 0) H473 fun v114_484 _ =>
  vGen (.eqs .eql [.int, .int]) [v113_483, v114_484] H473 ((c + 40) :: p) fun v115_485 H485 _ _ =>
  vSel v115_485
  (vFA 6 (.ptr (c :: p) w0.length 0 0) fun v118_488 =>
  vLoad 1 false v118_488 H485 fun v119_489 _ =>
  vBin .eql .num v119_489 (.int .i64 0) fun v120_490 =>
  Q .ret [(6, v120_490)] H485 (c + 48))
  (Q .ret [(6, (.bool false))] H485 (c + 48)))
  (Q .ret [(6, (.bool false))] H473 (c + 48)))
  (Q .ret [(6, (.bool false))] H473 (c + 48)))
  (Q .ret [(6, (.bool false))] H7 (c + 26)))))
  (vBin .eql .num v14_11 (.int .i64 8) fun v59_506 =>
  vSel v59_506
  (vFA 4 (.ptr (c :: p) w0.length 0 0) fun v60_508 =>
  vLoad 2 true v60_508 H7 fun v61_509 _ =>
  vCall P 77 [v61_509, x2] H7 ((c + 26) :: p) fun v63_511 H511 _ _ =>
  vSel v63_511
  (vFA 2 (.ptr (c :: p) w0.length 0 0) fun v65_513 =>
  vLoad 2 true v65_513 H511 fun v66_514 _ =>
  vLoad 2 true (.ptr ((c + 3) :: p) 2 0 0) H511 fun v67_515 _ =>
  vGen (.eqs .eql [.int, .int]) [v66_514, v67_515] H511 ((c + 31) :: p) fun v68_516 H516 _ _ =>
  vSel v68_516
  (vFA 6 (.ptr (c :: p) w0.length 0 0) fun v71_519 =>
  vLoad 1 false v71_519 H516 fun v72_520 _ =>
  vBin .eql .num v72_520 (.int .i64 0) fun v73_521 =>
  Q .ret [(6, v73_521)] H516 (c + 39))
  (Q .ret [(6, (.bool false))] H516 (c + 39)))
  (Q .ret [(6, (.bool false))] H511 (c + 39)))
  (vBin .eql .num v14_11 (.int .i64 5) fun v76_530 =>
  vSel v76_530
  (vFA 4 (.ptr (c :: p) w0.length 0 0) fun v77_532 =>
  vLoad 2 true v77_532 H7 fun v78_533 _ =>
  vLoad 2 true (.ptr ((c + 3) :: p) 2 0 0) H7 fun v79_534 _ =>
  vGen (.eqs .eql [.int, .int]) [v78_533, v79_534] H7 ((c + 28) :: p) fun v80_535 H535 _ _ =>
  vSel v80_535
  (vFA 2 (.ptr (c :: p) w0.length 0 0) fun v88_539 =>
  vLoad 2 true v88_539 H535 fun v89_540 _ =>
  vLoad 2 true (.ptr ((c + 3) :: p) 2 0 0) H535 fun v90_541 _ =>
  vGen (.eqs .eql [.int, .int]) [v89_540, v90_541] H535 ((c + 39) :: p) fun v91_542 H542 _ _ =>
  vSel v91_542
  (vFA 6 (.ptr (c :: p) w0.length 0 0) fun v94_545 =>
  vLoad 1 false v94_545 H542 fun v95_546 _ =>
  vBin .eql .num v95_546 (.int .i64 0) fun v96_547 =>
  Q .ret [(6, v96_547)] H542 (c + 47))
  (Q .ret [(6, (.bool false))] H542 (c + 47)))
  (vFA 4 (.ptr (c :: p) w0.length 0 0) fun v82_552 =>
  vLoad 2 true v82_552 H535 fun v83_553 _ =>
  vCall P 77 [v83_553, x2] H535 ((c + 33) :: p) fun v85_555 H555 _ _ =>
  vSel v85_555
  (vFA 2 (.ptr (c :: p) w0.length 0 0) fun v88_558 =>
  vLoad 2 true v88_558 H555 fun v89_559 _ =>
  vLoad 2 true (.ptr ((c + 3) :: p) 2 0 0) H555 fun v90_560 _ =>
  vGen (.eqs .eql [.int, .int]) [v89_559, v90_560] H555 ((c + 39) :: p) fun v91_561 H561 _ _ =>
  vSel v91_561
  (vFA 6 (.ptr (c :: p) w0.length 0 0) fun v94_564 =>
  vLoad 1 false v94_564 H561 fun v95_565 _ =>
  vBin .eql .num v95_565 (.int .i64 0) fun v96_566 =>
  Q .ret [(6, v96_566)] H561 (c + 47))
  (Q .ret [(6, (.bool false))] H561 (c + 47)))
  (Q .ret [(6, (.bool false))] H555 (c + 47))))
  (vBin .eql .num v14_11 (.int .i64 6) fun v99_575 =>
  vSel v99_575
  (vFA 2 (.ptr (c :: p) w0.length 0 0) fun v100_577 =>
  vLoad 2 true v100_577 H7 fun v101_578 _ =>
  vCall P 77 [v101_578, x2] H7 ((c + 30) :: p) fun v103_580 H580 _ _ =>
  vSel v103_580
  (vFA 2 (.ptr (c :: p) w0.length 0 0) fun v105_582 =>
  vFA 1 v105_582 fun v106_583 =>
  vLoad 1 false v106_583 H580 fun v107_584 _ =>
  vBin .eql .num v107_584 x1 fun v109_586 =>
  vSel v109_586
  (vFA 4 (.ptr (c :: p) w0.length 0 0) fun v112_589 =>
  vLoad 2 true v112_589 H580 fun v113_590 _ =>
  vLoad 2 true (.ptr ((c + 3) :: p) 2 0 0) H580 fun v114_591 _ =>
  vGen (.eqs .eql [.int, .int]) [v113_590, v114_591] H580 ((c + 42) :: p) fun v115_592 H592 _ _ =>
  vSel v115_592
  (vFA 6 (.ptr (c :: p) w0.length 0 0) fun v118_595 =>
  vLoad 1 false v118_595 H592 fun v119_596 _ =>
  vBin .eql .num v119_596 (.int .i64 0) fun v120_597 =>
  Q .ret [(6, v120_597)] H592 (c + 50))
  (Q .ret [(6, (.bool false))] H592 (c + 50)))
  (Q .ret [(6, (.bool false))] H580 (c + 50)))
  (Q .ret [(6, (.bool false))] H580 (c + 50)))
  (Q .ret [(6, (.bool false))] H7 (c + 28))))))))))) (upd [(((c + 3) :: p), some (.rows 2 [[(.int .i64 0), (.int .i64 0)]]))] H0)) (upd [((c :: p), some (.rows w0.length [w0]))] H)
theorem vt53 (P : Program) (p : Lab) (Q : VPost) (x0 x1 x2 : AV) (H : Heap) (c : Nat) : vc P p c53.body Q [(0, x0), (1, x1), (2, x2)] H c = V53 P p Q x0 x1 x2 H c := by kernel_rfl


/-- duet/duetref04.May -/
def c77 : AFun := ⟨2, 24, [.tmp 4],
  (.seq (.region [⟨(some 2), none, .box, [.t 0]⟩, ⟨(some 4), none, .move, [.c (.bool false)]⟩] none [1, 2])
  (.seq (.region [⟨(some 5), none, (.fieldAddr 0), [.t 2]⟩, ⟨(some 6), none, (.load 1 false), [.t 5]⟩, ⟨(some 7), none, (.bin .geq .num), [.t 6, .c (.int .i64 1)]⟩, ⟨(some 8), none, .move, [.t 7]⟩, ⟨(some 9), (some (8, true)), (.fieldAddr 0), [.t 2]⟩, ⟨(some 10), (some (8, true)), (.load 1 false), [.t 9]⟩, ⟨(some 11), (some (8, true)), .call, [.c (.fn (.func 52) [] []), .t 10]⟩, ⟨(some 12), none, .pick, [.t 8, .t 11, .c (.bool false)]⟩, ⟨(some 13), none, .move, [.t 12]⟩, ⟨(some 14), (some (13, true)), (.fieldAddr 1), [.t 2]⟩, ⟨(some 15), (some (13, true)), (.load 1 false), [.t 14]⟩, ⟨(some 16), (some (13, true)), (.bin .geq .num), [.t 15, .c (.int .i64 0)]⟩, ⟨(some 17), none, .pick, [.t 13, .t 16, .c (.bool false)]⟩, ⟨(some 18), none, .move, [.t 17]⟩, ⟨(some 19), (some (18, true)), (.fieldAddr 1), [.t 2]⟩, ⟨(some 20), (some (18, true)), (.load 1 false), [.t 19]⟩, ⟨(some 21), (some (18, true)), .move, [.t 1]⟩, ⟨(some 22), (some (18, true)), (.bin .lss .num), [.t 20, .t 21]⟩, ⟨(some 23), none, .pick, [.t 18, .t 22, .c (.bool false)]⟩, ⟨(some 4), none, .move, [.t 23]⟩] none [4])
  .ret))⟩
theorem ok77 : FunOk Try.prog 77 c77 := ⟨⟨Try.f77, _, Try.func77, rfl, by kernel_rfl, by kernel_rfl, by kernel_rfl, by kernel_rfl⟩, by decide⟩
theorem res77 : c77.res = [.tmp 4] := rfl
def V77 (P : Program) (p : Lab) (Q : VPost) (x0 x1 : AV) (H : Heap) (c : Nat) : Prop :=
  vBox x0 fun w0 =>
  (fun (H0 : Heap) =>
  vFA 0 (.ptr (c :: p) w0.length 0 0) fun v5_2 =>
  vLoad 1 false v5_2 H0 fun v6_3 _ =>
  vBin .geq .num v6_3 (.int .i64 1) fun v7_4 =>
  vSel v7_4
  (vFA 0 (.ptr (c :: p) w0.length 0 0) fun v9_6 =>
  vLoad 1 false v9_6 H0 fun v10_7 _ =>
  vCall P 52 [v10_7] H0 ((c + 8) :: p) fun v11_8 H8 _ _ =>
  vSel v11_8
  (vFA 1 (.ptr (c :: p) w0.length 0 0) fun v14_11 =>
  vLoad 1 false v14_11 H8 fun v15_12 _ =>
  vBin .geq .num v15_12 (.int .i64 0) fun v16_13 =>
  vSel v16_13
  (vFA 1 (.ptr (c :: p) w0.length 0 0) fun v19_16 =>
  vLoad 1 false v19_16 H8 fun v20_17 _ =>
  vBin .lss .num v20_17 x1 fun v22_19 =>
  Q .ret [(4, v22_19)] H8 (c + 22))
  (Q .ret [(4, (.bool false))] H8 (c + 22)))
  (Q .ret [(4, (.bool false))] H8 (c + 22)))
  (Q .ret [(4, (.bool false))] H0 (c + 22))) (upd [((c :: p), some (.rows w0.length [w0]))] H)
theorem vt77 (P : Program) (p : Lab) (Q : VPost) (x0 x1 : AV) (H : Heap) (c : Nat) : vc P p c77.body Q [(0, x0), (1, x1)] H c = V77 P p Q x0 x1 H c := by kernel_rfl


/-- duet/duetref04.Rune -/
def c78 : AFun := ⟨1, 27, [.tmp 2],
  (.seq (.region [⟨(some 2), none, .move, [.c (.bool false)]⟩] none [0])
  (.seq (.region [⟨(some 3), none, .move, [.t 0]⟩, ⟨(some 4), none, (.bin .geq .num), [.t 3, .c (.int .i64 32)]⟩, ⟨(some 5), none, .move, [.t 4]⟩, ⟨(some 6), (some (5, true)), .move, [.t 0]⟩, ⟨(some 7), (some (5, true)), (.bin .leq .num), [.t 6, .c (.int .i64 1114111)]⟩, ⟨(some 8), none, .pick, [.t 5, .t 7, .c (.bool false)]⟩, ⟨(some 9), none, .move, [.t 8]⟩, ⟨(some 10), (some (9, true)), .move, [.t 0]⟩, ⟨(some 11), (some (9, true)), (.bin .geq .num), [.t 10, .c (.int .i64 127)]⟩, ⟨(some 12), (some (9, true)), .move, [.t 11]⟩, ⟨(some 13), (some (12, true)), .move, [.t 0]⟩, ⟨(some 14), (some (12, true)), (.bin .leq .num), [.t 13, .c (.int .i64 159)]⟩, ⟨(some 15), (some (9, true)), .pick, [.t 12, .t 14, .c (.bool false)]⟩, ⟨(some 16), (some (9, true)), (.un .not), [.t 15]⟩, ⟨(some 17), none, .pick, [.t 9, .t 16, .c (.bool false)]⟩, ⟨(some 18), none, .move, [.t 17]⟩, ⟨(some 19), (some (18, true)), .move, [.t 0]⟩, ⟨(some 20), (some (18, true)), (.bin .geq .num), [.t 19, .c (.int .i64 55296)]⟩, ⟨(some 21), (some (18, true)), .move, [.t 20]⟩, ⟨(some 22), (some (21, true)), .move, [.t 0]⟩, ⟨(some 23), (some (21, true)), (.bin .leq .num), [.t 22, .c (.int .i64 57343)]⟩, ⟨(some 24), (some (18, true)), .pick, [.t 21, .t 23, .c (.bool false)]⟩, ⟨(some 25), (some (18, true)), (.un .not), [.t 24]⟩, ⟨(some 26), none, .pick, [.t 18, .t 25, .c (.bool false)]⟩, ⟨(some 2), none, .move, [.t 26]⟩] none [2])
  .ret))⟩
theorem ok78 : FunOk Try.prog 78 c78 := ⟨⟨Try.f78, _, Try.func78, rfl, by kernel_rfl, by kernel_rfl, by kernel_rfl, by kernel_rfl⟩, by decide⟩
theorem res78 : c78.res = [.tmp 2] := rfl
def V78 (P : Program) (p : Lab) (Q : VPost) (x0 : AV) (H : Heap) (c : Nat) : Prop :=
  vBin .geq .num x0 (.int .i64 32) fun v4_2 =>
  vSel v4_2
  (vBin .leq .num x0 (.int .i64 1114111) fun v7_5 =>
  vSel v7_5
  (vBin .geq .num x0 (.int .i64 127) fun v11_9 =>
  vSel v11_9
  (vBin .leq .num x0 (.int .i64 159) fun v14_12 =>
  vNot v14_12 fun v16_14 =>
  vSel v16_14
  (vBin .geq .num x0 (.int .i64 55296) fun v20_18 =>
  vSel v20_18
  (vBin .leq .num x0 (.int .i64 57343) fun v23_21 =>
  vNot v23_21 fun v25_23 =>
  Q .ret [(2, v25_23)] H (c + 26))
  (vNot (.bool false) fun v25_27 =>
  Q .ret [(2, v25_27)] H (c + 26)))
  (Q .ret [(2, (.bool false))] H (c + 26)))
  (vNot (.bool false) fun v16_33 =>
  vSel v16_33
  (vBin .geq .num x0 (.int .i64 55296) fun v20_37 =>
  vSel v20_37
  (vBin .leq .num x0 (.int .i64 57343) fun v23_40 =>
  vNot v23_40 fun v25_42 =>
  Q .ret [(2, v25_42)] H (c + 26))
  (vNot (.bool false) fun v25_46 =>
  Q .ret [(2, v25_46)] H (c + 26)))
  (Q .ret [(2, (.bool false))] H (c + 26))))
  (Q .ret [(2, (.bool false))] H (c + 26)))
  (Q .ret [(2, (.bool false))] H (c + 26))
theorem vt78 (P : Program) (p : Lab) (Q : VPost) (x0 : AV) (H : Heap) (c : Nat) : vc P p c78.body Q [(0, x0)] H c = V78 P p Q x0 H c := by kernel_rfl


/-- duet/mesg.Check -/
def c43 : AFun := ⟨1, 166, [.tmp 2],
  (.seq (.region [⟨(some 1), none, .box, [.t 0]⟩, ⟨(some 2), none, .move, [.c (.int .i64 0)]⟩] none [1])
  (.seq (.region [⟨(some 10), none, (.fieldAddr 2), [.t 1]⟩, ⟨(some 11), none, (.load 1 false), [.t 10]⟩, ⟨(some 12), none, (.len .slice), [.t 11]⟩, ⟨(some 13), none, (.fieldAddr 3), [.t 1]⟩, ⟨(some 14), none, (.load 7 true), [.t 13]⟩, ⟨(some 3), none, (.alloc [(.int .i64 0)]), []⟩, ⟨(some 4), none, (.alloc [(.int .i64 0), (.int .i64 0), (.int .i64 0), (.int .i64 0), (.int .i64 0), (.int .i64 0), (.int .i64 0)]), []⟩, ⟨none, none, (.store 1), [.t 3, .t 12]⟩, ⟨none, none, (.store 7), [.t 4, .t 14]⟩] (some [0, 1, 3, 0, 8, 0, 0, 103, 255]) [1, 3, 4])
  (.seq (.region [⟨(some 15), none, (.mkfn (.func 66) 0), [.t 3]⟩, ⟨(some 5), none, .move, [.t 15]⟩] none [1, 3, 4, 5])
  (.seq (.region [⟨(some 16), none, (.build [(.int .i64 0), (.int .i64 0)] []), []⟩, ⟨(some 6), none, (.alloc [(.int .i64 0), (.int .i64 0)]), []⟩, ⟨none, none, (.store 2), [.t 6, .t 16]⟩] none [1, 3, 4, 5, 6])
  (.seq (.region [⟨(some 18), none, (.fieldAddr 0), [.t 4]⟩, ⟨(some 19), none, (.load 1 false), [.t 18]⟩, ⟨(some 20), none, .call, [.c (.fn (.func 68) [] []), .t 19]⟩, ⟨(some 17), none, .move, [.t 20]⟩, ⟨(some 21), none, (.extract 0), [.t 17]⟩, ⟨(some 22), none, (.extract 1), [.t 17]⟩, ⟨(some 23), none, (.extract 2), [.t 17]⟩, ⟨(some 7), none, .move, [.t 21]⟩, ⟨(some 8), none, .move, [.t 22]⟩, ⟨(some 9), none, .move, [.t 23]⟩] none [1, 3, 4, 5, 6, 7, 8, 9])
  (.seq (.block 0 (.seq (.seq (.region [⟨(some 25), none, (.load 1 false), [.t 3]⟩, ⟨(some 26), none, (.bin .lss .num), [.t 25, .c (.int .i64 1)]⟩, ⟨(some 27), none, .move, [.t 26]⟩, ⟨(some 28), (some (27, false)), (.load 1 false), [.t 3]⟩, ⟨(some 29), (some (27, false)), (.bin .gtr .num), [.t 28, .c (.int .i64 16)]⟩, ⟨(some 30), none, .pick, [.t 27, .c (.bool true), .t 29]⟩, ⟨(some 31), none, .move, [.t 30]⟩, ⟨(some 32), (some (31, false)), (.fieldAddr 0), [.t 1]⟩, ⟨(some 33), (some (31, false)), (.load 1 false), [.t 32]⟩, ⟨(some 34), (some (31, false)), (.bin .lss .num), [.t 33, .c (.int .i64 0)]⟩, ⟨(some 35), none, .pick, [.t 31, .c (.bool true), .t 34]⟩, ⟨(some 36), none, .move, [.t 35]⟩, ⟨(some 37), (some (36, false)), (.fieldAddr 0), [.t 1]⟩, ⟨(some 38), (some (36, false)), (.load 1 false), [.t 37]⟩, ⟨(some 39), (some (36, false)), (.load 1 false), [.t 3]⟩, ⟨(some 40), (some (36, false)), (.bin .geq .num), [.t 38, .t 39]⟩, ⟨(some 41), none, .pick, [.t 36, .c (.bool true), .t 40]⟩, ⟨(some 24), none, .move, [.t 41]⟩] none [1, 4, 5, 6, 7, 8, 9, 24])
  (.cond (.t 24) .skip
  (.seq (.region [⟨(some 42), none, (.fieldAddr 1), [.t 1]⟩, ⟨(some 43), none, (.load 1 false), [.t 42]⟩, ⟨(some 44), none, (.bin .lss .num), [.t 43, .c (.int .i64 1)]⟩, ⟨(some 45), none, .move, [.t 44]⟩, ⟨(some 46), (some (45, false)), (.fieldAddr 1), [.t 1]⟩, ⟨(some 47), (some (45, false)), (.load 1 false), [.t 46]⟩, ⟨(some 48), (some (45, false)), .call, [.c (.fn (.func 67) [] []), .t 47]⟩, ⟨(some 49), (some (45, false)), (.un .not), [.t 48]⟩, ⟨(some 50), none, .pick, [.t 45, .c (.bool true), .t 49]⟩, ⟨(some 51), none, .move, [.t 50]⟩, ⟨(some 52), (some (51, false)), (.fieldAddr 2), [.t 1]⟩, ⟨(some 53), (some (51, false)), (.load 1 false), [.t 52]⟩, ⟨(some 54), (some (51, false)), (.fieldAddr 0), [.t 1]⟩, ⟨(some 55), (some (51, false)), (.load 1 false), [.t 54]⟩, ⟨(some 56), (some (51, false)), (.indexAddr 1), [.t 53, .t 55]⟩, ⟨(some 57), (some (51, false)), (.load 1 false), [.t 56]⟩, ⟨(some 58), (some (51, false)), (.fieldAddr 1), [.t 1]⟩, ⟨(some 59), (some (51, false)), (.load 1 false), [.t 58]⟩, ⟨(some 60), (some (51, false)), (.bin .sub .num), [.t 59, .c (.int .i64 1)]⟩, ⟨(some 61), (some (51, false)), (.bin .neq .num), [.t 57, .t 60]⟩, ⟨(some 62), none, .pick, [.t 51, .c (.bool true), .t 61]⟩, ⟨(some 24), none, .move, [.t 62]⟩] (some [0, 1, 3, 7, 15, 31, 63, 127, 255, 511, 1023, 2047, 1023, 5119, 16383, 32767, 1023, 66559, 197631, 524287, 1048575, 2097151]) [1, 4, 5, 6, 7, 8, 9, 24])
  (.cond (.t 24) .skip
  (.seq (.region [⟨(some 63), none, (.fieldAddr 2), [.t 1]⟩, ⟨(some 64), none, (.load 1 false), [.t 63]⟩, ⟨(some 65), none, .call, [.c (.fn (.func 69) [] []), .t 64, .c (.fn (.func 70) [] [])]⟩, ⟨(some 24), none, .move, [.t 65]⟩] none [1, 4, 5, 6, 7, 8, 9, 24])
  (.cond (.t 24) .skip
  (.seq (.region [⟨(some 66), none, (.fieldAddr 0), [.t 4]⟩, ⟨(some 67), none, (.load 1 false), [.t 66]⟩, ⟨(some 68), none, (.bin .lss .num), [.t 67, .c (.int .i64 1)]⟩, ⟨(some 69), none, .move, [.t 68]⟩, ⟨(some 70), (some (69, false)), (.fieldAddr 0), [.t 4]⟩, ⟨(some 71), (some (69, false)), (.load 1 false), [.t 70]⟩, ⟨(some 72), (some (69, false)), (.bin .gtr .num), [.t 71, .c (.int .i64 8)]⟩, ⟨(some 73), none, .pick, [.t 69, .c (.bool true), .t 72]⟩, ⟨(some 74), none, .move, [.t 73]⟩, ⟨(some 75), (some (74, false)), (.fieldAddr 1), [.t 4]⟩, ⟨(some 76), (some (74, false)), (.load 1 false), [.t 75]⟩, ⟨(some 77), (some (74, false)), .call, [.c (.fn (.func 67) [] []), .t 76]⟩, ⟨(some 78), (some (74, false)), (.un .not), [.t 77]⟩, ⟨(some 79), none, .pick, [.t 74, .c (.bool true), .t 78]⟩, ⟨(some 24), none, .move, [.t 79]⟩] none [1, 4, 5, 6, 7, 8, 9, 24])
  (.cond (.t 24) .skip
  (.seq (.region [⟨(some 80), none, .move, [.t 7]⟩, ⟨(some 81), none, .move, [.t 80]⟩, ⟨(some 82), (some (81, true)), .move, [.t 5]⟩, ⟨(some 83), (some (81, true)), (.fieldAddr 2), [.t 4]⟩, ⟨(some 84), (some (81, true)), (.load 2 true), [.t 83]⟩, ⟨(some 85), (some (81, true)), .call, [.t 82, .t 84]⟩, ⟨(some 86), (some (81, true)), (.un .not), [.t 85]⟩, ⟨(some 87), (some (81, true)), .move, [.t 86]⟩, ⟨(some 88), (some (87, false)), (.fieldAddr 2), [.t 4]⟩, ⟨(some 89), (some (87, false)), (.fieldAddr 1), [.t 88]⟩, ⟨(some 90), (some (87, false)), (.load 1 false), [.t 89]⟩, ⟨(some 91), (some (87, false)), (.fieldAddr 0), [.t 1]⟩, ⟨(some 92), (some (87, false)), (.load 1 false), [.t 91]⟩, ⟨(some 93), (some (87, false)), (.bin .neq .num), [.t 90, .t 92]⟩, ⟨(some 94), (some (81, true)), .pick, [.t 87, .c (.bool true), .t 93]⟩, ⟨(some 95), none, .pick, [.t 81, .t 94, .c (.bool false)]⟩, ⟨(some 96), none, .move, [.t 95]⟩, ⟨(some 97), (some (96, false)), .move, [.t 7]⟩, ⟨(some 98), (some (96, false)), (.un .not), [.t 97]⟩, ⟨(some 99), (some (96, false)), .move, [.t 98]⟩, ⟨(some 100), (some (99, true)), (.fieldAddr 2), [.t 4]⟩, ⟨(some 101), (some (99, true)), (.load 2 true), [.t 100]⟩, ⟨(some 102), (some (99, true)), (.load 2 true), [.t 6]⟩, ⟨(some 103), (some (99, true)), (.eqs .neq [.int, .int]), [.t 101, .t 102]⟩, ⟨(some 104), (some (96, false)), .pick, [.t 99, .t 103, .c (.bool false)]⟩, ⟨(some 105), none, .pick, [.t 96, .c (.bool true), .t 104]⟩, ⟨(some 24), none, .move, [.t 105]⟩] none [4, 5, 6, 8, 9, 24])
  (.cond (.t 24) .skip
  (.seq (.region [⟨(some 106), none, .move, [.t 9]⟩, ⟨(some 107), none, .move, [.t 106]⟩, ⟨(some 108), (some (107, true)), (.fieldAddr 6), [.t 4]⟩, ⟨(some 109), (some (107, true)), (.load 1 false), [.t 108]⟩, ⟨(some 110), (some (107, true)), .call, [.c (.fn (.func 71) [] []), .t 109]⟩, ⟨(some 111), (some (107, true)), (.un .not), [.t 110]⟩, ⟨(some 112), none, .pick, [.t 107, .t 111, .c (.bool false)]⟩, ⟨(some 113), none, .move, [.t 112]⟩, ⟨(some 114), (some (113, false)), .move, [.t 9]⟩, ⟨(some 115), (some (113, false)), (.un .not), [.t 114]⟩, ⟨(some 116), (some (113, false)), .move, [.t 115]⟩, ⟨(some 117), (some (116, true)), (.fieldAddr 6), [.t 4]⟩, ⟨(some 118), (some (116, true)), (.load 1 false), [.t 117]⟩, ⟨(some 119), (some (116, true)), (.bin .neq .num), [.t 118, .c (.int .i64 0)]⟩, ⟨(some 120), (some (113, false)), .pick, [.t 116, .t 119, .c (.bool false)]⟩, ⟨(some 121), none, .pick, [.t 113, .c (.bool true), .t 120]⟩, ⟨(some 24), none, .move, [.t 121]⟩] none [4, 5, 6, 8, 24])
  (.cond (.t 24) .skip
  (.region [⟨(some 122), none, .move, [.t 8]⟩, ⟨(some 123), none, (.un .not), [.t 122]⟩, ⟨(some 124), none, .move, [.t 123]⟩, ⟨(some 125), (some (124, true)), (.fieldAddr 4), [.t 4]⟩, ⟨(some 126), (some (124, true)), (.load 2 true), [.t 125]⟩, ⟨(some 127), (some (124, true)), (.load 2 true), [.t 6]⟩, ⟨(some 128), (some (124, true)), (.eqs .neq [.int, .int]), [.t 126, .t 127]⟩, ⟨(some 129), none, .pick, [.t 124, .t 128, .c (.bool false)]⟩, ⟨(some 24), none, .move, [.t 129]⟩] none [4, 5, 6, 8, 24])))))))))))))
  (.cond (.t 24) (.seq (.region [⟨(some 2), none, .move, [.c (.int .i64 1)]⟩] none [2])
  .ret)
  (.seq (.region [⟨(some 131), none, (.fieldAddr 4), [.t 4]⟩, ⟨(some 132), none, (.load 2 true), [.t 131]⟩, ⟨(some 133), none, (.load 2 true), [.t 6]⟩, ⟨(some 134), none, (.eqs .eql [.int, .int]), [.t 132, .t 133]⟩, ⟨(some 130), none, .move, [.t 134]⟩] none [4, 5, 8, 130])
  (.cond (.t 130) (.seq (.region [⟨(some 135), none, (.fieldAddr 0), [.t 4]⟩, ⟨(some 136), none, (.load 1 false), [.t 135]⟩, ⟨(some 137), none, (.bin .neq .num), [.t 136, .c (.int .i64 1)]⟩, ⟨(some 138), none, .move, [.t 137]⟩, ⟨(some 139), (some (138, true)), (.fieldAddr 0), [.t 4]⟩, ⟨(some 140), (some (138, true)), (.load 1 false), [.t 139]⟩, ⟨(some 141), (some (138, true)), (.bin .neq .num), [.t 140, .c (.int .i64 5)]⟩, ⟨(some 142), none, .pick, [.t 138, .t 141, .c (.bool false)]⟩, ⟨(some 143), none, .move, [.t 142]⟩, ⟨(some 144), (some (143, true)), .move, [.t 8]⟩, ⟨(some 145), none, .pick, [.t 143, .t 144, .c (.bool false)]⟩] none [145])
  (.cond (.t 145) (.seq (.region [⟨(some 2), none, .move, [.c (.int .i64 1)]⟩] none [2])
  .ret)
  .skip))
  (.seq (.region [⟨(some 147), none, .move, [.t 5]⟩, ⟨(some 148), none, (.fieldAddr 4), [.t 4]⟩, ⟨(some 149), none, (.load 2 true), [.t 148]⟩, ⟨(some 150), none, .call, [.t 147, .t 149]⟩, ⟨(some 151), none, (.un .not), [.t 150]⟩, ⟨(some 152), none, .move, [.t 151]⟩, ⟨(some 153), (some (152, false)), (.fieldAddr 0), [.t 4]⟩, ⟨(some 154), (some (152, false)), (.load 1 false), [.t 153]⟩, ⟨(some 155), (some (152, false)), (.bin .eql .num), [.t 154, .c (.int .i64 1)]⟩, ⟨(some 156), (some (152, false)), .move, [.t 155]⟩, ⟨(some 157), (some (156, true)), (.fieldAddr 4), [.t 4]⟩, ⟨(some 158), (some (156, true)), (.fieldAddr 0), [.t 157]⟩, ⟨(some 159), (some (156, true)), (.load 1 false), [.t 158]⟩, ⟨(some 160), (some (156, true)), (.fieldAddr 2), [.t 4]⟩, ⟨(some 161), (some (156, true)), (.fieldAddr 0), [.t 160]⟩, ⟨(some 162), (some (156, true)), (.load 1 false), [.t 161]⟩, ⟨(some 163), (some (156, true)), (.bin .geq .num), [.t 159, .t 162]⟩, ⟨(some 164), (some (152, false)), .pick, [.t 156, .t 163, .c (.bool false)]⟩, ⟨(some 165), none, .pick, [.t 152, .c (.bool true), .t 164]⟩, ⟨(some 146), none, .move, [.t 165]⟩] none [146])
  (.cond (.t 146) (.seq (.region [⟨(some 2), none, .move, [.c (.int .i64 1)]⟩] none [2])
  .ret)
  .skip)))))))
  (.seq (.region [⟨(some 2), none, .move, [.c (.int .i64 0)]⟩] none [2])
  .ret)))))))⟩
theorem ok43 : FunOk Try.prog 43 c43 := ⟨⟨Try.f43, _, Try.func43, rfl, by kernel_rfl, by kernel_rfl, by kernel_rfl, by kernel_rfl⟩, by decide⟩
theorem res43 : c43.res = [.tmp 2] := rfl
def V43 (P : Program) (p : Lab) (Q : VPost) (x0 : AV) (H : Heap) (c : Nat) : Prop :=
  vBox x0 fun w0 =>
  (fun (H0 : Heap) =>
  vFA 2 (.ptr (c :: p) w0.length 0 0) fun v10_2 =>
  vLoad 1 false v10_2 H0 fun v11_3 f3 =>
  vLen v11_3 fun v12_4 =>
  vFA 3 (.ptr (c :: p) w0.length 0 0) fun v13_5 =>
  vLoad 7 true v13_5 H0 fun v14_6 f6 =>
  (fun (H7 : Heap) =>
  (fun (H8 : Heap) =>
  vGen (.store 1) [(.ptr ((c + 7) :: p) 1 0 0), v12_4] H8 ((c + 9) :: p) fun v_9 H9 l9 f9 =>
  vGen (.store 7) [(.ptr ((c + 8) :: p) 7 0 0), v14_6] H9 ((c + 10) :: p) fun v_10 H10 l10 f10 =>
  clashFree [0, 1, 3, 0, 8, 0, 0, 103, 255] [⟨[], ((c + 2) :: p), some []⟩, ⟨[], ((c + 3) :: p), f3⟩, ⟨[], ((c + 4) :: p), some []⟩, ⟨[], ((c + 5) :: p), some []⟩, ⟨[], ((c + 6) :: p), f6⟩, ⟨[((c + 7) :: p)], ((c + 7) :: p), some []⟩, ⟨[((c + 8) :: p)], ((c + 8) :: p), some []⟩, ⟨l9, ((c + 9) :: p), f9⟩, ⟨l10, ((c + 10) :: p), f10⟩] ∧
  vBuild [(.int .i64 0), (.int .i64 0)] [] [] fun v16_13 =>
  (fun (H14 : Heap) =>
  vGen (.store 2) [(.ptr ((c + 14) :: p) 2 0 0), v16_13] H14 ((c + 15) :: p) fun v_15 H15 _ _ =>
  vFA 0 (.ptr ((c + 8) :: p) 7 0 0) fun v18_16 =>
  vLoad 1 false v18_16 H15 fun v19_17 _ =>
  vCall P 68 [v19_17] H15 ((c + 18) :: p) fun v20_18 H18 _ _ =>
  vExt 0 v20_18 fun v21_20 =>
  vExt 1 v20_18 fun v22_21 =>
  vExt 2 v20_18 fun v23_22 =>
  vLoad 1 false (.ptr ((c + 7) :: p) 1 0 0) H18 fun v25_26 _ =>
  vBin .lss .num v25_26 (.int .i64 1) fun v26_27 =>
  vSel v26_27
  (Q .ret [(2, (.int .i64 1))] H18 (c + 45))
  (vLoad 1 false (.ptr ((c + 7) :: p) 1 0 0) H18 fun v28_36 _ =>
  vBin .gtr .num v28_36 (.int .i64 16) fun v29_37 =>
  vSel v29_37
  (Q .ret [(2, (.int .i64 1))] H18 (c + 45))
  (vFA 0 (.ptr (c :: p) w0.length 0 0) fun v32_45 =>
  vLoad 1 false v32_45 H18 fun v33_46 _ =>
  vBin .lss .num v33_46 (.int .i64 0) fun v34_47 =>
  vSel v34_47
  (Q .ret [(2, (.int .i64 1))] H18 (c + 45))
  (vFA 0 (.ptr (c :: p) w0.length 0 0) fun v37_53 =>
  vLoad 1 false v37_53 H18 fun v38_54 _ =>
  vLoad 1 false (.ptr ((c + 7) :: p) 1 0 0) H18 fun v39_55 _ =>
  vBin .geq .num v38_54 v39_55 fun v40_56 =>
  vSel v40_56
  (vSel v40_56
  (Q .ret [(2, (.int .i64 1))] H18 (c + 45))
  (vFA 4 (.ptr ((c + 8) :: p) 7 0 0) fun v131_60 =>
  vLoad 2 true v131_60 H18 fun v132_61 _ =>
  vLoad 2 true (.ptr ((c + 14) :: p) 2 0 0) H18 fun v133_62 _ =>
  vGen (.eqs .eql [.int, .int]) [v132_61, v133_62] H18 ((c + 47) :: p) fun v134_63 H63 _ _ =>
  vSel v134_63
  (vFA 0 (.ptr ((c + 8) :: p) 7 0 0) fun v135_65 =>
  vLoad 1 false v135_65 H63 fun v136_66 _ =>
  vBin .neq .num v136_66 (.int .i64 1) fun v137_67 =>
  vSel v137_67
  (vFA 0 (.ptr ((c + 8) :: p) 7 0 0) fun v139_69 =>
  vLoad 1 false v139_69 H63 fun v140_70 _ =>
  vBin .neq .num v140_70 (.int .i64 5) fun v141_71 =>
  vSel v141_71
  (vSel v22_21
  (Q .ret [(2, (.int .i64 1))] H63 (c + 61))
  (Q .ret [(2, (.int .i64 0))] H63 (c + 61)))
  (Q .ret [(2, (.int .i64 0))] H63 (c + 61)))
  (Q .ret [(2, (.int .i64 0))] H63 (c + 61)))
  (vFA 4 (.ptr ((c + 8) :: p) 7 0 0) fun v148_85 =>
  vLoad 2 true v148_85 H63 fun v149_86 _ =>
  vop P .call [(.fn (.func 66) [] [(.ptr ((c + 7) :: p) 1 0 0)]), v149_86] H63 ((c + 52) :: p) fun v150_87 H87 _ _ =>
  vNot v150_87 fun v151_88 =>
  vSel v151_88
  (Q .ret [(2, (.int .i64 1))] H87 (c + 70))
  (vFA 0 (.ptr ((c + 8) :: p) 7 0 0) fun v153_93 =>
  vLoad 1 false v153_93 H87 fun v154_94 _ =>
  vBin .eql .num v154_94 (.int .i64 1) fun v155_95 =>
  vSel v155_95
  (vFA 4 (.ptr ((c + 8) :: p) 7 0 0) fun v157_97 =>
  vFA 0 v157_97 fun v158_98 =>
  vLoad 1 false v158_98 H87 fun v159_99 _ =>
  vFA 2 (.ptr ((c + 8) :: p) 7 0 0) fun v160_100 =>
  vFA 0 v160_100 fun v161_101 =>
  vLoad 1 false v161_101 H87 fun v162_102 _ =>
  vBin .geq .num v159_99 v162_102 fun v163_103 =>
  vSel v163_103
  (Q .ret [(2, (.int .i64 1))] H87 (c + 70))
  (Q .ret [(2, (.int .i64 0))] H87 (c + 70)))
  (Q .ret [(2, (.int .i64 0))] H87 (c + 70))))))
  (vFA 1 (.ptr (c :: p) w0.length 0 0) fun v42_113 =>
  vLoad 1 false v42_113 H18 fun v43_114 f114 =>
  vBin .lss .num v43_114 (.int .i64 1) fun v44_115 =>
  vSel v44_115
  (clashFree [0, 1, 3, 7, 15, 31, 63, 127, 255, 511, 1023, 2047, 1023, 5119, 16383, 32767, 1023, 66559, 197631, 524287, 1048575, 2097151] [⟨[], ((c + 44) :: p), some []⟩, ⟨[], ((c + 45) :: p), f114⟩, ⟨[], ((c + 46) :: p), some []⟩, ⟨[], ((c + 47) :: p), some []⟩, ⟨[], ((c + 48) :: p), some []⟩, ⟨[], ((c + 49) :: p), some []⟩, ⟨[], ((c + 50) :: p), some []⟩, ⟨[], ((c + 51) :: p), some []⟩, ⟨[], ((c + 52) :: p), some []⟩, ⟨[], ((c + 53) :: p), some []⟩, ⟨[], ((c + 54) :: p), some []⟩, ⟨[], ((c + 55) :: p), some []⟩, ⟨[], ((c + 56) :: p), some []⟩, ⟨[], ((c + 57) :: p), some []⟩, ⟨[], ((c + 58) :: p), some []⟩, ⟨[], ((c + 59) :: p), some []⟩, ⟨[], ((c + 60) :: p), some []⟩, ⟨[], ((c + 61) :: p), some []⟩, ⟨[], ((c + 62) :: p), some []⟩, ⟨[], ((c + 63) :: p), some []⟩, ⟨[], ((c + 64) :: p), some []⟩, ⟨[], ((c + 65) :: p), some []⟩] ∧
  Q .ret [(2, (.int .i64 1))] H18 (c + 67))
  (vFA 1 (.ptr (c :: p) w0.length 0 0) fun v46_122 =>
  vLoad 1 false v46_122 H18 fun v47_123 f123 =>
  vCall P 67 [v47_123] H18 ((c + 50) :: p) fun v48_124 H124 l124 f124 =>
  vNot v48_124 fun v49_125 =>
  vSel v49_125
  (clashFree [0, 1, 3, 7, 15, 31, 63, 127, 255, 511, 1023, 2047, 1023, 5119, 16383, 32767, 1023, 66559, 197631, 524287, 1048575, 2097151] [⟨[], ((c + 44) :: p), some []⟩, ⟨[], ((c + 45) :: p), f114⟩, ⟨[], ((c + 46) :: p), some []⟩, ⟨[], ((c + 47) :: p), some []⟩, ⟨[], ((c + 48) :: p), some []⟩, ⟨[], ((c + 49) :: p), f123⟩, ⟨l124, ((c + 50) :: p), f124⟩, ⟨[], ((c + 51) :: p), some []⟩, ⟨[], ((c + 52) :: p), some []⟩, ⟨[], ((c + 53) :: p), some []⟩, ⟨[], ((c + 54) :: p), some []⟩, ⟨[], ((c + 55) :: p), some []⟩, ⟨[], ((c + 56) :: p), some []⟩, ⟨[], ((c + 57) :: p), some []⟩, ⟨[], ((c + 58) :: p), some []⟩, ⟨[], ((c + 59) :: p), some []⟩, ⟨[], ((c + 60) :: p), some []⟩, ⟨[], ((c + 61) :: p), some []⟩, ⟨[], ((c + 62) :: p), some []⟩, ⟨[], ((c + 63) :: p), some []⟩, ⟨[], ((c + 64) :: p), some []⟩, ⟨[], ((c + 65) :: p), some []⟩] ∧
  Q .ret [(2, (.int .i64 1))] H124 (c + 67))
  (vFA 2 (.ptr (c :: p) w0.length 0 0) fun v52_131 =>
  vLoad 1 false v52_131 H124 fun v53_132 f132 =>
  vFA 0 (.ptr (c :: p) w0.length 0 0) fun v54_133 =>
  vLoad 1 false v54_133 H124 fun v55_134 f134 =>
  vIx 1 v53_132 v55_134 fun v56_135 =>
  vLoad 1 false v56_135 H124 fun v57_136 f136 =>
  vFA 1 (.ptr (c :: p) w0.length 0 0) fun v58_137 =>
  vLoad 1 false v58_137 H124 fun v59_138 f138 =>
  vBin .sub .num v59_138 (.int .i64 1) fun v60_139 =>
  vBin .neq .num v57_136 v60_139 fun v61_140 =>
  clashFree [0, 1, 3, 7, 15, 31, 63, 127, 255, 511, 1023, 2047, 1023, 5119, 16383, 32767, 1023, 66559, 197631, 524287, 1048575, 2097151] [⟨[], ((c + 44) :: p), some []⟩, ⟨[], ((c + 45) :: p), f114⟩, ⟨[], ((c + 46) :: p), some []⟩, ⟨[], ((c + 47) :: p), some []⟩, ⟨[], ((c + 48) :: p), some []⟩, ⟨[], ((c + 49) :: p), f123⟩, ⟨l124, ((c + 50) :: p), f124⟩, ⟨[], ((c + 51) :: p), some []⟩, ⟨[], ((c + 52) :: p), some []⟩, ⟨[], ((c + 53) :: p), some []⟩, ⟨[], ((c + 54) :: p), some []⟩, ⟨[], ((c + 55) :: p), f132⟩, ⟨[], ((c + 56) :: p), some []⟩, ⟨[], ((c + 57) :: p), f134⟩, ⟨[], ((c + 58) :: p), some []⟩, ⟨[], ((c + 59) :: p), f136⟩, ⟨[], ((c + 60) :: p), some []⟩, ⟨[], ((c + 61) :: p), f138⟩, ⟨[], ((c + 62) :: p), some []⟩, ⟨[], ((c + 63) :: p), some []⟩, ⟨[], ((c + 64) :: p), some []⟩, ⟨[], ((c + 65) :: p), some []⟩] ∧
  vSel v61_140
  (vSel v61_140
  (Q .ret [(2, (.int .i64 1))] H124 (c + 67))
  (vFA 4 (.ptr ((c + 8) :: p) 7 0 0) fun v131_144 =>
  vLoad 2 true v131_144 H124 fun v132_145 _ =>
  vLoad 2 true (.ptr ((c + 14) :: p) 2 0 0) H124 fun v133_146 _ =>
  vGen (.eqs .eql [.int, .int]) [v132_145, v133_146] H124 ((c + 69) :: p) fun v134_147 H147 _ _ =>
  vSel v134_147
  (vFA 0 (.ptr ((c + 8) :: p) 7 0 0) fun v135_149 =>
  vLoad 1 false v135_149 H147 fun v136_150 _ =>
  vBin .neq .num v136_150 (.int .i64 1) fun v137_151 =>
  vSel v137_151
  (vFA 0 (.ptr ((c + 8) :: p) 7 0 0) fun v139_153 =>
  vLoad 1 false v139_153 H147 fun v140_154 _ =>
  vBin .neq .num v140_154 (.int .i64 5) fun v141_155 =>
  vSel v141_155
  (vSel v22_21
  (Q .ret [(2, (.int .i64 1))] H147 (c + 83))
  (Q .ret [(2, (.int .i64 0))] H147 (c + 83)))
  (Q .ret [(2, (.int .i64 0))] H147 (c + 83)))
  (Q .ret [(2, (.int .i64 0))] H147 (c + 83)))
  (vFA 4 (.ptr ((c + 8) :: p) 7 0 0) fun v148_169 =>
  vLoad 2 true v148_169 H147 fun v149_170 _ =>
  vop P .call [(.fn (.func 66) [] [(.ptr ((c + 7) :: p) 1 0 0)]), v149_170] H147 ((c + 74) :: p) fun v150_171 H171 _ _ =>
  vNot v150_171 fun v151_172 =>
  vSel v151_172
  (Q .ret [(2, (.int .i64 1))] H171 (c + 92))
  (vFA 0 (.ptr ((c + 8) :: p) 7 0 0) fun v153_177 =>
  vLoad 1 false v153_177 H171 fun v154_178 _ =>
  vBin .eql .num v154_178 (.int .i64 1) fun v155_179 =>
  vSel v155_179
  (vFA 4 (.ptr ((c + 8) :: p) 7 0 0) fun v157_181 =>
  vFA 0 v157_181 fun v158_182 =>
  vLoad 1 false v158_182 H171 fun v159_183 _ =>
  vFA 2 (.ptr ((c + 8) :: p) 7 0 0) fun v160_184 =>
  vFA 0 v160_184 fun v161_185 =>
  vLoad 1 false v161_185 H171 fun v162_186 _ =>
  vBin .geq .num v159_183 v162_186 fun v163_187 =>
  vSel v163_187
  (Q .ret [(2, (.int .i64 1))] H171 (c + 92))
  (Q .ret [(2, (.int .i64 0))] H171 (c + 92)))
  (Q .ret [(2, (.int .i64 0))] H171 (c + 92))))))
  (vFA 2 (.ptr (c :: p) w0.length 0 0) fun v63_197 =>
  vLoad 1 false v63_197 H124 fun v64_198 _ =>
  vCall P 69 [v64_198, (.fn (.func 70) [] [])] H124 ((c + 68) :: p) fun v65_199 H199 _ _ =>
  vSel v65_199
  (vSel v65_199
  (Q .ret [(2, (.int .i64 1))] H199 (c + 71))
  (vFA 4 (.ptr ((c + 8) :: p) 7 0 0) fun v131_202 =>
  vLoad 2 true v131_202 H199 fun v132_203 _ =>
  vLoad 2 true (.ptr ((c + 14) :: p) 2 0 0) H199 fun v133_204 _ =>
  vGen (.eqs .eql [.int, .int]) [v132_203, v133_204] H199 ((c + 73) :: p) fun v134_205 H205 _ _ =>
  vSel v134_205
  (vFA 0 (.ptr ((c + 8) :: p) 7 0 0) fun v135_207 =>
  vLoad 1 false v135_207 H205 fun v136_208 _ =>
  vBin .neq .num v136_208 (.int .i64 1) fun v137_209 =>
  vSel v137_209
  (vFA 0 (.ptr ((c + 8) :: p) 7 0 0) fun v139_211 =>
  vLoad 1 false v139_211 H205 fun v140_212 _ =>
  vBin .neq .num v140_212 (.int .i64 5) fun v141_213 =>
  vSel v141_213
  (vSel v22_21
  (Q .ret [(2, (.int .i64 1))] H205 (c + 87))
  (Q .ret [(2, (.int .i64 0))] H205 (c + 87)))
  (Q .ret [(2, (.int .i64 0))] H205 (c + 87)))
  (Q .ret [(2, (.int .i64 0))] H205 (c + 87)))
  (vFA 4 (.ptr ((c + 8) :: p) 7 0 0) fun v148_227 =>
  vLoad 2 true v148_227 H205 fun v149_228 _ =>
  vop P .call [(.fn (.func 66) [] [(.ptr ((c + 7) :: p) 1 0 0)]), v149_228] H205 ((c + 78) :: p) fun v150_229 H229 _ _ =>
  vNot v150_229 fun v151_230 =>
  vSel v151_230
  (Q .ret [(2, (.int .i64 1))] H229 (c + 96))
  (vFA 0 (.ptr ((c + 8) :: p) 7 0 0) fun v153_235 =>
  vLoad 1 false v153_235 H229 fun v154_236 _ =>
  vBin .eql .num v154_236 (.int .i64 1) fun v155_237 =>
  vSel v155_237
  (vFA 4 (.ptr ((c + 8) :: p) 7 0 0) fun v157_239 =>
  vFA 0 v157_239 fun v158_240 =>
  vLoad 1 false v158_240 H229 fun v159_241 _ =>
  vFA 2 (.ptr ((c + 8) :: p) 7 0 0) fun v160_242 =>
  vFA 0 v160_242 fun v161_243 =>
  vLoad 1 false v161_243 H229 fun v162_244 _ =>
  vBin .geq .num v159_241 v162_244 fun v163_245 =>
  vSel v163_245
  (Q .ret [(2, (.int .i64 1))] H229 (c + 96))
  (Q .ret [(2, (.int .i64 0))] H229 (c + 96)))
  (Q .ret [(2, (.int .i64 0))] H229 (c + 96))))))
  (vFA 0 (.ptr ((c + 8) :: p) 7 0 0) fun v66_255 =>
  vLoad 1 false v66_255 H199 fun v67_256 _ =>
  vBin .lss .num v67_256 (.int .i64 1) fun v68_257 =>
  vSel v68_257
  (Q .ret [(2, (.int .i64 1))] H199 (c + 86))
  (vFA 0 (.ptr ((c + 8) :: p) 7 0 0) fun v70_264 =>
  vLoad 1 false v70_264 H199 fun v71_265 _ =>
  vBin .gtr .num v71_265 (.int .i64 8) fun v72_266 =>
  vSel v72_266
  (Q .ret [(2, (.int .i64 1))] H199 (c + 86))
  (vFA 1 (.ptr ((c + 8) :: p) 7 0 0) fun v75_272 =>
  vLoad 1 false v75_272 H199 fun v76_273 _ =>
  vCall P 67 [v76_273] H199 ((c + 81) :: p) fun v77_274 H274 _ _ =>
  vNot v77_274 fun v78_275 =>
  vSel v78_275
  (vSel v78_275
  (Q .ret [(2, (.int .i64 1))] H274 (c + 86))
  (vFA 4 (.ptr ((c + 8) :: p) 7 0 0) fun v131_279 =>
  vLoad 2 true v131_279 H274 fun v132_280 _ =>
  vLoad 2 true (.ptr ((c + 14) :: p) 2 0 0) H274 fun v133_281 _ =>
  vGen (.eqs .eql [.int, .int]) [v132_280, v133_281] H274 ((c + 88) :: p) fun v134_282 H282 _ _ =>
  vSel v134_282
  (vFA 0 (.ptr ((c + 8) :: p) 7 0 0) fun v135_284 =>
  vLoad 1 false v135_284 H282 fun v136_285 _ =>
  vBin .neq .num v136_285 (.int .i64 1) fun v137_286 =>
  vSel v137_286
  (vFA 0 (.ptr ((c + 8) :: p) 7 0 0) fun v139_288 =>
  vLoad 1 false v139_288 H282 fun v140_289 _ =>
  vBin .neq .num v140_289 (.int .i64 5) fun v141_290 =>
  vSel v141_290
  (vSel v22_21
  (Q .ret [(2, (.int .i64 1))] H282 (c + 102))
  (Q .ret [(2, (.int .i64 0))] H282 (c + 102)))
  (Q .ret [(2, (.int .i64 0))] H282 (c + 102)))
  (Q .ret [(2, (.int .i64 0))] H282 (c + 102)))
  (vFA 4 (.ptr ((c + 8) :: p) 7 0 0) fun v148_304 =>
  vLoad 2 true v148_304 H282 fun v149_305 _ =>
  vop P .call [(.fn (.func 66) [] [(.ptr ((c + 7) :: p) 1 0 0)]), v149_305] H282 ((c + 93) :: p) fun v150_306 H306 _ _ =>
  vNot v150_306 fun v151_307 =>
  vSel v151_307
  (Q .ret [(2, (.int .i64 1))] H306 (c + 111))
  (vFA 0 (.ptr ((c + 8) :: p) 7 0 0) fun v153_312 =>
  vLoad 1 false v153_312 H306 fun v154_313 _ =>
  vBin .eql .num v154_313 (.int .i64 1) fun v155_314 =>
  vSel v155_314
  (vFA 4 (.ptr ((c + 8) :: p) 7 0 0) fun v157_316 =>
  vFA 0 v157_316 fun v158_317 =>
  vLoad 1 false v158_317 H306 fun v159_318 _ =>
  vFA 2 (.ptr ((c + 8) :: p) 7 0 0) fun v160_319 =>
  vFA 0 v160_319 fun v161_320 =>
  vLoad 1 false v161_320 H306 fun v162_321 _ =>
  vBin .geq .num v159_318 v162_321 fun v163_322 =>
  vSel v163_322
  (Q .ret [(2, (.int .i64 1))] H306 (c + 111))
  (Q .ret [(2, (.int .i64 0))] H306 (c + 111)))
  (Q .ret [(2, (.int .i64 0))] H306 (c + 111))))))
  (vSel v21_20
  (vFA 2 (.ptr ((c + 8) :: p) 7 0 0) fun v83_335 =>
  vLoad 2 true v83_335 H274 fun v84_336 _ =>
  vop P .call [(.fn (.func 66) [] [(.ptr ((c + 7) :: p) 1 0 0)]), v84_336] H274 ((c + 90) :: p) fun v85_337 H337 _ _ =>
  vNot v85_337 fun v86_338 =>
  vSel v86_338
  (Q .ret [(2, (.int .i64 1))] H337 (c + 113))
  (vFA 2 (.ptr ((c + 8) :: p) 7 0 0) fun v88_346 =>
  vFA 1 v88_346 fun v89_347 =>
  vLoad 1 false v89_347 H337 fun v90_348 _ =>
  vFA 0 (.ptr (c :: p) w0.length 0 0) fun v91_349 =>
  vLoad 1 false v91_349 H337 fun v92_350 _ =>
  vBin .neq .num v90_348 v92_350 fun v93_351 =>
  vSel v93_351
  (Q .ret [(2, (.int .i64 1))] H337 (c + 113))
  (vNot v21_20 fun v98_359 =>
  vSel v98_359
  (vFA 2 (.ptr ((c + 8) :: p) 7 0 0) fun v100_361 =>
  vLoad 2 true v100_361 H337 fun v101_362 _ =>
  vLoad 2 true (.ptr ((c + 14) :: p) 2 0 0) H337 fun v102_363 _ =>
  vGen (.eqs .neq [.int, .int]) [v101_362, v102_363] H337 ((c + 108) :: p) fun v103_364 H364 _ _ =>
  vSel v103_364
  (vSel v103_364
  (Q .ret [(2, (.int .i64 1))] H364 (c + 113))
  (vFA 4 (.ptr ((c + 8) :: p) 7 0 0) fun v131_369 =>
  vLoad 2 true v131_369 H364 fun v132_370 _ =>
  vLoad 2 true (.ptr ((c + 14) :: p) 2 0 0) H364 fun v133_371 _ =>
  vGen (.eqs .eql [.int, .int]) [v132_370, v133_371] H364 ((c + 115) :: p) fun v134_372 H372 _ _ =>
  vSel v134_372
  (vFA 0 (.ptr ((c + 8) :: p) 7 0 0) fun v135_374 =>
  vLoad 1 false v135_374 H372 fun v136_375 _ =>
  vBin .neq .num v136_375 (.int .i64 1) fun v137_376 =>
  vSel v137_376
  (vFA 0 (.ptr ((c + 8) :: p) 7 0 0) fun v139_378 =>
  vLoad 1 false v139_378 H372 fun v140_379 _ =>
  vBin .neq .num v140_379 (.int .i64 5) fun v141_380 =>
  vSel v141_380
  (vSel v22_21
  (Q .ret [(2, (.int .i64 1))] H372 (c + 129))
  (Q .ret [(2, (.int .i64 0))] H372 (c + 129)))
  (Q .ret [(2, (.int .i64 0))] H372 (c + 129)))
  (Q .ret [(2, (.int .i64 0))] H372 (c + 129)))
  (vFA 4 (.ptr ((c + 8) :: p) 7 0 0) fun v148_394 =>
  vLoad 2 true v148_394 H372 fun v149_395 _ =>
  vop P .call [(.fn (.func 66) [] [(.ptr ((c + 7) :: p) 1 0 0)]), v149_395] H372 ((c + 120) :: p) fun v150_396 H396 _ _ =>
  vNot v150_396 fun v151_397 =>
  vSel v151_397
  (Q .ret [(2, (.int .i64 1))] H396 (c + 138))
  (vFA 0 (.ptr ((c + 8) :: p) 7 0 0) fun v153_402 =>
  vLoad 1 false v153_402 H396 fun v154_403 _ =>
  vBin .eql .num v154_403 (.int .i64 1) fun v155_404 =>
  vSel v155_404
  (vFA 4 (.ptr ((c + 8) :: p) 7 0 0) fun v157_406 =>
  vFA 0 v157_406 fun v158_407 =>
  vLoad 1 false v158_407 H396 fun v159_408 _ =>
  vFA 2 (.ptr ((c + 8) :: p) 7 0 0) fun v160_409 =>
  vFA 0 v160_409 fun v161_410 =>
  vLoad 1 false v161_410 H396 fun v162_411 _ =>
  vBin .geq .num v159_408 v162_411 fun v163_412 =>
  vSel v163_412
  (Q .ret [(2, (.int .i64 1))] H396 (c + 138))
  (Q .ret [(2, (.int .i64 0))] H396 (c + 138)))
  (Q .ret [(2, (.int .i64 0))] H396 (c + 138))))))
  (vSel v23_22
  (vFA 6 (.ptr ((c + 8) :: p) 7 0 0) fun v108_424 =>
  vLoad 1 false v108_424 H364 fun v109_425 _ =>
  vCall P 71 [v109_425] H364 ((c + 116) :: p) fun v110_426 H426 _ _ =>
  vNot v110_426 fun v111_427 =>
  vSel v111_427
  (Q .ret [(2, (.int .i64 1))] H426 (c + 130))
  (vNot v23_22 fun v115_434 =>
  vSel v115_434
  (vFA 6 (.ptr ((c + 8) :: p) 7 0 0) fun v117_436 =>
  vLoad 1 false v117_436 H426 fun v118_437 _ =>
  vBin .neq .num v118_437 (.int .i64 0) fun v119_438 =>
  vSel v119_438
  (vSel v119_438
  (Q .ret [(2, (.int .i64 1))] H426 (c + 130))
  (vFA 4 (.ptr ((c + 8) :: p) 7 0 0) fun v131_443 =>
  vLoad 2 true v131_443 H426 fun v132_444 _ =>
  vLoad 2 true (.ptr ((c + 14) :: p) 2 0 0) H426 fun v133_445 _ =>
  vGen (.eqs .eql [.int, .int]) [v132_444, v133_445] H426 ((c + 132) :: p) fun v134_446 H446 _ _ =>
  vSel v134_446
  (vFA 0 (.ptr ((c + 8) :: p) 7 0 0) fun v135_448 =>
  vLoad 1 false v135_448 H446 fun v136_449 _ =>
  vBin .neq .num v136_449 (.int .i64 1) fun v137_450 =>
  vSel v137_450
  (vFA 0 (.ptr ((c + 8) :: p) 7 0 0) fun v139_452 =>
  vLoad 1 false v139_452 H446 fun v140_453 _ =>
  vBin .neq .num v140_453 (.int .i64 5) fun v141_454 =>
  vSel v141_454
  (vSel v22_21
  (Q .ret [(2, (.int .i64 1))] H446 (c + 146))
  (Q .ret [(2, (.int .i64 0))] H446 (c + 146)))
  (Q .ret [(2, (.int .i64 0))] H446 (c + 146)))
  (Q .ret [(2, (.int .i64 0))] H446 (c + 146)))
  (vFA 4 (.ptr ((c + 8) :: p) 7 0 0) fun v148_468 =>
  vLoad 2 true v148_468 H446 fun v149_469 _ =>
  vop P .call [(.fn (.func 66) [] [(.ptr ((c + 7) :: p) 1 0 0)]), v149_469] H446 ((c + 137) :: p) fun v150_470 H470 _ _ =>
  vNot v150_470 fun v151_471 =>
  vSel v151_471
  (Q .ret [(2, (.int .i64 1))] H470 (c + 155))
  (vFA 0 (.ptr ((c + 8) :: p) 7 0 0) fun v153_476 =>
  vLoad 1 false v153_476 H470 fun v154_477 _ =>
  vBin .eql .num v154_477 (.int .i64 1) fun v155_478 =>
  vSel v155_478
  (vFA 4 (.ptr ((c + 8) :: p) 7 0 0) fun v157_480 =>
  vFA 0 v157_480 fun v158_481 =>
  vLoad 1 false v158_481 H470 fun v159_482 _ =>
  vFA 2 (.ptr ((c + 8) :: p) 7 0 0) fun v160_483 =>
  vFA 0 v160_483 fun v161_484 =>
  vLoad 1 false v161_484 H470 fun v162_485 _ =>
  vBin .geq .num v159_482 v162_485 fun v163_486 =>
  vSel v163_486
  (Q .ret [(2, (.int .i64 1))] H470 (c + 155))
  (Q .ret [(2, (.int .i64 0))] H470 (c + 155)))
  (Q .ret [(2, (.int .i64 0))] H470 (c + 155))))))
  (vNot v22_21 fun v123_497 =>
  vSel v123_497
  (vFA 4 (.ptr ((c + 8) :: p) 7 0 0) fun v125_499 =>
  vLoad 2 true v125_499 H426 fun v126_500 _ =>
  vLoad 2 true (.ptr ((c + 14) :: p) 2 0 0) H426 fun v127_501 _ =>
  vGen (.eqs .neq [.int, .int]) [v126_500, v127_501] H426 ((c + 135) :: p) fun v128_502 H502 _ _ =>
  vSel v128_502
  (Q .ret [(2, (.int .i64 1))] H502 (c + 139))
  (vFA 4 (.ptr ((c + 8) :: p) 7 0 0) fun v131_506 =>
  vLoad 2 true v131_506 H502 fun v132_507 _ =>
  vLoad 2 true (.ptr ((c + 14) :: p) 2 0 0) H502 fun v133_508 _ =>
  vGen (.eqs .eql [.int, .int]) [v132_507, v133_508] H502 ((c + 141) :: p) fun v134_509 H509 _ _ =>
  vSel v134_509
  (vFA 0 (.ptr ((c + 8) :: p) 7 0 0) fun v135_511 =>
  vLoad 1 false v135_511 H509 fun v136_512 _ =>
  vBin .neq .num v136_512 (.int .i64 1) fun v137_513 =>
  vSel v137_513
  (vFA 0 (.ptr ((c + 8) :: p) 7 0 0) fun v139_515 =>
  vLoad 1 false v139_515 H509 fun v140_516 _ =>
  vBin .neq .num v140_516 (.int .i64 5) fun v141_517 =>
  vSel v141_517
  (vSel v22_21
  (Q .ret [(2, (.int .i64 1))] H509 (c + 155))
  (Q .ret [(2, (.int .i64 0))] H509 (c + 155)))
  (Q .ret [(2, (.int .i64 0))] H509 (c + 155)))
  (Q .ret [(2, (.int .i64 0))] H509 (c + 155)))
  (vFA 4 (.ptr ((c + 8) :: p) 7 0 0) fun v148_531 =>
  vLoad 2 true v148_531 H509 fun v149_532 _ =>
  vop P .call [(.fn (.func 66) [] [(.ptr ((c + 7) :: p) 1 0 0)]), v149_532] H509 ((c + 146) :: p) fun v150_533 H533 _ _ =>
  vNot v150_533 fun v151_534 =>
  vSel v151_534
  (Q .ret [(2, (.int .i64 1))] H533 (c + 164))
  (vFA 0 (.ptr ((c + 8) :: p) 7 0 0) fun v153_539 =>
  vLoad 1 false v153_539 H533 fun v154_540 _ =>
  vBin .eql .num v154_540 (.int .i64 1) fun v155_541 =>
  vSel v155_541
  (vFA 4 (.ptr ((c + 8) :: p) 7 0 0) fun v157_543 =>
  vFA 0 v157_543 fun v158_544 =>
  vLoad 1 false v158_544 H533 fun v159_545 _ =>
  vFA 2 (.ptr ((c + 8) :: p) 7 0 0) fun v160_546 =>
  vFA 0 v160_546 fun v161_547 =>
  vLoad 1 false v161_547 H533 fun v162_548 _ =>
  vBin .geq .num v159_545 v162_548 fun v163_549 =>
  vSel v163_549
  (Q .ret [(2, (.int .i64 1))] H533 (c + 164))
  (Q .ret [(2, (.int .i64 0))] H533 (c + 164)))
  (Q .ret [(2, (.int .i64 0))] H533 (c + 164))))))
  (vFA 4 (.ptr ((c + 8) :: p) 7 0 0) fun v131_561 =>
  vLoad 2 true v131_561 H426 fun v132_562 _ =>
  vLoad 2 true (.ptr ((c + 14) :: p) 2 0 0) H426 fun v133_563 _ =>
  vGen (.eqs .eql [.int, .int]) [v132_562, v133_563] H426 ((c + 141) :: p) fun v134_564 H564 _ _ =>
  vSel v134_564
  (vFA 0 (.ptr ((c + 8) :: p) 7 0 0) fun v135_566 =>
  vLoad 1 false v135_566 H564 fun v136_567 _ =>
  vBin .neq .num v136_567 (.int .i64 1) fun v137_568 =>
  vSel v137_568
  (vFA 0 (.ptr ((c + 8) :: p) 7 0 0) fun v139_570 =>
  vLoad 1 false v139_570 H564 fun v140_571 _ =>
  vBin .neq .num v140_571 (.int .i64 5) fun v141_572 =>
  vSel v141_572
  (vSel v22_21
  (Q .ret [(2, (.int .i64 1))] H564 (c + 155))
  (Q .ret [(2, (.int .i64 0))] H564 (c + 155)))
  (Q .ret [(2, (.int .i64 0))] H564 (c + 155)))
  (Q .ret [(2, (.int .i64 0))] H564 (c + 155)))
  (vFA 4 (.ptr ((c + 8) :: p) 7 0 0) fun v148_586 =>
  vLoad 2 true v148_586 H564 fun v149_587 _ =>
  vop P .call [(.fn (.func 66) [] [(.ptr ((c + 7) :: p) 1 0 0)]), v149_587] H564 ((c + 146) :: p) fun v150_588 H588 _ _ =>
  vNot v150_588 fun v151_589 =>
  vSel v151_589
  (Q .ret [(2, (.int .i64 1))] H588 (c + 164))
  (vFA 0 (.ptr ((c + 8) :: p) 7 0 0) fun v153_594 =>
  vLoad 1 false v153_594 H588 fun v154_595 _ =>
  vBin .eql .num v154_595 (.int .i64 1) fun v155_596 =>
  vSel v155_596
  (vFA 4 (.ptr ((c + 8) :: p) 7 0 0) fun v157_598 =>
  vFA 0 v157_598 fun v158_599 =>
  vLoad 1 false v158_599 H588 fun v159_600 _ =>
  vFA 2 (.ptr ((c + 8) :: p) 7 0 0) fun v160_601 =>
  vFA 0 v160_601 fun v161_602 =>
  vLoad 1 false v161_602 H588 fun v162_603 _ =>
  vBin .geq .num v159_600 v162_603 fun v163_604 =>
  vSel v163_604
  (Q .ret [(2, (.int .i64 1))] H588 (c + 164))
  (Q .ret [(2, (.int .i64 0))] H588 (c + 164)))
  (Q .ret [(2, (.int .i64 0))] H588 (c + 164)))))))
  (vNot v22_21 fun v123_618 =>
  vSel v123_618
  (vFA 4 (.ptr ((c + 8) :: p) 7 0 0) fun v125_620 =>
  vLoad 2 true v125_620 H426 fun v126_621 _ =>
  vLoad 2 true (.ptr ((c + 14) :: p) 2 0 0) H426 fun v127_622 _ =>
  vGen (.eqs .neq [.int, .int]) [v126_621, v127_622] H426 ((c + 135) :: p) fun v128_623 H623 _ _ =>
  vSel v128_623
  (Q .ret [(2, (.int .i64 1))] H623 (c + 139))
  (vFA 4 (.ptr ((c + 8) :: p) 7 0 0) fun v131_627 =>
  vLoad 2 true v131_627 H623 fun v132_628 _ =>
  vLoad 2 true (.ptr ((c + 14) :: p) 2 0 0) H623 fun v133_629 _ =>
  vGen (.eqs .eql [.int, .int]) [v132_628, v133_629] H623 ((c + 141) :: p) fun v134_630 H630 _ _ =>
  vSel v134_630
  (vFA 0 (.ptr ((c + 8) :: p) 7 0 0) fun v135_632 =>
  vLoad 1 false v135_632 H630 fun v136_633 _ =>
  vBin .neq .num v136_633 (.int .i64 1) fun v137_634 =>
  vSel v137_634
  (vFA 0 (.ptr ((c + 8) :: p) 7 0 0) fun v139_636 =>
  vLoad 1 false v139_636 H630 fun v140_637 _ =>
  vBin .neq .num v140_637 (.int .i64 5) fun v141_638 =>
  vSel v141_638
  (vSel v22_21
  (Q .ret [(2, (.int .i64 1))] H630 (c + 155))
  (Q .ret [(2, (.int .i64 0))] H630 (c + 155)))
  (Q .ret [(2, (.int .i64 0))] H630 (c + 155)))
  (Q .ret [(2, (.int .i64 0))] H630 (c + 155)))
  (vFA 4 (.ptr ((c + 8) :: p) 7 0 0) fun v148_652 =>
  vLoad 2 true v148_652 H630 fun v149_653 _ =>
  vop P .call [(.fn (.func 66) [] [(.ptr ((c + 7) :: p) 1 0 0)]), v149_653] H630 ((c + 146) :: p) fun v150_654 H654 _ _ =>
  vNot v150_654 fun v151_655 =>
  vSel v151_655
  (Q .ret [(2, (.int .i64 1))] H654 (c + 164))
  (vFA 0 (.ptr ((c + 8) :: p) 7 0 0) fun v153_660 =>
  vLoad 1 false v153_660 H654 fun v154_661 _ =>
  vBin .eql .num v154_661 (.int .i64 1) fun v155_662 =>
  vSel v155_662
  (vFA 4 (.ptr ((c + 8) :: p) 7 0 0) fun v157_664 =>
  vFA 0 v157_664 fun v158_665 =>
  vLoad 1 false v158_665 H654 fun v159_666 _ =>
  vFA 2 (.ptr ((c + 8) :: p) 7 0 0) fun v160_667 =>
  vFA 0 v160_667 fun v161_668 =>
  vLoad 1 false v161_668 H654 fun v162_669 _ =>
  vBin .geq .num v159_666 v162_669 fun v163_670 =>
  vSel v163_670
  (Q .ret [(2, (.int .i64 1))] H654 (c + 164))
  (Q .ret [(2, (.int .i64 0))] H654 (c + 164)))
  (Q .ret [(2, (.int .i64 0))] H654 (c + 164))))))
  (vFA 4 (.ptr ((c + 8) :: p) 7 0 0) fun v131_682 =>
  vLoad 2 true v131_682 H426 fun v132_683 _ =>
  vLoad 2 true (.ptr ((c + 14) :: p) 2 0 0) H426 fun v133_684 _ =>
  vGen (.eqs .eql [.int, .int]) [v132_683, v133_684] H426 ((c + 141) :: p) fun v134_685 H685 _ _ =>
  vSel v134_685
  (vFA 0 (.ptr ((c + 8) :: p) 7 0 0) fun v135_687 =>
  vLoad 1 false v135_687 H685 fun v136_688 _ =>
  vBin .neq .num v136_688 (.int .i64 1) fun v137_689 =>
  vSel v137_689
  (vFA 0 (.ptr ((c + 8) :: p) 7 0 0) fun v139_691 =>
  vLoad 1 false v139_691 H685 fun v140_692 _ =>
  vBin .neq .num v140_692 (.int .i64 5) fun v141_693 =>
  vSel v141_693
  (vSel v22_21
  (Q .ret [(2, (.int .i64 1))] H685 (c + 155))
  (Q .ret [(2, (.int .i64 0))] H685 (c + 155)))
  (Q .ret [(2, (.int .i64 0))] H685 (c + 155)))
  (Q .ret [(2, (.int .i64 0))] H685 (c + 155)))
  (vFA 4 (.ptr ((c + 8) :: p) 7 0 0) fun v148_707 =>
  vLoad 2 true v148_707 H685 fun v149_708 _ =>
  vop P .call [(.fn (.func 66) [] [(.ptr ((c + 7) :: p) 1 0 0)]), v149_708] H685 ((c + 146) :: p) fun v150_709 H709 _ _ =>
  vNot v150_709 fun v151_710 =>
  vSel v151_710
  (Q .ret [(2, (.int .i64 1))] H709 (c + 164))
  (vFA 0 (.ptr ((c + 8) :: p) 7 0 0) fun v153_715 =>
  vLoad 1 false v153_715 H709 fun v154_716 _ =>
  vBin .eql .num v154_716 (.int .i64 1) fun v155_717 =>
  vSel v155_717
  (vFA 4 (.ptr ((c + 8) :: p) 7 0 0) fun v157_719 =>
  vFA 0 v157_719 fun v158_720 =>
  vLoad 1 false v158_720 H709 fun v159_721 _ =>
  vFA 2 (.ptr ((c + 8) :: p) 7 0 0) fun v160_722 =>
  vFA 0 v160_722 fun v161_723 =>
  vLoad 1 false v161_723 H709 fun v162_724 _ =>
  vBin .geq .num v159_721 v162_724 fun v163_725 =>
  vSel v163_725
  (Q .ret [(2, (.int .i64 1))] H709 (c + 164))
  (Q .ret [(2, (.int .i64 0))] H709 (c + 164)))
  (Q .ret [(2, (.int .i64 0))] H709 (c + 164))))))))
  (vNot v23_22 fun v115_738 =>
  vSel v115_738
  (vFA 6 (.ptr ((c + 8) :: p) 7 0 0) fun v117_740 =>
  vLoad 1 false v117_740 H364 fun v118_741 _ =>
  vBin .neq .num v118_741 (.int .i64 0) fun v119_742 =>
  vSel v119_742
  (vSel v119_742
  (Q .ret [(2, (.int .i64 1))] H364 (c + 130))
  (vFA 4 (.ptr ((c + 8) :: p) 7 0 0) fun v131_747 =>
  vLoad 2 true v131_747 H364 fun v132_748 _ =>
  vLoad 2 true (.ptr ((c + 14) :: p) 2 0 0) H364 fun v133_749 _ =>
  vGen (.eqs .eql [.int, .int]) [v132_748, v133_749] H364 ((c + 132) :: p) fun v134_750 H750 _ _ =>
  vSel v134_750
  (vFA 0 (.ptr ((c + 8) :: p) 7 0 0) fun v135_752 =>
  vLoad 1 false v135_752 H750 fun v136_753 _ =>
  vBin .neq .num v136_753 (.int .i64 1) fun v137_754 =>
  vSel v137_754
  (vFA 0 (.ptr ((c + 8) :: p) 7 0 0) fun v139_756 =>
  vLoad 1 false v139_756 H750 fun v140_757 _ =>
  vBin .neq .num v140_757 (.int .i64 5) fun v141_758 =>
  vSel v141_758
  (vSel v22_21
  (Q .ret [(2, (.int .i64 1))] H750 (c + 146))
  (Q .ret [(2, (.int .i64 0))] H750 (c + 146)))
  (Q .ret [(2, (.int .i64 0))] H750 (c + 146)))
  (Q .ret [(2, (.int .i64 0))] H750 (c + 146)))
  (vFA 4 (.ptr ((c + 8) :: p) 7 0 0) fun v148_772 =>
  vLoad 2 true v148_772 H750 fun v149_773 _ =>
  vop P .call [(.fn (.func 66) [] [(.ptr ((c + 7) :: p) 1 0 0)]), v149_773] H750 ((c + 137) :: p) fun v150_774 H774 _ _ =>
  vNot v150_774 fun v151_775 =>
  vSel v151_775
  (Q .ret [(2, (.int .i64 1))] H774 (c + 155))
  (vFA 0 (.ptr ((c + 8) :: p) 7 0 0) fun v153_780 =>
  vLoad 1 false v153_780 H774 fun v154_781 _ =>
  vBin .eql .num v154_781 (.int .i64 1) fun v155_782 =>
  vSel v155_782
  (vFA 4 (.ptr ((c + 8) :: p) 7 0 0) fun v157_784 =>
  vFA 0 v157_784 fun v158_785 =>
  vLoad 1 false v158_785 H774 fun v159_786 _ =>
  vFA 2 (.ptr ((c + 8) :: p) 7 0 0) fun v160_787 =>
  vFA 0 v160_787 fun v161_788 =>
  vLoad 1 false v161_788 H774 fun v162_789 _ =>
  vBin .geq .num v159_786 v162_789 fun v163_790 =>
  vSel v163_790
  (Q .ret [(2, (.int .i64 1))] H774 (c + 155))
  (Q .ret [(2, (.int .i64 0))] H774 (c + 155)))
  (Q .ret [(2, (.int .i64 0))] H774 (c + 155))))))
  (vNot v22_21 fun v123_801 =>
  vSel v123_801
  (vFA 4 (.ptr ((c + 8) :: p) 7 0 0) fun v125_803 =>
  vLoad 2 true v125_803 H364 fun v126_804 _ =>
  vLoad 2 true (.ptr ((c + 14) :: p) 2 0 0) H364 fun v127_805 _ =>
  vGen (.eqs .neq [.int, .int]) [v126_804, v127_805] H364 ((c + 135) :: p) fun v128_806 H806 _ _ =>
  vSel v128_806
  (Q .ret [(2, (.int .i64 1))] H806 (c + 139))
  (vFA 4 (.ptr ((c + 8) :: p) 7 0 0) fun v131_810 =>
  vLoad 2 true v131_810 H806 fun v132_811 _ =>
  vLoad 2 true (.ptr ((c + 14) :: p) 2 0 0) H806 fun v133_812 _ =>
  vGen (.eqs .eql [.int, .int]) [v132_811, v133_812] H806 ((c + 141) :: p) fun v134_813 H813 _ _ =>
  vSel v134_813
  (vFA 0 (.ptr ((c + 8) :: p) 7 0 0) fun v135_815 =>
  vLoad 1 false v135_815 H813 fun v136_816 _ =>
  vBin .neq .num v136_816 (.int .i64 1) fun v137_817 =>
  vSel v137_817
  (vFA 0 (.ptr ((c + 8) :: p) 7 0 0) fun v139_819 =>
  vLoad 1 false v139_819 H813 fun v140_820 _ =>
  vBin .neq .num v140_820 (.int .i64 5) fun v141_821 =>
  vSel v141_821
  (vSel v22_21
  (Q .ret [(2, (.int .i64 1))] H813 (c + 155))
  (Q .ret [(2, (.int .i64 0))] H813 (c + 155)))
  (Q .ret [(2, (.int .i64 0))] H813 (c + 155)))
  (Q .ret [(2, (.int .i64 0))] H813 (c + 155)))
  (vFA 4 (.ptr ((c + 8) :: p) 7 0 0) fun v148_835 =>
  vLoad 2 true v148_835 H813 fun v149_836 _ =>
  vop P .call [(.fn (.func 66) [] [(.ptr ((c + 7) :: p) 1 0 0)]), v149_836] H813 ((c + 146) :: p) fun v150_837 H837 _ _ =>
  vNot v150_837 fun v151_838 =>
  vSel v151_838
  (Q .ret [(2, (.int .i64 1))] H837 (c + 164))
  (vFA 0 (.ptr ((c + 8) :: p) 7 0 0) fun v153_843 =>
  vLoad 1 false v153_843 H837 fun v154_844 _ =>
  vBin .eql .num v154_844 (.int .i64 1) fun v155_845 =>
  vSel v155_845
  (vFA 4 (.ptr ((c + 8) :: p) 7 0 0) fun v157_847 =>
  vFA 0 v157_847 fun v158_848 =>
  vLoad 1 false v158_848 H837 fun v159_849 _ =>
  vFA 2 (.ptr ((c + 8) :: p) 7 0 0) fun v160_850 =>
  vFA 0 v160_850 fun v161_851 =>
  vLoad 1 false v161_851 H837 fun v162_852 _ =>
  vBin .geq .num v159_849 v162_852 fun v163_853 =>
  vSel v163_853
  (Q .ret [(2, (.int .i64 1))] H837 (c + 164))
  (Q .ret [(2, (.int .i64 0))] H837 (c + 164)))
  (Q .ret [(2, (.int .i64 0))] H837 (c + 164))))))
  (vFA 4 (.ptr ((c + 8) :: p) 7 0 0) fun v131_865 =>
  vLoad 2 true v131_865 H364 fun v132_866 _ =>
  vLoad 2 true (.ptr ((c + 14) :: p) 2 0 0) H364 fun v133_867 _ =>
  vGen (.eqs .eql [.int, .int]) [v132_866, v133_867] H364 ((c + 141) :: p) fun v134_868 H868 _ _ =>
  vSel v134_868
  (vFA 0 (.ptr ((c + 8) :: p) 7 0 0) fun v135_870 =>
  vLoad 1 false v135_870 H868 fun v136_871 _ =>
  vBin .neq .num v136_871 (.int .i64 1) fun v137_872 =>
  vSel v137_872
  (vFA 0 (.ptr ((c + 8) :: p) 7 0 0) fun v139_874 =>
  vLoad 1 false v139_874 H868 fun v140_875 _ =>
  vBin .neq .num v140_875 (.int .i64 5) fun v141_876 =>
  vSel v141_876
  (vSel v22_21
  (Q .ret [(2, (.int .i64 1))] H868 (c + 155))
  (Q .ret [(2, (.int .i64 0))] H868 (c + 155)))
  (Q .ret [(2, (.int .i64 0))] H868 (c + 155)))
  (Q .ret [(2, (.int .i64 0))] H868 (c + 155)))
  (vFA 4 (.ptr ((c + 8) :: p) 7 0 0) fun v148_890 =>
  vLoad 2 true v148_890 H868 fun v149_891 _ =>
  vop P .call [(.fn (.func 66) [] [(.ptr ((c + 7) :: p) 1 0 0)]), v149_891] H868 ((c + 146) :: p) fun v150_892 H892 _ _ =>
  vNot v150_892 fun v151_893 =>
  vSel v151_893
  (Q .ret [(2, (.int .i64 1))] H892 (c + 164))
  (vFA 0 (.ptr ((c + 8) :: p) 7 0 0) fun v153_898 =>
  vLoad 1 false v153_898 H892 fun v154_899 _ =>
  vBin .eql .num v154_899 (.int .i64 1) fun v155_900 =>
  vSel v155_900
  (vFA 4 (.ptr ((c + 8) :: p) 7 0 0) fun v157_902 =>
  vFA 0 v157_902 fun v158_903 =>
  vLoad 1 false v158_903 H892 fun v159_904 _ =>
  vFA 2 (.ptr ((c + 8) :: p) 7 0 0) fun v160_905 =>
  vFA 0 v160_905 fun v161_906 =>
  vLoad 1 false v161_906 H892 fun v162_907 _ =>
  vBin .geq .num v159_904 v162_907 fun v163_908 =>
  vSel v163_908
  (Q .ret [(2, (.int .i64 1))] H892 (c + 164))
  (Q .ret [(2, (.int .i64 0))] H892 (c + 164)))
  (Q .ret [(2, (.int .i64 0))] H892 (c + 164)))))))
  (vNot v22_21 fun v123_922 =>
  vSel v123_922
  (vFA 4 (.ptr ((c + 8) :: p) 7 0 0) fun v125_924 =>
  vLoad 2 true v125_924 H364 fun v126_925 _ =>
  vLoad 2 true (.ptr ((c + 14) :: p) 2 0 0) H364 fun v127_926 _ =>
  vGen (.eqs .neq [.int, .int]) [v126_925, v127_926] H364 ((c + 135) :: p) fun v128_927 H927 _ _ =>
  vSel v128_927
  (Q .ret [(2, (.int .i64 1))] H927 (c + 139))
  (vFA 4 (.ptr ((c + 8) :: p) 7 0 0) fun v131_931 =>
  vLoad 2 true v131_931 H927 fun v132_932 _ =>
  vLoad 2 true (.ptr ((c + 14) :: p) 2 0 0) H927 fun v133_933 _ =>
  vGen (.eqs .eql [.int, .int]) [v132_932, v133_933] H927 ((c + 141) :: p) fun v134_934 H934 _ _ =>
  vSel v134_934
  (vFA 0 (.ptr ((c + 8) :: p) 7 0 0) fun v135_936 =>
  vLoad 1 false v135_936 H934 fun v136_937 _ =>
  vBin .neq .num v136_937 (.int .i64 1) fun v137_938 =>
  vSel v137_938
  (vFA 0 (.ptr ((c + 8) :: p) 7 0 0) fun v139_940 =>
  vLoad 1 false v139_940 H934 fun v140_941 _ =>
  vBin .neq .num v140_941 (.int .i64 5) fun v141_942 =>
  vSel v141_942
  (vSel v22_21
  (Q .ret [(2, (.int .i64 1))] H934 (c + 155))
  (Q .ret [(2, (.int .i64 0))] H934 (c + 155)))
  (Q .ret [(2, (.int .i64 0))] H934 (c + 155)))
  (Q .ret [(2, (.int .i64 0))] H934 (c + 155)))
  (vFA 4 (.ptr ((c + 8) :: p) 7 0 0) fun v148_956 =>
  vLoad 2 true v148_956 H934 fun v149_957 _ =>
  vop P .call [(.fn (.func 66) [] [(.ptr ((c + 7) :: p) 1 0 0)]), v149_957] H934 ((c + 146) :: p) fun v150_958 H958 _ _ =>
  vNot v150_958 fun v151_959 =>
  vSel v151_959
  (Q .ret [(2, (.int .i64 1))] H958 (c + 164))
  (vFA 0 (.ptr ((c + 8) :: p) 7 0 0) fun v153_964 =>
  vLoad 1 false v153_964 H958 fun v154_965 _ =>
  vBin .eql .num v154_965 (.int .i64 1) fun v155_966 =>
  vSel v155_966
  (vFA 4 (.ptr ((c + 8) :: p) 7 0 0) fun v157_968 =>
  vFA 0 v157_968 fun v158_969 =>
  vLoad 1 false v158_969 H958 fun v159_970 _ =>
  vFA 2 (.ptr ((c + 8) :: p) 7 0 0) fun v160_971 =>
  vFA 0 v160_971 fun v161_972 =>
  vLoad 1 false v161_972 H958 fun v162_973 _ =>
  vBin .geq .num v159_970 v162_973 fun v163_974 =>
  vSel v163_974
  (Q .ret [(2, (.int .i64 1))] H958 (c + 164))
  (Q .ret [(2, (.int .i64 0))] H958 (c + 164)))
  (Q .ret [(2, (.int .i64 0))] H958 (c + 164))))))
  (vFA 4 (.ptr ((c + 8) :: p) 7 0 0) fun v131_986 =>
  vLoad 2 true v131_986 H364 fun v132_987 _ =>
  vLoad 2 true (.ptr ((c + 14) :: p) 2 0 0) H364 fun v133_988 _ =>
  vGen (.eqs .eql [.int, .int]) [v132_987, v133_988] H364 ((c + 141) :: p) fun v134_989 H989 _ _ =>
  vSel v134_989
  (vFA 0 (.ptr ((c + 8) :: p) 7 0 0) fun v135_991 =>
  vLoad 1 false v135_991 H989 fun v136_992 _ =>
  vBin .neq .num v136_992 (.int .i64 1) fun v137_993 =>
  vSel v137_993
  (vFA 0 (.ptr ((c + 8) :: p) 7 0 0) fun v139_995 =>
  vLoad 1 false v139_995 H989 fun v140_996 _ =>
  vBin .neq .num v140_996 (.int .i64 5) fun v141_997 =>
  vSel v141_997
  (vSel v22_21
  (Q .ret [(2, (.int .i64 1))] H989 (c + 155))
  (Q .ret [(2, (.int .i64 0))] H989 (c + 155)))
  (Q .ret [(2, (.int .i64 0))] H989 (c + 155)))
  (Q .ret [(2, (.int .i64 0))] H989 (c + 155)))
  (vFA 4 (.ptr ((c + 8) :: p) 7 0 0) fun v148_1011 =>
  vLoad 2 true v148_1011 H989 fun v149_1012 _ =>
  vop P .call [(.fn (.func 66) [] [(.ptr ((c + 7) :: p) 1 0 0)]), v149_1012] H989 ((c + 146) :: p) fun v150_1013 H1013 _ _ =>
  vNot v150_1013 fun v151_1014 =>
  vSel v151_1014
  (Q .ret [(2, (.int .i64 1))] H1013 (c + 164))
  (vFA 0 (.ptr ((c + 8) :: p) 7 0 0) fun v153_1019 =>
  vLoad 1 false v153_1019 H1013 fun v154_1020 _ =>
  vBin .eql .num v154_1020 (.int .i64 1) fun v155_1021 =>
  vSel v155_1021
  (vFA 4 (.ptr ((c + 8) :: p) 7 0 0) fun v157_1023 =>
  vFA 0 v157_1023 fun v158_1024 =>
  vLoad 1 false v158_1024 H1013 fun v159_1025 _ =>
  vFA 2 (.ptr ((c + 8) :: p) 7 0 0) fun v160_1026 =>
  vFA 0 v160_1026 fun v161_1027 =>
  vLoad 1 false v161_1027 H1013 fun v162_1028 _ =>
  vBin .geq .num v159_1025 v162_1028 fun v163_1029 =>
  vSel v163_1029
  (Q .ret [(2, (.int .i64 1))] H1013 (c + 164))
  (Q .ret [(2, (.int .i64 0))] H1013 (c + 164)))
  (Q .ret [(2, (.int .i64 0))] H1013 (c + 164)))))))))
  (vSel v23_22
  (vFA 6 (.ptr ((c + 8) :: p) 7 0 0) fun v108_1044 =>
  vLoad 1 false v108_1044 H337 fun v109_1045 _ =>
  vCall P 71 [v109_1045] H337 ((c + 116) :: p) fun v110_1046 H1046 _ _ =>
  vNot v110_1046 fun v111_1047 =>
  vSel v111_1047
  (Q .ret [(2, (.int .i64 1))] H1046 (c + 130))
  (vNot v23_22 fun v115_1054 =>
  vSel v115_1054
  (vFA 6 (.ptr ((c + 8) :: p) 7 0 0) fun v117_1056 =>
  vLoad 1 false v117_1056 H1046 fun v118_1057 _ =>
  vBin .neq .num v118_1057 (.int .i64 0) fun v119_1058 =>
  vSel v119_1058
  (vSel v119_1058
  (Q .ret [(2, (.int .i64 1))] H1046 (c + 130))
  (vFA 4 (.ptr ((c + 8) :: p) 7 0 0) fun v131_1063 =>
  vLoad 2 true v131_1063 H1046 fun v132_1064 _ =>
  vLoad 2 true (.ptr ((c + 14) :: p) 2 0 0) H1046 fun v133_1065 _ =>
  vGen (.eqs .eql [.int, .int]) [v132_1064, v133_1065] H1046 ((c + 132) :: p) fun v134_1066 H1066 _ _ =>
  vSel v134_1066
  (vFA 0 (.ptr ((c + 8) :: p) 7 0 0) fun v135_1068 =>
  vLoad 1 false v135_1068 H1066 fun v136_1069 _ =>
  vBin .neq .num v136_1069 (.int .i64 1) fun v137_1070 =>
  vSel v137_1070
  (vFA 0 (.ptr ((c + 8) :: p) 7 0 0) fun v139_1072 =>
  vLoad 1 false v139_1072 H1066 fun v140_1073 _ =>
  vBin .neq .num v140_1073 (.int .i64 5) fun v141_1074 =>
  vSel v141_1074
  (vSel v22_21
  (Q .ret [(2, (.int .i64 1))] H1066 (c + 146))
  (Q .ret [(2, (.int .i64 0))] H1066 (c + 146)))
  (Q .ret [(2, (.int .i64 0))] H1066 (c + 146)))
  (Q .ret [(2, (.int .i64 0))] H1066 (c + 146)))
  (vFA 4 (.ptr ((c + 8) :: p) 7 0 0) fun v148_1088 =>
  vLoad 2 true v148_1088 H1066 fun v149_1089 _ =>
  vop P .call [(.fn (.func 66) [] [(.ptr ((c + 7) :: p) 1 0 0)]), v149_1089] H1066 ((c + 137) :: p) fun v150_1090 H1090 _ _ =>
  vNot v150_1090 fun v151_1091 =>
  vSel v151_1091
  (Q .ret [(2, (.int .i64 1))] H1090 (c + 155))
  (vFA 0 (.ptr ((c + 8) :: p) 7 0 0) fun v153_1096 =>
  vLoad 1 false v153_1096 H1090 fun v154_1097 _ =>
  vBin .eql .num v154_1097 (.int .i64 1) fun v155_1098 =>
  vSel v155_1098
  (vFA 4 (.ptr ((c + 8) :: p) 7 0 0) fun v157_1100 =>
  vFA 0 v157_1100 fun v158_1101 =>
  vLoad 1 false v158_1101 H1090 fun v159_1102 _ =>
  vFA 2 (.ptr ((c + 8) :: p) 7 0 0) fun v160_1103 =>
  vFA 0 v160_1103 fun v161_1104 =>
  vLoad 1 false v161_1104 H1090 fun v162_1105 _ =>
  vBin .geq .num v159_1102 v162_1105 fun v163_1106 =>
  vSel v163_1106
  (Q .ret [(2, (.int .i64 1))] H1090 (c + 155))
  (Q .ret [(2, (.int .i64 0))] H1090 (c + 155)))
  (Q .ret [(2, (.int .i64 0))] H1090 (c + 155))))))
  (vNot v22_21 fun v123_1117 =>
  vSel v123_1117
  (vFA 4 (.ptr ((c + 8) :: p) 7 0 0) fun v125_1119 =>
  vLoad 2 true v125_1119 H1046 fun v126_1120 _ =>
  vLoad 2 true (.ptr ((c + 14) :: p) 2 0 0) H1046 fun v127_1121 _ =>
  vGen (.eqs .neq [.int, .int]) [v126_1120, v127_1121] H1046 ((c + 135) :: p) fun v128_1122 H1122 _ _ =>
  vSel v128_1122
  (Q .ret [(2, (.int .i64 1))] H1122 (c + 139))
  (vFA 4 (.ptr ((c + 8) :: p) 7 0 0) fun v131_1126 =>
  vLoad 2 true v131_1126 H1122 fun v132_1127 _ =>
  vLoad 2 true (.ptr ((c + 14) :: p) 2 0 0) H1122 fun v133_1128 _ =>
  vGen (.eqs .eql [.int, .int]) [v132_1127, v133_1128] H1122 ((c + 141) :: p) fun v134_1129 H1129 _ _ =>
  vSel v134_1129
  (vFA 0 (.ptr ((c + 8) :: p) 7 0 0) fun v135_1131 =>
  vLoad 1 false v135_1131 H1129 fun v136_1132 _ =>
  vBin .neq .num v136_1132 (.int .i64 1) fun v137_1133 =>
  vSel v137_1133
  (vFA 0 (.ptr ((c + 8) :: p) 7 0 0) fun v139_1135 =>
  vLoad 1 false v139_1135 H1129 fun v140_1136 _ =>
  vBin .neq .num v140_1136 (.int .i64 5) fun v141_1137 =>
  vSel v141_1137
  (vSel v22_21
  (Q .ret [(2, (.int .i64 1))] H1129 (c + 155))
  (Q .ret [(2, (.int .i64 0))] H1129 (c + 155)))
  (Q .ret [(2, (.int .i64 0))] H1129 (c + 155)))
  (Q .ret [(2, (.int .i64 0))] H1129 (c + 155)))
  (vFA 4 (.ptr ((c + 8) :: p) 7 0 0) fun v148_1151 =>
  vLoad 2 true v148_1151 H1129 fun v149_1152 _ =>
  vop P .call [(.fn (.func 66) [] [(.ptr ((c + 7) :: p) 1 0 0)]), v149_1152] H1129 ((c + 146) :: p) fun v150_1153 H1153 _ _ =>
  vNot v150_1153 fun v151_1154 =>
  vSel v151_1154
  (Q .ret [(2, (.int .i64 1))] H1153 (c + 164))
  (vFA 0 (.ptr ((c + 8) :: p) 7 0 0) fun v153_1159 =>
  vLoad 1 false v153_1159 H1153 fun v154_1160 _ =>
  vBin .eql .num v154_1160 (.int .i64 1) fun v155_1161 =>
  vSel v155_1161
  (vFA 4 (.ptr ((c + 8) :: p) 7 0 0) fun v157_1163 =>
  vFA 0 v157_1163 fun v158_1164 =>
  vLoad 1 false v158_1164 H1153 fun v159_1165 _ =>
  vFA 2 (.ptr ((c + 8) :: p) 7 0 0) fun v160_1166 =>
  vFA 0 v160_1166 fun v161_1167 =>
  vLoad 1 false v161_1167 H1153 fun v162_1168 _ =>
  vBin .geq .num v159_1165 v162_1168 fun v163_1169 =>
  vSel v163_1169
  (Q .ret [(2, (.int .i64 1))] H1153 (c + 164))
  (Q .ret [(2, (.int .i64 0))] H1153 (c + 164)))
  (Q .ret [(2, (.int .i64 0))] H1153 (c + 164))))))
  (vFA 4 (.ptr ((c + 8) :: p) 7 0 0) fun v131_1181 =>
  vLoad 2 true v131_1181 H1046 fun v132_1182 _ =>
  vLoad 2 true (.ptr ((c + 14) :: p) 2 0 0) H1046 fun v133_1183 _ =>
  vGen (.eqs .eql [.int, .int]) [v132_1182, v133_1183] H1046 ((c + 141) :: p) fun v134_1184 H1184 _ _ =>
  vSel v134_1184
  (vFA 0 (.ptr ((c + 8) :: p) 7 0 0) fun v135_1186 =>
  vLoad 1 false v135_1186 H1184 fun v136_1187 _ =>
  vBin .neq .num v136_1187 (.int .i64 1) fun v137_1188 =>
  vSel v137_1188
  (vFA 0 (.ptr ((c + 8) :: p) 7 0 0) fun v139_1190 =>
  vLoad 1 false v139_1190 H1184 fun v140_1191 _ =>
  vBin .neq .num v140_1191 (.int .i64 5) fun v141_1192 =>
  vSel v141_1192
  (vSel v22_21
  (Q .ret [(2, (.int .i64 1))] H1184 (c + 155))
  (Q .ret [(2, (.int .i64 0))] H1184 (c + 155)))
  (Q .ret [(2, (.int .i64 0))] H1184 (c + 155)))
  (Q .ret [(2, (.int .i64 0))] H1184 (c + 155)))
  (vFA 4 (.ptr ((c + 8) :: p) 7 0 0) fun v148_1206 =>
  vLoad 2 true v148_1206 H1184 fun v149_1207 _ =>
  vop P .call [(.fn (.func 66) [] [(.ptr ((c + 7) :: p) 1 0 0)]), v149_1207] H1184 ((c + 146) :: p) fun v150_1208 H1208 _ _ =>
  vNot v150_1208 fun v151_1209 =>
  vSel v151_1209
  (Q .ret [(2, (.int .i64 1))] H1208 (c + 164))
  (vFA 0 (.ptr ((c + 8) :: p) 7 0 0) fun v153_1214 =>
  vLoad 1 false v153_1214 H1208 fun v154_1215 _ =>
  vBin .eql .num v154_1215 (.int .i64 1) fun v155_1216 =>
  vSel v155_1216
  (vFA 4 (.ptr ((c + 8) :: p) 7 0 0) fun v157_1218 =>
  vFA 0 v157_1218 fun v158_1219 =>
  vLoad 1 false v158_1219 H1208 fun v159_1220 _ =>
  vFA 2 (.ptr ((c + 8) :: p) 7 0 0) fun v160_1221 =>
  vFA 0 v160_1221 fun v161_1222 =>
  vLoad 1 false v161_1222 H1208 fun v162_1223 _ =>
  vBin .geq .num v159_1220 v162_1223 fun v163_1224 =>
  vSel v163_1224
  (Q .ret [(2, (.int .i64 1))] H1208 (c + 164))
  (Q .ret [(2, (.int .i64 0))] H1208 (c + 164)))
  (Q .ret [(2, (.int .i64 0))] H1208 (c + 164)))))))
  (vNot v22_21 fun v123_1238 =>
  vSel v123_1238
  (vFA 4 (.ptr ((c + 8) :: p) 7 0 0) fun v125_1240 =>
  vLoad 2 true v125_1240 H1046 fun v126_1241 _ =>
  vLoad 2 true (.ptr ((c + 14) :: p) 2 0 0) H1046 fun v127_1242 _ =>
  vGen (.eqs .neq [.int, .int]) [v126_1241, v127_1242] H1046 ((c + 135) :: p) fun v128_1243 H1243 _ _ =>
  vSel v128_1243
  (Q .ret [(2, (.int .i64 1))] H1243 (c + 139))
  (vFA 4 (.ptr ((c + 8) :: p) 7 0 0) fun v131_1247 =>
  vLoad 2 true v131_1247 H1243 fun v132_1248 _ =>
  vLoad 2 true (.ptr ((c + 14) :: p) 2 0 0) H1243 fun v133_1249 _ =>
  vGen (.eqs .eql [.int, .int]) [v132_1248, v133_1249] H1243 ((c + 141) :: p) fun v134_1250 H1250 _ _ =>
  vSel v134_1250
  (vFA 0 (.ptr ((c + 8) :: p) 7 0 0) fun v135_1252 =>
  vLoad 1 false v135_1252 H1250 fun v136_1253 _ =>
  vBin .neq .num v136_1253 (.int .i64 1) fun v137_1254 =>
  vSel v137_1254
  (vFA 0 (.ptr ((c + 8) :: p) 7 0 0) fun v139_1256 =>
  vLoad 1 false v139_1256 H1250 fun v140_1257 _ =>
  vBin .neq .num v140_1257 (.int .i64 5) fun v141_1258 =>
  vSel v141_1258
  (vSel v22_21
  (Q .ret [(2, (.int .i64 1))] H1250 (c + 155))
  (Q .ret [(2, (.int .i64 0))] H1250 (c + 155)))
  (Q .ret [(2, (.int .i64 0))] H1250 (c + 155)))
  (Q .ret [(2, (.int .i64 0))] H1250 (c + 155)))
  (vFA 4 (.ptr ((c + 8) :: p) 7 0 0) fun v148_1272 =>
  vLoad 2 true v148_1272 H1250 fun v149_1273 _ =>
  vop P .call [(.fn (.func 66) [] [(.ptr ((c + 7) :: p) 1 0 0)]), v149_1273] H1250 ((c + 146) :: p) fun v150_1274 H1274 _ _ =>
  vNot v150_1274 fun v151_1275 =>
  vSel v151_1275
  (Q .ret [(2, (.int .i64 1))] H1274 (c + 164))
  (vFA 0 (.ptr ((c + 8) :: p) 7 0 0) fun v153_1280 =>
  vLoad 1 false v153_1280 H1274 fun v154_1281 _ =>
  vBin .eql .num v154_1281 (.int .i64 1) fun v155_1282 =>
  vSel v155_1282
  (vFA 4 (.ptr ((c + 8) :: p) 7 0 0) fun v157_1284 =>
  vFA 0 v157_1284 fun v158_1285 =>
  vLoad 1 false v158_1285 H1274 fun v159_1286 _ =>
  vFA 2 (.ptr ((c + 8) :: p) 7 0 0) fun v160_1287 =>
  vFA 0 v160_1287 fun v161_1288 =>
  vLoad 1 false v161_1288 H1274 fun v162_1289 _ =>
  vBin .geq .num v159_1286 v162_1289 fun v163_1290 =>
  vSel v163_1290
  (Q .ret [(2, (.int .i64 1))] H1274 (c + 164))
  (Q .ret [(2, (.int .i64 0))] H1274 (c + 164)))
  (Q .ret [(2, (.int .i64 0))] H1274 (c + 164))))))
  (vFA 4 (.ptr ((c + 8) :: p) 7 0 0) fun v131_1302 =>
  vLoad 2 true v131_1302 H1046 fun v132_1303 _ =>
  vLoad 2 true (.ptr ((c + 14) :: p) 2 0 0) H1046 fun v133_1304 _ =>
  vGen (.eqs .eql [.int, .int]) [v132_1303, v133_1304] H1046 ((c + 141) :: p) fun v134_1305 H1305 _ _ =>
  vSel v134_1305
  (vFA 0 (.ptr ((c + 8) :: p) 7 0 0) fun v135_1307 =>
  vLoad 1 false v135_1307 H1305 fun v136_1308 _ =>
  vBin .neq .num v136_1308 (.int .i64 1) fun v137_1309 =>
  vSel v137_1309
  (vFA 0 (.ptr ((c + 8) :: p) 7 0 0) fun v139_1311 =>
  vLoad 1 false v139_1311 H1305 fun v140_1312 _ =>
  vBin .neq .num v140_1312 (.int .i64 5) fun v141_1313 =>
  vSel v141_1313
  (vSel v22_21
  (Q .ret [(2, (.int .i64 1))] H1305 (c + 155))
  (Q .ret [(2, (.int .i64 0))] H1305 (c + 155)))
  (Q .ret [(2, (.int .i64 0))] H1305 (c + 155)))
  (Q .ret [(2, (.int .i64 0))] H1305 (c + 155)))
  (vFA 4 (.ptr ((c + 8) :: p) 7 0 0) fun v148_1327 =>
  vLoad 2 true v148_1327 H1305 fun v149_1328 _ =>
  vop P .call [(.fn (.func 66) [] [(.ptr ((c + 7) :: p) 1 0 0)]), v149_1328] H1305 ((c + 146) :: p) fun v150_1329 H1329 _ _ =>
  vNot v150_1329 fun v151_1330 =>
  vSel v151_1330
  (Q .ret [(2, (.int .i64 1))] H1329 (c + 164))
  (vFA 0 (.ptr ((c + 8) :: p) 7 0 0) fun v153_1335 =>
  vLoad 1 false v153_1335 H1329 fun v154_1336 _ =>
  vBin .eql .num v154_1336 (.int .i64 1) fun v155_1337 =>
  vSel v155_1337
  (vFA 4 (.ptr ((c + 8) :: p) 7 0 0) fun v157_1339 =>
  vFA 0 v157_1339 fun v158_1340 =>
  vLoad 1 false v158_1340 H1329 fun v159_1341 _ =>
  vFA 2 (.ptr ((c + 8) :: p) 7 0 0) fun v160_1342 =>
  vFA 0 v160_1342 fun v161_1343 =>
  vLoad 1 false v161_1343 H1329 fun v162_1344 _ =>
  vBin .geq .num v159_1341 v162_1344 fun v163_1345 =>
  vSel v163_1345
  (Q .ret [(2, (.int .i64 1))] H1329 (c + 164))
  (Q .ret [(2, (.int .i64 0))] H1329 (c + 164)))
  (Q .ret [(2, (.int .i64 0))] H1329 (c + 164))))))))
  (vNot v23_22 fun v115_1358 =>
  vSel v115_1358
  (vFA 6 (.ptr ((c + 8) :: p) 7 0 0) fun v117_1360 =>
  vLoad 1 false v117_1360 H337 fun v118_1361 _ =>
  vBin .neq .num v118_1361 (.int .i64 0) fun v119_1362 =>
  vSel v119_1362
  (vSel v119_1362
  (Q .ret [(2, (.int .i64 1))] H337 (c + 130))
  (vFA 4 (.ptr ((c + 8) :: p) 7 0 0) fun v131_1367 =>
  vLoad 2 true v131_1367 H337 fun v132_1368 _ =>
  vLoad 2 true (.ptr ((c + 14) :: p) 2 0 0) H337 fun v133_1369 _ =>
  vGen (.eqs .eql [.int, .int]) [v132_1368, v133_1369] H337 ((c + 132) :: p) fun v134_1370 H1370 _ _ =>
  vSel v134_1370
  (vFA 0 (.ptr ((c + 8) :: p) 7 0 0) fun v135_1372 =>
  vLoad 1 false v135_1372 H1370 fun v136_1373 _ =>
  vBin .neq .num v136_1373 (.int .i64 1) fun v137_1374 =>
  vSel v137_1374
  (vFA 0 (.ptr ((c + 8) :: p) 7 0 0) fun v139_1376 =>
  vLoad 1 false v139_1376 H1370 fun v140_1377 _ =>
  vBin .neq .num v140_1377 (.int .i64 5) fun v141_1378 =>
  vSel v141_1378
  (vSel v22_21
  (Q .ret [(2, (.int .i64 1))] H1370 (c + 146))
  (Q .ret [(2, (.int .i64 0))] H1370 (c + 146)))
  (Q .ret [(2, (.int .i64 0))] H1370 (c + 146)))
  (Q .ret [(2, (.int .i64 0))] H1370 (c + 146)))
  (vFA 4 (.ptr ((c + 8) :: p) 7 0 0) fun v148_1392 =>
  vLoad 2 true v148_1392 H1370 fun v149_1393 _ =>
  vop P .call [(.fn (.func 66) [] [(.ptr ((c + 7) :: p) 1 0 0)]), v149_1393] H1370 ((c + 137) :: p) fun v150_1394 H1394 _ _ =>
  vNot v150_1394 fun v151_1395 =>
  vSel v151_1395
  (Q .ret [(2, (.int .i64 1))] H1394 (c + 155))
  (vFA 0 (.ptr ((c + 8) :: p) 7 0 0) fun v153_1400 =>
  vLoad 1 false v153_1400 H1394 fun v154_1401 _ =>
  vBin .eql .num v154_1401 (.int .i64 1) fun v155_1402 =>
  vSel v155_1402
  (vFA 4 (.ptr ((c + 8) :: p) 7 0 0) fun v157_1404 =>
  vFA 0 v157_1404 fun v158_1405 =>
  vLoad 1 false v158_1405 H1394 fun v159_1406 _ =>
  vFA 2 (.ptr ((c + 8) :: p) 7 0 0) fun v160_1407 =>
  vFA 0 v160_1407 fun v161_1408 =>
  vLoad 1 false v161_1408 H1394 fun v162_1409 _ =>
  vBin .geq .num v159_1406 v162_1409 fun v163_1410 =>
  vSel v163_1410
  (Q .ret [(2, (.int .i64 1))] H1394 (c + 155))
  (Q .ret [(2, (.int .i64 0))] H1394 (c + 155)))
  (Q .ret [(2, (.int .i64 0))] H1394 (c + 155))))))
  (vNot v22_21 fun v123_1421 =>
  vSel v123_1421
  (vFA 4 (.ptr ((c + 8) :: p) 7 0 0) fun v125_1423 =>
  vLoad 2 true v125_1423 H337 fun v126_1424 _ =>
  vLoad 2 true (.ptr ((c + 14) :: p) 2 0 0) H337 fun v127_1425 _ =>
  vGen (.eqs .neq [.int, .int]) [v126_1424, v127_1425] H337 ((c + 135) :: p) fun v128_1426 H1426 _ _ =>
  vSel v128_1426
  (Q .ret [(2, (.int .i64 1))] H1426 (c + 139))
  (vFA 4 (.ptr ((c + 8) :: p) 7 0 0) fun v131_1430 =>
  vLoad 2 true v131_1430 H1426 fun v132_1431 _ =>
  vLoad 2 true (.ptr ((c + 14) :: p) 2 0 0) H1426 fun v133_1432 _ =>
  vGen (.eqs .eql [.int, .int]) [v132_1431, v133_1432] H1426 ((c + 141) :: p) fun v134_1433 H1433 _ _ =>
  vSel v134_1433
  (vFA 0 (.ptr ((c + 8) :: p) 7 0 0) fun v135_1435 =>
  vLoad 1 false v135_1435 H1433 fun v136_1436 _ =>
  vBin .neq .num v136_1436 (.int .i64 1) fun v137_1437 =>
  vSel v137_1437
  (vFA 0 (.ptr ((c + 8) :: p) 7 0 0) fun v139_1439 =>
  vLoad 1 false v139_1439 H1433 fun v140_1440 _ =>
  vBin .neq .num v140_1440 (.int .i64 5) fun v141_1441 =>
  vSel v141_1441
  (vSel v22_21
  (Q .ret [(2, (.int .i64 1))] H1433 (c + 155))
  (Q .ret [(2, (.int .i64 0))] H1433 (c + 155)))
  (Q .ret [(2, (.int .i64 0))] H1433 (c + 155)))
  (Q .ret [(2, (.int .i64 0))] H1433 (c + 155)))
  (vFA 4 (.ptr ((c + 8) :: p) 7 0 0) fun v148_1455 =>
  vLoad 2 true v148_1455 H1433 fun v149_1456 _ =>
  vop P .call [(.fn (.func 66) [] [(.ptr ((c + 7) :: p) 1 0 0)]), v149_1456] H1433 ((c + 146) :: p) fun v150_1457 H1457 _ _ =>
  vNot v150_1457 fun v151_1458 =>
  vSel v151_1458
  (Q .ret [(2, (.int .i64 1))] H1457 (c + 164))
  (vFA 0 (.ptr ((c + 8) :: p) 7 0 0) fun v153_1463 =>
  vLoad 1 false v153_1463 H1457 fun v154_1464 _ =>
  vBin .eql .num v154_1464 (.int .i64 1) fun v155_1465 =>
  vSel v155_1465
  (vFA 4 (.ptr ((c + 8) :: p) 7 0 0) fun v157_1467 =>
  vFA 0 v157_1467 fun v158_1468 =>
  vLoad 1 false v158_1468 H1457 fun v159_1469 _ =>
  vFA 2 (.ptr ((c + 8) :: p) 7 0 0) fun v160_1470 =>
  vFA 0 v160_1470 fun v161_1471 =>
  vLoad 1 false v161_1471 H1457 fun v162_1472 _ =>
  vBin .geq .num v159_1469 v162_1472 fun v163_1473 =>
  vSel v163_1473
  (Q .ret [(2, (.int .i64 1))] H1457 (c + 164))
  (Q .ret [(2, (.int .i64 0))] H1457 (c + 164)))
  (Q .ret [(2, (.int .i64 0))] H1457 (c + 164))))))
  (vFA 4 (.ptr ((c + 8) :: p) 7 0 0) fun v131_1485 =>
  vLoad 2 true v131_1485 H337 fun v132_1486 _ =>
  vLoad 2 true (.ptr ((c + 14) :: p) 2 0 0) H337 fun v133_1487 _ =>
  vGen (.eqs .eql [.int, .int]) [v132_1486, v133_1487] H337 ((c + 141) :: p) fun v134_1488 H1488 _ _ =>
  vSel v134_1488
  (vFA 0 (.ptr ((c + 8) :: p) 7 0 0) fun v135_1490 =>
  vLoad 1 false v135_1490 H1488 fun v136_1491 _ =>
  vBin .neq .num v136_1491 (.int .i64 1) fun v137_1492 =>
  vSel v137_1492
  (vFA 0 (.ptr ((c + 8) :: p) 7 0 0) fun v139_1494 =>
  vLoad 1 false v139_1494 H1488 fun v140_1495 _ =>
  vBin .neq .num v140_1495 (.int .i64 5) fun v141_1496 =>
  vSel v141_1496
  (vSel v22_21
  (Q .ret [(2, (.int .i64 1))] H1488 (c + 155))
  (Q .ret [(2, (.int .i64 0))] H1488 (c + 155)))
  (Q .ret [(2, (.int .i64 0))] H1488 (c + 155)))
  (Q .ret [(2, (.int .i64 0))] H1488 (c + 155)))
  (vFA 4 (.ptr ((c + 8) :: p) 7 0 0) fun v148_1510 =>
  vLoad 2 true v148_1510 H1488 fun v149_1511 _ =>
  vop P .call [(.fn (.func 66) [] [(.ptr ((c + 7) :: p) 1 0 0)]), v149_1511] H1488 ((c + 146) :: p) fun v150_1512 H1512 _ _ =>
  vNot v150_1512 fun v151_1513 =>
  vSel v151_1513
  (Q .ret [(2, (.int .i64 1))] H1512 (c + 164))
  (vFA 0 (.ptr ((c + 8) :: p) 7 0 0) fun v153_1518 =>
  vLoad 1 false v153_1518 H1512 fun v154_1519 _ =>
  vBin .eql .num v154_1519 (.int .i64 1) fun v155_1520 =>
  vSel v155_1520
  (vFA 4 (.ptr ((c + 8) :: p) 7 0 0) fun v157_1522 =>
  vFA 0 v157_1522 fun v158_1523 =>
  vLoad 1 false v158_1523 H1512 fun v159_1524 _ =>
  vFA 2 (.ptr ((c + 8) :: p) 7 0 0) fun v160_1525 =>
  vFA 0 v160_1525 fun v161_1526 =>
  vLoad 1 false v161_1526 H1512 fun v162_1527 _ =>
  vBin .geq .num v159_1524 v162_1527 fun v163_1528 =>
  vSel v163_1528
  (Q .ret [(2, (.int .i64 1))] H1512 (c + 164))
  (Q .ret [(2, (.int .i64 0))] H1512 (c + 164)))
  (Q .ret [(2, (.int .i64 0))] H1512 (c + 164)))))))
  (vNot v22_21 fun v123_1542 =>
  vSel v123_1542
  (vFA 4 (.ptr ((c + 8) :: p) 7 0 0) fun v125_1544 =>
  vLoad 2 true v125_1544 H337 fun v126_1545 _ =>
  vLoad 2 true (.ptr ((c + 14) :: p) 2 0 0) H337 fun v127_1546 _ =>
  vGen (.eqs .neq [.int, .int]) [v126_1545, v127_1546] H337 ((c + 135) :: p) fun v128_1547 H1547 _ _ =>
  vSel v128_1547
  (Q .ret [(2, (.int .i64 1))] H1547 (c + 139))
  (vFA 4 (.ptr ((c + 8) :: p) 7 0 0) fun v131_1551 =>
  vLoad 2 true v131_1551 H1547 fun v132_1552 _ =>
  vLoad 2 true (.ptr ((c + 14) :: p) 2 0 0) H1547 fun v133_1553 _ =>
  vGen (.eqs .eql [.int, .int]) [v132_1552, v133_1553] H1547 ((c + 141) :: p) fun v134_1554 H1554 _ _ =>
  vSel v134_1554
  (vFA 0 (.ptr ((c + 8) :: p) 7 0 0) fun v135_1556 =>
  vLoad 1 false v135_1556 H1554 fun v136_1557 _ =>
  vBin .neq .num v136_1557 (.int .i64 1) fun v137_1558 =>
  vSel v137_1558
  (vFA 0 (.ptr ((c + 8) :: p) 7 0 0) fun v139_1560 =>
  vLoad 1 false v139_1560 H1554 fun v140_1561 _ =>
  vBin .neq .num v140_1561 (.int .i64 5) fun v141_1562 =>
  vSel v141_1562
  (vSel v22_21
  (Q .ret [(2, (.int .i64 1))] H1554 (c + 155))
  (Q .ret [(2, (.int .i64 0))] H1554 (c + 155)))
  (Q .ret [(2, (.int .i64 0))] H1554 (c + 155)))
  (Q .ret [(2, (.int .i64 0))] H1554 (c + 155)))
  (vFA 4 (.ptr ((c + 8) :: p) 7 0 0) fun v148_1576 =>
  vLoad 2 true v148_1576 H1554 fun v149_1577 _ =>
  vop P .call [(.fn (.func 66) [] [(.ptr ((c + 7) :: p) 1 0 0)]), v149_1577] H1554 ((c + 146) :: p) fun v150_1578 H1578 _ _ =>
  vNot v150_1578 fun v151_1579 =>
  vSel v151_1579
  (Q .ret [(2, (.int .i64 1))] H1578 (c + 164))
  (vFA 0 (.ptr ((c + 8) :: p) 7 0 0) fun v153_1584 =>
  vLoad 1 false v153_1584 H1578 fun v154_1585 _ =>
  vBin .eql .num v154_1585 (.int .i64 1) fun v155_1586 =>
  vSel v155_1586
  (vFA 4 (.ptr ((c + 8) :: p) 7 0 0) fun v157_1588 =>
  vFA 0 v157_1588 fun v158_1589 =>
  vLoad 1 false v158_1589 H1578 fun v159_1590 _ =>
  vFA 2 (.ptr ((c + 8) :: p) 7 0 0) fun v160_1591 =>
  vFA 0 v160_1591 fun v161_1592 =>
  vLoad 1 false v161_1592 H1578 fun v162_1593 _ =>
  vBin .geq .num v159_1590 v162_1593 fun v163_1594 =>
  vSel v163_1594
  (Q .ret [(2, (.int .i64 1))] H1578 (c + 164))
  (Q .ret [(2, (.int .i64 0))] H1578 (c + 164)))
  (Q .ret [(2, (.int .i64 0))] H1578 (c + 164))))))
  (vFA 4 (.ptr ((c + 8) :: p) 7 0 0) fun v131_1606 =>
  vLoad 2 true v131_1606 H337 fun v132_1607 _ =>
  vLoad 2 true (.ptr ((c + 14) :: p) 2 0 0) H337 fun v133_1608 _ =>
  vGen (.eqs .eql [.int, .int]) [v132_1607, v133_1608] H337 ((c + 141) :: p) fun v134_1609 H1609 _ _ =>
  vSel v134_1609
  (vFA 0 (.ptr ((c + 8) :: p) 7 0 0) fun v135_1611 =>
  vLoad 1 false v135_1611 H1609 fun v136_1612 _ =>
  vBin .neq .num v136_1612 (.int .i64 1) fun v137_1613 =>
  vSel v137_1613
  (vFA 0 (.ptr ((c + 8) :: p) 7 0 0) fun v139_1615 =>
  vLoad 1 false v139_1615 H1609 fun v140_1616 _ =>
  vBin .neq .num v140_1616 (.int .i64 5) fun v141_1617 =>
  vSel v141_1617
  (vSel v22_21
  (Q .ret [(2, (.int .i64 1))] H1609 (c + 155))
  (Q .ret [(2, (.int .i64 0))] H1609 (c + 155)))
  (Q .ret [(2, (.int .i64 0))] H1609 (c + 155)))
  (Q .ret [(2, (.int .i64 0))] H1609 (c + 155)))
  (vFA 4 (.ptr ((c + 8) :: p) 7 0 0) fun v148_1631 =>
  vLoad 2 true v148_1631 H1609 fun v149_1632 _ =>
  vop P .call [(.fn (.func 66) [] [(.ptr ((c + 7) :: p) 1 0 0)]), v149_1632] H1609 ((c + 146) :: p) fun v150_1633 H1633 _ _ =>
  vNot v150_1633 fun v151_1634 =>
  vSel v151_1634
  (Q .ret [(2, (.int .i64 1))] H1633 (c + 164))
  (vFA 0 (.ptr ((c + 8) :: p) 7 0 0) fun v153_1639 =>
  vLoad 1 false v153_1639 H1633 fun v154_1640 _ =>
  vBin .eql .num v154_1640 (.int .i64 1) fun v155_1641 =>
  vSel v155_1641
  (vFA 4 (.ptr ((c + 8) :: p) 7 0 0) fun v157_1643 =>
  vFA 0 v157_1643 fun v158_1644 =>
  vLoad 1 false v158_1644 H1633 fun v159_1645 _ =>
  vFA 2 (.ptr ((c + 8) :: p) 7 0 0) fun v160_1646 =>
  vFA 0 v160_1646 fun v161_1647 =>
  vLoad 1 false v161_1647 H1633 fun v162_1648 _ =>
  vBin .geq .num v159_1645 v162_1648 fun v163_1649 =>
  vSel v163_1649
  (Q .ret [(2, (.int .i64 1))] H1633 (c + 164))
  (Q .ret [(2, (.int .i64 0))] H1633 (c + 164)))
  (Q .ret [(2, (.int .i64 0))] H1633 (c + 164)))))))))))
  (vNot v21_20 fun v98_1662 =>
  vSel v98_1662
  (vFA 2 (.ptr ((c + 8) :: p) 7 0 0) fun v100_1664 =>
  vLoad 2 true v100_1664 H274 fun v101_1665 _ =>
  vLoad 2 true (.ptr ((c + 14) :: p) 2 0 0) H274 fun v102_1666 _ =>
  vGen (.eqs .neq [.int, .int]) [v101_1665, v102_1666] H274 ((c + 108) :: p) fun v103_1667 H1667 _ _ =>
  vSel v103_1667
  (vSel v103_1667
  (Q .ret [(2, (.int .i64 1))] H1667 (c + 113))
  (vFA 4 (.ptr ((c + 8) :: p) 7 0 0) fun v131_1672 =>
  vLoad 2 true v131_1672 H1667 fun v132_1673 _ =>
  vLoad 2 true (.ptr ((c + 14) :: p) 2 0 0) H1667 fun v133_1674 _ =>
  vGen (.eqs .eql [.int, .int]) [v132_1673, v133_1674] H1667 ((c + 115) :: p) fun v134_1675 H1675 _ _ =>
  vSel v134_1675
  (vFA 0 (.ptr ((c + 8) :: p) 7 0 0) fun v135_1677 =>
  vLoad 1 false v135_1677 H1675 fun v136_1678 _ =>
  vBin .neq .num v136_1678 (.int .i64 1) fun v137_1679 =>
  vSel v137_1679
  (vFA 0 (.ptr ((c + 8) :: p) 7 0 0) fun v139_1681 =>
  vLoad 1 false v139_1681 H1675 fun v140_1682 _ =>
  vBin .neq .num v140_1682 (.int .i64 5) fun v141_1683 =>
  vSel v141_1683
  (vSel v22_21
  (Q .ret [(2, (.int .i64 1))] H1675 (c + 129))
  (Q .ret [(2, (.int .i64 0))] H1675 (c + 129)))
  (Q .ret [(2, (.int .i64 0))] H1675 (c + 129)))
  (Q .ret [(2, (.int .i64 0))] H1675 (c + 129)))
  (vFA 4 (.ptr ((c + 8) :: p) 7 0 0) fun v148_1697 =>
  vLoad 2 true v148_1697 H1675 fun v149_1698 _ =>
  vop P .call [(.fn (.func 66) [] [(.ptr ((c + 7) :: p) 1 0 0)]), v149_1698] H1675 ((c + 120) :: p) fun v150_1699 H1699 _ _ =>
  vNot v150_1699 fun v151_1700 =>
  vSel v151_1700
  (Q .ret [(2, (.int .i64 1))] H1699 (c + 138))
  (vFA 0 (.ptr ((c + 8) :: p) 7 0 0) fun v153_1705 =>
  vLoad 1 false v153_1705 H1699 fun v154_1706 _ =>
  vBin .eql .num v154_1706 (.int .i64 1) fun v155_1707 =>
  vSel v155_1707
  (vFA 4 (.ptr ((c + 8) :: p) 7 0 0) fun v157_1709 =>
  vFA 0 v157_1709 fun v158_1710 =>
  vLoad 1 false v158_1710 H1699 fun v159_1711 _ =>
  vFA 2 (.ptr ((c + 8) :: p) 7 0 0) fun v160_1712 =>
  vFA 0 v160_1712 fun v161_1713 =>
  vLoad 1 false v161_1713 H1699 fun v162_1714 _ =>
  vBin .geq .num v159_1711 v162_1714 fun v163_1715 =>
  vSel v163_1715
  (Q .ret [(2, (.int .i64 1))] H1699 (c + 138))
  (Q .ret [(2, (.int .i64 0))] H1699 (c + 138)))
  (Q .ret [(2, (.int .i64 0))] H1699 (c + 138))))))
  (vSel v23_22
  (vFA 6 (.ptr ((c + 8) :: p) 7 0 0) fun v108_1727 =>
  vLoad 1 false v108_1727 H1667 fun v109_1728 _ =>
  vCall P 71 [v109_1728] H1667 ((c + 116) :: p) fun v110_1729 H1729 _ _ =>
  vNot v110_1729 fun v111_1730 =>
  vSel v111_1730
  (Q .ret [(2, (.int .i64 1))] H1729 (c + 130))
  (vNot v23_22 fun v115_1737 =>
  vSel v115_1737
  (vFA 6 (.ptr ((c + 8) :: p) 7 0 0) fun v117_1739 =>
  vLoad 1 false v117_1739 H1729 fun v118_1740 _ =>
  vBin .neq .num v118_1740 (.int .i64 0) fun v119_1741 =>
  vSel v119_1741
  (vSel v119_1741
  (Q .ret [(2, (.int .i64 1))] H1729 (c + 130))
  (vFA 4 (.ptr ((c + 8) :: p) 7 0 0) fun v131_1746 =>
  vLoad 2 true v131_1746 H1729 fun v132_1747 _ =>
  vLoad 2 true (.ptr ((c + 14) :: p) 2 0 0) H1729 fun v133_1748 _ =>
  vGen (.eqs .eql [.int, .int]) [v132_1747, v133_1748] H1729 ((c + 132) :: p) fun v134_1749 H1749 _ _ =>
  vSel v134_1749
  (vFA 0 (.ptr ((c + 8) :: p) 7 0 0) fun v135_1751 =>
  vLoad 1 false v135_1751 H1749 fun v136_1752 _ =>
  vBin .neq .num v136_1752 (.int .i64 1) fun v137_1753 =>
  vSel v137_1753
  (vFA 0 (.ptr ((c + 8) :: p) 7 0 0) fun v139_1755 =>
  vLoad 1 false v139_1755 H1749 fun v140_1756 _ =>
  vBin .neq .num v140_1756 (.int .i64 5) fun v141_1757 =>
  vSel v141_1757
  (vSel v22_21
  (Q .ret [(2, (.int .i64 1))] H1749 (c + 146))
  (Q .ret [(2, (.int .i64 0))] H1749 (c + 146)))
  (Q .ret [(2, (.int .i64 0))] H1749 (c + 146)))
  (Q .ret [(2, (.int .i64 0))] H1749 (c + 146)))
  (vFA 4 (.ptr ((c + 8) :: p) 7 0 0) fun v148_1771 =>
  vLoad 2 true v148_1771 H1749 fun v149_1772 _ =>
  vop P .call [(.fn (.func 66) [] [(.ptr ((c + 7) :: p) 1 0 0)]), v149_1772] H1749 ((c + 137) :: p) fun v150_1773 H1773 _ _ =>
  vNot v150_1773 fun v151_1774 =>
  vSel v151_1774
  (Q .ret [(2, (.int .i64 1))] H1773 (c + 155))
  (vFA 0 (.ptr ((c + 8) :: p) 7 0 0) fun v153_1779 =>
  vLoad 1 false v153_1779 H1773 fun v154_1780 _ =>
  vBin .eql .num v154_1780 (.int .i64 1) fun v155_1781 =>
  vSel v155_1781
  (vFA 4 (.ptr ((c + 8) :: p) 7 0 0) fun v157_1783 =>
  vFA 0 v157_1783 fun v158_1784 =>
  vLoad 1 false v158_1784 H1773 fun v159_1785 _ =>
  vFA 2 (.ptr ((c + 8) :: p) 7 0 0) fun v160_1786 =>
  vFA 0 v160_1786 fun v161_1787 =>
  vLoad 1 false v161_1787 H1773 fun v162_1788 _ =>
  vBin .geq .num v159_1785 v162_1788 fun v163_1789 =>
  vSel v163_1789
  (Q .ret [(2, (.int .i64 1))] H1773 (c + 155))
  (Q .ret [(2, (.int .i64 0))] H1773 (c + 155)))
  (Q .ret [(2, (.int .i64 0))] H1773 (c + 155))))))
  (vNot v22_21 fun v123_1800 =>
  vSel v123_1800
  (vFA 4 (.ptr ((c + 8) :: p) 7 0 0) fun v125_1802 =>
  vLoad 2 true v125_1802 H1729 fun v126_1803 _ =>
  vLoad 2 true (.ptr ((c + 14) :: p) 2 0 0) H1729 fun v127_1804 _ =>
  vGen (.eqs .neq [.int, .int]) [v126_1803, v127_1804] H1729 ((c + 135) :: p) fun v128_1805 H1805 _ _ =>
  vSel v128_1805
  (Q .ret [(2, (.int .i64 1))] H1805 (c + 139))
  (vFA 4 (.ptr ((c + 8) :: p) 7 0 0) fun v131_1809 =>
  vLoad 2 true v131_1809 H1805 fun v132_1810 _ =>
  vLoad 2 true (.ptr ((c + 14) :: p) 2 0 0) H1805 fun v133_1811 _ =>
  vGen (.eqs .eql [.int, .int]) [v132_1810, v133_1811] H1805 ((c + 141) :: p) fun v134_1812 H1812 _ _ =>
  vSel v134_1812
  (vFA 0 (.ptr ((c + 8) :: p) 7 0 0) fun v135_1814 =>
  vLoad 1 false v135_1814 H1812 fun v136_1815 _ =>
  vBin .neq .num v136_1815 (.int .i64 1) fun v137_1816 =>
  vSel v137_1816
  (vFA 0 (.ptr ((c + 8) :: p) 7 0 0) fun v139_1818 =>
  vLoad 1 false v139_1818 H1812 fun v140_1819 _ =>
  vBin .neq .num v140_1819 (.int .i64 5) fun v141_1820 =>
  vSel v141_1820
  (vSel v22_21
  (Q .ret [(2, (.int .i64 1))] H1812 (c + 155))
  (Q .ret [(2, (.int .i64 0))] H1812 (c + 155)))
  (Q .ret [(2, (.int .i64 0))] H1812 (c + 155)))
  (Q .ret [(2, (.int .i64 0))] H1812 (c + 155)))
  (vFA 4 (.ptr ((c + 8) :: p) 7 0 0) fun v148_1834 =>
  vLoad 2 true v148_1834 H1812 fun v149_1835 _ =>
  vop P .call [(.fn (.func 66) [] [(.ptr ((c + 7) :: p) 1 0 0)]), v149_1835] H1812 ((c + 146) :: p) fun v150_1836 H1836 _ _ =>
  vNot v150_1836 fun v151_1837 =>
  vSel v151_1837
  (Q .ret [(2, (.int .i64 1))] H1836 (c + 164))
  (vFA 0 (.ptr ((c + 8) :: p) 7 0 0) fun v153_1842 =>
  vLoad 1 false v153_1842 H1836 fun v154_1843 _ =>
  vBin .eql .num v154_1843 (.int .i64 1) fun v155_1844 =>
  vSel v155_1844
  (vFA 4 (.ptr ((c + 8) :: p) 7 0 0) fun v157_1846 =>
  vFA 0 v157_1846 fun v158_1847 =>
  vLoad 1 false v158_1847 H1836 fun v159_1848 _ =>
  vFA 2 (.ptr ((c + 8) :: p) 7 0 0) fun v160_1849 =>
  vFA 0 v160_1849 fun v161_1850 =>
  vLoad 1 false v161_1850 H1836 fun v162_1851 _ =>
  vBin .geq .num v159_1848 v162_1851 fun v163_1852 =>
  vSel v163_1852
  (Q .ret [(2, (.int .i64 1))] H1836 (c + 164))
  (Q .ret [(2, (.int .i64 0))] H1836 (c + 164)))
  (Q .ret [(2, (.int .i64 0))] H1836 (c + 164))))))
  (vFA 4 (.ptr ((c + 8) :: p) 7 0 0) fun v131_1864 =>
  vLoad 2 true v131_1864 H1729 fun v132_1865 _ =>
  vLoad 2 true (.ptr ((c + 14) :: p) 2 0 0) H1729 fun v133_1866 _ =>
  vGen (.eqs .eql [.int, .int]) [v132_1865, v133_1866] H1729 ((c + 141) :: p) fun v134_1867 H1867 _ _ =>
  vSel v134_1867
  (vFA 0 (.ptr ((c + 8) :: p) 7 0 0) fun v135_1869 =>
  vLoad 1 false v135_1869 H1867 fun v136_1870 _ =>
  vBin .neq .num v136_1870 (.int .i64 1) fun v137_1871 =>
  vSel v137_1871
  (vFA 0 (.ptr ((c + 8) :: p) 7 0 0) fun v139_1873 =>
  vLoad 1 false v139_1873 H1867 fun v140_1874 _ =>
  vBin .neq .num v140_1874 (.int .i64 5) fun v141_1875 =>
  vSel v141_1875
  (vSel v22_21
  (Q .ret [(2, (.int .i64 1))] H1867 (c + 155))
  (Q .ret [(2, (.int .i64 0))] H1867 (c + 155)))
  (Q .ret [(2, (.int .i64 0))] H1867 (c + 155)))
  (Q .ret [(2, (.int .i64 0))] H1867 (c + 155)))
  (vFA 4 (.ptr ((c + 8) :: p) 7 0 0) fun v148_1889 =>
  vLoad 2 true v148_1889 H1867 fun v149_1890 _ =>
  vop P .call [(.fn (.func 66) [] [(.ptr ((c + 7) :: p) 1 0 0)]), v149_1890] H1867 ((c + 146) :: p) fun v150_1891 H1891 _ _ =>
  vNot v150_1891 fun v151_1892 =>
  vSel v151_1892
  (Q .ret [(2, (.int .i64 1))] H1891 (c + 164))
  (vFA 0 (.ptr ((c + 8) :: p) 7 0 0) fun v153_1897 =>
  vLoad 1 false v153_1897 H1891 fun v154_1898 _ =>
  vBin .eql .num v154_1898 (.int .i64 1) fun v155_1899 =>
  vSel v155_1899
  (vFA 4 (.ptr ((c + 8) :: p) 7 0 0) fun v157_1901 =>
  vFA 0 v157_1901 fun v158_1902 =>
  vLoad 1 false v158_1902 H1891 fun v159_1903 _ =>
  vFA 2 (.ptr ((c + 8) :: p) 7 0 0) fun v160_1904 =>
  vFA 0 v160_1904 fun v161_1905 =>
  vLoad 1 false v161_1905 H1891 fun v162_1906 _ =>
  vBin .geq .num v159_1903 v162_1906 fun v163_1907 =>
  vSel v163_1907
  (Q .ret [(2, (.int .i64 1))] H1891 (c + 164))
  (Q .ret [(2, (.int .i64 0))] H1891 (c + 164)))
  (Q .ret [(2, (.int .i64 0))] H1891 (c + 164)))))))
  (vNot v22_21 fun v123_1921 =>
  vSel v123_1921
  (vFA 4 (.ptr ((c + 8) :: p) 7 0 0) fun v125_1923 =>
  vLoad 2 true v125_1923 H1729 fun v126_1924 _ =>
  vLoad 2 true (.ptr ((c + 14) :: p) 2 0 0) H1729 fun v127_1925 _ =>
  vGen (.eqs .neq [.int, .int]) [v126_1924, v127_1925] H1729 ((c + 135) :: p) fun v128_1926 H1926 _ _ =>
  vSel v128_1926
  (Q .ret [(2, (.int .i64 1))] H1926 (c + 139))
  (vFA 4 (.ptr ((c + 8) :: p) 7 0 0) fun v131_1930 =>
  vLoad 2 true v131_1930 H1926 fun v132_1931 _ =>
  vLoad 2 true (.ptr ((c + 14) :: p) 2 0 0) H1926 fun v133_1932 _ =>
  vGen (.eqs .eql [.int, .int]) [v132_1931, v133_1932] H1926 ((c + 141) :: p) fun v134_1933 H1933 _ _ =>
  vSel v134_1933
  (vFA 0 (.ptr ((c + 8) :: p) 7 0 0) fun v135_1935 =>
  vLoad 1 false v135_1935 H1933 fun v136_1936 _ =>
  vBin .neq .num v136_1936 (.int .i64 1) fun v137_1937 =>
  vSel v137_1937
  (vFA 0 (.ptr ((c + 8) :: p) 7 0 0) fun v139_1939 =>
  vLoad 1 false v139_1939 H1933 fun v140_1940 _ =>
  vBin .neq .num v140_1940 (.int .i64 5) fun v141_1941 =>
  vSel v141_1941
  (vSel v22_21
  (Q .ret [(2, (.int .i64 1))] H1933 (c + 155))
  (Q .ret [(2, (.int .i64 0))] H1933 (c + 155)))
  (Q .ret [(2, (.int .i64 0))] H1933 (c + 155)))
  (Q .ret [(2, (.int .i64 0))] H1933 (c + 155)))
  (vFA 4 (.ptr ((c + 8) :: p) 7 0 0) fun v148_1955 =>
  vLoad 2 true v148_1955 H1933 fun v149_1956 _ =>
  vop P .call [(.fn (.func 66) [] [(.ptr ((c + 7) :: p) 1 0 0)]), v149_1956] H1933 ((c + 146) :: p) fun v150_1957 H1957 _ _ =>
  vNot v150_1957 fun v151_1958 =>
  vSel v151_1958
  (Q .ret [(2, (.int .i64 1))] H1957 (c + 164))
  (vFA 0 (.ptr ((c + 8) :: p) 7 0 0) fun v153_1963 =>
  vLoad 1 false v153_1963 H1957 fun v154_1964 _ =>
  vBin .eql .num v154_1964 (.int .i64 1) fun v155_1965 =>
  vSel v155_1965
  (vFA 4 (.ptr ((c + 8) :: p) 7 0 0) fun v157_1967 =>
  vFA 0 v157_1967 fun v158_1968 =>
  vLoad 1 false v158_1968 H1957 fun v159_1969 _ =>
  vFA 2 (.ptr ((c + 8) :: p) 7 0 0) fun v160_1970 =>
  vFA 0 v160_1970 fun v161_1971 =>
  vLoad 1 false v161_1971 H1957 fun v162_1972 _ =>
  vBin .geq .num v159_1969 v162_1972 fun v163_1973 =>
  vSel v163_1973
  (Q .ret [(2, (.int .i64 1))] H1957 (c + 164))
  (Q .ret [(2, (.int .i64 0))] H1957 (c + 164)))
  (Q .ret [(2, (.int .i64 0))] H1957 (c + 164))))))
  (vFA 4 (.ptr ((c + 8) :: p) 7 0 0) fun v131_1985 =>
  vLoad 2 true v131_1985 H1729 fun v132_1986 _ =>
  vLoad 2 true (.ptr ((c + 14) :: p) 2 0 0) H1729 fun v133_1987 _ =>
  vGen (.eqs .eql [.int, .int]) [v132_1986, v133_1987] H1729 ((c + 141) :: p) fun v134_1988 H1988 _ _ =>
  vSel v134_1988
  (vFA 0 (.ptr ((c + 8) :: p) 7 0 0) fun v135_1990 =>
  vLoad 1 false v135_1990 H1988 fun v136_1991 _ =>
  vBin .neq .num v136_1991 (.int .i64 1) fun v137_1992 =>
  vSel v137_1992
  (vFA 0 (.ptr ((c + 8) :: p) 7 0 0) fun v139_1994 =>
  vLoad 1 false v139_1994 H1988 fun v140_1995 _ =>
  vBin .neq .num v140_1995 (.int .i64 5) fun v141_1996 =>
  vSel v141_1996
  (vSel v22_21
  (Q .ret [(2, (.int .i64 1))] H1988 (c + 155))
  (Q .ret [(2, (.int .i64 0))] H1988 (c + 155)))
  (Q .ret [(2, (.int .i64 0))] H1988 (c + 155)))
  (Q .ret [(2, (.int .i64 0))] H1988 (c + 155)))
  (vFA 4 (.ptr ((c + 8) :: p) 7 0 0) fun v148_2010 =>
  vLoad 2 true v148_2010 H1988 fun v149_2011 _ =>
  vop P .call [(.fn (.func 66) [] [(.ptr ((c + 7) :: p) 1 0 0)]), v149_2011] H1988 ((c + 146) :: p) fun v150_2012 H2012 _ _ =>
  vNot v150_2012 fun v151_2013 =>
  vSel v151_2013
  (Q .ret [(2, (.int .i64 1))] H2012 (c + 164))
  (vFA 0 (.ptr ((c + 8) :: p) 7 0 0) fun v153_2018 =>
  vLoad 1 false v153_2018 H2012 fun v154_2019 _ =>
  vBin .eql .num v154_2019 (.int .i64 1) fun v155_2020 =>
  vSel v155_2020
  (vFA 4 (.ptr ((c + 8) :: p) 7 0 0) fun v157_2022 =>
  vFA 0 v157_2022 fun v158_2023 =>
  vLoad 1 false v158_2023 H2012 fun v159_2024 _ =>
  vFA 2 (.ptr ((c + 8) :: p) 7 0 0) fun v160_2025 =>
  vFA 0 v160_2025 fun v161_2026 =>
  vLoad 1 false v161_2026 H2012 fun v162_2027 _ =>
  vBin .geq .num v159_2024 v162_2027 fun v163_2028 =>
  vSel v163_2028
  (Q .ret [(2, (.int .i64 1))] H2012 (c + 164))
  (Q .ret [(2, (.int .i64 0))] H2012 (c + 164)))
  (Q .ret [(2, (.int .i64 0))] H2012 (c + 164))))))))
  (vNot v23_22 fun v115_2041 =>
  vSel v115_2041
  (vFA 6 (.ptr ((c + 8) :: p) 7 0 0) fun v117_2043 =>
  vLoad 1 false v117_2043 H1667 fun v118_2044 _ =>
  vBin .neq .num v118_2044 (.int .i64 0) fun v119_2045 =>
  vSel v119_2045
  (vSel v119_2045
  (Q .ret [(2, (.int .i64 1))] H1667 (c + 130))
  (vFA 4 (.ptr ((c + 8) :: p) 7 0 0) fun v131_2050 =>
  vLoad 2 true v131_2050 H1667 fun v132_2051 _ =>
  vLoad 2 true (.ptr ((c + 14) :: p) 2 0 0) H1667 fun v133_2052 _ =>
  vGen (.eqs .eql [.int, .int]) [v132_2051, v133_2052] H1667 ((c + 132) :: p) fun v134_2053 H2053 _ _ =>
  vSel v134_2053
  (vFA 0 (.ptr ((c + 8) :: p) 7 0 0) fun v135_2055 =>
  vLoad 1 false v135_2055 H2053 fun v136_2056 _ =>
  vBin .neq .num v136_2056 (.int .i64 1) fun v137_2057 =>
  vSel v137_2057
  (vFA 0 (.ptr ((c + 8) :: p) 7 0 0) fun v139_2059 =>
  vLoad 1 false v139_2059 H2053 fun v140_2060 _ =>
  vBin .neq .num v140_2060 (.int .i64 5) fun v141_2061 =>
  vSel v141_2061
  (vSel v22_21
  (Q .ret [(2, (.int .i64 1))] H2053 (c + 146))
  (Q .ret [(2, (.int .i64 0))] H2053 (c + 146)))
  (Q .ret [(2, (.int .i64 0))] H2053 (c + 146)))
  (Q .ret [(2, (.int .i64 0))] H2053 (c + 146)))
  (vFA 4 (.ptr ((c + 8) :: p) 7 0 0) fun v148_2075 =>
  vLoad 2 true v148_2075 H2053 fun v149_2076 _ =>
  vop P .call [(.fn (.func 66) [] [(.ptr ((c + 7) :: p) 1 0 0)]), v149_2076] H2053 ((c + 137) :: p) fun v150_2077 H2077 _ _ =>
  vNot v150_2077 fun v151_2078 =>
  vSel v151_2078
  (Q .ret [(2, (.int .i64 1))] H2077 (c + 155))
  (vFA 0 (.ptr ((c + 8) :: p) 7 0 0) fun v153_2083 =>
  vLoad 1 false v153_2083 H2077 fun v154_2084 _ =>
  vBin .eql .num v154_2084 (.int .i64 1) fun v155_2085 =>
  vSel v155_2085
  (vFA 4 (.ptr ((c + 8) :: p) 7 0 0) fun v157_2087 =>
  vFA 0 v157_2087 fun v158_2088 =>
  vLoad 1 false v158_2088 H2077 fun v159_2089 _ =>
  vFA 2 (.ptr ((c + 8) :: p) 7 0 0) fun v160_2090 =>
  vFA 0 v160_2090 fun v161_2091 =>
  vLoad 1 false v161_2091 H2077 fun v162_2092 _ =>
  vBin .geq .num v159_2089 v162_2092 fun v163_2093 =>
  vSel v163_2093
  (Q .ret [(2, (.int .i64 1))] H2077 (c + 155))
  (Q .ret [(2, (.int .i64 0))] H2077 (c + 155)))
  (Q .ret [(2, (.int .i64 0))] H2077 (c + 155))))))
  (vNot v22_21 fun v123_2104 =>
  vSel v123_2104
  (vFA 4 (.ptr ((c + 8) :: p) 7 0 0) fun v125_2106 =>
  vLoad 2 true v125_2106 H1667 fun v126_2107 _ =>
  vLoad 2 true (.ptr ((c + 14) :: p) 2 0 0) H1667 fun v127_2108 _ =>
  vGen (.eqs .neq [.int, .int]) [v126_2107, v127_2108] H1667 ((c + 135) :: p) fun v128_2109 H2109 _ _ =>
  vSel v128_2109
  (Q .ret [(2, (.int .i64 1))] H2109 (c + 139))
  (vFA 4 (.ptr ((c + 8) :: p) 7 0 0) fun v131_2113 =>
  vLoad 2 true v131_2113 H2109 fun v132_2114 _ =>
  vLoad 2 true (.ptr ((c + 14) :: p) 2 0 0) H2109 fun v133_2115 _ =>
  vGen (.eqs .eql [.int, .int]) [v132_2114, v133_2115] H2109 ((c + 141) :: p) fun v134_2116 H2116 _ _ =>
  vSel v134_2116
  (vFA 0 (.ptr ((c + 8) :: p) 7 0 0) fun v135_2118 =>
  vLoad 1 false v135_2118 H2116 fun v136_2119 _ =>
  vBin .neq .num v136_2119 (.int .i64 1) fun v137_2120 =>
  vSel v137_2120
  (vFA 0 (.ptr ((c + 8) :: p) 7 0 0) fun v139_2122 =>
  vLoad 1 false v139_2122 H2116 fun v140_2123 _ =>
  vBin .neq .num v140_2123 (.int .i64 5) fun v141_2124 =>
  vSel v141_2124
  (vSel v22_21
  (Q .ret [(2, (.int .i64 1))] H2116 (c + 155))
  (Q .ret [(2, (.int .i64 0))] H2116 (c + 155)))
  (Q .ret [(2, (.int .i64 0))] H2116 (c + 155)))
  (Q .ret [(2, (.int .i64 0))] H2116 (c + 155)))
  (vFA 4 (.ptr ((c + 8) :: p) 7 0 0) fun v148_2138 =>
  vLoad 2 true v148_2138 H2116 fun v149_2139 _ =>
  vop P .call [(.fn (.func 66) [] [(.ptr ((c + 7) :: p) 1 0 0)]), v149_2139] H2116 ((c + 146) :: p) fun v150_2140 H2140 _ _ =>
  vNot v150_2140 fun v151_2141 =>
  vSel v151_2141
  (Q .ret [(2, (.int .i64 1))] H2140 (c + 164))
  (vFA 0 (.ptr ((c + 8) :: p) 7 0 0) fun v153_2146 =>
  vLoad 1 false v153_2146 H2140 fun v154_2147 _ =>
  vBin .eql .num v154_2147 (.int .i64 1) fun v155_2148 =>
  vSel v155_2148
  (vFA 4 (.ptr ((c + 8) :: p) 7 0 0) fun v157_2150 =>
  vFA 0 v157_2150 fun v158_2151 =>
  vLoad 1 false v158_2151 H2140 fun v159_2152 _ =>
  vFA 2 (.ptr ((c + 8) :: p) 7 0 0) fun v160_2153 =>
  vFA 0 v160_2153 fun v161_2154 =>
  vLoad 1 false v161_2154 H2140 fun v162_2155 _ =>
  vBin .geq .num v159_2152 v162_2155 fun v163_2156 =>
  vSel v163_2156
  (Q .ret [(2, (.int .i64 1))] H2140 (c + 164))
  (Q .ret [(2, (.int .i64 0))] H2140 (c + 164)))
  (Q .ret [(2, (.int .i64 0))] H2140 (c + 164))))))
  (vFA 4 (.ptr ((c + 8) :: p) 7 0 0) fun v131_2168 =>
  vLoad 2 true v131_2168 H1667 fun v132_2169 _ =>
  vLoad 2 true (.ptr ((c + 14) :: p) 2 0 0) H1667 fun v133_2170 _ =>
  vGen (.eqs .eql [.int, .int]) [v132_2169, v133_2170] H1667 ((c + 141) :: p) fun v134_2171 H2171 _ _ =>
  vSel v134_2171
  (vFA 0 (.ptr ((c + 8) :: p) 7 0 0) fun v135_2173 =>
  vLoad 1 false v135_2173 H2171 fun v136_2174 _ =>
  vBin .neq .num v136_2174 (.int .i64 1) fun v137_2175 =>
  vSel v137_2175
  (vFA 0 (.ptr ((c + 8) :: p) 7 0 0) fun v139_2177 =>
  vLoad 1 false v139_2177 H2171 fun v140_2178 _ =>
  vBin .neq .num v140_2178 (.int .i64 5) fun v141_2179 =>
  vSel v141_2179
  (vSel v22_21
  (Q .ret [(2, (.int .i64 1))] H2171 (c + 155))
  (Q .ret [(2, (.int .i64 0))] H2171 (c + 155)))
  (Q .ret [(2, (.int .i64 0))] H2171 (c + 155)))
  (Q .ret [(2, (.int .i64 0))] H2171 (c + 155)))
  (vFA 4 (.ptr ((c + 8) :: p) 7 0 0) fun v148_2193 =>
  vLoad 2 true v148_2193 H2171 fun v149_2194 _ =>
  vop P .call [(.fn (.func 66) [] [(.ptr ((c + 7) :: p) 1 0 0)]), v149_2194] H2171 ((c + 146) :: p) fun v150_2195 H2195 _ _ =>
  vNot v150_2195 fun v151_2196 =>
  vSel v151_2196
  (Q .ret [(2, (.int .i64 1))] H2195 (c + 164))
  (vFA 0 (.ptr ((c + 8) :: p) 7 0 0) fun v153_2201 =>
  vLoad 1 false v153_2201 H2195 fun v154_2202 _ =>
  vBin .eql .num v154_2202 (.int .i64 1) fun v155_2203 =>
  vSel v155_2203
  (vFA 4 (.ptr ((c + 8) :: p) 7 0 0) fun v157_2205 =>
  vFA 0 v157_2205 fun v158_2206 =>
  vLoad 1 false v158_2206 H2195 fun v159_2207 _ =>
  vFA 2 (.ptr ((c + 8) :: p) 7 0 0) fun v160_2208 =>
  vFA 0 v160_2208 fun v161_2209 =>
  vLoad 1 false v161_2209 H2195 fun v162_2210 _ =>
  vBin .geq .num v159_2207 v162_2210 fun v163_2211 =>
  vSel v163_2211
  (Q .ret [(2, (.int .i64 1))] H2195 (c + 164))
  (Q .ret [(2, (.int .i64 0))] H2195 (c + 164)))
  (Q .ret [(2, (.int .i64 0))] H2195 (c + 164)))))))
  (vNot v22_21 fun v123_2225 =>
  vSel v123_2225
  (vFA 4 (.ptr ((c + 8) :: p) 7 0 0) fun v125_2227 =>
  vLoad 2 true v125_2227 H1667 fun v126_2228 _ =>
  vLoad 2 true (.ptr ((c + 14) :: p) 2 0 0) H1667 fun v127_2229 _ =>
  vGen (.eqs .neq [.int, .int]) [v126_2228, v127_2229] H1667 ((c + 135) :: p) fun v128_2230 H2230 _ _ =>
  vSel v128_2230
  (Q .ret [(2, (.int .i64 1))] H2230 (c + 139))
  (vFA 4 (.ptr ((c + 8) :: p) 7 0 0) fun v131_2234 =>
  vLoad 2 true v131_2234 H2230 fun v132_2235 _ =>
  vLoad 2 true (.ptr ((c + 14) :: p) 2 0 0) H2230 fun v133_2236 _ =>
  vGen (.eqs .eql [.int, .int]) [v132_2235, v133_2236] H2230 ((c + 141) :: p) fun v134_2237 H2237 _ _ =>
  vSel v134_2237
  (vFA 0 (.ptr ((c + 8) :: p) 7 0 0) fun v135_2239 =>
  vLoad 1 false v135_2239 H2237 fun v136_2240 _ =>
  vBin .neq .num v136_2240 (.int .i64 1) fun v137_2241 =>
  vSel v137_2241
  (vFA 0 (.ptr ((c + 8) :: p) 7 0 0) fun v139_2243 =>
  vLoad 1 false v139_2243 H2237 fun v140_2244 _ =>
  vBin .neq .num v140_2244 (.int .i64 5) fun v141_2245 =>
  vSel v141_2245
  (vSel v22_21
  (Q .ret [(2, (.int .i64 1))] H2237 (c + 155))
  (Q .ret [(2, (.int .i64 0))] H2237 (c + 155)))
  (Q .ret [(2, (.int .i64 0))] H2237 (c + 155)))
  (Q .ret [(2, (.int .i64 0))] H2237 (c + 155)))
  (vFA 4 (.ptr ((c + 8) :: p) 7 0 0) fun v148_2259 =>
  vLoad 2 true v148_2259 H2237 fun v149_2260 _ =>
  vop P .call [(.fn (.func 66) [] [(.ptr ((c + 7) :: p) 1 0 0)]), v149_2260] H2237 ((c + 146) :: p) fun v150_2261 H2261 _ _ =>
  vNot v150_2261 fun v151_2262 =>
  vSel v151_2262
  (Q .ret [(2, (.int .i64 1))] H2261 (c + 164))
  (vFA 0 (.ptr ((c + 8) :: p) 7 0 0) fun v153_2267 =>
  vLoad 1 false v153_2267 H2261 fun v154_2268 _ =>
  vBin .eql .num v154_2268 (.int .i64 1) fun v155_2269 =>
  vSel v155_2269
  (vFA 4 (.ptr ((c + 8) :: p) 7 0 0) fun v157_2271 =>
  vFA 0 v157_2271 fun v158_2272 =>
  vLoad 1 false v158_2272 H2261 fun v159_2273 _ =>
  vFA 2 (.ptr ((c + 8) :: p) 7 0 0) fun v160_2274 =>
  vFA 0 v160_2274 fun v161_2275 =>
  vLoad 1 false v161_2275 H2261 fun v162_2276 _ =>
  vBin .geq .num v159_2273 v162_2276 fun v163_2277 =>
  vSel v163_2277
  (Q .ret [(2, (.int .i64 1))] H2261 (c + 164))
  (Q .ret [(2, (.int .i64 0))] H2261 (c + 164)))
  (Q .ret [(2, (.int .i64 0))] H2261 (c + 164))))))
  (vFA 4 (.ptr ((c + 8) :: p) 7 0 0) fun v131_2289 =>
  vLoad 2 true v131_2289 H1667 fun v132_2290 _ =>
  vLoad 2 true (.ptr ((c + 14) :: p) 2 0 0) H1667 fun v133_2291 _ =>
  vGen (.eqs .eql [.int, .int]) [v132_2290, v133_2291] H1667 ((c + 141) :: p) fun v134_2292 H2292 _ _ =>
  vSel v134_2292
  (vFA 0 (.ptr ((c + 8) :: p) 7 0 0) fun v135_2294 =>
  vLoad 1 false v135_2294 H2292 fun v136_2295 _ =>
  vBin .neq .num v136_2295 (.int .i64 1) fun v137_2296 =>
  vSel v137_2296
  (vFA 0 (.ptr ((c + 8) :: p) 7 0 0) fun v139_2298 =>
  vLoad 1 false v139_2298 H2292 fun v140_2299 _ =>
  vBin .neq .num v140_2299 (.int .i64 5) fun v141_2300 =>
  vSel v141_2300
  (vSel v22_21
  (Q .ret [(2, (.int .i64 1))] H2292 (c + 155))
  (Q .ret [(2, (.int .i64 0))] H2292 (c + 155)))
  (Q .ret [(2, (.int .i64 0))] H2292 (c + 155)))
  (Q .ret [(2, (.int .i64 0))] H2292 (c + 155)))
  (vFA 4 (.ptr ((c + 8) :: p) 7 0 0) fun v148_2314 =>
  vLoad 2 true v148_2314 H2292 fun v149_2315 _ =>
  vop P .call [(.fn (.func 66) [] [(.ptr ((c + 7) :: p) 1 0 0)]), v149_2315] H2292 ((c + 146) :: p) fun v150_2316 H2316 _ _ =>
  vNot v150_2316 fun v151_2317 =>
  vSel v151_2317
  (Q .ret [(2, (.int .i64 1))] H2316 (c + 164))
  (vFA 0 (.ptr ((c + 8) :: p) 7 0 0) fun v153_2322 =>
  vLoad 1 false v153_2322 H2316 fun v154_2323 _ =>
  vBin .eql .num v154_2323 (.int .i64 1) fun v155_2324 =>
  vSel v155_2324
  (vFA 4 (.ptr ((c + 8) :: p) 7 0 0) fun v157_2326 =>
  vFA 0 v157_2326 fun v158_2327 =>
  vLoad 1 false v158_2327 H2316 fun v159_2328 _ =>
  vFA 2 (.ptr ((c + 8) :: p) 7 0 0) fun v160_2329 =>
  vFA 0 v160_2329 fun v161_2330 =>
  vLoad 1 false v161_2330 H2316 fun v162_2331 _ =>
  vBin .geq .num v159_2328 v162_2331 fun v163_2332 =>
  vSel v163_2332
  (Q .ret [(2, (.int .i64 1))] H2316 (c + 164))
  (Q .ret [(2, (.int .i64 0))] H2316 (c + 164)))
  (Q .ret [(2, (.int .i64 0))] H2316 (c + 164)))))))))
  (vSel v23_22
  (vFA 6 (.ptr ((c + 8) :: p) 7 0 0) fun v108_2347 =>
  vLoad 1 false v108_2347 H274 fun v109_2348 _ =>
  vCall P 71 [v109_2348] H274 ((c + 116) :: p) fun v110_2349 H2349 _ _ =>
  vNot v110_2349 fun v111_2350 =>
  vSel v111_2350
  (Q .ret [(2, (.int .i64 1))] H2349 (c + 130))
  (vNot v23_22 fun v115_2357 =>
  vSel v115_2357
  (vFA 6 (.ptr ((c + 8) :: p) 7 0 0) fun v117_2359 =>
  vLoad 1 false v117_2359 H2349 fun v118_2360 _ =>
  vBin .neq .num v118_2360 (.int .i64 0) fun v119_2361 =>
  vSel v119_2361
  (vSel v119_2361
  (Q .ret [(2, (.int .i64 1))] H2349 (c + 130))
  (vFA 4 (.ptr ((c + 8) :: p) 7 0 0) fun v131_2366 =>
  vLoad 2 true v131_2366 H2349 fun v132_2367 _ =>
  vLoad 2 true (.ptr ((c + 14) :: p) 2 0 0) H2349 fun v133_2368 _ =>
  vGen (.eqs .eql [.int, .int]) [v132_2367, v133_2368] H2349 ((c + 132) :: p) fun v134_2369 H2369 _ _ =>
  vSel v134_2369
  (vFA 0 (.ptr ((c + 8) :: p) 7 0 0) fun v135_2371 =>
  vLoad 1 false v135_2371 H2369 fun v136_2372 _ =>
  vBin .neq .num v136_2372 (.int .i64 1) fun v137_2373 =>
  vSel v137_2373
  (vFA 0 (.ptr ((c + 8) :: p) 7 0 0) fun v139_2375 =>
  vLoad 1 false v139_2375 H2369 fun v140_2376 _ =>
  vBin .neq .num v140_2376 (.int .i64 5) fun v141_2377 =>
  vSel v141_2377
  (vSel v22_21
  (Q .ret [(2, (.int .i64 1))] H2369 (c + 146))
  (Q .ret [(2, (.int .i64 0))] H2369 (c + 146)))
  (Q .ret [(2, (.int .i64 0))] H2369 (c + 146)))
  (Q .ret [(2, (.int .i64 0))] H2369 (c + 146)))
  (vFA 4 (.ptr ((c + 8) :: p) 7 0 0) fun v148_2391 =>
  vLoad 2 true v148_2391 H2369 fun v149_2392 _ =>
  vop P .call [(.fn (.func 66) [] [(.ptr ((c + 7) :: p) 1 0 0)]), v149_2392] H2369 ((c + 137) :: p) fun v150_2393 H2393 _ _ =>
  vNot v150_2393 fun v151_2394 =>
  vSel v151_2394
  (Q .ret [(2, (.int .i64 1))] H2393 (c + 155))
  (vFA 0 (.ptr ((c + 8) :: p) 7 0 0) fun v153_2399 =>
  vLoad 1 false v153_2399 H2393 fun v154_2400 _ =>
  vBin .eql .num v154_2400 (.int .i64 1) fun v155_2401 =>
  vSel v155_2401
  (vFA 4 (.ptr ((c + 8) :: p) 7 0 0) fun v157_2403 =>
  vFA 0 v157_2403 fun v158_2404 =>
  vLoad 1 false v158_2404 H2393 fun v159_2405 _ =>
  vFA 2 (.ptr ((c + 8) :: p) 7 0 0) fun v160_2406 =>
  vFA 0 v160_2406 fun v161_2407 =>
  vLoad 1 false v161_2407 H2393 fun v162_2408 _ =>
  vBin .geq .num v159_2405 v162_2408 fun v163_2409 =>
  vSel v163_2409
  (Q .ret [(2, (.int .i64 1))] H2393 (c + 155))
  (Q .ret [(2, (.int .i64 0))] H2393 (c + 155)))
  (Q .ret [(2, (.int .i64 0))] H2393 (c + 155))))))
  (vNot v22_21 fun v123_2420 =>
  vSel v123_2420
  (vFA 4 (.ptr ((c + 8) :: p) 7 0 0) fun v125_2422 =>
  vLoad 2 true v125_2422 H2349 fun v126_2423 _ =>
  vLoad 2 true (.ptr ((c + 14) :: p) 2 0 0) H2349 fun v127_2424 _ =>
  vGen (.eqs .neq [.int, .int]) [v126_2423, v127_2424] H2349 ((c + 135) :: p) fun v128_2425 H2425 _ _ =>
  vSel v128_2425
  (Q .ret [(2, (.int .i64 1))] H2425 (c + 139))
  (vFA 4 (.ptr ((c + 8) :: p) 7 0 0) fun v131_2429 =>
  vLoad 2 true v131_2429 H2425 fun v132_2430 _ =>
  vLoad 2 true (.ptr ((c + 14) :: p) 2 0 0) H2425 fun v133_2431 _ =>
  vGen (.eqs .eql [.int, .int]) [v132_2430, v133_2431] H2425 ((c + 141) :: p) fun v134_2432 H2432 _ _ =>
  vSel v134_2432
  (vFA 0 (.ptr ((c + 8) :: p) 7 0 0) fun v135_2434 =>
  vLoad 1 false v135_2434 H2432 fun v136_2435 _ =>
  vBin .neq .num v136_2435 (.int .i64 1) fun v137_2436 =>
  vSel v137_2436
  (vFA 0 (.ptr ((c + 8) :: p) 7 0 0) fun v139_2438 =>
  vLoad 1 false v139_2438 H2432 fun v140_2439 _ =>
  vBin .neq .num v140_2439 (.int .i64 5) fun v141_2440 =>
  vSel v141_2440
  (vSel v22_21
  (Q .ret [(2, (.int .i64 1))] H2432 (c + 155))
  (Q .ret [(2, (.int .i64 0))] H2432 (c + 155)))
  (Q .ret [(2, (.int .i64 0))] H2432 (c + 155)))
  (Q .ret [(2, (.int .i64 0))] H2432 (c + 155)))
  (vFA 4 (.ptr ((c + 8) :: p) 7 0 0) fun v148_2454 =>
  vLoad 2 true v148_2454 H2432 fun v149_2455 _ =>
  vop P .call [(.fn (.func 66) [] [(.ptr ((c + 7) :: p) 1 0 0)]), v149_2455] H2432 ((c + 146) :: p) fun v150_2456 H2456 _ _ =>
  vNot v150_2456 fun v151_2457 =>
  vSel v151_2457
  (Q .ret [(2, (.int .i64 1))] H2456 (c + 164))
  (vFA 0 (.ptr ((c + 8) :: p) 7 0 0) fun v153_2462 =>
  vLoad 1 false v153_2462 H2456 fun v154_2463 _ =>
  vBin .eql .num v154_2463 (.int .i64 1) fun v155_2464 =>
  vSel v155_2464
  (vFA 4 (.ptr ((c + 8) :: p) 7 0 0) fun v157_2466 =>
  vFA 0 v157_2466 fun v158_2467 =>
  vLoad 1 false v158_2467 H2456 fun v159_2468 _ =>
  vFA 2 (.ptr ((c + 8) :: p) 7 0 0) fun v160_2469 =>
  vFA 0 v160_2469 fun v161_2470 =>
  vLoad 1 false v161_2470 H2456 fun v162_2471 _ =>
  vBin .geq .num v159_2468 v162_2471 fun v163_2472 =>
  vSel v163_2472
  (Q .ret [(2, (.int .i64 1))] H2456 (c + 164))
  (Q .ret [(2, (.int .i64 0))] H2456 (c + 164)))
  (Q .ret [(2, (.int .i64 0))] H2456 (c + 164))))))
  (vFA 4 (.ptr ((c + 8) :: p) 7 0 0) fun v131_2484 =>
  vLoad 2 true v131_2484 H2349 fun v132_2485 _ =>
  vLoad 2 true (.ptr ((c + 14) :: p) 2 0 0) H2349 fun v133_2486 _ =>
  vGen (.eqs .eql [.int, .int]) [v132_2485, v133_2486] H2349 ((c + 141) :: p) fun v134_2487 H2487 _ _ =>
  vSel v134_2487
  (vFA 0 (.ptr ((c + 8) :: p) 7 0 0) fun v135_2489 =>
  vLoad 1 false v135_2489 H2487 fun v136_2490 _ =>
  vBin .neq .num v136_2490 (.int .i64 1) fun v137_2491 =>
  vSel v137_2491
  (vFA 0 (.ptr ((c + 8) :: p) 7 0 0) fun v139_2493 =>
  vLoad 1 false v139_2493 H2487 fun v140_2494 _ =>
  vBin .neq .num v140_2494 (.int .i64 5) fun v141_2495 =>
  vSel v141_2495
  (vSel v22_21
  (Q .ret [(2, (.int .i64 1))] H2487 (c + 155))
  (Q .ret [(2, (.int .i64 0))] H2487 (c + 155)))
  (Q .ret [(2, (.int .i64 0))] H2487 (c + 155)))
  (Q .ret [(2, (.int .i64 0))] H2487 (c + 155)))
  (vFA 4 (.ptr ((c + 8) :: p) 7 0 0) fun v148_2509 =>
  vLoad 2 true v148_2509 H2487 fun v149_2510 _ =>
  vop P .call [(.fn (.func 66) [] [(.ptr ((c + 7) :: p) 1 0 0)]), v149_2510] H2487 ((c + 146) :: p) fun v150_2511 H2511 _ _ =>
  vNot v150_2511 fun v151_2512 =>
  vSel v151_2512
  (Q .ret [(2, (.int .i64 1))] H2511 (c + 164))
  (vFA 0 (.ptr ((c + 8) :: p) 7 0 0) fun v153_2517 =>
  vLoad 1 false v153_2517 H2511 fun v154_2518 _ =>
  vBin .eql .num v154_2518 (.int .i64 1) fun v155_2519 =>
  vSel v155_2519
  (vFA 4 (.ptr ((c + 8) :: p) 7 0 0) fun v157_2521 =>
  vFA 0 v157_2521 fun v158_2522 =>
  vLoad 1 false v158_2522 H2511 fun v159_2523 _ =>
  vFA 2 (.ptr ((c + 8) :: p) 7 0 0) fun v160_2524 =>
  vFA 0 v160_2524 fun v161_2525 =>
  vLoad 1 false v161_2525 H2511 fun v162_2526 _ =>
  vBin .geq .num v159_2523 v162_2526 fun v163_2527 =>
  vSel v163_2527
  (Q .ret [(2, (.int .i64 1))] H2511 (c + 164))
  (Q .ret [(2, (.int .i64 0))] H2511 (c + 164)))
  (Q .ret [(2, (.int .i64 0))] H2511 (c + 164)))))))
  (vNot v22_21 fun v123_2541 =>
  vSel v123_2541
  (vFA 4 (.ptr ((c + 8) :: p) 7 0 0) fun v125_2543 =>
  vLoad 2 true v125_2543 H2349 fun v126_2544 _ =>
  vLoad 2 true (.ptr ((c + 14) :: p) 2 0 0) H2349 fun v127_2545 _ =>
  vGen (.eqs .neq [.int, .int]) [v126_2544, v127_2545] H2349 ((c + 135) :: p) fun v128_2546 H2546 _ _ =>
  vSel v128_2546
  (Q .ret [(2, (.int .i64 1))] H2546 (c + 139))
  (vFA 4 (.ptr ((c + 8) :: p) 7 0 0) fun v131_2550 =>
  vLoad 2 true v131_2550 H2546 fun v132_2551 _ =>
  vLoad 2 true (.ptr ((c + 14) :: p) 2 0 0) H2546 fun v133_2552 _ =>
  vGen (.eqs .eql [.int, .int]) [v132_2551, v133_2552] H2546 ((c + 141) :: p) fun v134_2553 H2553 _ _ =>
  vSel v134_2553
  (vFA 0 (.ptr ((c + 8) :: p) 7 0 0) fun v135_2555 =>
  vLoad 1 false v135_2555 H2553 fun v136_2556 _ =>
  vBin .neq .num v136_2556 (.int .i64 1) fun v137_2557 =>
  vSel v137_2557
  (vFA 0 (.ptr ((c + 8) :: p) 7 0 0) fun v139_2559 =>
  vLoad 1 false v139_2559 H2553 fun v140_2560 _ =>
  vBin .neq .num v140_2560 (.int .i64 5) fun v141_2561 =>
  vSel v141_2561
  (vSel v22_21
  (Q .ret [(2, (.int .i64 1))] H2553 (c + 155))
  (Q .ret [(2, (.int .i64 0))] H2553 (c + 155)))
  (Q .ret [(2, (.int .i64 0))] H2553 (c + 155)))
  (Q .ret [(2, (.int .i64 0))] H2553 (c + 155)))
  (vFA 4 (.ptr ((c + 8) :: p) 7 0 0) fun v148_2575 =>
  vLoad 2 true v148_2575 H2553 fun v149_2576 _ =>
  vop P .call [(.fn (.func 66) [] [(.ptr ((c + 7) :: p) 1 0 0)]), v149_2576] H2553 ((c + 146) :: p) fun v150_2577 H2577 _ _ =>
  vNot v150_2577 fun v151_2578 =>
  vSel v151_2578
  (Q .ret [(2, (.int .i64 1))] H2577 (c + 164))
  (vFA 0 (.ptr ((c + 8) :: p) 7 0 0) fun v153_2583 =>
  vLoad 1 false v153_2583 H2577 fun v154_2584 _ =>
  vBin .eql .num v154_2584 (.int .i64 1) fun v155_2585 =>
  vSel v155_2585
  (vFA 4 (.ptr ((c + 8) :: p) 7 0 0) fun v157_2587 =>
  vFA 0 v157_2587 fun v158_2588 =>
  vLoad 1 false v158_2588 H2577 fun v159_2589 _ =>
  vFA 2 (.ptr ((c + 8) :: p) 7 0 0) fun v160_2590 =>
  vFA 0 v160_2590 fun v161_2591 =>
  vLoad 1 false v161_2591 H2577 fun v162_2592 _ =>
  vBin .geq .num v159_2589 v162_2592 fun v163_2593 =>
  vSel v163_2593
  (Q .ret [(2, (.int .i64 1))] H2577 (c + 164))
  (Q .ret [(2, (.int .i64 0))] H2577 (c + 164)))
  (Q .ret [(2, (.int .i64 0))] H2577 (c + 164))))))
  (vFA 4 (.ptr ((c + 8) :: p) 7 0 0) fun v131_2605 =>
  vLoad 2 true v131_2605 H2349 fun v132_2606 _ =>
  vLoad 2 true (.ptr ((c + 14) :: p) 2 0 0) H2349 fun v133_2607 _ =>
  vGen (.eqs .eql [.int, .int]) [v132_2606, v133_2607] H2349 ((c + 141) :: p) fun v134_2608 H2608 _ _ =>
  vSel v134_2608
  (vFA 0 (.ptr ((c + 8) :: p) 7 0 0) fun v135_2610 =>
  vLoad 1 false v135_2610 H2608 fun v136_2611 _ =>
  vBin .neq .num v136_2611 (.int .i64 1) fun v137_2612 =>
  vSel v137_2612
  (vFA 0 (.ptr ((c + 8) :: p) 7 0 0) fun v139_2614 =>
  vLoad 1 false v139_2614 H2608 fun v140_2615 _ =>
  vBin .neq .num v140_2615 (.int .i64 5) fun v141_2616 =>
  vSel v141_2616
  (vSel v22_21
  (Q .ret [(2, (.int .i64 1))] H2608 (c + 155))
  (Q .ret [(2, (.int .i64 0))] H2608 (c + 155)))
  (Q .ret [(2, (.int .i64 0))] H2608 (c + 155)))
  (Q .ret [(2, (.int .i64 0))] H2608 (c + 155)))
  (vFA 4 (.ptr ((c + 8) :: p) 7 0 0) fun v148_2630 =>
  vLoad 2 true v148_2630 H2608 fun v149_2631 _ =>
  vop P .call [(.fn (.func 66) [] [(.ptr ((c + 7) :: p) 1 0 0)]), v149_2631] H2608 ((c + 146) :: p) fun v150_2632 H2632 _ _ =>
  vNot v150_2632 fun v151_2633 =>
  vSel v151_2633
  (Q .ret [(2, (.int .i64 1))] H2632 (c + 164))
  (vFA 0 (.ptr ((c + 8) :: p) 7 0 0) fun v153_2638 =>
  vLoad 1 false v153_2638 H2632 fun v154_2639 _ =>
  vBin .eql .num v154_2639 (.int .i64 1) fun v155_2640 =>
  vSel v155_2640
  (vFA 4 (.ptr ((c + 8) :: p) 7 0 0) fun v157_2642 =>
  vFA 0 v157_2642 fun v158_2643 =>
  vLoad 1 false v158_2643 H2632 fun v159_2644 _ =>
  vFA 2 (.ptr ((c + 8) :: p) 7 0 0) fun v160_2645 =>
  vFA 0 v160_2645 fun v161_2646 =>
  vLoad 1 false v161_2646 H2632 fun v162_2647 _ =>
  vBin .geq .num v159_2644 v162_2647 fun v163_2648 =>
  vSel v163_2648
  (Q .ret [(2, (.int .i64 1))] H2632 (c + 164))
  (Q .ret [(2, (.int .i64 0))] H2632 (c + 164)))
  (Q .ret [(2, (.int .i64 0))] H2632 (c + 164))))))))
  (vNot v23_22 fun v115_2661 =>
  vSel v115_2661
  (vFA 6 (.ptr ((c + 8) :: p) 7 0 0) fun v117_2663 =>
  vLoad 1 false v117_2663 H274 fun v118_2664 _ =>
  vBin .neq .num v118_2664 (.int .i64 0) fun v119_2665 =>
  vSel v119_2665
  (vSel v119_2665
  (Q .ret [(2, (.int .i64 1))] H274 (c + 130))
  (vFA 4 (.ptr ((c + 8) :: p) 7 0 0) fun v131_2670 =>
  vLoad 2 true v131_2670 H274 fun v132_2671 _ =>
  vLoad 2 true (.ptr ((c + 14) :: p) 2 0 0) H274 fun v133_2672 _ =>
  vGen (.eqs .eql [.int, .int]) [v132_2671, v133_2672] H274 ((c + 132) :: p) fun v134_2673 H2673 _ _ =>
  vSel v134_2673
  (vFA 0 (.ptr ((c + 8) :: p) 7 0 0) fun v135_2675 =>
  vLoad 1 false v135_2675 H2673 fun v136_2676 _ =>
  vBin .neq .num v136_2676 (.int .i64 1) fun v137_2677 =>
  vSel v137_2677
  (vFA 0 (.ptr ((c + 8) :: p) 7 0 0) fun v139_2679 =>
  vLoad 1 false v139_2679 H2673 fun v140_2680 _ =>
  vBin .neq .num v140_2680 (.int .i64 5) fun v141_2681 =>
  vSel v141_2681
  (vSel v22_21
  (Q .ret [(2, (.int .i64 1))] H2673 (c + 146))
  (Q .ret [(2, (.int .i64 0))] H2673 (c + 146)))
  (Q .ret [(2, (.int .i64 0))] H2673 (c + 146)))
  (Q .ret [(2, (.int .i64 0))] H2673 (c + 146)))
  (vFA 4 (.ptr ((c + 8) :: p) 7 0 0) fun v148_2695 =>
  vLoad 2 true v148_2695 H2673 fun v149_2696 _ =>
  vop P .call [(.fn (.func 66) [] [(.ptr ((c + 7) :: p) 1 0 0)]), v149_2696] H2673 ((c + 137) :: p) fun v150_2697 H2697 _ _ =>
  vNot v150_2697 fun v151_2698 =>
  vSel v151_2698
  (Q .ret [(2, (.int .i64 1))] H2697 (c + 155))
  (vFA 0 (.ptr ((c + 8) :: p) 7 0 0) fun v153_2703 =>
  vLoad 1 false v153_2703 H2697 fun v154_2704 _ =>
  vBin .eql .num v154_2704 (.int .i64 1) fun v155_2705 =>
  vSel v155_2705
  (vFA 4 (.ptr ((c + 8) :: p) 7 0 0) fun v157_2707 =>
  vFA 0 v157_2707 fun v158_2708 =>
  vLoad 1 false v158_2708 H2697 fun v159_2709 _ =>
  vFA 2 (.ptr ((c + 8) :: p) 7 0 0) fun v160_2710 =>
  vFA 0 v160_2710 fun v161_2711 =>
  vLoad 1 false v161_2711 H2697 fun v162_2712 _ =>
  vBin .geq .num v159_2709 v162_2712 fun v163_2713 =>
  vSel v163_2713
  (Q .ret [(2, (.int .i64 1))] H2697 (c + 155))
  (Q .ret [(2, (.int .i64 0))] H2697 (c + 155)))
  (Q .ret [(2, (.int .i64 0))] H2697 (c + 155))))))
  (vNot v22_21 fun v123_2724 =>
  vSel v123_2724
  (vFA 4 (.ptr ((c + 8) :: p) 7 0 0) fun v125_2726 =>
  vLoad 2 true v125_2726 H274 fun v126_2727 _ =>
  vLoad 2 true (.ptr ((c + 14) :: p) 2 0 0) H274 fun v127_2728 _ =>
  vGen (.eqs .neq [.int, .int]) [v126_2727, v127_2728] H274 ((c + 135) :: p) fun v128_2729 H2729 _ _ =>
  vSel v128_2729
  (Q .ret [(2, (.int .i64 1))] H2729 (c + 139))
  (vFA 4 (.ptr ((c + 8) :: p) 7 0 0) fun v131_2733 =>
  vLoad 2 true v131_2733 H2729 fun v132_2734 _ =>
  vLoad 2 true (.ptr ((c + 14) :: p) 2 0 0) H2729 fun v133_2735 _ =>
  vGen (.eqs .eql [.int, .int]) [v132_2734, v133_2735] H2729 ((c + 141) :: p) fun v134_2736 H2736 _ _ =>
  vSel v134_2736
  (vFA 0 (.ptr ((c + 8) :: p) 7 0 0) fun v135_2738 =>
  vLoad 1 false v135_2738 H2736 fun v136_2739 _ =>
  vBin .neq .num v136_2739 (.int .i64 1) fun v137_2740 =>
  vSel v137_2740
  (vFA 0 (.ptr ((c + 8) :: p) 7 0 0) fun v139_2742 =>
  vLoad 1 false v139_2742 H2736 fun v140_2743 _ =>
  vBin .neq .num v140_2743 (.int .i64 5) fun v141_2744 =>
  vSel v141_2744
  (vSel v22_21
  (Q .ret [(2, (.int .i64 1))] H2736 (c + 155))
  (Q .ret [(2, (.int .i64 0))] H2736 (c + 155)))
  (Q .ret [(2, (.int .i64 0))] H2736 (c + 155)))
  (Q .ret [(2, (.int .i64 0))] H2736 (c + 155)))
  (vFA 4 (.ptr ((c + 8) :: p) 7 0 0) fun v148_2758 =>
  vLoad 2 true v148_2758 H2736 fun v149_2759 _ =>
  vop P .call [(.fn (.func 66) [] [(.ptr ((c + 7) :: p) 1 0 0)]), v149_2759] H2736 ((c + 146) :: p) fun v150_2760 H2760 _ _ =>
  vNot v150_2760 fun v151_2761 =>
  vSel v151_2761
  (Q .ret [(2, (.int .i64 1))] H2760 (c + 164))
  (vFA 0 (.ptr ((c + 8) :: p) 7 0 0) fun v153_2766 =>
  vLoad 1 false v153_2766 H2760 fun v154_2767 _ =>
  vBin .eql .num v154_2767 (.int .i64 1) fun v155_2768 =>
  vSel v155_2768
  (vFA 4 (.ptr ((c + 8) :: p) 7 0 0) fun v157_2770 =>
  vFA 0 v157_2770 fun v158_2771 =>
  vLoad 1 false v158_2771 H2760 fun v159_2772 _ =>
  vFA 2 (.ptr ((c + 8) :: p) 7 0 0) fun v160_2773 =>
  vFA 0 v160_2773 fun v161_2774 =>
  vLoad 1 false v161_2774 H2760 fun v162_2775 _ =>
  vBin .geq .num v159_2772 v162_2775 fun v163_2776 =>
  vSel v163_2776
  (Q .ret [(2, (.int .i64 1))] H2760 (c + 164))
  (Q .ret [(2, (.int .i64 0))] H2760 (c + 164)))
  (Q .ret [(2, (.int .i64 0))] H2760 (c + 164))))))
  (vFA 4 (.ptr ((c + 8) :: p) 7 0 0) fun v131_2788 =>
  vLoad 2 true v131_2788 H274 fun v132_2789 _ =>
  vLoad 2 true (.ptr ((c + 14) :: p) 2 0 0) H274 fun v133_2790 _ =>
  vGen (.eqs .eql [.int, .int]) [v132_2789, v133_2790] H274 ((c + 141) :: p) fun v134_2791 H2791 _ _ =>
  vSel v134_2791
  (vFA 0 (.ptr ((c + 8) :: p) 7 0 0) fun v135_2793 =>
  vLoad 1 false v135_2793 H2791 fun v136_2794 _ =>
  vBin .neq .num v136_2794 (.int .i64 1) fun v137_2795 =>
  vSel v137_2795
  (vFA 0 (.ptr ((c + 8) :: p) 7 0 0) fun v139_2797 =>
  vLoad 1 false v139_2797 H2791 fun v140_2798 _ =>
  vBin .neq .num v140_2798 (.int .i64 5) fun v141_2799 =>
  vSel v141_2799
  (vSel v22_21
  (Q .ret [(2, (.int .i64 1))] H2791 (c + 155))
  (Q .ret [(2, (.int .i64 0))] H2791 (c + 155)))
  (Q .ret [(2, (.int .i64 0))] H2791 (c + 155)))
  (Q .ret [(2, (.int .i64 0))] H2791 (c + 155)))
  (vFA 4 (.ptr ((c + 8) :: p) 7 0 0) fun v148_2813 =>
  vLoad 2 true v148_2813 H2791 fun v149_2814 _ =>
  vop P .call [(.fn (.func 66) [] [(.ptr ((c + 7) :: p) 1 0 0)]), v149_2814] H2791 ((c + 146) :: p) fun v150_2815 H2815 _ _ =>
  vNot v150_2815 fun v151_2816 =>
  vSel v151_2816
  (Q .ret [(2, (.int .i64 1))] H2815 (c + 164))
  (vFA 0 (.ptr ((c + 8) :: p) 7 0 0) fun v153_2821 =>
  vLoad 1 false v153_2821 H2815 fun v154_2822 _ =>
  vBin .eql .num v154_2822 (.int .i64 1) fun v155_2823 =>
  vSel v155_2823
  (vFA 4 (.ptr ((c + 8) :: p) 7 0 0) fun v157_2825 =>
  vFA 0 v157_2825 fun v158_2826 =>
  vLoad 1 false v158_2826 H2815 fun v159_2827 _ =>
  vFA 2 (.ptr ((c + 8) :: p) 7 0 0) fun v160_2828 =>
  vFA 0 v160_2828 fun v161_2829 =>
  vLoad 1 false v161_2829 H2815 fun v162_2830 _ =>
  vBin .geq .num v159_2827 v162_2830 fun v163_2831 =>
  vSel v163_2831
  (Q .ret [(2, (.int .i64 1))] H2815 (c + 164))
  (Q .ret [(2, (.int .i64 0))] H2815 (c + 164)))
  (Q .ret [(2, (.int .i64 0))] H2815 (c + 164)))))))
  (vNot v22_21 fun v123_2845 =>
  vSel v123_2845
  (vFA 4 (.ptr ((c + 8) :: p) 7 0 0) fun v125_2847 =>
  vLoad 2 true v125_2847 H274 fun v126_2848 _ =>
  vLoad 2 true (.ptr ((c + 14) :: p) 2 0 0) H274 fun v127_2849 _ =>
  vGen (.eqs .neq [.int, .int]) [v126_2848, v127_2849] H274 ((c + 135) :: p) fun v128_2850 H2850 _ _ =>
  vSel v128_2850
  (Q .ret [(2, (.int .i64 1))] H2850 (c + 139))
  (vFA 4 (.ptr ((c + 8) :: p) 7 0 0) fun v131_2854 =>
  vLoad 2 true v131_2854 H2850 fun v132_2855 _ =>
  vLoad 2 true (.ptr ((c + 14) :: p) 2 0 0) H2850 fun v133_2856 _ =>
  vGen (.eqs .eql [.int, .int]) [v132_2855, v133_2856] H2850 ((c + 141) :: p) fun v134_2857 H2857 _ _ =>
  vSel v134_2857
  (vFA 0 (.ptr ((c + 8) :: p) 7 0 0) fun v135_2859 =>
  vLoad 1 false v135_2859 H2857 fun v136_2860 _ =>
  vBin .neq .num v136_2860 (.int .i64 1) fun v137_2861 =>
  vSel v137_2861
  (vFA 0 (.ptr ((c + 8) :: p) 7 0 0) fun v139_2863 =>
  vLoad 1 false v139_2863 H2857 fun v140_2864 _ =>
  vBin .neq .num v140_2864 (.int .i64 5) fun v141_2865 =>
  vSel v141_2865
  (vSel v22_21
  (Q .ret [(2, (.int .i64 1))] H2857 (c + 155))
  (Q .ret [(2, (.int .i64 0))] H2857 (c + 155)))
  (Q .ret [(2, (.int .i64 0))] H2857 (c + 155)))
  (Q .ret [(2, (.int .i64 0))] H2857 (c + 155)))
  (vFA 4 (.ptr ((c + 8) :: p) 7 0 0) fun v148_2879 =>
  vLoad 2 true v148_2879 H2857 fun v149_2880 _ =>
  vop P .call [(.fn (.func 66) [] [(.ptr ((c + 7) :: p) 1 0 0)]), v149_2880] H2857 ((c + 146) :: p) fun v150_2881 H2881 _ _ =>
  vNot v150_2881 fun v151_2882 =>
  vSel v151_2882
  (Q .ret [(2, (.int .i64 1))] H2881 (c + 164))
  (vFA 0 (.ptr ((c + 8) :: p) 7 0 0) fun v153_2887 =>
  vLoad 1 false v153_2887 H2881 fun v154_2888 _ =>
  vBin .eql .num v154_2888 (.int .i64 1) fun v155_2889 =>
  vSel v155_2889
  (vFA 4 (.ptr ((c + 8) :: p) 7 0 0) fun v157_2891 =>
  vFA 0 v157_2891 fun v158_2892 =>
  vLoad 1 false v158_2892 H2881 fun v159_2893 _ =>
  vFA 2 (.ptr ((c + 8) :: p) 7 0 0) fun v160_2894 =>
  vFA 0 v160_2894 fun v161_2895 =>
  vLoad 1 false v161_2895 H2881 fun v162_2896 _ =>
  vBin .geq .num v159_2893 v162_2896 fun v163_2897 =>
  vSel v163_2897
  (Q .ret [(2, (.int .i64 1))] H2881 (c + 164))
  (Q .ret [(2, (.int .i64 0))] H2881 (c + 164)))
  (Q .ret [(2, (.int .i64 0))] H2881 (c + 164))))))
  (vFA 4 (.ptr ((c + 8) :: p) 7 0 0) fun v131_2909 =>
  vLoad 2 true v131_2909 H274 fun v132_2910 _ =>
  vLoad 2 true (.ptr ((c + 14) :: p) 2 0 0) H274 fun v133_2911 _ =>
  vGen (.eqs .eql [.int, .int]) [v132_2910, v133_2911] H274 ((c + 141) :: p) fun v134_2912 H2912 _ _ =>
  vSel v134_2912
  (vFA 0 (.ptr ((c + 8) :: p) 7 0 0) fun v135_2914 =>
  vLoad 1 false v135_2914 H2912 fun v136_2915 _ =>
  vBin .neq .num v136_2915 (.int .i64 1) fun v137_2916 =>
  vSel v137_2916
  (vFA 0 (.ptr ((c + 8) :: p) 7 0 0) fun v139_2918 =>
  vLoad 1 false v139_2918 H2912 fun v140_2919 _ =>
  vBin .neq .num v140_2919 (.int .i64 5) fun v141_2920 =>
  vSel v141_2920
  (vSel v22_21
  (Q .ret [(2, (.int .i64 1))] H2912 (c + 155))
  (Q .ret [(2, (.int .i64 0))] H2912 (c + 155)))
  (Q .ret [(2, (.int .i64 0))] H2912 (c + 155)))
  (Q .ret [(2, (.int .i64 0))] H2912 (c + 155)))
  (vFA 4 (.ptr ((c + 8) :: p) 7 0 0) fun v148_2934 =>
  vLoad 2 true v148_2934 H2912 fun v149_2935 _ =>
  vop P .call [(.fn (.func 66) [] [(.ptr ((c + 7) :: p) 1 0 0)]), v149_2935] H2912 ((c + 146) :: p) fun v150_2936 H2936 _ _ =>
  vNot v150_2936 fun v151_2937 =>
  vSel v151_2937
  (Q .ret [(2, (.int .i64 1))] H2936 (c + 164))
  (vFA 0 (.ptr ((c + 8) :: p) 7 0 0) fun v153_2942 =>
  vLoad 1 false v153_2942 H2936 fun v154_2943 _ =>
  vBin .eql .num v154_2943 (.int .i64 1) fun v155_2944 =>
  vSel v155_2944
  (vFA 4 (.ptr ((c + 8) :: p) 7 0 0) fun v157_2946 =>
  vFA 0 v157_2946 fun v158_2947 =>
  vLoad 1 false v158_2947 H2936 fun v159_2948 _ =>
  vFA 2 (.ptr ((c + 8) :: p) 7 0 0) fun v160_2949 =>
  vFA 0 v160_2949 fun v161_2950 =>
  vLoad 1 false v161_2950 H2936 fun v162_2951 _ =>
  vBin .geq .num v159_2948 v162_2951 fun v163_2952 =>
  vSel v163_2952
  (Q .ret [(2, (.int .i64 1))] H2936 (c + 164))
  (Q .ret [(2, (.int .i64 0))] H2936 (c + 164)))
  (Q .ret [(2, (.int .i64 0))] H2936 (c + 164))))))))))))))))))))) (upd [(((c + 14) :: p), some (.rows 2 [[(.int .i64 0), (.int .i64 0)]]))] H10)) (upd [(((c + 8) :: p), some (.rows 7 [[(.int .i64 0), (.int .i64 0), (.int .i64 0), (.int .i64 0), (.int .i64 0), (.int .i64 0), (.int .i64 0)]]))] H7)) (upd [(((c + 7) :: p), some (.rows 1 [[(.int .i64 0)]]))] H0)) (upd [((c :: p), some (.rows w0.length [w0]))] H)
theorem vt43 (P : Program) (p : Lab) (Q : VPost) (x0 : AV) (H : Heap) (c : Nat) : vc P p c43.body Q [(0, x0)] H c = V43 P p Q x0 H c := by kernel_rfl


/-- duet/mesg.Check$1 -/
def c66 : AFun := ⟨2, 23, [.tmp 3],
  (.seq (.region [⟨(some 2), none, .box, [.t 0]⟩, ⟨(some 3), none, .move, [.c (.bool false)]⟩] none [1, 2])
  (.seq (.region [⟨(some 4), none, (.fieldAddr 0), [.t 2]⟩, ⟨(some 5), none, (.load 1 false), [.t 4]⟩, ⟨(some 6), none, (.bin .gtr .num), [.t 5, .c (.int .i64 0)]⟩, ⟨(some 7), none, .move, [.t 6]⟩, ⟨(some 8), (some (7, true)), (.fieldAddr 0), [.t 2]⟩, ⟨(some 9), (some (7, true)), (.load 1 false), [.t 8]⟩, ⟨(some 10), (some (7, true)), .call, [.c (.fn (.func 67) [] []), .t 9]⟩, ⟨(some 11), none, .pick, [.t 7, .t 10, .c (.bool false)]⟩, ⟨(some 12), none, .move, [.t 11]⟩, ⟨(some 13), (some (12, true)), (.fieldAddr 1), [.t 2]⟩, ⟨(some 14), (some (12, true)), (.load 1 false), [.t 13]⟩, ⟨(some 15), (some (12, true)), (.bin .geq .num), [.t 14, .c (.int .i64 0)]⟩, ⟨(some 16), none, .pick, [.t 12, .t 15, .c (.bool false)]⟩, ⟨(some 17), none, .move, [.t 16]⟩, ⟨(some 18), (some (17, true)), (.fieldAddr 1), [.t 2]⟩, ⟨(some 19), (some (17, true)), (.load 1 false), [.t 18]⟩, ⟨(some 20), (some (17, true)), (.load 1 false), [.t 1]⟩, ⟨(some 21), (some (17, true)), (.bin .lss .num), [.t 19, .t 20]⟩, ⟨(some 22), none, .pick, [.t 17, .t 21, .c (.bool false)]⟩, ⟨(some 3), none, .move, [.t 22]⟩] none [3])
  .ret))⟩
theorem ok66 : FunOk Try.prog 66 c66 := ⟨⟨Try.f66, _, Try.func66, rfl, by kernel_rfl, by kernel_rfl, by kernel_rfl, by kernel_rfl⟩, by decide⟩
theorem res66 : c66.res = [.tmp 3] := rfl
def V66 (P : Program) (p : Lab) (Q : VPost) (x0 x1 : AV) (H : Heap) (c : Nat) : Prop :=
  vBox x0 fun w0 =>
  (fun (H0 : Heap) =>
  vFA 0 (.ptr (c :: p) w0.length 0 0) fun v4_2 =>
  vLoad 1 false v4_2 H0 fun v5_3 _ =>
  vBin .gtr .num v5_3 (.int .i64 0) fun v6_4 =>
  vSel v6_4
  (vFA 0 (.ptr (c :: p) w0.length 0 0) fun v8_6 =>
  vLoad 1 false v8_6 H0 fun v9_7 _ =>
  vCall P 67 [v9_7] H0 ((c + 8) :: p) fun v10_8 H8 _ _ =>
  vSel v10_8
  (vFA 1 (.ptr (c :: p) w0.length 0 0) fun v13_11 =>
  vLoad 1 false v13_11 H8 fun v14_12 _ =>
  vBin .geq .num v14_12 (.int .i64 0) fun v15_13 =>
  vSel v15_13
  (vFA 1 (.ptr (c :: p) w0.length 0 0) fun v18_16 =>
  vLoad 1 false v18_16 H8 fun v19_17 _ =>
  vLoad 1 false x1 H8 fun v20_18 _ =>
  vBin .lss .num v19_17 v20_18 fun v21_19 =>
  Q .ret [(3, v21_19)] H8 (c + 22))
  (Q .ret [(3, (.bool false))] H8 (c + 22)))
  (Q .ret [(3, (.bool false))] H8 (c + 22)))
  (Q .ret [(3, (.bool false))] H0 (c + 22))) (upd [((c :: p), some (.rows w0.length [w0]))] H)
theorem vt66 (P : Program) (p : Lab) (Q : VPost) (x0 x1 : AV) (H : Heap) (c : Nat) : vc P p c66.body Q [(0, x0), (1, x1)] H c = V66 P p Q x0 x1 H c := by kernel_rfl


/-- duet/mesg.isClock -/
def c67 : AFun := ⟨1, 9, [.tmp 2],
  (.seq (.region [⟨(some 2), none, .move, [.c (.bool false)]⟩] none [0])
  (.seq (.region [⟨(some 3), none, .move, [.t 0]⟩, ⟨(some 4), none, (.bin .geq .num), [.t 3, .c (.int .i64 0)]⟩, ⟨(some 5), none, .move, [.t 4]⟩, ⟨(some 6), (some (5, true)), .move, [.t 0]⟩, ⟨(some 7), (some (5, true)), (.bin .leq .num), [.t 6, .c (.int .i64 4294967295)]⟩, ⟨(some 8), none, .pick, [.t 5, .t 7, .c (.bool false)]⟩, ⟨(some 2), none, .move, [.t 8]⟩] none [2])
  .ret))⟩
theorem ok67 : FunOk Try.prog 67 c67 := ⟨⟨Try.f67, _, Try.func67, rfl, by kernel_rfl, by kernel_rfl, by kernel_rfl, by kernel_rfl⟩, by decide⟩
theorem res67 : c67.res = [.tmp 2] := rfl
def V67 (P : Program) (p : Lab) (Q : VPost) (x0 : AV) (H : Heap) (c : Nat) : Prop :=
  vBin .geq .num x0 (.int .i64 0) fun v4_2 =>
  vSel v4_2
  (vBin .leq .num x0 (.int .i64 4294967295) fun v7_5 =>
  Q .ret [(2, v7_5)] H (c + 8))
  (Q .ret [(2, (.bool false))] H (c + 8))
theorem vt67 (P : Program) (p : Lab) (Q : VPost) (x0 : AV) (H : Heap) (c : Nat) : vc P p c67.body Q [(0, x0)] H c = V67 P p Q x0 H c := by kernel_rfl


/-- duet/mesg.has -/
def c68 : AFun := ⟨1, 15, [.tmp 2, .tmp 3, .tmp 4],
  (.seq (.region [⟨(some 2), none, .move, [.c (.bool false)]⟩, ⟨(some 3), none, .move, [.c (.bool false)]⟩, ⟨(some 4), none, .move, [.c (.bool false)]⟩] none [0])
  (.seq (.region [⟨(some 5), none, .move, [.t 0]⟩, ⟨(some 6), none, (.bin .eql .num), [.t 5, .c (.int .i64 1)]⟩, ⟨(some 7), none, .move, [.t 6]⟩, ⟨(some 8), (some (7, false)), .move, [.t 0]⟩, ⟨(some 9), (some (7, false)), (.bin .eql .num), [.t 8, .c (.int .i64 6)]⟩, ⟨(some 10), none, .pick, [.t 7, .c (.bool true), .t 9]⟩, ⟨(some 11), none, .move, [.t 0]⟩, ⟨(some 12), none, (.bin .neq .num), [.t 11, .c (.int .i64 6)]⟩, ⟨(some 13), none, .move, [.t 0]⟩, ⟨(some 14), none, (.bin .eql .num), [.t 13, .c (.int .i64 1)]⟩, ⟨(some 2), none, .move, [.t 10]⟩, ⟨(some 3), none, .move, [.t 12]⟩, ⟨(some 4), none, .move, [.t 14]⟩] none [2, 3, 4])
  .ret))⟩
theorem ok68 : FunOk Try.prog 68 c68 := ⟨⟨Try.f68, _, Try.func68, rfl, by kernel_rfl, by kernel_rfl, by kernel_rfl, by kernel_rfl⟩, by decide⟩
theorem res68 : c68.res = [.tmp 2, .tmp 3, .tmp 4] := rfl
def V68 (P : Program) (p : Lab) (Q : VPost) (x0 : AV) (H : Heap) (c : Nat) : Prop :=
  vBin .eql .num x0 (.int .i64 1) fun v6_4 =>
  vSel v6_4
  (vBin .neq .num x0 (.int .i64 6) fun v12_8 =>
  vBin .eql .num x0 (.int .i64 1) fun v14_10 =>
  Q .ret [(2, (.bool true)), (3, v12_8), (4, v14_10)] H (c + 16))
  (vBin .eql .num x0 (.int .i64 6) fun v9_15 =>
  vBin .neq .num x0 (.int .i64 6) fun v12_18 =>
  vBin .eql .num x0 (.int .i64 1) fun v14_20 =>
  Q .ret [(2, v9_15), (3, v12_18), (4, v14_20)] H (c + 16))
theorem vt68 (P : Program) (p : Lab) (Q : VPost) (x0 : AV) (H : Heap) (c : Nat) : vc P p c68.body Q [(0, x0)] H c = V68 P p Q x0 H c := by kernel_rfl


/-- slices.ContainsFunc[[]int,int] -/
def c69 : AFun := ⟨2, 9, [.tmp 4],
  (.seq (.region [⟨(some 4), none, .move, [.c (.bool false)]⟩] none [0, 1])
  (.seq (.region [⟨(some 5), none, .move, [.t 0]⟩, ⟨(some 6), none, .move, [.t 1]⟩, ⟨(some 7), none, .call, [.c (.fn (.func 84) [] []), .t 5, .t 6]⟩, ⟨(some 8), none, (.bin .geq .num), [.t 7, .c (.int .i64 0)]⟩, ⟨(some 4), none, .move, [.t 8]⟩] none [4])
  .ret))⟩
theorem ok69 : FunOk Try.prog 69 c69 := ⟨⟨Try.f69, _, Try.func69, rfl, by kernel_rfl, by kernel_rfl, by kernel_rfl, by kernel_rfl⟩, by decide⟩
theorem res69 : c69.res = [.tmp 4] := rfl
def V69 (P : Program) (p : Lab) (Q : VPost) (x0 x1 : AV) (H : Heap) (c : Nat) : Prop :=
  vCall P 84 [x0, x1] H ((c + 3) :: p) fun v7_3 H3 _ _ =>
  vBin .geq .num v7_3 (.int .i64 0) fun v8_4 =>
  Q .ret [(4, v8_4)] H3 (c + 6)
theorem vt69 (P : Program) (p : Lab) (Q : VPost) (x0 x1 : AV) (H : Heap) (c : Nat) : vc P p c69.body Q [(0, x0), (1, x1)] H c = V69 P p Q x0 x1 H c := by kernel_rfl


/-- duet/mesg.Check$2 -/
def c70 : AFun := ⟨1, 6, [.tmp 2],
  (.seq (.region [⟨(some 2), none, .move, [.c (.bool false)]⟩] none [0])
  (.seq (.region [⟨(some 3), none, .move, [.t 0]⟩, ⟨(some 4), none, .call, [.c (.fn (.func 67) [] []), .t 3]⟩, ⟨(some 5), none, (.un .not), [.t 4]⟩, ⟨(some 2), none, .move, [.t 5]⟩] none [2])
  .ret))⟩
theorem ok70 : FunOk Try.prog 70 c70 := ⟨⟨Try.f70, _, Try.func70, rfl, by kernel_rfl, by kernel_rfl, by kernel_rfl, by kernel_rfl⟩, by decide⟩
theorem res70 : c70.res = [.tmp 2] := rfl
def V70 (P : Program) (p : Lab) (Q : VPost) (x0 : AV) (H : Heap) (c : Nat) : Prop :=
  vCall P 67 [x0] H ((c + 2) :: p) fun v4_2 H2 _ _ =>
  vNot v4_2 fun v5_3 =>
  Q .ret [(2, v5_3)] H2 (c + 5)
theorem vt70 (P : Program) (p : Lab) (Q : VPost) (x0 : AV) (H : Heap) (c : Nat) : vc P p c70.body Q [(0, x0)] H c = V70 P p Q x0 H c := by kernel_rfl


/-- duet/mesg.Rune -/
def c71 : AFun := ⟨1, 22, [.tmp 2],
  (.seq (.region [⟨(some 2), none, .move, [.c (.bool false)]⟩] none [0])
  (.seq (.block 0 (.seq (.seq (.region [⟨(some 4), none, .move, [.t 0]⟩, ⟨(some 5), none, (.bin .lss .num), [.t 4, .c (.int .i64 32)]⟩, ⟨(some 6), none, .move, [.t 5]⟩, ⟨(some 7), (some (6, false)), .move, [.t 0]⟩, ⟨(some 8), (some (6, false)), (.bin .gtr .num), [.t 7, .c (.int .i64 1114111)]⟩, ⟨(some 9), none, .pick, [.t 6, .c (.bool true), .t 8]⟩, ⟨(some 3), none, .move, [.t 9]⟩] none [0, 3])
  (.cond (.t 3) .skip
  (.seq (.region [⟨(some 10), none, .move, [.t 0]⟩, ⟨(some 11), none, (.bin .geq .num), [.t 10, .c (.int .i64 127)]⟩, ⟨(some 12), none, .move, [.t 11]⟩, ⟨(some 13), (some (12, true)), .move, [.t 0]⟩, ⟨(some 14), (some (12, true)), (.bin .leq .num), [.t 13, .c (.int .i64 159)]⟩, ⟨(some 15), none, .pick, [.t 12, .t 14, .c (.bool false)]⟩, ⟨(some 3), none, .move, [.t 15]⟩] none [0, 3])
  (.cond (.t 3) .skip
  (.region [⟨(some 16), none, .move, [.t 0]⟩, ⟨(some 17), none, (.bin .geq .num), [.t 16, .c (.int .i64 55296)]⟩, ⟨(some 18), none, .move, [.t 17]⟩, ⟨(some 19), (some (18, true)), .move, [.t 0]⟩, ⟨(some 20), (some (18, true)), (.bin .leq .num), [.t 19, .c (.int .i64 57343)]⟩, ⟨(some 21), none, .pick, [.t 18, .t 20, .c (.bool false)]⟩, ⟨(some 3), none, .move, [.t 21]⟩] none [3])))))
  (.cond (.t 3) (.seq (.region [⟨(some 2), none, .move, [.c (.bool false)]⟩] none [2])
  .ret)
  .skip)))
  (.seq (.region [⟨(some 2), none, .move, [.c (.bool true)]⟩] none [2])
  .ret)))⟩
theorem ok71 : FunOk Try.prog 71 c71 := ⟨⟨Try.f71, _, Try.func71, rfl, by kernel_rfl, by kernel_rfl, by kernel_rfl, by kernel_rfl⟩, by decide⟩
theorem res71 : c71.res = [.tmp 2] := rfl
def V71 (P : Program) (p : Lab) (Q : VPost) (x0 : AV) (H : Heap) (c : Nat) : Prop :=
  vBin .lss .num x0 (.int .i64 32) fun v5_2 =>
  vSel v5_2
  (Q .ret [(2, (.bool false))] H (c + 9))
  (vBin .gtr .num x0 (.int .i64 1114111) fun v8_8 =>
  vSel v8_8
  (vSel v8_8
  (Q .ret [(2, (.bool false))] H (c + 9))
  (Q .ret [(2, (.bool true))] H (c + 9)))
  (vBin .geq .num x0 (.int .i64 127) fun v11_14 =>
  vSel v11_14
  (vBin .leq .num x0 (.int .i64 159) fun v14_17 =>
  vSel v14_17
  (vSel v14_17
  (Q .ret [(2, (.bool false))] H (c + 16))
  (Q .ret [(2, (.bool true))] H (c + 16)))
  (vBin .geq .num x0 (.int .i64 55296) fun v17_23 =>
  vSel v17_23
  (vBin .leq .num x0 (.int .i64 57343) fun v20_26 =>
  vSel v20_26
  (Q .ret [(2, (.bool false))] H (c + 23))
  (Q .ret [(2, (.bool true))] H (c + 23)))
  (Q .ret [(2, (.bool true))] H (c + 23))))
  (vBin .geq .num x0 (.int .i64 55296) fun v17_37 =>
  vSel v17_37
  (vBin .leq .num x0 (.int .i64 57343) fun v20_40 =>
  vSel v20_40
  (Q .ret [(2, (.bool false))] H (c + 23))
  (Q .ret [(2, (.bool true))] H (c + 23)))
  (Q .ret [(2, (.bool true))] H (c + 23)))))
theorem vt71 (P : Program) (p : Lab) (Q : VPost) (x0 : AV) (H : Heap) (c : Nat) : vc P p c71.body Q [(0, x0)] H c = V71 P p Q x0 H c := by kernel_rfl

def b84_1 : ACode := (.seq (.region [⟨(some 9), none, (.bin .lss .num), [.t 8, .t 7]⟩] none [0, 1, 7, 8, 9])
  (.seq (.cond (.t 9) .skip
  (.exit 0))
  (.seq (.block 1 (.seq (.region [⟨(some 10), none, .move, [.t 8]⟩, ⟨(some 5), none, .move, [.t 10]⟩] none [0, 1, 5, 7, 8])
  (.seq (.region [⟨(some 11), none, .move, [.t 1]⟩, ⟨(some 12), none, .move, [.t 0]⟩, ⟨(some 13), none, .move, [.t 5]⟩, ⟨(some 14), none, (.indexAddr 1), [.t 12, .t 13]⟩, ⟨(some 15), none, (.load 1 false), [.t 14]⟩, ⟨(some 16), none, .call, [.t 11, .t 15]⟩] none [0, 1, 5, 7, 8, 16])
  (.cond (.t 16) (.seq (.region [⟨(some 17), none, .move, [.t 5]⟩, ⟨(some 4), none, .move, [.t 17]⟩] none [4])
  .ret)
  .skip))))
  (.region [⟨(some 18), none, (.bin .add .num), [.t 8, .c (.int .i64 1)]⟩, ⟨(some 8), none, .move, [.t 18]⟩] none [0, 1, 7, 8]))))
def l84_1 : ACode := .loop [0, 1, 7, 8] b84_1
def r84_2 : ACode := (.seq (.region [⟨(some 4), none, .move, [.c (.int .i64 (-1))]⟩] none [4])
  .ret)
/-- slices.IndexFunc[[]int,int] -/
def c84 : AFun := ⟨2, 19, [.tmp 4],
  (.seq (.region [⟨(some 4), none, .move, [.c (.int .i64 0)]⟩] none [0, 1])
  (.seq (.seq (.region [⟨(some 6), none, .move, [.t 0]⟩, ⟨(some 7), none, (.len .slice), [.t 6]⟩, ⟨(some 8), none, .move, [.c (.int .i64 0)]⟩] none [0, 1, 7, 8])
  (.block 0 l84_1)) r84_2))⟩
theorem ok84 : FunOk Try.prog 84 c84 := ⟨⟨Try.f84, _, Try.func84, rfl, by kernel_rfl, by kernel_rfl, by kernel_rfl, by kernel_rfl⟩, by decide⟩
theorem res84 : c84.res = [.tmp 4] := rfl
def q84_0 (P : Program) (p : Lab) (Q : VPost) : VPost := (vblockQ 0 (vseqQ (vc P p r84_2 Q) Q))
theorem q84_0_ret (P : Program) (p : Lab) (Q : VPost) (r : RL) (H : Heap) (c : Nat) : q84_0 P p Q .ret r H c = Q .ret r H c := rfl
def V84 (P : Program) (p : Lab) (Q : VPost) (x0 x1 : AV) (H : Heap) (c : Nat) : Prop :=
  vLen x0 fun v7_2 =>
  vc P p l84_1 (q84_0 P p Q) [(0, x0), (1, x1), (7, v7_2), (8, (.int .i64 0))] H (c + 4)
theorem vt84 (P : Program) (p : Lab) (Q : VPost) (x0 x1 : AV) (H : Heap) (c : Nat) : vc P p c84.body Q [(0, x0), (1, x1)] H c = V84 P p Q x0 x1 H c := by kernel_rfl
def V84_1 (P : Program) (p : Lab) (Q : VPost) (x0 x1 x7 x8 : AV) (H : Heap) (c : Nat) : Prop :=
  vBin .lss .num x8 x7 fun v9_4 =>
  vSel v9_4
  (vIx 1 x0 x8 fun v14_10 =>
  vLoad 1 false v14_10 H fun v15_11 _ =>
  vop P .call [x1, v15_11] H ((c + 8) :: p) fun v16_12 H12 _ _ =>
  vSel v16_12
  (Q .ret [(4, x8)] H12 (c + 11))
  (vBin .add .num x8 (.int .i64 1) fun v18_15 =>
  Q .normal [(0, x0), (1, x1), (7, x7), (8, v18_15)] H12 (c + 11)))
  (Q (.exit 0) [(0, x0), (1, x1), (7, x7), (8, x8), (9, v9_4)] H (c + 1))
theorem vt84_1 (P : Program) (p : Lab) (Q : VPost) (x0 x1 x7 x8 : AV) (H : Heap) (c : Nat) : vc P p b84_1 Q [(0, x0), (1, x1), (7, x7), (8, x8)] H c = V84_1 P p Q x0 x1 x7 x8 H c := by kernel_rfl
theorem q84_0_e0 (P : Program) (p : Lab) (Q : VPost) (r : RL) (H : Heap) (c : Nat) : q84_0 P p Q (.exit 0) r H c = (vc P p r84_2 Q r H c) := rfl
def V84_2 (P : Program) (p : Lab) (Q : VPost) (x0 x1 x7 x8 x9 : AV) (H : Heap) (c : Nat) : Prop :=
  Q .ret [(4, (.int .i64 (-1)))] H (c + 1)
theorem vt84_2 (P : Program) (p : Lab) (Q : VPost) (x0 x1 x7 x8 x9 : AV) (H : Heap) (c : Nat) : vc P p r84_2 Q [(0, x0), (1, x1), (7, x7), (8, x8), (9, x9)] H c = V84_2 P p Q x0 x1 x7 x8 x9 H c := by kernel_rfl

def b73_1 : ACode := (.seq (.seq (.region [⟨(some 12), none, .move, [.t 4]⟩, ⟨(some 13), none, .move, [.t 0]⟩, ⟨(some 14), none, (.len .slice), [.t 13]⟩, ⟨(some 15), none, (.bin .lss .num), [.t 12, .t 14]⟩] none [0, 3, 4, 15])
  (.cond (.t 15) .skip
  (.exit 0)))
  (.seq (.block 1 (.region [⟨(some 18), none, .move, [.t 3]⟩, ⟨(some 19), none, .move, [.t 0]⟩, ⟨(some 20), none, .move, [.t 4]⟩, ⟨(some 21), none, (.indexAddr 1), [.t 19, .t 20]⟩, ⟨(some 22), none, (.load 1 false), [.t 21]⟩, ⟨(some 23), none, .min, [.t 18, .t 22]⟩, ⟨(some 3), none, .move, [.t 23]⟩] none [0, 3, 4]))
  (.region [⟨(some 16), none, .move, [.t 4]⟩, ⟨(some 17), none, (.bin .add .num), [.t 16, .c (.int .i64 1)]⟩, ⟨(some 4), none, .move, [.t 17]⟩] none [0, 3, 4])))
def l73_1 : ACode := .loop [0, 3, 4] b73_1
def r73_2 : ACode := (.seq (.region [⟨(some 24), none, .move, [.t 3]⟩, ⟨(some 2), none, .move, [.t 24]⟩] none [2])
  .ret)
/-- slices.Min[duet/vec.Vec,int] -/
def c73 : AFun := ⟨1, 25, [.tmp 2],
  (.seq (.region [⟨(some 2), none, .move, [.c (.int .i64 0)]⟩] none [0])
  (.seq (.seq (.region [⟨(some 5), none, .move, [.t 0]⟩, ⟨(some 6), none, (.len .slice), [.t 5]⟩, ⟨(some 7), none, (.bin .lss .num), [.t 6, .c (.int .i64 1)]⟩] none [0, 7])
  (.cond (.t 7) (.region [⟨(some 8), none, .bad, []⟩, ⟨none, none, .bad, []⟩] none [0])
  .skip))
  (.seq (.region [⟨(some 9), none, .move, [.t 0]⟩, ⟨(some 10), none, (.indexAddr 1), [.t 9, .c (.int .i64 0)]⟩, ⟨(some 11), none, (.load 1 false), [.t 10]⟩, ⟨(some 3), none, .move, [.t 11]⟩] none [0, 3])
  (.seq (.seq (.region [⟨(some 4), none, .move, [.c (.int .i64 1)]⟩] none [0, 3, 4])
  (.block 0 l73_1)) r73_2))))⟩
theorem ok73 : FunOk Try.prog 73 c73 := ⟨⟨Try.f73, _, Try.func73, rfl, by kernel_rfl, by kernel_rfl, by kernel_rfl, by kernel_rfl⟩, by decide⟩
theorem res73 : c73.res = [.tmp 2] := rfl
def q73_0 (P : Program) (p : Lab) (Q : VPost) : VPost := (vblockQ 0 (vseqQ (vc P p r73_2 Q) Q))
theorem q73_0_ret (P : Program) (p : Lab) (Q : VPost) (r : RL) (H : Heap) (c : Nat) : q73_0 P p Q .ret r H c = Q .ret r H c := rfl
def V73 (P : Program) (p : Lab) (Q : VPost) (x0 : AV) (H : Heap) (c : Nat) : Prop :=
  vLen x0 fun v6_2 =>
  vBin .lss .num v6_2 (.int .i64 1) fun v7_3 =>
  vSel v7_3
  (vGen .bad [] H ((c + 4) :: p) fun v8_4 H4 _ _ =>
  vGen .bad [] H4 ((c + 5) :: p) fun v_5 H5 _ _ =>
  vIx 1 x0 (.int .i64 0) fun v10_7 =>
  vLoad 1 false v10_7 H5 fun v11_8 _ =>
  vc P p l73_1 (q73_0 P p Q) [(0, x0), (3, v11_8), (4, (.int .i64 1))] H5 (c + 11))
  (vIx 1 x0 (.int .i64 0) fun v10_12 =>
  vLoad 1 false v10_12 H fun v11_13 _ =>
  vc P p l73_1 (q73_0 P p Q) [(0, x0), (3, v11_13), (4, (.int .i64 1))] H (c + 9))
theorem vt73 (P : Program) (p : Lab) (Q : VPost) (x0 : AV) (H : Heap) (c : Nat) : vc P p c73.body Q [(0, x0)] H c = V73 P p Q x0 H c := by kernel_rfl
def V73_1 (P : Program) (p : Lab) (Q : VPost) (x0 x3 x4 : AV) (H : Heap) (c : Nat) : Prop :=
  vLen x0 fun v14_18 =>
  vBin .lss .num x4 v14_18 fun v15_19 =>
  vSel v15_19
  (vIx 1 x0 x4 fun v21_23 =>
  vLoad 1 false v21_23 H fun v22_24 _ =>
  vMin x3 v22_24 fun v23_25 =>
  vBin .add .num x4 (.int .i64 1) fun v17_28 =>
  Q .normal [(0, x0), (3, v23_25), (4, v17_28)] H (c + 14))
  (Q (.exit 0) [(0, x0), (3, x3), (4, x4), (15, v15_19)] H (c + 4))
theorem vt73_1 (P : Program) (p : Lab) (Q : VPost) (x0 x3 x4 : AV) (H : Heap) (c : Nat) : vc P p b73_1 Q [(0, x0), (3, x3), (4, x4)] H c = V73_1 P p Q x0 x3 x4 H c := by kernel_rfl
theorem q73_0_e0 (P : Program) (p : Lab) (Q : VPost) (r : RL) (H : Heap) (c : Nat) : q73_0 P p Q (.exit 0) r H c = (vc P p r73_2 Q r H c) := rfl
def V73_2 (P : Program) (p : Lab) (Q : VPost) (x0 x3 x4 x15 : AV) (H : Heap) (c : Nat) : Prop :=
  Q .ret [(2, x3)] H (c + 2)
theorem vt73_2 (P : Program) (p : Lab) (Q : VPost) (x0 x3 x4 x15 : AV) (H : Heap) (c : Nat) : vc P p r73_2 Q [(0, x0), (3, x3), (4, x4), (15, x15)] H c = V73_2 P p Q x0 x3 x4 x15 H c := by kernel_rfl

def b74_1 : ACode := (.seq (.seq (.region [⟨(some 12), none, .move, [.t 4]⟩, ⟨(some 13), none, .move, [.t 0]⟩, ⟨(some 14), none, (.len .slice), [.t 13]⟩, ⟨(some 15), none, (.bin .lss .num), [.t 12, .t 14]⟩] none [0, 3, 4, 15])
  (.cond (.t 15) .skip
  (.exit 0)))
  (.seq (.block 1 (.region [⟨(some 18), none, .move, [.t 3]⟩, ⟨(some 19), none, .move, [.t 0]⟩, ⟨(some 20), none, .move, [.t 4]⟩, ⟨(some 21), none, (.indexAddr 1), [.t 19, .t 20]⟩, ⟨(some 22), none, (.load 1 false), [.t 21]⟩, ⟨(some 23), none, .max, [.t 18, .t 22]⟩, ⟨(some 3), none, .move, [.t 23]⟩] none [0, 3, 4]))
  (.region [⟨(some 16), none, .move, [.t 4]⟩, ⟨(some 17), none, (.bin .add .num), [.t 16, .c (.int .i64 1)]⟩, ⟨(some 4), none, .move, [.t 17]⟩] none [0, 3, 4])))
def l74_1 : ACode := .loop [0, 3, 4] b74_1
def r74_2 : ACode := (.seq (.region [⟨(some 24), none, .move, [.t 3]⟩, ⟨(some 2), none, .move, [.t 24]⟩] none [2])
  .ret)
/-- slices.Max[duet/vec.Vec,int] -/
def c74 : AFun := ⟨1, 25, [.tmp 2],
  (.seq (.region [⟨(some 2), none, .move, [.c (.int .i64 0)]⟩] none [0])
  (.seq (.seq (.region [⟨(some 5), none, .move, [.t 0]⟩, ⟨(some 6), none, (.len .slice), [.t 5]⟩, ⟨(some 7), none, (.bin .lss .num), [.t 6, .c (.int .i64 1)]⟩] none [0, 7])
  (.cond (.t 7) (.region [⟨(some 8), none, .bad, []⟩, ⟨none, none, .bad, []⟩] none [0])
  .skip))
  (.seq (.region [⟨(some 9), none, .move, [.t 0]⟩, ⟨(some 10), none, (.indexAddr 1), [.t 9, .c (.int .i64 0)]⟩, ⟨(some 11), none, (.load 1 false), [.t 10]⟩, ⟨(some 3), none, .move, [.t 11]⟩] none [0, 3])
  (.seq (.seq (.region [⟨(some 4), none, .move, [.c (.int .i64 1)]⟩] none [0, 3, 4])
  (.block 0 l74_1)) r74_2))))⟩
theorem ok74 : FunOk Try.prog 74 c74 := ⟨⟨Try.f74, _, Try.func74, rfl, by kernel_rfl, by kernel_rfl, by kernel_rfl, by kernel_rfl⟩, by decide⟩
theorem res74 : c74.res = [.tmp 2] := rfl
def q74_0 (P : Program) (p : Lab) (Q : VPost) : VPost := (vblockQ 0 (vseqQ (vc P p r74_2 Q) Q))
theorem q74_0_ret (P : Program) (p : Lab) (Q : VPost) (r : RL) (H : Heap) (c : Nat) : q74_0 P p Q .ret r H c = Q .ret r H c := rfl
def V74 (P : Program) (p : Lab) (Q : VPost) (x0 : AV) (H : Heap) (c : Nat) : Prop :=
  vLen x0 fun v6_2 =>
  vBin .lss .num v6_2 (.int .i64 1) fun v7_3 =>
  vSel v7_3
  (vGen .bad [] H ((c + 4) :: p) fun v8_4 H4 _ _ =>
  vGen .bad [] H4 ((c + 5) :: p) fun v_5 H5 _ _ =>
  vIx 1 x0 (.int .i64 0) fun v10_7 =>
  vLoad 1 false v10_7 H5 fun v11_8 _ =>
  vc P p l74_1 (q74_0 P p Q) [(0, x0), (3, v11_8), (4, (.int .i64 1))] H5 (c + 11))
  (vIx 1 x0 (.int .i64 0) fun v10_12 =>
  vLoad 1 false v10_12 H fun v11_13 _ =>
  vc P p l74_1 (q74_0 P p Q) [(0, x0), (3, v11_13), (4, (.int .i64 1))] H (c + 9))
theorem vt74 (P : Program) (p : Lab) (Q : VPost) (x0 : AV) (H : Heap) (c : Nat) : vc P p c74.body Q [(0, x0)] H c = V74 P p Q x0 H c := by kernel_rfl
def V74_1 (P : Program) (p : Lab) (Q : VPost) (x0 x3 x4 : AV) (H : Heap) (c : Nat) : Prop :=
  vLen x0 fun v14_18 =>
  vBin .lss .num x4 v14_18 fun v15_19 =>
  vSel v15_19
  (vIx 1 x0 x4 fun v21_23 =>
  vLoad 1 false v21_23 H fun v22_24 _ =>
  vMax x3 v22_24 fun v23_25 =>
  vBin .add .num x4 (.int .i64 1) fun v17_28 =>
  Q .normal [(0, x0), (3, v23_25), (4, v17_28)] H (c + 14))
  (Q (.exit 0) [(0, x0), (3, x3), (4, x4), (15, v15_19)] H (c + 4))
theorem vt74_1 (P : Program) (p : Lab) (Q : VPost) (x0 x3 x4 : AV) (H : Heap) (c : Nat) : vc P p b74_1 Q [(0, x0), (3, x3), (4, x4)] H c = V74_1 P p Q x0 x3 x4 H c := by kernel_rfl
theorem q74_0_e0 (P : Program) (p : Lab) (Q : VPost) (r : RL) (H : Heap) (c : Nat) : q74_0 P p Q (.exit 0) r H c = (vc P p r74_2 Q r H c) := rfl
def V74_2 (P : Program) (p : Lab) (Q : VPost) (x0 x3 x4 x15 : AV) (H : Heap) (c : Nat) : Prop :=
  Q .ret [(2, x3)] H (c + 2)
theorem vt74_2 (P : Program) (p : Lab) (Q : VPost) (x0 x3 x4 x15 : AV) (H : Heap) (c : Nat) : vc P p r74_2 Q [(0, x0), (3, x3), (4, x4), (15, x15)] H c = V74_2 P p Q x0 x3 x4 x15 H c := by kernel_rfl



end Go.Proofs.Ytoajcigegjhiaaa
