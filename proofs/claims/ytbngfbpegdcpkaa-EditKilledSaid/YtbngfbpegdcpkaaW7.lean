/- What is owed of functions of the program, as formulas. -/
import Derived.Test.YtbngfbpegdcpkaaA26
import Derived.Test.YtbngfbpegdcpkaaProg
import Derived.KernelRfl
namespace Go.Proofs.Ytbngfbpegdcpkaa
set_option maxRecDepth 100000
set_option linter.unusedVariables false
set_option linter.unusedSimpArgs false
def b6_1 : ACode := (.seq (.seq (.region [⟨(some 49), none, .move, [.t 6]⟩, ⟨(some 50), none, (.fieldAddr 0), [.t 2]⟩, ⟨(some 51), none, (.load 1 false), [.t 50]⟩, ⟨(some 52), none, (.len .slice), [.t 51]⟩, ⟨(some 53), none, (.bin .lss .num), [.t 49, .t 52]⟩] none [1, 2, 5, 6, 53])
  (.cond (.t 53) .skip
  (.exit 0)))
  (.seq (.block 1 (.seq (.region [⟨(some 56), none, (.fieldAddr 0), [.t 2]⟩, ⟨(some 57), none, (.load 1 false), [.t 56]⟩, ⟨(some 58), none, .move, [.t 6]⟩, ⟨(some 59), none, (.indexAddr 1), [.t 57, .t 58]⟩, ⟨(some 60), none, (.load 1 false), [.t 59]⟩, ⟨(some 61), none, (.bin .lss .num), [.t 60, .c (.int .i64 32)]⟩, ⟨(some 62), none, .move, [.t 61]⟩, ⟨(some 63), (some (62, false)), (.fieldAddr 0), [.t 2]⟩, ⟨(some 64), (some (62, false)), (.load 1 false), [.t 63]⟩, ⟨(some 65), (some (62, false)), .move, [.t 6]⟩, ⟨(some 66), (some (62, false)), (.indexAddr 1), [.t 64, .t 65]⟩, ⟨(some 67), (some (62, false)), (.load 1 false), [.t 66]⟩, ⟨(some 68), (some (62, false)), (.bin .gtr .num), [.t 67, .c (.int .i64 126)]⟩, ⟨(some 69), none, .pick, [.t 62, .c (.bool true), .t 68]⟩] none [1, 2, 5, 6, 69])
  (.cond (.t 69) (.seq (.region [⟨(some 70), none, .call, [.c (.fn (.func 11) [] [])]⟩, ⟨(some 4), none, .move, [.t 70]⟩] none [4])
  .ret)
  .skip)))
  (.region [⟨(some 54), none, .move, [.t 6]⟩, ⟨(some 55), none, (.bin .add .num), [.t 54, .c (.int .i64 1)]⟩, ⟨(some 6), none, .move, [.t 55]⟩] none [1, 2, 5, 6])))
def l6_1 : ACode := .loop [1, 2, 5, 6] b6_1
def r6_2 : ACode := (.seq (.region [⟨(some 72), none, (.fieldAddr 0), [.t 2]⟩, ⟨(some 73), none, (.load 1 false), [.t 72]⟩, ⟨(some 74), none, (.fieldAddr 1), [.t 2]⟩, ⟨(some 75), none, (.load 1 false), [.t 74]⟩, ⟨(some 76), none, (.fieldAddr 2), [.t 2]⟩, ⟨(some 77), none, (.load 1 false), [.t 76]⟩, ⟨(some 78), none, (.build [.nils, (.int .i64 0), .nils] [(0, 1), (1, 1), (2, 1)]), [.t 73, .t 75, .t 77]⟩, ⟨(some 79), none, .move, [.t 5]⟩, ⟨(some 80), none, .move, [.t 1]⟩, ⟨(some 81), none, (.indexAddr 2), [.t 79, .t 80]⟩, ⟨(some 82), none, (.load 2 true), [.t 81]⟩, ⟨(some 83), none, .call, [.c (.fn (.func 12) [] []), .t 78, .t 82]⟩, ⟨(some 71), none, .move, [.t 83]⟩, ⟨(some 84), none, (.extract 0), [.t 71]⟩, ⟨(some 85), none, (.extract 1), [.t 71]⟩, ⟨(some 7), none, (.alloc [.nils, (.int .i64 0), .nils]), []⟩, ⟨none, none, (.store 3), [.t 7, .t 84]⟩, ⟨(some 8), none, .move, [.t 85]⟩] (some [0, 1, 0, 4, 0, 16, 63, 0, 0, 384, 896, 2047, 4095, 8191, 8191, 0, 49151, 131071]) [2, 7, 8])
  (.seq (.seq (.region [⟨(some 86), none, .move, [.t 8]⟩, ⟨(some 87), none, (.len .slice), [.t 86]⟩, ⟨(some 88), none, (.bin .eql .num), [.t 87, .c (.int .i64 0)]⟩] none [2, 7, 8, 88])
  (.cond (.t 88) (.seq (.region [⟨(some 89), none, (.fieldAddr 0), [.t 7]⟩, ⟨(some 90), none, (.load 1 false), [.t 89]⟩, ⟨(some 91), none, (.fieldAddr 0), [.t 2]⟩, ⟨(some 92), none, (.load 1 false), [.t 91]⟩, ⟨(some 93), none, .call, [.c (.fn (.func 21) [] []), .t 90, .t 92]⟩, ⟨(some 94), none, .move, [.t 93]⟩, ⟨(some 95), (some (94, true)), (.fieldAddr 2), [.t 7]⟩, ⟨(some 96), (some (94, true)), (.load 1 false), [.t 95]⟩, ⟨(some 97), (some (94, true)), (.fieldAddr 2), [.t 2]⟩, ⟨(some 98), (some (94, true)), (.load 1 false), [.t 97]⟩, ⟨(some 99), (some (94, true)), .call, [.c (.fn (.func 21) [] []), .t 96, .t 98]⟩, ⟨(some 100), none, .pick, [.t 94, .t 99, .c (.bool false)]⟩, ⟨(some 101), none, .move, [.t 100]⟩, ⟨(some 102), (some (101, true)), .call, [.c (.fn (.func 11) [] [])]⟩, ⟨(some 103), none, .pick, [.t 101, .t 102, .c (.bool false)]⟩, ⟨(some 4), none, .move, [.t 103]⟩] none [4])
  .ret)
  .skip))
  (.seq (.region [⟨(some 105), none, (.load 3 true), [.t 7]⟩, ⟨(some 106), none, (.build [(.int .i64 0), (.int .i64 0)] [(0, 1), (1, 1)]), [.c (.int .i64 2), .c (.int .i64 121)]⟩, ⟨(some 107), none, .call, [.c (.fn (.func 12) [] []), .t 105, .t 106]⟩, ⟨(some 104), none, .move, [.t 107]⟩, ⟨(some 108), none, (.extract 0), [.t 104]⟩, ⟨(some 109), none, (.extract 1), [.t 104]⟩, ⟨(some 9), none, (.alloc [.nils, (.int .i64 0), .nils]), []⟩, ⟨none, none, (.store 3), [.t 9, .t 108]⟩, ⟨(some 10), none, .move, [.t 109]⟩] none [2, 7, 8, 9])
  (.seq (.region [⟨(some 110), none, (.fieldAddr 0), [.t 9]⟩, ⟨(some 111), none, (.load 1 false), [.t 110]⟩, ⟨(some 112), none, (.fieldAddr 0), [.t 2]⟩, ⟨(some 113), none, (.load 1 false), [.t 112]⟩, ⟨(some 114), none, .call, [.c (.fn (.func 21) [] []), .t 111, .t 113]⟩, ⟨(some 115), none, .move, [.t 114]⟩, ⟨(some 116), (some (115, true)), (.fieldAddr 2), [.t 7]⟩, ⟨(some 117), (some (115, true)), (.load 1 false), [.t 116]⟩, ⟨(some 118), (some (115, true)), (.len .slice), [.t 117]⟩, ⟨(some 119), (some (115, true)), .move, [.t 8]⟩, ⟨(some 120), (some (115, true)), (.len .slice), [.t 119]⟩, ⟨(some 121), (some (115, true)), (.bin .eql .num), [.t 118, .t 120]⟩, ⟨(some 122), none, .pick, [.t 115, .t 121, .c (.bool false)]⟩, ⟨(some 123), none, .move, [.t 122]⟩, ⟨(some 124), (some (123, true)), (.fieldAddr 1), [.t 9]⟩, ⟨(some 125), (some (123, true)), (.load 1 false), [.t 124]⟩, ⟨(some 126), (some (123, true)), (.fieldAddr 1), [.t 7]⟩, ⟨(some 127), (some (123, true)), (.load 1 false), [.t 126]⟩, ⟨(some 128), (some (123, true)), .move, [.t 8]⟩, ⟨(some 129), (some (123, true)), (.len .slice), [.t 128]⟩, ⟨(some 130), (some (123, true)), (.bin .add .num), [.t 127, .t 129]⟩, ⟨(some 131), (some (123, true)), (.bin .eql .num), [.t 125, .t 130]⟩, ⟨(some 132), none, .pick, [.t 123, .t 131, .c (.bool false)]⟩, ⟨(some 133), none, .move, [.t 132]⟩, ⟨(some 134), (some (133, true)), .call, [.c (.fn (.func 11) [] [])]⟩, ⟨(some 135), none, .pick, [.t 133, .t 134, .c (.bool false)]⟩, ⟨(some 4), none, .move, [.t 135]⟩] none [4])
  .ret))))
/-- duet/duetlaw18.EditKilled -/
def c6 : AFun := ⟨2, 136, [.tmp 4],
  (.seq (.region [⟨(some 2), none, .box, [.t 0]⟩, ⟨(some 4), none, .move, [.c (.bool false)]⟩] none [1, 2])
  (.seq (.seq (.region [⟨(some 11), none, (.fieldAddr 0), [.t 2]⟩, ⟨(some 12), none, (.load 1 false), [.t 11]⟩, ⟨(some 13), none, (.len .slice), [.t 12]⟩, ⟨(some 14), none, (.bin .gtr .num), [.t 13, .c (.int .i64 1000)]⟩, ⟨(some 15), none, .move, [.t 14]⟩, ⟨(some 16), (some (15, false)), (.fieldAddr 1), [.t 2]⟩, ⟨(some 17), (some (15, false)), (.load 1 false), [.t 16]⟩, ⟨(some 18), (some (15, false)), (.bin .lss .num), [.t 17, .c (.int .i64 0)]⟩, ⟨(some 19), none, .pick, [.t 15, .c (.bool true), .t 18]⟩, ⟨(some 20), none, .move, [.t 19]⟩, ⟨(some 21), (some (20, false)), (.fieldAddr 1), [.t 2]⟩, ⟨(some 22), (some (20, false)), (.load 1 false), [.t 21]⟩, ⟨(some 23), (some (20, false)), (.fieldAddr 0), [.t 2]⟩, ⟨(some 24), (some (20, false)), (.load 1 false), [.t 23]⟩, ⟨(some 25), (some (20, false)), (.len .slice), [.t 24]⟩, ⟨(some 26), (some (20, false)), (.bin .gtr .num), [.t 22, .t 25]⟩, ⟨(some 27), none, .pick, [.t 20, .c (.bool true), .t 26]⟩, ⟨(some 28), none, .move, [.t 27]⟩, ⟨(some 29), (some (28, false)), (.fieldAddr 2), [.t 2]⟩, ⟨(some 30), (some (28, false)), (.load 1 false), [.t 29]⟩, ⟨(some 31), (some (28, false)), (.len .slice), [.t 30]⟩, ⟨(some 32), (some (28, false)), (.bin .gtr .num), [.t 31, .c (.int .i64 1100)]⟩, ⟨(some 33), none, .pick, [.t 28, .c (.bool true), .t 32]⟩] none [1, 2, 33])
  (.cond (.t 33) (.seq (.region [⟨(some 34), none, .call, [.c (.fn (.func 11) [] [])]⟩, ⟨(some 4), none, .move, [.t 34]⟩] none [4])
  .ret)
  .skip))
  (.seq (.region [⟨(some 35), none, (.build [(.int .i64 0), (.int .i64 0)] [(0, 1), (1, 1)]), [.c (.int .i64 2), .c (.int .i64 107)]⟩, ⟨(some 36), none, (.build [(.int .i64 0), (.int .i64 0)] [(0, 1), (1, 1)]), [.c (.int .i64 2), .c (.int .i64 117)]⟩, ⟨(some 37), none, (.build [(.int .i64 0), (.int .i64 0)] [(0, 1), (1, 1)]), [.c (.int .i64 2), .c (.int .i64 119)]⟩, ⟨(some 38), none, (.build [(.int .i64 0), (.int .i64 0)] [(0, 1), (1, 1)]), [.c (.int .i64 3), .c (.int .i64 100)]⟩, ⟨(some 39), none, (.buildSlice 2 [(.int .i64 0), (.int .i64 0), (.int .i64 0), (.int .i64 0), (.int .i64 0), (.int .i64 0), (.int .i64 0), (.int .i64 0)] [(0, 2), (2, 2), (4, 2), (6, 2)]), [.t 35, .t 36, .t 37, .t 38]⟩, ⟨(some 5), none, .move, [.t 39]⟩] none [1, 2, 5])
  (.seq (.seq (.region [⟨(some 40), none, .move, [.t 1]⟩, ⟨(some 41), none, (.bin .lss .num), [.t 40, .c (.int .i64 0)]⟩, ⟨(some 42), none, .move, [.t 41]⟩, ⟨(some 43), (some (42, false)), .move, [.t 1]⟩, ⟨(some 44), (some (42, false)), .move, [.t 5]⟩, ⟨(some 45), (some (42, false)), (.len .slice), [.t 44]⟩, ⟨(some 46), (some (42, false)), (.bin .geq .num), [.t 43, .t 45]⟩, ⟨(some 47), none, .pick, [.t 42, .c (.bool true), .t 46]⟩] none [1, 2, 5, 47])
  (.cond (.t 47) (.seq (.region [⟨(some 48), none, .call, [.c (.fn (.func 11) [] [])]⟩, ⟨(some 4), none, .move, [.t 48]⟩] none [4])
  .ret)
  .skip))
  (.seq (.seq (.region [⟨(some 6), none, .move, [.c (.int .i64 0)]⟩] none [1, 2, 5, 6])
  (.block 0 l6_1)) r6_2)))))⟩
theorem ok6 : FunOk Try.prog 6 c6 := ⟨⟨Try.f6, _, Try.func6, rfl, by kernel_rfl, by kernel_rfl, by kernel_rfl, by kernel_rfl⟩, by decide⟩
theorem res6 : c6.res = [.tmp 4] := rfl
def k6_2 (P : Program) (p : Lab) (Q : VPost) (y1 : AV) (y2 : AV) (H : Heap) (c : Nat) : Prop :=
  vCall true P 11 [] H (c :: p) (fun v34_12 H12 l12 f12 =>
  Q .ret [(4, v34_12)] H12 (c + 2))
def k6_1 (P : Program) (p : Lab) (Q : VPost) (y1 : AV) (y2 : AV) (H : Heap) (c : Nat) : Prop :=
  (k6_2 P p Q y1 y2 H (c + 7))
def k6_0 (P : Program) (p : Lab) (Q : VPost) (y1 : AV) (y2 : AV) (H : Heap) (c : Nat) : Prop :=
  (k6_1 P p Q y1 y2 H (c + 8))
def k6_3 (P : Program) (p : Lab) (Q : VPost) (H0 : Heap) (w0 : List AV) (x1 : AV) (c : Nat) (_ : Unit) : Prop :=
  (k6_0 P p Q x1 (.ptr (c :: p) w0.length 0 0) H0 (c + 10))
def k6_5 (P : Program) (p : Lab) (Q : VPost) (y1 : AV) (y2 : AV) (H : Heap) (c : Nat) : Prop :=
  (k6_2 P p Q y1 y2 H (c + 7))
def k6_6 (P : Program) (p : Lab) (Q : VPost) (y1 : AV) (y2 : AV) (H : Heap) (c : Nat) (_ : Unit) : Prop :=
  (k6_5 P p Q y1 y2 H (c + 8))
def k6_8 (P : Program) (p : Lab) (Q : VPost) (y1 : AV) (y2 : AV) (H : Heap) (c : Nat) (_ : Unit) : Prop :=
  (k6_2 P p Q y1 y2 H (c + 7))
def k6_10 (P : Program) (p : Lab) (Q : VPost) (y4 : AV) (H : Heap) (c : Nat) : Prop :=
  Q .ret [(4, y4)] H c
def k6_11 (P : Program) (p : Lab) (Q : VPost) (c : Nat) (v34_36 : AV) (H36 : Heap) (l36 : List Lab) (f36 : Option (List Lab)) : Prop :=
  (k6_10 P p Q v34_36 H36 (c + 2))
def k6_12 (P : Program) (p : Lab) (Q : VPost) (H : Heap) (c : Nat) (_ : Unit) : Prop :=
  vCall true P 11 [] H (c :: p) (k6_11 P p Q c)
def k6_14 (P : Program) (p : Lab) (Q : VPost) (y1 : AV) (y2 : AV) (y5 : AV) (H : Heap) (c : Nat) : Prop :=
  vCall true P 11 [] H (c :: p) (fun v48_48 H48 l48 f48 =>
  Q .ret [(4, v48_48)] H48 (c + 2))
def k6_15 (P : Program) (p : Lab) (Q : VPost) (H42 : Heap) (n42 : Nat) (y1 : AV) (y2 : AV) (c : Nat) (_ : Unit) : Prop :=
  (k6_14 P p Q y1 y2 (.sl ((c + 4) :: p) 2 0 n42) H42 (c + 14))
def k6_17 (P : Program) (p : Lab) (Q : VPost) (c : Nat) (v48_55 : AV) (H55 : Heap) (l55 : List Lab) (f55 : Option (List Lab)) : Prop :=
  (k6_10 P p Q v48_55 H55 (c + 2))
def k6_18 (P : Program) (p : Lab) (Q : VPost) (H : Heap) (c : Nat) (_ : Unit) : Prop :=
  vCall true P 11 [] H (c :: p) (k6_17 P p Q c)
def q6_0 (P : Program) (p : Lab) (Q : VPost) : VPost := (vblockQ 0 (vseqQ (vc P p r6_2 Q) Q))
theorem q6_0_ret (P : Program) (p : Lab) (Q : VPost) (r : RL) (H : Heap) (c : Nat) : q6_0 P p Q .ret r H c = Q .ret r H c := rfl
def k6_19 (P : Program) (p : Lab) (Q : VPost) (y1 : AV) (y2 : AV) (y5 : AV) (y47 : AV) (H : Heap) (c : Nat) : Prop :=
  vc P p l6_1 (q6_0 P p Q) [(1, y1), (2, y2), (5, y5), (6, (.int .i64 0))] H (c + 1)
def k6_20 (P : Program) (p : Lab) (Q : VPost) (y1 : AV) (y2 : AV) (y5 : AV) (y47 : AV) (H : Heap) (c : Nat) (_ : Unit) : Prop :=
  (k6_19 P p Q y1 y2 y5 y47 H c)
def k6_16 (P : Program) (p : Lab) (Q : VPost) (y1 : AV) (y2 : AV) (y5 : AV) (y47 : AV) (H : Heap) (c : Nat) : Prop :=
  vSel y47
  (k6_18 P p Q H c)
  (k6_20 P p Q y1 y2 y5 y47 H c)
def k6_21 (P : Program) (p : Lab) (Q : VPost) (H42 : Heap) (n42 : Nat) (y1 : AV) (y2 : AV) (c : Nat) (_ : Unit) : Prop :=
  vLen (.sl ((c + 4) :: p) 2 0 n42) fun v45_52 =>
  vBin .geq .num y1 v45_52 fun v46_53 =>
  (k6_16 P p Q y1 y2 (.sl ((c + 4) :: p) 2 0 n42) v46_53 H42 (c + 14))
def k6_13 (P : Program) (p : Lab) (Q : VPost) (y1 : AV) (y2 : AV) (y33 : AV) (H : Heap) (c : Nat) : Prop :=
  vBuild [(.int .i64 0), (.int .i64 0)] [(0, 1), (1, 1)] [(.int .i64 2), (.int .i64 107)] fun v35_38 =>
  vBuild [(.int .i64 0), (.int .i64 0)] [(0, 1), (1, 1)] [(.int .i64 2), (.int .i64 117)] fun v36_39 =>
  vBuild [(.int .i64 0), (.int .i64 0)] [(0, 1), (1, 1)] [(.int .i64 2), (.int .i64 119)] fun v37_40 =>
  vBuild [(.int .i64 0), (.int .i64 0)] [(0, 1), (1, 1)] [(.int .i64 3), (.int .i64 100)] fun v38_41 =>
  vBuildS 2 [(.int .i64 0), (.int .i64 0), (.int .i64 0), (.int .i64 0), (.int .i64 0), (.int .i64 0), (.int .i64 0), (.int .i64 0)] [(0, 2), (2, 2), (4, 2), (6, 2)] [v35_38, v36_39, v37_40, v38_41] fun w42 n42 =>
  (fun (H42 : Heap) =>
  vBin .lss .num y1 (.int .i64 0) fun v41_45 =>
  vSel v41_45
  (k6_15 P p Q H42 n42 y1 y2 c)
  (k6_21 P p Q H42 n42 y1 y2 c)) (upd [(((c + 4) :: p), some (.rows 2 w42))] H)
def k6_22 (P : Program) (p : Lab) (Q : VPost) (y1 : AV) (y2 : AV) (y33 : AV) (H : Heap) (c : Nat) (_ : Unit) : Prop :=
  (k6_13 P p Q y1 y2 y33 H c)
def k6_9 (P : Program) (p : Lab) (Q : VPost) (y1 : AV) (y2 : AV) (y33 : AV) (H : Heap) (c : Nat) : Prop :=
  vSel y33
  (k6_12 P p Q H c)
  (k6_22 P p Q y1 y2 y33 H c)
def k6_23 (P : Program) (p : Lab) (Q : VPost) (y1 : AV) (y2 : AV) (H : Heap) (c : Nat) (_ : Unit) : Prop :=
  vFA 2 y2 fun v29_31 =>
  vLoad 1 false v29_31 H fun v30_32 _ =>
  vLen v30_32 fun v31_33 =>
  vBin .gtr .num v31_33 (.int .i64 1100) fun v32_34 =>
  (k6_9 P p Q y1 y2 v32_34 H (c + 7))
def k6_7 (P : Program) (p : Lab) (Q : VPost) (y1 : AV) (y2 : AV) (y26 : AV) (H : Heap) (c : Nat) : Prop :=
  vSel y26
  (k6_8 P p Q y1 y2 H c)
  (k6_23 P p Q y1 y2 H c)
def k6_24 (P : Program) (p : Lab) (Q : VPost) (y1 : AV) (y2 : AV) (H : Heap) (c : Nat) (_ : Unit) : Prop :=
  vFA 1 y2 fun v21_22 =>
  vLoad 1 false v21_22 H fun v22_23 _ =>
  vFA 0 y2 fun v23_24 =>
  vLoad 1 false v23_24 H fun v24_25 _ =>
  vLen v24_25 fun v25_26 =>
  vBin .gtr .num v22_23 v25_26 fun v26_27 =>
  (k6_7 P p Q y1 y2 v26_27 H (c + 8))
def k6_4 (P : Program) (p : Lab) (Q : VPost) (y1 : AV) (y2 : AV) (y18 : AV) (H : Heap) (c : Nat) : Prop :=
  vSel y18
  (k6_6 P p Q y1 y2 H c)
  (k6_24 P p Q y1 y2 H c)
def k6_25 (P : Program) (p : Lab) (Q : VPost) (H0 : Heap) (w0 : List AV) (x1 : AV) (c : Nat) (_ : Unit) : Prop :=
  vFA 1 (.ptr (c :: p) w0.length 0 0) fun v16_14 =>
  vLoad 1 false v16_14 H0 fun v17_15 _ =>
  vBin .lss .num v17_15 (.int .i64 0) fun v18_16 =>
  (k6_4 P p Q x1 (.ptr (c :: p) w0.length 0 0) v18_16 H0 (c + 10))
def V6 (P : Program) (p : Lab) (Q : VPost) (x0 x1 : AV) (H : Heap) (c : Nat) : Prop :=
  vBox x0 fun w0 =>
  (fun (H0 : Heap) =>
  vFA 0 (.ptr (c :: p) w0.length 0 0) fun v11_2 =>
  vLoad 1 false v11_2 H0 fun v12_3 _ =>
  vLen v12_3 fun v13_4 =>
  vBin .gtr .num v13_4 (.int .i64 1000) fun v14_5 =>
  vSel v14_5
  (k6_3 P p Q H0 w0 x1 c)
  (k6_25 P p Q H0 w0 x1 c)) (upd [((c :: p), some (.rows w0.length [w0]))] H)
theorem vt6 (P : Program) (p : Lab) (Q : VPost) (x0 x1 : AV) (H : Heap) (c : Nat) : vc P p c6.body Q [(0, x0), (1, x1)] H c = V6 P p Q x0 x1 H c := by kernel_rfl
def k6_27 (P : Program) (p : Lab) (Q : VPost) (y1 : AV) (y2 : AV) (y5 : AV) (y6 : AV) (H : Heap) (c : Nat) : Prop :=
  vCall true P 11 [] H (c :: p) (fun v70_71 H71 l71 f71 =>
  Q .ret [(4, v70_71)] H71 (c + 2))
def k6_28 (P : Program) (p : Lab) (Q : VPost) (y1 : AV) (y2 : AV) (y5 : AV) (y6 : AV) (H : Heap) (c : Nat) (_ : Unit) : Prop :=
  (k6_27 P p Q y1 y2 y5 y6 H (c + 14))
def k6_30 (P : Program) (p : Lab) (Q : VPost) (y4 : AV) (H : Heap) (c : Nat) : Prop :=
  Q .ret [(4, y4)] H c
def k6_31 (P : Program) (p : Lab) (Q : VPost) (c : Nat) (v70_80 : AV) (H80 : Heap) (l80 : List Lab) (f80 : Option (List Lab)) : Prop :=
  (k6_30 P p Q v70_80 H80 (c + 2))
def k6_32 (P : Program) (p : Lab) (Q : VPost) (H : Heap) (c : Nat) (_ : Unit) : Prop :=
  vCall true P 11 [] H (c :: p) (k6_31 P p Q c)
def k6_33 (P : Program) (p : Lab) (Q : VPost) (y1 : AV) (y2 : AV) (y5 : AV) (y6 : AV) (y69 : AV) (H : Heap) (c : Nat) : Prop :=
  vBin .add .num y6 (.int .i64 1) fun v55_83 =>
  Q .normal [(1, y1), (2, y2), (5, y5), (6, v55_83)] H (c + 3)
def k6_34 (P : Program) (p : Lab) (Q : VPost) (y1 : AV) (y2 : AV) (y5 : AV) (y6 : AV) (y69 : AV) (H : Heap) (c : Nat) (_ : Unit) : Prop :=
  (k6_33 P p Q y1 y2 y5 y6 y69 H c)
def k6_29 (P : Program) (p : Lab) (Q : VPost) (y1 : AV) (y2 : AV) (y5 : AV) (y6 : AV) (y69 : AV) (H : Heap) (c : Nat) : Prop :=
  vSel y69
  (k6_32 P p Q H c)
  (k6_34 P p Q y1 y2 y5 y6 y69 H c)
def k6_35 (P : Program) (p : Lab) (Q : VPost) (y1 : AV) (y2 : AV) (y5 : AV) (y6 : AV) (H : Heap) (c : Nat) (_ : Unit) : Prop :=
  vFA 0 y2 fun v63_73 =>
  vLoad 1 false v63_73 H fun v64_74 _ =>
  vIx 1 v64_74 y6 fun v66_76 =>
  vLoad 1 false v66_76 H fun v67_77 _ =>
  vBin .gtr .num v67_77 (.int .i64 126) fun v68_78 =>
  (k6_29 P p Q y1 y2 y5 y6 v68_78 H (c + 14))
def k6_26 (P : Program) (p : Lab) (Q : VPost) (y1 : AV) (y2 : AV) (y5 : AV) (y6 : AV) (y53 : AV) (H : Heap) (c : Nat) : Prop :=
  vFA 0 y2 fun v56_63 =>
  vLoad 1 false v56_63 H fun v57_64 _ =>
  vIx 1 v57_64 y6 fun v59_66 =>
  vLoad 1 false v59_66 H fun v60_67 _ =>
  vBin .lss .num v60_67 (.int .i64 32) fun v61_68 =>
  vSel v61_68
  (k6_28 P p Q y1 y2 y5 y6 H c)
  (k6_35 P p Q y1 y2 y5 y6 H c)
def k6_36 (P : Program) (p : Lab) (Q : VPost) (v53_62 : AV) (x1 : AV) (x2 : AV) (x5 : AV) (x6 : AV) (H : Heap) (c : Nat) (_ : Unit) : Prop :=
  (k6_26 P p Q x1 x2 x5 x6 v53_62 H (c + 5))
def V6_1 (P : Program) (p : Lab) (Q : VPost) (x1 x2 x5 x6 : AV) (H : Heap) (c : Nat) : Prop :=
  vFA 0 x2 fun v50_59 =>
  vLoad 1 false v50_59 H fun v51_60 _ =>
  vLen v51_60 fun v52_61 =>
  vBin .lss .num x6 v52_61 fun v53_62 =>
  vSel v53_62
  (k6_36 P p Q v53_62 x1 x2 x5 x6 H c)
  (fun _ =>
  Q (.exit 0) [(1, x1), (2, x2), (5, x5), (6, x6), (53, v53_62)] H (c + 5))
theorem vt6_1 (P : Program) (p : Lab) (Q : VPost) (x1 x2 x5 x6 : AV) (H : Heap) (c : Nat) : vc P p b6_1 Q [(1, x1), (2, x2), (5, x5), (6, x6)] H c = V6_1 P p Q x1 x2 x5 x6 H c := by kernel_rfl
theorem q6_0_e0 (P : Program) (p : Lab) (Q : VPost) (r : RL) (H : Heap) (c : Nat) : q6_0 P p Q (.exit 0) r H c = (vc P p r6_2 Q r H c) := rfl
def k6_39 (P : Program) (p : Lab) (Q : VPost) (c : Nat) (v102_119 : AV) (H119 : Heap) (l119 : List Lab) (f119 : Option (List Lab)) : Prop :=
  (k6_10 P p Q v102_119 H119 (c + 5))
def k6_40 (P : Program) (p : Lab) (Q : VPost) (H : Heap) (c : Nat) (_ : Unit) : Prop :=
  vCall false P 11 [] H ((c + 2) :: p) (k6_39 P p Q c)
def k6_41 (P : Program) (p : Lab) (Q : VPost)  (H : Heap) (c : Nat) : Prop :=
  Q .ret [(4, (.bool false))] H c
def k6_42 (P : Program) (p : Lab) (Q : VPost) (H : Heap) (c : Nat) (_ : Unit) : Prop :=
  (k6_41 P p Q  H (c + 5))
def k6_38 (P : Program) (p : Lab) (Q : VPost) (y99 : AV) (H : Heap) (c : Nat) : Prop :=
  vSel y99
  (k6_40 P p Q H c)
  (k6_42 P p Q H c)
def k6_43 (P : Program) (p : Lab) (Q : VPost) (c : Nat) (v99_116 : AV) (H116 : Heap) (l116 : List Lab) (f116 : Option (List Lab)) : Prop :=
  (k6_38 P p Q v99_116 H116 (c + 11))
def k6_44 (P : Program) (p : Lab) (Q : VPost) (H110 : Heap) (y2 : AV) (y7 : AV) (c : Nat) (_ : Unit) : Prop :=
  vFA 2 y7 fun v95_112 =>
  vLoad 1 false v95_112 H110 fun v96_113 _ =>
  vFA 2 y2 fun v97_114 =>
  vLoad 1 false v97_114 H110 fun v98_115 _ =>
  vCall false P 21 [v96_113, v98_115] H110 ((c + 10) :: p) (k6_43 P p Q c)
def k6_45 (P : Program) (p : Lab) (Q : VPost)  (H : Heap) (c : Nat) : Prop :=
  (k6_41 P p Q  H (c + 5))
def k6_46 (P : Program) (p : Lab) (Q : VPost) (H110 : Heap) (c : Nat) (_ : Unit) : Prop :=
  (k6_45 P p Q  H110 (c + 11))
def k6_47 (P : Program) (p : Lab) (Q : VPost) (y2 : AV) (y7 : AV) (c : Nat) (v93_110 : AV) (H110 : Heap) (l110 : List Lab) (f110 : Option (List Lab)) : Prop :=
  vSel v93_110
  (k6_44 P p Q H110 y2 y7 c)
  (k6_46 P p Q H110 c)
def k6_37 (P : Program) (p : Lab) (Q : VPost) (y2 : AV) (y7 : AV) (H : Heap) (c : Nat) : Prop :=
  vFA 0 y7 fun v89_106 =>
  vLoad 1 false v89_106 H fun v90_107 _ =>
  vFA 0 y2 fun v91_108 =>
  vLoad 1 false v91_108 H fun v92_109 _ =>
  vCall true P 21 [v90_107, v92_109] H ((c + 4) :: p) (k6_47 P p Q y2 y7 c)
def k6_48 (P : Program) (p : Lab) (Q : VPost) (H101 : Heap) (x2 : AV) (c : Nat) (_ : Unit) : Prop :=
  (k6_37 P p Q x2 (.ptr ((c + 15) :: p) 3 0 0) H101 (c + 21))
def k6_52 (P : Program) (p : Lab) (Q : VPost) (y4 : AV) (H : Heap) (c : Nat) : Prop :=
  Q .ret [(4, y4)] H c
def k6_53 (P : Program) (p : Lab) (Q : VPost) (c : Nat) (v134_161 : AV) (H161 : Heap) (l161 : List Lab) (f161 : Option (List Lab)) : Prop :=
  (k6_52 P p Q v134_161 H161 (c + 5))
def k6_54 (P : Program) (p : Lab) (Q : VPost) (H : Heap) (c : Nat) (_ : Unit) : Prop :=
  vCall false P 11 [] H ((c + 2) :: p) (k6_53 P p Q c)
def k6_55 (P : Program) (p : Lab) (Q : VPost)  (H : Heap) (c : Nat) : Prop :=
  Q .ret [(4, (.bool false))] H c
def k6_56 (P : Program) (p : Lab) (Q : VPost) (H : Heap) (c : Nat) (_ : Unit) : Prop :=
  (k6_55 P p Q  H (c + 5))
def k6_51 (P : Program) (p : Lab) (Q : VPost) (y131 : AV) (H : Heap) (c : Nat) : Prop :=
  vSel y131
  (k6_54 P p Q H c)
  (k6_56 P p Q H c)
def k6_57 (P : Program) (p : Lab) (Q : VPost) (y7 : AV) (y8 : AV) (y9 : AV) (H : Heap) (c : Nat) (_ : Unit) : Prop :=
  vFA 1 y9 fun v124_151 =>
  vLoad 1 false v124_151 H fun v125_152 _ =>
  vFA 1 y7 fun v126_153 =>
  vLoad 1 false v126_153 H fun v127_154 _ =>
  vLen y8 fun v129_156 =>
  vBin .add .num v127_154 v129_156 fun v130_157 =>
  vBin .eql .num v125_152 v130_157 fun v131_158 =>
  (k6_51 P p Q v131_158 H (c + 10))
def k6_58 (P : Program) (p : Lab) (Q : VPost)  (H : Heap) (c : Nat) : Prop :=
  (k6_55 P p Q  H (c + 5))
def k6_59 (P : Program) (p : Lab) (Q : VPost) (H : Heap) (c : Nat) (_ : Unit) : Prop :=
  (k6_58 P p Q  H (c + 10))
def k6_50 (P : Program) (p : Lab) (Q : VPost) (y7 : AV) (y8 : AV) (y9 : AV) (y121 : AV) (H : Heap) (c : Nat) : Prop :=
  vSel y121
  (k6_57 P p Q y7 y8 y9 H c)
  (k6_59 P p Q H c)
def k6_60 (P : Program) (p : Lab) (Q : VPost) (H141 : Heap) (y7 : AV) (y8 : AV) (c : Nat) (_ : Unit) : Prop :=
  vFA 2 y7 fun v116_143 =>
  vLoad 1 false v116_143 H141 fun v117_144 _ =>
  vLen v117_144 fun v118_145 =>
  vLen y8 fun v120_147 =>
  vBin .eql .num v118_145 v120_147 fun v121_148 =>
  (k6_50 P p Q y7 y8 (.ptr ((c + 6) :: p) 3 0 0) v121_148 H141 (c + 21))
def k6_62 (P : Program) (p : Lab) (Q : VPost)  (H : Heap) (c : Nat) : Prop :=
  (k6_55 P p Q  H (c + 5))
def k6_61 (P : Program) (p : Lab) (Q : VPost) (y7 : AV) (y8 : AV) (y9 : AV) (H : Heap) (c : Nat) : Prop :=
  (k6_62 P p Q  H (c + 10))
def k6_63 (P : Program) (p : Lab) (Q : VPost) (H141 : Heap) (y7 : AV) (y8 : AV) (c : Nat) (_ : Unit) : Prop :=
  (k6_61 P p Q y7 y8 (.ptr ((c + 6) :: p) 3 0 0) H141 (c + 21))
def k6_64 (P : Program) (p : Lab) (Q : VPost) (y7 : AV) (y8 : AV) (c : Nat) (v114_141 : AV) (H141 : Heap) (l141 : List Lab) (f141 : Option (List Lab)) : Prop :=
  vSel v114_141
  (k6_60 P p Q H141 y7 y8 c)
  (k6_63 P p Q H141 y7 y8 c)
def k6_65 (P : Program) (p : Lab) (Q : VPost) (y2 : AV) (y7 : AV) (y8 : AV) (c : Nat) (v_135 : AV) (H135 : Heap) (l135 : List Lab) (f135 : Option (List Lab)) : Prop :=
  vFA 0 (.ptr ((c + 6) :: p) 3 0 0) fun v110_137 =>
  vLoad 1 false v110_137 H135 fun v111_138 _ =>
  vFA 0 y2 fun v112_139 =>
  vLoad 1 false v112_139 H135 fun v113_140 _ =>
  vCall true P 21 [v111_138, v113_140] H135 ((c + 13) :: p) (k6_64 P p Q y7 y8 c)
def k6_66 (P : Program) (p : Lab) (Q : VPost) (y2 : AV) (y7 : AV) (y8 : AV) (c : Nat) (v107_130 : AV) (H130 : Heap) (l130 : List Lab) (f130 : Option (List Lab)) : Prop :=
  vExt 0 v107_130 fun v108_132 =>
  vExt 1 v107_130 fun v109_133 =>
  (fun (H134 : Heap) =>
  vGen (.store 3) [(.ptr ((c + 6) :: p) 3 0 0), v108_132] H134 ((c + 7) :: p) (k6_65 P p Q y2 y7 y8 c)) (upd [(((c + 6) :: p), some (.rows 3 [[.nils, (.int .i64 0), .nils]]))] H130)
def k6_49 (P : Program) (p : Lab) (Q : VPost) (y2 : AV) (y7 : AV) (y8 : AV) (y88 : AV) (H : Heap) (c : Nat) : Prop :=
  vLoad 3 true y7 H fun v105_128 _ =>
  vBuild [(.int .i64 0), (.int .i64 0)] [(0, 1), (1, 1)] [(.int .i64 2), (.int .i64 121)] fun v106_129 =>
  vCall true P 12 [v105_128, v106_129] H ((c + 2) :: p) (k6_66 P p Q y2 y7 y8 c)
def k6_67 (P : Program) (p : Lab) (Q : VPost) (v88_105 : AV) (H101 : Heap) (v85_99 : AV) (x2 : AV) (c : Nat) (_ : Unit) : Prop :=
  (k6_49 P p Q x2 (.ptr ((c + 15) :: p) 3 0 0) v85_99 v88_105 H101 (c + 21))
def k6_68 (P : Program) (p : Lab) (Q : VPost) (v85_99 : AV) (l96 : List Lab) (f96 : Option (List Lab)) (f95 : Option (List Lab)) (f90 : Option (List Lab)) (f88 : Option (List Lab)) (f86 : Option (List Lab)) (x2 : AV) (c : Nat) (v_101 : AV) (H101 : Heap) (l101 : List Lab) (f101 : Option (List Lab)) : Prop :=
  clashFree [0, 1, 0, 4, 0, 16, 63, 0, 0, 384, 896, 2047, 4095, 8191, 8191, 0, 49151, 131071] (addTr 1 [] ((c + 1) :: p) f86 (addTr 3 [] ((c + 3) :: p) f88 (addTr 5 [] ((c + 5) :: p) f90 (addTr 10 [] ((c + 10) :: p) f95 (addTr 11 l96 ((c + 11) :: p) f96 (addTr 15 [((c + 15) :: p)] ((c + 15) :: p) (some []) (addTr 16 l101 ((c + 16) :: p) f101 []))))))) ∧
  vLen v85_99 fun v87_104 =>
  vBin .eql .num v87_104 (.int .i64 0) fun v88_105 =>
  vSel v88_105
  (k6_48 P p Q H101 x2 c)
  (k6_67 P p Q v88_105 H101 v85_99 x2 c)
def k6_69 (P : Program) (p : Lab) (Q : VPost) (f95 : Option (List Lab)) (f90 : Option (List Lab)) (f88 : Option (List Lab)) (f86 : Option (List Lab)) (x2 : AV) (c : Nat) (v83_96 : AV) (H96 : Heap) (l96 : List Lab) (f96 : Option (List Lab)) : Prop :=
  vExt 0 v83_96 fun v84_98 =>
  vExt 1 v83_96 fun v85_99 =>
  (fun (H100 : Heap) =>
  vGen (.store 3) [(.ptr ((c + 15) :: p) 3 0 0), v84_98] H100 ((c + 16) :: p) (k6_68 P p Q v85_99 l96 f96 f95 f90 f88 f86 x2 c)) (upd [(((c + 15) :: p), some (.rows 3 [[.nils, (.int .i64 0), .nils]]))] H96)
def V6_2 (P : Program) (p : Lab) (Q : VPost) (x1 x2 x5 x6 x53 : AV) (H : Heap) (c : Nat) : Prop :=
  vFA 0 x2 fun v72_85 =>
  vLoad 1 false v72_85 H fun v73_86 f86 =>
  vFA 1 x2 fun v74_87 =>
  vLoad 1 false v74_87 H fun v75_88 f88 =>
  vFA 2 x2 fun v76_89 =>
  vLoad 1 false v76_89 H fun v77_90 f90 =>
  vBuild [.nils, (.int .i64 0), .nils] [(0, 1), (1, 1), (2, 1)] [v73_86, v75_88, v77_90] fun v78_91 =>
  vIx 2 x5 x1 fun v81_94 =>
  vLoad 2 true v81_94 H fun v82_95 f95 =>
  vCall false P 12 [v78_91, v82_95] H ((c + 11) :: p) (k6_69 P p Q f95 f90 f88 f86 x2 c)
theorem vt6_2 (P : Program) (p : Lab) (Q : VPost) (x1 x2 x5 x6 x53 : AV) (H : Heap) (c : Nat) : vc P p r6_2 Q [(1, x1), (2, x2), (5, x5), (6, x6), (53, x53)] H c = V6_2 P p Q x1 x2 x5 x6 x53 H c := by kernel_rfl



end Go.Proofs.Ytbngfbpegdcpkaa
