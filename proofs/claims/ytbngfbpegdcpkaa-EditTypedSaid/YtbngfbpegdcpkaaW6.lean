/- What is owed of functions of the program, as formulas. -/
import Derived.Test.YtbngfbpegdcpkaaA26
import Derived.Test.YtbngfbpegdcpkaaProg
import Derived.KernelRfl
namespace Go.Proofs.Ytbngfbpegdcpkaa
set_option maxRecDepth 100000
set_option linter.unusedVariables false
set_option linter.unusedSimpArgs false
def b8_1 : ACode := (.seq (.seq (.region [⟨(some 52), none, .move, [.t 7]⟩, ⟨(some 53), none, .move, [.t 1]⟩, ⟨(some 54), none, (.len .slice), [.t 53]⟩, ⟨(some 55), none, (.bin .lss .num), [.t 52, .t 54]⟩] none [1, 2, 5, 6, 7, 55])
  (.cond (.t 55) .skip
  (.exit 0)))
  (.seq (.block 1 (.seq (.seq (.region [⟨(some 58), none, .move, [.t 1]⟩, ⟨(some 59), none, .move, [.t 7]⟩, ⟨(some 60), none, (.indexAddr 1), [.t 58, .t 59]⟩, ⟨(some 61), none, (.load 1 false), [.t 60]⟩, ⟨(some 62), none, (.bin .lss .num), [.t 61, .c (.int .i64 32)]⟩, ⟨(some 63), none, .move, [.t 62]⟩, ⟨(some 64), (some (63, false)), .move, [.t 1]⟩, ⟨(some 65), (some (63, false)), .move, [.t 7]⟩, ⟨(some 66), (some (63, false)), (.indexAddr 1), [.t 64, .t 65]⟩, ⟨(some 67), (some (63, false)), (.load 1 false), [.t 66]⟩, ⟨(some 68), (some (63, false)), (.bin .gtr .num), [.t 67, .c (.int .i64 126)]⟩, ⟨(some 69), none, .pick, [.t 63, .c (.bool true), .t 68]⟩] none [1, 2, 5, 6, 7, 69])
  (.cond (.t 69) (.seq (.region [⟨(some 70), none, .call, [.c (.fn (.func 11) [] [])]⟩, ⟨(some 4), none, .move, [.t 70]⟩] none [4])
  .ret)
  .skip))
  (.seq (.region [⟨(some 72), none, (.load 3 true), [.t 5]⟩, ⟨(some 73), none, .move, [.t 1]⟩, ⟨(some 74), none, .move, [.t 7]⟩, ⟨(some 75), none, (.indexAddr 1), [.t 73, .t 74]⟩, ⟨(some 76), none, (.load 1 false), [.t 75]⟩, ⟨(some 77), none, (.build [(.int .i64 0), (.int .i64 0)] [(0, 1), (1, 1)]), [.c (.int .i64 1), .t 76]⟩, ⟨(some 78), none, .call, [.c (.fn (.func 12) [] []), .t 72, .t 77]⟩, ⟨(some 71), none, .move, [.t 78]⟩, ⟨(some 79), none, (.extract 0), [.t 71]⟩, ⟨(some 80), none, (.extract 1), [.t 71]⟩, ⟨none, none, (.store 3), [.t 5, .t 79]⟩] (some [0, 0, 0, 6, 14, 30, 63, 127, 255, 255, 511]) [1, 2, 5, 6, 7])
  (.region [⟨(some 81), none, .move, [.t 6]⟩, ⟨(some 82), none, .move, [.t 1]⟩, ⟨(some 83), none, .move, [.t 7]⟩, ⟨(some 84), none, (.indexAddr 1), [.t 82, .t 83]⟩, ⟨(some 85), none, (.load 1 false), [.t 84]⟩, ⟨(some 86), none, (.buildSlice 1 [(.int .i64 0)] [(0, 1)]), [.t 85]⟩, ⟨(some 87), none, (.append 1 8), [.t 81, .t 86]⟩, ⟨(some 6), none, .move, [.t 87]⟩] none [1, 2, 5, 6, 7]))))
  (.region [⟨(some 56), none, .move, [.t 7]⟩, ⟨(some 57), none, (.bin .add .num), [.t 56, .c (.int .i64 1)]⟩, ⟨(some 7), none, .move, [.t 57]⟩] none [1, 2, 5, 6, 7])))
def l8_1 : ACode := .loop [1, 2, 5, 6, 7] b8_1
def b8_3 : ACode := (.seq (.seq (.region [⟨(some 110), none, .move, [.t 8]⟩, ⟨(some 111), none, .move, [.t 1]⟩, ⟨(some 112), none, (.len .slice), [.t 111]⟩, ⟨(some 113), none, (.bin .lss .num), [.t 110, .t 112]⟩] none [1, 2, 5, 8, 113])
  (.cond (.t 113) .skip
  (.exit 2)))
  (.seq (.block 3 (.region [⟨(some 117), none, (.load 3 true), [.t 5]⟩, ⟨(some 118), none, (.build [(.int .i64 0), (.int .i64 0)] [(0, 1), (1, 1)]), [.c (.int .i64 2), .c (.int .i64 104)]⟩, ⟨(some 119), none, .call, [.c (.fn (.func 12) [] []), .t 117, .t 118]⟩, ⟨(some 116), none, .move, [.t 119]⟩, ⟨(some 120), none, (.extract 0), [.t 116]⟩, ⟨(some 121), none, (.extract 1), [.t 116]⟩, ⟨none, none, (.store 3), [.t 5, .t 120]⟩] none [1, 2, 5, 8]))
  (.region [⟨(some 114), none, .move, [.t 8]⟩, ⟨(some 115), none, (.bin .add .num), [.t 114, .c (.int .i64 1)]⟩, ⟨(some 8), none, .move, [.t 115]⟩] none [1, 2, 5, 8])))
def l8_3 : ACode := .loop [1, 2, 5, 8] b8_3
def r8_4 : ACode := (.seq (.region [⟨(some 122), none, (.fieldAddr 0), [.t 5]⟩, ⟨(some 123), none, (.load 1 false), [.t 122]⟩, ⟨(some 124), none, (.fieldAddr 0), [.t 2]⟩, ⟨(some 125), none, (.load 1 false), [.t 124]⟩, ⟨(some 126), none, .call, [.c (.fn (.func 21) [] []), .t 123, .t 125]⟩, ⟨(some 127), none, .move, [.t 126]⟩, ⟨(some 128), (some (127, true)), (.fieldAddr 1), [.t 5]⟩, ⟨(some 129), (some (127, true)), (.load 1 false), [.t 128]⟩, ⟨(some 130), (some (127, true)), (.fieldAddr 1), [.t 2]⟩, ⟨(some 131), (some (127, true)), (.load 1 false), [.t 130]⟩, ⟨(some 132), (some (127, true)), (.bin .eql .num), [.t 129, .t 131]⟩, ⟨(some 133), none, .pick, [.t 127, .t 132, .c (.bool false)]⟩, ⟨(some 134), none, .move, [.t 133]⟩, ⟨(some 135), (some (134, true)), (.fieldAddr 2), [.t 5]⟩, ⟨(some 136), (some (134, true)), (.load 1 false), [.t 135]⟩, ⟨(some 137), (some (134, true)), (.fieldAddr 2), [.t 2]⟩, ⟨(some 138), (some (134, true)), (.load 1 false), [.t 137]⟩, ⟨(some 139), (some (134, true)), .call, [.c (.fn (.func 21) [] []), .t 136, .t 138]⟩, ⟨(some 140), none, .pick, [.t 134, .t 139, .c (.bool false)]⟩, ⟨(some 141), none, .move, [.t 140]⟩, ⟨(some 142), (some (141, true)), .call, [.c (.fn (.func 11) [] [])]⟩, ⟨(some 143), none, .pick, [.t 141, .t 142, .c (.bool false)]⟩, ⟨(some 4), none, .move, [.t 143]⟩] none [4])
  .ret)
def r8_2 : ACode := (.seq (.region [⟨(some 88), none, .move, [.t 6]⟩, ⟨(some 89), none, (.fieldAddr 0), [.t 2]⟩, ⟨(some 90), none, (.load 1 false), [.t 89]⟩, ⟨(some 91), none, (.fieldAddr 1), [.t 2]⟩, ⟨(some 92), none, (.load 1 false), [.t 91]⟩, ⟨(some 93), none, (.slice 1 true false false), [.t 90, .t 92]⟩, ⟨(some 94), none, (.append 1 8), [.t 88, .t 93]⟩, ⟨(some 6), none, .move, [.t 94]⟩] none [1, 2, 5, 6])
  (.seq (.seq (.region [⟨(some 95), none, (.fieldAddr 0), [.t 5]⟩, ⟨(some 96), none, (.load 1 false), [.t 95]⟩, ⟨(some 97), none, .move, [.t 6]⟩, ⟨(some 98), none, .call, [.c (.fn (.func 21) [] []), .t 96, .t 97]⟩, ⟨(some 99), none, (.un .not), [.t 98]⟩, ⟨(some 100), none, .move, [.t 99]⟩, ⟨(some 101), (some (100, false)), (.fieldAddr 1), [.t 5]⟩, ⟨(some 102), (some (100, false)), (.load 1 false), [.t 101]⟩, ⟨(some 103), (some (100, false)), (.fieldAddr 1), [.t 2]⟩, ⟨(some 104), (some (100, false)), (.load 1 false), [.t 103]⟩, ⟨(some 105), (some (100, false)), .move, [.t 1]⟩, ⟨(some 106), (some (100, false)), (.len .slice), [.t 105]⟩, ⟨(some 107), (some (100, false)), (.bin .add .num), [.t 104, .t 106]⟩, ⟨(some 108), (some (100, false)), (.bin .neq .num), [.t 102, .t 107]⟩, ⟨(some 109), none, .pick, [.t 100, .c (.bool true), .t 108]⟩] none [1, 2, 5, 109])
  (.cond (.t 109) (.seq (.region [⟨(some 4), none, .move, [.c (.bool false)]⟩] none [4])
  .ret)
  .skip))
  (.seq (.seq (.region [⟨(some 8), none, .move, [.c (.int .i64 0)]⟩] none [1, 2, 5, 8])
  (.block 2 l8_3)) r8_4)))
/-- duet/duetlaw18.EditTyped -/
def c8 : AFun := ⟨2, 144, [.tmp 4],
  (.seq (.region [⟨(some 2), none, .box, [.t 0]⟩, ⟨(some 4), none, .move, [.c (.bool false)]⟩] none [1, 2])
  (.seq (.seq (.region [⟨(some 9), none, (.fieldAddr 0), [.t 2]⟩, ⟨(some 10), none, (.load 1 false), [.t 9]⟩, ⟨(some 11), none, (.len .slice), [.t 10]⟩, ⟨(some 12), none, (.bin .gtr .num), [.t 11, .c (.int .i64 500)]⟩, ⟨(some 13), none, .move, [.t 12]⟩, ⟨(some 14), (some (13, false)), (.fieldAddr 2), [.t 2]⟩, ⟨(some 15), (some (13, false)), (.load 1 false), [.t 14]⟩, ⟨(some 16), (some (13, false)), (.len .slice), [.t 15]⟩, ⟨(some 17), (some (13, false)), (.bin .gtr .num), [.t 16, .c (.int .i64 500)]⟩, ⟨(some 18), none, .pick, [.t 13, .c (.bool true), .t 17]⟩, ⟨(some 19), none, .move, [.t 18]⟩, ⟨(some 20), (some (19, false)), .move, [.t 1]⟩, ⟨(some 21), (some (19, false)), (.len .slice), [.t 20]⟩, ⟨(some 22), (some (19, false)), (.bin .gtr .num), [.t 21, .c (.int .i64 100)]⟩, ⟨(some 23), none, .pick, [.t 19, .c (.bool true), .t 22]⟩, ⟨(some 24), none, .move, [.t 23]⟩, ⟨(some 25), (some (24, false)), (.fieldAddr 1), [.t 2]⟩, ⟨(some 26), (some (24, false)), (.load 1 false), [.t 25]⟩, ⟨(some 27), (some (24, false)), (.bin .lss .num), [.t 26, .c (.int .i64 0)]⟩, ⟨(some 28), none, .pick, [.t 24, .c (.bool true), .t 27]⟩, ⟨(some 29), none, .move, [.t 28]⟩, ⟨(some 30), (some (29, false)), (.fieldAddr 1), [.t 2]⟩, ⟨(some 31), (some (29, false)), (.load 1 false), [.t 30]⟩, ⟨(some 32), (some (29, false)), (.fieldAddr 0), [.t 2]⟩, ⟨(some 33), (some (29, false)), (.load 1 false), [.t 32]⟩, ⟨(some 34), (some (29, false)), (.len .slice), [.t 33]⟩, ⟨(some 35), (some (29, false)), (.bin .gtr .num), [.t 31, .t 34]⟩, ⟨(some 36), none, .pick, [.t 29, .c (.bool true), .t 35]⟩] none [1, 2, 36])
  (.cond (.t 36) (.seq (.region [⟨(some 37), none, .call, [.c (.fn (.func 11) [] [])]⟩, ⟨(some 4), none, .move, [.t 37]⟩] none [4])
  .ret)
  .skip))
  (.seq (.region [⟨(some 38), none, (.fieldAddr 0), [.t 2]⟩, ⟨(some 39), none, (.load 1 false), [.t 38]⟩, ⟨(some 40), none, (.fieldAddr 1), [.t 2]⟩, ⟨(some 41), none, (.load 1 false), [.t 40]⟩, ⟨(some 42), none, (.fieldAddr 2), [.t 2]⟩, ⟨(some 43), none, (.load 1 false), [.t 42]⟩, ⟨(some 44), none, (.build [.nils, (.int .i64 0), .nils] [(0, 1), (1, 1), (2, 1)]), [.t 39, .t 41, .t 43]⟩, ⟨(some 5), none, (.alloc [.nils, (.int .i64 0), .nils]), []⟩, ⟨none, none, (.store 3), [.t 5, .t 44]⟩] none [1, 2, 5])
  (.seq (.region [⟨(some 6), none, .move, [.c .nils]⟩] none [1, 2, 5, 6])
  (.seq (.region [⟨(some 45), none, .move, [.t 6]⟩, ⟨(some 46), none, (.fieldAddr 0), [.t 2]⟩, ⟨(some 47), none, (.load 1 false), [.t 46]⟩, ⟨(some 48), none, (.fieldAddr 1), [.t 2]⟩, ⟨(some 49), none, (.load 1 false), [.t 48]⟩, ⟨(some 50), none, (.slice 1 false true false), [.t 47, .t 49]⟩, ⟨(some 51), none, (.append 1 8), [.t 45, .t 50]⟩, ⟨(some 6), none, .move, [.t 51]⟩] none [1, 2, 5, 6])
  (.seq (.seq (.region [⟨(some 7), none, .move, [.c (.int .i64 0)]⟩] none [1, 2, 5, 6, 7])
  (.block 0 l8_1)) r8_2))))))⟩
theorem ok8 : FunOk Try.prog 8 c8 := ⟨⟨Try.f8, _, Try.func8, rfl, by kernel_rfl, by kernel_rfl, by kernel_rfl, by kernel_rfl⟩, by decide⟩
theorem res8 : c8.res = [.tmp 4] := rfl
def k8_3 (P : Program) (p : Lab) (Q : VPost) (y1 : AV) (y2 : AV) (H : Heap) (c : Nat) : Prop :=
  vCall true P 11 [] H (c :: p) (fun v37_14 H14 l14 f14 =>
  Q .ret [(4, v37_14)] H14 (c + 2))
def k8_2 (P : Program) (p : Lab) (Q : VPost) (y1 : AV) (y2 : AV) (H : Heap) (c : Nat) : Prop :=
  (k8_3 P p Q y1 y2 H (c + 9))
def k8_1 (P : Program) (p : Lab) (Q : VPost) (y1 : AV) (y2 : AV) (H : Heap) (c : Nat) : Prop :=
  (k8_2 P p Q y1 y2 H (c + 5))
def k8_0 (P : Program) (p : Lab) (Q : VPost) (y1 : AV) (y2 : AV) (H : Heap) (c : Nat) : Prop :=
  (k8_1 P p Q y1 y2 H (c + 5))
def k8_4 (P : Program) (p : Lab) (Q : VPost) (H0 : Heap) (w0 : List AV) (x1 : AV) (c : Nat) (_ : Unit) : Prop :=
  (k8_0 P p Q x1 (.ptr (c :: p) w0.length 0 0) H0 (c + 11))
def k8_7 (P : Program) (p : Lab) (Q : VPost) (y1 : AV) (y2 : AV) (H : Heap) (c : Nat) : Prop :=
  (k8_3 P p Q y1 y2 H (c + 9))
def k8_6 (P : Program) (p : Lab) (Q : VPost) (y1 : AV) (y2 : AV) (H : Heap) (c : Nat) : Prop :=
  (k8_7 P p Q y1 y2 H (c + 5))
def k8_8 (P : Program) (p : Lab) (Q : VPost) (y1 : AV) (y2 : AV) (H : Heap) (c : Nat) (_ : Unit) : Prop :=
  (k8_6 P p Q y1 y2 H (c + 5))
def k8_10 (P : Program) (p : Lab) (Q : VPost) (y1 : AV) (y2 : AV) (H : Heap) (c : Nat) : Prop :=
  (k8_3 P p Q y1 y2 H (c + 9))
def k8_11 (P : Program) (p : Lab) (Q : VPost) (y1 : AV) (y2 : AV) (H : Heap) (c : Nat) (_ : Unit) : Prop :=
  (k8_10 P p Q y1 y2 H (c + 5))
def k8_13 (P : Program) (p : Lab) (Q : VPost) (y1 : AV) (y2 : AV) (H : Heap) (c : Nat) (_ : Unit) : Prop :=
  (k8_3 P p Q y1 y2 H (c + 9))
def k8_15 (P : Program) (p : Lab) (Q : VPost) (y4 : AV) (H : Heap) (c : Nat) : Prop :=
  Q .ret [(4, y4)] H c
def k8_16 (P : Program) (p : Lab) (Q : VPost) (c : Nat) (v37_48 : AV) (H48 : Heap) (l48 : List Lab) (f48 : Option (List Lab)) : Prop :=
  (k8_15 P p Q v37_48 H48 (c + 2))
def k8_17 (P : Program) (p : Lab) (Q : VPost) (H : Heap) (c : Nat) (_ : Unit) : Prop :=
  vCall true P 11 [] H (c :: p) (k8_16 P p Q c)
def q8_0 (P : Program) (p : Lab) (Q : VPost) : VPost := (vblockQ 0 (vseqQ (vc P p r8_2 Q) Q))
theorem q8_0_ret (P : Program) (p : Lab) (Q : VPost) (r : RL) (H : Heap) (c : Nat) : q8_0 P p Q .ret r H c = Q .ret r H c := rfl
def k8_19 (P : Program) (p : Lab) (Q : VPost) (y1 : AV) (y2 : AV) (c : Nat) (v51_66 : AV) (H66 : Heap) (l66 : List Lab) (f66 : Option (List Lab)) : Prop :=
  vc P p l8_1 (q8_0 P p Q) [(1, y1), (2, y2), (5, (.ptr ((c + 7) :: p) 3 0 0)), (6, v51_66), (7, (.int .i64 0))] H66 (c + 19)
def k8_20 (P : Program) (p : Lab) (Q : VPost) (y1 : AV) (y2 : AV) (c : Nat) (v50_65 : AV) (H65 : Heap) (l65 : List Lab) (f65 : Option (List Lab)) : Prop :=
  vGen (.append 1 8) [.nils, v50_65] H65 ((c + 16) :: p) (k8_19 P p Q y1 y2 c)
def k8_21 (P : Program) (p : Lab) (Q : VPost) (y1 : AV) (y2 : AV) (c : Nat) (v_58 : AV) (H58 : Heap) (l58 : List Lab) (f58 : Option (List Lab)) : Prop :=
  vFA 0 y2 fun v46_61 =>
  vLoad 1 false v46_61 H58 fun v47_62 _ =>
  vFA 1 y2 fun v48_63 =>
  vLoad 1 false v48_63 H58 fun v49_64 _ =>
  vGen (.slice 1 false true false) [v47_62, v49_64] H58 ((c + 15) :: p) (k8_20 P p Q y1 y2 c)
def k8_18 (P : Program) (p : Lab) (Q : VPost) (y1 : AV) (y2 : AV) (y36 : AV) (H : Heap) (c : Nat) : Prop :=
  vFA 0 y2 fun v38_50 =>
  vLoad 1 false v38_50 H fun v39_51 _ =>
  vFA 1 y2 fun v40_52 =>
  vLoad 1 false v40_52 H fun v41_53 _ =>
  vFA 2 y2 fun v42_54 =>
  vLoad 1 false v42_54 H fun v43_55 _ =>
  vBuild [.nils, (.int .i64 0), .nils] [(0, 1), (1, 1), (2, 1)] [v39_51, v41_53, v43_55] fun v44_56 =>
  (fun (H57 : Heap) =>
  vGen (.store 3) [(.ptr ((c + 7) :: p) 3 0 0), v44_56] H57 ((c + 8) :: p) (k8_21 P p Q y1 y2 c)) (upd [(((c + 7) :: p), some (.rows 3 [[.nils, (.int .i64 0), .nils]]))] H)
def k8_22 (P : Program) (p : Lab) (Q : VPost) (y1 : AV) (y2 : AV) (y36 : AV) (H : Heap) (c : Nat) (_ : Unit) : Prop :=
  (k8_18 P p Q y1 y2 y36 H c)
def k8_14 (P : Program) (p : Lab) (Q : VPost) (y1 : AV) (y2 : AV) (y36 : AV) (H : Heap) (c : Nat) : Prop :=
  vSel y36
  (k8_17 P p Q H c)
  (k8_22 P p Q y1 y2 y36 H c)
def k8_23 (P : Program) (p : Lab) (Q : VPost) (y1 : AV) (y2 : AV) (H : Heap) (c : Nat) (_ : Unit) : Prop :=
  vFA 1 y2 fun v30_41 =>
  vLoad 1 false v30_41 H fun v31_42 _ =>
  vFA 0 y2 fun v32_43 =>
  vLoad 1 false v32_43 H fun v33_44 _ =>
  vLen v33_44 fun v34_45 =>
  vBin .gtr .num v31_42 v34_45 fun v35_46 =>
  (k8_14 P p Q y1 y2 v35_46 H (c + 9))
def k8_12 (P : Program) (p : Lab) (Q : VPost) (y1 : AV) (y2 : AV) (y27 : AV) (H : Heap) (c : Nat) : Prop :=
  vSel y27
  (k8_13 P p Q y1 y2 H c)
  (k8_23 P p Q y1 y2 H c)
def k8_24 (P : Program) (p : Lab) (Q : VPost) (y1 : AV) (y2 : AV) (H : Heap) (c : Nat) (_ : Unit) : Prop :=
  vFA 1 y2 fun v25_35 =>
  vLoad 1 false v25_35 H fun v26_36 _ =>
  vBin .lss .num v26_36 (.int .i64 0) fun v27_37 =>
  (k8_12 P p Q y1 y2 v27_37 H (c + 5))
def k8_9 (P : Program) (p : Lab) (Q : VPost) (y1 : AV) (y2 : AV) (y22 : AV) (H : Heap) (c : Nat) : Prop :=
  vSel y22
  (k8_11 P p Q y1 y2 H c)
  (k8_24 P p Q y1 y2 H c)
def k8_25 (P : Program) (p : Lab) (Q : VPost) (y1 : AV) (y2 : AV) (H : Heap) (c : Nat) (_ : Unit) : Prop :=
  vLen y1 fun v21_28 =>
  vBin .gtr .num v21_28 (.int .i64 100) fun v22_29 =>
  (k8_9 P p Q y1 y2 v22_29 H (c + 5))
def k8_5 (P : Program) (p : Lab) (Q : VPost) (y1 : AV) (y2 : AV) (y17 : AV) (H : Heap) (c : Nat) : Prop :=
  vSel y17
  (k8_8 P p Q y1 y2 H c)
  (k8_25 P p Q y1 y2 H c)
def k8_26 (P : Program) (p : Lab) (Q : VPost) (H0 : Heap) (w0 : List AV) (x1 : AV) (c : Nat) (_ : Unit) : Prop :=
  vFA 2 (.ptr (c :: p) w0.length 0 0) fun v14_16 =>
  vLoad 1 false v14_16 H0 fun v15_17 _ =>
  vLen v15_17 fun v16_18 =>
  vBin .gtr .num v16_18 (.int .i64 500) fun v17_19 =>
  (k8_5 P p Q x1 (.ptr (c :: p) w0.length 0 0) v17_19 H0 (c + 11))
def V8 (P : Program) (p : Lab) (Q : VPost) (x0 x1 : AV) (H : Heap) (c : Nat) : Prop :=
  vBox x0 fun w0 =>
  (fun (H0 : Heap) =>
  vFA 0 (.ptr (c :: p) w0.length 0 0) fun v9_2 =>
  vLoad 1 false v9_2 H0 fun v10_3 _ =>
  vLen v10_3 fun v11_4 =>
  vBin .gtr .num v11_4 (.int .i64 500) fun v12_5 =>
  vSel v12_5
  (k8_4 P p Q H0 w0 x1 c)
  (k8_26 P p Q H0 w0 x1 c)) (upd [((c :: p), some (.rows w0.length [w0]))] H)
theorem vt8 (P : Program) (p : Lab) (Q : VPost) (x0 x1 : AV) (H : Heap) (c : Nat) : vc P p c8.body Q [(0, x0), (1, x1)] H c = V8 P p Q x0 x1 H c := by kernel_rfl
def k8_28 (P : Program) (p : Lab) (Q : VPost) (y1 : AV) (y2 : AV) (y5 : AV) (y6 : AV) (y7 : AV) (H : Heap) (c : Nat) : Prop :=
  vCall true P 11 [] H (c :: p) (fun v70_80 H80 l80 f80 =>
  Q .ret [(4, v70_80)] H80 (c + 2))
def k8_29 (P : Program) (p : Lab) (Q : VPost) (y1 : AV) (y2 : AV) (y5 : AV) (y6 : AV) (y7 : AV) (H : Heap) (c : Nat) (_ : Unit) : Prop :=
  (k8_28 P p Q y1 y2 y5 y6 y7 H (c + 12))
def k8_31 (P : Program) (p : Lab) (Q : VPost) (y4 : AV) (H : Heap) (c : Nat) : Prop :=
  Q .ret [(4, y4)] H c
def k8_32 (P : Program) (p : Lab) (Q : VPost) (c : Nat) (v70_88 : AV) (H88 : Heap) (l88 : List Lab) (f88 : Option (List Lab)) : Prop :=
  (k8_31 P p Q v70_88 H88 (c + 2))
def k8_33 (P : Program) (p : Lab) (Q : VPost) (H : Heap) (c : Nat) (_ : Unit) : Prop :=
  vCall true P 11 [] H (c :: p) (k8_32 P p Q c)
def k8_35 (P : Program) (p : Lab) (Q : VPost) (y1 : AV) (y2 : AV) (y5 : AV) (y7 : AV) (c : Nat) (v87_107 : AV) (H107 : Heap) (l107 : List Lab) (f107 : Option (List Lab)) : Prop :=
  vBin .add .num y7 (.int .i64 1) fun v57_110 =>
  Q .normal [(1, y1), (2, y2), (5, y5), (6, v87_107), (7, v57_110)] H107 (c + 22)
def k8_36 (P : Program) (p : Lab) (Q : VPost) (l96 : List Lab) (f96 : Option (List Lab)) (f94 : Option (List Lab)) (f90 : Option (List Lab)) (y1 : AV) (y2 : AV) (y5 : AV) (y6 : AV) (y7 : AV) (c : Nat) (v_100 : AV) (H100 : Heap) (l100 : List Lab) (f100 : Option (List Lab)) : Prop :=
  clashFree [0, 0, 0, 6, 14, 30, 63, 127, 255, 255, 511] (addTr 0 [] (c :: p) f90 (addTr 4 [] ((c + 4) :: p) f94 (addTr 6 l96 ((c + 6) :: p) f96 (addTr 10 l100 ((c + 10) :: p) f100 [])))) ∧
  vIx 1 y1 y7 fun v84_104 =>
  vLoad 1 false v84_104 H100 fun v85_105 _ =>
  vBuildS 1 [(.int .i64 0)] [(0, 1)] [v85_105] fun w106 n106 =>
  (fun (H106 : Heap) =>
  vGen (.append 1 8) [y6, (.sl ((c + 16) :: p) 1 0 n106)] H106 ((c + 17) :: p) (k8_35 P p Q y1 y2 y5 y7 c)) (upd [(((c + 16) :: p), some (.rows 1 w106))] H100)
def k8_37 (P : Program) (p : Lab) (Q : VPost) (f94 : Option (List Lab)) (f90 : Option (List Lab)) (y1 : AV) (y2 : AV) (y5 : AV) (y6 : AV) (y7 : AV) (c : Nat) (v78_96 : AV) (H96 : Heap) (l96 : List Lab) (f96 : Option (List Lab)) : Prop :=
  vExt 0 v78_96 fun v79_98 =>
  vExt 1 v78_96 fun v80_99 =>
  vGen (.store 3) [y5, v79_98] H96 ((c + 10) :: p) (k8_36 P p Q l96 f96 f94 f90 y1 y2 y5 y6 y7 c)
def k8_34 (P : Program) (p : Lab) (Q : VPost) (y1 : AV) (y2 : AV) (y5 : AV) (y6 : AV) (y7 : AV) (y69 : AV) (H : Heap) (c : Nat) : Prop :=
  vLoad 3 true y5 H fun v72_90 f90 =>
  vIx 1 y1 y7 fun v75_93 =>
  vLoad 1 false v75_93 H fun v76_94 f94 =>
  vBuild [(.int .i64 0), (.int .i64 0)] [(0, 1), (1, 1)] [(.int .i64 1), v76_94] fun v77_95 =>
  vCall false P 12 [v72_90, v77_95] H ((c + 6) :: p) (k8_37 P p Q f94 f90 y1 y2 y5 y6 y7 c)
def k8_38 (P : Program) (p : Lab) (Q : VPost) (y1 : AV) (y2 : AV) (y5 : AV) (y6 : AV) (y7 : AV) (y69 : AV) (H : Heap) (c : Nat) (_ : Unit) : Prop :=
  (k8_34 P p Q y1 y2 y5 y6 y7 y69 H c)
def k8_30 (P : Program) (p : Lab) (Q : VPost) (y1 : AV) (y2 : AV) (y5 : AV) (y6 : AV) (y7 : AV) (y69 : AV) (H : Heap) (c : Nat) : Prop :=
  vSel y69
  (k8_33 P p Q H c)
  (k8_38 P p Q y1 y2 y5 y6 y7 y69 H c)
def k8_39 (P : Program) (p : Lab) (Q : VPost) (y1 : AV) (y2 : AV) (y5 : AV) (y6 : AV) (y7 : AV) (H : Heap) (c : Nat) (_ : Unit) : Prop :=
  vIx 1 y1 y7 fun v66_84 =>
  vLoad 1 false v66_84 H fun v67_85 _ =>
  vBin .gtr .num v67_85 (.int .i64 126) fun v68_86 =>
  (k8_30 P p Q y1 y2 y5 y6 y7 v68_86 H (c + 12))
def k8_27 (P : Program) (p : Lab) (Q : VPost) (y1 : AV) (y2 : AV) (y5 : AV) (y6 : AV) (y7 : AV) (y55 : AV) (H : Heap) (c : Nat) : Prop :=
  vIx 1 y1 y7 fun v60_75 =>
  vLoad 1 false v60_75 H fun v61_76 _ =>
  vBin .lss .num v61_76 (.int .i64 32) fun v62_77 =>
  vSel v62_77
  (k8_29 P p Q y1 y2 y5 y6 y7 H c)
  (k8_39 P p Q y1 y2 y5 y6 y7 H c)
def k8_40 (P : Program) (p : Lab) (Q : VPost) (v55_72 : AV) (x1 : AV) (x2 : AV) (x5 : AV) (x6 : AV) (x7 : AV) (H : Heap) (c : Nat) (_ : Unit) : Prop :=
  (k8_27 P p Q x1 x2 x5 x6 x7 v55_72 H (c + 4))
def V8_1 (P : Program) (p : Lab) (Q : VPost) (x1 x2 x5 x6 x7 : AV) (H : Heap) (c : Nat) : Prop :=
  vLen x1 fun v54_71 =>
  vBin .lss .num x7 v54_71 fun v55_72 =>
  vSel v55_72
  (k8_40 P p Q v55_72 x1 x2 x5 x6 x7 H c)
  (fun _ =>
  Q (.exit 0) [(1, x1), (2, x2), (5, x5), (6, x6), (7, x7), (55, v55_72)] H (c + 4))
theorem vt8_1 (P : Program) (p : Lab) (Q : VPost) (x1 x2 x5 x6 x7 : AV) (H : Heap) (c : Nat) : vc P p b8_1 Q [(1, x1), (2, x2), (5, x5), (6, x6), (7, x7)] H c = V8_1 P p Q x1 x2 x5 x6 x7 H c := by kernel_rfl
theorem q8_0_e0 (P : Program) (p : Lab) (Q : VPost) (r : RL) (H : Heap) (c : Nat) : q8_0 P p Q (.exit 0) r H c = (vc P p r8_2 Q r H c) := rfl
def k8_41 (P : Program) (p : Lab) (Q : VPost) (y1 : AV) (y2 : AV) (y5 : AV) (H : Heap) (c : Nat) : Prop :=
  Q .ret [(4, (.bool false))] H (c + 1)
def k8_42 (P : Program) (p : Lab) (Q : VPost) (H123 : Heap) (x1 : AV) (x2 : AV) (x5 : AV) (c : Nat) (_ : Unit) : Prop :=
  (k8_41 P p Q x1 x2 x5 H123 (c + 23))
def k8_44 (P : Program) (p : Lab) (Q : VPost)  (H : Heap) (c : Nat) : Prop :=
  Q .ret [(4, (.bool false))] H c
def k8_45 (P : Program) (p : Lab) (Q : VPost) (H : Heap) (c : Nat) (_ : Unit) : Prop :=
  (k8_44 P p Q  H (c + 1))
def q8_1 (P : Program) (p : Lab) (Q : VPost) : VPost := (vblockQ 2 (vseqQ (vc P p r8_4 Q) Q))
theorem q8_1_ret (P : Program) (p : Lab) (Q : VPost) (r : RL) (H : Heap) (c : Nat) : q8_1 P p Q .ret r H c = Q .ret r H c := rfl
def k8_46 (P : Program) (p : Lab) (Q : VPost) (y1 : AV) (y2 : AV) (y5 : AV) (y109 : AV) (H : Heap) (c : Nat) : Prop :=
  vc P p l8_3 (q8_1 P p Q) [(1, y1), (2, y2), (5, y5), (8, (.int .i64 0))] H (c + 1)
def k8_47 (P : Program) (p : Lab) (Q : VPost) (y1 : AV) (y2 : AV) (y5 : AV) (y109 : AV) (H : Heap) (c : Nat) (_ : Unit) : Prop :=
  (k8_46 P p Q y1 y2 y5 y109 H c)
def k8_43 (P : Program) (p : Lab) (Q : VPost) (y1 : AV) (y2 : AV) (y5 : AV) (y109 : AV) (H : Heap) (c : Nat) : Prop :=
  vSel y109
  (k8_45 P p Q H c)
  (k8_47 P p Q y1 y2 y5 y109 H c)
def k8_48 (P : Program) (p : Lab) (Q : VPost) (H123 : Heap) (x1 : AV) (x2 : AV) (x5 : AV) (c : Nat) (_ : Unit) : Prop :=
  vFA 1 x5 fun v101_128 =>
  vLoad 1 false v101_128 H123 fun v102_129 _ =>
  vFA 1 x2 fun v103_130 =>
  vLoad 1 false v103_130 H123 fun v104_131 _ =>
  vLen x1 fun v106_133 =>
  vBin .add .num v104_131 v106_133 fun v107_134 =>
  vBin .neq .num v102_129 v107_134 fun v108_135 =>
  (k8_43 P p Q x1 x2 x5 v108_135 H123 (c + 23))
def k8_49 (P : Program) (p : Lab) (Q : VPost) (x1 : AV) (x2 : AV) (x5 : AV) (c : Nat) (v98_123 : AV) (H123 : Heap) (l123 : List Lab) (f123 : Option (List Lab)) : Prop :=
  vNot v98_123 fun v99_124 =>
  vSel v99_124
  (k8_42 P p Q H123 x1 x2 x5 c)
  (k8_48 P p Q H123 x1 x2 x5 c)
def k8_50 (P : Program) (p : Lab) (Q : VPost) (x1 : AV) (x2 : AV) (x5 : AV) (c : Nat) (v94_118 : AV) (H118 : Heap) (l118 : List Lab) (f118 : Option (List Lab)) : Prop :=
  vFA 0 x5 fun v95_120 =>
  vLoad 1 false v95_120 H118 fun v96_121 _ =>
  vCall true P 21 [v96_121, v94_118] H118 ((c + 11) :: p) (k8_49 P p Q x1 x2 x5 c)
def k8_51 (P : Program) (p : Lab) (Q : VPost) (x1 : AV) (x2 : AV) (x5 : AV) (x6 : AV) (c : Nat) (v93_117 : AV) (H117 : Heap) (l117 : List Lab) (f117 : Option (List Lab)) : Prop :=
  vGen (.append 1 8) [x6, v93_117] H117 ((c + 6) :: p) (k8_50 P p Q x1 x2 x5 c)
def V8_2 (P : Program) (p : Lab) (Q : VPost) (x1 x2 x5 x6 x7 x55 : AV) (H : Heap) (c : Nat) : Prop :=
  vFA 0 x2 fun v89_113 =>
  vLoad 1 false v89_113 H fun v90_114 _ =>
  vFA 1 x2 fun v91_115 =>
  vLoad 1 false v91_115 H fun v92_116 _ =>
  vGen (.slice 1 true false false) [v90_114, v92_116] H ((c + 5) :: p) (k8_51 P p Q x1 x2 x5 x6 c)
theorem vt8_2 (P : Program) (p : Lab) (Q : VPost) (x1 x2 x5 x6 x7 x55 : AV) (H : Heap) (c : Nat) : vc P p r8_2 Q [(1, x1), (2, x2), (5, x5), (6, x6), (7, x7), (55, x55)] H c = V8_2 P p Q x1 x2 x5 x6 x7 x55 H c := by kernel_rfl
def k8_53 (P : Program) (p : Lab) (Q : VPost) (y1 : AV) (y2 : AV) (y5 : AV) (y8 : AV) (c : Nat) (v119_145 : AV) (H145 : Heap) (l145 : List Lab) (f145 : Option (List Lab)) : Prop :=
  vExt 0 v119_145 fun v120_147 =>
  vExt 1 v119_145 fun v121_148 =>
  vGen (.store 3) [y5, v120_147] H145 ((c + 6) :: p) (fun v_149 H149 l149 f149 =>
  vBin .add .num y8 (.int .i64 1) fun v115_151 =>
  Q .normal [(1, y1), (2, y2), (5, y5), (8, v115_151)] H149 (c + 10))
def k8_52 (P : Program) (p : Lab) (Q : VPost) (y1 : AV) (y2 : AV) (y5 : AV) (y8 : AV) (y113 : AV) (H : Heap) (c : Nat) : Prop :=
  vLoad 3 true y5 H fun v117_143 _ =>
  vBuild [(.int .i64 0), (.int .i64 0)] [(0, 1), (1, 1)] [(.int .i64 2), (.int .i64 104)] fun v118_144 =>
  vCall true P 12 [v117_143, v118_144] H ((c + 2) :: p) (k8_53 P p Q y1 y2 y5 y8 c)
def k8_54 (P : Program) (p : Lab) (Q : VPost) (v113_142 : AV) (x1 : AV) (x2 : AV) (x5 : AV) (x8 : AV) (H : Heap) (c : Nat) (_ : Unit) : Prop :=
  (k8_52 P p Q x1 x2 x5 x8 v113_142 H (c + 4))
def V8_3 (P : Program) (p : Lab) (Q : VPost) (x1 x2 x5 x8 : AV) (H : Heap) (c : Nat) : Prop :=
  vLen x1 fun v112_141 =>
  vBin .lss .num x8 v112_141 fun v113_142 =>
  vSel v113_142
  (k8_54 P p Q v113_142 x1 x2 x5 x8 H c)
  (fun _ =>
  Q (.exit 2) [(1, x1), (2, x2), (5, x5), (8, x8), (113, v113_142)] H (c + 4))
theorem vt8_3 (P : Program) (p : Lab) (Q : VPost) (x1 x2 x5 x8 : AV) (H : Heap) (c : Nat) : vc P p b8_3 Q [(1, x1), (2, x2), (5, x5), (8, x8)] H c = V8_3 P p Q x1 x2 x5 x8 H c := by kernel_rfl
theorem q8_1_e2 (P : Program) (p : Lab) (Q : VPost) (r : RL) (H : Heap) (c : Nat) : q8_1 P p Q (.exit 2) r H c = (vc P p r8_4 Q r H c) := rfl
def k8_57 (P : Program) (p : Lab) (Q : VPost) (y4 : AV) (H : Heap) (c : Nat) : Prop :=
  Q .ret [(4, y4)] H c
def k8_58 (P : Program) (p : Lab) (Q : VPost) (c : Nat) (v142_173 : AV) (H173 : Heap) (l173 : List Lab) (f173 : Option (List Lab)) : Prop :=
  (k8_57 P p Q v142_173 H173 (c + 5))
def k8_59 (P : Program) (p : Lab) (Q : VPost) (H : Heap) (c : Nat) (_ : Unit) : Prop :=
  vCall false P 11 [] H ((c + 2) :: p) (k8_58 P p Q c)
def k8_60 (P : Program) (p : Lab) (Q : VPost)  (H : Heap) (c : Nat) : Prop :=
  Q .ret [(4, (.bool false))] H c
def k8_61 (P : Program) (p : Lab) (Q : VPost) (H : Heap) (c : Nat) (_ : Unit) : Prop :=
  (k8_60 P p Q  H (c + 5))
def k8_56 (P : Program) (p : Lab) (Q : VPost) (y139 : AV) (H : Heap) (c : Nat) : Prop :=
  vSel y139
  (k8_59 P p Q H c)
  (k8_61 P p Q H c)
def k8_62 (P : Program) (p : Lab) (Q : VPost) (c : Nat) (v139_170 : AV) (H170 : Heap) (l170 : List Lab) (f170 : Option (List Lab)) : Prop :=
  (k8_56 P p Q v139_170 H170 (c + 7))
def k8_63 (P : Program) (p : Lab) (Q : VPost) (y2 : AV) (y5 : AV) (H : Heap) (c : Nat) (_ : Unit) : Prop :=
  vFA 2 y5 fun v135_166 =>
  vLoad 1 false v135_166 H fun v136_167 _ =>
  vFA 2 y2 fun v137_168 =>
  vLoad 1 false v137_168 H fun v138_169 _ =>
  vCall false P 21 [v136_167, v138_169] H ((c + 6) :: p) (k8_62 P p Q c)
def k8_64 (P : Program) (p : Lab) (Q : VPost)  (H : Heap) (c : Nat) : Prop :=
  (k8_60 P p Q  H (c + 5))
def k8_65 (P : Program) (p : Lab) (Q : VPost) (H : Heap) (c : Nat) (_ : Unit) : Prop :=
  (k8_64 P p Q  H (c + 7))
def k8_55 (P : Program) (p : Lab) (Q : VPost) (y2 : AV) (y5 : AV) (y132 : AV) (H : Heap) (c : Nat) : Prop :=
  vSel y132
  (k8_63 P p Q y2 y5 H c)
  (k8_65 P p Q H c)
def k8_66 (P : Program) (p : Lab) (Q : VPost) (H157 : Heap) (x2 : AV) (x5 : AV) (c : Nat) (_ : Unit) : Prop :=
  vFA 1 x5 fun v128_159 =>
  vLoad 1 false v128_159 H157 fun v129_160 _ =>
  vFA 1 x2 fun v130_161 =>
  vLoad 1 false v130_161 H157 fun v131_162 _ =>
  vBin .eql .num v129_160 v131_162 fun v132_163 =>
  (k8_55 P p Q x2 x5 v132_163 H157 (c + 11))
def k8_68 (P : Program) (p : Lab) (Q : VPost)  (H : Heap) (c : Nat) : Prop :=
  (k8_60 P p Q  H (c + 5))
def k8_67 (P : Program) (p : Lab) (Q : VPost) (y2 : AV) (y5 : AV) (H : Heap) (c : Nat) : Prop :=
  (k8_68 P p Q  H (c + 7))
def k8_69 (P : Program) (p : Lab) (Q : VPost) (H157 : Heap) (x2 : AV) (x5 : AV) (c : Nat) (_ : Unit) : Prop :=
  (k8_67 P p Q x2 x5 H157 (c + 11))
def k8_70 (P : Program) (p : Lab) (Q : VPost) (x2 : AV) (x5 : AV) (c : Nat) (v126_157 : AV) (H157 : Heap) (l157 : List Lab) (f157 : Option (List Lab)) : Prop :=
  vSel v126_157
  (k8_66 P p Q H157 x2 x5 c)
  (k8_69 P p Q H157 x2 x5 c)
def V8_4 (P : Program) (p : Lab) (Q : VPost) (x1 x2 x5 x8 x113 : AV) (H : Heap) (c : Nat) : Prop :=
  vFA 0 x5 fun v122_153 =>
  vLoad 1 false v122_153 H fun v123_154 _ =>
  vFA 0 x2 fun v124_155 =>
  vLoad 1 false v124_155 H fun v125_156 _ =>
  vCall true P 21 [v123_154, v125_156] H ((c + 4) :: p) (k8_70 P p Q x2 x5 c)
theorem vt8_4 (P : Program) (p : Lab) (Q : VPost) (x1 x2 x5 x8 x113 : AV) (H : Heap) (c : Nat) : vc P p r8_4 Q [(1, x1), (2, x2), (5, x5), (8, x8), (113, x113)] H c = V8_4 P p Q x1 x2 x5 x8 x113 H c := by kernel_rfl



end Go.Proofs.Ytbngfbpegdcpkaa
