/- What is owed of functions of the program, as formulas. -/
import Derived.Test.YtbngfbpegdcpkaaA26
import Derived.Test.YtbngfbpegdcpkaaProg
import Derived.KernelRfl
namespace Go.Proofs.Ytbngfbpegdcpkaa
set_option maxRecDepth 100000
set_option linter.unusedVariables false
set_option linter.unusedSimpArgs false
/-- duet/duetlaw18.EditMoves -/
def c7 : AFun := ⟨2, 131, [.tmp 4],
  (.seq (.region [⟨(some 2), none, .box, [.t 0]⟩, ⟨(some 4), none, .move, [.c (.bool false)]⟩] none [1, 2])
  (.seq (.seq (.region [⟨(some 12), none, (.load 3 true), [.t 2]⟩, ⟨(some 13), none, .call, [.c (.fn (.func 10) [] []), .t 12]⟩, ⟨(some 14), none, (.un .not), [.t 13]⟩, ⟨(some 15), none, .move, [.t 14]⟩, ⟨(some 16), (some (15, false)), .move, [.t 1]⟩, ⟨(some 17), (some (15, false)), (.bin .lss .num), [.t 16, .c (.int .i64 0)]⟩, ⟨(some 18), none, .pick, [.t 15, .c (.bool true), .t 17]⟩, ⟨(some 19), none, .move, [.t 18]⟩, ⟨(some 20), (some (19, false)), .move, [.t 1]⟩, ⟨(some 21), (some (19, false)), (.bin .gtr .num), [.t 20, .c (.int .i64 5)]⟩, ⟨(some 22), none, .pick, [.t 19, .c (.bool true), .t 21]⟩] none [1, 2, 22])
  (.cond (.t 22) (.seq (.region [⟨(some 23), none, .call, [.c (.fn (.func 11) [] [])]⟩, ⟨(some 4), none, .move, [.t 23]⟩] none [4])
  .ret)
  .skip))
  (.seq (.region [⟨(some 24), none, (.build [(.int .i64 0), (.int .i64 0)] [(0, 1)]), [.c (.int .i64 7)]⟩, ⟨(some 25), none, (.build [(.int .i64 0), (.int .i64 0)] [(0, 1)]), [.c (.int .i64 6)]⟩, ⟨(some 26), none, (.build [(.int .i64 0), (.int .i64 0)] [(0, 1)]), [.c (.int .i64 8)]⟩, ⟨(some 27), none, (.build [(.int .i64 0), (.int .i64 0)] [(0, 1)]), [.c (.int .i64 9)]⟩, ⟨(some 28), none, (.build [(.int .i64 0), (.int .i64 0)] [(0, 1), (1, 1)]), [.c (.int .i64 3), .c (.int .i64 98)]⟩, ⟨(some 29), none, (.build [(.int .i64 0), (.int .i64 0)] [(0, 1), (1, 1)]), [.c (.int .i64 3), .c (.int .i64 102)]⟩, ⟨(some 30), none, (.buildSlice 2 [(.int .i64 0), (.int .i64 0), (.int .i64 0), (.int .i64 0), (.int .i64 0), (.int .i64 0), (.int .i64 0), (.int .i64 0), (.int .i64 0), (.int .i64 0), (.int .i64 0), (.int .i64 0)] [(0, 2), (2, 2), (4, 2), (6, 2), (8, 2), (10, 2)]), [.t 24, .t 25, .t 26, .t 27, .t 28, .t 29]⟩, ⟨(some 5), none, .move, [.t 30]⟩] none [1, 2, 5])
  (.seq (.region [⟨(some 32), none, (.fieldAddr 0), [.t 2]⟩, ⟨(some 33), none, (.load 1 false), [.t 32]⟩, ⟨(some 34), none, (.fieldAddr 1), [.t 2]⟩, ⟨(some 35), none, (.load 1 false), [.t 34]⟩, ⟨(some 36), none, (.fieldAddr 2), [.t 2]⟩, ⟨(some 37), none, (.load 1 false), [.t 36]⟩, ⟨(some 38), none, (.build [.nils, (.int .i64 0), .nils] [(0, 1), (1, 1), (2, 1)]), [.t 33, .t 35, .t 37]⟩, ⟨(some 39), none, .move, [.t 5]⟩, ⟨(some 40), none, .move, [.t 1]⟩, ⟨(some 41), none, (.indexAddr 2), [.t 39, .t 40]⟩, ⟨(some 42), none, (.load 2 true), [.t 41]⟩, ⟨(some 43), none, .call, [.c (.fn (.func 12) [] []), .t 38, .t 42]⟩, ⟨(some 31), none, .move, [.t 43]⟩, ⟨(some 44), none, (.extract 0), [.t 31]⟩, ⟨(some 45), none, (.extract 1), [.t 31]⟩, ⟨(some 6), none, (.alloc [.nils, (.int .i64 0), .nils]), []⟩, ⟨none, none, (.store 3), [.t 6, .t 44]⟩, ⟨(some 7), none, .move, [.t 45]⟩] (some [0, 1, 0, 4, 0, 16, 63, 0, 0, 384, 896, 2047, 4095, 8191, 8191, 0, 49151, 131071]) [1, 2, 5, 6, 7])
  (.seq (.seq (.region [⟨(some 46), none, .move, [.t 7]⟩, ⟨(some 47), none, (.len .slice), [.t 46]⟩, ⟨(some 48), none, (.bin .neq .num), [.t 47, .c (.int .i64 0)]⟩, ⟨(some 49), none, .move, [.t 48]⟩, ⟨(some 50), (some (49, false)), (.fieldAddr 0), [.t 6]⟩, ⟨(some 51), (some (49, false)), (.load 1 false), [.t 50]⟩, ⟨(some 52), (some (49, false)), (.fieldAddr 0), [.t 2]⟩, ⟨(some 53), (some (49, false)), (.load 1 false), [.t 52]⟩, ⟨(some 54), (some (49, false)), .call, [.c (.fn (.func 21) [] []), .t 51, .t 53]⟩, ⟨(some 55), (some (49, false)), (.un .not), [.t 54]⟩, ⟨(some 56), none, .pick, [.t 49, .c (.bool true), .t 55]⟩, ⟨(some 57), none, .move, [.t 56]⟩, ⟨(some 58), (some (57, false)), (.fieldAddr 2), [.t 6]⟩, ⟨(some 59), (some (57, false)), (.load 1 false), [.t 58]⟩, ⟨(some 60), (some (57, false)), (.fieldAddr 2), [.t 2]⟩, ⟨(some 61), (some (57, false)), (.load 1 false), [.t 60]⟩, ⟨(some 62), (some (57, false)), .call, [.c (.fn (.func 21) [] []), .t 59, .t 61]⟩, ⟨(some 63), (some (57, false)), (.un .not), [.t 62]⟩, ⟨(some 64), none, .pick, [.t 57, .c (.bool true), .t 63]⟩] none [1, 2, 5, 6, 64])
  (.cond (.t 64) (.seq (.region [⟨(some 4), none, .move, [.c (.bool false)]⟩] none [4])
  .ret)
  .skip))
  (.seq (.seq (.region [⟨(some 65), none, .move, [.t 1]⟩, ⟨(some 66), none, (.bin .eql .num), [.t 65, .c (.int .i64 2)]⟩, ⟨(some 67), none, .move, [.t 66]⟩, ⟨(some 68), (some (67, false)), .move, [.t 1]⟩, ⟨(some 69), (some (67, false)), (.bin .eql .num), [.t 68, .c (.int .i64 3)]⟩, ⟨(some 70), none, .pick, [.t 67, .c (.bool true), .t 69]⟩] none [1, 2, 5, 6, 70])
  (.cond (.t 70) (.seq (.region [⟨(some 71), none, (.fieldAddr 1), [.t 6]⟩, ⟨(some 72), none, (.load 1 false), [.t 71]⟩, ⟨(some 73), none, .move, [.t 1]⟩, ⟨(some 74), none, (.bin .sub .num), [.t 73, .c (.int .i64 2)]⟩, ⟨(some 75), none, (.fieldAddr 0), [.t 2]⟩, ⟨(some 76), none, (.load 1 false), [.t 75]⟩, ⟨(some 77), none, (.len .slice), [.t 76]⟩, ⟨(some 78), none, (.bin .mul .num), [.t 74, .t 77]⟩, ⟨(some 79), none, (.bin .eql .num), [.t 72, .t 78]⟩, ⟨(some 80), none, .move, [.t 79]⟩, ⟨(some 81), (some (80, true)), .call, [.c (.fn (.func 11) [] [])]⟩, ⟨(some 82), none, .pick, [.t 80, .t 81, .c (.bool false)]⟩, ⟨(some 4), none, .move, [.t 82]⟩] none [4])
  .ret)
  .skip))
  (.seq (.seq (.region [⟨(some 83), none, (.fieldAddr 1), [.t 2]⟩, ⟨(some 84), none, (.load 1 false), [.t 83]⟩, ⟨(some 85), none, (.bin .lss .num), [.t 84, .c (.int .i64 1)]⟩, ⟨(some 86), none, .move, [.t 85]⟩, ⟨(some 87), (some (86, false)), (.fieldAddr 1), [.t 2]⟩, ⟨(some 88), (some (86, false)), (.load 1 false), [.t 87]⟩, ⟨(some 89), (some (86, false)), (.fieldAddr 0), [.t 2]⟩, ⟨(some 90), (some (86, false)), (.load 1 false), [.t 89]⟩, ⟨(some 91), (some (86, false)), (.len .slice), [.t 90]⟩, ⟨(some 92), (some (86, false)), (.bin .gtr .num), [.t 88, .t 91]⟩, ⟨(some 93), none, .pick, [.t 86, .c (.bool true), .t 92]⟩] none [2, 5, 93])
  (.cond (.t 93) (.seq (.region [⟨(some 94), none, .call, [.c (.fn (.func 11) [] [])]⟩, ⟨(some 4), none, .move, [.t 94]⟩] none [4])
  .ret)
  .skip))
  (.seq (.region [⟨(some 96), none, (.fieldAddr 0), [.t 2]⟩, ⟨(some 97), none, (.load 1 false), [.t 96]⟩, ⟨(some 98), none, (.fieldAddr 1), [.t 2]⟩, ⟨(some 99), none, (.load 1 false), [.t 98]⟩, ⟨(some 100), none, (.build [.nils, (.int .i64 0), .nils] [(0, 1), (1, 1)]), [.t 97, .t 99]⟩, ⟨(some 101), none, .move, [.t 5]⟩, ⟨(some 102), none, (.indexAddr 2), [.t 101, .c (.int .i64 0)]⟩, ⟨(some 103), none, (.load 2 true), [.t 102]⟩, ⟨(some 104), none, .call, [.c (.fn (.func 12) [] []), .t 100, .t 103]⟩, ⟨(some 95), none, .move, [.t 104]⟩, ⟨(some 105), none, (.extract 0), [.t 95]⟩, ⟨(some 106), none, (.extract 1), [.t 95]⟩, ⟨(some 8), none, (.alloc [.nils, (.int .i64 0), .nils]), []⟩, ⟨none, none, (.store 3), [.t 8, .t 105]⟩, ⟨(some 9), none, .move, [.t 106]⟩] (some [0, 1, 0, 4, 15, 0, 32, 96, 255, 511, 1023, 1023, 0, 6143, 16383]) [2, 5, 8])
  (.seq (.region [⟨(some 108), none, (.load 3 true), [.t 8]⟩, ⟨(some 109), none, .move, [.t 5]⟩, ⟨(some 110), none, (.indexAddr 2), [.t 109, .c (.int .i64 1)]⟩, ⟨(some 111), none, (.load 2 true), [.t 110]⟩, ⟨(some 112), none, .call, [.c (.fn (.func 12) [] []), .t 108, .t 111]⟩, ⟨(some 107), none, .move, [.t 112]⟩, ⟨(some 113), none, (.extract 0), [.t 107]⟩, ⟨(some 114), none, (.extract 1), [.t 107]⟩, ⟨(some 10), none, (.alloc [.nils, (.int .i64 0), .nils]), []⟩, ⟨none, none, (.store 3), [.t 10, .t 113]⟩, ⟨(some 11), none, .move, [.t 114]⟩] (some [0, 0, 2, 6, 15, 31, 63, 63, 0, 383, 1023]) [2, 8, 10])
  (.seq (.region [⟨(some 115), none, (.fieldAddr 1), [.t 8]⟩, ⟨(some 116), none, (.load 1 false), [.t 115]⟩, ⟨(some 117), none, (.fieldAddr 1), [.t 2]⟩, ⟨(some 118), none, (.load 1 false), [.t 117]⟩, ⟨(some 119), none, (.bin .sub .num), [.t 118, .c (.int .i64 1)]⟩, ⟨(some 120), none, (.bin .eql .num), [.t 116, .t 119]⟩, ⟨(some 121), none, .move, [.t 120]⟩, ⟨(some 122), (some (121, true)), (.fieldAddr 1), [.t 10]⟩, ⟨(some 123), (some (121, true)), (.load 1 false), [.t 122]⟩, ⟨(some 124), (some (121, true)), (.fieldAddr 1), [.t 2]⟩, ⟨(some 125), (some (121, true)), (.load 1 false), [.t 124]⟩, ⟨(some 126), (some (121, true)), (.bin .eql .num), [.t 123, .t 125]⟩, ⟨(some 127), none, .pick, [.t 121, .t 126, .c (.bool false)]⟩, ⟨(some 128), none, .move, [.t 127]⟩, ⟨(some 129), (some (128, true)), .call, [.c (.fn (.func 11) [] [])]⟩, ⟨(some 130), none, .pick, [.t 128, .t 129, .c (.bool false)]⟩, ⟨(some 4), none, .move, [.t 130]⟩] none [4])
  .ret))))))))))⟩
theorem ok7 : FunOk Try.prog 7 c7 := ⟨⟨Try.f7, _, Try.func7, rfl, by kernel_rfl, by kernel_rfl, by kernel_rfl, by kernel_rfl⟩, by decide⟩
theorem res7 : c7.res = [.tmp 4] := rfl
def k7_1 (P : Program) (p : Lab) (Q : VPost) (y1 : AV) (y2 : AV) (H : Heap) (c : Nat) : Prop :=
  vCall true P 11 [] H (c :: p) (fun v23_9 H9 l9 f9 =>
  Q .ret [(4, v23_9)] H9 (c + 2))
def k7_0 (P : Program) (p : Lab) (Q : VPost) (y1 : AV) (y2 : AV) (H : Heap) (c : Nat) : Prop :=
  (k7_1 P p Q y1 y2 H (c + 5))
def k7_2 (P : Program) (p : Lab) (Q : VPost) (H3 : Heap) (w0 : List AV) (x1 : AV) (c : Nat) (_ : Unit) : Prop :=
  (k7_0 P p Q x1 (.ptr (c :: p) w0.length 0 0) H3 (c + 8))
def k7_4 (P : Program) (p : Lab) (Q : VPost) (y1 : AV) (y2 : AV) (H : Heap) (c : Nat) (_ : Unit) : Prop :=
  (k7_1 P p Q y1 y2 H (c + 5))
def k7_6 (P : Program) (p : Lab) (Q : VPost) (y4 : AV) (H : Heap) (c : Nat) : Prop :=
  Q .ret [(4, y4)] H c
def k7_7 (P : Program) (p : Lab) (Q : VPost) (c : Nat) (v23_19 : AV) (H19 : Heap) (l19 : List Lab) (f19 : Option (List Lab)) : Prop :=
  (k7_6 P p Q v23_19 H19 (c + 2))
def k7_8 (P : Program) (p : Lab) (Q : VPost) (H : Heap) (c : Nat) (_ : Unit) : Prop :=
  vCall true P 11 [] H (c :: p) (k7_7 P p Q c)
def k7_11 (P : Program) (p : Lab) (Q : VPost) (y1 : AV) (y2 : AV) (y5 : AV) (y6 : AV) (H : Heap) (c : Nat) : Prop :=
  Q .ret [(4, (.bool false))] H (c + 1)
def k7_10 (P : Program) (p : Lab) (Q : VPost) (y1 : AV) (y2 : AV) (y5 : AV) (y6 : AV) (H : Heap) (c : Nat) : Prop :=
  (k7_11 P p Q y1 y2 y5 y6 H (c + 9))
def k7_12 (P : Program) (p : Lab) (Q : VPost) (H45 : Heap) (n27 : Nat) (y1 : AV) (y2 : AV) (c : Nat) (_ : Unit) : Prop :=
  (k7_10 P p Q y1 y2 (.sl ((c + 6) :: p) 2 0 n27) (.ptr ((c + 23) :: p) 3 0 0) H45 (c + 36))
def k7_14 (P : Program) (p : Lab) (Q : VPost) (y1 : AV) (y2 : AV) (y5 : AV) (y6 : AV) (H : Heap) (c : Nat) (_ : Unit) : Prop :=
  (k7_11 P p Q y1 y2 y5 y6 H (c + 9))
def k7_16 (P : Program) (p : Lab) (Q : VPost)  (H : Heap) (c : Nat) : Prop :=
  Q .ret [(4, (.bool false))] H c
def k7_17 (P : Program) (p : Lab) (Q : VPost) (H : Heap) (c : Nat) (_ : Unit) : Prop :=
  (k7_16 P p Q  H (c + 1))
def k7_20 (P : Program) (p : Lab) (Q : VPost) (c : Nat) (v81_86 : AV) (H86 : Heap) (l86 : List Lab) (f86 : Option (List Lab)) : Prop :=
  (k7_6 P p Q v81_86 H86 (c + 13))
def k7_21 (P : Program) (p : Lab) (Q : VPost) (H : Heap) (c : Nat) (_ : Unit) : Prop :=
  vCall false P 11 [] H ((c + 10) :: p) (k7_20 P p Q c)
def k7_22 (P : Program) (p : Lab) (Q : VPost) (H : Heap) (c : Nat) (_ : Unit) : Prop :=
  (k7_16 P p Q  H (c + 13))
def k7_19 (P : Program) (p : Lab) (Q : VPost) (y1 : AV) (y2 : AV) (y5 : AV) (y6 : AV) (H : Heap) (c : Nat) : Prop :=
  vFA 1 y6 fun v71_76 =>
  vLoad 1 false v71_76 H fun v72_77 _ =>
  vBin .sub .num y1 (.int .i64 2) fun v74_79 =>
  vFA 0 y2 fun v75_80 =>
  vLoad 1 false v75_80 H fun v76_81 _ =>
  vLen v76_81 fun v77_82 =>
  vBin .mul .num v74_79 v77_82 fun v78_83 =>
  vBin .eql .num v72_77 v78_83 fun v79_84 =>
  vSel v79_84
  (k7_21 P p Q H c)
  (k7_22 P p Q H c)
def k7_23 (P : Program) (p : Lab) (Q : VPost) (y1 : AV) (y2 : AV) (y5 : AV) (y6 : AV) (H : Heap) (c : Nat) (_ : Unit) : Prop :=
  (k7_19 P p Q y1 y2 y5 y6 H (c + 6))
def k7_26 (P : Program) (p : Lab) (Q : VPost) (c : Nat) (v81_104 : AV) (H104 : Heap) (l104 : List Lab) (f104 : Option (List Lab)) : Prop :=
  (k7_6 P p Q v81_104 H104 (c + 13))
def k7_27 (P : Program) (p : Lab) (Q : VPost) (H : Heap) (c : Nat) (_ : Unit) : Prop :=
  vCall false P 11 [] H ((c + 10) :: p) (k7_26 P p Q c)
def k7_28 (P : Program) (p : Lab) (Q : VPost) (H : Heap) (c : Nat) (_ : Unit) : Prop :=
  (k7_16 P p Q  H (c + 13))
def k7_25 (P : Program) (p : Lab) (Q : VPost) (y1 : AV) (y2 : AV) (y6 : AV) (H : Heap) (c : Nat) : Prop :=
  vFA 1 y6 fun v71_94 =>
  vLoad 1 false v71_94 H fun v72_95 _ =>
  vBin .sub .num y1 (.int .i64 2) fun v74_97 =>
  vFA 0 y2 fun v75_98 =>
  vLoad 1 false v75_98 H fun v76_99 _ =>
  vLen v76_99 fun v77_100 =>
  vBin .mul .num v74_97 v77_100 fun v78_101 =>
  vBin .eql .num v72_95 v78_101 fun v79_102 =>
  vSel v79_102
  (k7_27 P p Q H c)
  (k7_28 P p Q H c)
def k7_29 (P : Program) (p : Lab) (Q : VPost) (y1 : AV) (y2 : AV) (y6 : AV) (H : Heap) (c : Nat) (_ : Unit) : Prop :=
  (k7_25 P p Q y1 y2 y6 H c)
def k7_31 (P : Program) (p : Lab) (Q : VPost) (y2 : AV) (y5 : AV) (H : Heap) (c : Nat) : Prop :=
  vCall true P 11 [] H (c :: p) (fun v94_114 H114 l114 f114 =>
  Q .ret [(4, v94_114)] H114 (c + 2))
def k7_32 (P : Program) (p : Lab) (Q : VPost) (y2 : AV) (y5 : AV) (H : Heap) (c : Nat) (_ : Unit) : Prop :=
  (k7_31 P p Q y2 y5 H (c + 11))
def k7_34 (P : Program) (p : Lab) (Q : VPost) (c : Nat) (v94_123 : AV) (H123 : Heap) (l123 : List Lab) (f123 : Option (List Lab)) : Prop :=
  (k7_6 P p Q v94_123 H123 (c + 2))
def k7_35 (P : Program) (p : Lab) (Q : VPost) (H : Heap) (c : Nat) (_ : Unit) : Prop :=
  vCall true P 11 [] H (c :: p) (k7_34 P p Q c)
def k7_38 (P : Program) (p : Lab) (Q : VPost) (y4 : AV) (H : Heap) (c : Nat) : Prop :=
  Q .ret [(4, y4)] H c
def k7_39 (P : Program) (p : Lab) (Q : VPost) (c : Nat) (v129_165 : AV) (H165 : Heap) (l165 : List Lab) (f165 : Option (List Lab)) : Prop :=
  (k7_38 P p Q v129_165 H165 (c + 5))
def k7_40 (P : Program) (p : Lab) (Q : VPost) (H : Heap) (c : Nat) (_ : Unit) : Prop :=
  vCall false P 11 [] H ((c + 2) :: p) (k7_39 P p Q c)
def k7_41 (P : Program) (p : Lab) (Q : VPost)  (H : Heap) (c : Nat) : Prop :=
  Q .ret [(4, (.bool false))] H c
def k7_42 (P : Program) (p : Lab) (Q : VPost) (H : Heap) (c : Nat) (_ : Unit) : Prop :=
  (k7_41 P p Q  H (c + 5))
def k7_37 (P : Program) (p : Lab) (Q : VPost) (y126 : AV) (H : Heap) (c : Nat) : Prop :=
  vSel y126
  (k7_40 P p Q H c)
  (k7_42 P p Q H c)
def k7_43 (P : Program) (p : Lab) (Q : VPost) (H149 : Heap) (y2 : AV) (c : Nat) (_ : Unit) : Prop :=
  vFA 1 (.ptr ((c + 23) :: p) 3 0 0) fun v122_158 =>
  vLoad 1 false v122_158 H149 fun v123_159 _ =>
  vFA 1 y2 fun v124_160 =>
  vLoad 1 false v124_160 H149 fun v125_161 _ =>
  vBin .eql .num v123_159 v125_161 fun v126_162 =>
  (k7_37 P p Q v126_162 H149 (c + 38))
def k7_44 (P : Program) (p : Lab) (Q : VPost)  (H : Heap) (c : Nat) : Prop :=
  (k7_41 P p Q  H (c + 5))
def k7_45 (P : Program) (p : Lab) (Q : VPost) (H149 : Heap) (c : Nat) (_ : Unit) : Prop :=
  (k7_44 P p Q  H149 (c + 38))
def k7_46 (P : Program) (p : Lab) (Q : VPost) (l144 : List Lab) (f144 : Option (List Lab)) (f143 : Option (List Lab)) (f140 : Option (List Lab)) (y2 : AV) (c : Nat) (v_149 : AV) (H149 : Heap) (l149 : List Lab) (f149 : Option (List Lab)) : Prop :=
  clashFree [0, 0, 2, 6, 15, 31, 63, 63, 0, 383, 1023] (addTr 0 [] ((c + 15) :: p) f140 (addTr 3 [] ((c + 18) :: p) f143 (addTr 4 l144 ((c + 19) :: p) f144 (addTr 8 [((c + 23) :: p)] ((c + 23) :: p) (some []) (addTr 9 l149 ((c + 24) :: p) f149 []))))) ∧
  vFA 1 (.ptr ((c + 12) :: p) 3 0 0) fun v115_151 =>
  vLoad 1 false v115_151 H149 fun v116_152 _ =>
  vFA 1 y2 fun v117_153 =>
  vLoad 1 false v117_153 H149 fun v118_154 _ =>
  vBin .sub .num v118_154 (.int .i64 1) fun v119_155 =>
  vBin .eql .num v116_152 v119_155 fun v120_156 =>
  vSel v120_156
  (k7_43 P p Q H149 y2 c)
  (k7_45 P p Q H149 c)
def k7_47 (P : Program) (p : Lab) (Q : VPost) (f143 : Option (List Lab)) (f140 : Option (List Lab)) (y2 : AV) (c : Nat) (v112_144 : AV) (H144 : Heap) (l144 : List Lab) (f144 : Option (List Lab)) : Prop :=
  vExt 0 v112_144 fun v113_146 =>
  vExt 1 v112_144 fun v114_147 =>
  (fun (H148 : Heap) =>
  vGen (.store 3) [(.ptr ((c + 23) :: p) 3 0 0), v113_146] H148 ((c + 24) :: p) (k7_46 P p Q l144 f144 f143 f140 y2 c)) (upd [(((c + 23) :: p), some (.rows 3 [[.nils, (.int .i64 0), .nils]]))] H144)
def k7_48 (P : Program) (p : Lab) (Q : VPost) (l133 : List Lab) (f133 : Option (List Lab)) (f132 : Option (List Lab)) (f128 : Option (List Lab)) (f126 : Option (List Lab)) (y2 : AV) (y5 : AV) (c : Nat) (v_138 : AV) (H138 : Heap) (l138 : List Lab) (f138 : Option (List Lab)) : Prop :=
  clashFree [0, 1, 0, 4, 15, 0, 32, 96, 255, 511, 1023, 1023, 0, 6143, 16383] (addTr 1 [] ((c + 1) :: p) f126 (addTr 3 [] ((c + 3) :: p) f128 (addTr 7 [] ((c + 7) :: p) f132 (addTr 8 l133 ((c + 8) :: p) f133 (addTr 12 [((c + 12) :: p)] ((c + 12) :: p) (some []) (addTr 13 l138 ((c + 13) :: p) f138 [])))))) ∧
  vLoad 3 true (.ptr ((c + 12) :: p) 3 0 0) H138 fun v108_140 f140 =>
  vIx 2 y5 (.int .i64 1) fun v110_142 =>
  vLoad 2 true v110_142 H138 fun v111_143 f143 =>
  vCall false P 12 [v108_140, v111_143] H138 ((c + 19) :: p) (k7_47 P p Q f143 f140 y2 c)
def k7_49 (P : Program) (p : Lab) (Q : VPost) (f132 : Option (List Lab)) (f128 : Option (List Lab)) (f126 : Option (List Lab)) (y2 : AV) (y5 : AV) (c : Nat) (v104_133 : AV) (H133 : Heap) (l133 : List Lab) (f133 : Option (List Lab)) : Prop :=
  vExt 0 v104_133 fun v105_135 =>
  vExt 1 v104_133 fun v106_136 =>
  (fun (H137 : Heap) =>
  vGen (.store 3) [(.ptr ((c + 12) :: p) 3 0 0), v105_135] H137 ((c + 13) :: p) (k7_48 P p Q l133 f133 f132 f128 f126 y2 y5 c)) (upd [(((c + 12) :: p), some (.rows 3 [[.nils, (.int .i64 0), .nils]]))] H133)
def k7_36 (P : Program) (p : Lab) (Q : VPost) (y2 : AV) (y5 : AV) (y93 : AV) (H : Heap) (c : Nat) : Prop :=
  vFA 0 y2 fun v96_125 =>
  vLoad 1 false v96_125 H fun v97_126 f126 =>
  vFA 1 y2 fun v98_127 =>
  vLoad 1 false v98_127 H fun v99_128 f128 =>
  vBuild [.nils, (.int .i64 0), .nils] [(0, 1), (1, 1)] [v97_126, v99_128] fun v100_129 =>
  vIx 2 y5 (.int .i64 0) fun v102_131 =>
  vLoad 2 true v102_131 H fun v103_132 f132 =>
  vCall false P 12 [v100_129, v103_132] H ((c + 8) :: p) (k7_49 P p Q f132 f128 f126 y2 y5 c)
def k7_50 (P : Program) (p : Lab) (Q : VPost) (y2 : AV) (y5 : AV) (y93 : AV) (H : Heap) (c : Nat) (_ : Unit) : Prop :=
  (k7_36 P p Q y2 y5 y93 H c)
def k7_33 (P : Program) (p : Lab) (Q : VPost) (y2 : AV) (y5 : AV) (y93 : AV) (H : Heap) (c : Nat) : Prop :=
  vSel y93
  (k7_35 P p Q H c)
  (k7_50 P p Q y2 y5 y93 H c)
def k7_51 (P : Program) (p : Lab) (Q : VPost) (y2 : AV) (y5 : AV) (H : Heap) (c : Nat) (_ : Unit) : Prop :=
  vFA 1 y2 fun v87_116 =>
  vLoad 1 false v87_116 H fun v88_117 _ =>
  vFA 0 y2 fun v89_118 =>
  vLoad 1 false v89_118 H fun v90_119 _ =>
  vLen v90_119 fun v91_120 =>
  vBin .gtr .num v88_117 v91_120 fun v92_121 =>
  (k7_33 P p Q y2 y5 v92_121 H (c + 11))
def k7_30 (P : Program) (p : Lab) (Q : VPost) (y1 : AV) (y2 : AV) (y5 : AV) (y6 : AV) (y70 : AV) (H : Heap) (c : Nat) : Prop :=
  vFA 1 y2 fun v83_109 =>
  vLoad 1 false v83_109 H fun v84_110 _ =>
  vBin .lss .num v84_110 (.int .i64 1) fun v85_111 =>
  vSel v85_111
  (k7_32 P p Q y2 y5 H c)
  (k7_51 P p Q y2 y5 H c)
def k7_52 (P : Program) (p : Lab) (Q : VPost) (y1 : AV) (y2 : AV) (y5 : AV) (y6 : AV) (y70 : AV) (H : Heap) (c : Nat) (_ : Unit) : Prop :=
  (k7_30 P p Q y1 y2 y5 y6 y70 H c)
def k7_24 (P : Program) (p : Lab) (Q : VPost) (y1 : AV) (y2 : AV) (y5 : AV) (y6 : AV) (y70 : AV) (H : Heap) (c : Nat) : Prop :=
  vSel y70
  (k7_29 P p Q y1 y2 y6 H c)
  (k7_52 P p Q y1 y2 y5 y6 y70 H c)
def k7_53 (P : Program) (p : Lab) (Q : VPost) (y1 : AV) (y2 : AV) (y5 : AV) (y6 : AV) (H : Heap) (c : Nat) (_ : Unit) : Prop :=
  vBin .eql .num y1 (.int .i64 3) fun v69_92 =>
  (k7_24 P p Q y1 y2 y5 y6 v69_92 H (c + 6))
def k7_18 (P : Program) (p : Lab) (Q : VPost) (y1 : AV) (y2 : AV) (y5 : AV) (y6 : AV) (y64 : AV) (H : Heap) (c : Nat) : Prop :=
  vBin .eql .num y1 (.int .i64 2) fun v66_73 =>
  vSel v66_73
  (k7_23 P p Q y1 y2 y5 y6 H c)
  (k7_53 P p Q y1 y2 y5 y6 H c)
def k7_54 (P : Program) (p : Lab) (Q : VPost) (y1 : AV) (y2 : AV) (y5 : AV) (y6 : AV) (y64 : AV) (H : Heap) (c : Nat) (_ : Unit) : Prop :=
  (k7_18 P p Q y1 y2 y5 y6 y64 H c)
def k7_15 (P : Program) (p : Lab) (Q : VPost) (y1 : AV) (y2 : AV) (y5 : AV) (y6 : AV) (y64 : AV) (H : Heap) (c : Nat) : Prop :=
  vSel y64
  (k7_17 P p Q H c)
  (k7_54 P p Q y1 y2 y5 y6 y64 H c)
def k7_55 (P : Program) (p : Lab) (Q : VPost) (y1 : AV) (y2 : AV) (y5 : AV) (y6 : AV) (c : Nat) (v62_68 : AV) (H68 : Heap) (l68 : List Lab) (f68 : Option (List Lab)) : Prop :=
  vNot v62_68 fun v63_69 =>
  (k7_15 P p Q y1 y2 y5 y6 v63_69 H68 (c + 9))
def k7_56 (P : Program) (p : Lab) (Q : VPost) (y1 : AV) (y2 : AV) (y5 : AV) (y6 : AV) (H : Heap) (c : Nat) (_ : Unit) : Prop :=
  vFA 2 y6 fun v58_64 =>
  vLoad 1 false v58_64 H fun v59_65 _ =>
  vFA 2 y2 fun v60_66 =>
  vLoad 1 false v60_66 H fun v61_67 _ =>
  vCall false P 21 [v59_65, v61_67] H ((c + 6) :: p) (k7_55 P p Q y1 y2 y5 y6 c)
def k7_13 (P : Program) (p : Lab) (Q : VPost) (y1 : AV) (y2 : AV) (y5 : AV) (y6 : AV) (y55 : AV) (H : Heap) (c : Nat) : Prop :=
  vSel y55
  (k7_14 P p Q y1 y2 y5 y6 H c)
  (k7_56 P p Q y1 y2 y5 y6 H c)
def k7_57 (P : Program) (p : Lab) (Q : VPost) (n27 : Nat) (y1 : AV) (y2 : AV) (c : Nat) (v54_59 : AV) (H59 : Heap) (l59 : List Lab) (f59 : Option (List Lab)) : Prop :=
  vNot v54_59 fun v55_60 =>
  (k7_13 P p Q y1 y2 (.sl ((c + 6) :: p) 2 0 n27) (.ptr ((c + 23) :: p) 3 0 0) v55_60 H59 (c + 36))
def k7_58 (P : Program) (p : Lab) (Q : VPost) (H45 : Heap) (n27 : Nat) (y1 : AV) (y2 : AV) (c : Nat) (_ : Unit) : Prop :=
  vFA 0 (.ptr ((c + 23) :: p) 3 0 0) fun v50_55 =>
  vLoad 1 false v50_55 H45 fun v51_56 _ =>
  vFA 0 y2 fun v52_57 =>
  vLoad 1 false v52_57 H45 fun v53_58 _ =>
  vCall false P 21 [v51_56, v53_58] H45 ((c + 34) :: p) (k7_57 P p Q n27 y1 y2 c)
def k7_59 (P : Program) (p : Lab) (Q : VPost) (v45_43 : AV) (l40 : List Lab) (f40 : Option (List Lab)) (f39 : Option (List Lab)) (f34 : Option (List Lab)) (f32 : Option (List Lab)) (f30 : Option (List Lab)) (n27 : Nat) (y1 : AV) (y2 : AV) (c : Nat) (v_45 : AV) (H45 : Heap) (l45 : List Lab) (f45 : Option (List Lab)) : Prop :=
  clashFree [0, 1, 0, 4, 0, 16, 63, 0, 0, 384, 896, 2047, 4095, 8191, 8191, 0, 49151, 131071] (addTr 1 [] ((c + 9) :: p) f30 (addTr 3 [] ((c + 11) :: p) f32 (addTr 5 [] ((c + 13) :: p) f34 (addTr 10 [] ((c + 18) :: p) f39 (addTr 11 l40 ((c + 19) :: p) f40 (addTr 15 [((c + 23) :: p)] ((c + 23) :: p) (some []) (addTr 16 l45 ((c + 24) :: p) f45 []))))))) ∧
  vLen v45_43 fun v47_48 =>
  vBin .neq .num v47_48 (.int .i64 0) fun v48_49 =>
  vSel v48_49
  (k7_12 P p Q H45 n27 y1 y2 c)
  (k7_58 P p Q H45 n27 y1 y2 c)
def k7_60 (P : Program) (p : Lab) (Q : VPost) (f39 : Option (List Lab)) (f34 : Option (List Lab)) (f32 : Option (List Lab)) (f30 : Option (List Lab)) (n27 : Nat) (y1 : AV) (y2 : AV) (c : Nat) (v43_40 : AV) (H40 : Heap) (l40 : List Lab) (f40 : Option (List Lab)) : Prop :=
  vExt 0 v43_40 fun v44_42 =>
  vExt 1 v43_40 fun v45_43 =>
  (fun (H44 : Heap) =>
  vGen (.store 3) [(.ptr ((c + 23) :: p) 3 0 0), v44_42] H44 ((c + 24) :: p) (k7_59 P p Q v45_43 l40 f40 f39 f34 f32 f30 n27 y1 y2 c)) (upd [(((c + 23) :: p), some (.rows 3 [[.nils, (.int .i64 0), .nils]]))] H40)
def k7_9 (P : Program) (p : Lab) (Q : VPost) (y1 : AV) (y2 : AV) (y22 : AV) (H : Heap) (c : Nat) : Prop :=
  vBuild [(.int .i64 0), (.int .i64 0)] [(0, 1)] [(.int .i64 7)] fun v24_21 =>
  vBuild [(.int .i64 0), (.int .i64 0)] [(0, 1)] [(.int .i64 6)] fun v25_22 =>
  vBuild [(.int .i64 0), (.int .i64 0)] [(0, 1)] [(.int .i64 8)] fun v26_23 =>
  vBuild [(.int .i64 0), (.int .i64 0)] [(0, 1)] [(.int .i64 9)] fun v27_24 =>
  vBuild [(.int .i64 0), (.int .i64 0)] [(0, 1), (1, 1)] [(.int .i64 3), (.int .i64 98)] fun v28_25 =>
  vBuild [(.int .i64 0), (.int .i64 0)] [(0, 1), (1, 1)] [(.int .i64 3), (.int .i64 102)] fun v29_26 =>
  vBuildS 2 [(.int .i64 0), (.int .i64 0), (.int .i64 0), (.int .i64 0), (.int .i64 0), (.int .i64 0), (.int .i64 0), (.int .i64 0), (.int .i64 0), (.int .i64 0), (.int .i64 0), (.int .i64 0)] [(0, 2), (2, 2), (4, 2), (6, 2), (8, 2), (10, 2)] [v24_21, v25_22, v26_23, v27_24, v28_25, v29_26] fun w27 n27 =>
  (fun (H27 : Heap) =>
  vFA 0 y2 fun v32_29 =>
  vLoad 1 false v32_29 H27 fun v33_30 f30 =>
  vFA 1 y2 fun v34_31 =>
  vLoad 1 false v34_31 H27 fun v35_32 f32 =>
  vFA 2 y2 fun v36_33 =>
  vLoad 1 false v36_33 H27 fun v37_34 f34 =>
  vBuild [.nils, (.int .i64 0), .nils] [(0, 1), (1, 1), (2, 1)] [v33_30, v35_32, v37_34] fun v38_35 =>
  vIx 2 (.sl ((c + 6) :: p) 2 0 n27) y1 fun v41_38 =>
  vLoad 2 true v41_38 H27 fun v42_39 f39 =>
  vCall false P 12 [v38_35, v42_39] H27 ((c + 19) :: p) (k7_60 P p Q f39 f34 f32 f30 n27 y1 y2 c)) (upd [(((c + 6) :: p), some (.rows 2 w27))] H)
def k7_61 (P : Program) (p : Lab) (Q : VPost) (y1 : AV) (y2 : AV) (y22 : AV) (H : Heap) (c : Nat) (_ : Unit) : Prop :=
  (k7_9 P p Q y1 y2 y22 H c)
def k7_5 (P : Program) (p : Lab) (Q : VPost) (y1 : AV) (y2 : AV) (y22 : AV) (H : Heap) (c : Nat) : Prop :=
  vSel y22
  (k7_8 P p Q H c)
  (k7_61 P p Q y1 y2 y22 H c)
def k7_62 (P : Program) (p : Lab) (Q : VPost) (y1 : AV) (y2 : AV) (H : Heap) (c : Nat) (_ : Unit) : Prop :=
  vBin .gtr .num y1 (.int .i64 5) fun v21_17 =>
  (k7_5 P p Q y1 y2 v21_17 H (c + 5))
def k7_3 (P : Program) (p : Lab) (Q : VPost) (y1 : AV) (y2 : AV) (y17 : AV) (H : Heap) (c : Nat) : Prop :=
  vSel y17
  (k7_4 P p Q y1 y2 H c)
  (k7_62 P p Q y1 y2 H c)
def k7_63 (P : Program) (p : Lab) (Q : VPost) (H3 : Heap) (w0 : List AV) (x1 : AV) (c : Nat) (_ : Unit) : Prop :=
  vBin .lss .num x1 (.int .i64 0) fun v17_12 =>
  (k7_3 P p Q x1 (.ptr (c :: p) w0.length 0 0) v17_12 H3 (c + 8))
def k7_64 (P : Program) (p : Lab) (Q : VPost) (w0 : List AV) (x1 : AV) (c : Nat) (v13_3 : AV) (H3 : Heap) (l3 : List Lab) (f3 : Option (List Lab)) : Prop :=
  vNot v13_3 fun v14_4 =>
  vSel v14_4
  (k7_2 P p Q H3 w0 x1 c)
  (k7_63 P p Q H3 w0 x1 c)
def V7 (P : Program) (p : Lab) (Q : VPost) (x0 x1 : AV) (H : Heap) (c : Nat) : Prop :=
  vBox x0 fun w0 =>
  (fun (H0 : Heap) =>
  vLoad 3 true (.ptr (c :: p) w0.length 0 0) H0 fun v12_2 _ =>
  vCall true P 10 [v12_2] H0 ((c + 3) :: p) (k7_64 P p Q w0 x1 c)) (upd [((c :: p), some (.rows w0.length [w0]))] H)
theorem vt7 (P : Program) (p : Lab) (Q : VPost) (x0 x1 : AV) (H : Heap) (c : Nat) : vc P p c7.body Q [(0, x0), (1, x1)] H c = V7 P p Q x0 x1 H c := by kernel_rfl



end Go.Proofs.Ytbngfbpegdcpkaa
