/- What is owed of functions of the program, as formulas. -/
import Derived.Test.YtoajcigegjhiaaaA26
import Derived.Test.YtoajcigegjhiaaaProg
import Derived.KernelRfl
namespace Go.Proofs.Ytoajcigegjhiaaa
set_option maxRecDepth 100000
set_option linter.unusedVariables false
set_option linter.unusedSimpArgs false
def b3_1 : ACode := (.seq (.seq (.region [⟨(some 44), none, .move, [.t 11]⟩, ⟨(some 45), none, .move, [.t 2]⟩, ⟨(some 46), none, (.len .slice), [.t 45]⟩, ⟨(some 47), none, (.bin .lss .num), [.t 44, .t 46]⟩, ⟨(some 48), none, .move, [.t 47]⟩, ⟨(some 49), (some (48, true)), .move, [.t 11]⟩, ⟨(some 50), (some (48, true)), (.bin .lss .num), [.t 49, .c (.int .i64 60)]⟩, ⟨(some 51), none, .pick, [.t 48, .t 50, .c (.bool false)]⟩, ⟨(some 52), none, .move, [.t 51]⟩, ⟨(some 53), (some (52, true)), .move, [.t 9]⟩, ⟨(some 54), (some (52, true)), (.bin .neq .ptr), [.t 53, .c .nilp]⟩, ⟨(some 55), none, .pick, [.t 52, .t 54, .c (.bool false)]⟩] none [2, 7, 9, 11, 55])
  (.cond (.t 55) .skip
  (.exit 0)))
  (.seq (.block 1 (.seq (.region [⟨(some 58), none, .move, [.t 2]⟩, ⟨(some 59), none, .move, [.t 11]⟩, ⟨(some 60), none, (.indexAddr 14), [.t 58, .t 59]⟩, ⟨(some 61), none, (.load 14 true), [.t 60]⟩, ⟨(some 12), none, (.alloc [(.int .i64 0), (.int .i64 0), (.int .i64 0), .nils, (.int .i64 0), (.int .i64 0), (.int .i64 0), (.int .i64 0), (.int .i64 0), (.int .i64 0), (.int .i64 0), .nils, (.int .i64 0), (.int .i64 0)]), []⟩, ⟨none, none, (.store 14), [.t 12, .t 61]⟩] none [2, 7, 9, 11, 12])
  (.seq (.seq (.region [⟨(some 62), none, (.fieldAddr 1), [.t 12]⟩, ⟨(some 63), none, (.fieldAddr 2), [.t 62]⟩, ⟨(some 64), none, (.load 1 false), [.t 63]⟩, ⟨(some 65), none, (.len .slice), [.t 64]⟩, ⟨(some 66), none, (.bin .gtr .num), [.t 65, .c (.int .i64 30)]⟩, ⟨(some 67), none, .move, [.t 66]⟩, ⟨(some 68), (some (67, false)), (.fieldAddr 11), [.t 12]⟩, ⟨(some 69), (some (67, false)), (.load 1 false), [.t 68]⟩, ⟨(some 70), (some (67, false)), (.len .slice), [.t 69]⟩, ⟨(some 71), (some (67, false)), (.bin .gtr .num), [.t 70, .c (.int .i64 30)]⟩, ⟨(some 72), none, .pick, [.t 67, .c (.bool true), .t 71]⟩] none [2, 7, 9, 11, 12, 72])
  (.cond (.t 72) (.seq (.region [⟨(some 73), none, .call, [.c (.fn (.func 15) [] [])]⟩, ⟨(some 6), none, .move, [.t 73]⟩] none [6])
  .ret)
  .skip))
  (.seq (.region [⟨(some 13), none, .move, [.c (.bool true)]⟩] none [2, 7, 9, 11, 12])
  (.seq (.seq (.region [⟨(some 74), none, (.fieldAddr 0), [.t 12]⟩, ⟨(some 75), none, (.load 1 false), [.t 74]⟩] none [2, 7, 9, 11, 12, 75])
  (.block 2 (.seq (.region [⟨(some 104), none, (.bin .eql .num), [.t 75, .c (.int .i64 0)]⟩, ⟨(some 103), none, .move, [.t 104]⟩] none [2, 7, 9, 11, 12, 75, 103])
  (.cond (.t 103) (.region [⟨(some 105), none, .move, [.t 7]⟩, ⟨(some 106), none, (.fieldAddr 1), [.t 12]⟩, ⟨(some 107), none, (.load 10 true), [.t 106]⟩, ⟨(some 108), none, .call, [.c (.fn (.func 16) [] []), .t 105, .t 107]⟩, ⟨(some 109), none, .move, [.t 9]⟩, ⟨(some 110), none, (.fieldAddr 1), [.t 12]⟩, ⟨(some 111), none, (.load 10 true), [.t 110]⟩, ⟨(some 112), none, .call, [.c (.fn (.func 17) [] []), .t 109, .t 111]⟩, ⟨(some 113), none, (.bin .eql .num), [.t 108, .t 112]⟩, ⟨(some 13), none, .move, [.t 113]⟩] (some [0, 0, 2, 7, 0, 0, 32, 127, 255, 511]) [2, 7, 9, 11, 13])
  (.seq (.region [⟨(some 115), none, (.bin .eql .num), [.t 75, .c (.int .i64 1)]⟩, ⟨(some 114), none, .move, [.t 115]⟩] none [2, 7, 9, 11, 12, 114])
  (.cond (.t 114) (.seq (.region [⟨(some 117), none, .move, [.t 7]⟩, ⟨(some 118), none, (.fieldAddr 11), [.t 12]⟩, ⟨(some 119), none, (.load 1 false), [.t 118]⟩, ⟨(some 120), none, .call, [.c (.fn (.func 18) [] []), .t 117, .t 119]⟩, ⟨(some 116), none, .move, [.t 120]⟩, ⟨(some 121), none, (.extract 0), [.t 116]⟩, ⟨(some 122), none, (.extract 1), [.t 116]⟩, ⟨(some 14), none, .move, [.t 121]⟩, ⟨(some 15), none, .move, [.t 122]⟩] none [2, 7, 9, 11, 12, 14, 15])
  (.seq (.region [⟨(some 124), none, .move, [.t 9]⟩, ⟨(some 125), none, (.fieldAddr 11), [.t 12]⟩, ⟨(some 126), none, (.load 1 false), [.t 125]⟩, ⟨(some 127), none, .call, [.c (.fn (.func 19) [] []), .t 124, .t 126]⟩, ⟨(some 123), none, .move, [.t 127]⟩, ⟨(some 128), none, (.extract 0), [.t 123]⟩, ⟨(some 129), none, (.extract 1), [.t 123]⟩, ⟨(some 16), none, .move, [.t 128]⟩, ⟨(some 17), none, .move, [.t 129]⟩] none [2, 7, 9, 11, 14, 15, 16, 17])
  (.region [⟨(some 130), none, .move, [.t 14]⟩, ⟨(some 131), none, .move, [.t 16]⟩, ⟨(some 132), none, (.bin .eql .num), [.t 130, .t 131]⟩, ⟨(some 133), none, .move, [.t 132]⟩, ⟨(some 134), (some (133, true)), .move, [.t 15]⟩, ⟨(some 135), (some (133, true)), .move, [.t 17]⟩, ⟨(some 136), (some (133, true)), (.bin .eql .num), [.t 134, .t 135]⟩, ⟨(some 137), none, .pick, [.t 133, .t 136, .c (.bool false)]⟩, ⟨(some 13), none, .move, [.t 137]⟩] none [2, 7, 9, 11, 13])))
  (.seq (.region [⟨(some 77), none, .move, [.t 7]⟩, ⟨(some 78), none, (.fieldAddr 12), [.t 12]⟩, ⟨(some 79), none, (.fieldAddr 0), [.t 78]⟩, ⟨(some 80), none, (.load 1 false), [.t 79]⟩, ⟨(some 81), none, (.fieldAddr 12), [.t 12]⟩, ⟨(some 82), none, (.fieldAddr 1), [.t 81]⟩, ⟨(some 83), none, (.load 1 false), [.t 82]⟩, ⟨(some 84), none, (.build [(.int .i64 0), (.int .i64 0)] [(0, 1), (1, 1)]), [.t 80, .t 83]⟩, ⟨(some 85), none, .call, [.c (.fn (.func 20) [] []), .t 77, .t 84]⟩, ⟨(some 76), none, .move, [.t 85]⟩, ⟨(some 86), none, (.extract 0), [.t 76]⟩, ⟨(some 87), none, (.extract 1), [.t 76]⟩, ⟨(some 18), none, (.alloc [(.int .i64 0), (.int .i64 0), .nils, (.int .i64 0), (.int .i64 0), (.int .i64 0), (.int .i64 0), (.int .i64 0), (.int .i64 0), (.int .i64 0)]), []⟩, ⟨none, none, (.store 10), [.t 18, .t 86]⟩, ⟨(some 19), none, .move, [.t 87]⟩] none [2, 7, 9, 11, 12, 18, 19])
  (.seq (.region [⟨(some 89), none, .move, [.t 9]⟩, ⟨(some 90), none, (.fieldAddr 12), [.t 12]⟩, ⟨(some 91), none, (.load 2 true), [.t 90]⟩, ⟨(some 92), none, .call, [.c (.fn (.func 21) [] []), .t 89, .t 91]⟩, ⟨(some 88), none, .move, [.t 92]⟩, ⟨(some 93), none, (.extract 0), [.t 88]⟩, ⟨(some 94), none, (.extract 1), [.t 88]⟩, ⟨(some 20), none, (.alloc [(.int .i64 0), (.int .i64 0), .nils, (.int .i64 0), (.int .i64 0), (.int .i64 0), (.int .i64 0), (.int .i64 0), (.int .i64 0), (.int .i64 0)]), []⟩, ⟨none, none, (.store 10), [.t 20, .t 93]⟩, ⟨(some 21), none, .move, [.t 94]⟩] none [2, 7, 9, 11, 18, 19, 20, 21])
  (.region [⟨(some 95), none, (.load 10 true), [.t 18]⟩, ⟨(some 96), none, (.load 10 true), [.t 20]⟩, ⟨(some 97), none, .call, [.c (.fn (.func 22) [] []), .t 95, .t 96]⟩, ⟨(some 98), none, .move, [.t 97]⟩, ⟨(some 99), (some (98, true)), .move, [.t 19]⟩, ⟨(some 100), (some (98, true)), .move, [.t 21]⟩, ⟨(some 101), (some (98, true)), (.bin .eql .bool), [.t 99, .t 100]⟩, ⟨(some 102), none, .pick, [.t 98, .t 101, .c (.bool false)]⟩, ⟨(some 13), none, .move, [.t 102]⟩] none [2, 7, 9, 11, 13])))))))))
  (.seq (.region [⟨(some 138), none, .move, [.t 13]⟩, ⟨(some 139), none, (.un .not), [.t 138]⟩, ⟨(some 140), none, .move, [.t 139]⟩, ⟨(some 141), (some (140, false)), .move, [.t 7]⟩, ⟨(some 142), (some (140, false)), .call, [.c (.fn (.func 23) [] []), .t 141]⟩, ⟨(some 143), (some (140, false)), .move, [.t 9]⟩, ⟨(some 144), (some (140, false)), .nilCheck, [.t 143]⟩, ⟨(some 145), (some (140, false)), (.fieldAddr 2), [.t 144]⟩, ⟨(some 146), (some (140, false)), (.load 1 false), [.t 145]⟩, ⟨(some 147), (some (140, false)), (.len .slice), [.t 146]⟩, ⟨(some 148), (some (140, false)), (.bin .neq .num), [.t 142, .t 147]⟩, ⟨(some 149), none, .pick, [.t 140, .c (.bool true), .t 148]⟩] (some [0, 1, 3, 7, 15, 7, 39, 103, 231, 487, 1023, 2047]) [2, 7, 9, 11, 149])
  (.cond (.t 149) (.seq (.region [⟨(some 6), none, .move, [.c (.bool false)]⟩] none [6])
  .ret)
  .skip)))))))
  (.region [⟨(some 56), none, .move, [.t 11]⟩, ⟨(some 57), none, (.bin .add .num), [.t 56, .c (.int .i64 1)]⟩, ⟨(some 11), none, .move, [.t 57]⟩] none [2, 7, 9, 11])))
def l3_1 : ACode := .loop [2, 7, 9, 11] b3_1
def r3_2 : ACode := (.seq (.region [⟨(some 150), none, .call, [.c (.fn (.func 15) [] [])]⟩, ⟨(some 6), none, .move, [.t 150]⟩] none [6])
  .ret)
/-- duet/duetlaw08.ResendScripts -/
def c3 : AFun := ⟨3, 151, [.tmp 6],
  (.seq (.region [⟨(some 6), none, .move, [.c (.bool false)]⟩] none [0, 1, 2])
  (.seq (.region [⟨(some 23), none, .move, [.t 0]⟩, ⟨(some 24), none, .move, [.t 1]⟩, ⟨(some 25), none, .call, [.c (.fn (.func 13) [] []), .t 23, .t 24]⟩, ⟨(some 22), none, .move, [.t 25]⟩, ⟨(some 26), none, (.extract 0), [.t 22]⟩, ⟨(some 27), none, (.extract 1), [.t 22]⟩, ⟨(some 7), none, .move, [.t 26]⟩, ⟨(some 8), none, .move, [.t 27]⟩] none [0, 1, 2, 7, 8])
  (.seq (.region [⟨(some 29), none, .move, [.t 0]⟩, ⟨(some 30), none, .move, [.t 1]⟩, ⟨(some 31), none, .call, [.c (.fn (.func 14) [] []), .t 29, .t 30]⟩, ⟨(some 28), none, .move, [.t 31]⟩, ⟨(some 32), none, (.extract 0), [.t 28]⟩, ⟨(some 33), none, (.extract 1), [.t 28]⟩, ⟨(some 9), none, .move, [.t 32]⟩, ⟨(some 10), none, .move, [.t 33]⟩] none [2, 7, 8, 9, 10])
  (.seq (.seq (.region [⟨(some 34), none, .move, [.t 8]⟩, ⟨(some 35), none, .move, [.t 10]⟩, ⟨(some 36), none, (.bin .neq .num), [.t 34, .t 35]⟩, ⟨(some 37), none, .move, [.t 36]⟩, ⟨(some 38), (some (37, false)), .move, [.t 7]⟩, ⟨(some 39), (some (37, false)), (.bin .eql .ptr), [.t 38, .c .nilp]⟩, ⟨(some 40), (some (37, false)), .move, [.t 9]⟩, ⟨(some 41), (some (37, false)), (.bin .eql .ptr), [.t 40, .c .nilp]⟩, ⟨(some 42), (some (37, false)), (.bin .neq .bool), [.t 39, .t 41]⟩, ⟨(some 43), none, .pick, [.t 37, .c (.bool true), .t 42]⟩] none [2, 7, 9, 43])
  (.cond (.t 43) (.seq (.region [⟨(some 6), none, .move, [.c (.bool false)]⟩] none [6])
  .ret)
  .skip))
  (.seq (.seq (.region [⟨(some 11), none, .move, [.c (.int .i64 0)]⟩] none [2, 7, 9, 11])
  (.block 0 l3_1)) r3_2)))))⟩
theorem ok3 : FunOk Try.prog 3 c3 := ⟨⟨Try.f3, _, Try.func3, rfl, by kernel_rfl, by kernel_rfl, by kernel_rfl, by kernel_rfl⟩, by decide⟩
theorem res3 : c3.res = [.tmp 6] := rfl
def k3_0 (P : Program) (p : Lab) (Q : VPost) (y2 : AV) (y7 : AV) (y9 : AV) (H : Heap) (c : Nat) : Prop :=
  Q .ret [(6, (.bool false))] H (c + 1)
def k3_1 (P : Program) (p : Lab) (Q : VPost) (v32_13 : AV) (H11 : Heap) (v26_5 : AV) (x2 : AV) (c : Nat) (_ : Unit) : Prop :=
  (k3_0 P p Q x2 v26_5 v32_13 H11 (c + 27))
def k3_3 (P : Program) (p : Lab) (Q : VPost)  (H : Heap) (c : Nat) : Prop :=
  Q .ret [(6, (.bool false))] H c
def k3_4 (P : Program) (p : Lab) (Q : VPost) (H : Heap) (c : Nat) (_ : Unit) : Prop :=
  (k3_3 P p Q  H (c + 1))
def q3_0 (P : Program) (p : Lab) (Q : VPost) : VPost := (vblockQ 0 (vseqQ (vc P p r3_2 Q) Q))
theorem q3_0_ret (P : Program) (p : Lab) (Q : VPost) (r : RL) (H : Heap) (c : Nat) : q3_0 P p Q .ret r H c = Q .ret r H c := rfl
def k3_5 (P : Program) (p : Lab) (Q : VPost) (y2 : AV) (y7 : AV) (y9 : AV) (y43 : AV) (H : Heap) (c : Nat) : Prop :=
  vc P p l3_1 (q3_0 P p Q) [(2, y2), (7, y7), (9, y9), (11, (.int .i64 0))] H (c + 1)
def k3_6 (P : Program) (p : Lab) (Q : VPost) (y2 : AV) (y7 : AV) (y9 : AV) (y43 : AV) (H : Heap) (c : Nat) (_ : Unit) : Prop :=
  (k3_5 P p Q y2 y7 y9 y43 H c)
def k3_2 (P : Program) (p : Lab) (Q : VPost) (y2 : AV) (y7 : AV) (y9 : AV) (y43 : AV) (H : Heap) (c : Nat) : Prop :=
  vSel y43
  (k3_4 P p Q H c)
  (k3_6 P p Q y2 y7 y9 y43 H c)
def k3_7 (P : Program) (p : Lab) (Q : VPost) (v32_13 : AV) (H11 : Heap) (v26_5 : AV) (x2 : AV) (c : Nat) (_ : Unit) : Prop :=
  vBin .eql .ptr v26_5 .nilp fun v39_24 =>
  vBin .eql .ptr v32_13 .nilp fun v41_26 =>
  vBin .neq .bool v39_24 v41_26 fun v42_27 =>
  (k3_2 P p Q x2 v26_5 v32_13 v42_27 H11 (c + 27))
def k3_8 (P : Program) (p : Lab) (Q : VPost) (v27_6 : AV) (v26_5 : AV) (x2 : AV) (c : Nat) (v31_11 : AV) (H11 : Heap) (l11 : List Lab) (f11 : Option (List Lab)) : Prop :=
  vExt 0 v31_11 fun v32_13 =>
  vExt 1 v31_11 fun v33_14 =>
  vBin .neq .num v27_6 v33_14 fun v36_19 =>
  vSel v36_19
  (k3_1 P p Q v32_13 H11 v26_5 x2 c)
  (k3_7 P p Q v32_13 H11 v26_5 x2 c)
def k3_9 (P : Program) (p : Lab) (Q : VPost) (x0 : AV) (x1 : AV) (x2 : AV) (c : Nat) (v25_3 : AV) (H3 : Heap) (l3 : List Lab) (f3 : Option (List Lab)) : Prop :=
  vExt 0 v25_3 fun v26_5 =>
  vExt 1 v25_3 fun v27_6 =>
  vCall P 14 [x0, x1] H3 ((c + 11) :: p) (k3_8 P p Q v27_6 v26_5 x2 c)
def V3 (P : Program) (p : Lab) (Q : VPost) (x0 x1 x2 : AV) (H : Heap) (c : Nat) : Prop :=
  vCall P 13 [x0, x1] H ((c + 3) :: p) (k3_9 P p Q x0 x1 x2 c)
theorem vt3 (P : Program) (p : Lab) (Q : VPost) (x0 x1 x2 : AV) (H : Heap) (c : Nat) : vc P p c3.body Q [(0, x0), (1, x1), (2, x2)] H c = V3 P p Q x0 x1 x2 H c := by kernel_rfl
def k3_13 (P : Program) (p : Lab) (Q : VPost) (y2 : AV) (y7 : AV) (y9 : AV) (y11 : AV) (y12 : AV) (H : Heap) (c : Nat) : Prop :=
  vCall P 15 [] H (c :: p) (fun v73_56 H56 l56 f56 =>
  Q .ret [(6, v73_56)] H56 (c + 2))
def k3_14 (P : Program) (p : Lab) (Q : VPost) (H48 : Heap) (y2 : AV) (y7 : AV) (y9 : AV) (y11 : AV) (c : Nat) (_ : Unit) : Prop :=
  (k3_13 P p Q y2 y7 y9 y11 (.ptr ((c + 4) :: p) 14 0 0) H48 (c + 17))
def k3_16 (P : Program) (p : Lab) (Q : VPost) (y6 : AV) (H : Heap) (c : Nat) : Prop :=
  Q .ret [(6, y6)] H c
def k3_17 (P : Program) (p : Lab) (Q : VPost) (c : Nat) (v73_63 : AV) (H63 : Heap) (l63 : List Lab) (f63 : Option (List Lab)) : Prop :=
  (k3_16 P p Q v73_63 H63 (c + 2))
def k3_18 (P : Program) (p : Lab) (Q : VPost) (H : Heap) (c : Nat) (_ : Unit) : Prop :=
  vCall P 15 [] H (c :: p) (k3_17 P p Q c)
def k3_21 (P : Program) (p : Lab) (Q : VPost) (y2 : AV) (y7 : AV) (y9 : AV) (y11 : AV) (H : Heap) (c : Nat) : Prop :=
  Q .ret [(6, (.bool false))] H (c + 1)
def k3_22 (P : Program) (p : Lab) (Q : VPost) (y2 : AV) (y7 : AV) (y9 : AV) (y11 : AV) (H : Heap) (c : Nat) (_ : Unit) : Prop :=
  clashFree [0, 1, 3, 7, 15, 7, 39, 103, 231, 487, 1023, 2047] [] ∧
  (k3_21 P p Q y2 y7 y9 y11 H (c + 12))
def k3_24 (P : Program) (p : Lab) (Q : VPost)  (H : Heap) (c : Nat) : Prop :=
  Q .ret [(6, (.bool false))] H c
def k3_25 (P : Program) (p : Lab) (Q : VPost) (H : Heap) (c : Nat) (_ : Unit) : Prop :=
  (k3_24 P p Q  H (c + 1))
def k3_26 (P : Program) (p : Lab) (Q : VPost) (y2 : AV) (y7 : AV) (y9 : AV) (y11 : AV) (y149 : AV) (H : Heap) (c : Nat) : Prop :=
  vBin .add .num y11 (.int .i64 1) fun v57_96 =>
  Q .normal [(2, y2), (7, y7), (9, y9), (11, v57_96)] H (c + 3)
def k3_27 (P : Program) (p : Lab) (Q : VPost) (y2 : AV) (y7 : AV) (y9 : AV) (y11 : AV) (y149 : AV) (H : Heap) (c : Nat) (_ : Unit) : Prop :=
  (k3_26 P p Q y2 y7 y9 y11 y149 H c)
def k3_23 (P : Program) (p : Lab) (Q : VPost) (y2 : AV) (y7 : AV) (y9 : AV) (y11 : AV) (y149 : AV) (H : Heap) (c : Nat) : Prop :=
  vSel y149
  (k3_25 P p Q H c)
  (k3_27 P p Q y2 y7 y9 y11 y149 H c)
def k3_28 (P : Program) (p : Lab) (Q : VPost) (y2 : AV) (y7 : AV) (y9 : AV) (y11 : AV) (c : Nat) (v142_86 : AV) (H86 : Heap) (l86 : List Lab) (f86 : Option (List Lab)) : Prop :=
  vNil y9 fun v144_88 =>
  vFA 2 v144_88 fun v145_89 =>
  vLoad 1 false v145_89 H86 fun v146_90 f90 =>
  vLen v146_90 fun v147_91 =>
  vBin .neq .num v142_86 v147_91 fun v148_92 =>
  clashFree [0, 1, 3, 7, 15, 7, 39, 103, 231, 487, 1023, 2047] (addTr 4 l86 ((c + 4) :: p) f86 (addTr 8 [] ((c + 8) :: p) f90 [])) ∧
  (k3_23 P p Q y2 y7 y9 y11 v148_92 H86 (c + 12))
def k3_29 (P : Program) (p : Lab) (Q : VPost) (y2 : AV) (y7 : AV) (y9 : AV) (y11 : AV) (H : Heap) (c : Nat) (_ : Unit) : Prop :=
  vCall P 23 [y7] H ((c + 4) :: p) (k3_28 P p Q y2 y7 y9 y11 c)
def k3_20 (P : Program) (p : Lab) (Q : VPost) (y2 : AV) (y7 : AV) (y9 : AV) (y11 : AV) (y13 : AV) (H : Heap) (c : Nat) : Prop :=
  vNot y13 fun v139_81 =>
  vSel v139_81
  (k3_22 P p Q y2 y7 y9 y11 H c)
  (k3_29 P p Q y2 y7 y9 y11 H c)
def k3_30 (P : Program) (p : Lab) (Q : VPost) (f76 : Option (List Lab)) (v108_73 : AV) (l73 : List Lab) (f73 : Option (List Lab)) (f72 : Option (List Lab)) (y2 : AV) (y7 : AV) (y9 : AV) (y11 : AV) (c : Nat) (v112_77 : AV) (H77 : Heap) (l77 : List Lab) (f77 : Option (List Lab)) : Prop :=
  vBin .eql .num v108_73 v112_77 fun v113_78 =>
  clashFree [0, 0, 2, 7, 0, 0, 32, 127, 255, 511] (addTr 2 [] ((c + 7) :: p) f72 (addTr 3 l73 ((c + 8) :: p) f73 (addTr 6 [] ((c + 11) :: p) f76 (addTr 7 l77 ((c + 12) :: p) f77 [])))) ∧
  (k3_20 P p Q y2 y7 y9 y11 v113_78 H77 (c + 15))
def k3_31 (P : Program) (p : Lab) (Q : VPost) (f72 : Option (List Lab)) (y2 : AV) (y7 : AV) (y9 : AV) (y11 : AV) (y12 : AV) (c : Nat) (v108_73 : AV) (H73 : Heap) (l73 : List Lab) (f73 : Option (List Lab)) : Prop :=
  vFA 1 y12 fun v110_75 =>
  vLoad 10 true v110_75 H73 fun v111_76 f76 =>
  vCall P 17 [y9, v111_76] H73 ((c + 12) :: p) (k3_30 P p Q f76 v108_73 l73 f73 f72 y2 y7 y9 y11 c)
def k3_32 (P : Program) (p : Lab) (Q : VPost) (y2 : AV) (y7 : AV) (y9 : AV) (y11 : AV) (y12 : AV) (H : Heap) (c : Nat) (_ : Unit) : Prop :=
  vFA 1 y12 fun v106_71 =>
  vLoad 10 true v106_71 H fun v107_72 f72 =>
  vCall P 16 [y7, v107_72] H ((c + 8) :: p) (k3_31 P p Q f72 y2 y7 y9 y11 y12 c)
def k3_35 (P : Program) (p : Lab) (Q : VPost) (v129_115 : AV) (H112 : Heap) (v122_106 : AV) (y2 : AV) (y7 : AV) (y9 : AV) (y11 : AV) (c : Nat) (_ : Unit) : Prop :=
  vBin .eql .num v122_106 v129_115 fun v136_124 =>
  (k3_20 P p Q y2 y7 y9 y11 v136_124 H112 (c + 27))
def k3_37 (P : Program) (p : Lab) (Q : VPost) (y2 : AV) (y7 : AV) (y9 : AV) (y11 : AV) (H : Heap) (c : Nat) (_ : Unit) : Prop :=
  clashFree [0, 1, 3, 7, 15, 7, 39, 103, 231, 487, 1023, 2047] [] ∧
  (k3_21 P p Q y2 y7 y9 y11 H (c + 12))
def k3_38 (P : Program) (p : Lab) (Q : VPost) (y2 : AV) (y7 : AV) (y9 : AV) (y11 : AV) (c : Nat) (v142_134 : AV) (H134 : Heap) (l134 : List Lab) (f134 : Option (List Lab)) : Prop :=
  vNil y9 fun v144_136 =>
  vFA 2 v144_136 fun v145_137 =>
  vLoad 1 false v145_137 H134 fun v146_138 f138 =>
  vLen v146_138 fun v147_139 =>
  vBin .neq .num v142_134 v147_139 fun v148_140 =>
  clashFree [0, 1, 3, 7, 15, 7, 39, 103, 231, 487, 1023, 2047] (addTr 4 l134 ((c + 4) :: p) f134 (addTr 8 [] ((c + 8) :: p) f138 [])) ∧
  (k3_23 P p Q y2 y7 y9 y11 v148_140 H134 (c + 12))
def k3_39 (P : Program) (p : Lab) (Q : VPost) (y2 : AV) (y7 : AV) (y9 : AV) (y11 : AV) (H : Heap) (c : Nat) (_ : Unit) : Prop :=
  vCall P 23 [y7] H ((c + 4) :: p) (k3_38 P p Q y2 y7 y9 y11 c)
def k3_36 (P : Program) (p : Lab) (Q : VPost) (y2 : AV) (y7 : AV) (y9 : AV) (y11 : AV) (H : Heap) (c : Nat) : Prop :=
  vNot (.bool false) fun v139_130 =>
  vSel v139_130
  (k3_37 P p Q y2 y7 y9 y11 H c)
  (k3_39 P p Q y2 y7 y9 y11 H c)
def k3_40 (P : Program) (p : Lab) (Q : VPost) (H112 : Heap) (y2 : AV) (y7 : AV) (y9 : AV) (y11 : AV) (c : Nat) (_ : Unit) : Prop :=
  (k3_36 P p Q y2 y7 y9 y11 H112 (c + 27))
def k3_41 (P : Program) (p : Lab) (Q : VPost) (v122_106 : AV) (v121_105 : AV) (y2 : AV) (y7 : AV) (y9 : AV) (y11 : AV) (c : Nat) (v127_112 : AV) (H112 : Heap) (l112 : List Lab) (f112 : Option (List Lab)) : Prop :=
  vExt 0 v127_112 fun v128_114 =>
  vExt 1 v127_112 fun v129_115 =>
  vBin .eql .num v121_105 v128_114 fun v132_120 =>
  vSel v132_120
  (k3_35 P p Q v129_115 H112 v122_106 y2 y7 y9 y11 c)
  (k3_40 P p Q H112 y2 y7 y9 y11 c)
def k3_42 (P : Program) (p : Lab) (Q : VPost) (y2 : AV) (y7 : AV) (y9 : AV) (y11 : AV) (y12 : AV) (c : Nat) (v120_103 : AV) (H103 : Heap) (l103 : List Lab) (f103 : Option (List Lab)) : Prop :=
  vExt 0 v120_103 fun v121_105 =>
  vExt 1 v120_103 fun v122_106 =>
  vFA 11 y12 fun v125_110 =>
  vLoad 1 false v125_110 H103 fun v126_111 _ =>
  vCall P 19 [y9, v126_111] H103 ((c + 12) :: p) (k3_41 P p Q v122_106 v121_105 y2 y7 y9 y11 c)
def k3_34 (P : Program) (p : Lab) (Q : VPost) (y2 : AV) (y7 : AV) (y9 : AV) (y11 : AV) (y12 : AV) (H : Heap) (c : Nat) : Prop :=
  vFA 11 y12 fun v118_101 =>
  vLoad 1 false v118_101 H fun v119_102 _ =>
  vCall P 18 [y7, v119_102] H ((c + 3) :: p) (k3_42 P p Q y2 y7 y9 y11 y12 c)
def k3_43 (P : Program) (p : Lab) (Q : VPost) (y2 : AV) (y7 : AV) (y9 : AV) (y11 : AV) (y12 : AV) (H : Heap) (c : Nat) (_ : Unit) : Prop :=
  (k3_34 P p Q y2 y7 y9 y11 y12 H c)
def k3_45 (P : Program) (p : Lab) (Q : VPost) (H169 : Heap) (v94_163 : AV) (v87_153 : AV) (y2 : AV) (y7 : AV) (y9 : AV) (y11 : AV) (c : Nat) (_ : Unit) : Prop :=
  vBin .eql .bool v87_153 v94_163 fun v101_173 =>
  (k3_20 P p Q y2 y7 y9 y11 v101_173 H169 (c + 34))
def k3_46 (P : Program) (p : Lab) (Q : VPost) (H169 : Heap) (y2 : AV) (y7 : AV) (y9 : AV) (y11 : AV) (c : Nat) (_ : Unit) : Prop :=
  (k3_36 P p Q y2 y7 y9 y11 H169 (c + 34))
def k3_47 (P : Program) (p : Lab) (Q : VPost) (v94_163 : AV) (v87_153 : AV) (y2 : AV) (y7 : AV) (y9 : AV) (y11 : AV) (c : Nat) (v97_169 : AV) (H169 : Heap) (l169 : List Lab) (f169 : Option (List Lab)) : Prop :=
  vSel v97_169
  (k3_45 P p Q H169 v94_163 v87_153 y2 y7 y9 y11 c)
  (k3_46 P p Q H169 y2 y7 y9 y11 c)
def k3_48 (P : Program) (p : Lab) (Q : VPost) (v94_163 : AV) (v87_153 : AV) (y2 : AV) (y7 : AV) (y9 : AV) (y11 : AV) (c : Nat) (v_165 : AV) (H165 : Heap) (l165 : List Lab) (f165 : Option (List Lab)) : Prop :=
  vLoad 10 true (.ptr ((c + 12) :: p) 10 0 0) H165 fun v95_167 _ =>
  vLoad 10 true (.ptr ((c + 22) :: p) 10 0 0) H165 fun v96_168 _ =>
  vCall P 22 [v95_167, v96_168] H165 ((c + 27) :: p) (k3_47 P p Q v94_163 v87_153 y2 y7 y9 y11 c)
def k3_49 (P : Program) (p : Lab) (Q : VPost) (v87_153 : AV) (y2 : AV) (y7 : AV) (y9 : AV) (y11 : AV) (c : Nat) (v92_160 : AV) (H160 : Heap) (l160 : List Lab) (f160 : Option (List Lab)) : Prop :=
  vExt 0 v92_160 fun v93_162 =>
  vExt 1 v92_160 fun v94_163 =>
  (fun (H164 : Heap) =>
  vGen (.store 10) [(.ptr ((c + 22) :: p) 10 0 0), v93_162] H164 ((c + 23) :: p) (k3_48 P p Q v94_163 v87_153 y2 y7 y9 y11 c)) (upd [(((c + 22) :: p), some (.rows 10 [[(.int .i64 0), (.int .i64 0), .nils, (.int .i64 0), (.int .i64 0), (.int .i64 0), (.int .i64 0), (.int .i64 0), (.int .i64 0), (.int .i64 0)]]))] H160)
def k3_50 (P : Program) (p : Lab) (Q : VPost) (v87_153 : AV) (y2 : AV) (y7 : AV) (y9 : AV) (y11 : AV) (y12 : AV) (c : Nat) (v_155 : AV) (H155 : Heap) (l155 : List Lab) (f155 : Option (List Lab)) : Prop :=
  vFA 12 y12 fun v90_158 =>
  vLoad 2 true v90_158 H155 fun v91_159 _ =>
  vCall P 21 [y9, v91_159] H155 ((c + 18) :: p) (k3_49 P p Q v87_153 y2 y7 y9 y11 c)
def k3_51 (P : Program) (p : Lab) (Q : VPost) (y2 : AV) (y7 : AV) (y9 : AV) (y11 : AV) (y12 : AV) (c : Nat) (v85_150 : AV) (H150 : Heap) (l150 : List Lab) (f150 : Option (List Lab)) : Prop :=
  vExt 0 v85_150 fun v86_152 =>
  vExt 1 v85_150 fun v87_153 =>
  (fun (H154 : Heap) =>
  vGen (.store 10) [(.ptr ((c + 12) :: p) 10 0 0), v86_152] H154 ((c + 13) :: p) (k3_50 P p Q v87_153 y2 y7 y9 y11 y12 c)) (upd [(((c + 12) :: p), some (.rows 10 [[(.int .i64 0), (.int .i64 0), .nils, (.int .i64 0), (.int .i64 0), (.int .i64 0), (.int .i64 0), (.int .i64 0), (.int .i64 0), (.int .i64 0)]]))] H150)
def k3_44 (P : Program) (p : Lab) (Q : VPost) (y2 : AV) (y7 : AV) (y9 : AV) (y11 : AV) (y12 : AV) (H : Heap) (c : Nat) : Prop :=
  vFA 12 y12 fun v78_143 =>
  vFA 0 v78_143 fun v79_144 =>
  vLoad 1 false v79_144 H fun v80_145 _ =>
  vFA 12 y12 fun v81_146 =>
  vFA 1 v81_146 fun v82_147 =>
  vLoad 1 false v82_147 H fun v83_148 _ =>
  vBuild [(.int .i64 0), (.int .i64 0)] [(0, 1), (1, 1)] [v80_145, v83_148] fun v84_149 =>
  vCall P 20 [y7, v84_149] H ((c + 8) :: p) (k3_51 P p Q y2 y7 y9 y11 y12 c)
def k3_52 (P : Program) (p : Lab) (Q : VPost) (y2 : AV) (y7 : AV) (y9 : AV) (y11 : AV) (y12 : AV) (H : Heap) (c : Nat) (_ : Unit) : Prop :=
  (k3_44 P p Q y2 y7 y9 y11 y12 H c)
def k3_33 (P : Program) (p : Lab) (Q : VPost) (y2 : AV) (y7 : AV) (y9 : AV) (y11 : AV) (y12 : AV) (y114 : AV) (H : Heap) (c : Nat) : Prop :=
  vSel y114
  (k3_43 P p Q y2 y7 y9 y11 y12 H c)
  (k3_52 P p Q y2 y7 y9 y11 y12 H c)
def k3_53 (P : Program) (p : Lab) (Q : VPost) (v75_67 : AV) (y2 : AV) (y7 : AV) (y9 : AV) (y11 : AV) (y12 : AV) (H : Heap) (c : Nat) (_ : Unit) : Prop :=
  vBin .eql .num v75_67 (.int .i64 1) fun v115_98 =>
  (k3_33 P p Q y2 y7 y9 y11 y12 v115_98 H (c + 7))
def k3_19 (P : Program) (p : Lab) (Q : VPost) (y2 : AV) (y7 : AV) (y9 : AV) (y11 : AV) (y12 : AV) (y72 : AV) (H : Heap) (c : Nat) : Prop :=
  vFA 0 y12 fun v74_66 =>
  vLoad 1 false v74_66 H fun v75_67 _ =>
  vBin .eql .num v75_67 (.int .i64 0) fun v104_68 =>
  vSel v104_68
  (k3_32 P p Q y2 y7 y9 y11 y12 H c)
  (k3_53 P p Q v75_67 y2 y7 y9 y11 y12 H c)
def k3_54 (P : Program) (p : Lab) (Q : VPost) (y2 : AV) (y7 : AV) (y9 : AV) (y11 : AV) (y12 : AV) (y72 : AV) (H : Heap) (c : Nat) (_ : Unit) : Prop :=
  (k3_19 P p Q y2 y7 y9 y11 y12 y72 H c)
def k3_15 (P : Program) (p : Lab) (Q : VPost) (y2 : AV) (y7 : AV) (y9 : AV) (y11 : AV) (y12 : AV) (y72 : AV) (H : Heap) (c : Nat) : Prop :=
  vSel y72
  (k3_18 P p Q H c)
  (k3_54 P p Q y2 y7 y9 y11 y12 y72 H c)
def k3_55 (P : Program) (p : Lab) (Q : VPost) (H48 : Heap) (y2 : AV) (y7 : AV) (y9 : AV) (y11 : AV) (c : Nat) (_ : Unit) : Prop :=
  vFA 11 (.ptr ((c + 4) :: p) 14 0 0) fun v68_58 =>
  vLoad 1 false v68_58 H48 fun v69_59 _ =>
  vLen v69_59 fun v70_60 =>
  vBin .gtr .num v70_60 (.int .i64 30) fun v71_61 =>
  (k3_15 P p Q y2 y7 y9 y11 (.ptr ((c + 4) :: p) 14 0 0) v71_61 H48 (c + 17))
def k3_56 (P : Program) (p : Lab) (Q : VPost) (y2 : AV) (y7 : AV) (y9 : AV) (y11 : AV) (c : Nat) (v_48 : AV) (H48 : Heap) (l48 : List Lab) (f48 : Option (List Lab)) : Prop :=
  vFA 1 (.ptr ((c + 4) :: p) 14 0 0) fun v62_49 =>
  vFA 2 v62_49 fun v63_50 =>
  vLoad 1 false v63_50 H48 fun v64_51 _ =>
  vLen v64_51 fun v65_52 =>
  vBin .gtr .num v65_52 (.int .i64 30) fun v66_53 =>
  vSel v66_53
  (k3_14 P p Q H48 y2 y7 y9 y11 c)
  (k3_55 P p Q H48 y2 y7 y9 y11 c)
def k3_12 (P : Program) (p : Lab) (Q : VPost) (y2 : AV) (y7 : AV) (y9 : AV) (y11 : AV) (y55 : AV) (H : Heap) (c : Nat) : Prop :=
  vIx 14 y2 y11 fun v60_45 =>
  vLoad 14 true v60_45 H fun v61_46 _ =>
  (fun (H47 : Heap) =>
  vGen (.store 14) [(.ptr ((c + 4) :: p) 14 0 0), v61_46] H47 ((c + 5) :: p) (k3_56 P p Q y2 y7 y9 y11 c)) (upd [(((c + 4) :: p), some (.rows 14 [[(.int .i64 0), (.int .i64 0), (.int .i64 0), .nils, (.int .i64 0), (.int .i64 0), (.int .i64 0), (.int .i64 0), (.int .i64 0), (.int .i64 0), (.int .i64 0), .nils, (.int .i64 0), (.int .i64 0)]]))] H)
def k3_57 (P : Program) (p : Lab) (Q : VPost) (y2 : AV) (y7 : AV) (y9 : AV) (y11 : AV) (y55 : AV) (H : Heap) (c : Nat) (_ : Unit) : Prop :=
  (k3_12 P p Q y2 y7 y9 y11 y55 H c)
def k3_11 (P : Program) (p : Lab) (Q : VPost) (y2 : AV) (y7 : AV) (y9 : AV) (y11 : AV) (y55 : AV) (H : Heap) (c : Nat) : Prop :=
  vSel y55
  (k3_57 P p Q y2 y7 y9 y11 y55 H c)
  (fun _ =>
  Q (.exit 0) [(2, y2), (7, y7), (9, y9), (11, y11), (55, y55)] H c)
def k3_58 (P : Program) (p : Lab) (Q : VPost) (y2 : AV) (y7 : AV) (y9 : AV) (y11 : AV) (H : Heap) (c : Nat) (_ : Unit) : Prop :=
  vBin .neq .ptr y9 .nilp fun v54_41 =>
  (k3_11 P p Q y2 y7 y9 y11 v54_41 H (c + 5))
def k3_59 (P : Program) (p : Lab) (Q : VPost) (y2 : AV) (y7 : AV) (y9 : AV) (y11 : AV) (H : Heap) (c : Nat) : Prop :=
  Q (.exit 0) [(2, y2), (7, y7), (9, y9), (11, y11), (55, (.bool false))] H c
def k3_60 (P : Program) (p : Lab) (Q : VPost) (y2 : AV) (y7 : AV) (y9 : AV) (y11 : AV) (H : Heap) (c : Nat) (_ : Unit) : Prop :=
  (k3_59 P p Q y2 y7 y9 y11 H (c + 5))
def k3_10 (P : Program) (p : Lab) (Q : VPost) (y2 : AV) (y7 : AV) (y9 : AV) (y11 : AV) (y50 : AV) (H : Heap) (c : Nat) : Prop :=
  vSel y50
  (k3_58 P p Q y2 y7 y9 y11 H c)
  (k3_60 P p Q y2 y7 y9 y11 H c)
def k3_61 (P : Program) (p : Lab) (Q : VPost) (x2 : AV) (x7 : AV) (x9 : AV) (x11 : AV) (H : Heap) (c : Nat) (_ : Unit) : Prop :=
  vBin .lss .num x11 (.int .i64 60) fun v50_37 =>
  (k3_10 P p Q x2 x7 x9 x11 v50_37 H (c + 7))
def k3_62 (P : Program) (p : Lab) (Q : VPost) (y2 : AV) (y7 : AV) (y9 : AV) (y11 : AV) (H : Heap) (c : Nat) : Prop :=
  (k3_59 P p Q y2 y7 y9 y11 H (c + 5))
def k3_63 (P : Program) (p : Lab) (Q : VPost) (x2 : AV) (x7 : AV) (x9 : AV) (x11 : AV) (H : Heap) (c : Nat) (_ : Unit) : Prop :=
  (k3_62 P p Q x2 x7 x9 x11 H (c + 7))
def V3_1 (P : Program) (p : Lab) (Q : VPost) (x2 x7 x9 x11 : AV) (H : Heap) (c : Nat) : Prop :=
  vLen x2 fun v46_33 =>
  vBin .lss .num x11 v46_33 fun v47_34 =>
  vSel v47_34
  (k3_61 P p Q x2 x7 x9 x11 H c)
  (k3_63 P p Q x2 x7 x9 x11 H c)
theorem vt3_1 (P : Program) (p : Lab) (Q : VPost) (x2 x7 x9 x11 : AV) (H : Heap) (c : Nat) : vc P p b3_1 Q [(2, x2), (7, x7), (9, x9), (11, x11)] H c = V3_1 P p Q x2 x7 x9 x11 H c := by kernel_rfl
theorem q3_0_e0 (P : Program) (p : Lab) (Q : VPost) (r : RL) (H : Heap) (c : Nat) : q3_0 P p Q (.exit 0) r H c = (vc P p r3_2 Q r H c) := rfl
def V3_2 (P : Program) (p : Lab) (Q : VPost) (x2 x7 x9 x11 x55 : AV) (H : Heap) (c : Nat) : Prop :=
  vCall P 15 [] H (c :: p) (fun v150_182 H182 l182 f182 =>
  Q .ret [(6, v150_182)] H182 (c + 2))
theorem vt3_2 (P : Program) (p : Lab) (Q : VPost) (x2 x7 x9 x11 x55 : AV) (H : Heap) (c : Nat) : vc P p r3_2 Q [(2, x2), (7, x7), (9, x9), (11, x11), (55, x55)] H c = V3_2 P p Q x2 x7 x9 x11 x55 H c := by kernel_rfl


/-- duet/resend.New -/
def c13 : AFun := ⟨2, 25, [.tmp 4, .tmp 5],
  (.seq (.region [⟨(some 4), none, .move, [.c .nilp]⟩, ⟨(some 5), none, .move, [.c (.int .i64 0)]⟩] none [0, 1])
  (.seq (.seq (.region [⟨(some 6), none, .move, [.t 0]⟩, ⟨(some 7), none, (.bin .lss .num), [.t 6, .c (.int .i64 1)]⟩, ⟨(some 8), none, .move, [.t 7]⟩, ⟨(some 9), (some (8, false)), .move, [.t 0]⟩, ⟨(some 10), (some (8, false)), (.bin .gtr .num), [.t 9, .c (.int .i64 16)]⟩, ⟨(some 11), none, .pick, [.t 8, .c (.bool true), .t 10]⟩, ⟨(some 12), none, .move, [.t 11]⟩, ⟨(some 13), (some (12, false)), .move, [.t 1]⟩, ⟨(some 14), (some (12, false)), (.bin .lss .num), [.t 13, .c (.int .i64 1)]⟩, ⟨(some 15), none, .pick, [.t 12, .c (.bool true), .t 14]⟩, ⟨(some 16), none, .move, [.t 15]⟩, ⟨(some 17), (some (16, false)), .move, [.t 1]⟩, ⟨(some 18), (some (16, false)), (.bin .gtr .num), [.t 17, .c (.int .i64 100000)]⟩, ⟨(some 19), none, .pick, [.t 16, .c (.bool true), .t 18]⟩] none [0, 1, 19])
  (.cond (.t 19) (.seq (.region [⟨(some 4), none, .move, [.c .nilp]⟩, ⟨(some 5), none, .move, [.c (.int .i64 1)]⟩] none [4, 5])
  .ret)
  .skip))
  (.seq (.region [⟨(some 20), none, .move, [.t 0]⟩, ⟨(some 21), none, .move, [.t 1]⟩, ⟨(some 22), none, .mkmap, []⟩, ⟨(some 23), none, (.build [(.int .i64 0), (.int .i64 0), .nilm] [(0, 1), (1, 1), (2, 1)]), [.t 20, .t 21, .t 22]⟩, ⟨(some 24), none, .box, [.t 23]⟩, ⟨(some 4), none, .move, [.t 24]⟩, ⟨(some 5), none, .move, [.c (.int .i64 0)]⟩] none [4, 5])
  .ret)))⟩
theorem ok13 : FunOk Try.prog 13 c13 := ⟨⟨Try.f13, _, Try.func13, rfl, by kernel_rfl, by kernel_rfl, by kernel_rfl, by kernel_rfl⟩, by decide⟩
theorem res13 : c13.res = [.tmp 4, .tmp 5] := rfl
def k13_2 (P : Program) (p : Lab) (Q : VPost) (y0 : AV) (y1 : AV) (H : Heap) (c : Nat) : Prop :=
  Q .ret [(4, .nilp), (5, (.int .i64 1))] H (c + 2)
def k13_1 (P : Program) (p : Lab) (Q : VPost) (y0 : AV) (y1 : AV) (H : Heap) (c : Nat) : Prop :=
  (k13_2 P p Q y0 y1 H (c + 5))
def k13_0 (P : Program) (p : Lab) (Q : VPost) (y0 : AV) (y1 : AV) (H : Heap) (c : Nat) : Prop :=
  (k13_1 P p Q y0 y1 H (c + 4))
def k13_3 (P : Program) (p : Lab) (Q : VPost) (x0 : AV) (x1 : AV) (H : Heap) (c : Nat) (_ : Unit) : Prop :=
  (k13_0 P p Q x0 x1 H (c + 7))
def k13_5 (P : Program) (p : Lab) (Q : VPost) (y0 : AV) (y1 : AV) (H : Heap) (c : Nat) : Prop :=
  (k13_2 P p Q y0 y1 H (c + 5))
def k13_6 (P : Program) (p : Lab) (Q : VPost) (y0 : AV) (y1 : AV) (H : Heap) (c : Nat) (_ : Unit) : Prop :=
  (k13_5 P p Q y0 y1 H (c + 4))
def k13_8 (P : Program) (p : Lab) (Q : VPost) (y0 : AV) (y1 : AV) (H : Heap) (c : Nat) (_ : Unit) : Prop :=
  (k13_2 P p Q y0 y1 H (c + 5))
def k13_10 (P : Program) (p : Lab) (Q : VPost)  (H : Heap) (c : Nat) : Prop :=
  Q .ret [(4, .nilp), (5, (.int .i64 1))] H c
def k13_11 (P : Program) (p : Lab) (Q : VPost) (H : Heap) (c : Nat) (_ : Unit) : Prop :=
  (k13_10 P p Q  H (c + 2))
def k13_13 (P : Program) (p : Lab) (Q : VPost) (y0 : AV) (y1 : AV) (c : Nat) (v22_31 : AV) (H31 : Heap) (l31 : List Lab) (f31 : Option (List Lab)) : Prop :=
  vBuild [(.int .i64 0), (.int .i64 0), .nilm] [(0, 1), (1, 1), (2, 1)] [y0, y1, v22_31] fun v23_32 =>
  vBox v23_32 fun w33 =>
  (fun (H33 : Heap) =>
  Q .ret [(4, (.ptr ((c + 4) :: p) w33.length 0 0)), (5, (.int .i64 0))] H33 (c + 7)) (upd [(((c + 4) :: p), some (.rows w33.length [w33]))] H31)
def k13_12 (P : Program) (p : Lab) (Q : VPost) (y0 : AV) (y1 : AV) (y19 : AV) (H : Heap) (c : Nat) : Prop :=
  vGen .mkmap [] H ((c + 2) :: p) (k13_13 P p Q y0 y1 c)
def k13_14 (P : Program) (p : Lab) (Q : VPost) (y0 : AV) (y1 : AV) (y19 : AV) (H : Heap) (c : Nat) (_ : Unit) : Prop :=
  (k13_12 P p Q y0 y1 y19 H c)
def k13_9 (P : Program) (p : Lab) (Q : VPost) (y0 : AV) (y1 : AV) (y19 : AV) (H : Heap) (c : Nat) : Prop :=
  vSel y19
  (k13_11 P p Q H c)
  (k13_14 P p Q y0 y1 y19 H c)
def k13_15 (P : Program) (p : Lab) (Q : VPost) (y0 : AV) (y1 : AV) (H : Heap) (c : Nat) (_ : Unit) : Prop :=
  vBin .gtr .num y1 (.int .i64 100000) fun v18_25 =>
  (k13_9 P p Q y0 y1 v18_25 H (c + 5))
def k13_7 (P : Program) (p : Lab) (Q : VPost) (y0 : AV) (y1 : AV) (y14 : AV) (H : Heap) (c : Nat) : Prop :=
  vSel y14
  (k13_8 P p Q y0 y1 H c)
  (k13_15 P p Q y0 y1 H c)
def k13_16 (P : Program) (p : Lab) (Q : VPost) (y0 : AV) (y1 : AV) (H : Heap) (c : Nat) (_ : Unit) : Prop :=
  vBin .lss .num y1 (.int .i64 1) fun v14_20 =>
  (k13_7 P p Q y0 y1 v14_20 H (c + 4))
def k13_4 (P : Program) (p : Lab) (Q : VPost) (y0 : AV) (y1 : AV) (y10 : AV) (H : Heap) (c : Nat) : Prop :=
  vSel y10
  (k13_6 P p Q y0 y1 H c)
  (k13_16 P p Q y0 y1 H c)
def k13_17 (P : Program) (p : Lab) (Q : VPost) (x0 : AV) (x1 : AV) (H : Heap) (c : Nat) (_ : Unit) : Prop :=
  vBin .gtr .num x0 (.int .i64 16) fun v10_13 =>
  (k13_4 P p Q x0 x1 v10_13 H (c + 7))
def V13 (P : Program) (p : Lab) (Q : VPost) (x0 x1 : AV) (H : Heap) (c : Nat) : Prop :=
  vBin .lss .num x0 (.int .i64 1) fun v7_3 =>
  vSel v7_3
  (k13_3 P p Q x0 x1 H c)
  (k13_17 P p Q x0 x1 H c)
theorem vt13 (P : Program) (p : Lab) (Q : VPost) (x0 x1 : AV) (H : Heap) (c : Nat) : vc P p c13.body Q [(0, x0), (1, x1)] H c = V13 P p Q x0 x1 H c := by kernel_rfl


/-- duet/duetref08.New -/
def c14 : AFun := ⟨2, 24, [.tmp 4, .tmp 5],
  (.seq (.region [⟨(some 4), none, .move, [.c .nilp]⟩, ⟨(some 5), none, .move, [.c (.int .i64 0)]⟩] none [0, 1])
  (.seq (.seq (.region [⟨(some 6), none, .move, [.t 0]⟩, ⟨(some 7), none, (.bin .lss .num), [.t 6, .c (.int .i64 1)]⟩, ⟨(some 8), none, .move, [.t 7]⟩, ⟨(some 9), (some (8, false)), .move, [.t 0]⟩, ⟨(some 10), (some (8, false)), (.bin .gtr .num), [.t 9, .c (.int .i64 16)]⟩, ⟨(some 11), none, .pick, [.t 8, .c (.bool true), .t 10]⟩, ⟨(some 12), none, .move, [.t 11]⟩, ⟨(some 13), (some (12, false)), .move, [.t 1]⟩, ⟨(some 14), (some (12, false)), (.bin .lss .num), [.t 13, .c (.int .i64 1)]⟩, ⟨(some 15), none, .pick, [.t 12, .c (.bool true), .t 14]⟩, ⟨(some 16), none, .move, [.t 15]⟩, ⟨(some 17), (some (16, false)), .move, [.t 1]⟩, ⟨(some 18), (some (16, false)), (.bin .gtr .num), [.t 17, .c (.int .i64 100000)]⟩, ⟨(some 19), none, .pick, [.t 16, .c (.bool true), .t 18]⟩] none [0, 1, 19])
  (.cond (.t 19) (.seq (.region [⟨(some 4), none, .move, [.c .nilp]⟩, ⟨(some 5), none, .move, [.c (.int .i64 1)]⟩] none [4, 5])
  .ret)
  .skip))
  (.seq (.region [⟨(some 20), none, .move, [.t 0]⟩, ⟨(some 21), none, .move, [.t 1]⟩, ⟨(some 22), none, (.build [(.int .i64 0), (.int .i64 0), .nils] [(0, 1), (1, 1)]), [.t 20, .t 21]⟩, ⟨(some 23), none, .box, [.t 22]⟩, ⟨(some 4), none, .move, [.t 23]⟩, ⟨(some 5), none, .move, [.c (.int .i64 0)]⟩] none [4, 5])
  .ret)))⟩
theorem ok14 : FunOk Try.prog 14 c14 := ⟨⟨Try.f14, _, Try.func14, rfl, by kernel_rfl, by kernel_rfl, by kernel_rfl, by kernel_rfl⟩, by decide⟩
theorem res14 : c14.res = [.tmp 4, .tmp 5] := rfl
def k14_2 (P : Program) (p : Lab) (Q : VPost) (y0 : AV) (y1 : AV) (H : Heap) (c : Nat) : Prop :=
  Q .ret [(4, .nilp), (5, (.int .i64 1))] H (c + 2)
def k14_1 (P : Program) (p : Lab) (Q : VPost) (y0 : AV) (y1 : AV) (H : Heap) (c : Nat) : Prop :=
  (k14_2 P p Q y0 y1 H (c + 5))
def k14_0 (P : Program) (p : Lab) (Q : VPost) (y0 : AV) (y1 : AV) (H : Heap) (c : Nat) : Prop :=
  (k14_1 P p Q y0 y1 H (c + 4))
def k14_3 (P : Program) (p : Lab) (Q : VPost) (x0 : AV) (x1 : AV) (H : Heap) (c : Nat) (_ : Unit) : Prop :=
  (k14_0 P p Q x0 x1 H (c + 7))
def k14_5 (P : Program) (p : Lab) (Q : VPost) (y0 : AV) (y1 : AV) (H : Heap) (c : Nat) : Prop :=
  (k14_2 P p Q y0 y1 H (c + 5))
def k14_6 (P : Program) (p : Lab) (Q : VPost) (y0 : AV) (y1 : AV) (H : Heap) (c : Nat) (_ : Unit) : Prop :=
  (k14_5 P p Q y0 y1 H (c + 4))
def k14_8 (P : Program) (p : Lab) (Q : VPost) (y0 : AV) (y1 : AV) (H : Heap) (c : Nat) (_ : Unit) : Prop :=
  (k14_2 P p Q y0 y1 H (c + 5))
def k14_10 (P : Program) (p : Lab) (Q : VPost)  (H : Heap) (c : Nat) : Prop :=
  Q .ret [(4, .nilp), (5, (.int .i64 1))] H c
def k14_11 (P : Program) (p : Lab) (Q : VPost) (H : Heap) (c : Nat) (_ : Unit) : Prop :=
  (k14_10 P p Q  H (c + 2))
def k14_12 (P : Program) (p : Lab) (Q : VPost) (y0 : AV) (y1 : AV) (y19 : AV) (H : Heap) (c : Nat) : Prop :=
  vBuild [(.int .i64 0), (.int .i64 0), .nils] [(0, 1), (1, 1)] [y0, y1] fun v22_31 =>
  vBox v22_31 fun w32 =>
  (fun (H32 : Heap) =>
  Q .ret [(4, (.ptr ((c + 3) :: p) w32.length 0 0)), (5, (.int .i64 0))] H32 (c + 6)) (upd [(((c + 3) :: p), some (.rows w32.length [w32]))] H)
def k14_13 (P : Program) (p : Lab) (Q : VPost) (y0 : AV) (y1 : AV) (y19 : AV) (H : Heap) (c : Nat) (_ : Unit) : Prop :=
  (k14_12 P p Q y0 y1 y19 H c)
def k14_9 (P : Program) (p : Lab) (Q : VPost) (y0 : AV) (y1 : AV) (y19 : AV) (H : Heap) (c : Nat) : Prop :=
  vSel y19
  (k14_11 P p Q H c)
  (k14_13 P p Q y0 y1 y19 H c)
def k14_14 (P : Program) (p : Lab) (Q : VPost) (y0 : AV) (y1 : AV) (H : Heap) (c : Nat) (_ : Unit) : Prop :=
  vBin .gtr .num y1 (.int .i64 100000) fun v18_25 =>
  (k14_9 P p Q y0 y1 v18_25 H (c + 5))
def k14_7 (P : Program) (p : Lab) (Q : VPost) (y0 : AV) (y1 : AV) (y14 : AV) (H : Heap) (c : Nat) : Prop :=
  vSel y14
  (k14_8 P p Q y0 y1 H c)
  (k14_14 P p Q y0 y1 H c)
def k14_15 (P : Program) (p : Lab) (Q : VPost) (y0 : AV) (y1 : AV) (H : Heap) (c : Nat) (_ : Unit) : Prop :=
  vBin .lss .num y1 (.int .i64 1) fun v14_20 =>
  (k14_7 P p Q y0 y1 v14_20 H (c + 4))
def k14_4 (P : Program) (p : Lab) (Q : VPost) (y0 : AV) (y1 : AV) (y10 : AV) (H : Heap) (c : Nat) : Prop :=
  vSel y10
  (k14_6 P p Q y0 y1 H c)
  (k14_15 P p Q y0 y1 H c)
def k14_16 (P : Program) (p : Lab) (Q : VPost) (x0 : AV) (x1 : AV) (H : Heap) (c : Nat) (_ : Unit) : Prop :=
  vBin .gtr .num x0 (.int .i64 16) fun v10_13 =>
  (k14_4 P p Q x0 x1 v10_13 H (c + 7))
def V14 (P : Program) (p : Lab) (Q : VPost) (x0 x1 : AV) (H : Heap) (c : Nat) : Prop :=
  vBin .lss .num x0 (.int .i64 1) fun v7_3 =>
  vSel v7_3
  (k14_3 P p Q x0 x1 H c)
  (k14_16 P p Q x0 x1 H c)
theorem vt14 (P : Program) (p : Lab) (Q : VPost) (x0 x1 : AV) (H : Heap) (c : Nat) : vc P p c14.body Q [(0, x0), (1, x1)] H c = V14 P p Q x0 x1 H c := by kernel_rfl


/-- (*duet/resend.Store).Keep -/
def c16 : AFun := ⟨2, 57, [.tmp 4],
  (.seq (.region [⟨(some 3), none, .box, [.t 1]⟩, ⟨(some 4), none, .move, [.c (.int .i64 0)]⟩] none [0, 3])
  (.seq (.seq (.region [⟨(some 8), none, .move, [.t 0]⟩, ⟨(some 9), none, (.bin .eql .ptr), [.t 8, .c .nilp]⟩, ⟨(some 10), none, .move, [.t 9]⟩, ⟨(some 11), (some (10, false)), (.load 10 true), [.t 3]⟩, ⟨(some 12), (some (10, false)), .call, [.c (.fn (.func 43) [] []), .t 11]⟩, ⟨(some 13), (some (10, false)), (.bin .neq .num), [.t 12, .c (.int .i64 0)]⟩, ⟨(some 14), none, .pick, [.t 10, .c (.bool true), .t 13]⟩, ⟨(some 15), none, .move, [.t 14]⟩, ⟨(some 16), (some (15, false)), (.fieldAddr 2), [.t 3]⟩, ⟨(some 17), (some (15, false)), (.load 1 false), [.t 16]⟩, ⟨(some 18), (some (15, false)), (.len .slice), [.t 17]⟩, ⟨(some 19), (some (15, false)), .move, [.t 0]⟩, ⟨(some 20), (some (15, false)), .nilCheck, [.t 19]⟩, ⟨(some 21), (some (15, false)), (.fieldAddr 0), [.t 20]⟩, ⟨(some 22), (some (15, false)), (.load 1 false), [.t 21]⟩, ⟨(some 23), (some (15, false)), (.bin .neq .num), [.t 18, .t 22]⟩, ⟨(some 24), none, .pick, [.t 15, .c (.bool true), .t 23]⟩] (some [0, 1, 3, 7, 15, 31, 63, 127, 255, 511, 1023, 255, 2303, 6399, 14591, 32767, 65535]) [0, 3, 24])
  (.cond (.t 24) (.seq (.region [⟨(some 4), none, .move, [.c (.int .i64 1)]⟩] none [4])
  .ret)
  .skip))
  (.seq (.region [⟨(some 25), none, (.fieldAddr 0), [.t 3]⟩, ⟨(some 26), none, (.load 1 false), [.t 25]⟩, ⟨(some 27), none, (.fieldAddr 1), [.t 3]⟩, ⟨(some 28), none, (.load 1 false), [.t 27]⟩, ⟨(some 29), none, (.build [(.int .i64 0), (.int .i64 0)] [(0, 1), (1, 1)]), [.t 26, .t 28]⟩, ⟨(some 5), none, (.alloc [(.int .i64 0), (.int .i64 0)]), []⟩, ⟨none, none, (.store 2), [.t 5, .t 29]⟩] none [0, 3, 5])
  (.seq (.seq (.region [⟨(some 31), none, .move, [.t 0]⟩, ⟨(some 32), none, .nilCheck, [.t 31]⟩, ⟨(some 33), none, (.fieldAddr 2), [.t 32]⟩, ⟨(some 34), none, (.load 1 false), [.t 33]⟩, ⟨(some 35), none, (.load 2 true), [.t 5]⟩, ⟨(some 36), none, (.lookup true [.int, .int] (.agg [(.int .i64 0), (.int .i64 0), .nils, (.int .i64 0), (.int .i64 0), (.int .i64 0), (.int .i64 0), (.int .i64 0), (.int .i64 0), (.int .i64 0)]) true), [.t 34, .t 35]⟩, ⟨(some 30), none, .move, [.t 36]⟩, ⟨(some 37), none, (.extract 0), [.t 30]⟩, ⟨(some 38), none, (.extract 1), [.t 30]⟩, ⟨(some 6), none, (.alloc [(.int .i64 0), (.int .i64 0), .nils, (.int .i64 0), (.int .i64 0), (.int .i64 0), (.int .i64 0), (.int .i64 0), (.int .i64 0), (.int .i64 0)]), []⟩, ⟨none, none, (.store 10), [.t 6, .t 37]⟩, ⟨(some 7), none, .move, [.t 38]⟩] (some [0, 1, 3, 7, 0, 31, 63, 127, 127, 0, 767, 2047]) [0, 3, 5, 7])
  (.seq (.region [⟨(some 39), none, .move, [.t 7]⟩] none [0, 3, 5, 39])
  (.cond (.t 39) (.seq (.region [⟨(some 4), none, .move, [.c (.int .i64 7)]⟩] none [4])
  .ret)
  .skip)))
  (.seq (.seq (.region [⟨(some 40), none, .move, [.t 0]⟩, ⟨(some 41), none, .nilCheck, [.t 40]⟩, ⟨(some 42), none, (.fieldAddr 2), [.t 41]⟩, ⟨(some 43), none, (.load 1 false), [.t 42]⟩, ⟨(some 44), none, (.len .map), [.t 43]⟩, ⟨(some 45), none, .move, [.t 0]⟩, ⟨(some 46), none, .nilCheck, [.t 45]⟩, ⟨(some 47), none, (.fieldAddr 1), [.t 46]⟩, ⟨(some 48), none, (.load 1 false), [.t 47]⟩, ⟨(some 49), none, (.bin .geq .num), [.t 44, .t 48]⟩] (some [0, 1, 3, 7, 15, 0, 32, 96, 224, 511]) [0, 3, 5, 49])
  (.cond (.t 49) (.seq (.region [⟨(some 4), none, .move, [.c (.int .i64 5)]⟩] none [4])
  .ret)
  .skip))
  (.seq (.region [⟨(some 50), none, .move, [.t 0]⟩, ⟨(some 51), none, .nilCheck, [.t 50]⟩, ⟨(some 52), none, (.fieldAddr 2), [.t 51]⟩, ⟨(some 53), none, (.load 1 false), [.t 52]⟩, ⟨(some 54), none, (.load 2 true), [.t 5]⟩, ⟨(some 55), none, (.load 10 true), [.t 3]⟩, ⟨(some 56), none, .call, [.c (.fn (.func 44) [] []), .t 55]⟩, ⟨none, none, (.mapUpdate true [.int, .int]), [.t 53, .t 54, .t 56]⟩] (some [0, 1, 3, 7, 0, 0, 32, 127]) [])
  (.seq (.region [⟨(some 4), none, .move, [.c (.int .i64 0)]⟩] none [4])
  .ret)))))))⟩
theorem ok16 : FunOk Try.prog 16 c16 := ⟨⟨Try.f16, _, Try.func16, rfl, by kernel_rfl, by kernel_rfl, by kernel_rfl, by kernel_rfl⟩, by decide⟩
theorem res16 : c16.res = [.tmp 4] := rfl
def k16_0 (P : Program) (p : Lab) (Q : VPost) (y0 : AV) (y3 : AV) (H : Heap) (c : Nat) : Prop :=
  Q .ret [(4, (.int .i64 1))] H (c + 1)
def k16_1 (P : Program) (p : Lab) (Q : VPost) (H0 : Heap) (w0 : List AV) (x0 : AV) (c : Nat) (_ : Unit) : Prop :=
  clashFree [0, 1, 3, 7, 15, 31, 63, 127, 255, 511, 1023, 255, 2303, 6399, 14591, 32767, 65535] [] ∧
  (k16_0 P p Q x0 (.ptr (c :: p) w0.length 0 0) H0 (c + 19))
def k16_2 (P : Program) (p : Lab) (Q : VPost) (H10 : Heap) (l10 : List Lab) (f10 : Option (List Lab)) (f9 : Option (List Lab)) (w0 : List AV) (x0 : AV) (c : Nat) (_ : Unit) : Prop :=
  clashFree [0, 1, 3, 7, 15, 31, 63, 127, 255, 511, 1023, 255, 2303, 6399, 14591, 32767, 65535] (addTr 3 [] ((c + 5) :: p) f9 (addTr 4 l10 ((c + 6) :: p) f10 [])) ∧
  (k16_0 P p Q x0 (.ptr (c :: p) w0.length 0 0) H10 (c + 19))
def k16_4 (P : Program) (p : Lab) (Q : VPost)  (H : Heap) (c : Nat) : Prop :=
  Q .ret [(4, (.int .i64 1))] H c
def k16_5 (P : Program) (p : Lab) (Q : VPost) (H : Heap) (c : Nat) (_ : Unit) : Prop :=
  (k16_4 P p Q  H (c + 1))
def k16_7 (P : Program) (p : Lab) (Q : VPost)  (H : Heap) (c : Nat) : Prop :=
  Q .ret [(4, (.int .i64 7))] H c
def k16_8 (P : Program) (p : Lab) (Q : VPost) (H42 : Heap) (c : Nat) (_ : Unit) : Prop :=
  (k16_7 P p Q  H42 (c + 21))
def k16_10 (P : Program) (p : Lab) (Q : VPost)  (H : Heap) (c : Nat) : Prop :=
  Q .ret [(4, (.int .i64 5))] H c
def k16_11 (P : Program) (p : Lab) (Q : VPost) (H50 : Heap) (c : Nat) (_ : Unit) : Prop :=
  (k16_10 P p Q  H50 (c + 11))
def k16_13 (P : Program) (p : Lab) (Q : VPost) (l63 : List Lab) (f63 : Option (List Lab)) (f62 : Option (List Lab)) (f61 : Option (List Lab)) (f60 : Option (List Lab)) (c : Nat) (v_64 : AV) (H64 : Heap) (l64 : List Lab) (f64 : Option (List Lab)) : Prop :=
  clashFree [0, 1, 3, 7, 0, 0, 32, 127] (addTr 3 [] ((c + 3) :: p) f60 (addTr 4 [] ((c + 4) :: p) f61 (addTr 5 [] ((c + 5) :: p) f62 (addTr 6 l63 ((c + 6) :: p) f63 (addTr 7 l64 ((c + 7) :: p) f64 []))))) ∧
  Q .ret [(4, (.int .i64 0))] H64 (c + 9)
def k16_14 (P : Program) (p : Lab) (Q : VPost) (f62 : Option (List Lab)) (v54_61 : AV) (f61 : Option (List Lab)) (v53_60 : AV) (f60 : Option (List Lab)) (c : Nat) (v56_63 : AV) (H63 : Heap) (l63 : List Lab) (f63 : Option (List Lab)) : Prop :=
  vGen (.mapUpdate true [.int, .int]) [v53_60, v54_61, v56_63] H63 ((c + 7) :: p) (k16_13 P p Q l63 f63 f62 f61 f60 c)
def k16_12 (P : Program) (p : Lab) (Q : VPost) (y0 : AV) (y3 : AV) (y5 : AV) (y49 : AV) (H : Heap) (c : Nat) : Prop :=
  vNil y0 fun v51_58 =>
  vFA 2 v51_58 fun v52_59 =>
  vLoad 1 false v52_59 H fun v53_60 f60 =>
  vLoad 2 true y5 H fun v54_61 f61 =>
  vLoad 10 true y3 H fun v55_62 f62 =>
  vCall P 44 [v55_62] H ((c + 6) :: p) (k16_14 P p Q f62 v54_61 f61 v53_60 f60 c)
def k16_15 (P : Program) (p : Lab) (Q : VPost) (v49_55 : AV) (H50 : Heap) (y0 : AV) (y3 : AV) (y5 : AV) (c : Nat) (_ : Unit) : Prop :=
  (k16_12 P p Q y0 y3 y5 v49_55 H50 (c + 10))
def k16_16 (P : Program) (p : Lab) (Q : VPost) (f49 : Option (List Lab)) (y0 : AV) (y3 : AV) (y5 : AV) (c : Nat) (v44_50 : AV) (H50 : Heap) (l50 : List Lab) (f50 : Option (List Lab)) : Prop :=
  vNil y0 fun v46_52 =>
  vFA 1 v46_52 fun v47_53 =>
  vLoad 1 false v47_53 H50 fun v48_54 f54 =>
  vBin .geq .num v44_50 v48_54 fun v49_55 =>
  clashFree [0, 1, 3, 7, 15, 0, 32, 96, 224, 511] (addTr 3 [] ((c + 3) :: p) f49 (addTr 4 l50 ((c + 4) :: p) f50 (addTr 8 [] ((c + 8) :: p) f54 []))) ∧
  vSel v49_55
  (k16_11 P p Q H50 c)
  (k16_15 P p Q v49_55 H50 y0 y3 y5 c)
def k16_9 (P : Program) (p : Lab) (Q : VPost) (y0 : AV) (y3 : AV) (y5 : AV) (y39 : AV) (H : Heap) (c : Nat) : Prop :=
  vNil y0 fun v41_47 =>
  vFA 2 v41_47 fun v42_48 =>
  vLoad 1 false v42_48 H fun v43_49 f49 =>
  vGen (.len .map) [v43_49] H ((c + 4) :: p) (k16_16 P p Q f49 y0 y3 y5 c)
def k16_17 (P : Program) (p : Lab) (Q : VPost) (H42 : Heap) (v38_40 : AV) (y0 : AV) (y3 : AV) (c : Nat) (_ : Unit) : Prop :=
  (k16_9 P p Q y0 y3 (.ptr ((c + 5) :: p) 2 0 0) v38_40 H42 (c + 20))
def k16_18 (P : Program) (p : Lab) (Q : VPost) (v38_40 : AV) (l37 : List Lab) (f37 : Option (List Lab)) (f36 : Option (List Lab)) (f35 : Option (List Lab)) (y0 : AV) (y3 : AV) (c : Nat) (v_42 : AV) (H42 : Heap) (l42 : List Lab) (f42 : Option (List Lab)) : Prop :=
  clashFree [0, 1, 3, 7, 0, 31, 63, 127, 127, 0, 767, 2047] (addTr 3 [] ((c + 10) :: p) f35 (addTr 4 [] ((c + 11) :: p) f36 (addTr 5 l37 ((c + 12) :: p) f37 (addTr 9 [((c + 16) :: p)] ((c + 16) :: p) (some []) (addTr 10 l42 ((c + 17) :: p) f42 []))))) ∧
  vSel v38_40
  (k16_8 P p Q H42 c)
  (k16_17 P p Q H42 v38_40 y0 y3 c)
def k16_19 (P : Program) (p : Lab) (Q : VPost) (f36 : Option (List Lab)) (f35 : Option (List Lab)) (y0 : AV) (y3 : AV) (c : Nat) (v36_37 : AV) (H37 : Heap) (l37 : List Lab) (f37 : Option (List Lab)) : Prop :=
  vExt 0 v36_37 fun v37_39 =>
  vExt 1 v36_37 fun v38_40 =>
  (fun (H41 : Heap) =>
  vGen (.store 10) [(.ptr ((c + 16) :: p) 10 0 0), v37_39] H41 ((c + 17) :: p) (k16_18 P p Q v38_40 l37 f37 f36 f35 y0 y3 c)) (upd [(((c + 16) :: p), some (.rows 10 [[(.int .i64 0), (.int .i64 0), .nils, (.int .i64 0), (.int .i64 0), (.int .i64 0), (.int .i64 0), (.int .i64 0), (.int .i64 0), (.int .i64 0)]]))] H37)
def k16_20 (P : Program) (p : Lab) (Q : VPost) (y0 : AV) (y3 : AV) (c : Nat) (v_31 : AV) (H31 : Heap) (l31 : List Lab) (f31 : Option (List Lab)) : Prop :=
  vNil y0 fun v32_33 =>
  vFA 2 v32_33 fun v33_34 =>
  vLoad 1 false v33_34 H31 fun v34_35 f35 =>
  vLoad 2 true (.ptr ((c + 5) :: p) 2 0 0) H31 fun v35_36 f36 =>
  vGen (.lookup true [.int, .int] (.agg [(.int .i64 0), (.int .i64 0), .nils, (.int .i64 0), (.int .i64 0), (.int .i64 0), (.int .i64 0), (.int .i64 0), (.int .i64 0), (.int .i64 0)]) true) [v34_35, v35_36] H31 ((c + 12) :: p) (k16_19 P p Q f36 f35 y0 y3 c)
def k16_6 (P : Program) (p : Lab) (Q : VPost) (y0 : AV) (y3 : AV) (y24 : AV) (H : Heap) (c : Nat) : Prop :=
  vFA 0 y3 fun v25_25 =>
  vLoad 1 false v25_25 H fun v26_26 _ =>
  vFA 1 y3 fun v27_27 =>
  vLoad 1 false v27_27 H fun v28_28 _ =>
  vBuild [(.int .i64 0), (.int .i64 0)] [(0, 1), (1, 1)] [v26_26, v28_28] fun v29_29 =>
  (fun (H30 : Heap) =>
  vGen (.store 2) [(.ptr ((c + 5) :: p) 2 0 0), v29_29] H30 ((c + 6) :: p) (k16_20 P p Q y0 y3 c)) (upd [(((c + 5) :: p), some (.rows 2 [[(.int .i64 0), (.int .i64 0)]]))] H)
def k16_21 (P : Program) (p : Lab) (Q : VPost) (y0 : AV) (y3 : AV) (y24 : AV) (H : Heap) (c : Nat) (_ : Unit) : Prop :=
  (k16_6 P p Q y0 y3 y24 H c)
def k16_3 (P : Program) (p : Lab) (Q : VPost) (y0 : AV) (y3 : AV) (y24 : AV) (H : Heap) (c : Nat) : Prop :=
  vSel y24
  (k16_5 P p Q H c)
  (k16_21 P p Q y0 y3 y24 H c)
def k16_22 (P : Program) (p : Lab) (Q : VPost) (H10 : Heap) (l10 : List Lab) (f10 : Option (List Lab)) (f9 : Option (List Lab)) (w0 : List AV) (x0 : AV) (c : Nat) (_ : Unit) : Prop :=
  vFA 2 (.ptr (c :: p) w0.length 0 0) fun v16_15 =>
  vLoad 1 false v16_15 H10 fun v17_16 f16 =>
  vLen v17_16 fun v18_17 =>
  vNil x0 fun v20_19 =>
  vFA 0 v20_19 fun v21_20 =>
  vLoad 1 false v21_20 H10 fun v22_21 f21 =>
  vBin .neq .num v18_17 v22_21 fun v23_22 =>
  clashFree [0, 1, 3, 7, 15, 31, 63, 127, 255, 511, 1023, 255, 2303, 6399, 14591, 32767, 65535] (addTr 3 [] ((c + 5) :: p) f9 (addTr 4 l10 ((c + 6) :: p) f10 (addTr 9 [] ((c + 11) :: p) f16 (addTr 14 [] ((c + 16) :: p) f21 [])))) ∧
  (k16_3 P p Q x0 (.ptr (c :: p) w0.length 0 0) v23_22 H10 (c + 19))
def k16_23 (P : Program) (p : Lab) (Q : VPost) (f9 : Option (List Lab)) (w0 : List AV) (x0 : AV) (c : Nat) (v12_10 : AV) (H10 : Heap) (l10 : List Lab) (f10 : Option (List Lab)) : Prop :=
  vBin .neq .num v12_10 (.int .i64 0) fun v13_11 =>
  vSel v13_11
  (k16_2 P p Q H10 l10 f10 f9 w0 x0 c)
  (k16_22 P p Q H10 l10 f10 f9 w0 x0 c)
def k16_24 (P : Program) (p : Lab) (Q : VPost) (H0 : Heap) (w0 : List AV) (x0 : AV) (c : Nat) (_ : Unit) : Prop :=
  vLoad 10 true (.ptr (c :: p) w0.length 0 0) H0 fun v11_9 f9 =>
  vCall P 43 [v11_9] H0 ((c + 6) :: p) (k16_23 P p Q f9 w0 x0 c)
def V16 (P : Program) (p : Lab) (Q : VPost) (x0 x1 : AV) (H : Heap) (c : Nat) : Prop :=
  vBox x1 fun w0 =>
  (fun (H0 : Heap) =>
  vBin .eql .ptr x0 .nilp fun v9_3 =>
  vSel v9_3
  (k16_1 P p Q H0 w0 x0 c)
  (k16_24 P p Q H0 w0 x0 c)) (upd [((c :: p), some (.rows w0.length [w0]))] H)
theorem vt16 (P : Program) (p : Lab) (Q : VPost) (x0 x1 : AV) (H : Heap) (c : Nat) : vc P p c16.body Q [(0, x0), (1, x1)] H c = V16 P p Q x0 x1 H c := by kernel_rfl


/-- (*duet/duetref08.Store).Keep -/
def c17 : AFun := ⟨2, 52, [.tmp 4],
  (.seq (.region [⟨(some 3), none, .box, [.t 1]⟩, ⟨(some 4), none, .move, [.c (.int .i64 0)]⟩] none [0, 3])
  (.seq (.seq (.region [⟨(some 7), none, (.load 10 true), [.t 3]⟩, ⟨(some 8), none, .call, [.c (.fn (.func 27) [] []), .t 7]⟩, ⟨(some 9), none, (.bin .neq .num), [.t 8, .c (.int .i64 0)]⟩, ⟨(some 10), none, .move, [.t 9]⟩, ⟨(some 11), (some (10, false)), (.fieldAddr 2), [.t 3]⟩, ⟨(some 12), (some (10, false)), (.load 1 false), [.t 11]⟩, ⟨(some 13), (some (10, false)), (.len .slice), [.t 12]⟩, ⟨(some 14), (some (10, false)), .move, [.t 0]⟩, ⟨(some 15), (some (10, false)), .nilCheck, [.t 14]⟩, ⟨(some 16), (some (10, false)), (.fieldAddr 0), [.t 15]⟩, ⟨(some 17), (some (10, false)), (.load 1 false), [.t 16]⟩, ⟨(some 18), (some (10, false)), (.bin .neq .num), [.t 13, .t 17]⟩, ⟨(some 19), none, .pick, [.t 10, .c (.bool true), .t 18]⟩] (some [0, 1, 3, 7, 15, 31, 63, 15, 143, 399, 911, 2047, 4095]) [0, 3, 19])
  (.cond (.t 19) (.seq (.region [⟨(some 4), none, .move, [.c (.int .i64 1)]⟩] none [4])
  .ret)
  .skip))
  (.seq (.region [⟨(some 21), none, .move, [.t 0]⟩, ⟨(some 22), none, (.fieldAddr 0), [.t 3]⟩, ⟨(some 23), none, (.load 1 false), [.t 22]⟩, ⟨(some 24), none, (.fieldAddr 1), [.t 3]⟩, ⟨(some 25), none, (.load 1 false), [.t 24]⟩, ⟨(some 26), none, (.build [(.int .i64 0), (.int .i64 0)] [(0, 1), (1, 1)]), [.t 23, .t 25]⟩, ⟨(some 27), none, .call, [.c (.fn (.func 21) [] []), .t 21, .t 26]⟩, ⟨(some 20), none, .move, [.t 27]⟩, ⟨(some 28), none, (.extract 0), [.t 20]⟩, ⟨(some 29), none, (.extract 1), [.t 20]⟩, ⟨(some 5), none, (.alloc [(.int .i64 0), (.int .i64 0), .nils, (.int .i64 0), (.int .i64 0), (.int .i64 0), (.int .i64 0), (.int .i64 0), (.int .i64 0), (.int .i64 0)]), []⟩, ⟨none, none, (.store 10), [.t 5, .t 28]⟩, ⟨(some 6), none, .move, [.t 29]⟩] none [0, 3, 6])
  (.seq (.seq (.region [⟨(some 30), none, .move, [.t 6]⟩] none [0, 3, 30])
  (.cond (.t 30) (.seq (.region [⟨(some 4), none, .move, [.c (.int .i64 7)]⟩] none [4])
  .ret)
  .skip))
  (.seq (.seq (.region [⟨(some 31), none, .move, [.t 0]⟩, ⟨(some 32), none, .nilCheck, [.t 31]⟩, ⟨(some 33), none, (.fieldAddr 2), [.t 32]⟩, ⟨(some 34), none, (.load 1 false), [.t 33]⟩, ⟨(some 35), none, (.len .slice), [.t 34]⟩, ⟨(some 36), none, .move, [.t 0]⟩, ⟨(some 37), none, .nilCheck, [.t 36]⟩, ⟨(some 38), none, (.fieldAddr 1), [.t 37]⟩, ⟨(some 39), none, (.load 1 false), [.t 38]⟩, ⟨(some 40), none, (.bin .geq .num), [.t 35, .t 39]⟩] (some [0, 1, 3, 7, 15, 0, 32, 96, 224, 511]) [0, 3, 40])
  (.cond (.t 40) (.seq (.region [⟨(some 4), none, .move, [.c (.int .i64 5)]⟩] none [4])
  .ret)
  .skip))
  (.seq (.region [⟨(some 41), none, .move, [.t 0]⟩, ⟨(some 42), none, .move, [.t 0]⟩, ⟨(some 43), none, .nilCheck, [.t 42]⟩, ⟨(some 44), none, (.fieldAddr 2), [.t 43]⟩, ⟨(some 45), none, (.load 1 false), [.t 44]⟩, ⟨(some 46), none, (.load 10 true), [.t 3]⟩, ⟨(some 47), none, .call, [.c (.fn (.func 45) [] []), .t 46]⟩, ⟨(some 48), none, (.buildSlice 10 [(.int .i64 0), (.int .i64 0), .nils, (.int .i64 0), (.int .i64 0), (.int .i64 0), (.int .i64 0), (.int .i64 0), (.int .i64 0), (.int .i64 0)] [(0, 10)]), [.t 47]⟩, ⟨(some 49), none, (.append 10 96), [.t 45, .t 48]⟩, ⟨(some 50), none, .nilCheck, [.t 41]⟩, ⟨(some 51), none, (.fieldAddr 2), [.t 50]⟩, ⟨none, none, (.store 1), [.t 51, .t 49]⟩] (some [0, 0, 2, 6, 14, 0, 32, 96, 254, 511, 1023, 2047]) [])
  (.seq (.region [⟨(some 4), none, .move, [.c (.int .i64 0)]⟩] none [4])
  .ret)))))))⟩
theorem ok17 : FunOk Try.prog 17 c17 := ⟨⟨Try.f17, _, Try.func17, rfl, by kernel_rfl, by kernel_rfl, by kernel_rfl, by kernel_rfl⟩, by decide⟩
theorem res17 : c17.res = [.tmp 4] := rfl
def k17_0 (P : Program) (p : Lab) (Q : VPost) (y0 : AV) (y3 : AV) (H : Heap) (c : Nat) : Prop :=
  Q .ret [(4, (.int .i64 1))] H (c + 1)
def k17_1 (P : Program) (p : Lab) (Q : VPost) (H3 : Heap) (l3 : List Lab) (f3 : Option (List Lab)) (f2 : Option (List Lab)) (w0 : List AV) (x0 : AV) (c : Nat) (_ : Unit) : Prop :=
  clashFree [0, 1, 3, 7, 15, 31, 63, 15, 143, 399, 911, 2047, 4095] (addTr 0 [] ((c + 2) :: p) f2 (addTr 1 l3 ((c + 3) :: p) f3 [])) ∧
  (k17_0 P p Q x0 (.ptr (c :: p) w0.length 0 0) H3 (c + 15))
def k17_3 (P : Program) (p : Lab) (Q : VPost)  (H : Heap) (c : Nat) : Prop :=
  Q .ret [(4, (.int .i64 1))] H c
def k17_4 (P : Program) (p : Lab) (Q : VPost) (H : Heap) (c : Nat) (_ : Unit) : Prop :=
  (k17_3 P p Q  H (c + 1))
def k17_6 (P : Program) (p : Lab) (Q : VPost)  (H : Heap) (c : Nat) : Prop :=
  Q .ret [(4, (.int .i64 7))] H c
def k17_7 (P : Program) (p : Lab) (Q : VPost) (H29 : Heap) (c : Nat) (_ : Unit) : Prop :=
  (k17_6 P p Q  H29 (c + 15))
def k17_9 (P : Program) (p : Lab) (Q : VPost)  (H : Heap) (c : Nat) : Prop :=
  Q .ret [(4, (.int .i64 5))] H c
def k17_10 (P : Program) (p : Lab) (Q : VPost) (H : Heap) (c : Nat) (_ : Unit) : Prop :=
  (k17_9 P p Q  H (c + 11))
def k17_12 (P : Program) (p : Lab) (Q : VPost) (l52 : List Lab) (f52 : Option (List Lab)) (l50 : List Lab) (f50 : Option (List Lab)) (f49 : Option (List Lab)) (f48 : Option (List Lab)) (c : Nat) (v_55 : AV) (H55 : Heap) (l55 : List Lab) (f55 : Option (List Lab)) : Prop :=
  clashFree [0, 0, 2, 6, 14, 0, 32, 96, 254, 511, 1023, 2047] (addTr 4 [] ((c + 4) :: p) f48 (addTr 5 [] ((c + 5) :: p) f49 (addTr 6 l50 ((c + 6) :: p) f50 (addTr 7 [((c + 7) :: p)] ((c + 7) :: p) (some []) (addTr 8 l52 ((c + 8) :: p) f52 (addTr 11 l55 ((c + 11) :: p) f55 [])))))) ∧
  Q .ret [(4, (.int .i64 0))] H55 (c + 13)
def k17_13 (P : Program) (p : Lab) (Q : VPost) (l50 : List Lab) (f50 : Option (List Lab)) (f49 : Option (List Lab)) (f48 : Option (List Lab)) (y0 : AV) (c : Nat) (v49_52 : AV) (H52 : Heap) (l52 : List Lab) (f52 : Option (List Lab)) : Prop :=
  vNil y0 fun v50_53 =>
  vFA 2 v50_53 fun v51_54 =>
  vGen (.store 1) [v51_54, v49_52] H52 ((c + 11) :: p) (k17_12 P p Q l52 f52 l50 f50 f49 f48 c)
def k17_14 (P : Program) (p : Lab) (Q : VPost) (f49 : Option (List Lab)) (v45_48 : AV) (f48 : Option (List Lab)) (y0 : AV) (c : Nat) (v47_50 : AV) (H50 : Heap) (l50 : List Lab) (f50 : Option (List Lab)) : Prop :=
  vBuildS 10 [(.int .i64 0), (.int .i64 0), .nils, (.int .i64 0), (.int .i64 0), (.int .i64 0), (.int .i64 0), (.int .i64 0), (.int .i64 0), (.int .i64 0)] [(0, 10)] [v47_50] fun w51 n51 =>
  (fun (H51 : Heap) =>
  vGen (.append 10 96) [v45_48, (.sl ((c + 7) :: p) 10 0 n51)] H51 ((c + 8) :: p) (k17_13 P p Q l50 f50 f49 f48 y0 c)) (upd [(((c + 7) :: p), some (.rows 10 w51))] H50)
def k17_11 (P : Program) (p : Lab) (Q : VPost) (y0 : AV) (y3 : AV) (y40 : AV) (H : Heap) (c : Nat) : Prop :=
  vNil y0 fun v43_46 =>
  vFA 2 v43_46 fun v44_47 =>
  vLoad 1 false v44_47 H fun v45_48 f48 =>
  vLoad 10 true y3 H fun v46_49 f49 =>
  vCall P 45 [v46_49] H ((c + 6) :: p) (k17_14 P p Q f49 v45_48 f48 y0 c)
def k17_15 (P : Program) (p : Lab) (Q : VPost) (v40_42 : AV) (y0 : AV) (y3 : AV) (H : Heap) (c : Nat) (_ : Unit) : Prop :=
  (k17_11 P p Q y0 y3 v40_42 H (c + 10))
def k17_8 (P : Program) (p : Lab) (Q : VPost) (y0 : AV) (y3 : AV) (y30 : AV) (H : Heap) (c : Nat) : Prop :=
  vNil y0 fun v32_34 =>
  vFA 2 v32_34 fun v33_35 =>
  vLoad 1 false v33_35 H fun v34_36 f36 =>
  vLen v34_36 fun v35_37 =>
  vNil y0 fun v37_39 =>
  vFA 1 v37_39 fun v38_40 =>
  vLoad 1 false v38_40 H fun v39_41 f41 =>
  vBin .geq .num v35_37 v39_41 fun v40_42 =>
  clashFree [0, 1, 3, 7, 15, 0, 32, 96, 224, 511] (addTr 3 [] ((c + 3) :: p) f36 (addTr 8 [] ((c + 8) :: p) f41 [])) ∧
  vSel v40_42
  (k17_10 P p Q H c)
  (k17_15 P p Q v40_42 y0 y3 H c)
def k17_16 (P : Program) (p : Lab) (Q : VPost) (H29 : Heap) (v29_27 : AV) (y0 : AV) (y3 : AV) (c : Nat) (_ : Unit) : Prop :=
  (k17_8 P p Q y0 y3 v29_27 H29 (c + 14))
def k17_17 (P : Program) (p : Lab) (Q : VPost) (v29_27 : AV) (y0 : AV) (y3 : AV) (c : Nat) (v_29 : AV) (H29 : Heap) (l29 : List Lab) (f29 : Option (List Lab)) : Prop :=
  vSel v29_27
  (k17_7 P p Q H29 c)
  (k17_16 P p Q H29 v29_27 y0 y3 c)
def k17_18 (P : Program) (p : Lab) (Q : VPost) (y0 : AV) (y3 : AV) (c : Nat) (v27_24 : AV) (H24 : Heap) (l24 : List Lab) (f24 : Option (List Lab)) : Prop :=
  vExt 0 v27_24 fun v28_26 =>
  vExt 1 v27_24 fun v29_27 =>
  (fun (H28 : Heap) =>
  vGen (.store 10) [(.ptr ((c + 10) :: p) 10 0 0), v28_26] H28 ((c + 11) :: p) (k17_17 P p Q v29_27 y0 y3 c)) (upd [(((c + 10) :: p), some (.rows 10 [[(.int .i64 0), (.int .i64 0), .nils, (.int .i64 0), (.int .i64 0), (.int .i64 0), (.int .i64 0), (.int .i64 0), (.int .i64 0), (.int .i64 0)]]))] H24)
def k17_5 (P : Program) (p : Lab) (Q : VPost) (y0 : AV) (y3 : AV) (y19 : AV) (H : Heap) (c : Nat) : Prop :=
  vFA 0 y3 fun v22_19 =>
  vLoad 1 false v22_19 H fun v23_20 _ =>
  vFA 1 y3 fun v24_21 =>
  vLoad 1 false v24_21 H fun v25_22 _ =>
  vBuild [(.int .i64 0), (.int .i64 0)] [(0, 1), (1, 1)] [v23_20, v25_22] fun v26_23 =>
  vCall P 21 [y0, v26_23] H ((c + 6) :: p) (k17_18 P p Q y0 y3 c)
def k17_19 (P : Program) (p : Lab) (Q : VPost) (y0 : AV) (y3 : AV) (y19 : AV) (H : Heap) (c : Nat) (_ : Unit) : Prop :=
  (k17_5 P p Q y0 y3 y19 H c)
def k17_2 (P : Program) (p : Lab) (Q : VPost) (y0 : AV) (y3 : AV) (y19 : AV) (H : Heap) (c : Nat) : Prop :=
  vSel y19
  (k17_4 P p Q H c)
  (k17_19 P p Q y0 y3 y19 H c)
def k17_20 (P : Program) (p : Lab) (Q : VPost) (H3 : Heap) (l3 : List Lab) (f3 : Option (List Lab)) (f2 : Option (List Lab)) (w0 : List AV) (x0 : AV) (c : Nat) (_ : Unit) : Prop :=
  vFA 2 (.ptr (c :: p) w0.length 0 0) fun v11_8 =>
  vLoad 1 false v11_8 H3 fun v12_9 f9 =>
  vLen v12_9 fun v13_10 =>
  vNil x0 fun v15_12 =>
  vFA 0 v15_12 fun v16_13 =>
  vLoad 1 false v16_13 H3 fun v17_14 f14 =>
  vBin .neq .num v13_10 v17_14 fun v18_15 =>
  clashFree [0, 1, 3, 7, 15, 31, 63, 15, 143, 399, 911, 2047, 4095] (addTr 0 [] ((c + 2) :: p) f2 (addTr 1 l3 ((c + 3) :: p) f3 (addTr 5 [] ((c + 7) :: p) f9 (addTr 10 [] ((c + 12) :: p) f14 [])))) ∧
  (k17_2 P p Q x0 (.ptr (c :: p) w0.length 0 0) v18_15 H3 (c + 15))
def k17_21 (P : Program) (p : Lab) (Q : VPost) (f2 : Option (List Lab)) (w0 : List AV) (x0 : AV) (c : Nat) (v8_3 : AV) (H3 : Heap) (l3 : List Lab) (f3 : Option (List Lab)) : Prop :=
  vBin .neq .num v8_3 (.int .i64 0) fun v9_4 =>
  vSel v9_4
  (k17_1 P p Q H3 l3 f3 f2 w0 x0 c)
  (k17_20 P p Q H3 l3 f3 f2 w0 x0 c)
def V17 (P : Program) (p : Lab) (Q : VPost) (x0 x1 : AV) (H : Heap) (c : Nat) : Prop :=
  vBox x1 fun w0 =>
  (fun (H0 : Heap) =>
  vLoad 10 true (.ptr (c :: p) w0.length 0 0) H0 fun v7_2 f2 =>
  vCall P 27 [v7_2] H0 ((c + 3) :: p) (k17_21 P p Q f2 w0 x0 c)) (upd [((c :: p), some (.rows w0.length [w0]))] H)
theorem vt17 (P : Program) (p : Lab) (Q : VPost) (x0 x1 : AV) (H : Heap) (c : Nat) : vc P p c17.body Q [(0, x0), (1, x1)] H c = V17 P p Q x0 x1 H c := by kernel_rfl

def b18_1 : ACode := (.seq (.region [⟨(some 34), none, .mnext, [.t 33]⟩, ⟨(some 35), none, (.extract 0), [.t 34]⟩] none [0, 1, 6, 33, 35])
  (.seq (.cond (.t 35) .skip
  (.exit 0))
  (.block 1 (.seq (.region [⟨(some 36), none, .mentry, [.t 33]⟩, ⟨(some 37), none, (.extract 0), [.t 36]⟩, ⟨(some 7), none, (.alloc [(.int .i64 0), (.int .i64 0)]), []⟩, ⟨none, none, (.store 2), [.t 7, .t 37]⟩] none [0, 1, 6, 7, 33])
  (.seq (.region [⟨(some 38), none, .move, [.t 1]⟩, ⟨(some 39), none, (.fieldAddr 0), [.t 7]⟩, ⟨(some 40), none, (.load 1 false), [.t 39]⟩, ⟨(some 41), none, (.fieldAddr 1), [.t 7]⟩, ⟨(some 42), none, (.load 1 false), [.t 41]⟩, ⟨(some 43), none, .call, [.c (.fn (.func 47) [] []), .t 38, .t 40, .t 42]⟩] none [0, 1, 6, 7, 33, 43])
  (.cond (.t 43) (.region [⟨(some 44), none, .move, [.t 0]⟩, ⟨(some 45), none, .nilCheck, [.t 44]⟩, ⟨(some 46), none, (.fieldAddr 2), [.t 45]⟩, ⟨(some 47), none, (.load 1 false), [.t 46]⟩, ⟨(some 48), none, (.load 2 true), [.t 7]⟩, ⟨none, none, (.delete true [.int, .int]), [.t 47, .t 48]⟩] (some [0, 1, 3, 7, 0, 31]) [0, 1, 6, 33])
  .skip))))))
def l18_1 : ACode := .loop [0, 1, 6, 33] b18_1
def r18_2 : ACode := (.seq (.region [⟨(some 49), none, .move, [.t 6]⟩, ⟨(some 50), none, .move, [.t 0]⟩, ⟨(some 51), none, .nilCheck, [.t 50]⟩, ⟨(some 52), none, (.fieldAddr 2), [.t 51]⟩, ⟨(some 53), none, (.load 1 false), [.t 52]⟩, ⟨(some 54), none, (.len .map), [.t 53]⟩, ⟨(some 55), none, (.bin .sub .num), [.t 49, .t 54]⟩, ⟨(some 4), none, .move, [.t 55]⟩, ⟨(some 5), none, .move, [.c (.int .i64 0)]⟩] none [4, 5])
  .ret)
/-- (*duet/resend.Store).Drop -/
def c18 : AFun := ⟨2, 56, [.tmp 4, .tmp 5],
  (.seq (.region [⟨(some 4), none, .move, [.c (.int .i64 0)]⟩, ⟨(some 5), none, .move, [.c (.int .i64 0)]⟩] none [0, 1])
  (.seq (.seq (.region [⟨(some 8), none, .move, [.t 0]⟩, ⟨(some 9), none, (.bin .eql .ptr), [.t 8, .c .nilp]⟩, ⟨(some 10), none, .move, [.t 9]⟩, ⟨(some 11), (some (10, false)), .move, [.t 1]⟩, ⟨(some 12), (some (10, false)), .call, [.c (.fn (.func 46) [] []), .t 11]⟩, ⟨(some 13), (some (10, false)), (.bin .neq .num), [.t 12, .c (.int .i64 0)]⟩, ⟨(some 14), none, .pick, [.t 10, .c (.bool true), .t 13]⟩, ⟨(some 15), none, .move, [.t 14]⟩, ⟨(some 16), (some (15, false)), .move, [.t 1]⟩, ⟨(some 17), (some (15, false)), (.len .slice), [.t 16]⟩, ⟨(some 18), (some (15, false)), .move, [.t 0]⟩, ⟨(some 19), (some (15, false)), .nilCheck, [.t 18]⟩, ⟨(some 20), (some (15, false)), (.fieldAddr 0), [.t 19]⟩, ⟨(some 21), (some (15, false)), (.load 1 false), [.t 20]⟩, ⟨(some 22), (some (15, false)), (.bin .neq .num), [.t 17, .t 21]⟩, ⟨(some 23), none, .pick, [.t 15, .c (.bool true), .t 22]⟩] none [0, 1, 23])
  (.cond (.t 23) (.seq (.region [⟨(some 4), none, .move, [.c (.int .i64 0)]⟩, ⟨(some 5), none, .move, [.c (.int .i64 1)]⟩] none [4, 5])
  .ret)
  .skip))
  (.seq (.region [⟨(some 24), none, .move, [.t 0]⟩, ⟨(some 25), none, .nilCheck, [.t 24]⟩, ⟨(some 26), none, (.fieldAddr 2), [.t 25]⟩, ⟨(some 27), none, (.load 1 false), [.t 26]⟩, ⟨(some 28), none, (.len .map), [.t 27]⟩, ⟨(some 6), none, .move, [.t 28]⟩] none [0, 1, 6])
  (.seq (.seq (.region [⟨(some 29), none, .move, [.t 0]⟩, ⟨(some 30), none, .nilCheck, [.t 29]⟩, ⟨(some 31), none, (.fieldAddr 2), [.t 30]⟩, ⟨(some 32), none, (.load 1 false), [.t 31]⟩, ⟨(some 33), none, .mrange, [.t 32]⟩] none [0, 1, 6, 33])
  (.block 0 l18_1)) r18_2))))⟩
theorem ok18 : FunOk Try.prog 18 c18 := ⟨⟨Try.f18, _, Try.func18, rfl, by kernel_rfl, by kernel_rfl, by kernel_rfl, by kernel_rfl⟩, by decide⟩
theorem res18 : c18.res = [.tmp 4, .tmp 5] := rfl
def k18_1 (P : Program) (p : Lab) (Q : VPost) (y0 : AV) (y1 : AV) (H : Heap) (c : Nat) : Prop :=
  Q .ret [(4, (.int .i64 0)), (5, (.int .i64 1))] H (c + 2)
def k18_0 (P : Program) (p : Lab) (Q : VPost) (y0 : AV) (y1 : AV) (H : Heap) (c : Nat) : Prop :=
  (k18_1 P p Q y0 y1 H (c + 10))
def k18_2 (P : Program) (p : Lab) (Q : VPost) (x0 : AV) (x1 : AV) (H : Heap) (c : Nat) (_ : Unit) : Prop :=
  (k18_0 P p Q x0 x1 H (c + 8))
def k18_4 (P : Program) (p : Lab) (Q : VPost) (y0 : AV) (y1 : AV) (H : Heap) (c : Nat) (_ : Unit) : Prop :=
  (k18_1 P p Q y0 y1 H (c + 10))
def k18_6 (P : Program) (p : Lab) (Q : VPost)  (H : Heap) (c : Nat) : Prop :=
  Q .ret [(4, (.int .i64 0)), (5, (.int .i64 1))] H c
def k18_7 (P : Program) (p : Lab) (Q : VPost) (H : Heap) (c : Nat) (_ : Unit) : Prop :=
  (k18_6 P p Q  H (c + 2))
def q18_0 (P : Program) (p : Lab) (Q : VPost) : VPost := (vblockQ 0 (vseqQ (vc P p r18_2 Q) Q))
theorem q18_0_ret (P : Program) (p : Lab) (Q : VPost) (r : RL) (H : Heap) (c : Nat) : q18_0 P p Q .ret r H c = Q .ret r H c := rfl
def k18_9 (P : Program) (p : Lab) (Q : VPost) (y0 : AV) (y1 : AV) (c : Nat) (v28_30 : AV) (H30 : Heap) (l30 : List Lab) (f30 : Option (List Lab)) : Prop :=
  vNil y0 fun v30_33 =>
  vFA 2 v30_33 fun v31_34 =>
  vLoad 1 false v31_34 H30 fun v32_35 _ =>
  vGen .mrange [v32_35] H30 ((c + 10) :: p) (fun v33_36 H36 l36 f36 =>
  vc P p l18_1 (q18_0 P p Q) [(0, y0), (1, y1), (6, v28_30), (33, v33_36)] H36 (c + 11))
def k18_8 (P : Program) (p : Lab) (Q : VPost) (y0 : AV) (y1 : AV) (y23 : AV) (H : Heap) (c : Nat) : Prop :=
  vNil y0 fun v25_27 =>
  vFA 2 v25_27 fun v26_28 =>
  vLoad 1 false v26_28 H fun v27_29 _ =>
  vGen (.len .map) [v27_29] H ((c + 4) :: p) (k18_9 P p Q y0 y1 c)
def k18_10 (P : Program) (p : Lab) (Q : VPost) (y0 : AV) (y1 : AV) (y23 : AV) (H : Heap) (c : Nat) (_ : Unit) : Prop :=
  (k18_8 P p Q y0 y1 y23 H c)
def k18_5 (P : Program) (p : Lab) (Q : VPost) (y0 : AV) (y1 : AV) (y23 : AV) (H : Heap) (c : Nat) : Prop :=
  vSel y23
  (k18_7 P p Q H c)
  (k18_10 P p Q y0 y1 y23 H c)
def k18_11 (P : Program) (p : Lab) (Q : VPost) (y0 : AV) (y1 : AV) (H : Heap) (c : Nat) (_ : Unit) : Prop :=
  vLen y1 fun v17_17 =>
  vNil y0 fun v19_19 =>
  vFA 0 v19_19 fun v20_20 =>
  vLoad 1 false v20_20 H fun v21_21 _ =>
  vBin .neq .num v17_17 v21_21 fun v22_22 =>
  (k18_5 P p Q y0 y1 v22_22 H (c + 10))
def k18_3 (P : Program) (p : Lab) (Q : VPost) (y0 : AV) (y1 : AV) (y13 : AV) (H : Heap) (c : Nat) : Prop :=
  vSel y13
  (k18_4 P p Q y0 y1 H c)
  (k18_11 P p Q y0 y1 H c)
def k18_12 (P : Program) (p : Lab) (Q : VPost) (x0 : AV) (x1 : AV) (c : Nat) (v12_11 : AV) (H11 : Heap) (l11 : List Lab) (f11 : Option (List Lab)) : Prop :=
  vBin .neq .num v12_11 (.int .i64 0) fun v13_12 =>
  (k18_3 P p Q x0 x1 v13_12 H11 (c + 8))
def k18_13 (P : Program) (p : Lab) (Q : VPost) (x0 : AV) (x1 : AV) (H : Heap) (c : Nat) (_ : Unit) : Prop :=
  vCall P 46 [x1] H ((c + 6) :: p) (k18_12 P p Q x0 x1 c)
def V18 (P : Program) (p : Lab) (Q : VPost) (x0 x1 : AV) (H : Heap) (c : Nat) : Prop :=
  vBin .eql .ptr x0 .nilp fun v9_3 =>
  vSel v9_3
  (k18_2 P p Q x0 x1 H c)
  (k18_13 P p Q x0 x1 H c)
theorem vt18 (P : Program) (p : Lab) (Q : VPost) (x0 x1 : AV) (H : Heap) (c : Nat) : vc P p c18.body Q [(0, x0), (1, x1)] H c = V18 P p Q x0 x1 H c := by kernel_rfl
def k18_15 (P : Program) (p : Lab) (Q : VPost) (f53 : Option (List Lab)) (f52 : Option (List Lab)) (y0 : AV) (y1 : AV) (y6 : AV) (y33 : AV) (c : Nat) (v_54 : AV) (H54 : Heap) (l54 : List Lab) (f54 : Option (List Lab)) : Prop :=
  clashFree [0, 1, 3, 7, 0, 31] (addTr 3 [] ((c + 13) :: p) f52 (addTr 4 [] ((c + 14) :: p) f53 (addTr 5 l54 ((c + 15) :: p) f54 []))) ∧
  Q .normal [(0, y0), (1, y1), (6, y6), (33, y33)] H54 (c + 16)
def k18_16 (P : Program) (p : Lab) (Q : VPost) (H48 : Heap) (y0 : AV) (y1 : AV) (y6 : AV) (y33 : AV) (c : Nat) (_ : Unit) : Prop :=
  vNil y0 fun v45_50 =>
  vFA 2 v45_50 fun v46_51 =>
  vLoad 1 false v46_51 H48 fun v47_52 f52 =>
  vLoad 2 true (.ptr ((c + 2) :: p) 2 0 0) H48 fun v48_53 f53 =>
  vGen (.delete true [.int, .int]) [v47_52, v48_53] H48 ((c + 15) :: p) (k18_15 P p Q f53 f52 y0 y1 y6 y33 c)
def k18_17 (P : Program) (p : Lab) (Q : VPost) (y0 : AV) (y1 : AV) (y6 : AV) (y33 : AV) (c : Nat) (v43_48 : AV) (H48 : Heap) (l48 : List Lab) (f48 : Option (List Lab)) : Prop :=
  vSel v43_48
  (k18_16 P p Q H48 y0 y1 y6 y33 c)
  (fun _ =>
  Q .normal [(0, y0), (1, y1), (6, y6), (7, (.ptr ((c + 2) :: p) 2 0 0)), (33, y33), (43, v43_48)] H48 (c + 10))
def k18_18 (P : Program) (p : Lab) (Q : VPost) (y0 : AV) (y1 : AV) (y6 : AV) (y33 : AV) (c : Nat) (v_42 : AV) (H42 : Heap) (l42 : List Lab) (f42 : Option (List Lab)) : Prop :=
  vFA 0 (.ptr ((c + 2) :: p) 2 0 0) fun v39_44 =>
  vLoad 1 false v39_44 H42 fun v40_45 _ =>
  vFA 1 (.ptr ((c + 2) :: p) 2 0 0) fun v41_46 =>
  vLoad 1 false v41_46 H42 fun v42_47 _ =>
  vCall P 47 [y1, v40_45, v42_47] H42 ((c + 9) :: p) (k18_17 P p Q y0 y1 y6 y33 c)
def k18_19 (P : Program) (p : Lab) (Q : VPost) (y0 : AV) (y1 : AV) (y6 : AV) (y33 : AV) (c : Nat) (v36_39 : AV) (H39 : Heap) (l39 : List Lab) (f39 : Option (List Lab)) : Prop :=
  vExt 0 v36_39 fun v37_40 =>
  (fun (H41 : Heap) =>
  vGen (.store 2) [(.ptr ((c + 2) :: p) 2 0 0), v37_40] H41 ((c + 3) :: p) (k18_18 P p Q y0 y1 y6 y33 c)) (upd [(((c + 2) :: p), some (.rows 2 [[(.int .i64 0), (.int .i64 0)]]))] H39)
def k18_14 (P : Program) (p : Lab) (Q : VPost) (y0 : AV) (y1 : AV) (y6 : AV) (y33 : AV) (y35 : AV) (H : Heap) (c : Nat) : Prop :=
  vGen .mentry [y33] H (c :: p) (k18_19 P p Q y0 y1 y6 y33 c)
def k18_20 (P : Program) (p : Lab) (Q : VPost) (v35_38 : AV) (H37 : Heap) (x0 : AV) (x1 : AV) (x6 : AV) (x33 : AV) (c : Nat) (_ : Unit) : Prop :=
  (k18_14 P p Q x0 x1 x6 x33 v35_38 H37 (c + 2))
def k18_21 (P : Program) (p : Lab) (Q : VPost) (x0 : AV) (x1 : AV) (x6 : AV) (x33 : AV) (c : Nat) (v34_37 : AV) (H37 : Heap) (l37 : List Lab) (f37 : Option (List Lab)) : Prop :=
  vExt 0 v34_37 fun v35_38 =>
  vSel v35_38
  (k18_20 P p Q v35_38 H37 x0 x1 x6 x33 c)
  (fun _ =>
  Q (.exit 0) [(0, x0), (1, x1), (6, x6), (33, x33), (35, v35_38)] H37 (c + 2))
def V18_1 (P : Program) (p : Lab) (Q : VPost) (x0 x1 x6 x33 : AV) (H : Heap) (c : Nat) : Prop :=
  vNext x33 H (c :: p) (k18_21 P p Q x0 x1 x6 x33 c)
theorem vt18_1 (P : Program) (p : Lab) (Q : VPost) (x0 x1 x6 x33 : AV) (H : Heap) (c : Nat) : vc P p b18_1 Q [(0, x0), (1, x1), (6, x6), (33, x33)] H c = V18_1 P p Q x0 x1 x6 x33 H c := by kernel_rfl
theorem q18_0_e0 (P : Program) (p : Lab) (Q : VPost) (r : RL) (H : Heap) (c : Nat) : q18_0 P p Q (.exit 0) r H c = (vc P p r18_2 Q r H c) := rfl
def V18_2 (P : Program) (p : Lab) (Q : VPost) (x0 x1 x6 x33 x35 : AV) (H : Heap) (c : Nat) : Prop :=
  vNil x0 fun v51_57 =>
  vFA 2 v51_57 fun v52_58 =>
  vLoad 1 false v52_58 H fun v53_59 _ =>
  vGen (.len .map) [v53_59] H ((c + 5) :: p) (fun v54_60 H60 l60 f60 =>
  vBin .sub .num x6 v54_60 fun v55_61 =>
  Q .ret [(4, v55_61), (5, (.int .i64 0))] H60 (c + 9))
theorem vt18_2 (P : Program) (p : Lab) (Q : VPost) (x0 x1 x6 x33 x35 : AV) (H : Heap) (c : Nat) : vc P p r18_2 Q [(0, x0), (1, x1), (6, x6), (33, x33), (35, x35)] H c = V18_2 P p Q x0 x1 x6 x33 x35 H c := by kernel_rfl

def b19_1 : ACode := (.seq (.seq (.region [⟨(some 21), none, .move, [.t 7]⟩, ⟨(some 22), none, .move, [.t 0]⟩, ⟨(some 23), none, .nilCheck, [.t 22]⟩, ⟨(some 24), none, (.fieldAddr 2), [.t 23]⟩, ⟨(some 25), none, (.load 1 false), [.t 24]⟩, ⟨(some 26), none, (.len .slice), [.t 25]⟩, ⟨(some 27), none, (.bin .lss .num), [.t 21, .t 26]⟩] none [0, 1, 6, 7, 27])
  (.cond (.t 27) .skip
  (.exit 0)))
  (.seq (.block 1 (.seq (.region [⟨(some 30), none, .move, [.t 1]⟩, ⟨(some 31), none, .move, [.t 0]⟩, ⟨(some 32), none, .nilCheck, [.t 31]⟩, ⟨(some 33), none, (.fieldAddr 2), [.t 32]⟩, ⟨(some 34), none, (.load 1 false), [.t 33]⟩, ⟨(some 35), none, .move, [.t 7]⟩, ⟨(some 36), none, (.indexAddr 10), [.t 34, .t 35]⟩, ⟨(some 37), none, (.fieldAddr 0), [.t 36]⟩, ⟨(some 38), none, (.load 1 false), [.t 37]⟩, ⟨(some 39), none, .move, [.t 0]⟩, ⟨(some 40), none, .nilCheck, [.t 39]⟩, ⟨(some 41), none, (.fieldAddr 2), [.t 40]⟩, ⟨(some 42), none, (.load 1 false), [.t 41]⟩, ⟨(some 43), none, .move, [.t 7]⟩, ⟨(some 44), none, (.indexAddr 10), [.t 42, .t 43]⟩, ⟨(some 45), none, (.fieldAddr 1), [.t 44]⟩, ⟨(some 46), none, (.load 1 false), [.t 45]⟩, ⟨(some 47), none, .call, [.c (.fn (.func 49) [] []), .t 30, .t 38, .t 46]⟩, ⟨(some 48), none, (.un .not), [.t 47]⟩] (some [0, 0, 2, 6, 14, 0, 62, 126, 254, 0, 512, 1536, 3584, 0, 15872, 32256, 65024, 131071, 262143]) [0, 1, 6, 7, 48])
  (.cond (.t 48) (.region [⟨(some 49), none, .move, [.t 6]⟩, ⟨(some 50), none, .move, [.t 0]⟩, ⟨(some 51), none, .nilCheck, [.t 50]⟩, ⟨(some 52), none, (.fieldAddr 2), [.t 51]⟩, ⟨(some 53), none, (.load 1 false), [.t 52]⟩, ⟨(some 54), none, .move, [.t 7]⟩, ⟨(some 55), none, (.indexAddr 10), [.t 53, .t 54]⟩, ⟨(some 56), none, (.load 10 true), [.t 55]⟩, ⟨(some 57), none, (.buildSlice 10 [(.int .i64 0), (.int .i64 0), .nils, (.int .i64 0), (.int .i64 0), (.int .i64 0), (.int .i64 0), (.int .i64 0), (.int .i64 0), (.int .i64 0)] [(0, 10)]), [.t 56]⟩, ⟨(some 58), none, (.append 10 96), [.t 49, .t 57]⟩, ⟨(some 6), none, .move, [.t 58]⟩] none [0, 1, 6, 7])
  .skip)))
  (.region [⟨(some 28), none, .move, [.t 7]⟩, ⟨(some 29), none, (.bin .add .num), [.t 28, .c (.int .i64 1)]⟩, ⟨(some 7), none, .move, [.t 29]⟩] none [0, 1, 6, 7])))
def l19_1 : ACode := .loop [0, 1, 6, 7] b19_1
def r19_2 : ACode := (.seq (.region [⟨(some 59), none, .move, [.t 0]⟩, ⟨(some 60), none, .nilCheck, [.t 59]⟩, ⟨(some 61), none, (.fieldAddr 2), [.t 60]⟩, ⟨(some 62), none, (.load 1 false), [.t 61]⟩, ⟨(some 63), none, (.len .slice), [.t 62]⟩, ⟨(some 64), none, .move, [.t 6]⟩, ⟨(some 65), none, (.len .slice), [.t 64]⟩, ⟨(some 66), none, (.bin .sub .num), [.t 63, .t 65]⟩, ⟨(some 8), none, .move, [.t 66]⟩] none [0, 6, 8])
  (.seq (.region [⟨(some 67), none, .move, [.t 0]⟩, ⟨(some 68), none, .move, [.t 6]⟩, ⟨(some 69), none, .nilCheck, [.t 67]⟩, ⟨(some 70), none, (.fieldAddr 2), [.t 69]⟩, ⟨none, none, (.store 1), [.t 70, .t 68]⟩] none [8])
  (.seq (.region [⟨(some 71), none, .move, [.t 8]⟩, ⟨(some 4), none, .move, [.t 71]⟩, ⟨(some 5), none, .move, [.c (.int .i64 0)]⟩] none [4, 5])
  .ret)))
/-- (*duet/duetref08.Store).Drop -/
def c19 : AFun := ⟨2, 72, [.tmp 4, .tmp 5],
  (.seq (.region [⟨(some 4), none, .move, [.c (.int .i64 0)]⟩, ⟨(some 5), none, .move, [.c (.int .i64 0)]⟩] none [0, 1])
  (.seq (.seq (.region [⟨(some 9), none, .move, [.t 1]⟩, ⟨(some 10), none, .call, [.c (.fn (.func 48) [] []), .t 9]⟩, ⟨(some 11), none, (.un .not), [.t 10]⟩, ⟨(some 12), none, .move, [.t 11]⟩, ⟨(some 13), (some (12, false)), .move, [.t 1]⟩, ⟨(some 14), (some (12, false)), (.len .slice), [.t 13]⟩, ⟨(some 15), (some (12, false)), .move, [.t 0]⟩, ⟨(some 16), (some (12, false)), .nilCheck, [.t 15]⟩, ⟨(some 17), (some (12, false)), (.fieldAddr 0), [.t 16]⟩, ⟨(some 18), (some (12, false)), (.load 1 false), [.t 17]⟩, ⟨(some 19), (some (12, false)), (.bin .neq .num), [.t 14, .t 18]⟩, ⟨(some 20), none, .pick, [.t 12, .c (.bool true), .t 19]⟩] none [0, 1, 20])
  (.cond (.t 20) (.seq (.region [⟨(some 4), none, .move, [.c (.int .i64 0)]⟩, ⟨(some 5), none, .move, [.c (.int .i64 1)]⟩] none [4, 5])
  .ret)
  .skip))
  (.seq (.region [⟨(some 6), none, .move, [.c .nils]⟩] none [0, 1, 6])
  (.seq (.seq (.region [⟨(some 7), none, .move, [.c (.int .i64 0)]⟩] none [0, 1, 6, 7])
  (.block 0 l19_1)) r19_2))))⟩
theorem ok19 : FunOk Try.prog 19 c19 := ⟨⟨Try.f19, _, Try.func19, rfl, by kernel_rfl, by kernel_rfl, by kernel_rfl, by kernel_rfl⟩, by decide⟩
theorem res19 : c19.res = [.tmp 4, .tmp 5] := rfl
def k19_0 (P : Program) (p : Lab) (Q : VPost) (y0 : AV) (y1 : AV) (H : Heap) (c : Nat) : Prop :=
  Q .ret [(4, (.int .i64 0)), (5, (.int .i64 1))] H (c + 2)
def k19_1 (P : Program) (p : Lab) (Q : VPost) (H3 : Heap) (x0 : AV) (x1 : AV) (c : Nat) (_ : Unit) : Prop :=
  (k19_0 P p Q x0 x1 H3 (c + 14))
def k19_3 (P : Program) (p : Lab) (Q : VPost)  (H : Heap) (c : Nat) : Prop :=
  Q .ret [(4, (.int .i64 0)), (5, (.int .i64 1))] H c
def k19_4 (P : Program) (p : Lab) (Q : VPost) (H : Heap) (c : Nat) (_ : Unit) : Prop :=
  (k19_3 P p Q  H (c + 2))
def q19_0 (P : Program) (p : Lab) (Q : VPost) : VPost := (vblockQ 0 (vseqQ (vc P p r19_2 Q) Q))
theorem q19_0_ret (P : Program) (p : Lab) (Q : VPost) (r : RL) (H : Heap) (c : Nat) : q19_0 P p Q .ret r H c = Q .ret r H c := rfl
def k19_5 (P : Program) (p : Lab) (Q : VPost) (y0 : AV) (y1 : AV) (y20 : AV) (H : Heap) (c : Nat) : Prop :=
  vc P p l19_1 (q19_0 P p Q) [(0, y0), (1, y1), (6, .nils), (7, (.int .i64 0))] H (c + 2)
def k19_6 (P : Program) (p : Lab) (Q : VPost) (y0 : AV) (y1 : AV) (y20 : AV) (H : Heap) (c : Nat) (_ : Unit) : Prop :=
  (k19_5 P p Q y0 y1 y20 H c)
def k19_2 (P : Program) (p : Lab) (Q : VPost) (y0 : AV) (y1 : AV) (y20 : AV) (H : Heap) (c : Nat) : Prop :=
  vSel y20
  (k19_4 P p Q H c)
  (k19_6 P p Q y0 y1 y20 H c)
def k19_7 (P : Program) (p : Lab) (Q : VPost) (H3 : Heap) (x0 : AV) (x1 : AV) (c : Nat) (_ : Unit) : Prop :=
  vLen x1 fun v14_10 =>
  vNil x0 fun v16_12 =>
  vFA 0 v16_12 fun v17_13 =>
  vLoad 1 false v17_13 H3 fun v18_14 _ =>
  vBin .neq .num v14_10 v18_14 fun v19_15 =>
  (k19_2 P p Q x0 x1 v19_15 H3 (c + 14))
def k19_8 (P : Program) (p : Lab) (Q : VPost) (x0 : AV) (x1 : AV) (c : Nat) (v10_3 : AV) (H3 : Heap) (l3 : List Lab) (f3 : Option (List Lab)) : Prop :=
  vNot v10_3 fun v11_4 =>
  vSel v11_4
  (k19_1 P p Q H3 x0 x1 c)
  (k19_7 P p Q H3 x0 x1 c)
def V19 (P : Program) (p : Lab) (Q : VPost) (x0 x1 : AV) (H : Heap) (c : Nat) : Prop :=
  vCall P 48 [x1] H ((c + 3) :: p) (k19_8 P p Q x0 x1 c)
theorem vt19 (P : Program) (p : Lab) (Q : VPost) (x0 x1 : AV) (H : Heap) (c : Nat) : vc P p c19.body Q [(0, x0), (1, x1)] H c = V19 P p Q x0 x1 H c := by kernel_rfl
def k19_10 (P : Program) (p : Lab) (Q : VPost) (y0 : AV) (y1 : AV) (y6 : AV) (y7 : AV) (H : Heap) (c : Nat) : Prop :=
  vNil y0 fun v51_49 =>
  vFA 2 v51_49 fun v52_50 =>
  vLoad 1 false v52_50 H fun v53_51 _ =>
  vIx 10 v53_51 y7 fun v55_53 =>
  vLoad 10 true v55_53 H fun v56_54 _ =>
  vBuildS 10 [(.int .i64 0), (.int .i64 0), .nils, (.int .i64 0), (.int .i64 0), (.int .i64 0), (.int .i64 0), (.int .i64 0), (.int .i64 0), (.int .i64 0)] [(0, 10)] [v56_54] fun w55 n55 =>
  (fun (H55 : Heap) =>
  vGen (.append 10 96) [y6, (.sl ((c + 8) :: p) 10 0 n55)] H55 ((c + 9) :: p) (fun v58_56 H56 l56 f56 =>
  vBin .add .num y7 (.int .i64 1) fun v29_59 =>
  Q .normal [(0, y0), (1, y1), (6, v58_56), (7, v29_59)] H56 (c + 14))) (upd [(((c + 8) :: p), some (.rows 10 w55))] H)
def k19_11 (P : Program) (p : Lab) (Q : VPost) (H45 : Heap) (y0 : AV) (y1 : AV) (y6 : AV) (y7 : AV) (c : Nat) (_ : Unit) : Prop :=
  (k19_10 P p Q y0 y1 y6 y7 H45 (c + 19))
def k19_12 (P : Program) (p : Lab) (Q : VPost) (y0 : AV) (y1 : AV) (y6 : AV) (y7 : AV) (y48 : AV) (H : Heap) (c : Nat) : Prop :=
  vBin .add .num y7 (.int .i64 1) fun v29_62 =>
  Q .normal [(0, y0), (1, y1), (6, y6), (7, v29_62)] H (c + 3)
def k19_13 (P : Program) (p : Lab) (Q : VPost) (v48_46 : AV) (H45 : Heap) (y0 : AV) (y1 : AV) (y6 : AV) (y7 : AV) (c : Nat) (_ : Unit) : Prop :=
  (k19_12 P p Q y0 y1 y6 y7 v48_46 H45 (c + 19))
def k19_14 (P : Program) (p : Lab) (Q : VPost) (f44 : Option (List Lab)) (f40 : Option (List Lab)) (f36 : Option (List Lab)) (f32 : Option (List Lab)) (y0 : AV) (y1 : AV) (y6 : AV) (y7 : AV) (c : Nat) (v47_45 : AV) (H45 : Heap) (l45 : List Lab) (f45 : Option (List Lab)) : Prop :=
  vNot v47_45 fun v48_46 =>
  clashFree [0, 0, 2, 6, 14, 0, 62, 126, 254, 0, 512, 1536, 3584, 0, 15872, 32256, 65024, 131071, 262143] (addTr 4 [] ((c + 4) :: p) f32 (addTr 8 [] ((c + 8) :: p) f36 (addTr 12 [] ((c + 12) :: p) f40 (addTr 16 [] ((c + 16) :: p) f44 (addTr 17 l45 ((c + 17) :: p) f45 []))))) ∧
  vSel v48_46
  (k19_11 P p Q H45 y0 y1 y6 y7 c)
  (k19_13 P p Q v48_46 H45 y0 y1 y6 y7 c)
def k19_9 (P : Program) (p : Lab) (Q : VPost) (y0 : AV) (y1 : AV) (y6 : AV) (y7 : AV) (y27 : AV) (H : Heap) (c : Nat) : Prop :=
  vNil y0 fun v32_30 =>
  vFA 2 v32_30 fun v33_31 =>
  vLoad 1 false v33_31 H fun v34_32 f32 =>
  vIx 10 v34_32 y7 fun v36_34 =>
  vFA 0 v36_34 fun v37_35 =>
  vLoad 1 false v37_35 H fun v38_36 f36 =>
  vNil y0 fun v40_38 =>
  vFA 2 v40_38 fun v41_39 =>
  vLoad 1 false v41_39 H fun v42_40 f40 =>
  vIx 10 v42_40 y7 fun v44_42 =>
  vFA 1 v44_42 fun v45_43 =>
  vLoad 1 false v45_43 H fun v46_44 f44 =>
  vCall P 49 [y1, v38_36, v46_44] H ((c + 17) :: p) (k19_14 P p Q f44 f40 f36 f32 y0 y1 y6 y7 c)
def k19_15 (P : Program) (p : Lab) (Q : VPost) (v27_27 : AV) (x0 : AV) (x1 : AV) (x6 : AV) (x7 : AV) (H : Heap) (c : Nat) (_ : Unit) : Prop :=
  (k19_9 P p Q x0 x1 x6 x7 v27_27 H (c + 7))
def V19_1 (P : Program) (p : Lab) (Q : VPost) (x0 x1 x6 x7 : AV) (H : Heap) (c : Nat) : Prop :=
  vNil x0 fun v23_23 =>
  vFA 2 v23_23 fun v24_24 =>
  vLoad 1 false v24_24 H fun v25_25 _ =>
  vLen v25_25 fun v26_26 =>
  vBin .lss .num x7 v26_26 fun v27_27 =>
  vSel v27_27
  (k19_15 P p Q v27_27 x0 x1 x6 x7 H c)
  (fun _ =>
  Q (.exit 0) [(0, x0), (1, x1), (6, x6), (7, x7), (27, v27_27)] H (c + 7))
theorem vt19_1 (P : Program) (p : Lab) (Q : VPost) (x0 x1 x6 x7 : AV) (H : Heap) (c : Nat) : vc P p b19_1 Q [(0, x0), (1, x1), (6, x6), (7, x7)] H c = V19_1 P p Q x0 x1 x6 x7 H c := by kernel_rfl
theorem q19_0_e0 (P : Program) (p : Lab) (Q : VPost) (r : RL) (H : Heap) (c : Nat) : q19_0 P p Q (.exit 0) r H c = (vc P p r19_2 Q r H c) := rfl
def V19_2 (P : Program) (p : Lab) (Q : VPost) (x0 x1 x6 x7 x27 : AV) (H : Heap) (c : Nat) : Prop :=
  vNil x0 fun v60_65 =>
  vFA 2 v60_65 fun v61_66 =>
  vLoad 1 false v61_66 H fun v62_67 _ =>
  vLen v62_67 fun v63_68 =>
  vLen x6 fun v65_70 =>
  vBin .sub .num v63_68 v65_70 fun v66_71 =>
  vNil x0 fun v69_75 =>
  vFA 2 v69_75 fun v70_76 =>
  vGen (.store 1) [v70_76, x6] H ((c + 13) :: p) (fun v_77 H77 l77 f77 =>
  Q .ret [(4, v66_71), (5, (.int .i64 0))] H77 (c + 17))
theorem vt19_2 (P : Program) (p : Lab) (Q : VPost) (x0 x1 x6 x7 x27 : AV) (H : Heap) (c : Nat) : vc P p r19_2 Q [(0, x0), (1, x1), (6, x6), (7, x7), (27, x27)] H c = V19_2 P p Q x0 x1 x6 x7 x27 H c := by kernel_rfl


/-- (*duet/resend.Store).Get -/
def c20 : AFun := ⟨2, 23, [.cell 4 10 true, .tmp 5],
  (.seq (.region [⟨(some 3), none, .box, [.t 1]⟩, ⟨(some 4), none, (.alloc [(.int .i64 0), (.int .i64 0), .nils, (.int .i64 0), (.int .i64 0), (.int .i64 0), (.int .i64 0), (.int .i64 0), (.int .i64 0), (.int .i64 0)]), []⟩, ⟨(some 5), none, .move, [.c (.bool false)]⟩] none [0, 3, 4])
  (.seq (.seq (.region [⟨(some 8), none, .move, [.t 0]⟩, ⟨(some 9), none, (.bin .eql .ptr), [.t 8, .c .nilp]⟩] none [0, 3, 4, 9])
  (.cond (.t 9) (.seq (.region [⟨(some 10), none, (.build [(.int .i64 0), (.int .i64 0), .nils, (.int .i64 0), (.int .i64 0), (.int .i64 0), (.int .i64 0), (.int .i64 0), (.int .i64 0), (.int .i64 0)] []), []⟩, ⟨none, none, (.store 10), [.t 4, .t 10]⟩, ⟨(some 5), none, .move, [.c (.bool false)]⟩] none [4, 5])
  .ret)
  .skip))
  (.seq (.region [⟨(some 12), none, .move, [.t 0]⟩, ⟨(some 13), none, .nilCheck, [.t 12]⟩, ⟨(some 14), none, (.fieldAddr 2), [.t 13]⟩, ⟨(some 15), none, (.load 1 false), [.t 14]⟩, ⟨(some 16), none, (.load 2 true), [.t 3]⟩, ⟨(some 17), none, (.lookup true [.int, .int] (.agg [(.int .i64 0), (.int .i64 0), .nils, (.int .i64 0), (.int .i64 0), (.int .i64 0), (.int .i64 0), (.int .i64 0), (.int .i64 0), (.int .i64 0)]) true), [.t 15, .t 16]⟩, ⟨(some 11), none, .move, [.t 17]⟩, ⟨(some 18), none, (.extract 0), [.t 11]⟩, ⟨(some 19), none, (.extract 1), [.t 11]⟩, ⟨(some 6), none, (.alloc [(.int .i64 0), (.int .i64 0), .nils, (.int .i64 0), (.int .i64 0), (.int .i64 0), (.int .i64 0), (.int .i64 0), (.int .i64 0), (.int .i64 0)]), []⟩, ⟨none, none, (.store 10), [.t 6, .t 18]⟩, ⟨(some 7), none, .move, [.t 19]⟩] (some [0, 1, 3, 7, 0, 31, 63, 127, 127, 0, 767, 2047]) [4, 6, 7])
  (.seq (.region [⟨(some 20), none, (.load 10 true), [.t 6]⟩, ⟨(some 21), none, .call, [.c (.fn (.func 44) [] []), .t 20]⟩, ⟨(some 22), none, .move, [.t 7]⟩, ⟨none, none, (.store 10), [.t 4, .t 21]⟩, ⟨(some 5), none, .move, [.t 22]⟩] none [4, 5])
  .ret))))⟩
theorem ok20 : FunOk Try.prog 20 c20 := ⟨⟨Try.f20, _, Try.func20, rfl, by kernel_rfl, by kernel_rfl, by kernel_rfl, by kernel_rfl⟩, by decide⟩
theorem res20 : c20.res = [.cell 4 10 true, .tmp 5] := rfl
def k20_0 (P : Program) (p : Lab) (Q : VPost) (y4 : AV) (H : Heap) (c : Nat) : Prop :=
  Q .ret [(4, y4), (5, (.bool false))] H c
def k20_1 (P : Program) (p : Lab) (Q : VPost) (c : Nat) (v_6 : AV) (H6 : Heap) (l6 : List Lab) (f6 : Option (List Lab)) : Prop :=
  (k20_0 P p Q (.ptr ((c + 1) :: p) 10 0 0) H6 (c + 8))
def k20_2 (P : Program) (p : Lab) (Q : VPost) (H1 : Heap) (c : Nat) (_ : Unit) : Prop :=
  vBuild [(.int .i64 0), (.int .i64 0), .nils, (.int .i64 0), (.int .i64 0), (.int .i64 0), (.int .i64 0), (.int .i64 0), (.int .i64 0), (.int .i64 0)] [] [] fun v10_5 =>
  vGen (.store 10) [(.ptr ((c + 1) :: p) 10 0 0), v10_5] H1 ((c + 6) :: p) (k20_1 P p Q c)
def k20_4 (P : Program) (p : Lab) (Q : VPost) (v19_16 : AV) (y4 : AV) (c : Nat) (v21_21 : AV) (H21 : Heap) (l21 : List Lab) (f21 : Option (List Lab)) : Prop :=
  vGen (.store 10) [y4, v21_21] H21 ((c + 15) :: p) (fun v_23 H23 l23 f23 =>
  Q .ret [(4, y4), (5, v19_16)] H23 (c + 17))
def k20_5 (P : Program) (p : Lab) (Q : VPost) (v19_16 : AV) (l13 : List Lab) (f13 : Option (List Lab)) (f12 : Option (List Lab)) (f11 : Option (List Lab)) (y4 : AV) (c : Nat) (v_18 : AV) (H18 : Heap) (l18 : List Lab) (f18 : Option (List Lab)) : Prop :=
  clashFree [0, 1, 3, 7, 0, 31, 63, 127, 127, 0, 767, 2047] (addTr 3 [] ((c + 3) :: p) f11 (addTr 4 [] ((c + 4) :: p) f12 (addTr 5 l13 ((c + 5) :: p) f13 (addTr 9 [((c + 9) :: p)] ((c + 9) :: p) (some []) (addTr 10 l18 ((c + 10) :: p) f18 []))))) ∧
  vLoad 10 true (.ptr ((c + 9) :: p) 10 0 0) H18 fun v20_20 _ =>
  vCall P 44 [v20_20] H18 ((c + 13) :: p) (k20_4 P p Q v19_16 y4 c)
def k20_6 (P : Program) (p : Lab) (Q : VPost) (f12 : Option (List Lab)) (f11 : Option (List Lab)) (y4 : AV) (c : Nat) (v17_13 : AV) (H13 : Heap) (l13 : List Lab) (f13 : Option (List Lab)) : Prop :=
  vExt 0 v17_13 fun v18_15 =>
  vExt 1 v17_13 fun v19_16 =>
  (fun (H17 : Heap) =>
  vGen (.store 10) [(.ptr ((c + 9) :: p) 10 0 0), v18_15] H17 ((c + 10) :: p) (k20_5 P p Q v19_16 l13 f13 f12 f11 y4 c)) (upd [(((c + 9) :: p), some (.rows 10 [[(.int .i64 0), (.int .i64 0), .nils, (.int .i64 0), (.int .i64 0), (.int .i64 0), (.int .i64 0), (.int .i64 0), (.int .i64 0), (.int .i64 0)]]))] H13)
def k20_3 (P : Program) (p : Lab) (Q : VPost) (y0 : AV) (y3 : AV) (y4 : AV) (y9 : AV) (H : Heap) (c : Nat) : Prop :=
  vNil y0 fun v13_9 =>
  vFA 2 v13_9 fun v14_10 =>
  vLoad 1 false v14_10 H fun v15_11 f11 =>
  vLoad 2 true y3 H fun v16_12 f12 =>
  vGen (.lookup true [.int, .int] (.agg [(.int .i64 0), (.int .i64 0), .nils, (.int .i64 0), (.int .i64 0), (.int .i64 0), (.int .i64 0), (.int .i64 0), (.int .i64 0), (.int .i64 0)]) true) [v15_11, v16_12] H ((c + 5) :: p) (k20_6 P p Q f12 f11 y4 c)
def k20_7 (P : Program) (p : Lab) (Q : VPost) (v9_4 : AV) (H1 : Heap) (w0 : List AV) (x0 : AV) (c : Nat) (_ : Unit) : Prop :=
  (k20_3 P p Q x0 (.ptr (c :: p) w0.length 0 0) (.ptr ((c + 1) :: p) 10 0 0) v9_4 H1 (c + 5))
def V20 (P : Program) (p : Lab) (Q : VPost) (x0 x1 : AV) (H : Heap) (c : Nat) : Prop :=
  vBox x1 fun w0 =>
  (fun (H0 : Heap) =>
  (fun (H1 : Heap) =>
  vBin .eql .ptr x0 .nilp fun v9_4 =>
  vSel v9_4
  (k20_2 P p Q H1 c)
  (k20_7 P p Q v9_4 H1 w0 x0 c)) (upd [(((c + 1) :: p), some (.rows 10 [[(.int .i64 0), (.int .i64 0), .nils, (.int .i64 0), (.int .i64 0), (.int .i64 0), (.int .i64 0), (.int .i64 0), (.int .i64 0), (.int .i64 0)]]))] H0)) (upd [((c :: p), some (.rows w0.length [w0]))] H)
theorem vt20 (P : Program) (p : Lab) (Q : VPost) (x0 x1 : AV) (H : Heap) (c : Nat) : vc P p c20.body Q [(0, x0), (1, x1)] H c = V20 P p Q x0 x1 H c := by kernel_rfl

def b21_1 : ACode := (.seq (.seq (.region [⟨(some 7), none, .move, [.t 6]⟩, ⟨(some 8), none, .move, [.t 0]⟩, ⟨(some 9), none, .nilCheck, [.t 8]⟩, ⟨(some 10), none, (.fieldAddr 2), [.t 9]⟩, ⟨(some 11), none, (.load 1 false), [.t 10]⟩, ⟨(some 12), none, (.len .slice), [.t 11]⟩, ⟨(some 13), none, (.bin .lss .num), [.t 7, .t 12]⟩] none [0, 3, 4, 6, 13])
  (.cond (.t 13) .skip
  (.exit 0)))
  (.seq (.block 1 (.seq (.region [⟨(some 16), none, .move, [.t 0]⟩, ⟨(some 17), none, .nilCheck, [.t 16]⟩, ⟨(some 18), none, (.fieldAddr 2), [.t 17]⟩, ⟨(some 19), none, (.load 1 false), [.t 18]⟩, ⟨(some 20), none, .move, [.t 6]⟩, ⟨(some 21), none, (.indexAddr 10), [.t 19, .t 20]⟩, ⟨(some 22), none, (.fieldAddr 0), [.t 21]⟩, ⟨(some 23), none, (.load 1 false), [.t 22]⟩, ⟨(some 24), none, (.fieldAddr 0), [.t 3]⟩, ⟨(some 25), none, (.load 1 false), [.t 24]⟩, ⟨(some 26), none, (.bin .eql .num), [.t 23, .t 25]⟩, ⟨(some 27), none, .move, [.t 26]⟩, ⟨(some 28), (some (27, true)), .move, [.t 0]⟩, ⟨(some 29), (some (27, true)), .nilCheck, [.t 28]⟩, ⟨(some 30), (some (27, true)), (.fieldAddr 2), [.t 29]⟩, ⟨(some 31), (some (27, true)), (.load 1 false), [.t 30]⟩, ⟨(some 32), (some (27, true)), .move, [.t 6]⟩, ⟨(some 33), (some (27, true)), (.indexAddr 10), [.t 31, .t 32]⟩, ⟨(some 34), (some (27, true)), (.fieldAddr 1), [.t 33]⟩, ⟨(some 35), (some (27, true)), (.load 1 false), [.t 34]⟩, ⟨(some 36), (some (27, true)), (.fieldAddr 1), [.t 3]⟩, ⟨(some 37), (some (27, true)), (.load 1 false), [.t 36]⟩, ⟨(some 38), (some (27, true)), (.bin .eql .num), [.t 35, .t 37]⟩, ⟨(some 39), none, .pick, [.t 27, .t 38, .c (.bool false)]⟩] (some [0, 1, 3, 7, 0, 31, 63, 127, 0, 256, 1023, 2047, 4095, 8191, 16383, 32767, 4095, 131071, 262143, 524287, 4095, 1052671, 4194303, 8388607]) [0, 3, 4, 6, 39])
  (.cond (.t 39) (.seq (.region [⟨(some 40), none, .move, [.t 0]⟩, ⟨(some 41), none, .nilCheck, [.t 40]⟩, ⟨(some 42), none, (.fieldAddr 2), [.t 41]⟩, ⟨(some 43), none, (.load 1 false), [.t 42]⟩, ⟨(some 44), none, .move, [.t 6]⟩, ⟨(some 45), none, (.indexAddr 10), [.t 43, .t 44]⟩, ⟨(some 46), none, (.load 10 true), [.t 45]⟩, ⟨(some 47), none, .call, [.c (.fn (.func 45) [] []), .t 46]⟩, ⟨none, none, (.store 10), [.t 4, .t 47]⟩, ⟨(some 5), none, .move, [.c (.bool true)]⟩] none [4, 5])
  .ret)
  .skip)))
  (.region [⟨(some 14), none, .move, [.t 6]⟩, ⟨(some 15), none, (.bin .add .num), [.t 14, .c (.int .i64 1)]⟩, ⟨(some 6), none, .move, [.t 15]⟩] none [0, 3, 4, 6])))
def l21_1 : ACode := .loop [0, 3, 4, 6] b21_1
def r21_2 : ACode := (.seq (.region [⟨(some 48), none, (.build [(.int .i64 0), (.int .i64 0), .nils, (.int .i64 0), (.int .i64 0), (.int .i64 0), (.int .i64 0), (.int .i64 0), (.int .i64 0), (.int .i64 0)] []), []⟩, ⟨none, none, (.store 10), [.t 4, .t 48]⟩, ⟨(some 5), none, .move, [.c (.bool false)]⟩] none [4, 5])
  .ret)
/-- (*duet/duetref08.Store).Get -/
def c21 : AFun := ⟨2, 49, [.cell 4 10 true, .tmp 5],
  (.seq (.region [⟨(some 3), none, .box, [.t 1]⟩, ⟨(some 4), none, (.alloc [(.int .i64 0), (.int .i64 0), .nils, (.int .i64 0), (.int .i64 0), (.int .i64 0), (.int .i64 0), (.int .i64 0), (.int .i64 0), (.int .i64 0)]), []⟩, ⟨(some 5), none, .move, [.c (.bool false)]⟩] none [0, 3, 4])
  (.seq (.seq (.region [⟨(some 6), none, .move, [.c (.int .i64 0)]⟩] none [0, 3, 4, 6])
  (.block 0 l21_1)) r21_2))⟩
theorem ok21 : FunOk Try.prog 21 c21 := ⟨⟨Try.f21, _, Try.func21, rfl, by kernel_rfl, by kernel_rfl, by kernel_rfl, by kernel_rfl⟩, by decide⟩
theorem res21 : c21.res = [.cell 4 10 true, .tmp 5] := rfl
def q21_0 (P : Program) (p : Lab) (Q : VPost) : VPost := (vblockQ 0 (vseqQ (vc P p r21_2 Q) Q))
theorem q21_0_ret (P : Program) (p : Lab) (Q : VPost) (r : RL) (H : Heap) (c : Nat) : q21_0 P p Q .ret r H c = Q .ret r H c := rfl
def V21 (P : Program) (p : Lab) (Q : VPost) (x0 x1 : AV) (H : Heap) (c : Nat) : Prop :=
  vBox x1 fun w0 =>
  (fun (H0 : Heap) =>
  (fun (H1 : Heap) =>
  vc P p l21_1 (q21_0 P p Q) [(0, x0), (3, (.ptr (c :: p) w0.length 0 0)), (4, (.ptr ((c + 1) :: p) 10 0 0)), (6, (.int .i64 0))] H1 (c + 4)) (upd [(((c + 1) :: p), some (.rows 10 [[(.int .i64 0), (.int .i64 0), .nils, (.int .i64 0), (.int .i64 0), (.int .i64 0), (.int .i64 0), (.int .i64 0), (.int .i64 0), (.int .i64 0)]]))] H0)) (upd [((c :: p), some (.rows w0.length [w0]))] H)
theorem vt21 (P : Program) (p : Lab) (Q : VPost) (x0 x1 : AV) (H : Heap) (c : Nat) : vc P p c21.body Q [(0, x0), (1, x1)] H c = V21 P p Q x0 x1 H c := by kernel_rfl
def k21_3 (P : Program) (p : Lab) (Q : VPost) (y4 : AV) (c : Nat) (v47_42 : AV) (H42 : Heap) (l42 : List Lab) (f42 : Option (List Lab)) : Prop :=
  vGen (.store 10) [y4, v47_42] H42 ((c + 8) :: p) (fun v_43 H43 l43 f43 =>
  Q .ret [(4, y4), (5, (.bool true))] H43 (c + 10))
def k21_2 (P : Program) (p : Lab) (Q : VPost) (y0 : AV) (y4 : AV) (y6 : AV) (H : Heap) (c : Nat) : Prop :=
  vNil y0 fun v41_36 =>
  vFA 2 v41_36 fun v42_37 =>
  vLoad 1 false v42_37 H fun v43_38 _ =>
  vIx 10 v43_38 y6 fun v45_40 =>
  vLoad 10 true v45_40 H fun v46_41 _ =>
  vCall P 45 [v46_41] H ((c + 7) :: p) (k21_3 P p Q y4 c)
def k21_4 (P : Program) (p : Lab) (Q : VPost) (y0 : AV) (y4 : AV) (y6 : AV) (H : Heap) (c : Nat) (_ : Unit) : Prop :=
  (k21_2 P p Q y0 y4 y6 H c)
def k21_5 (P : Program) (p : Lab) (Q : VPost) (y0 : AV) (y3 : AV) (y4 : AV) (y6 : AV) (y39 : AV) (H : Heap) (c : Nat) : Prop :=
  vBin .add .num y6 (.int .i64 1) fun v15_46 =>
  Q .normal [(0, y0), (3, y3), (4, y4), (6, v15_46)] H (c + 3)
def k21_6 (P : Program) (p : Lab) (Q : VPost) (y0 : AV) (y3 : AV) (y4 : AV) (y6 : AV) (y39 : AV) (H : Heap) (c : Nat) (_ : Unit) : Prop :=
  (k21_5 P p Q y0 y3 y4 y6 y39 H c)
def k21_1 (P : Program) (p : Lab) (Q : VPost) (y0 : AV) (y3 : AV) (y4 : AV) (y6 : AV) (y39 : AV) (H : Heap) (c : Nat) : Prop :=
  vSel y39
  (k21_4 P p Q y0 y4 y6 H c)
  (k21_6 P p Q y0 y3 y4 y6 y39 H c)
def k21_7 (P : Program) (p : Lab) (Q : VPost) (f20 : Option (List Lab)) (f18 : Option (List Lab)) (f14 : Option (List Lab)) (y0 : AV) (y3 : AV) (y4 : AV) (y6 : AV) (H : Heap) (c : Nat) (_ : Unit) : Prop :=
  vNil y0 fun v29_24 =>
  vFA 2 v29_24 fun v30_25 =>
  vLoad 1 false v30_25 H fun v31_26 f26 =>
  vIx 10 v31_26 y6 fun v33_28 =>
  vFA 1 v33_28 fun v34_29 =>
  vLoad 1 false v34_29 H fun v35_30 f30 =>
  vFA 1 y3 fun v36_31 =>
  vLoad 1 false v36_31 H fun v37_32 f32 =>
  vBin .eql .num v35_30 v37_32 fun v38_33 =>
  clashFree [0, 1, 3, 7, 0, 31, 63, 127, 0, 256, 1023, 2047, 4095, 8191, 16383, 32767, 4095, 131071, 262143, 524287, 4095, 1052671, 4194303, 8388607] (addTr 3 [] ((c + 3) :: p) f14 (addTr 7 [] ((c + 7) :: p) f18 (addTr 9 [] ((c + 9) :: p) f20 (addTr 15 [] ((c + 15) :: p) f26 (addTr 19 [] ((c + 19) :: p) f30 (addTr 21 [] ((c + 21) :: p) f32 [])))))) ∧
  (k21_1 P p Q y0 y3 y4 y6 v38_33 H (c + 24))
def k21_8 (P : Program) (p : Lab) (Q : VPost) (y0 : AV) (y3 : AV) (y4 : AV) (y6 : AV) (H : Heap) (c : Nat) : Prop :=
  vBin .add .num y6 (.int .i64 1) fun v15_50 =>
  Q .normal [(0, y0), (3, y3), (4, y4), (6, v15_50)] H (c + 3)
def k21_9 (P : Program) (p : Lab) (Q : VPost) (f20 : Option (List Lab)) (f18 : Option (List Lab)) (f14 : Option (List Lab)) (y0 : AV) (y3 : AV) (y4 : AV) (y6 : AV) (H : Heap) (c : Nat) (_ : Unit) : Prop :=
  clashFree [0, 1, 3, 7, 0, 31, 63, 127, 0, 256, 1023, 2047, 4095, 8191, 16383, 32767, 4095, 131071, 262143, 524287, 4095, 1052671, 4194303, 8388607] (addTr 3 [] ((c + 3) :: p) f14 (addTr 7 [] ((c + 7) :: p) f18 (addTr 9 [] ((c + 9) :: p) f20 []))) ∧
  (k21_8 P p Q y0 y3 y4 y6 H (c + 24))
def k21_0 (P : Program) (p : Lab) (Q : VPost) (y0 : AV) (y3 : AV) (y4 : AV) (y6 : AV) (y13 : AV) (H : Heap) (c : Nat) : Prop :=
  vNil y0 fun v17_12 =>
  vFA 2 v17_12 fun v18_13 =>
  vLoad 1 false v18_13 H fun v19_14 f14 =>
  vIx 10 v19_14 y6 fun v21_16 =>
  vFA 0 v21_16 fun v22_17 =>
  vLoad 1 false v22_17 H fun v23_18 f18 =>
  vFA 0 y3 fun v24_19 =>
  vLoad 1 false v24_19 H fun v25_20 f20 =>
  vBin .eql .num v23_18 v25_20 fun v26_21 =>
  vSel v26_21
  (k21_7 P p Q f20 f18 f14 y0 y3 y4 y6 H c)
  (k21_9 P p Q f20 f18 f14 y0 y3 y4 y6 H c)
def k21_10 (P : Program) (p : Lab) (Q : VPost) (v13_10 : AV) (x0 : AV) (x3 : AV) (x4 : AV) (x6 : AV) (H : Heap) (c : Nat) (_ : Unit) : Prop :=
  (k21_0 P p Q x0 x3 x4 x6 v13_10 H (c + 7))
def V21_1 (P : Program) (p : Lab) (Q : VPost) (x0 x3 x4 x6 : AV) (H : Heap) (c : Nat) : Prop :=
  vNil x0 fun v9_6 =>
  vFA 2 v9_6 fun v10_7 =>
  vLoad 1 false v10_7 H fun v11_8 _ =>
  vLen v11_8 fun v12_9 =>
  vBin .lss .num x6 v12_9 fun v13_10 =>
  vSel v13_10
  (k21_10 P p Q v13_10 x0 x3 x4 x6 H c)
  (fun _ =>
  Q (.exit 0) [(0, x0), (3, x3), (4, x4), (6, x6), (13, v13_10)] H (c + 7))
theorem vt21_1 (P : Program) (p : Lab) (Q : VPost) (x0 x3 x4 x6 : AV) (H : Heap) (c : Nat) : vc P p b21_1 Q [(0, x0), (3, x3), (4, x4), (6, x6)] H c = V21_1 P p Q x0 x3 x4 x6 H c := by kernel_rfl
theorem q21_0_e0 (P : Program) (p : Lab) (Q : VPost) (r : RL) (H : Heap) (c : Nat) : q21_0 P p Q (.exit 0) r H c = (vc P p r21_2 Q r H c) := rfl
def V21_2 (P : Program) (p : Lab) (Q : VPost) (x0 x3 x4 x6 x13 : AV) (H : Heap) (c : Nat) : Prop :=
  vBuild [(.int .i64 0), (.int .i64 0), .nils, (.int .i64 0), (.int .i64 0), (.int .i64 0), (.int .i64 0), (.int .i64 0), (.int .i64 0), (.int .i64 0)] [] [] fun v48_52 =>
  vGen (.store 10) [x4, v48_52] H ((c + 1) :: p) (fun v_53 H53 l53 f53 =>
  Q .ret [(4, x4), (5, (.bool false))] H53 (c + 3))
theorem vt21_2 (P : Program) (p : Lab) (Q : VPost) (x0 x3 x4 x6 x13 : AV) (H : Heap) (c : Nat) : vc P p r21_2 Q [(0, x0), (3, x3), (4, x4), (6, x6), (13, x13)] H c = V21_2 P p Q x0 x3 x4 x6 x13 H c := by kernel_rfl


/-- duet/duetref04.Same -/
def c22 : AFun := ⟨2, 31, [.tmp 4],
  (.seq (.region [⟨(some 2), none, .box, [.t 0]⟩, ⟨(some 3), none, .box, [.t 1]⟩, ⟨(some 4), none, .move, [.c (.bool false)]⟩] none [2, 3])
  (.seq (.region [⟨(some 5), none, (.fieldAddr 0), [.t 2]⟩, ⟨(some 6), none, (.load 1 false), [.t 5]⟩, ⟨(some 7), none, (.fieldAddr 0), [.t 3]⟩, ⟨(some 8), none, (.load 1 false), [.t 7]⟩, ⟨(some 9), none, (.bin .eql .num), [.t 6, .t 8]⟩, ⟨(some 10), none, .move, [.t 9]⟩, ⟨(some 11), (some (10, true)), (.fieldAddr 1), [.t 2]⟩, ⟨(some 12), (some (10, true)), (.load 1 false), [.t 11]⟩, ⟨(some 13), (some (10, true)), (.fieldAddr 1), [.t 3]⟩, ⟨(some 14), (some (10, true)), (.load 1 false), [.t 13]⟩, ⟨(some 15), (some (10, true)), (.bin .eql .num), [.t 12, .t 14]⟩, ⟨(some 16), none, .pick, [.t 10, .t 15, .c (.bool false)]⟩, ⟨(some 17), none, .move, [.t 16]⟩, ⟨(some 18), (some (17, true)), (.fieldAddr 3), [.t 2]⟩, ⟨(some 19), (some (17, true)), (.load 7 true), [.t 18]⟩, ⟨(some 20), (some (17, true)), (.fieldAddr 3), [.t 3]⟩, ⟨(some 21), (some (17, true)), (.load 7 true), [.t 20]⟩, ⟨(some 22), (some (17, true)), (.eqs .eql [.int, .int, .int, .int, .int, .int, .int]), [.t 19, .t 21]⟩, ⟨(some 23), none, .pick, [.t 17, .t 22, .c (.bool false)]⟩, ⟨(some 24), none, .move, [.t 23]⟩, ⟨(some 25), (some (24, true)), (.fieldAddr 2), [.t 2]⟩, ⟨(some 26), (some (24, true)), (.load 1 false), [.t 25]⟩, ⟨(some 27), (some (24, true)), (.fieldAddr 2), [.t 3]⟩, ⟨(some 28), (some (24, true)), (.load 1 false), [.t 27]⟩, ⟨(some 29), (some (24, true)), .call, [.c (.fn (.func 37) [] []), .t 26, .t 28]⟩, ⟨(some 30), none, .pick, [.t 24, .t 29, .c (.bool false)]⟩, ⟨(some 4), none, .move, [.t 30]⟩] none [4])
  .ret))⟩
theorem ok22 : FunOk Try.prog 22 c22 := ⟨⟨Try.f22, _, Try.func22, rfl, by kernel_rfl, by kernel_rfl, by kernel_rfl, by kernel_rfl⟩, by decide⟩
theorem res22 : c22.res = [.tmp 4] := rfl
def k22_2 (P : Program) (p : Lab) (Q : VPost) (y4 : AV) (H : Heap) (c : Nat) : Prop :=
  Q .ret [(4, y4)] H c
def k22_3 (P : Program) (p : Lab) (Q : VPost) (c : Nat) (v29_27 : AV) (H27 : Heap) (l27 : List Lab) (f27 : Option (List Lab)) : Prop :=
  (k22_2 P p Q v29_27 H27 (c + 9))
def k22_4 (P : Program) (p : Lab) (Q : VPost) (y2 : AV) (y3 : AV) (H : Heap) (c : Nat) (_ : Unit) : Prop :=
  vFA 2 y2 fun v25_23 =>
  vLoad 1 false v25_23 H fun v26_24 _ =>
  vFA 2 y3 fun v27_25 =>
  vLoad 1 false v27_25 H fun v28_26 _ =>
  vCall P 37 [v26_24, v28_26] H ((c + 6) :: p) (k22_3 P p Q c)
def k22_5 (P : Program) (p : Lab) (Q : VPost)  (H : Heap) (c : Nat) : Prop :=
  Q .ret [(4, (.bool false))] H c
def k22_6 (P : Program) (p : Lab) (Q : VPost) (H : Heap) (c : Nat) (_ : Unit) : Prop :=
  (k22_5 P p Q  H (c + 9))
def k22_1 (P : Program) (p : Lab) (Q : VPost) (y2 : AV) (y3 : AV) (y22 : AV) (H : Heap) (c : Nat) : Prop :=
  vSel y22
  (k22_4 P p Q y2 y3 H c)
  (k22_6 P p Q H c)
def k22_7 (P : Program) (p : Lab) (Q : VPost) (y2 : AV) (y3 : AV) (c : Nat) (v22_20 : AV) (H20 : Heap) (l20 : List Lab) (f20 : Option (List Lab)) : Prop :=
  (k22_1 P p Q y2 y3 v22_20 H20 (c + 7))
def k22_8 (P : Program) (p : Lab) (Q : VPost) (y2 : AV) (y3 : AV) (H : Heap) (c : Nat) (_ : Unit) : Prop :=
  vFA 3 y2 fun v18_16 =>
  vLoad 7 true v18_16 H fun v19_17 _ =>
  vFA 3 y3 fun v20_18 =>
  vLoad 7 true v20_18 H fun v21_19 _ =>
  vGen (.eqs .eql [.int, .int, .int, .int, .int, .int, .int]) [v19_17, v21_19] H ((c + 6) :: p) (k22_7 P p Q y2 y3 c)
def k22_9 (P : Program) (p : Lab) (Q : VPost) (y2 : AV) (y3 : AV) (H : Heap) (c : Nat) : Prop :=
  (k22_5 P p Q  H (c + 9))
def k22_10 (P : Program) (p : Lab) (Q : VPost) (y2 : AV) (y3 : AV) (H : Heap) (c : Nat) (_ : Unit) : Prop :=
  (k22_9 P p Q y2 y3 H (c + 7))
def k22_0 (P : Program) (p : Lab) (Q : VPost) (y2 : AV) (y3 : AV) (y15 : AV) (H : Heap) (c : Nat) : Prop :=
  vSel y15
  (k22_8 P p Q y2 y3 H c)
  (k22_10 P p Q y2 y3 H c)
def k22_11 (P : Program) (p : Lab) (Q : VPost) (H1 : Heap) (w1 : List AV) (w0 : List AV) (c : Nat) (_ : Unit) : Prop :=
  vFA 1 (.ptr (c :: p) w0.length 0 0) fun v11_9 =>
  vLoad 1 false v11_9 H1 fun v12_10 _ =>
  vFA 1 (.ptr ((c + 1) :: p) w1.length 0 0) fun v13_11 =>
  vLoad 1 false v13_11 H1 fun v14_12 _ =>
  vBin .eql .num v12_10 v14_12 fun v15_13 =>
  (k22_0 P p Q (.ptr (c :: p) w0.length 0 0) (.ptr ((c + 1) :: p) w1.length 0 0) v15_13 H1 (c + 14))
def k22_13 (P : Program) (p : Lab) (Q : VPost) (y2 : AV) (y3 : AV) (H : Heap) (c : Nat) : Prop :=
  (k22_5 P p Q  H (c + 9))
def k22_12 (P : Program) (p : Lab) (Q : VPost) (y2 : AV) (y3 : AV) (H : Heap) (c : Nat) : Prop :=
  (k22_13 P p Q y2 y3 H (c + 7))
def k22_14 (P : Program) (p : Lab) (Q : VPost) (H1 : Heap) (w1 : List AV) (w0 : List AV) (c : Nat) (_ : Unit) : Prop :=
  (k22_12 P p Q (.ptr (c :: p) w0.length 0 0) (.ptr ((c + 1) :: p) w1.length 0 0) H1 (c + 14))
def V22 (P : Program) (p : Lab) (Q : VPost) (x0 x1 : AV) (H : Heap) (c : Nat) : Prop :=
  vBox x0 fun w0 =>
  (fun (H0 : Heap) =>
  vBox x1 fun w1 =>
  (fun (H1 : Heap) =>
  vFA 0 (.ptr (c :: p) w0.length 0 0) fun v5_3 =>
  vLoad 1 false v5_3 H1 fun v6_4 _ =>
  vFA 0 (.ptr ((c + 1) :: p) w1.length 0 0) fun v7_5 =>
  vLoad 1 false v7_5 H1 fun v8_6 _ =>
  vBin .eql .num v6_4 v8_6 fun v9_7 =>
  vSel v9_7
  (k22_11 P p Q H1 w1 w0 c)
  (k22_14 P p Q H1 w1 w0 c)) (upd [(((c + 1) :: p), some (.rows w1.length [w1]))] H0)) (upd [((c :: p), some (.rows w0.length [w0]))] H)
theorem vt22 (P : Program) (p : Lab) (Q : VPost) (x0 x1 : AV) (H : Heap) (c : Nat) : vc P p c22.body Q [(0, x0), (1, x1)] H c = V22 P p Q x0 x1 H c := by kernel_rfl


/-- (*duet/resend.Store).Len -/
def c23 : AFun := ⟨1, 10, [.tmp 2],
  (.seq (.region [⟨(some 2), none, .move, [.c (.int .i64 0)]⟩] none [0])
  (.seq (.seq (.region [⟨(some 3), none, .move, [.t 0]⟩, ⟨(some 4), none, (.bin .eql .ptr), [.t 3, .c .nilp]⟩] none [0, 4])
  (.cond (.t 4) (.seq (.region [⟨(some 2), none, .move, [.c (.int .i64 0)]⟩] none [2])
  .ret)
  .skip))
  (.seq (.region [⟨(some 5), none, .move, [.t 0]⟩, ⟨(some 6), none, .nilCheck, [.t 5]⟩, ⟨(some 7), none, (.fieldAddr 2), [.t 6]⟩, ⟨(some 8), none, (.load 1 false), [.t 7]⟩, ⟨(some 9), none, (.len .map), [.t 8]⟩, ⟨(some 2), none, .move, [.t 9]⟩] none [2])
  .ret)))⟩
theorem ok23 : FunOk Try.prog 23 c23 := ⟨⟨Try.f23, _, Try.func23, rfl, by kernel_rfl, by kernel_rfl, by kernel_rfl, by kernel_rfl⟩, by decide⟩
theorem res23 : c23.res = [.tmp 2] := rfl
def k23_0 (P : Program) (p : Lab) (Q : VPost)  (H : Heap) (c : Nat) : Prop :=
  Q .ret [(2, (.int .i64 0))] H c
def k23_1 (P : Program) (p : Lab) (Q : VPost) (H : Heap) (c : Nat) (_ : Unit) : Prop :=
  (k23_0 P p Q  H (c + 4))
def k23_2 (P : Program) (p : Lab) (Q : VPost) (y0 : AV) (y4 : AV) (H : Heap) (c : Nat) : Prop :=
  vNil y0 fun v6_5 =>
  vFA 2 v6_5 fun v7_6 =>
  vLoad 1 false v7_6 H fun v8_7 _ =>
  vGen (.len .map) [v8_7] H ((c + 4) :: p) (fun v9_8 H8 l8 f8 =>
  Q .ret [(2, v9_8)] H8 (c + 6))
def k23_3 (P : Program) (p : Lab) (Q : VPost) (v4_2 : AV) (x0 : AV) (H : Heap) (c : Nat) (_ : Unit) : Prop :=
  (k23_2 P p Q x0 v4_2 H (c + 3))
def V23 (P : Program) (p : Lab) (Q : VPost) (x0 : AV) (H : Heap) (c : Nat) : Prop :=
  vBin .eql .ptr x0 .nilp fun v4_2 =>
  vSel v4_2
  (k23_1 P p Q H c)
  (k23_3 P p Q v4_2 x0 H c)
theorem vt23 (P : Program) (p : Lab) (Q : VPost) (x0 : AV) (H : Heap) (c : Nat) : vc P p c23.body Q [(0, x0)] H c = V23 P p Q x0 H c := by kernel_rfl

def b37_1 : ACode := (.seq (.seq (.region [⟨(some 11), none, .move, [.t 5]⟩, ⟨(some 12), none, .move, [.t 0]⟩, ⟨(some 13), none, (.len .slice), [.t 12]⟩, ⟨(some 14), none, (.bin .lss .num), [.t 11, .t 13]⟩] none [0, 1, 5, 14])
  (.cond (.t 14) .skip
  (.exit 0)))
  (.seq (.block 1 (.seq (.region [⟨(some 17), none, .move, [.t 0]⟩, ⟨(some 18), none, .move, [.t 5]⟩, ⟨(some 19), none, (.indexAddr 1), [.t 17, .t 18]⟩, ⟨(some 20), none, (.load 1 false), [.t 19]⟩, ⟨(some 21), none, .move, [.t 1]⟩, ⟨(some 22), none, .move, [.t 5]⟩, ⟨(some 23), none, (.indexAddr 1), [.t 21, .t 22]⟩, ⟨(some 24), none, (.load 1 false), [.t 23]⟩, ⟨(some 25), none, (.bin .neq .num), [.t 20, .t 24]⟩] (some [0, 0, 3, 7, 0, 0, 48, 112, 255]) [0, 1, 5, 25])
  (.cond (.t 25) (.seq (.region [⟨(some 4), none, .move, [.c (.bool false)]⟩] none [4])
  .ret)
  .skip)))
  (.region [⟨(some 15), none, .move, [.t 5]⟩, ⟨(some 16), none, (.bin .add .num), [.t 15, .c (.int .i64 1)]⟩, ⟨(some 5), none, .move, [.t 16]⟩] none [0, 1, 5])))
def l37_1 : ACode := .loop [0, 1, 5] b37_1
def r37_2 : ACode := (.seq (.region [⟨(some 4), none, .move, [.c (.bool true)]⟩] none [4])
  .ret)
/-- duet/duetref01.Same -/
def c37 : AFun := ⟨2, 26, [.tmp 4],
  (.seq (.region [⟨(some 4), none, .move, [.c (.bool false)]⟩] none [0, 1])
  (.seq (.seq (.region [⟨(some 6), none, .move, [.t 0]⟩, ⟨(some 7), none, (.len .slice), [.t 6]⟩, ⟨(some 8), none, .move, [.t 1]⟩, ⟨(some 9), none, (.len .slice), [.t 8]⟩, ⟨(some 10), none, (.bin .neq .num), [.t 7, .t 9]⟩] none [0, 1, 10])
  (.cond (.t 10) (.seq (.region [⟨(some 4), none, .move, [.c (.bool false)]⟩] none [4])
  .ret)
  .skip))
  (.seq (.seq (.region [⟨(some 5), none, .move, [.c (.int .i64 0)]⟩] none [0, 1, 5])
  (.block 0 l37_1)) r37_2)))⟩
theorem ok37 : FunOk Try.prog 37 c37 := ⟨⟨Try.f37, _, Try.func37, rfl, by kernel_rfl, by kernel_rfl, by kernel_rfl, by kernel_rfl⟩, by decide⟩
theorem res37 : c37.res = [.tmp 4] := rfl
def k37_0 (P : Program) (p : Lab) (Q : VPost)  (H : Heap) (c : Nat) : Prop :=
  Q .ret [(4, (.bool false))] H c
def k37_1 (P : Program) (p : Lab) (Q : VPost) (H : Heap) (c : Nat) (_ : Unit) : Prop :=
  (k37_0 P p Q  H (c + 7))
def q37_0 (P : Program) (p : Lab) (Q : VPost) : VPost := (vblockQ 0 (vseqQ (vc P p r37_2 Q) Q))
theorem q37_0_ret (P : Program) (p : Lab) (Q : VPost) (r : RL) (H : Heap) (c : Nat) : q37_0 P p Q .ret r H c = Q .ret r H c := rfl
def k37_2 (P : Program) (p : Lab) (Q : VPost) (y0 : AV) (y1 : AV) (y10 : AV) (H : Heap) (c : Nat) : Prop :=
  vc P p l37_1 (q37_0 P p Q) [(0, y0), (1, y1), (5, (.int .i64 0))] H (c + 1)
def k37_3 (P : Program) (p : Lab) (Q : VPost) (v10_5 : AV) (x0 : AV) (x1 : AV) (H : Heap) (c : Nat) (_ : Unit) : Prop :=
  (k37_2 P p Q x0 x1 v10_5 H (c + 6))
def V37 (P : Program) (p : Lab) (Q : VPost) (x0 x1 : AV) (H : Heap) (c : Nat) : Prop :=
  vLen x0 fun v7_2 =>
  vLen x1 fun v9_4 =>
  vBin .neq .num v7_2 v9_4 fun v10_5 =>
  vSel v10_5
  (k37_1 P p Q H c)
  (k37_3 P p Q v10_5 x0 x1 H c)
theorem vt37 (P : Program) (p : Lab) (Q : VPost) (x0 x1 : AV) (H : Heap) (c : Nat) : vc P p c37.body Q [(0, x0), (1, x1)] H c = V37 P p Q x0 x1 H c := by kernel_rfl
def k37_5 (P : Program) (p : Lab) (Q : VPost)  (H : Heap) (c : Nat) : Prop :=
  Q .ret [(4, (.bool false))] H c
def k37_6 (P : Program) (p : Lab) (Q : VPost) (H : Heap) (c : Nat) (_ : Unit) : Prop :=
  (k37_5 P p Q  H (c + 10))
def k37_7 (P : Program) (p : Lab) (Q : VPost) (y0 : AV) (y1 : AV) (y5 : AV) (y25 : AV) (H : Heap) (c : Nat) : Prop :=
  vBin .add .num y5 (.int .i64 1) fun v16_23 =>
  Q .normal [(0, y0), (1, y1), (5, v16_23)] H (c + 3)
def k37_8 (P : Program) (p : Lab) (Q : VPost) (v25_20 : AV) (y0 : AV) (y1 : AV) (y5 : AV) (H : Heap) (c : Nat) (_ : Unit) : Prop :=
  (k37_7 P p Q y0 y1 y5 v25_20 H (c + 9))
def k37_4 (P : Program) (p : Lab) (Q : VPost) (y0 : AV) (y1 : AV) (y5 : AV) (y14 : AV) (H : Heap) (c : Nat) : Prop :=
  vIx 1 y0 y5 fun v19_14 =>
  vLoad 1 false v19_14 H fun v20_15 f15 =>
  vIx 1 y1 y5 fun v23_18 =>
  vLoad 1 false v23_18 H fun v24_19 f19 =>
  vBin .neq .num v20_15 v24_19 fun v25_20 =>
  clashFree [0, 0, 3, 7, 0, 0, 48, 112, 255] (addTr 3 [] ((c + 3) :: p) f15 (addTr 7 [] ((c + 7) :: p) f19 [])) ∧
  vSel v25_20
  (k37_6 P p Q H c)
  (k37_8 P p Q v25_20 y0 y1 y5 H c)
def k37_9 (P : Program) (p : Lab) (Q : VPost) (v14_11 : AV) (x0 : AV) (x1 : AV) (x5 : AV) (H : Heap) (c : Nat) (_ : Unit) : Prop :=
  (k37_4 P p Q x0 x1 x5 v14_11 H (c + 4))
def V37_1 (P : Program) (p : Lab) (Q : VPost) (x0 x1 x5 : AV) (H : Heap) (c : Nat) : Prop :=
  vLen x0 fun v13_10 =>
  vBin .lss .num x5 v13_10 fun v14_11 =>
  vSel v14_11
  (k37_9 P p Q v14_11 x0 x1 x5 H c)
  (fun _ =>
  Q (.exit 0) [(0, x0), (1, x1), (5, x5), (14, v14_11)] H (c + 4))
theorem vt37_1 (P : Program) (p : Lab) (Q : VPost) (x0 x1 x5 : AV) (H : Heap) (c : Nat) : vc P p b37_1 Q [(0, x0), (1, x1), (5, x5)] H c = V37_1 P p Q x0 x1 x5 H c := by kernel_rfl
theorem q37_0_e0 (P : Program) (p : Lab) (Q : VPost) (r : RL) (H : Heap) (c : Nat) : q37_0 P p Q (.exit 0) r H c = (vc P p r37_2 Q r H c) := rfl
def V37_2 (P : Program) (p : Lab) (Q : VPost) (x0 x1 x5 x14 : AV) (H : Heap) (c : Nat) : Prop :=
  Q .ret [(4, (.bool true))] H (c + 1)
theorem vt37_2 (P : Program) (p : Lab) (Q : VPost) (x0 x1 x5 x14 : AV) (H : Heap) (c : Nat) : vc P p r37_2 Q [(0, x0), (1, x1), (5, x5), (14, x14)] H c = V37_2 P p Q x0 x1 x5 x14 H c := by kernel_rfl



end Go.Proofs.Ytoajcigegjhiaaa
