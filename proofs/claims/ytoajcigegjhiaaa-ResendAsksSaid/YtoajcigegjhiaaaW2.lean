/- What is owed of functions of the program, as formulas. -/
import Derived.Test.YtoajcigegjhiaaaA26
import Derived.Test.YtoajcigegjhiaaaProg
import Derived.KernelRfl
namespace Go.Proofs.Ytoajcigegjhiaaa
set_option maxRecDepth 100000
set_option linter.unusedVariables false
set_option linter.unusedSimpArgs false
def b4_1 : ACode := (.seq (.seq (.region [⟨(some 36), none, .move, [.t 12]⟩, ⟨(some 37), none, .move, [.t 7]⟩, ⟨(some 38), none, (.len .slice), [.t 37]⟩, ⟨(some 39), none, (.bin .lss .num), [.t 36, .t 38]⟩] none [7, 8, 9, 10, 11, 12, 39])
  (.cond (.t 39) .skip
  (.exit 0)))
  (.seq (.block 1 (.region [⟨(some 42), none, .move, [.t 11]⟩, ⟨(some 43), none, .move, [.t 7]⟩, ⟨(some 44), none, .move, [.t 12]⟩, ⟨(some 45), none, (.indexAddr 2), [.t 43, .t 44]⟩, ⟨(some 46), none, (.fieldAddr 0), [.t 45]⟩, ⟨(some 47), none, (.load 1 false), [.t 46]⟩, ⟨(some 48), none, .move, [.t 7]⟩, ⟨(some 49), none, .move, [.t 12]⟩, ⟨(some 50), none, (.indexAddr 2), [.t 48, .t 49]⟩, ⟨(some 51), none, (.fieldAddr 1), [.t 50]⟩, ⟨(some 52), none, (.load 1 false), [.t 51]⟩, ⟨(some 53), none, (.build [(.int .i64 0), (.int .i64 0)] [(0, 1), (1, 1)]), [.t 47, .t 52]⟩, ⟨(some 54), none, (.buildSlice 2 [(.int .i64 0), (.int .i64 0)] [(0, 2)]), [.t 53]⟩, ⟨(some 55), none, (.append 2 16), [.t 42, .t 54]⟩, ⟨(some 11), none, .move, [.t 55]⟩] (some [0, 0, 0, 6, 14, 30, 0, 0, 192, 448, 960, 2046, 4094, 8191, 16383]) [7, 8, 9, 10, 11, 12]))
  (.region [⟨(some 40), none, .move, [.t 12]⟩, ⟨(some 41), none, (.bin .add .num), [.t 40, .c (.int .i64 1)]⟩, ⟨(some 12), none, .move, [.t 41]⟩] none [7, 8, 9, 10, 11, 12])))
def l4_1 : ACode := .loop [7, 8, 9, 10, 11, 12] b4_1
def r4_2 : ACode := (.seq (.region [⟨(some 56), none, .move, [.t 11]⟩, ⟨(some 57), none, .move, [.t 9]⟩, ⟨(some 58), none, .call, [.c (.fn (.func 26) [] []), .t 56, .t 57]⟩, ⟨(some 59), none, .move, [.t 58]⟩, ⟨(some 60), (some (59, true)), .move, [.t 8]⟩, ⟨(some 61), (some (59, true)), .move, [.t 10]⟩, ⟨(some 62), (some (59, true)), (.bin .eql .num), [.t 60, .t 61]⟩, ⟨(some 63), none, .pick, [.t 59, .t 62, .c (.bool false)]⟩, ⟨(some 64), none, .move, [.t 63]⟩, ⟨(some 65), (some (64, true)), .call, [.c (.fn (.func 15) [] [])]⟩, ⟨(some 66), none, .pick, [.t 64, .t 65, .c (.bool false)]⟩, ⟨(some 6), none, .move, [.t 66]⟩] none [6])
  .ret)
/-- duet/duetlaw08.ResendAsks -/
def c4 : AFun := ⟨3, 67, [.tmp 6],
  (.seq (.region [⟨(some 6), none, .move, [.c (.bool false)]⟩] none [0, 1, 2])
  (.seq (.seq (.region [⟨(some 13), none, .move, [.t 0]⟩, ⟨(some 14), none, (.len .slice), [.t 13]⟩, ⟨(some 15), none, (.bin .gtr .num), [.t 14, .c (.int .i64 30)]⟩, ⟨(some 16), none, .move, [.t 15]⟩, ⟨(some 17), (some (16, false)), .move, [.t 1]⟩, ⟨(some 18), (some (16, false)), (.len .slice), [.t 17]⟩, ⟨(some 19), (some (16, false)), (.bin .gtr .num), [.t 18, .c (.int .i64 30)]⟩, ⟨(some 20), none, .pick, [.t 16, .c (.bool true), .t 19]⟩] none [0, 1, 2, 20])
  (.cond (.t 20) (.seq (.region [⟨(some 21), none, .call, [.c (.fn (.func 15) [] [])]⟩, ⟨(some 6), none, .move, [.t 21]⟩] none [6])
  .ret)
  .skip))
  (.seq (.region [⟨(some 23), none, .move, [.t 0]⟩, ⟨(some 24), none, .move, [.t 1]⟩, ⟨(some 25), none, .move, [.t 2]⟩, ⟨(some 26), none, .call, [.c (.fn (.func 24) [] []), .t 23, .t 24, .t 25]⟩, ⟨(some 22), none, .move, [.t 26]⟩, ⟨(some 27), none, (.extract 0), [.t 22]⟩, ⟨(some 28), none, (.extract 1), [.t 22]⟩, ⟨(some 7), none, .move, [.t 27]⟩, ⟨(some 8), none, .move, [.t 28]⟩] none [0, 1, 2, 7, 8])
  (.seq (.region [⟨(some 30), none, .move, [.t 0]⟩, ⟨(some 31), none, .move, [.t 1]⟩, ⟨(some 32), none, .move, [.t 2]⟩, ⟨(some 33), none, .call, [.c (.fn (.func 25) [] []), .t 30, .t 31, .t 32]⟩, ⟨(some 29), none, .move, [.t 33]⟩, ⟨(some 34), none, (.extract 0), [.t 29]⟩, ⟨(some 35), none, (.extract 1), [.t 29]⟩, ⟨(some 9), none, .move, [.t 34]⟩, ⟨(some 10), none, .move, [.t 35]⟩] none [7, 8, 9, 10])
  (.seq (.region [⟨(some 11), none, .move, [.c .nils]⟩] none [7, 8, 9, 10, 11])
  (.seq (.seq (.region [⟨(some 12), none, .move, [.c (.int .i64 0)]⟩] none [7, 8, 9, 10, 11, 12])
  (.block 0 l4_1)) r4_2))))))⟩
theorem ok4 : FunOk Try.prog 4 c4 := ⟨⟨Try.f4, _, Try.func4, rfl, by kernel_rfl, by kernel_rfl, by kernel_rfl, by kernel_rfl⟩, by decide⟩
theorem res4 : c4.res = [.tmp 6] := rfl
def q4_0 (P : Program) (p : Lab) (Q : VPost) : VPost := (vblockQ 0 (vseqQ (vc P p r4_2 Q) Q))
theorem q4_0_ret (P : Program) (p : Lab) (Q : VPost) (r : RL) (H : Heap) (c : Nat) : q4_0 P p Q .ret r H c = Q .ret r H c := rfl
def V4 (P : Program) (p : Lab) (Q : VPost) (x0 x1 x2 : AV) (H : Heap) (c : Nat) : Prop :=
  vLen x0 fun v14_2 =>
  vBin .gtr .num v14_2 (.int .i64 30) fun v15_3 =>
  vSel v15_3
  (vCall P 15 [] H ((c + 9) :: p) fun v21_6 H6 _ _ =>
  Q .ret [(6, v21_6)] H6 (c + 11))
  (vLen x1 fun v18_9 =>
  vBin .gtr .num v18_9 (.int .i64 30) fun v19_10 =>
  vSel v19_10
  (vCall P 15 [] H ((c + 9) :: p) fun v21_12 H12 _ _ =>
  Q .ret [(6, v21_12)] H12 (c + 11))
  (vCall P 24 [x0, x1, x2] H ((c + 12) :: p) fun v26_17 H17 _ _ =>
  vExt 0 v26_17 fun v27_19 =>
  vExt 1 v26_17 fun v28_20 =>
  vCall P 25 [x0, x1, x2] H17 ((c + 21) :: p) fun v33_26 H26 _ _ =>
  vExt 0 v33_26 fun v34_28 =>
  vExt 1 v33_26 fun v35_29 =>
  vc P p l4_1 (q4_0 P p Q) [(7, v27_19), (8, v28_20), (9, v34_28), (10, v35_29), (11, .nils), (12, (.int .i64 0))] H26 (c + 29)))
theorem vt4 (P : Program) (p : Lab) (Q : VPost) (x0 x1 x2 : AV) (H : Heap) (c : Nat) : vc P p c4.body Q [(0, x0), (1, x1), (2, x2)] H c = V4 P p Q x0 x1 x2 H c := by kernel_rfl
def V4_1 (P : Program) (p : Lab) (Q : VPost) (x7 x8 x9 x10 x11 x12 : AV) (H : Heap) (c : Nat) : Prop :=
  vLen x7 fun v38_36 =>
  vBin .lss .num x12 v38_36 fun v39_37 =>
  vSel v39_37
  (vIx 2 x7 x12 fun v45_41 =>
  vFA 0 v45_41 fun v46_42 =>
  vLoad 1 false v46_42 H fun v47_43 f43 =>
  vIx 2 x7 x12 fun v50_46 =>
  vFA 1 v50_46 fun v51_47 =>
  vLoad 1 false v51_47 H fun v52_48 f48 =>
  vBuild [(.int .i64 0), (.int .i64 0)] [(0, 1), (1, 1)] [v47_43, v52_48] fun v53_49 =>
  vBuildS 2 [(.int .i64 0), (.int .i64 0)] [(0, 2)] [v53_49] fun w50 n50 =>
  (fun (H50 : Heap) =>
  vGen (.append 2 16) [x11, (.sl ((c + 16) :: p) 2 0 n50)] H50 ((c + 17) :: p) fun v55_51 H51 l51 f51 =>
  clashFree [0, 0, 0, 6, 14, 30, 0, 0, 192, 448, 960, 2046, 4094, 8191, 16383] [⟨[], ((c + 4) :: p), some []⟩, ⟨[], ((c + 5) :: p), some []⟩, ⟨[], ((c + 6) :: p), some []⟩, ⟨[], ((c + 7) :: p), some []⟩, ⟨[], ((c + 8) :: p), some []⟩, ⟨[], ((c + 9) :: p), f43⟩, ⟨[], ((c + 10) :: p), some []⟩, ⟨[], ((c + 11) :: p), some []⟩, ⟨[], ((c + 12) :: p), some []⟩, ⟨[], ((c + 13) :: p), some []⟩, ⟨[], ((c + 14) :: p), f48⟩, ⟨[], ((c + 15) :: p), some []⟩, ⟨[((c + 16) :: p)], ((c + 16) :: p), some []⟩, ⟨l51, ((c + 17) :: p), f51⟩, ⟨[], ((c + 18) :: p), some []⟩] ∧
  vBin .add .num x12 (.int .i64 1) fun v41_54 =>
  Q .normal [(7, x7), (8, x8), (9, x9), (10, x10), (11, v55_51), (12, v41_54)] H51 (c + 22)) (upd [(((c + 16) :: p), some (.rows 2 w50))] H))
  (Q (.exit 0) [(7, x7), (8, x8), (9, x9), (10, x10), (11, x11), (12, x12), (39, v39_37)] H (c + 4))
theorem vt4_1 (P : Program) (p : Lab) (Q : VPost) (x7 x8 x9 x10 x11 x12 : AV) (H : Heap) (c : Nat) : vc P p b4_1 Q [(7, x7), (8, x8), (9, x9), (10, x10), (11, x11), (12, x12)] H c = V4_1 P p Q x7 x8 x9 x10 x11 x12 H c := by kernel_rfl
theorem q4_0_e0 (P : Program) (p : Lab) (Q : VPost) (r : RL) (H : Heap) (c : Nat) : q4_0 P p Q (.exit 0) r H c = (vc P p r4_2 Q r H c) := rfl
def V4_2 (P : Program) (p : Lab) (Q : VPost) (x7 x8 x9 x10 x11 x12 x39 : AV) (H : Heap) (c : Nat) : Prop :=
  vCall P 26 [x11, x9] H ((c + 2) :: p) fun v58_58 H58 _ _ =>
  vSel v58_58
  (vBin .eql .num x8 x10 fun v62_62 =>
  vSel v62_62
  (vCall P 15 [] H58 ((c + 9) :: p) fun v65_65 H65 _ _ =>
  Q .ret [(6, v65_65)] H65 (c + 12))
  (Q .ret [(6, (.bool false))] H58 (c + 12)))
  (Q .ret [(6, (.bool false))] H58 (c + 12))
theorem vt4_2 (P : Program) (p : Lab) (Q : VPost) (x7 x8 x9 x10 x11 x12 x39 : AV) (H : Heap) (c : Nat) : vc P p r4_2 Q [(7, x7), (8, x8), (9, x9), (10, x10), (11, x11), (12, x12), (39, x39)] H c = V4_2 P p Q x7 x8 x9 x10 x11 x12 x39 H c := by kernel_rfl


/-- duet/duetlaw08.ResendKept -/
def c6 : AFun := ⟨1, 136, [.tmp 2],
  (.seq (.region [⟨(some 1), none, .box, [.t 0]⟩, ⟨(some 2), none, .move, [.c (.bool false)]⟩] none [1])
  (.seq (.seq (.region [⟨(some 20), none, (.load 10 true), [.t 1]⟩, ⟨(some 21), none, .call, [.c (.fn (.func 27) [] []), .t 20]⟩, ⟨(some 22), none, (.bin .neq .num), [.t 21, .c (.int .i64 0)]⟩] none [1, 22])
  (.cond (.t 22) (.seq (.region [⟨(some 23), none, .call, [.c (.fn (.func 15) [] [])]⟩, ⟨(some 2), none, .move, [.t 23]⟩] none [2])
  .ret)
  .skip))
  (.seq (.region [⟨(some 25), none, (.fieldAddr 2), [.t 1]⟩, ⟨(some 26), none, (.load 1 false), [.t 25]⟩, ⟨(some 27), none, (.len .slice), [.t 26]⟩, ⟨(some 28), none, .call, [.c (.fn (.func 13) [] []), .t 27, .c (.int .i64 3)]⟩, ⟨(some 24), none, .move, [.t 28]⟩, ⟨(some 29), none, (.extract 0), [.t 24]⟩, ⟨(some 30), none, (.extract 1), [.t 24]⟩, ⟨(some 3), none, .move, [.t 29]⟩, ⟨(some 4), none, .move, [.t 30]⟩] none [1, 3, 4])
  (.seq (.seq (.region [⟨(some 31), none, .move, [.t 3]⟩, ⟨(some 32), none, (.bin .eql .ptr), [.t 31, .c .nilp]⟩, ⟨(some 33), none, .move, [.t 32]⟩, ⟨(some 34), (some (33, false)), .move, [.t 4]⟩, ⟨(some 35), (some (33, false)), (.bin .neq .num), [.t 34, .c (.int .i64 0)]⟩, ⟨(some 36), none, .pick, [.t 33, .c (.bool true), .t 35]⟩] none [1, 3, 36])
  (.cond (.t 36) (.seq (.region [⟨(some 2), none, .move, [.c (.bool false)]⟩] none [2])
  .ret)
  .skip))
  (.seq (.region [⟨(some 37), none, (.fieldAddr 0), [.t 1]⟩, ⟨(some 38), none, (.load 1 false), [.t 37]⟩, ⟨(some 39), none, (.fieldAddr 1), [.t 1]⟩, ⟨(some 40), none, (.load 1 false), [.t 39]⟩, ⟨(some 41), none, (.build [(.int .i64 0), (.int .i64 0)] [(0, 1), (1, 1)]), [.t 38, .t 40]⟩, ⟨(some 5), none, (.alloc [(.int .i64 0), (.int .i64 0)]), []⟩, ⟨none, none, (.store 2), [.t 5, .t 41]⟩] none [1, 3, 5])
  (.seq (.region [⟨(some 43), none, .move, [.t 3]⟩, ⟨(some 44), none, (.load 2 true), [.t 5]⟩, ⟨(some 45), none, .call, [.c (.fn (.func 20) [] []), .t 43, .t 44]⟩, ⟨(some 42), none, .move, [.t 45]⟩, ⟨(some 46), none, (.extract 0), [.t 42]⟩, ⟨(some 47), none, (.extract 1), [.t 42]⟩, ⟨(some 6), none, (.alloc [(.int .i64 0), (.int .i64 0), .nils, (.int .i64 0), (.int .i64 0), (.int .i64 0), (.int .i64 0), (.int .i64 0), (.int .i64 0), (.int .i64 0)]), []⟩, ⟨none, none, (.store 10), [.t 6, .t 46]⟩, ⟨(some 7), none, .move, [.t 47]⟩] none [1, 3, 5, 7])
  (.seq (.region [⟨(some 48), none, .move, [.t 3]⟩, ⟨(some 49), none, (.load 10 true), [.t 1]⟩, ⟨(some 50), none, .call, [.c (.fn (.func 16) [] []), .t 48, .t 49]⟩, ⟨(some 8), none, .move, [.t 50]⟩] none [1, 3, 5, 7, 8])
  (.seq (.region [⟨(some 52), none, .move, [.t 3]⟩, ⟨(some 53), none, (.load 2 true), [.t 5]⟩, ⟨(some 54), none, .call, [.c (.fn (.func 20) [] []), .t 52, .t 53]⟩, ⟨(some 51), none, .move, [.t 54]⟩, ⟨(some 55), none, (.extract 0), [.t 51]⟩, ⟨(some 56), none, (.extract 1), [.t 51]⟩, ⟨(some 9), none, (.alloc [(.int .i64 0), (.int .i64 0), .nils, (.int .i64 0), (.int .i64 0), (.int .i64 0), (.int .i64 0), (.int .i64 0), (.int .i64 0), (.int .i64 0)]), []⟩, ⟨none, none, (.store 10), [.t 9, .t 55]⟩, ⟨(some 10), none, .move, [.t 56]⟩] none [1, 3, 5, 7, 8, 9, 10])
  (.seq (.region [⟨(some 58), none, .move, [.t 3]⟩, ⟨(some 59), none, (.load 2 true), [.t 5]⟩, ⟨(some 60), none, .call, [.c (.fn (.func 20) [] []), .t 58, .t 59]⟩, ⟨(some 57), none, .move, [.t 60]⟩, ⟨(some 61), none, (.extract 0), [.t 57]⟩, ⟨(some 62), none, (.extract 1), [.t 57]⟩, ⟨(some 11), none, (.alloc [(.int .i64 0), (.int .i64 0), .nils, (.int .i64 0), (.int .i64 0), (.int .i64 0), (.int .i64 0), (.int .i64 0), (.int .i64 0), (.int .i64 0)]), []⟩, ⟨none, none, (.store 10), [.t 11, .t 61]⟩, ⟨(some 12), none, .move, [.t 62]⟩] none [1, 3, 5, 7, 8, 9, 10, 11, 12])
  (.seq (.region [⟨(some 63), none, (.fieldAddr 2), [.t 1]⟩, ⟨(some 64), none, (.load 1 false), [.t 63]⟩, ⟨(some 65), none, (.len .slice), [.t 64]⟩, ⟨(some 66), none, .call, [.c (.fn (.func 28) [] []), .t 65]⟩, ⟨(some 13), none, .move, [.t 66]⟩] none [1, 3, 5, 7, 8, 9, 10, 11, 12, 13])
  (.seq (.region [⟨(some 68), none, .move, [.t 3]⟩, ⟨(some 69), none, .move, [.t 13]⟩, ⟨(some 70), none, .call, [.c (.fn (.func 18) [] []), .t 68, .t 69]⟩, ⟨(some 67), none, .move, [.t 70]⟩, ⟨(some 71), none, (.extract 0), [.t 67]⟩, ⟨(some 72), none, (.extract 1), [.t 67]⟩, ⟨(some 14), none, .move, [.t 71]⟩, ⟨(some 15), none, .move, [.t 72]⟩] none [1, 3, 5, 7, 8, 9, 10, 11, 12, 13, 14, 15])
  (.seq (.region [⟨(some 73), none, .move, [.t 13]⟩, ⟨(some 74), none, (.fieldAddr 0), [.t 1]⟩, ⟨(some 75), none, (.load 1 false), [.t 74]⟩, ⟨(some 76), none, (.fieldAddr 1), [.t 1]⟩, ⟨(some 77), none, (.load 1 false), [.t 76]⟩, ⟨(some 78), none, (.indexAddr 1), [.t 73, .t 75]⟩, ⟨none, none, (.store 1), [.t 78, .t 77]⟩] none [1, 3, 5, 7, 8, 9, 10, 11, 12, 13, 14, 15])
  (.seq (.region [⟨(some 80), none, .move, [.t 3]⟩, ⟨(some 81), none, .move, [.t 13]⟩, ⟨(some 82), none, .call, [.c (.fn (.func 18) [] []), .t 80, .t 81]⟩, ⟨(some 79), none, .move, [.t 82]⟩, ⟨(some 83), none, (.extract 0), [.t 79]⟩, ⟨(some 84), none, (.extract 1), [.t 79]⟩, ⟨(some 16), none, .move, [.t 83]⟩, ⟨(some 17), none, .move, [.t 84]⟩] none [1, 3, 5, 7, 8, 9, 10, 11, 12, 14, 15, 16, 17])
  (.seq (.region [⟨(some 86), none, .move, [.t 3]⟩, ⟨(some 87), none, (.load 2 true), [.t 5]⟩, ⟨(some 88), none, .call, [.c (.fn (.func 20) [] []), .t 86, .t 87]⟩, ⟨(some 85), none, .move, [.t 88]⟩, ⟨(some 89), none, (.extract 0), [.t 85]⟩, ⟨(some 90), none, (.extract 1), [.t 85]⟩, ⟨(some 18), none, (.alloc [(.int .i64 0), (.int .i64 0), .nils, (.int .i64 0), (.int .i64 0), (.int .i64 0), (.int .i64 0), (.int .i64 0), (.int .i64 0), (.int .i64 0)]), []⟩, ⟨none, none, (.store 10), [.t 18, .t 89]⟩, ⟨(some 19), none, .move, [.t 90]⟩] none [1, 7, 8, 9, 10, 11, 12, 14, 15, 16, 17, 19])
  (.seq (.region [⟨(some 91), none, .move, [.t 7]⟩, ⟨(some 92), none, (.un .not), [.t 91]⟩, ⟨(some 93), none, .move, [.t 92]⟩, ⟨(some 94), (some (93, true)), .move, [.t 8]⟩, ⟨(some 95), (some (93, true)), (.bin .eql .num), [.t 94, .c (.int .i64 0)]⟩, ⟨(some 96), none, .pick, [.t 93, .t 95, .c (.bool false)]⟩, ⟨(some 97), none, .move, [.t 96]⟩, ⟨(some 98), (some (97, true)), .move, [.t 10]⟩, ⟨(some 99), none, .pick, [.t 97, .t 98, .c (.bool false)]⟩, ⟨(some 100), none, .move, [.t 99]⟩, ⟨(some 101), (some (100, true)), .move, [.t 12]⟩, ⟨(some 102), none, .pick, [.t 100, .t 101, .c (.bool false)]⟩, ⟨(some 103), none, .move, [.t 102]⟩, ⟨(some 104), (some (103, true)), (.load 10 true), [.t 9]⟩, ⟨(some 105), (some (103, true)), (.load 10 true), [.t 1]⟩, ⟨(some 106), (some (103, true)), .call, [.c (.fn (.func 22) [] []), .t 104, .t 105]⟩, ⟨(some 107), none, .pick, [.t 103, .t 106, .c (.bool false)]⟩, ⟨(some 108), none, .move, [.t 107]⟩, ⟨(some 109), (some (108, true)), (.load 10 true), [.t 11]⟩, ⟨(some 110), (some (108, true)), (.load 10 true), [.t 1]⟩, ⟨(some 111), (some (108, true)), .call, [.c (.fn (.func 22) [] []), .t 109, .t 110]⟩, ⟨(some 112), none, .pick, [.t 108, .t 111, .c (.bool false)]⟩, ⟨(some 113), none, .move, [.t 112]⟩, ⟨(some 114), (some (113, true)), .move, [.t 14]⟩, ⟨(some 115), (some (113, true)), (.bin .eql .num), [.t 114, .c (.int .i64 0)]⟩, ⟨(some 116), none, .pick, [.t 113, .t 115, .c (.bool false)]⟩, ⟨(some 117), none, .move, [.t 116]⟩, ⟨(some 118), (some (117, true)), .move, [.t 15]⟩, ⟨(some 119), (some (117, true)), (.bin .eql .num), [.t 118, .c (.int .i64 0)]⟩, ⟨(some 120), none, .pick, [.t 117, .t 119, .c (.bool false)]⟩, ⟨(some 121), none, .move, [.t 120]⟩, ⟨(some 122), (some (121, true)), .move, [.t 16]⟩, ⟨(some 123), (some (121, true)), (.bin .eql .num), [.t 122, .c (.int .i64 1)]⟩, ⟨(some 124), none, .pick, [.t 121, .t 123, .c (.bool false)]⟩, ⟨(some 125), none, .move, [.t 124]⟩, ⟨(some 126), (some (125, true)), .move, [.t 17]⟩, ⟨(some 127), (some (125, true)), (.bin .eql .num), [.t 126, .c (.int .i64 0)]⟩, ⟨(some 128), none, .pick, [.t 125, .t 127, .c (.bool false)]⟩, ⟨(some 129), none, .move, [.t 128]⟩, ⟨(some 130), (some (129, true)), .move, [.t 19]⟩, ⟨(some 131), (some (129, true)), (.un .not), [.t 130]⟩, ⟨(some 132), none, .pick, [.t 129, .t 131, .c (.bool false)]⟩, ⟨(some 133), none, .move, [.t 132]⟩, ⟨(some 134), (some (133, true)), .call, [.c (.fn (.func 15) [] [])]⟩, ⟨(some 135), none, .pick, [.t 133, .t 134, .c (.bool false)]⟩, ⟨(some 2), none, .move, [.t 135]⟩] none [2])
  .ret)))))))))))))))⟩
theorem ok6 : FunOk Try.prog 6 c6 := ⟨⟨Try.f6, _, Try.func6, rfl, by kernel_rfl, by kernel_rfl, by kernel_rfl, by kernel_rfl⟩, by decide⟩
theorem res6 : c6.res = [.tmp 2] := rfl
def V6 (P : Program) (p : Lab) (Q : VPost) (x0 : AV) (H : Heap) (c : Nat) : Prop :=
  vBox x0 fun w0 =>
  (fun (H0 : Heap) =>
  vLoad 10 true (.ptr (c :: p) w0.length 0 0) H0 fun v20_2 _ =>
  vCall P 27 [v20_2] H0 ((c + 3) :: p) fun v21_3 H3 _ _ =>
  vBin .neq .num v21_3 (.int .i64 0) fun v22_4 =>
  vSel v22_4
  (vCall P 15 [] H3 ((c + 5) :: p) fun v23_5 H5 _ _ =>
  Q .ret [(2, v23_5)] H5 (c + 7))
  (vFA 2 (.ptr (c :: p) w0.length 0 0) fun v25_7 =>
  vLoad 1 false v25_7 H3 fun v26_8 _ =>
  vLen v26_8 fun v27_9 =>
  vCall P 13 [v27_9, (.int .i64 3)] H3 ((c + 8) :: p) fun v28_10 H10 _ _ =>
  vExt 0 v28_10 fun v29_12 =>
  vExt 1 v28_10 fun v30_13 =>
  vBin .eql .ptr v29_12 .nilp fun v32_17 =>
  vSel v32_17
  (Q .ret [(2, (.bool false))] H10 (c + 21))
  (vBin .neq .num v30_13 (.int .i64 0) fun v35_22 =>
  vSel v35_22
  (Q .ret [(2, (.bool false))] H10 (c + 21))
  (vFA 0 (.ptr (c :: p) w0.length 0 0) fun v37_25 =>
  vLoad 1 false v37_25 H10 fun v38_26 _ =>
  vFA 1 (.ptr (c :: p) w0.length 0 0) fun v39_27 =>
  vLoad 1 false v39_27 H10 fun v40_28 _ =>
  vBuild [(.int .i64 0), (.int .i64 0)] [(0, 1), (1, 1)] [v38_26, v40_28] fun v41_29 =>
  (fun (H30 : Heap) =>
  vGen (.store 2) [(.ptr ((c + 25) :: p) 2 0 0), v41_29] H30 ((c + 26) :: p) fun v_31 H31 _ _ =>
  vLoad 2 true (.ptr ((c + 25) :: p) 2 0 0) H31 fun v44_33 _ =>
  vCall P 20 [v29_12, v44_33] H31 ((c + 29) :: p) fun v45_34 H34 _ _ =>
  vExt 0 v45_34 fun v46_36 =>
  vExt 1 v45_34 fun v47_37 =>
  (fun (H38 : Heap) =>
  vGen (.store 10) [(.ptr ((c + 33) :: p) 10 0 0), v46_36] H38 ((c + 34) :: p) fun v_39 H39 _ _ =>
  vLoad 10 true (.ptr (c :: p) w0.length 0 0) H39 fun v49_42 _ =>
  vCall P 16 [v29_12, v49_42] H39 ((c + 38) :: p) fun v50_43 H43 _ _ =>
  vLoad 2 true (.ptr ((c + 25) :: p) 2 0 0) H43 fun v53_46 _ =>
  vCall P 20 [v29_12, v53_46] H43 ((c + 42) :: p) fun v54_47 H47 _ _ =>
  vExt 0 v54_47 fun v55_49 =>
  vExt 1 v54_47 fun v56_50 =>
  (fun (H51 : Heap) =>
  vGen (.store 10) [(.ptr ((c + 46) :: p) 10 0 0), v55_49] H51 ((c + 47) :: p) fun v_52 H52 _ _ =>
  vLoad 2 true (.ptr ((c + 25) :: p) 2 0 0) H52 fun v59_55 _ =>
  vCall P 20 [v29_12, v59_55] H52 ((c + 51) :: p) fun v60_56 H56 _ _ =>
  vExt 0 v60_56 fun v61_58 =>
  vExt 1 v60_56 fun v62_59 =>
  (fun (H60 : Heap) =>
  vGen (.store 10) [(.ptr ((c + 55) :: p) 10 0 0), v61_58] H60 ((c + 56) :: p) fun v_61 H61 _ _ =>
  vFA 2 (.ptr (c :: p) w0.length 0 0) fun v63_63 =>
  vLoad 1 false v63_63 H61 fun v64_64 _ =>
  vLen v64_64 fun v65_65 =>
  vCall P 28 [v65_65] H61 ((c + 61) :: p) fun v66_66 H66 _ _ =>
  vCall P 18 [v29_12, v66_66] H66 ((c + 65) :: p) fun v70_70 H70 _ _ =>
  vExt 0 v70_70 fun v71_72 =>
  vExt 1 v70_70 fun v72_73 =>
  vFA 0 (.ptr (c :: p) w0.length 0 0) fun v74_77 =>
  vLoad 1 false v74_77 H70 fun v75_78 _ =>
  vFA 1 (.ptr (c :: p) w0.length 0 0) fun v76_79 =>
  vLoad 1 false v76_79 H70 fun v77_80 _ =>
  vIx 1 v66_66 v75_78 fun v78_81 =>
  vGen (.store 1) [v78_81, v77_80] H70 ((c + 77) :: p) fun v_82 H82 _ _ =>
  vCall P 18 [v29_12, v66_66] H82 ((c + 80) :: p) fun v82_85 H85 _ _ =>
  vExt 0 v82_85 fun v83_87 =>
  vExt 1 v82_85 fun v84_88 =>
  vLoad 2 true (.ptr ((c + 25) :: p) 2 0 0) H85 fun v87_92 _ =>
  vCall P 20 [v29_12, v87_92] H85 ((c + 88) :: p) fun v88_93 H93 _ _ =>
  vExt 0 v88_93 fun v89_95 =>
  vExt 1 v88_93 fun v90_96 =>
  (fun (H97 : Heap) =>
  vGen (.store 10) [(.ptr ((c + 92) :: p) 10 0 0), v89_95] H97 ((c + 93) :: p) fun v_98 H98 _ _ =>
  vNot v47_37 fun v92_101 =>
  vSel v92_101
  (vBin .eql .num v50_43 (.int .i64 0) fun v95_104 =>
  vSel v95_104
  (vSel v56_50
  (vSel v62_59
  (vLoad 10 true (.ptr ((c + 46) :: p) 10 0 0) H98 fun v104_113 _ =>
  vLoad 10 true (.ptr (c :: p) w0.length 0 0) H98 fun v105_114 _ =>
  vCall P 22 [v104_113, v105_114] H98 ((c + 110) :: p) fun v106_115 H115 _ _ =>
  vSel v106_115
  (vLoad 10 true (.ptr ((c + 55) :: p) 10 0 0) H115 fun v109_118 _ =>
  vLoad 10 true (.ptr (c :: p) w0.length 0 0) H115 fun v110_119 _ =>
  vCall P 22 [v109_118, v110_119] H115 ((c + 115) :: p) fun v111_120 H120 _ _ =>
  vSel v111_120
  (vBin .eql .num v71_72 (.int .i64 0) fun v115_124 =>
  vSel v115_124
  (vBin .eql .num v72_73 (.int .i64 0) fun v119_128 =>
  vSel v119_128
  (vBin .eql .num v83_87 (.int .i64 1) fun v123_132 =>
  vSel v123_132
  (vBin .eql .num v84_88 (.int .i64 0) fun v127_136 =>
  vSel v127_136
  (vNot v90_96 fun v131_140 =>
  vSel v131_140
  (vCall P 15 [] H120 ((c + 138) :: p) fun v134_143 H143 _ _ =>
  Q .ret [(2, v134_143)] H143 (c + 141))
  (Q .ret [(2, (.bool false))] H120 (c + 141)))
  (Q .ret [(2, (.bool false))] H120 (c + 141)))
  (Q .ret [(2, (.bool false))] H120 (c + 141)))
  (Q .ret [(2, (.bool false))] H120 (c + 141)))
  (Q .ret [(2, (.bool false))] H120 (c + 141)))
  (Q .ret [(2, (.bool false))] H120 (c + 141)))
  (Q .ret [(2, (.bool false))] H115 (c + 141)))
  (Q .ret [(2, (.bool false))] H98 (c + 141)))
  (Q .ret [(2, (.bool false))] H98 (c + 141)))
  (Q .ret [(2, (.bool false))] H98 (c + 141)))
  (Q .ret [(2, (.bool false))] H98 (c + 141))) (upd [(((c + 92) :: p), some (.rows 10 [[(.int .i64 0), (.int .i64 0), .nils, (.int .i64 0), (.int .i64 0), (.int .i64 0), (.int .i64 0), (.int .i64 0), (.int .i64 0), (.int .i64 0)]]))] H93)) (upd [(((c + 55) :: p), some (.rows 10 [[(.int .i64 0), (.int .i64 0), .nils, (.int .i64 0), (.int .i64 0), (.int .i64 0), (.int .i64 0), (.int .i64 0), (.int .i64 0), (.int .i64 0)]]))] H56)) (upd [(((c + 46) :: p), some (.rows 10 [[(.int .i64 0), (.int .i64 0), .nils, (.int .i64 0), (.int .i64 0), (.int .i64 0), (.int .i64 0), (.int .i64 0), (.int .i64 0), (.int .i64 0)]]))] H47)) (upd [(((c + 33) :: p), some (.rows 10 [[(.int .i64 0), (.int .i64 0), .nils, (.int .i64 0), (.int .i64 0), (.int .i64 0), (.int .i64 0), (.int .i64 0), (.int .i64 0), (.int .i64 0)]]))] H34)) (upd [(((c + 25) :: p), some (.rows 2 [[(.int .i64 0), (.int .i64 0)]]))] H10))))) (upd [((c :: p), some (.rows w0.length [w0]))] H)
theorem vt6 (P : Program) (p : Lab) (Q : VPost) (x0 : AV) (H : Heap) (c : Nat) : vc P p c6.body Q [(0, x0)] H c = V6 P p Q x0 H c := by kernel_rfl

def b3_1 : ACode := (.seq (.seq (.region [⟨(some 44), none, .move, [.t 11]⟩, ⟨(some 45), none, .move, [.t 2]⟩, ⟨(some 46), none, (.len .slice), [.t 45]⟩, ⟨(some 47), none, (.bin .lss .num), [.t 44, .t 46]⟩, ⟨(some 48), none, .move, [.t 47]⟩, ⟨(some 49), (some (48, true)), .move, [.t 11]⟩, ⟨(some 50), (some (48, true)), (.bin .lss .num), [.t 49, .c (.int .i64 60)]⟩, ⟨(some 51), none, .pick, [.t 48, .t 50, .c (.bool false)]⟩, ⟨(some 52), none, .move, [.t 51]⟩, ⟨(some 53), (some (52, true)), .move, [.t 9]⟩, ⟨(some 54), (some (52, true)), (.bin .neq .ptr), [.t 53, .c .nilp]⟩, ⟨(some 55), none, .pick, [.t 52, .t 54, .c (.bool false)]⟩] none [2, 7, 9, 11, 55])
  (.cond (.t 55) .skip
  (.exit 0)))
  (.seq (.block 1 (.seq (.region [⟨(some 58), none, .move, [.t 2]⟩, ⟨(some 59), none, .move, [.t 11]⟩, ⟨(some 60), none, (.indexAddr 14), [.t 58, .t 59]⟩, ⟨(some 61), none, (.load 14 true), [.t 60]⟩, ⟨(some 12), none, (.alloc [(.int .i64 0), (.int .i64 0), (.int .i64 0), .nils, (.int .i64 0), (.int .i64 0), (.int .i64 0), (.int .i64 0), (.int .i64 0), (.int .i64 0), (.int .i64 0), .nils, (.int .i64 0), (.int .i64 0)]), []⟩, ⟨none, none, (.store 14), [.t 12, .t 61]⟩] none [2, 7, 9, 11, 12])
  (.seq (.seq (.region [⟨(some 62), none, (.fieldAddr 1), [.t 12]⟩, ⟨(some 63), none, (.fieldAddr 2), [.t 62]⟩, ⟨(some 64), none, (.load 1 false), [.t 63]⟩, ⟨(some 65), none, (.len .slice), [.t 64]⟩, ⟨(some 66), none, (.bin .gtr .num), [.t 65, .c (.int .i64 30)]⟩, ⟨(some 67), none, .move, [.t 66]⟩, ⟨(some 68), (some (67, false)), (.fieldAddr 11), [.t 12]⟩, ⟨(some 69), (some (67, false)), (.load 1 false), [.t 68]⟩, ⟨(some 70), (some (67, false)), (.len .slice), [.t 69]⟩, ⟨(some 71), (some (67, false)), (.bin .gtr .num), [.t 70, .c (.int .i64 30)]⟩, ⟨(some 72), none, .pick, [.t 67, .c (.bool true), .t 71]⟩] none [2, 7, 9, 11, 12, 72])
  (.cond (.t 72) (.seq (.region [⟨(some 73), none, .call, [.c (.fn (.func 15) [] [])]⟩, ⟨(some 6), none, .move, [.t 73]⟩] none [6])
  .ret)
  .skip))
  (.seq (.region [⟨(some 13), none, .move, [.c (.bool true)]⟩] none [2, 7, 9, 11, 12])
  (.seq (.seq (.region [⟨(some 74), none, (.fieldAddr 0), [.t 12]⟩, ⟨(some 75), none, (.load 1 false), [.t 74]⟩] none [2, 7, 9, 11, 12, 75])
  (.block 2 (.seq (.region [⟨(some 104), none, (.bin .eql .num), [.t 75, .c (.int .i64 0)]⟩, ⟨(some 103), none, .move, [.t 104]⟩] none [2, 7, 9, 11, 12, 75, 103])
  (.cond (.t 103) (.region [⟨(some 105), none, .move, [.t 7]⟩, ⟨(some 106), none, (.fieldAddr 1), [.t 12]⟩, ⟨(some 107), none, (.load 10 true), [.t 106]⟩, ⟨(some 108), none, .call, [.c (.fn (.func 16) [] []), .t 105, .t 107]⟩, ⟨(some 109), none, .move, [.t 9]⟩, ⟨(some 110), none, (.fieldAddr 1), [.t 12]⟩, ⟨(some 111), none, (.load 10 true), [.t 110]⟩, ⟨(some 112), none, .call, [.c (.fn (.func 17) [] []), .t 109, .t 111]⟩, ⟨(some 113), none, (.bin .eql .num), [.t 108, .t 112]⟩, ⟨(some 13), none, .move, [.t 113]⟩] (some [0, 0, 2, 7, 0, 0, 32, 127, 255, 511]) [2, 7, 9, 11, 13])
  (.seq (.region [⟨(some 115), none, (.bin .eql .num), [.t 75, .c (.int .i64 1)]⟩, ⟨(some 114), none, .move, [.t 115]⟩] none [2, 7, 9, 11, 12, 114])
  (.cond (.t 114) (.seq (.region [⟨(some 117), none, .move, [.t 7]⟩, ⟨(some 118), none, (.fieldAddr 11), [.t 12]⟩, ⟨(some 119), none, (.load 1 false), [.t 118]⟩, ⟨(some 120), none, .call, [.c (.fn (.func 18) [] []), .t 117, .t 119]⟩, ⟨(some 116), none, .move, [.t 120]⟩, ⟨(some 121), none, (.extract 0), [.t 116]⟩, ⟨(some 122), none, (.extract 1), [.t 116]⟩, ⟨(some 14), none, .move, [.t 121]⟩, ⟨(some 15), none, .move, [.t 122]⟩] none [2, 7, 9, 11, 12, 14, 15])
  (.seq (.region [⟨(some 124), none, .move, [.t 9]⟩, ⟨(some 125), none, (.fieldAddr 11), [.t 12]⟩, ⟨(some 126), none, (.load 1 false), [.t 125]⟩, ⟨(some 127), none, .call, [.c (.fn (.func 19) [] []), .t 124, .t 126]⟩, ⟨(some 123), none, .move, [.t 127]⟩, ⟨(some 128), none, (.extract 0), [.t 123]⟩, ⟨(some 129), none, (.extract 1), [.t 123]⟩, ⟨(some 16), none, .move, [.t 128]⟩, ⟨(some 17), none, .move, [.t 129]⟩] none [2, 7, 9, 11, 14, 15, 16, 17])
  (.region [⟨(some 130), none, .move, [.t 14]⟩, ⟨(some 131), none, .move, [.t 16]⟩, ⟨(some 132), none, (.bin .eql .num), [.t 130, .t 131]⟩, ⟨(some 133), none, .move, [.t 132]⟩, ⟨(some 134), (some (133, true)), .move, [.t 15]⟩, ⟨(some 135), (some (133, true)), .move, [.t 17]⟩, ⟨(some 136), (some (133, true)), (.bin .eql .num), [.t 134, .t 135]⟩, ⟨(some 137), none, .pick, [.t 133, .t 136, .c (.bool false)]⟩, ⟨(some 13), none, .move, [.t 137]⟩] none [2, 7, 9, 11, 13])))
  (.seq (.region [⟨(some 77), none, .move, [.t 7]⟩, ⟨(some 78), none, (.fieldAddr 12), [.t 12]⟩, ⟨(some 79), none, (.fieldAddr 0), [.t 78]⟩, ⟨(some 80), none, (.load 1 false), [.t 79]⟩, ⟨(some 81), none, (.fieldAddr 12), [.t 12]⟩, ⟨(some 82), none, (.fieldAddr 1), [.t 81]⟩, ⟨(some 83), none, (.load 1 false), [.t 82]⟩, ⟨(some 84), none, (.build [(.int .i64 0), (.int .i64 0)] [(0, 1), (1, 1)]), [.t 80, .t 83]⟩, ⟨(some 85), none, .call, [.c (.fn (.func 20) [] []), .t 77, .t 84]⟩, ⟨(some 76), none, .move, [.t 85]⟩, ⟨(some 86), none, (.extract 0), [.t 76]⟩, ⟨(some 87), none, (.extract 1), [.t 76]⟩, ⟨(some 18), none, (.alloc [(.int .i64 0), (.int .i64 0), .nils, (.int .i64 0), (.int .i64 0), (.int .i64 0), (.int .i64 0), (.int .i64 0), (.int .i64 0), (.int .i64 0)]), []⟩, ⟨none, none, (.store 10), [.t 18, .t 86]⟩, ⟨(some 19), none, .move, [.t 87]⟩] none [2, 7, 9, 11, 12, 18, 19])
  (.seq (.region [⟨(some 89), none, .move, [.t 9]⟩, ⟨(some 90), none, (.fieldAddr 12), [.t 12]⟩, ⟨(some 91), none, (.load 2 true), [.t 90]⟩, ⟨(some 92), none, .call, [.c (.fn (.func 21) [] []), .t 89, .t 91]⟩, ⟨(some 88), none, .move, [.t 92]⟩, ⟨(some 93), none, (.extract 0), [.t 88]⟩, ⟨(some 94), none, (.extract 1), [.t 88]⟩, ⟨(some 20), none, (.alloc [(.int .i64 0), (.int .i64 0), .nils, (.int .i64 0), (.int .i64 0), (.int .i64 0), (.int .i64 0), (.int .i64 0), (.int .i64 0), (.int .i64 0)]), []⟩, ⟨none, none, (.store 10), [.t 20, .t 93]⟩, ⟨(some 21), none, .move, [.t 94]⟩] none [2, 7, 9, 11, 18, 19, 20, 21])
  (.region [⟨(some 95), none, (.load 10 true), [.t 18]⟩, ⟨(some 96), none, (.load 10 true), [.t 20]⟩, ⟨(some 97), none, .call, [.c (.fn (.func 22) [] []), .t 95, .t 96]⟩, ⟨(some 98), none, .move, [.t 97]⟩, ⟨(some 99), (some (98, true)), .move, [.t 19]⟩, ⟨(some 100), (some (98, true)), .move, [.t 21]⟩, ⟨(some 101), (some (98, true)), (.bin .eql .bool), [.t 99, .t 100]⟩, ⟨(some 102), none, .pick, [.t 98, .t 101, .c (.bool false)]⟩, ⟨(some 13), none, .move, [.t 102]⟩] none [2, 7, 9, 11, 13])))))))))
  (.seq (.region [⟨(some 138), none, .move, [.t 13]⟩, ⟨(some 139), none, (.un .not), [.t 138]⟩, ⟨(some 140), none, .move, [.t 139]⟩, ⟨(some 141), (some (140, false)), .move, [.t 7]⟩, ⟨(some 142), (some (140, false)), .call, [.c (.fn (.func 23) [] []), .t 141]⟩, ⟨(some 143), (some (140, false)), .move, [.t 9]⟩, ⟨(some 144), (some (140, false)), .nilCheck, [.t 143]⟩, ⟨(some 145), (some (140, false)), (.fieldAddr 2), [.t 144]⟩, ⟨(some 146), (some (140, false)), (.load 1 false), [.t 145]⟩, ⟨(some 147), (some (140, false)), (.len .slice), [.t 146]⟩, ⟨(some 148), (some (140, false)), (.bin .neq .num), [.t 142, .t 147]⟩, ⟨(some 149), none, .pick, [.t 140, .c (.bool true), .t 148]⟩] (some [0, 1, 3, 7, 15, 7, 39, 103, 231, 487, 1023, 2047]) [2, 7, 9, 11, 149])
  (.cond (.t 149) (.seq (.region [⟨(some 6), none, .move, [.c (.bool false)]⟩] none [6])
  .ret)
  .skip)))))))
  (.region [⟨(some 56), none, .move, [.t 11]⟩, ⟨(some 57), none, (.bin .add .num), [.t 56, .c (.int .i64 1)]⟩, ⟨(some 11), none, .move, [.t 57]⟩] none [2, 7, 9, 11])))
def l3_1 : ACode := .loop [2, 7, 9, 11] b3_1
def r3_2 : ACode := (.seq (.region [⟨(some 150), none, .call, [.c (.fn (.func 15) [] [])]⟩, ⟨(some 6), none, .move, [.t 150]⟩] none [6])
  .ret)
/-- duet/duetlaw08.ResendScripts -/
def c3 : AFun := ⟨3, 151, [.tmp 6],
  (.seq (.region [⟨(some 6), none, .move, [.c (.bool false)]⟩] none [0, 1, 2])
  (.seq (.region [⟨(some 23), none, .move, [.t 0]⟩, ⟨(some 24), none, .move, [.t 1]⟩, ⟨(some 25), none, .call, [.c (.fn (.func 13) [] []), .t 23, .t 24]⟩, ⟨(some 22), none, .move, [.t 25]⟩, ⟨(some 26), none, (.extract 0), [.t 22]⟩, ⟨(some 27), none, (.extract 1), [.t 22]⟩, ⟨(some 7), none, .move, [.t 26]⟩, ⟨(some 8), none, .move, [.t 27]⟩] none [0, 1, 2, 7, 8])
  (.seq (.region [⟨(some 29), none, .move, [.t 0]⟩, ⟨(some 30), none, .move, [.t 1]⟩, ⟨(some 31), none, .call, [.c (.fn (.func 14) [] []), .t 29, .t 30]⟩, ⟨(some 28), none, .move, [.t 31]⟩, ⟨(some 32), none, (.extract 0), [.t 28]⟩, ⟨(some 33), none, (.extract 1), [.t 28]⟩, ⟨(some 9), none, .move, [.t 32]⟩, ⟨(some 10), none, .move, [.t 33]⟩] none [2, 7, 8, 9, 10])
  (.seq (.seq (.region [⟨(some 34), none, .move, [.t 8]⟩, ⟨(some 35), none, .move, [.t 10]⟩, ⟨(some 36), none, (.bin .neq .num), [.t 34, .t 35]⟩, ⟨(some 37), none, .move, [.t 36]⟩, ⟨(some 38), (some (37, false)), .move, [.t 7]⟩, ⟨(some 39), (some (37, false)), (.bin .eql .ptr), [.t 38, .c .nilp]⟩, ⟨(some 40), (some (37, false)), .move, [.t 9]⟩, ⟨(some 41), (some (37, false)), (.bin .eql .ptr), [.t 40, .c .nilp]⟩, ⟨(some 42), (some (37, false)), (.bin .neq .bool), [.t 39, .t 41]⟩, ⟨(some 43), none, .pick, [.t 37, .c (.bool true), .t 42]⟩] none [2, 7, 9, 43])
  (.cond (.t 43) (.seq (.region [⟨(some 6), none, .move, [.c (.bool false)]⟩] none [6])
  .ret)
  .skip))
  (.seq (.seq (.region [⟨(some 11), none, .move, [.c (.int .i64 0)]⟩] none [2, 7, 9, 11])
  (.block 0 l3_1)) r3_2)))))⟩
theorem ok3 : FunOk Try.prog 3 c3 := ⟨⟨Try.f3, _, Try.func3, rfl, by kernel_rfl, by kernel_rfl, by kernel_rfl, by kernel_rfl⟩, by decide⟩
theorem res3 : c3.res = [.tmp 6] := rfl
def q3_0 (P : Program) (p : Lab) (Q : VPost) : VPost := (vblockQ 0 (vseqQ (vc P p r3_2 Q) Q))
theorem q3_0_ret (P : Program) (p : Lab) (Q : VPost) (r : RL) (H : Heap) (c : Nat) : q3_0 P p Q .ret r H c = Q .ret r H c := rfl
def V3 (P : Program) (p : Lab) (Q : VPost) (x0 x1 x2 : AV) (H : Heap) (c : Nat) : Prop :=
  vCall P 13 [x0, x1] H ((c + 3) :: p) fun v25_3 H3 _ _ =>
  vExt 0 v25_3 fun v26_5 =>
  vExt 1 v25_3 fun v27_6 =>
  vCall P 14 [x0, x1] H3 ((c + 11) :: p) fun v31_11 H11 _ _ =>
  vExt 0 v31_11 fun v32_13 =>
  vExt 1 v31_11 fun v33_14 =>
  vBin .neq .num v27_6 v33_14 fun v36_19 =>
  vSel v36_19
  (Q .ret [(6, (.bool false))] H11 (c + 28))
  (vBin .eql .ptr v26_5 .nilp fun v39_24 =>
  vBin .eql .ptr v32_13 .nilp fun v41_26 =>
  vBin .neq .bool v39_24 v41_26 fun v42_27 =>
  vSel v42_27
  (Q .ret [(6, (.bool false))] H11 (c + 28))
  (vc P p l3_1 (q3_0 P p Q) [(2, x2), (7, v26_5), (9, v32_13), (11, (.int .i64 0))] H11 (c + 28)))
theorem vt3 (P : Program) (p : Lab) (Q : VPost) (x0 x1 x2 : AV) (H : Heap) (c : Nat) : vc P p c3.body Q [(0, x0), (1, x1), (2, x2)] H c = V3 P p Q x0 x1 x2 H c := by kernel_rfl
def V3_1 (P : Program) (p : Lab) (Q : VPost) (x2 x7 x9 x11 : AV) (H : Heap) (c : Nat) : Prop :=
  vLen x2 fun v46_33 =>
  vBin .lss .num x11 v46_33 fun v47_34 =>
  vSel v47_34
  (vBin .lss .num x11 (.int .i64 60) fun v50_37 =>
  vSel v50_37
  (vBin .neq .ptr x9 .nilp fun v54_41 =>
  vSel v54_41
  (vIx 14 x2 x11 fun v60_45 =>
  vLoad 14 true v60_45 H fun v61_46 _ =>
  (fun (H47 : Heap) =>
  vGen (.store 14) [(.ptr ((c + 16) :: p) 14 0 0), v61_46] H47 ((c + 17) :: p) fun v_48 H48 _ _ =>
  vFA 1 (.ptr ((c + 16) :: p) 14 0 0) fun v62_49 =>
  vFA 2 v62_49 fun v63_50 =>
  vLoad 1 false v63_50 H48 fun v64_51 _ =>
  vLen v64_51 fun v65_52 =>
  vBin .gtr .num v65_52 (.int .i64 30) fun v66_53 =>
  vSel v66_53
  (vCall P 15 [] H48 ((c + 29) :: p) fun v73_56 H56 _ _ =>
  Q .ret [(6, v73_56)] H56 (c + 31))
  (vFA 11 (.ptr ((c + 16) :: p) 14 0 0) fun v68_58 =>
  vLoad 1 false v68_58 H48 fun v69_59 _ =>
  vLen v69_59 fun v70_60 =>
  vBin .gtr .num v70_60 (.int .i64 30) fun v71_61 =>
  vSel v71_61
  (vCall P 15 [] H48 ((c + 29) :: p) fun v73_63 H63 _ _ =>
  Q .ret [(6, v73_63)] H63 (c + 31))
  (vFA 0 (.ptr ((c + 16) :: p) 14 0 0) fun v74_66 =>
  vLoad 1 false v74_66 H48 fun v75_67 _ =>
  vBin .eql .num v75_67 (.int .i64 0) fun v104_68 =>
  vSel v104_68
  (vFA 1 (.ptr ((c + 16) :: p) 14 0 0) fun v106_71 =>
  vLoad 10 true v106_71 H48 fun v107_72 f72 =>
  vCall P 16 [x7, v107_72] H48 ((c + 37) :: p) fun v108_73 H73 l73 f73 =>
  vFA 1 (.ptr ((c + 16) :: p) 14 0 0) fun v110_75 =>
  vLoad 10 true v110_75 H73 fun v111_76 f76 =>
  vCall P 17 [x9, v111_76] H73 ((c + 41) :: p) fun v112_77 H77 l77 f77 =>
  vBin .eql .num v108_73 v112_77 fun v113_78 =>
  clashFree [0, 0, 2, 7, 0, 0, 32, 127, 255, 511] [⟨[], ((c + 34) :: p), some []⟩, ⟨[], ((c + 35) :: p), some []⟩, ⟨[], ((c + 36) :: p), f72⟩, ⟨l73, ((c + 37) :: p), f73⟩, ⟨[], ((c + 38) :: p), some []⟩, ⟨[], ((c + 39) :: p), some []⟩, ⟨[], ((c + 40) :: p), f76⟩, ⟨l77, ((c + 41) :: p), f77⟩, ⟨[], ((c + 42) :: p), some []⟩, ⟨[], ((c + 43) :: p), some []⟩] ∧
  vNot v113_78 fun v139_81 =>
  vSel v139_81
  (clashFree [0, 1, 3, 7, 15, 7, 39, 103, 231, 487, 1023, 2047] [⟨[], ((c + 44) :: p), some []⟩, ⟨[], ((c + 45) :: p), some []⟩, ⟨[], ((c + 46) :: p), some []⟩, ⟨[], ((c + 47) :: p), some []⟩, ⟨[], ((c + 48) :: p), some []⟩, ⟨[], ((c + 49) :: p), some []⟩, ⟨[], ((c + 50) :: p), some []⟩, ⟨[], ((c + 51) :: p), some []⟩, ⟨[], ((c + 52) :: p), some []⟩, ⟨[], ((c + 53) :: p), some []⟩, ⟨[], ((c + 54) :: p), some []⟩, ⟨[], ((c + 55) :: p), some []⟩] ∧
  Q .ret [(6, (.bool false))] H77 (c + 57))
  (vCall P 23 [x7] H77 ((c + 48) :: p) fun v142_86 H86 l86 f86 =>
  vNil x9 fun v144_88 =>
  vFA 2 v144_88 fun v145_89 =>
  vLoad 1 false v145_89 H86 fun v146_90 f90 =>
  vLen v146_90 fun v147_91 =>
  vBin .neq .num v142_86 v147_91 fun v148_92 =>
  clashFree [0, 1, 3, 7, 15, 7, 39, 103, 231, 487, 1023, 2047] [⟨[], ((c + 44) :: p), some []⟩, ⟨[], ((c + 45) :: p), some []⟩, ⟨[], ((c + 46) :: p), some []⟩, ⟨[], ((c + 47) :: p), some []⟩, ⟨l86, ((c + 48) :: p), f86⟩, ⟨[], ((c + 49) :: p), some []⟩, ⟨[], ((c + 50) :: p), some []⟩, ⟨[], ((c + 51) :: p), some []⟩, ⟨[], ((c + 52) :: p), f90⟩, ⟨[], ((c + 53) :: p), some []⟩, ⟨[], ((c + 54) :: p), some []⟩, ⟨[], ((c + 55) :: p), some []⟩] ∧
  vSel v148_92
  (Q .ret [(6, (.bool false))] H86 (c + 57))
  (vBin .add .num x11 (.int .i64 1) fun v57_96 =>
  Q .normal [(2, x2), (7, x7), (9, x9), (11, v57_96)] H86 (c + 59))))
  (vBin .eql .num v75_67 (.int .i64 1) fun v115_98 =>
  vSel v115_98
  (vFA 11 (.ptr ((c + 16) :: p) 14 0 0) fun v118_101 =>
  vLoad 1 false v118_101 H48 fun v119_102 _ =>
  vCall P 18 [x7, v119_102] H48 ((c + 39) :: p) fun v120_103 H103 _ _ =>
  vExt 0 v120_103 fun v121_105 =>
  vExt 1 v120_103 fun v122_106 =>
  vFA 11 (.ptr ((c + 16) :: p) 14 0 0) fun v125_110 =>
  vLoad 1 false v125_110 H103 fun v126_111 _ =>
  vCall P 19 [x9, v126_111] H103 ((c + 48) :: p) fun v127_112 H112 _ _ =>
  vExt 0 v127_112 fun v128_114 =>
  vExt 1 v127_112 fun v129_115 =>
  vBin .eql .num v121_105 v128_114 fun v132_120 =>
  vSel v132_120
  (vBin .eql .num v122_106 v129_115 fun v136_124 =>
  vNot v136_124 fun v139_128 =>
  vSel v139_128
  (clashFree [0, 1, 3, 7, 15, 7, 39, 103, 231, 487, 1023, 2047] [⟨[], ((c + 63) :: p), some []⟩, ⟨[], ((c + 64) :: p), some []⟩, ⟨[], ((c + 65) :: p), some []⟩, ⟨[], ((c + 66) :: p), some []⟩, ⟨[], ((c + 67) :: p), some []⟩, ⟨[], ((c + 68) :: p), some []⟩, ⟨[], ((c + 69) :: p), some []⟩, ⟨[], ((c + 70) :: p), some []⟩, ⟨[], ((c + 71) :: p), some []⟩, ⟨[], ((c + 72) :: p), some []⟩, ⟨[], ((c + 73) :: p), some []⟩, ⟨[], ((c + 74) :: p), some []⟩] ∧
  Q .ret [(6, (.bool false))] H112 (c + 76))
  (vCall P 23 [x7] H112 ((c + 67) :: p) fun v142_133 H133 l133 f133 =>
  vNil x9 fun v144_135 =>
  vFA 2 v144_135 fun v145_136 =>
  vLoad 1 false v145_136 H133 fun v146_137 f137 =>
  vLen v146_137 fun v147_138 =>
  vBin .neq .num v142_133 v147_138 fun v148_139 =>
  clashFree [0, 1, 3, 7, 15, 7, 39, 103, 231, 487, 1023, 2047] [⟨[], ((c + 63) :: p), some []⟩, ⟨[], ((c + 64) :: p), some []⟩, ⟨[], ((c + 65) :: p), some []⟩, ⟨[], ((c + 66) :: p), some []⟩, ⟨l133, ((c + 67) :: p), f133⟩, ⟨[], ((c + 68) :: p), some []⟩, ⟨[], ((c + 69) :: p), some []⟩, ⟨[], ((c + 70) :: p), some []⟩, ⟨[], ((c + 71) :: p), f137⟩, ⟨[], ((c + 72) :: p), some []⟩, ⟨[], ((c + 73) :: p), some []⟩, ⟨[], ((c + 74) :: p), some []⟩] ∧
  vSel v148_139
  (Q .ret [(6, (.bool false))] H133 (c + 76))
  (vBin .add .num x11 (.int .i64 1) fun v57_143 =>
  Q .normal [(2, x2), (7, x7), (9, x9), (11, v57_143)] H133 (c + 78))))
  (vNot (.bool false) fun v139_148 =>
  vSel v139_148
  (clashFree [0, 1, 3, 7, 15, 7, 39, 103, 231, 487, 1023, 2047] [⟨[], ((c + 63) :: p), some []⟩, ⟨[], ((c + 64) :: p), some []⟩, ⟨[], ((c + 65) :: p), some []⟩, ⟨[], ((c + 66) :: p), some []⟩, ⟨[], ((c + 67) :: p), some []⟩, ⟨[], ((c + 68) :: p), some []⟩, ⟨[], ((c + 69) :: p), some []⟩, ⟨[], ((c + 70) :: p), some []⟩, ⟨[], ((c + 71) :: p), some []⟩, ⟨[], ((c + 72) :: p), some []⟩, ⟨[], ((c + 73) :: p), some []⟩, ⟨[], ((c + 74) :: p), some []⟩] ∧
  Q .ret [(6, (.bool false))] H112 (c + 76))
  (vCall P 23 [x7] H112 ((c + 67) :: p) fun v142_153 H153 l153 f153 =>
  vNil x9 fun v144_155 =>
  vFA 2 v144_155 fun v145_156 =>
  vLoad 1 false v145_156 H153 fun v146_157 f157 =>
  vLen v146_157 fun v147_158 =>
  vBin .neq .num v142_153 v147_158 fun v148_159 =>
  clashFree [0, 1, 3, 7, 15, 7, 39, 103, 231, 487, 1023, 2047] [⟨[], ((c + 63) :: p), some []⟩, ⟨[], ((c + 64) :: p), some []⟩, ⟨[], ((c + 65) :: p), some []⟩, ⟨[], ((c + 66) :: p), some []⟩, ⟨l153, ((c + 67) :: p), f153⟩, ⟨[], ((c + 68) :: p), some []⟩, ⟨[], ((c + 69) :: p), some []⟩, ⟨[], ((c + 70) :: p), some []⟩, ⟨[], ((c + 71) :: p), f157⟩, ⟨[], ((c + 72) :: p), some []⟩, ⟨[], ((c + 73) :: p), some []⟩, ⟨[], ((c + 74) :: p), some []⟩] ∧
  vSel v148_159
  (Q .ret [(6, (.bool false))] H153 (c + 76))
  (vBin .add .num x11 (.int .i64 1) fun v57_163 =>
  Q .normal [(2, x2), (7, x7), (9, x9), (11, v57_163)] H153 (c + 78)))))
  (vFA 12 (.ptr ((c + 16) :: p) 14 0 0) fun v78_166 =>
  vFA 0 v78_166 fun v79_167 =>
  vLoad 1 false v79_167 H48 fun v80_168 _ =>
  vFA 12 (.ptr ((c + 16) :: p) 14 0 0) fun v81_169 =>
  vFA 1 v81_169 fun v82_170 =>
  vLoad 1 false v82_170 H48 fun v83_171 _ =>
  vBuild [(.int .i64 0), (.int .i64 0)] [(0, 1), (1, 1)] [v80_168, v83_171] fun v84_172 =>
  vCall P 20 [x7, v84_172] H48 ((c + 44) :: p) fun v85_173 H173 _ _ =>
  vExt 0 v85_173 fun v86_175 =>
  vExt 1 v85_173 fun v87_176 =>
  (fun (H177 : Heap) =>
  vGen (.store 10) [(.ptr ((c + 48) :: p) 10 0 0), v86_175] H177 ((c + 49) :: p) fun v_178 H178 _ _ =>
  vFA 12 (.ptr ((c + 16) :: p) 14 0 0) fun v90_181 =>
  vLoad 2 true v90_181 H178 fun v91_182 _ =>
  vCall P 21 [x9, v91_182] H178 ((c + 54) :: p) fun v92_183 H183 _ _ =>
  vExt 0 v92_183 fun v93_185 =>
  vExt 1 v92_183 fun v94_186 =>
  (fun (H187 : Heap) =>
  vGen (.store 10) [(.ptr ((c + 58) :: p) 10 0 0), v93_185] H187 ((c + 59) :: p) fun v_188 H188 _ _ =>
  vLoad 10 true (.ptr ((c + 48) :: p) 10 0 0) H188 fun v95_190 _ =>
  vLoad 10 true (.ptr ((c + 58) :: p) 10 0 0) H188 fun v96_191 _ =>
  vCall P 22 [v95_190, v96_191] H188 ((c + 63) :: p) fun v97_192 H192 _ _ =>
  vSel v97_192
  (vBin .eql .bool v87_176 v94_186 fun v101_196 =>
  vNot v101_196 fun v139_200 =>
  vSel v139_200
  (clashFree [0, 1, 3, 7, 15, 7, 39, 103, 231, 487, 1023, 2047] [⟨[], ((c + 70) :: p), some []⟩, ⟨[], ((c + 71) :: p), some []⟩, ⟨[], ((c + 72) :: p), some []⟩, ⟨[], ((c + 73) :: p), some []⟩, ⟨[], ((c + 74) :: p), some []⟩, ⟨[], ((c + 75) :: p), some []⟩, ⟨[], ((c + 76) :: p), some []⟩, ⟨[], ((c + 77) :: p), some []⟩, ⟨[], ((c + 78) :: p), some []⟩, ⟨[], ((c + 79) :: p), some []⟩, ⟨[], ((c + 80) :: p), some []⟩, ⟨[], ((c + 81) :: p), some []⟩] ∧
  Q .ret [(6, (.bool false))] H192 (c + 83))
  (vCall P 23 [x7] H192 ((c + 74) :: p) fun v142_205 H205 l205 f205 =>
  vNil x9 fun v144_207 =>
  vFA 2 v144_207 fun v145_208 =>
  vLoad 1 false v145_208 H205 fun v146_209 f209 =>
  vLen v146_209 fun v147_210 =>
  vBin .neq .num v142_205 v147_210 fun v148_211 =>
  clashFree [0, 1, 3, 7, 15, 7, 39, 103, 231, 487, 1023, 2047] [⟨[], ((c + 70) :: p), some []⟩, ⟨[], ((c + 71) :: p), some []⟩, ⟨[], ((c + 72) :: p), some []⟩, ⟨[], ((c + 73) :: p), some []⟩, ⟨l205, ((c + 74) :: p), f205⟩, ⟨[], ((c + 75) :: p), some []⟩, ⟨[], ((c + 76) :: p), some []⟩, ⟨[], ((c + 77) :: p), some []⟩, ⟨[], ((c + 78) :: p), f209⟩, ⟨[], ((c + 79) :: p), some []⟩, ⟨[], ((c + 80) :: p), some []⟩, ⟨[], ((c + 81) :: p), some []⟩] ∧
  vSel v148_211
  (Q .ret [(6, (.bool false))] H205 (c + 83))
  (vBin .add .num x11 (.int .i64 1) fun v57_215 =>
  Q .normal [(2, x2), (7, x7), (9, x9), (11, v57_215)] H205 (c + 85))))
  (vNot (.bool false) fun v139_220 =>
  vSel v139_220
  (clashFree [0, 1, 3, 7, 15, 7, 39, 103, 231, 487, 1023, 2047] [⟨[], ((c + 70) :: p), some []⟩, ⟨[], ((c + 71) :: p), some []⟩, ⟨[], ((c + 72) :: p), some []⟩, ⟨[], ((c + 73) :: p), some []⟩, ⟨[], ((c + 74) :: p), some []⟩, ⟨[], ((c + 75) :: p), some []⟩, ⟨[], ((c + 76) :: p), some []⟩, ⟨[], ((c + 77) :: p), some []⟩, ⟨[], ((c + 78) :: p), some []⟩, ⟨[], ((c + 79) :: p), some []⟩, ⟨[], ((c + 80) :: p), some []⟩, ⟨[], ((c + 81) :: p), some []⟩] ∧
  Q .ret [(6, (.bool false))] H192 (c + 83))
  (vCall P 23 [x7] H192 ((c + 74) :: p) fun v142_225 H225 l225 f225 =>
  vNil x9 fun v144_227 =>
  vFA 2 v144_227 fun v145_228 =>
  vLoad 1 false v145_228 H225 fun v146_229 f229 =>
  vLen v146_229 fun v147_230 =>
  vBin .neq .num v142_225 v147_230 fun v148_231 =>
  clashFree [0, 1, 3, 7, 15, 7, 39, 103, 231, 487, 1023, 2047] [⟨[], ((c + 70) :: p), some []⟩, ⟨[], ((c + 71) :: p), some []⟩, ⟨[], ((c + 72) :: p), some []⟩, ⟨[], ((c + 73) :: p), some []⟩, ⟨l225, ((c + 74) :: p), f225⟩, ⟨[], ((c + 75) :: p), some []⟩, ⟨[], ((c + 76) :: p), some []⟩, ⟨[], ((c + 77) :: p), some []⟩, ⟨[], ((c + 78) :: p), f229⟩, ⟨[], ((c + 79) :: p), some []⟩, ⟨[], ((c + 80) :: p), some []⟩, ⟨[], ((c + 81) :: p), some []⟩] ∧
  vSel v148_231
  (Q .ret [(6, (.bool false))] H225 (c + 83))
  (vBin .add .num x11 (.int .i64 1) fun v57_235 =>
  Q .normal [(2, x2), (7, x7), (9, x9), (11, v57_235)] H225 (c + 85))))) (upd [(((c + 58) :: p), some (.rows 10 [[(.int .i64 0), (.int .i64 0), .nils, (.int .i64 0), (.int .i64 0), (.int .i64 0), (.int .i64 0), (.int .i64 0), (.int .i64 0), (.int .i64 0)]]))] H183)) (upd [(((c + 48) :: p), some (.rows 10 [[(.int .i64 0), (.int .i64 0), .nils, (.int .i64 0), (.int .i64 0), (.int .i64 0), (.int .i64 0), (.int .i64 0), (.int .i64 0), (.int .i64 0)]]))] H173)))))) (upd [(((c + 16) :: p), some (.rows 14 [[(.int .i64 0), (.int .i64 0), (.int .i64 0), .nils, (.int .i64 0), (.int .i64 0), (.int .i64 0), (.int .i64 0), (.int .i64 0), (.int .i64 0), (.int .i64 0), .nils, (.int .i64 0), (.int .i64 0)]]))] H))
  (Q (.exit 0) [(2, x2), (7, x7), (9, x9), (11, x11), (55, v54_41)] H (c + 12)))
  (Q (.exit 0) [(2, x2), (7, x7), (9, x9), (11, x11), (55, (.bool false))] H (c + 12)))
  (Q (.exit 0) [(2, x2), (7, x7), (9, x9), (11, x11), (55, (.bool false))] H (c + 12))
theorem vt3_1 (P : Program) (p : Lab) (Q : VPost) (x2 x7 x9 x11 : AV) (H : Heap) (c : Nat) : vc P p b3_1 Q [(2, x2), (7, x7), (9, x9), (11, x11)] H c = V3_1 P p Q x2 x7 x9 x11 H c := by kernel_rfl
theorem q3_0_e0 (P : Program) (p : Lab) (Q : VPost) (r : RL) (H : Heap) (c : Nat) : q3_0 P p Q (.exit 0) r H c = (vc P p r3_2 Q r H c) := rfl
def V3_2 (P : Program) (p : Lab) (Q : VPost) (x2 x7 x9 x11 x55 : AV) (H : Heap) (c : Nat) : Prop :=
  vCall P 15 [] H (c :: p) fun v150_241 H241 _ _ =>
  Q .ret [(6, v150_241)] H241 (c + 2)
theorem vt3_2 (P : Program) (p : Lab) (Q : VPost) (x2 x7 x9 x11 x55 : AV) (H : Heap) (c : Nat) : vc P p r3_2 Q [(2, x2), (7, x7), (9, x9), (11, x11), (55, x55)] H c = V3_2 P p Q x2 x7 x9 x11 x55 H c := by kernel_rfl


/-- (*duet/resend.Store).Keep -/
def c16 : AFun := ⟨2, 57, [.tmp 4],
  (.seq (.region [⟨(some 3), none, .box, [.t 1]⟩, ⟨(some 4), none, .move, [.c (.int .i64 0)]⟩] none [0, 3])
  (.seq (.seq (.region [⟨(some 8), none, .move, [.t 0]⟩, ⟨(some 9), none, (.bin .eql .ptr), [.t 8, .c .nilp]⟩, ⟨(some 10), none, .move, [.t 9]⟩, ⟨(some 11), (some (10, false)), (.load 10 true), [.t 3]⟩, ⟨(some 12), (some (10, false)), .call, [.c (.fn (.func 43) [] []), .t 11]⟩, ⟨(some 13), (some (10, false)), (.bin .neq .num), [.t 12, .c (.int .i64 0)]⟩, ⟨(some 14), none, .pick, [.t 10, .c (.bool true), .t 13]⟩, ⟨(some 15), none, .move, [.t 14]⟩, ⟨(some 16), (some (15, false)), (.fieldAddr 2), [.t 3]⟩, ⟨(some 17), (some (15, false)), (.load 1 false), [.t 16]⟩, ⟨(some 18), (some (15, false)), (.len .slice), [.t 17]⟩, ⟨(some 19), (some (15, false)), .move, [.t 0]⟩, ⟨(some 20), (some (15, false)), .nilCheck, [.t 19]⟩, ⟨(some 21), (some (15, false)), (.fieldAddr 0), [.t 20]⟩, ⟨(some 22), (some (15, false)), (.load 1 false), [.t 21]⟩, ⟨(some 23), (some (15, false)), (.bin .neq .num), [.t 18, .t 22]⟩, ⟨(some 24), none, .pick, [.t 15, .c (.bool true), .t 23]⟩] (some [0, 1, 3, 7, 15, 31, 63, 127, 255, 511, 1023, 255, 2303, 6399, 14591, 32767, 65535]) [0, 3, 24])
  (.cond (.t 24) (.seq (.region [⟨(some 4), none, .move, [.c (.int .i64 1)]⟩] none [4])
  .ret)
  .skip))
  (.seq (.region [⟨(some 25), none, (.fieldAddr 0), [.t 3]⟩, ⟨(some 26), none, (.load 1 false), [.t 25]⟩, ⟨(some 27), none, (.fieldAddr 1), [.t 3]⟩, ⟨(some 28), none, (.load 1 false), [.t 27]⟩, ⟨(some 29), none, (.build [(.int .i64 0), (.int .i64 0)] [(0, 1), (1, 1)]), [.t 26, .t 28]⟩, ⟨(some 5), none, (.alloc [(.int .i64 0), (.int .i64 0)]), []⟩, ⟨none, none, (.store 2), [.t 5, .t 29]⟩] none [0, 3, 5])
  (.seq (.seq (.region [⟨(some 31), none, .move, [.t 0]⟩, ⟨(some 32), none, .nilCheck, [.t 31]⟩, ⟨(some 33), none, (.fieldAddr 2), [.t 32]⟩, ⟨(some 34), none, (.load 1 false), [.t 33]⟩, ⟨(some 35), none, (.load 2 true), [.t 5]⟩, ⟨(some 36), none, (.lookup true [.int, .int] (.agg [(.int .i64 0), (.int .i64 0), .nils, (.int .i64 0), (.int .i64 0), (.int .i64 0), (.int .i64 0), (.int .i64 0), (.int .i64 0), (.int .i64 0)]) true), [.t 34, .t 35]⟩, ⟨(some 30), none, .move, [.t 36]⟩, ⟨(some 37), none, (.extract 0), [.t 30]⟩, ⟨(some 38), none, (.extract 1), [.t 30]⟩, ⟨(some 6), none, (.alloc [(.int .i64 0), (.int .i64 0), .nils, (.int .i64 0), (.int .i64 0), (.int .i64 0), (.int .i64 0), (.int .i64 0), (.int .i64 0), (.int .i64 0)]), []⟩, ⟨none, none, (.store 10), [.t 6, .t 37]⟩, ⟨(some 7), none, .move, [.t 38]⟩] (some [0, 1, 3, 7, 0, 31, 63, 127, 127, 0, 767, 2047]) [0, 3, 5, 7])
  (.seq (.region [⟨(some 39), none, .move, [.t 7]⟩] none [0, 3, 5, 39])
  (.cond (.t 39) (.seq (.region [⟨(some 4), none, .move, [.c (.int .i64 7)]⟩] none [4])
  .ret)
  .skip)))
  (.seq (.seq (.region [⟨(some 40), none, .move, [.t 0]⟩, ⟨(some 41), none, .nilCheck, [.t 40]⟩, ⟨(some 42), none, (.fieldAddr 2), [.t 41]⟩, ⟨(some 43), none, (.load 1 false), [.t 42]⟩, ⟨(some 44), none, (.len .map), [.t 43]⟩, ⟨(some 45), none, .move, [.t 0]⟩, ⟨(some 46), none, .nilCheck, [.t 45]⟩, ⟨(some 47), none, (.fieldAddr 1), [.t 46]⟩, ⟨(some 48), none, (.load 1 false), [.t 47]⟩, ⟨(some 49), none, (.bin .geq .num), [.t 44, .t 48]⟩] (some [0, 1, 3, 7, 15, 0, 32, 96, 224, 511]) [0, 3, 5, 49])
  (.cond (.t 49) (.seq (.region [⟨(some 4), none, .move, [.c (.int .i64 5)]⟩] none [4])
  .ret)
  .skip))
  (.seq (.region [⟨(some 50), none, .move, [.t 0]⟩, ⟨(some 51), none, .nilCheck, [.t 50]⟩, ⟨(some 52), none, (.fieldAddr 2), [.t 51]⟩, ⟨(some 53), none, (.load 1 false), [.t 52]⟩, ⟨(some 54), none, (.load 2 true), [.t 5]⟩, ⟨(some 55), none, (.load 10 true), [.t 3]⟩, ⟨(some 56), none, .call, [.c (.fn (.func 44) [] []), .t 55]⟩, ⟨none, none, (.mapUpdate true [.int, .int]), [.t 53, .t 54, .t 56]⟩] (some [0, 1, 3, 7, 0, 0, 32, 127]) [])
  (.seq (.region [⟨(some 4), none, .move, [.c (.int .i64 0)]⟩] none [4])
  .ret)))))))⟩
theorem ok16 : FunOk Try.prog 16 c16 := ⟨⟨Try.f16, _, Try.func16, rfl, by kernel_rfl, by kernel_rfl, by kernel_rfl, by kernel_rfl⟩, by decide⟩
theorem res16 : c16.res = [.tmp 4] := rfl
def V16 (P : Program) (p : Lab) (Q : VPost) (x0 x1 : AV) (H : Heap) (c : Nat) : Prop :=
  vBox x1 fun w0 =>
  (fun (H0 : Heap) =>
  vBin .eql .ptr x0 .nilp fun v9_3 =>
  vSel v9_3
  (clashFree [0, 1, 3, 7, 15, 31, 63, 127, 255, 511, 1023, 255, 2303, 6399, 14591, 32767, 65535] [⟨[], ((c + 2) :: p), some []⟩, ⟨[], ((c + 3) :: p), some []⟩, ⟨[], ((c + 4) :: p), some []⟩, ⟨[], ((c + 5) :: p), some []⟩, ⟨[], ((c + 6) :: p), some []⟩, ⟨[], ((c + 7) :: p), some []⟩, ⟨[], ((c + 8) :: p), some []⟩, ⟨[], ((c + 9) :: p), some []⟩, ⟨[], ((c + 10) :: p), some []⟩, ⟨[], ((c + 11) :: p), some []⟩, ⟨[], ((c + 12) :: p), some []⟩, ⟨[], ((c + 13) :: p), some []⟩, ⟨[], ((c + 14) :: p), some []⟩, ⟨[], ((c + 15) :: p), some []⟩, ⟨[], ((c + 16) :: p), some []⟩, ⟨[], ((c + 17) :: p), some []⟩, ⟨[], ((c + 18) :: p), some []⟩] ∧
  Q .ret [(4, (.int .i64 1))] H0 (c + 20))
  (vLoad 10 true (.ptr (c :: p) w0.length 0 0) H0 fun v11_9 f9 =>
  vCall P 43 [v11_9] H0 ((c + 6) :: p) fun v12_10 H10 l10 f10 =>
  vBin .neq .num v12_10 (.int .i64 0) fun v13_11 =>
  vSel v13_11
  (clashFree [0, 1, 3, 7, 15, 31, 63, 127, 255, 511, 1023, 255, 2303, 6399, 14591, 32767, 65535] [⟨[], ((c + 2) :: p), some []⟩, ⟨[], ((c + 3) :: p), some []⟩, ⟨[], ((c + 4) :: p), some []⟩, ⟨[], ((c + 5) :: p), f9⟩, ⟨l10, ((c + 6) :: p), f10⟩, ⟨[], ((c + 7) :: p), some []⟩, ⟨[], ((c + 8) :: p), some []⟩, ⟨[], ((c + 9) :: p), some []⟩, ⟨[], ((c + 10) :: p), some []⟩, ⟨[], ((c + 11) :: p), some []⟩, ⟨[], ((c + 12) :: p), some []⟩, ⟨[], ((c + 13) :: p), some []⟩, ⟨[], ((c + 14) :: p), some []⟩, ⟨[], ((c + 15) :: p), some []⟩, ⟨[], ((c + 16) :: p), some []⟩, ⟨[], ((c + 17) :: p), some []⟩, ⟨[], ((c + 18) :: p), some []⟩] ∧
  Q .ret [(4, (.int .i64 1))] H10 (c + 20))
  (vFA 2 (.ptr (c :: p) w0.length 0 0) fun v16_16 =>
  vLoad 1 false v16_16 H10 fun v17_17 f17 =>
  vLen v17_17 fun v18_18 =>
  vNil x0 fun v20_20 =>
  vFA 0 v20_20 fun v21_21 =>
  vLoad 1 false v21_21 H10 fun v22_22 f22 =>
  vBin .neq .num v18_18 v22_22 fun v23_23 =>
  clashFree [0, 1, 3, 7, 15, 31, 63, 127, 255, 511, 1023, 255, 2303, 6399, 14591, 32767, 65535] [⟨[], ((c + 2) :: p), some []⟩, ⟨[], ((c + 3) :: p), some []⟩, ⟨[], ((c + 4) :: p), some []⟩, ⟨[], ((c + 5) :: p), f9⟩, ⟨l10, ((c + 6) :: p), f10⟩, ⟨[], ((c + 7) :: p), some []⟩, ⟨[], ((c + 8) :: p), some []⟩, ⟨[], ((c + 9) :: p), some []⟩, ⟨[], ((c + 10) :: p), some []⟩, ⟨[], ((c + 11) :: p), f17⟩, ⟨[], ((c + 12) :: p), some []⟩, ⟨[], ((c + 13) :: p), some []⟩, ⟨[], ((c + 14) :: p), some []⟩, ⟨[], ((c + 15) :: p), some []⟩, ⟨[], ((c + 16) :: p), f22⟩, ⟨[], ((c + 17) :: p), some []⟩, ⟨[], ((c + 18) :: p), some []⟩] ∧
  vSel v23_23
  (Q .ret [(4, (.int .i64 1))] H10 (c + 20))
  (vFA 0 (.ptr (c :: p) w0.length 0 0) fun v25_26 =>
  vLoad 1 false v25_26 H10 fun v26_27 _ =>
  vFA 1 (.ptr (c :: p) w0.length 0 0) fun v27_28 =>
  vLoad 1 false v27_28 H10 fun v28_29 _ =>
  vBuild [(.int .i64 0), (.int .i64 0)] [(0, 1), (1, 1)] [v26_27, v28_29] fun v29_30 =>
  (fun (H31 : Heap) =>
  vGen (.store 2) [(.ptr ((c + 24) :: p) 2 0 0), v29_30] H31 ((c + 25) :: p) fun v_32 H32 _ _ =>
  vNil x0 fun v32_34 =>
  vFA 2 v32_34 fun v33_35 =>
  vLoad 1 false v33_35 H32 fun v34_36 f36 =>
  vLoad 2 true (.ptr ((c + 24) :: p) 2 0 0) H32 fun v35_37 f37 =>
  vGen (.lookup true [.int, .int] (.agg [(.int .i64 0), (.int .i64 0), .nils, (.int .i64 0), (.int .i64 0), (.int .i64 0), (.int .i64 0), (.int .i64 0), (.int .i64 0), (.int .i64 0)]) true) [v34_36, v35_37] H32 ((c + 31) :: p) fun v36_38 H38 l38 f38 =>
  vExt 0 v36_38 fun v37_40 =>
  vExt 1 v36_38 fun v38_41 =>
  (fun (H42 : Heap) =>
  vGen (.store 10) [(.ptr ((c + 35) :: p) 10 0 0), v37_40] H42 ((c + 36) :: p) fun v_43 H43 l43 f43 =>
  clashFree [0, 1, 3, 7, 0, 31, 63, 127, 127, 0, 767, 2047] [⟨[], ((c + 26) :: p), some []⟩, ⟨[], ((c + 27) :: p), some []⟩, ⟨[], ((c + 28) :: p), some []⟩, ⟨[], ((c + 29) :: p), f36⟩, ⟨[], ((c + 30) :: p), f37⟩, ⟨l38, ((c + 31) :: p), f38⟩, ⟨[], ((c + 32) :: p), some []⟩, ⟨[], ((c + 33) :: p), some []⟩, ⟨[], ((c + 34) :: p), some []⟩, ⟨[((c + 35) :: p)], ((c + 35) :: p), some []⟩, ⟨l43, ((c + 36) :: p), f43⟩, ⟨[], ((c + 37) :: p), some []⟩] ∧
  vSel v38_41
  (Q .ret [(4, (.int .i64 7))] H43 (c + 40))
  (vNil x0 fun v41_48 =>
  vFA 2 v41_48 fun v42_49 =>
  vLoad 1 false v42_49 H43 fun v43_50 f50 =>
  vGen (.len .map) [v43_50] H43 ((c + 43) :: p) fun v44_51 H51 l51 f51 =>
  vNil x0 fun v46_53 =>
  vFA 1 v46_53 fun v47_54 =>
  vLoad 1 false v47_54 H51 fun v48_55 f55 =>
  vBin .geq .num v44_51 v48_55 fun v49_56 =>
  clashFree [0, 1, 3, 7, 15, 0, 32, 96, 224, 511] [⟨[], ((c + 39) :: p), some []⟩, ⟨[], ((c + 40) :: p), some []⟩, ⟨[], ((c + 41) :: p), some []⟩, ⟨[], ((c + 42) :: p), f50⟩, ⟨l51, ((c + 43) :: p), f51⟩, ⟨[], ((c + 44) :: p), some []⟩, ⟨[], ((c + 45) :: p), some []⟩, ⟨[], ((c + 46) :: p), some []⟩, ⟨[], ((c + 47) :: p), f55⟩, ⟨[], ((c + 48) :: p), some []⟩] ∧
  vSel v49_56
  (Q .ret [(4, (.int .i64 5))] H51 (c + 50))
  (vNil x0 fun v51_59 =>
  vFA 2 v51_59 fun v52_60 =>
  vLoad 1 false v52_60 H51 fun v53_61 f61 =>
  vLoad 2 true (.ptr ((c + 24) :: p) 2 0 0) H51 fun v54_62 f62 =>
  vLoad 10 true (.ptr (c :: p) w0.length 0 0) H51 fun v55_63 f63 =>
  vCall P 44 [v55_63] H51 ((c + 55) :: p) fun v56_64 H64 l64 f64 =>
  vGen (.mapUpdate true [.int, .int]) [v53_61, v54_62, v56_64] H64 ((c + 56) :: p) fun v_65 H65 l65 f65 =>
  clashFree [0, 1, 3, 7, 0, 0, 32, 127] [⟨[], ((c + 49) :: p), some []⟩, ⟨[], ((c + 50) :: p), some []⟩, ⟨[], ((c + 51) :: p), some []⟩, ⟨[], ((c + 52) :: p), f61⟩, ⟨[], ((c + 53) :: p), f62⟩, ⟨[], ((c + 54) :: p), f63⟩, ⟨l64, ((c + 55) :: p), f64⟩, ⟨l65, ((c + 56) :: p), f65⟩] ∧
  Q .ret [(4, (.int .i64 0))] H65 (c + 58)))) (upd [(((c + 35) :: p), some (.rows 10 [[(.int .i64 0), (.int .i64 0), .nils, (.int .i64 0), (.int .i64 0), (.int .i64 0), (.int .i64 0), (.int .i64 0), (.int .i64 0), (.int .i64 0)]]))] H38)) (upd [(((c + 24) :: p), some (.rows 2 [[(.int .i64 0), (.int .i64 0)]]))] H10))))) (upd [((c :: p), some (.rows w0.length [w0]))] H)
theorem vt16 (P : Program) (p : Lab) (Q : VPost) (x0 x1 : AV) (H : Heap) (c : Nat) : vc P p c16.body Q [(0, x0), (1, x1)] H c = V16 P p Q x0 x1 H c := by kernel_rfl


/-- (*duet/duetref08.Store).Keep -/
def c17 : AFun := ⟨2, 52, [.tmp 4],
  (.seq (.region [⟨(some 3), none, .box, [.t 1]⟩, ⟨(some 4), none, .move, [.c (.int .i64 0)]⟩] none [0, 3])
  (.seq (.seq (.region [⟨(some 7), none, (.load 10 true), [.t 3]⟩, ⟨(some 8), none, .call, [.c (.fn (.func 27) [] []), .t 7]⟩, ⟨(some 9), none, (.bin .neq .num), [.t 8, .c (.int .i64 0)]⟩, ⟨(some 10), none, .move, [.t 9]⟩, ⟨(some 11), (some (10, false)), (.fieldAddr 2), [.t 3]⟩, ⟨(some 12), (some (10, false)), (.load 1 false), [.t 11]⟩, ⟨(some 13), (some (10, false)), (.len .slice), [.t 12]⟩, ⟨(some 14), (some (10, false)), .move, [.t 0]⟩, ⟨(some 15), (some (10, false)), .nilCheck, [.t 14]⟩, ⟨(some 16), (some (10, false)), (.fieldAddr 0), [.t 15]⟩, ⟨(some 17), (some (10, false)), (.load 1 false), [.t 16]⟩, ⟨(some 18), (some (10, false)), (.bin .neq .num), [.t 13, .t 17]⟩, ⟨(some 19), none, .pick, [.t 10, .c (.bool true), .t 18]⟩] (some [0, 1, 3, 7, 15, 31, 63, 15, 143, 399, 911, 2047, 4095]) [0, 3, 19])
  (.cond (.t 19) (.seq (.region [⟨(some 4), none, .move, [.c (.int .i64 1)]⟩] none [4])
  .ret)
  .skip))
  (.seq (.region [⟨(some 21), none, .move, [.t 0]⟩, ⟨(some 22), none, (.fieldAddr 0), [.t 3]⟩, ⟨(some 23), none, (.load 1 false), [.t 22]⟩, ⟨(some 24), none, (.fieldAddr 1), [.t 3]⟩, ⟨(some 25), none, (.load 1 false), [.t 24]⟩, ⟨(some 26), none, (.build [(.int .i64 0), (.int .i64 0)] [(0, 1), (1, 1)]), [.t 23, .t 25]⟩, ⟨(some 27), none, .call, [.c (.fn (.func 21) [] []), .t 21, .t 26]⟩, ⟨(some 20), none, .move, [.t 27]⟩, ⟨(some 28), none, (.extract 0), [.t 20]⟩, ⟨(some 29), none, (.extract 1), [.t 20]⟩, ⟨(some 5), none, (.alloc [(.int .i64 0), (.int .i64 0), .nils, (.int .i64 0), (.int .i64 0), (.int .i64 0), (.int .i64 0), (.int .i64 0), (.int .i64 0), (.int .i64 0)]), []⟩, ⟨none, none, (.store 10), [.t 5, .t 28]⟩, ⟨(some 6), none, .move, [.t 29]⟩] none [0, 3, 6])
  (.seq (.seq (.region [⟨(some 30), none, .move, [.t 6]⟩] none [0, 3, 30])
  (.cond (.t 30) (.seq (.region [⟨(some 4), none, .move, [.c (.int .i64 7)]⟩] none [4])
  .ret)
  .skip))
  (.seq (.seq (.region [⟨(some 31), none, .move, [.t 0]⟩, ⟨(some 32), none, .nilCheck, [.t 31]⟩, ⟨(some 33), none, (.fieldAddr 2), [.t 32]⟩, ⟨(some 34), none, (.load 1 false), [.t 33]⟩, ⟨(some 35), none, (.len .slice), [.t 34]⟩, ⟨(some 36), none, .move, [.t 0]⟩, ⟨(some 37), none, .nilCheck, [.t 36]⟩, ⟨(some 38), none, (.fieldAddr 1), [.t 37]⟩, ⟨(some 39), none, (.load 1 false), [.t 38]⟩, ⟨(some 40), none, (.bin .geq .num), [.t 35, .t 39]⟩] (some [0, 1, 3, 7, 15, 0, 32, 96, 224, 511]) [0, 3, 40])
  (.cond (.t 40) (.seq (.region [⟨(some 4), none, .move, [.c (.int .i64 5)]⟩] none [4])
  .ret)
  .skip))
  (.seq (.region [⟨(some 41), none, .move, [.t 0]⟩, ⟨(some 42), none, .move, [.t 0]⟩, ⟨(some 43), none, .nilCheck, [.t 42]⟩, ⟨(some 44), none, (.fieldAddr 2), [.t 43]⟩, ⟨(some 45), none, (.load 1 false), [.t 44]⟩, ⟨(some 46), none, (.load 10 true), [.t 3]⟩, ⟨(some 47), none, .call, [.c (.fn (.func 45) [] []), .t 46]⟩, ⟨(some 48), none, (.buildSlice 10 [(.int .i64 0), (.int .i64 0), .nils, (.int .i64 0), (.int .i64 0), (.int .i64 0), (.int .i64 0), (.int .i64 0), (.int .i64 0), (.int .i64 0)] [(0, 10)]), [.t 47]⟩, ⟨(some 49), none, (.append 10 96), [.t 45, .t 48]⟩, ⟨(some 50), none, .nilCheck, [.t 41]⟩, ⟨(some 51), none, (.fieldAddr 2), [.t 50]⟩, ⟨none, none, (.store 1), [.t 51, .t 49]⟩] (some [0, 0, 2, 6, 14, 0, 32, 96, 254, 511, 1023, 2047]) [])
  (.seq (.region [⟨(some 4), none, .move, [.c (.int .i64 0)]⟩] none [4])
  .ret)))))))⟩
theorem ok17 : FunOk Try.prog 17 c17 := ⟨⟨Try.f17, _, Try.func17, rfl, by kernel_rfl, by kernel_rfl, by kernel_rfl, by kernel_rfl⟩, by decide⟩
theorem res17 : c17.res = [.tmp 4] := rfl
def V17 (P : Program) (p : Lab) (Q : VPost) (x0 x1 : AV) (H : Heap) (c : Nat) : Prop :=
  vBox x1 fun w0 =>
  (fun (H0 : Heap) =>
  vLoad 10 true (.ptr (c :: p) w0.length 0 0) H0 fun v7_2 f2 =>
  vCall P 27 [v7_2] H0 ((c + 3) :: p) fun v8_3 H3 l3 f3 =>
  vBin .neq .num v8_3 (.int .i64 0) fun v9_4 =>
  vSel v9_4
  (clashFree [0, 1, 3, 7, 15, 31, 63, 15, 143, 399, 911, 2047, 4095] [⟨[], ((c + 2) :: p), f2⟩, ⟨l3, ((c + 3) :: p), f3⟩, ⟨[], ((c + 4) :: p), some []⟩, ⟨[], ((c + 5) :: p), some []⟩, ⟨[], ((c + 6) :: p), some []⟩, ⟨[], ((c + 7) :: p), some []⟩, ⟨[], ((c + 8) :: p), some []⟩, ⟨[], ((c + 9) :: p), some []⟩, ⟨[], ((c + 10) :: p), some []⟩, ⟨[], ((c + 11) :: p), some []⟩, ⟨[], ((c + 12) :: p), some []⟩, ⟨[], ((c + 13) :: p), some []⟩, ⟨[], ((c + 14) :: p), some []⟩] ∧
  Q .ret [(4, (.int .i64 1))] H3 (c + 16))
  (vFA 2 (.ptr (c :: p) w0.length 0 0) fun v11_8 =>
  vLoad 1 false v11_8 H3 fun v12_9 f9 =>
  vLen v12_9 fun v13_10 =>
  vNil x0 fun v15_12 =>
  vFA 0 v15_12 fun v16_13 =>
  vLoad 1 false v16_13 H3 fun v17_14 f14 =>
  vBin .neq .num v13_10 v17_14 fun v18_15 =>
  clashFree [0, 1, 3, 7, 15, 31, 63, 15, 143, 399, 911, 2047, 4095] [⟨[], ((c + 2) :: p), f2⟩, ⟨l3, ((c + 3) :: p), f3⟩, ⟨[], ((c + 4) :: p), some []⟩, ⟨[], ((c + 5) :: p), some []⟩, ⟨[], ((c + 6) :: p), some []⟩, ⟨[], ((c + 7) :: p), f9⟩, ⟨[], ((c + 8) :: p), some []⟩, ⟨[], ((c + 9) :: p), some []⟩, ⟨[], ((c + 10) :: p), some []⟩, ⟨[], ((c + 11) :: p), some []⟩, ⟨[], ((c + 12) :: p), f14⟩, ⟨[], ((c + 13) :: p), some []⟩, ⟨[], ((c + 14) :: p), some []⟩] ∧
  vSel v18_15
  (Q .ret [(4, (.int .i64 1))] H3 (c + 16))
  (vFA 0 (.ptr (c :: p) w0.length 0 0) fun v22_19 =>
  vLoad 1 false v22_19 H3 fun v23_20 _ =>
  vFA 1 (.ptr (c :: p) w0.length 0 0) fun v24_21 =>
  vLoad 1 false v24_21 H3 fun v25_22 _ =>
  vBuild [(.int .i64 0), (.int .i64 0)] [(0, 1), (1, 1)] [v23_20, v25_22] fun v26_23 =>
  vCall P 21 [x0, v26_23] H3 ((c + 21) :: p) fun v27_24 H24 _ _ =>
  vExt 0 v27_24 fun v28_26 =>
  vExt 1 v27_24 fun v29_27 =>
  (fun (H28 : Heap) =>
  vGen (.store 10) [(.ptr ((c + 25) :: p) 10 0 0), v28_26] H28 ((c + 26) :: p) fun v_29 H29 _ _ =>
  vSel v29_27
  (Q .ret [(4, (.int .i64 7))] H29 (c + 30))
  (vNil x0 fun v32_34 =>
  vFA 2 v32_34 fun v33_35 =>
  vLoad 1 false v33_35 H29 fun v34_36 f36 =>
  vLen v34_36 fun v35_37 =>
  vNil x0 fun v37_39 =>
  vFA 1 v37_39 fun v38_40 =>
  vLoad 1 false v38_40 H29 fun v39_41 f41 =>
  vBin .geq .num v35_37 v39_41 fun v40_42 =>
  clashFree [0, 1, 3, 7, 15, 0, 32, 96, 224, 511] [⟨[], ((c + 29) :: p), some []⟩, ⟨[], ((c + 30) :: p), some []⟩, ⟨[], ((c + 31) :: p), some []⟩, ⟨[], ((c + 32) :: p), f36⟩, ⟨[], ((c + 33) :: p), some []⟩, ⟨[], ((c + 34) :: p), some []⟩, ⟨[], ((c + 35) :: p), some []⟩, ⟨[], ((c + 36) :: p), some []⟩, ⟨[], ((c + 37) :: p), f41⟩, ⟨[], ((c + 38) :: p), some []⟩] ∧
  vSel v40_42
  (Q .ret [(4, (.int .i64 5))] H29 (c + 40))
  (vNil x0 fun v43_46 =>
  vFA 2 v43_46 fun v44_47 =>
  vLoad 1 false v44_47 H29 fun v45_48 f48 =>
  vLoad 10 true (.ptr (c :: p) w0.length 0 0) H29 fun v46_49 f49 =>
  vCall P 45 [v46_49] H29 ((c + 45) :: p) fun v47_50 H50 l50 f50 =>
  vBuildS 10 [(.int .i64 0), (.int .i64 0), .nils, (.int .i64 0), (.int .i64 0), (.int .i64 0), (.int .i64 0), (.int .i64 0), (.int .i64 0), (.int .i64 0)] [(0, 10)] [v47_50] fun w51 n51 =>
  (fun (H51 : Heap) =>
  vGen (.append 10 96) [v45_48, (.sl ((c + 46) :: p) 10 0 n51)] H51 ((c + 47) :: p) fun v49_52 H52 l52 f52 =>
  vNil x0 fun v50_53 =>
  vFA 2 v50_53 fun v51_54 =>
  vGen (.store 1) [v51_54, v49_52] H52 ((c + 50) :: p) fun v_55 H55 l55 f55 =>
  clashFree [0, 0, 2, 6, 14, 0, 32, 96, 254, 511, 1023, 2047] [⟨[], ((c + 39) :: p), some []⟩, ⟨[], ((c + 40) :: p), some []⟩, ⟨[], ((c + 41) :: p), some []⟩, ⟨[], ((c + 42) :: p), some []⟩, ⟨[], ((c + 43) :: p), f48⟩, ⟨[], ((c + 44) :: p), f49⟩, ⟨l50, ((c + 45) :: p), f50⟩, ⟨[((c + 46) :: p)], ((c + 46) :: p), some []⟩, ⟨l52, ((c + 47) :: p), f52⟩, ⟨[], ((c + 48) :: p), some []⟩, ⟨[], ((c + 49) :: p), some []⟩, ⟨l55, ((c + 50) :: p), f55⟩] ∧
  Q .ret [(4, (.int .i64 0))] H55 (c + 52)) (upd [(((c + 46) :: p), some (.rows 10 w51))] H50)))) (upd [(((c + 25) :: p), some (.rows 10 [[(.int .i64 0), (.int .i64 0), .nils, (.int .i64 0), (.int .i64 0), (.int .i64 0), (.int .i64 0), (.int .i64 0), (.int .i64 0), (.int .i64 0)]]))] H24)))) (upd [((c :: p), some (.rows w0.length [w0]))] H)
theorem vt17 (P : Program) (p : Lab) (Q : VPost) (x0 x1 : AV) (H : Heap) (c : Nat) : vc P p c17.body Q [(0, x0), (1, x1)] H c = V17 P p Q x0 x1 H c := by kernel_rfl

def b18_1 : ACode := (.seq (.region [⟨(some 34), none, .mnext, [.t 33]⟩, ⟨(some 35), none, (.extract 0), [.t 34]⟩] none [0, 1, 6, 33, 35])
  (.seq (.cond (.t 35) .skip
  (.exit 0))
  (.block 1 (.seq (.region [⟨(some 36), none, .mentry, [.t 33]⟩, ⟨(some 37), none, (.extract 0), [.t 36]⟩, ⟨(some 7), none, (.alloc [(.int .i64 0), (.int .i64 0)]), []⟩, ⟨none, none, (.store 2), [.t 7, .t 37]⟩] none [0, 1, 6, 7, 33])
  (.seq (.region [⟨(some 38), none, .move, [.t 1]⟩, ⟨(some 39), none, (.fieldAddr 0), [.t 7]⟩, ⟨(some 40), none, (.load 1 false), [.t 39]⟩, ⟨(some 41), none, (.fieldAddr 1), [.t 7]⟩, ⟨(some 42), none, (.load 1 false), [.t 41]⟩, ⟨(some 43), none, .call, [.c (.fn (.func 47) [] []), .t 38, .t 40, .t 42]⟩] none [0, 1, 6, 7, 33, 43])
  (.cond (.t 43) (.region [⟨(some 44), none, .move, [.t 0]⟩, ⟨(some 45), none, .nilCheck, [.t 44]⟩, ⟨(some 46), none, (.fieldAddr 2), [.t 45]⟩, ⟨(some 47), none, (.load 1 false), [.t 46]⟩, ⟨(some 48), none, (.load 2 true), [.t 7]⟩, ⟨none, none, (.delete true [.int, .int]), [.t 47, .t 48]⟩] (some [0, 1, 3, 7, 0, 31]) [0, 1, 6, 33])
  .skip))))))
def l18_1 : ACode := .loop [0, 1, 6, 33] b18_1
def r18_2 : ACode := (.seq (.region [⟨(some 49), none, .move, [.t 6]⟩, ⟨(some 50), none, .move, [.t 0]⟩, ⟨(some 51), none, .nilCheck, [.t 50]⟩, ⟨(some 52), none, (.fieldAddr 2), [.t 51]⟩, ⟨(some 53), none, (.load 1 false), [.t 52]⟩, ⟨(some 54), none, (.len .map), [.t 53]⟩, ⟨(some 55), none, (.bin .sub .num), [.t 49, .t 54]⟩, ⟨(some 4), none, .move, [.t 55]⟩, ⟨(some 5), none, .move, [.c (.int .i64 0)]⟩] none [4, 5])
  .ret)
/-- (*duet/resend.Store).Drop -/
def c18 : AFun := ⟨2, 56, [.tmp 4, .tmp 5],
  (.seq (.region [⟨(some 4), none, .move, [.c (.int .i64 0)]⟩, ⟨(some 5), none, .move, [.c (.int .i64 0)]⟩] none [0, 1])
  (.seq (.seq (.region [⟨(some 8), none, .move, [.t 0]⟩, ⟨(some 9), none, (.bin .eql .ptr), [.t 8, .c .nilp]⟩, ⟨(some 10), none, .move, [.t 9]⟩, ⟨(some 11), (some (10, false)), .move, [.t 1]⟩, ⟨(some 12), (some (10, false)), .call, [.c (.fn (.func 46) [] []), .t 11]⟩, ⟨(some 13), (some (10, false)), (.bin .neq .num), [.t 12, .c (.int .i64 0)]⟩, ⟨(some 14), none, .pick, [.t 10, .c (.bool true), .t 13]⟩, ⟨(some 15), none, .move, [.t 14]⟩, ⟨(some 16), (some (15, false)), .move, [.t 1]⟩, ⟨(some 17), (some (15, false)), (.len .slice), [.t 16]⟩, ⟨(some 18), (some (15, false)), .move, [.t 0]⟩, ⟨(some 19), (some (15, false)), .nilCheck, [.t 18]⟩, ⟨(some 20), (some (15, false)), (.fieldAddr 0), [.t 19]⟩, ⟨(some 21), (some (15, false)), (.load 1 false), [.t 20]⟩, ⟨(some 22), (some (15, false)), (.bin .neq .num), [.t 17, .t 21]⟩, ⟨(some 23), none, .pick, [.t 15, .c (.bool true), .t 22]⟩] none [0, 1, 23])
  (.cond (.t 23) (.seq (.region [⟨(some 4), none, .move, [.c (.int .i64 0)]⟩, ⟨(some 5), none, .move, [.c (.int .i64 1)]⟩] none [4, 5])
  .ret)
  .skip))
  (.seq (.region [⟨(some 24), none, .move, [.t 0]⟩, ⟨(some 25), none, .nilCheck, [.t 24]⟩, ⟨(some 26), none, (.fieldAddr 2), [.t 25]⟩, ⟨(some 27), none, (.load 1 false), [.t 26]⟩, ⟨(some 28), none, (.len .map), [.t 27]⟩, ⟨(some 6), none, .move, [.t 28]⟩] none [0, 1, 6])
  (.seq (.seq (.region [⟨(some 29), none, .move, [.t 0]⟩, ⟨(some 30), none, .nilCheck, [.t 29]⟩, ⟨(some 31), none, (.fieldAddr 2), [.t 30]⟩, ⟨(some 32), none, (.load 1 false), [.t 31]⟩, ⟨(some 33), none, .mrange, [.t 32]⟩] none [0, 1, 6, 33])
  (.block 0 l18_1)) r18_2))))⟩
theorem ok18 : FunOk Try.prog 18 c18 := ⟨⟨Try.f18, _, Try.func18, rfl, by kernel_rfl, by kernel_rfl, by kernel_rfl, by kernel_rfl⟩, by decide⟩
theorem res18 : c18.res = [.tmp 4, .tmp 5] := rfl
def q18_0 (P : Program) (p : Lab) (Q : VPost) : VPost := (vblockQ 0 (vseqQ (vc P p r18_2 Q) Q))
theorem q18_0_ret (P : Program) (p : Lab) (Q : VPost) (r : RL) (H : Heap) (c : Nat) : q18_0 P p Q .ret r H c = Q .ret r H c := rfl
def V18 (P : Program) (p : Lab) (Q : VPost) (x0 x1 : AV) (H : Heap) (c : Nat) : Prop :=
  vBin .eql .ptr x0 .nilp fun v9_3 =>
  vSel v9_3
  (Q .ret [(4, (.int .i64 0)), (5, (.int .i64 1))] H (c + 20))
  (vCall P 46 [x1] H ((c + 6) :: p) fun v12_11 H11 _ _ =>
  vBin .neq .num v12_11 (.int .i64 0) fun v13_12 =>
  vSel v13_12
  (Q .ret [(4, (.int .i64 0)), (5, (.int .i64 1))] H11 (c + 20))
  (vLen x1 fun v17_19 =>
  vNil x0 fun v19_21 =>
  vFA 0 v19_21 fun v20_22 =>
  vLoad 1 false v20_22 H11 fun v21_23 _ =>
  vBin .neq .num v17_19 v21_23 fun v22_24 =>
  vSel v22_24
  (Q .ret [(4, (.int .i64 0)), (5, (.int .i64 1))] H11 (c + 20))
  (vNil x0 fun v25_29 =>
  vFA 2 v25_29 fun v26_30 =>
  vLoad 1 false v26_30 H11 fun v27_31 _ =>
  vGen (.len .map) [v27_31] H11 ((c + 22) :: p) fun v28_32 H32 _ _ =>
  vNil x0 fun v30_35 =>
  vFA 2 v30_35 fun v31_36 =>
  vLoad 1 false v31_36 H32 fun v32_37 _ =>
  vGen .mrange [v32_37] H32 ((c + 28) :: p) fun v33_38 H38 _ _ =>
  vc P p l18_1 (q18_0 P p Q) [(0, x0), (1, x1), (6, v28_32), (33, v33_38)] H38 (c + 29))))
theorem vt18 (P : Program) (p : Lab) (Q : VPost) (x0 x1 : AV) (H : Heap) (c : Nat) : vc P p c18.body Q [(0, x0), (1, x1)] H c = V18 P p Q x0 x1 H c := by kernel_rfl
def V18_1 (P : Program) (p : Lab) (Q : VPost) (x0 x1 x6 x33 : AV) (H : Heap) (c : Nat) : Prop :=
  vGen .mnext [x33] H (c :: p) fun v34_39 H39 _ _ =>
  vExt 0 v34_39 fun v35_40 =>
  vSel v35_40
  (vGen .mentry [x33] H39 ((c + 2) :: p) fun v36_41 H41 _ _ =>
  vExt 0 v36_41 fun v37_42 =>
  (fun (H43 : Heap) =>
  vGen (.store 2) [(.ptr ((c + 4) :: p) 2 0 0), v37_42] H43 ((c + 5) :: p) fun v_44 H44 _ _ =>
  vFA 0 (.ptr ((c + 4) :: p) 2 0 0) fun v39_46 =>
  vLoad 1 false v39_46 H44 fun v40_47 _ =>
  vFA 1 (.ptr ((c + 4) :: p) 2 0 0) fun v41_48 =>
  vLoad 1 false v41_48 H44 fun v42_49 _ =>
  vCall P 47 [x1, v40_47, v42_49] H44 ((c + 11) :: p) fun v43_50 H50 _ _ =>
  vSel v43_50
  (vNil x0 fun v45_52 =>
  vFA 2 v45_52 fun v46_53 =>
  vLoad 1 false v46_53 H50 fun v47_54 f54 =>
  vLoad 2 true (.ptr ((c + 4) :: p) 2 0 0) H50 fun v48_55 f55 =>
  vGen (.delete true [.int, .int]) [v47_54, v48_55] H50 ((c + 17) :: p) fun v_56 H56 l56 f56 =>
  clashFree [0, 1, 3, 7, 0, 31] [⟨[], ((c + 12) :: p), some []⟩, ⟨[], ((c + 13) :: p), some []⟩, ⟨[], ((c + 14) :: p), some []⟩, ⟨[], ((c + 15) :: p), f54⟩, ⟨[], ((c + 16) :: p), f55⟩, ⟨l56, ((c + 17) :: p), f56⟩] ∧
  Q .normal [(0, x0), (1, x1), (6, x6), (33, x33)] H56 (c + 18))
  (Q .normal [(0, x0), (1, x1), (6, x6), (7, (.ptr ((c + 4) :: p) 2 0 0)), (33, x33), (43, v43_50)] H50 (c + 12))) (upd [(((c + 4) :: p), some (.rows 2 [[(.int .i64 0), (.int .i64 0)]]))] H41))
  (Q (.exit 0) [(0, x0), (1, x1), (6, x6), (33, x33), (35, v35_40)] H39 (c + 2))
theorem vt18_1 (P : Program) (p : Lab) (Q : VPost) (x0 x1 x6 x33 : AV) (H : Heap) (c : Nat) : vc P p b18_1 Q [(0, x0), (1, x1), (6, x6), (33, x33)] H c = V18_1 P p Q x0 x1 x6 x33 H c := by kernel_rfl
theorem q18_0_e0 (P : Program) (p : Lab) (Q : VPost) (r : RL) (H : Heap) (c : Nat) : q18_0 P p Q (.exit 0) r H c = (vc P p r18_2 Q r H c) := rfl
def V18_2 (P : Program) (p : Lab) (Q : VPost) (x0 x1 x6 x33 x35 : AV) (H : Heap) (c : Nat) : Prop :=
  vNil x0 fun v51_59 =>
  vFA 2 v51_59 fun v52_60 =>
  vLoad 1 false v52_60 H fun v53_61 _ =>
  vGen (.len .map) [v53_61] H ((c + 5) :: p) fun v54_62 H62 _ _ =>
  vBin .sub .num x6 v54_62 fun v55_63 =>
  Q .ret [(4, v55_63), (5, (.int .i64 0))] H62 (c + 9)
theorem vt18_2 (P : Program) (p : Lab) (Q : VPost) (x0 x1 x6 x33 x35 : AV) (H : Heap) (c : Nat) : vc P p r18_2 Q [(0, x0), (1, x1), (6, x6), (33, x33), (35, x35)] H c = V18_2 P p Q x0 x1 x6 x33 x35 H c := by kernel_rfl

def b19_1 : ACode := (.seq (.seq (.region [⟨(some 21), none, .move, [.t 7]⟩, ⟨(some 22), none, .move, [.t 0]⟩, ⟨(some 23), none, .nilCheck, [.t 22]⟩, ⟨(some 24), none, (.fieldAddr 2), [.t 23]⟩, ⟨(some 25), none, (.load 1 false), [.t 24]⟩, ⟨(some 26), none, (.len .slice), [.t 25]⟩, ⟨(some 27), none, (.bin .lss .num), [.t 21, .t 26]⟩] none [0, 1, 6, 7, 27])
  (.cond (.t 27) .skip
  (.exit 0)))
  (.seq (.block 1 (.seq (.region [⟨(some 30), none, .move, [.t 1]⟩, ⟨(some 31), none, .move, [.t 0]⟩, ⟨(some 32), none, .nilCheck, [.t 31]⟩, ⟨(some 33), none, (.fieldAddr 2), [.t 32]⟩, ⟨(some 34), none, (.load 1 false), [.t 33]⟩, ⟨(some 35), none, .move, [.t 7]⟩, ⟨(some 36), none, (.indexAddr 10), [.t 34, .t 35]⟩, ⟨(some 37), none, (.fieldAddr 0), [.t 36]⟩, ⟨(some 38), none, (.load 1 false), [.t 37]⟩, ⟨(some 39), none, .move, [.t 0]⟩, ⟨(some 40), none, .nilCheck, [.t 39]⟩, ⟨(some 41), none, (.fieldAddr 2), [.t 40]⟩, ⟨(some 42), none, (.load 1 false), [.t 41]⟩, ⟨(some 43), none, .move, [.t 7]⟩, ⟨(some 44), none, (.indexAddr 10), [.t 42, .t 43]⟩, ⟨(some 45), none, (.fieldAddr 1), [.t 44]⟩, ⟨(some 46), none, (.load 1 false), [.t 45]⟩, ⟨(some 47), none, .call, [.c (.fn (.func 49) [] []), .t 30, .t 38, .t 46]⟩, ⟨(some 48), none, (.un .not), [.t 47]⟩] (some [0, 0, 2, 6, 14, 0, 62, 126, 254, 0, 512, 1536, 3584, 0, 15872, 32256, 65024, 131071, 262143]) [0, 1, 6, 7, 48])
  (.cond (.t 48) (.region [⟨(some 49), none, .move, [.t 6]⟩, ⟨(some 50), none, .move, [.t 0]⟩, ⟨(some 51), none, .nilCheck, [.t 50]⟩, ⟨(some 52), none, (.fieldAddr 2), [.t 51]⟩, ⟨(some 53), none, (.load 1 false), [.t 52]⟩, ⟨(some 54), none, .move, [.t 7]⟩, ⟨(some 55), none, (.indexAddr 10), [.t 53, .t 54]⟩, ⟨(some 56), none, (.load 10 true), [.t 55]⟩, ⟨(some 57), none, (.buildSlice 10 [(.int .i64 0), (.int .i64 0), .nils, (.int .i64 0), (.int .i64 0), (.int .i64 0), (.int .i64 0), (.int .i64 0), (.int .i64 0), (.int .i64 0)] [(0, 10)]), [.t 56]⟩, ⟨(some 58), none, (.append 10 96), [.t 49, .t 57]⟩, ⟨(some 6), none, .move, [.t 58]⟩] none [0, 1, 6, 7])
  .skip)))
  (.region [⟨(some 28), none, .move, [.t 7]⟩, ⟨(some 29), none, (.bin .add .num), [.t 28, .c (.int .i64 1)]⟩, ⟨(some 7), none, .move, [.t 29]⟩] none [0, 1, 6, 7])))
def l19_1 : ACode := .loop [0, 1, 6, 7] b19_1
def r19_2 : ACode := (.seq (.region [⟨(some 59), none, .move, [.t 0]⟩, ⟨(some 60), none, .nilCheck, [.t 59]⟩, ⟨(some 61), none, (.fieldAddr 2), [.t 60]⟩, ⟨(some 62), none, (.load 1 false), [.t 61]⟩, ⟨(some 63), none, (.len .slice), [.t 62]⟩, ⟨(some 64), none, .move, [.t 6]⟩, ⟨(some 65), none, (.len .slice), [.t 64]⟩, ⟨(some 66), none, (.bin .sub .num), [.t 63, .t 65]⟩, ⟨(some 8), none, .move, [.t 66]⟩] none [0, 6, 8])
  (.seq (.region [⟨(some 67), none, .move, [.t 0]⟩, ⟨(some 68), none, .move, [.t 6]⟩, ⟨(some 69), none, .nilCheck, [.t 67]⟩, ⟨(some 70), none, (.fieldAddr 2), [.t 69]⟩, ⟨none, none, (.store 1), [.t 70, .t 68]⟩] none [8])
  (.seq (.region [⟨(some 71), none, .move, [.t 8]⟩, ⟨(some 4), none, .move, [.t 71]⟩, ⟨(some 5), none, .move, [.c (.int .i64 0)]⟩] none [4, 5])
  .ret)))
/-- (*duet/duetref08.Store).Drop -/
def c19 : AFun := ⟨2, 72, [.tmp 4, .tmp 5],
  (.seq (.region [⟨(some 4), none, .move, [.c (.int .i64 0)]⟩, ⟨(some 5), none, .move, [.c (.int .i64 0)]⟩] none [0, 1])
  (.seq (.seq (.region [⟨(some 9), none, .move, [.t 1]⟩, ⟨(some 10), none, .call, [.c (.fn (.func 48) [] []), .t 9]⟩, ⟨(some 11), none, (.un .not), [.t 10]⟩, ⟨(some 12), none, .move, [.t 11]⟩, ⟨(some 13), (some (12, false)), .move, [.t 1]⟩, ⟨(some 14), (some (12, false)), (.len .slice), [.t 13]⟩, ⟨(some 15), (some (12, false)), .move, [.t 0]⟩, ⟨(some 16), (some (12, false)), .nilCheck, [.t 15]⟩, ⟨(some 17), (some (12, false)), (.fieldAddr 0), [.t 16]⟩, ⟨(some 18), (some (12, false)), (.load 1 false), [.t 17]⟩, ⟨(some 19), (some (12, false)), (.bin .neq .num), [.t 14, .t 18]⟩, ⟨(some 20), none, .pick, [.t 12, .c (.bool true), .t 19]⟩] none [0, 1, 20])
  (.cond (.t 20) (.seq (.region [⟨(some 4), none, .move, [.c (.int .i64 0)]⟩, ⟨(some 5), none, .move, [.c (.int .i64 1)]⟩] none [4, 5])
  .ret)
  .skip))
  (.seq (.region [⟨(some 6), none, .move, [.c .nils]⟩] none [0, 1, 6])
  (.seq (.seq (.region [⟨(some 7), none, .move, [.c (.int .i64 0)]⟩] none [0, 1, 6, 7])
  (.block 0 l19_1)) r19_2))))⟩
theorem ok19 : FunOk Try.prog 19 c19 := ⟨⟨Try.f19, _, Try.func19, rfl, by kernel_rfl, by kernel_rfl, by kernel_rfl, by kernel_rfl⟩, by decide⟩
theorem res19 : c19.res = [.tmp 4, .tmp 5] := rfl
def q19_0 (P : Program) (p : Lab) (Q : VPost) : VPost := (vblockQ 0 (vseqQ (vc P p r19_2 Q) Q))
theorem q19_0_ret (P : Program) (p : Lab) (Q : VPost) (r : RL) (H : Heap) (c : Nat) : q19_0 P p Q .ret r H c = Q .ret r H c := rfl
def V19 (P : Program) (p : Lab) (Q : VPost) (x0 x1 : AV) (H : Heap) (c : Nat) : Prop :=
  vCall P 48 [x1] H ((c + 3) :: p) fun v10_3 H3 _ _ =>
  vNot v10_3 fun v11_4 =>
  vSel v11_4
  (Q .ret [(4, (.int .i64 0)), (5, (.int .i64 1))] H3 (c + 16))
  (vLen x1 fun v14_10 =>
  vNil x0 fun v16_12 =>
  vFA 0 v16_12 fun v17_13 =>
  vLoad 1 false v17_13 H3 fun v18_14 _ =>
  vBin .neq .num v14_10 v18_14 fun v19_15 =>
  vSel v19_15
  (Q .ret [(4, (.int .i64 0)), (5, (.int .i64 1))] H3 (c + 16))
  (vc P p l19_1 (q19_0 P p Q) [(0, x0), (1, x1), (6, .nils), (7, (.int .i64 0))] H3 (c + 16)))
theorem vt19 (P : Program) (p : Lab) (Q : VPost) (x0 x1 : AV) (H : Heap) (c : Nat) : vc P p c19.body Q [(0, x0), (1, x1)] H c = V19 P p Q x0 x1 H c := by kernel_rfl
def V19_1 (P : Program) (p : Lab) (Q : VPost) (x0 x1 x6 x7 : AV) (H : Heap) (c : Nat) : Prop :=
  vNil x0 fun v23_23 =>
  vFA 2 v23_23 fun v24_24 =>
  vLoad 1 false v24_24 H fun v25_25 _ =>
  vLen v25_25 fun v26_26 =>
  vBin .lss .num x7 v26_26 fun v27_27 =>
  vSel v27_27
  (vNil x0 fun v32_30 =>
  vFA 2 v32_30 fun v33_31 =>
  vLoad 1 false v33_31 H fun v34_32 f32 =>
  vIx 10 v34_32 x7 fun v36_34 =>
  vFA 0 v36_34 fun v37_35 =>
  vLoad 1 false v37_35 H fun v38_36 f36 =>
  vNil x0 fun v40_38 =>
  vFA 2 v40_38 fun v41_39 =>
  vLoad 1 false v41_39 H fun v42_40 f40 =>
  vIx 10 v42_40 x7 fun v44_42 =>
  vFA 1 v44_42 fun v45_43 =>
  vLoad 1 false v45_43 H fun v46_44 f44 =>
  vCall P 49 [x1, v38_36, v46_44] H ((c + 24) :: p) fun v47_45 H45 l45 f45 =>
  vNot v47_45 fun v48_46 =>
  clashFree [0, 0, 2, 6, 14, 0, 62, 126, 254, 0, 512, 1536, 3584, 0, 15872, 32256, 65024, 131071, 262143] [⟨[], ((c + 7) :: p), some []⟩, ⟨[], ((c + 8) :: p), some []⟩, ⟨[], ((c + 9) :: p), some []⟩, ⟨[], ((c + 10) :: p), some []⟩, ⟨[], ((c + 11) :: p), f32⟩, ⟨[], ((c + 12) :: p), some []⟩, ⟨[], ((c + 13) :: p), some []⟩, ⟨[], ((c + 14) :: p), some []⟩, ⟨[], ((c + 15) :: p), f36⟩, ⟨[], ((c + 16) :: p), some []⟩, ⟨[], ((c + 17) :: p), some []⟩, ⟨[], ((c + 18) :: p), some []⟩, ⟨[], ((c + 19) :: p), f40⟩, ⟨[], ((c + 20) :: p), some []⟩, ⟨[], ((c + 21) :: p), some []⟩, ⟨[], ((c + 22) :: p), some []⟩, ⟨[], ((c + 23) :: p), f44⟩, ⟨l45, ((c + 24) :: p), f45⟩, ⟨[], ((c + 25) :: p), some []⟩] ∧
  vSel v48_46
  (vNil x0 fun v51_49 =>
  vFA 2 v51_49 fun v52_50 =>
  vLoad 1 false v52_50 H45 fun v53_51 _ =>
  vIx 10 v53_51 x7 fun v55_53 =>
  vLoad 10 true v55_53 H45 fun v56_54 _ =>
  vBuildS 10 [(.int .i64 0), (.int .i64 0), .nils, (.int .i64 0), (.int .i64 0), (.int .i64 0), (.int .i64 0), (.int .i64 0), (.int .i64 0), (.int .i64 0)] [(0, 10)] [v56_54] fun w55 n55 =>
  (fun (H55 : Heap) =>
  vGen (.append 10 96) [x6, (.sl ((c + 34) :: p) 10 0 n55)] H55 ((c + 35) :: p) fun v58_56 H56 _ _ =>
  vBin .add .num x7 (.int .i64 1) fun v29_59 =>
  Q .normal [(0, x0), (1, x1), (6, v58_56), (7, v29_59)] H56 (c + 40)) (upd [(((c + 34) :: p), some (.rows 10 w55))] H45))
  (vBin .add .num x7 (.int .i64 1) fun v29_62 =>
  Q .normal [(0, x0), (1, x1), (6, x6), (7, v29_62)] H45 (c + 29)))
  (Q (.exit 0) [(0, x0), (1, x1), (6, x6), (7, x7), (27, v27_27)] H (c + 7))
theorem vt19_1 (P : Program) (p : Lab) (Q : VPost) (x0 x1 x6 x7 : AV) (H : Heap) (c : Nat) : vc P p b19_1 Q [(0, x0), (1, x1), (6, x6), (7, x7)] H c = V19_1 P p Q x0 x1 x6 x7 H c := by kernel_rfl
theorem q19_0_e0 (P : Program) (p : Lab) (Q : VPost) (r : RL) (H : Heap) (c : Nat) : q19_0 P p Q (.exit 0) r H c = (vc P p r19_2 Q r H c) := rfl
def V19_2 (P : Program) (p : Lab) (Q : VPost) (x0 x1 x6 x7 x27 : AV) (H : Heap) (c : Nat) : Prop :=
  vNil x0 fun v60_65 =>
  vFA 2 v60_65 fun v61_66 =>
  vLoad 1 false v61_66 H fun v62_67 _ =>
  vLen v62_67 fun v63_68 =>
  vLen x6 fun v65_70 =>
  vBin .sub .num v63_68 v65_70 fun v66_71 =>
  vNil x0 fun v69_75 =>
  vFA 2 v69_75 fun v70_76 =>
  vGen (.store 1) [v70_76, x6] H ((c + 13) :: p) fun v_77 H77 _ _ =>
  Q .ret [(4, v66_71), (5, (.int .i64 0))] H77 (c + 17)
theorem vt19_2 (P : Program) (p : Lab) (Q : VPost) (x0 x1 x6 x7 x27 : AV) (H : Heap) (c : Nat) : vc P p r19_2 Q [(0, x0), (1, x1), (6, x6), (7, x7), (27, x27)] H c = V19_2 P p Q x0 x1 x6 x7 x27 H c := by kernel_rfl


/-- (*duet/resend.Store).Get -/
def c20 : AFun := ⟨2, 23, [.cell 4 10 true, .tmp 5],
  (.seq (.region [⟨(some 3), none, .box, [.t 1]⟩, ⟨(some 4), none, (.alloc [(.int .i64 0), (.int .i64 0), .nils, (.int .i64 0), (.int .i64 0), (.int .i64 0), (.int .i64 0), (.int .i64 0), (.int .i64 0), (.int .i64 0)]), []⟩, ⟨(some 5), none, .move, [.c (.bool false)]⟩] none [0, 3, 4])
  (.seq (.seq (.region [⟨(some 8), none, .move, [.t 0]⟩, ⟨(some 9), none, (.bin .eql .ptr), [.t 8, .c .nilp]⟩] none [0, 3, 4, 9])
  (.cond (.t 9) (.seq (.region [⟨(some 10), none, (.build [(.int .i64 0), (.int .i64 0), .nils, (.int .i64 0), (.int .i64 0), (.int .i64 0), (.int .i64 0), (.int .i64 0), (.int .i64 0), (.int .i64 0)] []), []⟩, ⟨none, none, (.store 10), [.t 4, .t 10]⟩, ⟨(some 5), none, .move, [.c (.bool false)]⟩] none [4, 5])
  .ret)
  .skip))
  (.seq (.region [⟨(some 12), none, .move, [.t 0]⟩, ⟨(some 13), none, .nilCheck, [.t 12]⟩, ⟨(some 14), none, (.fieldAddr 2), [.t 13]⟩, ⟨(some 15), none, (.load 1 false), [.t 14]⟩, ⟨(some 16), none, (.load 2 true), [.t 3]⟩, ⟨(some 17), none, (.lookup true [.int, .int] (.agg [(.int .i64 0), (.int .i64 0), .nils, (.int .i64 0), (.int .i64 0), (.int .i64 0), (.int .i64 0), (.int .i64 0), (.int .i64 0), (.int .i64 0)]) true), [.t 15, .t 16]⟩, ⟨(some 11), none, .move, [.t 17]⟩, ⟨(some 18), none, (.extract 0), [.t 11]⟩, ⟨(some 19), none, (.extract 1), [.t 11]⟩, ⟨(some 6), none, (.alloc [(.int .i64 0), (.int .i64 0), .nils, (.int .i64 0), (.int .i64 0), (.int .i64 0), (.int .i64 0), (.int .i64 0), (.int .i64 0), (.int .i64 0)]), []⟩, ⟨none, none, (.store 10), [.t 6, .t 18]⟩, ⟨(some 7), none, .move, [.t 19]⟩] (some [0, 1, 3, 7, 0, 31, 63, 127, 127, 0, 767, 2047]) [4, 6, 7])
  (.seq (.region [⟨(some 20), none, (.load 10 true), [.t 6]⟩, ⟨(some 21), none, .call, [.c (.fn (.func 44) [] []), .t 20]⟩, ⟨(some 22), none, .move, [.t 7]⟩, ⟨none, none, (.store 10), [.t 4, .t 21]⟩, ⟨(some 5), none, .move, [.t 22]⟩] none [4, 5])
  .ret))))⟩
theorem ok20 : FunOk Try.prog 20 c20 := ⟨⟨Try.f20, _, Try.func20, rfl, by kernel_rfl, by kernel_rfl, by kernel_rfl, by kernel_rfl⟩, by decide⟩
theorem res20 : c20.res = [.cell 4 10 true, .tmp 5] := rfl
def V20 (P : Program) (p : Lab) (Q : VPost) (x0 x1 : AV) (H : Heap) (c : Nat) : Prop :=
  vBox x1 fun w0 =>
  (fun (H0 : Heap) =>
  (fun (H1 : Heap) =>
  vBin .eql .ptr x0 .nilp fun v9_4 =>
  vSel v9_4
  (vBuild [(.int .i64 0), (.int .i64 0), .nils, (.int .i64 0), (.int .i64 0), (.int .i64 0), (.int .i64 0), (.int .i64 0), (.int .i64 0), (.int .i64 0)] [] [] fun v10_5 =>
  vGen (.store 10) [(.ptr ((c + 1) :: p) 10 0 0), v10_5] H1 ((c + 6) :: p) fun v_6 H6 _ _ =>
  Q .ret [(4, (.ptr ((c + 1) :: p) 10 0 0)), (5, (.bool false))] H6 (c + 8))
  (vNil x0 fun v13_9 =>
  vFA 2 v13_9 fun v14_10 =>
  vLoad 1 false v14_10 H1 fun v15_11 f11 =>
  vLoad 2 true (.ptr (c :: p) w0.length 0 0) H1 fun v16_12 f12 =>
  vGen (.lookup true [.int, .int] (.agg [(.int .i64 0), (.int .i64 0), .nils, (.int .i64 0), (.int .i64 0), (.int .i64 0), (.int .i64 0), (.int .i64 0), (.int .i64 0), (.int .i64 0)]) true) [v15_11, v16_12] H1 ((c + 10) :: p) fun v17_13 H13 l13 f13 =>
  vExt 0 v17_13 fun v18_15 =>
  vExt 1 v17_13 fun v19_16 =>
  (fun (H17 : Heap) =>
  vGen (.store 10) [(.ptr ((c + 14) :: p) 10 0 0), v18_15] H17 ((c + 15) :: p) fun v_18 H18 l18 f18 =>
  clashFree [0, 1, 3, 7, 0, 31, 63, 127, 127, 0, 767, 2047] [⟨[], ((c + 5) :: p), some []⟩, ⟨[], ((c + 6) :: p), some []⟩, ⟨[], ((c + 7) :: p), some []⟩, ⟨[], ((c + 8) :: p), f11⟩, ⟨[], ((c + 9) :: p), f12⟩, ⟨l13, ((c + 10) :: p), f13⟩, ⟨[], ((c + 11) :: p), some []⟩, ⟨[], ((c + 12) :: p), some []⟩, ⟨[], ((c + 13) :: p), some []⟩, ⟨[((c + 14) :: p)], ((c + 14) :: p), some []⟩, ⟨l18, ((c + 15) :: p), f18⟩, ⟨[], ((c + 16) :: p), some []⟩] ∧
  vLoad 10 true (.ptr ((c + 14) :: p) 10 0 0) H18 fun v20_20 _ =>
  vCall P 44 [v20_20] H18 ((c + 18) :: p) fun v21_21 H21 _ _ =>
  vGen (.store 10) [(.ptr ((c + 1) :: p) 10 0 0), v21_21] H21 ((c + 20) :: p) fun v_23 H23 _ _ =>
  Q .ret [(4, (.ptr ((c + 1) :: p) 10 0 0)), (5, v19_16)] H23 (c + 22)) (upd [(((c + 14) :: p), some (.rows 10 [[(.int .i64 0), (.int .i64 0), .nils, (.int .i64 0), (.int .i64 0), (.int .i64 0), (.int .i64 0), (.int .i64 0), (.int .i64 0), (.int .i64 0)]]))] H13))) (upd [(((c + 1) :: p), some (.rows 10 [[(.int .i64 0), (.int .i64 0), .nils, (.int .i64 0), (.int .i64 0), (.int .i64 0), (.int .i64 0), (.int .i64 0), (.int .i64 0), (.int .i64 0)]]))] H0)) (upd [((c :: p), some (.rows w0.length [w0]))] H)
theorem vt20 (P : Program) (p : Lab) (Q : VPost) (x0 x1 : AV) (H : Heap) (c : Nat) : vc P p c20.body Q [(0, x0), (1, x1)] H c = V20 P p Q x0 x1 H c := by kernel_rfl

def b21_1 : ACode := (.seq (.seq (.region [⟨(some 7), none, .move, [.t 6]⟩, ⟨(some 8), none, .move, [.t 0]⟩, ⟨(some 9), none, .nilCheck, [.t 8]⟩, ⟨(some 10), none, (.fieldAddr 2), [.t 9]⟩, ⟨(some 11), none, (.load 1 false), [.t 10]⟩, ⟨(some 12), none, (.len .slice), [.t 11]⟩, ⟨(some 13), none, (.bin .lss .num), [.t 7, .t 12]⟩] none [0, 3, 4, 6, 13])
  (.cond (.t 13) .skip
  (.exit 0)))
  (.seq (.block 1 (.seq (.region [⟨(some 16), none, .move, [.t 0]⟩, ⟨(some 17), none, .nilCheck, [.t 16]⟩, ⟨(some 18), none, (.fieldAddr 2), [.t 17]⟩, ⟨(some 19), none, (.load 1 false), [.t 18]⟩, ⟨(some 20), none, .move, [.t 6]⟩, ⟨(some 21), none, (.indexAddr 10), [.t 19, .t 20]⟩, ⟨(some 22), none, (.fieldAddr 0), [.t 21]⟩, ⟨(some 23), none, (.load 1 false), [.t 22]⟩, ⟨(some 24), none, (.fieldAddr 0), [.t 3]⟩, ⟨(some 25), none, (.load 1 false), [.t 24]⟩, ⟨(some 26), none, (.bin .eql .num), [.t 23, .t 25]⟩, ⟨(some 27), none, .move, [.t 26]⟩, ⟨(some 28), (some (27, true)), .move, [.t 0]⟩, ⟨(some 29), (some (27, true)), .nilCheck, [.t 28]⟩, ⟨(some 30), (some (27, true)), (.fieldAddr 2), [.t 29]⟩, ⟨(some 31), (some (27, true)), (.load 1 false), [.t 30]⟩, ⟨(some 32), (some (27, true)), .move, [.t 6]⟩, ⟨(some 33), (some (27, true)), (.indexAddr 10), [.t 31, .t 32]⟩, ⟨(some 34), (some (27, true)), (.fieldAddr 1), [.t 33]⟩, ⟨(some 35), (some (27, true)), (.load 1 false), [.t 34]⟩, ⟨(some 36), (some (27, true)), (.fieldAddr 1), [.t 3]⟩, ⟨(some 37), (some (27, true)), (.load 1 false), [.t 36]⟩, ⟨(some 38), (some (27, true)), (.bin .eql .num), [.t 35, .t 37]⟩, ⟨(some 39), none, .pick, [.t 27, .t 38, .c (.bool false)]⟩] (some [0, 1, 3, 7, 0, 31, 63, 127, 0, 256, 1023, 2047, 4095, 8191, 16383, 32767, 4095, 131071, 262143, 524287, 4095, 1052671, 4194303, 8388607]) [0, 3, 4, 6, 39])
  (.cond (.t 39) (.seq (.region [⟨(some 40), none, .move, [.t 0]⟩, ⟨(some 41), none, .nilCheck, [.t 40]⟩, ⟨(some 42), none, (.fieldAddr 2), [.t 41]⟩, ⟨(some 43), none, (.load 1 false), [.t 42]⟩, ⟨(some 44), none, .move, [.t 6]⟩, ⟨(some 45), none, (.indexAddr 10), [.t 43, .t 44]⟩, ⟨(some 46), none, (.load 10 true), [.t 45]⟩, ⟨(some 47), none, .call, [.c (.fn (.func 45) [] []), .t 46]⟩, ⟨none, none, (.store 10), [.t 4, .t 47]⟩, ⟨(some 5), none, .move, [.c (.bool true)]⟩] none [4, 5])
  .ret)
  .skip)))
  (.region [⟨(some 14), none, .move, [.t 6]⟩, ⟨(some 15), none, (.bin .add .num), [.t 14, .c (.int .i64 1)]⟩, ⟨(some 6), none, .move, [.t 15]⟩] none [0, 3, 4, 6])))
def l21_1 : ACode := .loop [0, 3, 4, 6] b21_1
def r21_2 : ACode := (.seq (.region [⟨(some 48), none, (.build [(.int .i64 0), (.int .i64 0), .nils, (.int .i64 0), (.int .i64 0), (.int .i64 0), (.int .i64 0), (.int .i64 0), (.int .i64 0), (.int .i64 0)] []), []⟩, ⟨none, none, (.store 10), [.t 4, .t 48]⟩, ⟨(some 5), none, .move, [.c (.bool false)]⟩] none [4, 5])
  .ret)
/-- (*duet/duetref08.Store).Get -/
def c21 : AFun := ⟨2, 49, [.cell 4 10 true, .tmp 5],
  (.seq (.region [⟨(some 3), none, .box, [.t 1]⟩, ⟨(some 4), none, (.alloc [(.int .i64 0), (.int .i64 0), .nils, (.int .i64 0), (.int .i64 0), (.int .i64 0), (.int .i64 0), (.int .i64 0), (.int .i64 0), (.int .i64 0)]), []⟩, ⟨(some 5), none, .move, [.c (.bool false)]⟩] none [0, 3, 4])
  (.seq (.seq (.region [⟨(some 6), none, .move, [.c (.int .i64 0)]⟩] none [0, 3, 4, 6])
  (.block 0 l21_1)) r21_2))⟩
theorem ok21 : FunOk Try.prog 21 c21 := ⟨⟨Try.f21, _, Try.func21, rfl, by kernel_rfl, by kernel_rfl, by kernel_rfl, by kernel_rfl⟩, by decide⟩
theorem res21 : c21.res = [.cell 4 10 true, .tmp 5] := rfl
def q21_0 (P : Program) (p : Lab) (Q : VPost) : VPost := (vblockQ 0 (vseqQ (vc P p r21_2 Q) Q))
theorem q21_0_ret (P : Program) (p : Lab) (Q : VPost) (r : RL) (H : Heap) (c : Nat) : q21_0 P p Q .ret r H c = Q .ret r H c := rfl
def V21 (P : Program) (p : Lab) (Q : VPost) (x0 x1 : AV) (H : Heap) (c : Nat) : Prop :=
  vBox x1 fun w0 =>
  (fun (H0 : Heap) =>
  (fun (H1 : Heap) =>
  vc P p l21_1 (q21_0 P p Q) [(0, x0), (3, (.ptr (c :: p) w0.length 0 0)), (4, (.ptr ((c + 1) :: p) 10 0 0)), (6, (.int .i64 0))] H1 (c + 4)) (upd [(((c + 1) :: p), some (.rows 10 [[(.int .i64 0), (.int .i64 0), .nils, (.int .i64 0), (.int .i64 0), (.int .i64 0), (.int .i64 0), (.int .i64 0), (.int .i64 0), (.int .i64 0)]]))] H0)) (upd [((c :: p), some (.rows w0.length [w0]))] H)
theorem vt21 (P : Program) (p : Lab) (Q : VPost) (x0 x1 : AV) (H : Heap) (c : Nat) : vc P p c21.body Q [(0, x0), (1, x1)] H c = V21 P p Q x0 x1 H c := by kernel_rfl
def V21_1 (P : Program) (p : Lab) (Q : VPost) (x0 x3 x4 x6 : AV) (H : Heap) (c : Nat) : Prop :=
  vNil x0 fun v9_6 =>
  vFA 2 v9_6 fun v10_7 =>
  vLoad 1 false v10_7 H fun v11_8 _ =>
  vLen v11_8 fun v12_9 =>
  vBin .lss .num x6 v12_9 fun v13_10 =>
  vSel v13_10
  (vNil x0 fun v17_12 =>
  vFA 2 v17_12 fun v18_13 =>
  vLoad 1 false v18_13 H fun v19_14 f14 =>
  vIx 10 v19_14 x6 fun v21_16 =>
  vFA 0 v21_16 fun v22_17 =>
  vLoad 1 false v22_17 H fun v23_18 f18 =>
  vFA 0 x3 fun v24_19 =>
  vLoad 1 false v24_19 H fun v25_20 f20 =>
  vBin .eql .num v23_18 v25_20 fun v26_21 =>
  vSel v26_21
  (vNil x0 fun v29_24 =>
  vFA 2 v29_24 fun v30_25 =>
  vLoad 1 false v30_25 H fun v31_26 f26 =>
  vIx 10 v31_26 x6 fun v33_28 =>
  vFA 1 v33_28 fun v34_29 =>
  vLoad 1 false v34_29 H fun v35_30 f30 =>
  vFA 1 x3 fun v36_31 =>
  vLoad 1 false v36_31 H fun v37_32 f32 =>
  vBin .eql .num v35_30 v37_32 fun v38_33 =>
  clashFree [0, 1, 3, 7, 0, 31, 63, 127, 0, 256, 1023, 2047, 4095, 8191, 16383, 32767, 4095, 131071, 262143, 524287, 4095, 1052671, 4194303, 8388607] [⟨[], ((c + 7) :: p), some []⟩, ⟨[], ((c + 8) :: p), some []⟩, ⟨[], ((c + 9) :: p), some []⟩, ⟨[], ((c + 10) :: p), f14⟩, ⟨[], ((c + 11) :: p), some []⟩, ⟨[], ((c + 12) :: p), some []⟩, ⟨[], ((c + 13) :: p), some []⟩, ⟨[], ((c + 14) :: p), f18⟩, ⟨[], ((c + 15) :: p), some []⟩, ⟨[], ((c + 16) :: p), f20⟩, ⟨[], ((c + 17) :: p), some []⟩, ⟨[], ((c + 18) :: p), some []⟩, ⟨[], ((c + 19) :: p), some []⟩, ⟨[], ((c + 20) :: p), some []⟩, ⟨[], ((c + 21) :: p), some []⟩, ⟨[], ((c + 22) :: p), f26⟩, ⟨[], ((c + 23) :: p), some []⟩, ⟨[], ((c + 24) :: p), some []⟩, ⟨[], ((c + 25) :: p), some []⟩, ⟨[], ((c + 26) :: p), f30⟩, ⟨[], ((c + 27) :: p), some []⟩, ⟨[], ((c + 28) :: p), f32⟩, ⟨[], ((c + 29) :: p), some []⟩, ⟨[], ((c + 30) :: p), some []⟩] ∧
  vSel v38_33
  (vNil x0 fun v41_36 =>
  vFA 2 v41_36 fun v42_37 =>
  vLoad 1 false v42_37 H fun v43_38 _ =>
  vIx 10 v43_38 x6 fun v45_40 =>
  vLoad 10 true v45_40 H fun v46_41 _ =>
  vCall P 45 [v46_41] H ((c + 38) :: p) fun v47_42 H42 _ _ =>
  vGen (.store 10) [x4, v47_42] H42 ((c + 39) :: p) fun v_43 H43 _ _ =>
  Q .ret [(4, x4), (5, (.bool true))] H43 (c + 41))
  (vBin .add .num x6 (.int .i64 1) fun v15_46 =>
  Q .normal [(0, x0), (3, x3), (4, x4), (6, v15_46)] H (c + 34)))
  (clashFree [0, 1, 3, 7, 0, 31, 63, 127, 0, 256, 1023, 2047, 4095, 8191, 16383, 32767, 4095, 131071, 262143, 524287, 4095, 1052671, 4194303, 8388607] [⟨[], ((c + 7) :: p), some []⟩, ⟨[], ((c + 8) :: p), some []⟩, ⟨[], ((c + 9) :: p), some []⟩, ⟨[], ((c + 10) :: p), f14⟩, ⟨[], ((c + 11) :: p), some []⟩, ⟨[], ((c + 12) :: p), some []⟩, ⟨[], ((c + 13) :: p), some []⟩, ⟨[], ((c + 14) :: p), f18⟩, ⟨[], ((c + 15) :: p), some []⟩, ⟨[], ((c + 16) :: p), f20⟩, ⟨[], ((c + 17) :: p), some []⟩, ⟨[], ((c + 18) :: p), some []⟩, ⟨[], ((c + 19) :: p), some []⟩, ⟨[], ((c + 20) :: p), some []⟩, ⟨[], ((c + 21) :: p), some []⟩, ⟨[], ((c + 22) :: p), some []⟩, ⟨[], ((c + 23) :: p), some []⟩, ⟨[], ((c + 24) :: p), some []⟩, ⟨[], ((c + 25) :: p), some []⟩, ⟨[], ((c + 26) :: p), some []⟩, ⟨[], ((c + 27) :: p), some []⟩, ⟨[], ((c + 28) :: p), some []⟩, ⟨[], ((c + 29) :: p), some []⟩, ⟨[], ((c + 30) :: p), some []⟩] ∧
  vBin .add .num x6 (.int .i64 1) fun v15_50 =>
  Q .normal [(0, x0), (3, x3), (4, x4), (6, v15_50)] H (c + 34)))
  (Q (.exit 0) [(0, x0), (3, x3), (4, x4), (6, x6), (13, v13_10)] H (c + 7))
theorem vt21_1 (P : Program) (p : Lab) (Q : VPost) (x0 x3 x4 x6 : AV) (H : Heap) (c : Nat) : vc P p b21_1 Q [(0, x0), (3, x3), (4, x4), (6, x6)] H c = V21_1 P p Q x0 x3 x4 x6 H c := by kernel_rfl
theorem q21_0_e0 (P : Program) (p : Lab) (Q : VPost) (r : RL) (H : Heap) (c : Nat) : q21_0 P p Q (.exit 0) r H c = (vc P p r21_2 Q r H c) := rfl
def V21_2 (P : Program) (p : Lab) (Q : VPost) (x0 x3 x4 x6 x13 : AV) (H : Heap) (c : Nat) : Prop :=
  vBuild [(.int .i64 0), (.int .i64 0), .nils, (.int .i64 0), (.int .i64 0), (.int .i64 0), (.int .i64 0), (.int .i64 0), (.int .i64 0), (.int .i64 0)] [] [] fun v48_52 =>
  vGen (.store 10) [x4, v48_52] H ((c + 1) :: p) fun v_53 H53 _ _ =>
  Q .ret [(4, x4), (5, (.bool false))] H53 (c + 3)
theorem vt21_2 (P : Program) (p : Lab) (Q : VPost) (x0 x3 x4 x6 x13 : AV) (H : Heap) (c : Nat) : vc P p r21_2 Q [(0, x0), (3, x3), (4, x4), (6, x6), (13, x13)] H c = V21_2 P p Q x0 x3 x4 x6 x13 H c := by kernel_rfl


/-- duet/duetref04.Same -/
def c22 : AFun := ⟨2, 31, [.tmp 4],
  (.seq (.region [⟨(some 2), none, .box, [.t 0]⟩, ⟨(some 3), none, .box, [.t 1]⟩, ⟨(some 4), none, .move, [.c (.bool false)]⟩] none [2, 3])
  (.seq (.region [⟨(some 5), none, (.fieldAddr 0), [.t 2]⟩, ⟨(some 6), none, (.load 1 false), [.t 5]⟩, ⟨(some 7), none, (.fieldAddr 0), [.t 3]⟩, ⟨(some 8), none, (.load 1 false), [.t 7]⟩, ⟨(some 9), none, (.bin .eql .num), [.t 6, .t 8]⟩, ⟨(some 10), none, .move, [.t 9]⟩, ⟨(some 11), (some (10, true)), (.fieldAddr 1), [.t 2]⟩, ⟨(some 12), (some (10, true)), (.load 1 false), [.t 11]⟩, ⟨(some 13), (some (10, true)), (.fieldAddr 1), [.t 3]⟩, ⟨(some 14), (some (10, true)), (.load 1 false), [.t 13]⟩, ⟨(some 15), (some (10, true)), (.bin .eql .num), [.t 12, .t 14]⟩, ⟨(some 16), none, .pick, [.t 10, .t 15, .c (.bool false)]⟩, ⟨(some 17), none, .move, [.t 16]⟩, ⟨(some 18), (some (17, true)), (.fieldAddr 3), [.t 2]⟩, ⟨(some 19), (some (17, true)), (.load 7 true), [.t 18]⟩, ⟨(some 20), (some (17, true)), (.fieldAddr 3), [.t 3]⟩, ⟨(some 21), (some (17, true)), (.load 7 true), [.t 20]⟩, ⟨(some 22), (some (17, true)), (.eqs .eql [.int, .int, .int, .int, .int, .int, .int]), [.t 19, .t 21]⟩, ⟨(some 23), none, .pick, [.t 17, .t 22, .c (.bool false)]⟩, ⟨(some 24), none, .move, [.t 23]⟩, ⟨(some 25), (some (24, true)), (.fieldAddr 2), [.t 2]⟩, ⟨(some 26), (some (24, true)), (.load 1 false), [.t 25]⟩, ⟨(some 27), (some (24, true)), (.fieldAddr 2), [.t 3]⟩, ⟨(some 28), (some (24, true)), (.load 1 false), [.t 27]⟩, ⟨(some 29), (some (24, true)), .call, [.c (.fn (.func 37) [] []), .t 26, .t 28]⟩, ⟨(some 30), none, .pick, [.t 24, .t 29, .c (.bool false)]⟩, ⟨(some 4), none, .move, [.t 30]⟩] none [4])
  .ret))⟩
theorem ok22 : FunOk Try.prog 22 c22 := ⟨⟨Try.f22, _, Try.func22, rfl, by kernel_rfl, by kernel_rfl, by kernel_rfl, by kernel_rfl⟩, by decide⟩
theorem res22 : c22.res = [.tmp 4] := rfl
def V22 (P : Program) (p : Lab) (Q : VPost) (x0 x1 : AV) (H : Heap) (c : Nat) : Prop :=
  vBox x0 fun w0 =>
  (fun (H0 : Heap) =>
  vBox x1 fun w1 =>
  (fun (H1 : Heap) =>
  vFA 0 (.ptr (c :: p) w0.length 0 0) fun v5_3 =>
  vLoad 1 false v5_3 H1 fun v6_4 _ =>
  vFA 0 (.ptr ((c + 1) :: p) w1.length 0 0) fun v7_5 =>
  vLoad 1 false v7_5 H1 fun v8_6 _ =>
  vBin .eql .num v6_4 v8_6 fun v9_7 =>
  vSel v9_7
  (vFA 1 (.ptr (c :: p) w0.length 0 0) fun v11_9 =>
  vLoad 1 false v11_9 H1 fun v12_10 _ =>
  vFA 1 (.ptr ((c + 1) :: p) w1.length 0 0) fun v13_11 =>
  vLoad 1 false v13_11 H1 fun v14_12 _ =>
  vBin .eql .num v12_10 v14_12 fun v15_13 =>
  vSel v15_13
  (vFA 3 (.ptr (c :: p) w0.length 0 0) fun v18_16 =>
  vLoad 7 true v18_16 H1 fun v19_17 _ =>
  vFA 3 (.ptr ((c + 1) :: p) w1.length 0 0) fun v20_18 =>
  vLoad 7 true v20_18 H1 fun v21_19 _ =>
  vGen (.eqs .eql [.int, .int, .int, .int, .int, .int, .int]) [v19_17, v21_19] H1 ((c + 20) :: p) fun v22_20 H20 _ _ =>
  vSel v22_20
  (vFA 2 (.ptr (c :: p) w0.length 0 0) fun v25_23 =>
  vLoad 1 false v25_23 H20 fun v26_24 _ =>
  vFA 2 (.ptr ((c + 1) :: p) w1.length 0 0) fun v27_25 =>
  vLoad 1 false v27_25 H20 fun v28_26 _ =>
  vCall P 37 [v26_24, v28_26] H20 ((c + 27) :: p) fun v29_27 H27 _ _ =>
  Q .ret [(4, v29_27)] H27 (c + 30))
  (Q .ret [(4, (.bool false))] H20 (c + 30)))
  (Q .ret [(4, (.bool false))] H1 (c + 30)))
  (Q .ret [(4, (.bool false))] H1 (c + 30))) (upd [(((c + 1) :: p), some (.rows w1.length [w1]))] H0)) (upd [((c :: p), some (.rows w0.length [w0]))] H)
theorem vt22 (P : Program) (p : Lab) (Q : VPost) (x0 x1 : AV) (H : Heap) (c : Nat) : vc P p c22.body Q [(0, x0), (1, x1)] H c = V22 P p Q x0 x1 H c := by kernel_rfl


/-- (*duet/resend.Store).Len -/
def c23 : AFun := ⟨1, 10, [.tmp 2],
  (.seq (.region [⟨(some 2), none, .move, [.c (.int .i64 0)]⟩] none [0])
  (.seq (.seq (.region [⟨(some 3), none, .move, [.t 0]⟩, ⟨(some 4), none, (.bin .eql .ptr), [.t 3, .c .nilp]⟩] none [0, 4])
  (.cond (.t 4) (.seq (.region [⟨(some 2), none, .move, [.c (.int .i64 0)]⟩] none [2])
  .ret)
  .skip))
  (.seq (.region [⟨(some 5), none, .move, [.t 0]⟩, ⟨(some 6), none, .nilCheck, [.t 5]⟩, ⟨(some 7), none, (.fieldAddr 2), [.t 6]⟩, ⟨(some 8), none, (.load 1 false), [.t 7]⟩, ⟨(some 9), none, (.len .map), [.t 8]⟩, ⟨(some 2), none, .move, [.t 9]⟩] none [2])
  .ret)))⟩
theorem ok23 : FunOk Try.prog 23 c23 := ⟨⟨Try.f23, _, Try.func23, rfl, by kernel_rfl, by kernel_rfl, by kernel_rfl, by kernel_rfl⟩, by decide⟩
theorem res23 : c23.res = [.tmp 2] := rfl
def V23 (P : Program) (p : Lab) (Q : VPost) (x0 : AV) (H : Heap) (c : Nat) : Prop :=
  vBin .eql .ptr x0 .nilp fun v4_2 =>
  vSel v4_2
  (Q .ret [(2, (.int .i64 0))] H (c + 4))
  (vNil x0 fun v6_5 =>
  vFA 2 v6_5 fun v7_6 =>
  vLoad 1 false v7_6 H fun v8_7 _ =>
  vGen (.len .map) [v8_7] H ((c + 7) :: p) fun v9_8 H8 _ _ =>
  Q .ret [(2, v9_8)] H8 (c + 9))
theorem vt23 (P : Program) (p : Lab) (Q : VPost) (x0 : AV) (H : Heap) (c : Nat) : vc P p c23.body Q [(0, x0)] H c = V23 P p Q x0 H c := by kernel_rfl

def b28_1 : ACode := (.seq (.seq (.region [⟨(some 5), none, .move, [.t 4]⟩, ⟨(some 6), none, .move, [.t 0]⟩, ⟨(some 7), none, (.bin .lss .num), [.t 5, .t 6]⟩] none [0, 3, 4, 7])
  (.cond (.t 7) .skip
  (.exit 0)))
  (.seq (.block 1 (.region [⟨(some 10), none, .move, [.t 3]⟩, ⟨(some 11), none, (.buildSlice 1 [(.int .i64 0)] [(0, 1)]), [.c (.int .i64 0)]⟩, ⟨(some 12), none, (.append 1 8), [.t 10, .t 11]⟩, ⟨(some 3), none, .move, [.t 12]⟩] none [0, 3, 4]))
  (.region [⟨(some 8), none, .move, [.t 4]⟩, ⟨(some 9), none, (.bin .add .num), [.t 8, .c (.int .i64 1)]⟩, ⟨(some 4), none, .move, [.t 9]⟩] none [0, 3, 4])))
def l28_1 : ACode := .loop [0, 3, 4] b28_1
def r28_2 : ACode := (.seq (.region [⟨(some 13), none, .move, [.t 3]⟩, ⟨(some 2), none, .move, [.t 13]⟩] none [2])
  .ret)
/-- duet/duetref06.Zero -/
def c28 : AFun := ⟨1, 14, [.tmp 2],
  (.seq (.region [⟨(some 2), none, .move, [.c .nils]⟩] none [0])
  (.seq (.region [⟨(some 3), none, .move, [.c .nils]⟩] none [0, 3])
  (.seq (.seq (.region [⟨(some 4), none, .move, [.c (.int .i64 0)]⟩] none [0, 3, 4])
  (.block 0 l28_1)) r28_2)))⟩
theorem ok28 : FunOk Try.prog 28 c28 := ⟨⟨Try.f28, _, Try.func28, rfl, by kernel_rfl, by kernel_rfl, by kernel_rfl, by kernel_rfl⟩, by decide⟩
theorem res28 : c28.res = [.tmp 2] := rfl
def q28_0 (P : Program) (p : Lab) (Q : VPost) : VPost := (vblockQ 0 (vseqQ (vc P p r28_2 Q) Q))
theorem q28_0_ret (P : Program) (p : Lab) (Q : VPost) (r : RL) (H : Heap) (c : Nat) : q28_0 P p Q .ret r H c = Q .ret r H c := rfl
def V28 (P : Program) (p : Lab) (Q : VPost) (x0 : AV) (H : Heap) (c : Nat) : Prop :=
  vc P p l28_1 (q28_0 P p Q) [(0, x0), (3, .nils), (4, (.int .i64 0))] H (c + 3)
theorem vt28 (P : Program) (p : Lab) (Q : VPost) (x0 : AV) (H : Heap) (c : Nat) : vc P p c28.body Q [(0, x0)] H c = V28 P p Q x0 H c := by kernel_rfl
def V28_1 (P : Program) (p : Lab) (Q : VPost) (x0 x3 x4 : AV) (H : Heap) (c : Nat) : Prop :=
  vBin .lss .num x4 x0 fun v7_5 =>
  vSel v7_5
  (vBuildS 1 [(.int .i64 0)] [(0, 1)] [(.int .i64 0)] fun w7 n7 =>
  (fun (H7 : Heap) =>
  vGen (.append 1 8) [x3, (.sl ((c + 4) :: p) 1 0 n7)] H7 ((c + 5) :: p) fun v12_8 H8 _ _ =>
  vBin .add .num x4 (.int .i64 1) fun v9_11 =>
  Q .normal [(0, x0), (3, v12_8), (4, v9_11)] H8 (c + 10)) (upd [(((c + 4) :: p), some (.rows 1 w7))] H))
  (Q (.exit 0) [(0, x0), (3, x3), (4, x4), (7, v7_5)] H (c + 3))
theorem vt28_1 (P : Program) (p : Lab) (Q : VPost) (x0 x3 x4 : AV) (H : Heap) (c : Nat) : vc P p b28_1 Q [(0, x0), (3, x3), (4, x4)] H c = V28_1 P p Q x0 x3 x4 H c := by kernel_rfl
theorem q28_0_e0 (P : Program) (p : Lab) (Q : VPost) (r : RL) (H : Heap) (c : Nat) : q28_0 P p Q (.exit 0) r H c = (vc P p r28_2 Q r H c) := rfl
def V28_2 (P : Program) (p : Lab) (Q : VPost) (x0 x3 x4 x7 : AV) (H : Heap) (c : Nat) : Prop :=
  Q .ret [(2, x3)] H (c + 2)
theorem vt28_2 (P : Program) (p : Lab) (Q : VPost) (x0 x3 x4 x7 : AV) (H : Heap) (c : Nat) : vc P p r28_2 Q [(0, x0), (3, x3), (4, x4), (7, x7)] H c = V28_2 P p Q x0 x3 x4 x7 H c := by kernel_rfl


/-- duet/resend.copied -/
def c44 : AFun := ⟨1, 8, [.cell 2 10 true],
  (.seq (.region [⟨(some 1), none, .box, [.t 0]⟩, ⟨(some 2), none, (.alloc [(.int .i64 0), (.int .i64 0), .nils, (.int .i64 0), (.int .i64 0), (.int .i64 0), (.int .i64 0), (.int .i64 0), (.int .i64 0), (.int .i64 0)]), []⟩] none [1, 2])
  (.seq (.region [⟨(some 3), none, (.fieldAddr 2), [.t 1]⟩, ⟨(some 4), none, (.load 1 false), [.t 3]⟩, ⟨(some 5), none, .call, [.c (.fn (.func 72) [] []), .t 4]⟩, ⟨(some 6), none, (.fieldAddr 2), [.t 1]⟩, ⟨none, none, (.store 1), [.t 6, .t 5]⟩] none [1, 2])
  (.seq (.region [⟨(some 7), none, (.load 10 true), [.t 1]⟩, ⟨none, none, (.store 10), [.t 2, .t 7]⟩] none [2])
  .ret)))⟩
theorem ok44 : FunOk Try.prog 44 c44 := ⟨⟨Try.f44, _, Try.func44, rfl, by kernel_rfl, by kernel_rfl, by kernel_rfl, by kernel_rfl⟩, by decide⟩
theorem res44 : c44.res = [.cell 2 10 true] := rfl
def V44 (P : Program) (p : Lab) (Q : VPost) (x0 : AV) (H : Heap) (c : Nat) : Prop :=
  vBox x0 fun w0 =>
  (fun (H0 : Heap) =>
  (fun (H1 : Heap) =>
  vFA 2 (.ptr (c :: p) w0.length 0 0) fun v3_2 =>
  vLoad 1 false v3_2 H1 fun v4_3 _ =>
  vCall P 72 [v4_3] H1 ((c + 4) :: p) fun v5_4 H4 _ _ =>
  vFA 2 (.ptr (c :: p) w0.length 0 0) fun v6_5 =>
  vGen (.store 1) [v6_5, v5_4] H4 ((c + 6) :: p) fun v_6 H6 _ _ =>
  vLoad 10 true (.ptr (c :: p) w0.length 0 0) H6 fun v7_7 _ =>
  vGen (.store 10) [(.ptr ((c + 1) :: p) 10 0 0), v7_7] H6 ((c + 8) :: p) fun v_8 H8 _ _ =>
  Q .ret [(2, (.ptr ((c + 1) :: p) 10 0 0))] H8 (c + 9)) (upd [(((c + 1) :: p), some (.rows 10 [[(.int .i64 0), (.int .i64 0), .nils, (.int .i64 0), (.int .i64 0), (.int .i64 0), (.int .i64 0), (.int .i64 0), (.int .i64 0), (.int .i64 0)]]))] H0)) (upd [((c :: p), some (.rows w0.length [w0]))] H)
theorem vt44 (P : Program) (p : Lab) (Q : VPost) (x0 : AV) (H : Heap) (c : Nat) : vc P p c44.body Q [(0, x0)] H c = V44 P p Q x0 H c := by kernel_rfl


/-- duet/duetref04.Copy -/
def c45 : AFun := ⟨1, 10, [.cell 2 10 true],
  (.seq (.region [⟨(some 1), none, .box, [.t 0]⟩, ⟨(some 2), none, (.alloc [(.int .i64 0), (.int .i64 0), .nils, (.int .i64 0), (.int .i64 0), (.int .i64 0), (.int .i64 0), (.int .i64 0), (.int .i64 0), (.int .i64 0)]), []⟩] none [1, 2])
  (.seq (.region [⟨(some 4), none, (.load 10 true), [.t 1]⟩, ⟨(some 3), none, (.alloc [(.int .i64 0), (.int .i64 0), .nils, (.int .i64 0), (.int .i64 0), (.int .i64 0), (.int .i64 0), (.int .i64 0), (.int .i64 0), (.int .i64 0)]), []⟩, ⟨none, none, (.store 10), [.t 3, .t 4]⟩] none [1, 2, 3])
  (.seq (.region [⟨(some 5), none, (.fieldAddr 2), [.t 1]⟩, ⟨(some 6), none, (.load 1 false), [.t 5]⟩, ⟨(some 7), none, (.append 1 8), [.c .nils, .t 6]⟩, ⟨(some 8), none, (.fieldAddr 2), [.t 3]⟩, ⟨none, none, (.store 1), [.t 8, .t 7]⟩] none [2, 3])
  (.seq (.region [⟨(some 9), none, (.load 10 true), [.t 3]⟩, ⟨none, none, (.store 10), [.t 2, .t 9]⟩] none [2])
  .ret))))⟩
theorem ok45 : FunOk Try.prog 45 c45 := ⟨⟨Try.f45, _, Try.func45, rfl, by kernel_rfl, by kernel_rfl, by kernel_rfl, by kernel_rfl⟩, by decide⟩
theorem res45 : c45.res = [.cell 2 10 true] := rfl
def V45 (P : Program) (p : Lab) (Q : VPost) (x0 : AV) (H : Heap) (c : Nat) : Prop :=
  vBox x0 fun w0 =>
  (fun (H0 : Heap) =>
  (fun (H1 : Heap) =>
  vLoad 10 true (.ptr (c :: p) w0.length 0 0) H1 fun v4_2 _ =>
  (fun (H3 : Heap) =>
  vGen (.store 10) [(.ptr ((c + 3) :: p) 10 0 0), v4_2] H3 ((c + 4) :: p) fun v_4 H4 _ _ =>
  vFA 2 (.ptr (c :: p) w0.length 0 0) fun v5_5 =>
  vLoad 1 false v5_5 H4 fun v6_6 _ =>
  vGen (.append 1 8) [.nils, v6_6] H4 ((c + 7) :: p) fun v7_7 H7 _ _ =>
  vFA 2 (.ptr ((c + 3) :: p) 10 0 0) fun v8_8 =>
  vGen (.store 1) [v8_8, v7_7] H7 ((c + 9) :: p) fun v_9 H9 _ _ =>
  vLoad 10 true (.ptr ((c + 3) :: p) 10 0 0) H9 fun v9_10 _ =>
  vGen (.store 10) [(.ptr ((c + 1) :: p) 10 0 0), v9_10] H9 ((c + 11) :: p) fun v_11 H11 _ _ =>
  Q .ret [(2, (.ptr ((c + 1) :: p) 10 0 0))] H11 (c + 12)) (upd [(((c + 3) :: p), some (.rows 10 [[(.int .i64 0), (.int .i64 0), .nils, (.int .i64 0), (.int .i64 0), (.int .i64 0), (.int .i64 0), (.int .i64 0), (.int .i64 0), (.int .i64 0)]]))] H1)) (upd [(((c + 1) :: p), some (.rows 10 [[(.int .i64 0), (.int .i64 0), .nils, (.int .i64 0), (.int .i64 0), (.int .i64 0), (.int .i64 0), (.int .i64 0), (.int .i64 0), (.int .i64 0)]]))] H0)) (upd [((c :: p), some (.rows w0.length [w0]))] H)
theorem vt45 (P : Program) (p : Lab) (Q : VPost) (x0 : AV) (H : Heap) (c : Nat) : vc P p c45.body Q [(0, x0)] H c = V45 P p Q x0 H c := by kernel_rfl


/-- (duet/vec.Vec).Covers -/
def c47 : AFun := ⟨3, 32, [.tmp 6],
  (.seq (.region [⟨(some 6), none, .move, [.c (.bool false)]⟩] none [0, 1, 2])
  (.seq (.region [⟨(some 7), none, .move, [.t 0]⟩, ⟨(some 8), none, .call, [.c (.fn (.func 46) [] []), .t 7]⟩, ⟨(some 9), none, (.bin .eql .num), [.t 8, .c (.int .i64 0)]⟩, ⟨(some 10), none, .move, [.t 9]⟩, ⟨(some 11), (some (10, true)), .move, [.t 1]⟩, ⟨(some 12), (some (10, true)), (.bin .geq .num), [.t 11, .c (.int .i64 0)]⟩, ⟨(some 13), none, .pick, [.t 10, .t 12, .c (.bool false)]⟩, ⟨(some 14), none, .move, [.t 13]⟩, ⟨(some 15), (some (14, true)), .move, [.t 1]⟩, ⟨(some 16), (some (14, true)), .move, [.t 0]⟩, ⟨(some 17), (some (14, true)), (.len .slice), [.t 16]⟩, ⟨(some 18), (some (14, true)), (.bin .lss .num), [.t 15, .t 17]⟩, ⟨(some 19), none, .pick, [.t 14, .t 18, .c (.bool false)]⟩, ⟨(some 20), none, .move, [.t 19]⟩, ⟨(some 21), (some (20, true)), .move, [.t 2]⟩, ⟨(some 22), (some (20, true)), (.bin .gtr .num), [.t 21, .c (.int .i64 0)]⟩, ⟨(some 23), none, .pick, [.t 20, .t 22, .c (.bool false)]⟩, ⟨(some 24), none, .move, [.t 23]⟩, ⟨(some 25), (some (24, true)), .move, [.t 2]⟩, ⟨(some 26), (some (24, true)), .move, [.t 0]⟩, ⟨(some 27), (some (24, true)), .move, [.t 1]⟩, ⟨(some 28), (some (24, true)), (.indexAddr 1), [.t 26, .t 27]⟩, ⟨(some 29), (some (24, true)), (.load 1 false), [.t 28]⟩, ⟨(some 30), (some (24, true)), (.bin .leq .num), [.t 25, .t 29]⟩, ⟨(some 31), none, .pick, [.t 24, .t 30, .c (.bool false)]⟩, ⟨(some 6), none, .move, [.t 31]⟩] none [6])
  .ret))⟩
theorem ok47 : FunOk Try.prog 47 c47 := ⟨⟨Try.f47, _, Try.func47, rfl, by kernel_rfl, by kernel_rfl, by kernel_rfl, by kernel_rfl⟩, by decide⟩
theorem res47 : c47.res = [.tmp 6] := rfl
def V47 (P : Program) (p : Lab) (Q : VPost) (x0 x1 x2 : AV) (H : Heap) (c : Nat) : Prop :=
  vCall P 46 [x0] H ((c + 2) :: p) fun v8_2 H2 _ _ =>
  vBin .eql .num v8_2 (.int .i64 0) fun v9_3 =>
  vSel v9_3
  (vBin .geq .num x1 (.int .i64 0) fun v12_6 =>
  vSel v12_6
  (vLen x0 fun v17_11 =>
  vBin .lss .num x1 v17_11 fun v18_12 =>
  vSel v18_12
  (vBin .gtr .num x2 (.int .i64 0) fun v22_16 =>
  vSel v22_16
  (vIx 1 x0 x1 fun v28_22 =>
  vLoad 1 false v28_22 H2 fun v29_23 _ =>
  vBin .leq .num x2 v29_23 fun v30_24 =>
  Q .ret [(6, v30_24)] H2 (c + 27))
  (Q .ret [(6, (.bool false))] H2 (c + 27)))
  (Q .ret [(6, (.bool false))] H2 (c + 27)))
  (Q .ret [(6, (.bool false))] H2 (c + 27)))
  (Q .ret [(6, (.bool false))] H2 (c + 27))
theorem vt47 (P : Program) (p : Lab) (Q : VPost) (x0 x1 x2 : AV) (H : Heap) (c : Nat) : vc P p c47.body Q [(0, x0), (1, x1), (2, x2)] H c = V47 P p Q x0 x1 x2 H c := by kernel_rfl


/-- duet/duetref06.Covers -/
def c49 : AFun := ⟨3, 31, [.tmp 6],
  (.seq (.region [⟨(some 6), none, .move, [.c (.bool false)]⟩] none [0, 1, 2])
  (.seq (.region [⟨(some 7), none, .move, [.t 0]⟩, ⟨(some 8), none, .call, [.c (.fn (.func 48) [] []), .t 7]⟩, ⟨(some 9), none, .move, [.t 8]⟩, ⟨(some 10), (some (9, true)), .move, [.t 1]⟩, ⟨(some 11), (some (9, true)), (.bin .geq .num), [.t 10, .c (.int .i64 0)]⟩, ⟨(some 12), none, .pick, [.t 9, .t 11, .c (.bool false)]⟩, ⟨(some 13), none, .move, [.t 12]⟩, ⟨(some 14), (some (13, true)), .move, [.t 1]⟩, ⟨(some 15), (some (13, true)), .move, [.t 0]⟩, ⟨(some 16), (some (13, true)), (.len .slice), [.t 15]⟩, ⟨(some 17), (some (13, true)), (.bin .lss .num), [.t 14, .t 16]⟩, ⟨(some 18), none, .pick, [.t 13, .t 17, .c (.bool false)]⟩, ⟨(some 19), none, .move, [.t 18]⟩, ⟨(some 20), (some (19, true)), .move, [.t 2]⟩, ⟨(some 21), (some (19, true)), (.bin .geq .num), [.t 20, .c (.int .i64 1)]⟩, ⟨(some 22), none, .pick, [.t 19, .t 21, .c (.bool false)]⟩, ⟨(some 23), none, .move, [.t 22]⟩, ⟨(some 24), (some (23, true)), .move, [.t 2]⟩, ⟨(some 25), (some (23, true)), .move, [.t 0]⟩, ⟨(some 26), (some (23, true)), .move, [.t 1]⟩, ⟨(some 27), (some (23, true)), (.indexAddr 1), [.t 25, .t 26]⟩, ⟨(some 28), (some (23, true)), (.load 1 false), [.t 27]⟩, ⟨(some 29), (some (23, true)), (.bin .leq .num), [.t 24, .t 28]⟩, ⟨(some 30), none, .pick, [.t 23, .t 29, .c (.bool false)]⟩, ⟨(some 6), none, .move, [.t 30]⟩] none [6])
  .ret))⟩
theorem ok49 : FunOk Try.prog 49 c49 := ⟨⟨Try.f49, _, Try.func49, rfl, by kernel_rfl, by kernel_rfl, by kernel_rfl, by kernel_rfl⟩, by decide⟩
theorem res49 : c49.res = [.tmp 6] := rfl
def V49 (P : Program) (p : Lab) (Q : VPost) (x0 x1 x2 : AV) (H : Heap) (c : Nat) : Prop :=
  vCall P 48 [x0] H ((c + 2) :: p) fun v8_2 H2 _ _ =>
  vSel v8_2
  (vBin .geq .num x1 (.int .i64 0) fun v11_5 =>
  vSel v11_5
  (vLen x0 fun v16_10 =>
  vBin .lss .num x1 v16_10 fun v17_11 =>
  vSel v17_11
  (vBin .geq .num x2 (.int .i64 1) fun v21_15 =>
  vSel v21_15
  (vIx 1 x0 x1 fun v27_21 =>
  vLoad 1 false v27_21 H2 fun v28_22 _ =>
  vBin .leq .num x2 v28_22 fun v29_23 =>
  Q .ret [(6, v29_23)] H2 (c + 26))
  (Q .ret [(6, (.bool false))] H2 (c + 26)))
  (Q .ret [(6, (.bool false))] H2 (c + 26)))
  (Q .ret [(6, (.bool false))] H2 (c + 26)))
  (Q .ret [(6, (.bool false))] H2 (c + 26))
theorem vt49 (P : Program) (p : Lab) (Q : VPost) (x0 x1 x2 : AV) (H : Heap) (c : Nat) : vc P p c49.body Q [(0, x0), (1, x1), (2, x2)] H c = V49 P p Q x0 x1 x2 H c := by kernel_rfl


/-- slices.Clone[duet/vec.Vec,int] -/
def c64 : AFun := ⟨1, 8, [.tmp 2],
  (.seq (.region [⟨(some 2), none, .move, [.c .nils]⟩] none [0])
  (.seq (.seq (.region [⟨(some 3), none, .move, [.t 0]⟩, ⟨(some 4), none, (.bin .eql .slice), [.t 3, .c .nils]⟩] none [0, 4])
  (.cond (.t 4) (.seq (.region [⟨(some 2), none, .move, [.c .nils]⟩] none [2])
  .ret)
  .skip))
  (.seq (.region [⟨(some 5), none, (.buildSlice 1 [] []), []⟩, ⟨(some 6), none, .move, [.t 0]⟩, ⟨(some 7), none, (.append 1 8), [.t 5, .t 6]⟩, ⟨(some 2), none, .move, [.t 7]⟩] none [2])
  .ret)))⟩
theorem ok64 : FunOk Try.prog 64 c64 := ⟨⟨Try.f64, _, Try.func64, rfl, by kernel_rfl, by kernel_rfl, by kernel_rfl, by kernel_rfl⟩, by decide⟩
theorem res64 : c64.res = [.tmp 2] := rfl
def V64 (P : Program) (p : Lab) (Q : VPost) (x0 : AV) (H : Heap) (c : Nat) : Prop :=
  vBin .eql .slice x0 .nils fun v4_2 =>
  vSel v4_2
  (Q .ret [(2, .nils)] H (c + 4))
  (vBuildS 1 [] [] [] fun w4 n4 =>
  (fun (H4 : Heap) =>
  vGen (.append 1 8) [(.sl ((c + 3) :: p) 1 0 n4), x0] H4 ((c + 5) :: p) fun v7_6 H6 _ _ =>
  Q .ret [(2, v7_6)] H6 (c + 7)) (upd [(((c + 3) :: p), some (.rows 1 w4))] H))
theorem vt64 (P : Program) (p : Lab) (Q : VPost) (x0 : AV) (H : Heap) (c : Nat) : vc P p c64.body Q [(0, x0)] H c = V64 P p Q x0 H c := by kernel_rfl


/-- slices.Clone[[]int,int] -/
def c72 : AFun := ⟨1, 8, [.tmp 2],
  (.seq (.region [⟨(some 2), none, .move, [.c .nils]⟩] none [0])
  (.seq (.seq (.region [⟨(some 3), none, .move, [.t 0]⟩, ⟨(some 4), none, (.bin .eql .slice), [.t 3, .c .nils]⟩] none [0, 4])
  (.cond (.t 4) (.seq (.region [⟨(some 2), none, .move, [.c .nils]⟩] none [2])
  .ret)
  .skip))
  (.seq (.region [⟨(some 5), none, (.buildSlice 1 [] []), []⟩, ⟨(some 6), none, .move, [.t 0]⟩, ⟨(some 7), none, (.append 1 8), [.t 5, .t 6]⟩, ⟨(some 2), none, .move, [.t 7]⟩] none [2])
  .ret)))⟩
theorem ok72 : FunOk Try.prog 72 c72 := ⟨⟨Try.f72, _, Try.func72, rfl, by kernel_rfl, by kernel_rfl, by kernel_rfl, by kernel_rfl⟩, by decide⟩
theorem res72 : c72.res = [.tmp 2] := rfl
def V72 (P : Program) (p : Lab) (Q : VPost) (x0 : AV) (H : Heap) (c : Nat) : Prop :=
  vBin .eql .slice x0 .nils fun v4_2 =>
  vSel v4_2
  (Q .ret [(2, .nils)] H (c + 4))
  (vBuildS 1 [] [] [] fun w4 n4 =>
  (fun (H4 : Heap) =>
  vGen (.append 1 8) [(.sl ((c + 3) :: p) 1 0 n4), x0] H4 ((c + 5) :: p) fun v7_6 H6 _ _ =>
  Q .ret [(2, v7_6)] H6 (c + 7)) (upd [(((c + 3) :: p), some (.rows 1 w4))] H))
theorem vt72 (P : Program) (p : Lab) (Q : VPost) (x0 : AV) (H : Heap) (c : Nat) : vc P p c72.body Q [(0, x0)] H c = V72 P p Q x0 H c := by kernel_rfl


/-- duet/vec.New -/
def c54 : AFun := ⟨1, 12, [.tmp 2, .tmp 3],
  (.seq (.region [⟨(some 2), none, .move, [.c .nils]⟩, ⟨(some 3), none, .move, [.c (.int .i64 0)]⟩] none [0])
  (.seq (.seq (.region [⟨(some 4), none, .move, [.t 0]⟩, ⟨(some 5), none, (.bin .lss .num), [.t 4, .c (.int .i64 1)]⟩, ⟨(some 6), none, .move, [.t 5]⟩, ⟨(some 7), (some (6, false)), .move, [.t 0]⟩, ⟨(some 8), (some (6, false)), (.bin .gtr .num), [.t 7, .c (.int .i64 16)]⟩, ⟨(some 9), none, .pick, [.t 6, .c (.bool true), .t 8]⟩] none [0, 9])
  (.cond (.t 9) (.seq (.region [⟨(some 2), none, .move, [.c .nils]⟩, ⟨(some 3), none, .move, [.c (.int .i64 1)]⟩] none [2, 3])
  .ret)
  .skip))
  (.seq (.region [⟨(some 10), none, .move, [.t 0]⟩, ⟨(some 11), none, (.mkslice 1 [(.int .i64 0)] 8), [.t 10, .t 10]⟩, ⟨(some 2), none, .move, [.t 11]⟩, ⟨(some 3), none, .move, [.c (.int .i64 0)]⟩] none [2, 3])
  .ret)))⟩
theorem ok54 : FunOk Try.prog 54 c54 := ⟨⟨Try.f54, _, Try.func54, rfl, by kernel_rfl, by kernel_rfl, by kernel_rfl, by kernel_rfl⟩, by decide⟩
theorem res54 : c54.res = [.tmp 2, .tmp 3] := rfl
def V54 (P : Program) (p : Lab) (Q : VPost) (x0 : AV) (H : Heap) (c : Nat) : Prop :=
  vBin .lss .num x0 (.int .i64 1) fun v5_3 =>
  vSel v5_3
  (Q .ret [(2, .nils), (3, (.int .i64 1))] H (c + 10))
  (vBin .gtr .num x0 (.int .i64 16) fun v8_9 =>
  vSel v8_9
  (Q .ret [(2, .nils), (3, (.int .i64 1))] H (c + 10))
  (vGen (.mkslice 1 [(.int .i64 0)] 8) [x0, x0] H ((c + 9) :: p) fun v11_14 H14 _ _ =>
  Q .ret [(2, v11_14), (3, (.int .i64 0))] H14 (c + 12)))
theorem vt54 (P : Program) (p : Lab) (Q : VPost) (x0 : AV) (H : Heap) (c : Nat) : vc P p c54.body Q [(0, x0)] H c = V54 P p Q x0 H c := by kernel_rfl



end Go.Proofs.Ytoajcigegjhiaaa
