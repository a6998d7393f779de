/- What is owed of functions of the program, as formulas. -/
import Derived.Test.YtbngfbpegdcpkaaA26
import Derived.Test.YtbngfbpegdcpkaaProg
import Derived.KernelRfl
namespace Go.Proofs.Ytbngfbpegdcpkaa
set_option maxRecDepth 100000
set_option linter.unusedVariables false
set_option linter.unusedSimpArgs false
/-- duet/duetlaw18.EditActs -/
def c5 : AFun := ⟨2, 66, [.tmp 4],
  (.seq (.region [⟨(some 2), none, .box, [.t 0]⟩, ⟨(some 3), none, .box, [.t 1]⟩, ⟨(some 4), none, .move, [.c (.bool false)]⟩] none [2, 3])
  (.seq (.seq (.region [⟨(some 9), none, (.load 3 true), [.t 2]⟩, ⟨(some 10), none, .call, [.c (.fn (.func 10) [] []), .t 9]⟩, ⟨(some 11), none, (.un .not), [.t 10]⟩] none [2, 3, 11])
  (.cond (.t 11) (.seq (.region [⟨(some 12), none, .call, [.c (.fn (.func 11) [] [])]⟩, ⟨(some 4), none, .move, [.t 12]⟩] none [4])
  .ret)
  .skip))
  (.seq (.region [⟨(some 14), none, (.fieldAddr 0), [.t 2]⟩, ⟨(some 15), none, (.load 1 false), [.t 14]⟩, ⟨(some 16), none, (.fieldAddr 1), [.t 2]⟩, ⟨(some 17), none, (.load 1 false), [.t 16]⟩, ⟨(some 18), none, (.fieldAddr 2), [.t 2]⟩, ⟨(some 19), none, (.load 1 false), [.t 18]⟩, ⟨(some 20), none, (.build [.nils, (.int .i64 0), .nils] [(0, 1), (1, 1), (2, 1)]), [.t 15, .t 17, .t 19]⟩, ⟨(some 21), none, (.load 2 true), [.t 3]⟩, ⟨(some 22), none, .call, [.c (.fn (.func 13) [] []), .t 21]⟩, ⟨(some 23), none, .call, [.c (.fn (.func 12) [] []), .t 20, .t 22]⟩, ⟨(some 13), none, .move, [.t 23]⟩, ⟨(some 24), none, (.extract 0), [.t 13]⟩, ⟨(some 25), none, (.extract 1), [.t 13]⟩, ⟨(some 5), none, (.alloc [.nils, (.int .i64 0), .nils]), []⟩, ⟨none, none, (.store 3), [.t 5, .t 24]⟩, ⟨(some 6), none, .move, [.t 25]⟩] (some [0, 1, 0, 4, 0, 16, 63, 0, 128, 511, 1023, 2047, 2047, 0, 12287, 32767]) [2, 5, 6])
  (.seq (.region [⟨(some 27), none, (.fieldAddr 0), [.t 2]⟩, ⟨(some 28), none, (.load 1 false), [.t 27]⟩, ⟨(some 29), none, .move, [.t 6]⟩, ⟨(some 30), none, .call, [.c (.fn (.func 18) [] []), .t 28, .t 29]⟩, ⟨(some 26), none, .move, [.t 30]⟩, ⟨(some 31), none, (.extract 0), [.t 26]⟩, ⟨(some 32), none, (.extract 1), [.t 26]⟩, ⟨(some 7), none, .move, [.t 31]⟩, ⟨(some 8), none, .move, [.t 32]⟩] none [2, 5, 7, 8])
  (.seq (.region [⟨(some 33), none, .move, [.t 8]⟩, ⟨(some 34), none, .move, [.t 33]⟩, ⟨(some 35), (some (34, true)), .move, [.t 7]⟩, ⟨(some 36), (some (34, true)), (.fieldAddr 0), [.t 5]⟩, ⟨(some 37), (some (34, true)), (.load 1 false), [.t 36]⟩, ⟨(some 38), (some (34, true)), .call, [.c (.fn (.func 21) [] []), .t 35, .t 37]⟩, ⟨(some 39), none, .pick, [.t 34, .t 38, .c (.bool false)]⟩, ⟨(some 40), none, .move, [.t 39]⟩, ⟨(some 41), (some (40, true)), (.fieldAddr 1), [.t 5]⟩, ⟨(some 42), (some (40, true)), (.load 1 false), [.t 41]⟩, ⟨(some 43), (some (40, true)), (.bin .geq .num), [.t 42, .c (.int .i64 0)]⟩, ⟨(some 44), none, .pick, [.t 40, .t 43, .c (.bool false)]⟩, ⟨(some 45), none, .move, [.t 44]⟩, ⟨(some 46), (some (45, true)), (.fieldAddr 1), [.t 5]⟩, ⟨(some 47), (some (45, true)), (.load 1 false), [.t 46]⟩, ⟨(some 48), (some (45, true)), (.fieldAddr 0), [.t 5]⟩, ⟨(some 49), (some (45, true)), (.load 1 false), [.t 48]⟩, ⟨(some 50), (some (45, true)), (.len .slice), [.t 49]⟩, ⟨(some 51), (some (45, true)), (.bin .leq .num), [.t 47, .t 50]⟩, ⟨(some 52), none, .pick, [.t 45, .t 51, .c (.bool false)]⟩, ⟨(some 53), none, .move, [.t 52]⟩, ⟨(some 54), (some (53, true)), (.fieldAddr 0), [.t 5]⟩, ⟨(some 55), (some (53, true)), (.load 1 false), [.t 54]⟩, ⟨(some 56), (some (53, true)), (.len .slice), [.t 55]⟩, ⟨(some 57), (some (53, true)), (.fieldAddr 0), [.t 2]⟩, ⟨(some 58), (some (53, true)), (.load 1 false), [.t 57]⟩, ⟨(some 59), (some (53, true)), (.len .slice), [.t 58]⟩, ⟨(some 60), (some (53, true)), .max, [.c (.int .i64 1000), .t 59]⟩, ⟨(some 61), (some (53, true)), (.bin .leq .num), [.t 56, .t 60]⟩, ⟨(some 62), none, .pick, [.t 53, .t 61, .c (.bool false)]⟩, ⟨(some 63), none, .move, [.t 62]⟩, ⟨(some 64), (some (63, true)), .call, [.c (.fn (.func 11) [] [])]⟩, ⟨(some 65), none, .pick, [.t 63, .t 64, .c (.bool false)]⟩, ⟨(some 4), none, .move, [.t 65]⟩] none [4])
  .ret)))))⟩
theorem ok5 : FunOk Try.prog 5 c5 := ⟨⟨Try.f5, _, Try.func5, rfl, by kernel_rfl, by kernel_rfl, by kernel_rfl, by kernel_rfl⟩, by decide⟩
theorem res5 : c5.res = [.tmp 4] := rfl
def k5_0 (P : Program) (p : Lab) (Q : VPost) (y4 : AV) (H : Heap) (c : Nat) : Prop :=
  Q .ret [(4, y4)] H c
def k5_1 (P : Program) (p : Lab) (Q : VPost) (c : Nat) (v12_6 : AV) (H6 : Heap) (l6 : List Lab) (f6 : Option (List Lab)) : Prop :=
  (k5_0 P p Q v12_6 H6 (c + 8))
def k5_2 (P : Program) (p : Lab) (Q : VPost) (H4 : Heap) (c : Nat) (_ : Unit) : Prop :=
  vCall true P 11 [] H4 ((c + 6) :: p) (k5_1 P p Q c)
def k5_8 (P : Program) (p : Lab) (Q : VPost) (y4 : AV) (H : Heap) (c : Nat) : Prop :=
  Q .ret [(4, y4)] H c
def k5_9 (P : Program) (p : Lab) (Q : VPost) (c : Nat) (v64_64 : AV) (H64 : Heap) (l64 : List Lab) (f64 : Option (List Lab)) : Prop :=
  (k5_8 P p Q v64_64 H64 (c + 5))
def k5_10 (P : Program) (p : Lab) (Q : VPost) (H : Heap) (c : Nat) (_ : Unit) : Prop :=
  vCall false P 11 [] H ((c + 2) :: p) (k5_9 P p Q c)
def k5_11 (P : Program) (p : Lab) (Q : VPost)  (H : Heap) (c : Nat) : Prop :=
  Q .ret [(4, (.bool false))] H c
def k5_12 (P : Program) (p : Lab) (Q : VPost) (H : Heap) (c : Nat) (_ : Unit) : Prop :=
  (k5_11 P p Q  H (c + 5))
def k5_7 (P : Program) (p : Lab) (Q : VPost) (y61 : AV) (H : Heap) (c : Nat) : Prop :=
  vSel y61
  (k5_10 P p Q H c)
  (k5_12 P p Q H c)
def k5_13 (P : Program) (p : Lab) (Q : VPost) (y2 : AV) (y5 : AV) (H : Heap) (c : Nat) (_ : Unit) : Prop :=
  vFA 0 y5 fun v54_54 =>
  vLoad 1 false v54_54 H fun v55_55 _ =>
  vLen v55_55 fun v56_56 =>
  vFA 0 y2 fun v57_57 =>
  vLoad 1 false v57_57 H fun v58_58 _ =>
  vLen v58_58 fun v59_59 =>
  vMax (.int .i64 1000) v59_59 fun v60_60 =>
  vBin .leq .num v56_56 v60_60 fun v61_61 =>
  (k5_7 P p Q v61_61 H (c + 10))
def k5_14 (P : Program) (p : Lab) (Q : VPost)  (H : Heap) (c : Nat) : Prop :=
  (k5_11 P p Q  H (c + 5))
def k5_15 (P : Program) (p : Lab) (Q : VPost) (H : Heap) (c : Nat) (_ : Unit) : Prop :=
  (k5_14 P p Q  H (c + 10))
def k5_6 (P : Program) (p : Lab) (Q : VPost) (y2 : AV) (y5 : AV) (y51 : AV) (H : Heap) (c : Nat) : Prop :=
  vSel y51
  (k5_13 P p Q y2 y5 H c)
  (k5_15 P p Q H c)
def k5_16 (P : Program) (p : Lab) (Q : VPost) (y2 : AV) (y5 : AV) (H : Heap) (c : Nat) (_ : Unit) : Prop :=
  vFA 1 y5 fun v46_46 =>
  vLoad 1 false v46_46 H fun v47_47 _ =>
  vFA 0 y5 fun v48_48 =>
  vLoad 1 false v48_48 H fun v49_49 _ =>
  vLen v49_49 fun v50_50 =>
  vBin .leq .num v47_47 v50_50 fun v51_51 =>
  (k5_6 P p Q y2 y5 v51_51 H (c + 8))
def k5_18 (P : Program) (p : Lab) (Q : VPost)  (H : Heap) (c : Nat) : Prop :=
  (k5_11 P p Q  H (c + 5))
def k5_17 (P : Program) (p : Lab) (Q : VPost) (y2 : AV) (y5 : AV) (H : Heap) (c : Nat) : Prop :=
  (k5_18 P p Q  H (c + 10))
def k5_19 (P : Program) (p : Lab) (Q : VPost) (y2 : AV) (y5 : AV) (H : Heap) (c : Nat) (_ : Unit) : Prop :=
  (k5_17 P p Q y2 y5 H (c + 8))
def k5_5 (P : Program) (p : Lab) (Q : VPost) (y2 : AV) (y5 : AV) (y43 : AV) (H : Heap) (c : Nat) : Prop :=
  vSel y43
  (k5_16 P p Q y2 y5 H c)
  (k5_19 P p Q y2 y5 H c)
def k5_20 (P : Program) (p : Lab) (Q : VPost) (y2 : AV) (y5 : AV) (H : Heap) (c : Nat) (_ : Unit) : Prop :=
  vFA 1 y5 fun v41_41 =>
  vLoad 1 false v41_41 H fun v42_42 _ =>
  vBin .geq .num v42_42 (.int .i64 0) fun v43_43 =>
  (k5_5 P p Q y2 y5 v43_43 H (c + 5))
def k5_23 (P : Program) (p : Lab) (Q : VPost)  (H : Heap) (c : Nat) : Prop :=
  (k5_11 P p Q  H (c + 5))
def k5_22 (P : Program) (p : Lab) (Q : VPost) (y2 : AV) (y5 : AV) (H : Heap) (c : Nat) : Prop :=
  (k5_23 P p Q  H (c + 10))
def k5_21 (P : Program) (p : Lab) (Q : VPost) (y2 : AV) (y5 : AV) (H : Heap) (c : Nat) : Prop :=
  (k5_22 P p Q y2 y5 H (c + 8))
def k5_24 (P : Program) (p : Lab) (Q : VPost) (y2 : AV) (y5 : AV) (H : Heap) (c : Nat) (_ : Unit) : Prop :=
  (k5_21 P p Q y2 y5 H (c + 5))
def k5_4 (P : Program) (p : Lab) (Q : VPost) (y2 : AV) (y5 : AV) (y38 : AV) (H : Heap) (c : Nat) : Prop :=
  vSel y38
  (k5_20 P p Q y2 y5 H c)
  (k5_24 P p Q y2 y5 H c)
def k5_25 (P : Program) (p : Lab) (Q : VPost) (y2 : AV) (c : Nat) (v38_38 : AV) (H38 : Heap) (l38 : List Lab) (f38 : Option (List Lab)) : Prop :=
  (k5_4 P p Q y2 (.ptr ((c + 13) :: p) 3 0 0) v38_38 H38 (c + 31))
def k5_26 (P : Program) (p : Lab) (Q : VPost) (v31_29 : AV) (H27 : Heap) (y2 : AV) (c : Nat) (_ : Unit) : Prop :=
  vFA 0 (.ptr ((c + 13) :: p) 3 0 0) fun v36_36 =>
  vLoad 1 false v36_36 H27 fun v37_37 _ =>
  vCall false P 21 [v31_29, v37_37] H27 ((c + 30) :: p) (k5_25 P p Q y2 c)
def k5_30 (P : Program) (p : Lab) (Q : VPost)  (H : Heap) (c : Nat) : Prop :=
  (k5_11 P p Q  H (c + 5))
def k5_29 (P : Program) (p : Lab) (Q : VPost) (y2 : AV) (y5 : AV) (H : Heap) (c : Nat) : Prop :=
  (k5_30 P p Q  H (c + 10))
def k5_28 (P : Program) (p : Lab) (Q : VPost) (y2 : AV) (y5 : AV) (H : Heap) (c : Nat) : Prop :=
  (k5_29 P p Q y2 y5 H (c + 8))
def k5_27 (P : Program) (p : Lab) (Q : VPost) (y2 : AV) (y5 : AV) (H : Heap) (c : Nat) : Prop :=
  (k5_28 P p Q y2 y5 H (c + 5))
def k5_31 (P : Program) (p : Lab) (Q : VPost) (H27 : Heap) (y2 : AV) (c : Nat) (_ : Unit) : Prop :=
  (k5_27 P p Q y2 (.ptr ((c + 13) :: p) 3 0 0) H27 (c + 31))
def k5_32 (P : Program) (p : Lab) (Q : VPost) (y2 : AV) (c : Nat) (v30_27 : AV) (H27 : Heap) (l27 : List Lab) (f27 : Option (List Lab)) : Prop :=
  vExt 0 v30_27 fun v31_29 =>
  vExt 1 v30_27 fun v32_30 =>
  vSel v32_30
  (k5_26 P p Q v31_29 H27 y2 c)
  (k5_31 P p Q H27 y2 c)
def k5_33 (P : Program) (p : Lab) (Q : VPost) (v25_20 : AV) (l17 : List Lab) (f17 : Option (List Lab)) (l16 : List Lab) (f16 : Option (List Lab)) (f15 : Option (List Lab)) (f13 : Option (List Lab)) (f11 : Option (List Lab)) (f9 : Option (List Lab)) (y2 : AV) (c : Nat) (v_22 : AV) (H22 : Heap) (l22 : List Lab) (f22 : Option (List Lab)) : Prop :=
  clashFree [0, 1, 0, 4, 0, 16, 63, 0, 128, 511, 1023, 2047, 2047, 0, 12287, 32767] (addTr 1 [] ((c + 1) :: p) f9 (addTr 3 [] ((c + 3) :: p) f11 (addTr 5 [] ((c + 5) :: p) f13 (addTr 7 [] ((c + 7) :: p) f15 (addTr 8 l16 ((c + 8) :: p) f16 (addTr 9 l17 ((c + 9) :: p) f17 (addTr 13 [((c + 13) :: p)] ((c + 13) :: p) (some []) (addTr 14 l22 ((c + 14) :: p) f22 [])))))))) ∧
  vFA 0 y2 fun v27_24 =>
  vLoad 1 false v27_24 H22 fun v28_25 _ =>
  vCall true P 18 [v28_25, v25_20] H22 ((c + 19) :: p) (k5_32 P p Q y2 c)
def k5_34 (P : Program) (p : Lab) (Q : VPost) (l16 : List Lab) (f16 : Option (List Lab)) (f15 : Option (List Lab)) (f13 : Option (List Lab)) (f11 : Option (List Lab)) (f9 : Option (List Lab)) (y2 : AV) (c : Nat) (v23_17 : AV) (H17 : Heap) (l17 : List Lab) (f17 : Option (List Lab)) : Prop :=
  vExt 0 v23_17 fun v24_19 =>
  vExt 1 v23_17 fun v25_20 =>
  (fun (H21 : Heap) =>
  vGen (.store 3) [(.ptr ((c + 13) :: p) 3 0 0), v24_19] H21 ((c + 14) :: p) (k5_33 P p Q v25_20 l17 f17 l16 f16 f15 f13 f11 f9 y2 c)) (upd [(((c + 13) :: p), some (.rows 3 [[.nils, (.int .i64 0), .nils]]))] H17)
def k5_35 (P : Program) (p : Lab) (Q : VPost) (f15 : Option (List Lab)) (v20_14 : AV) (f13 : Option (List Lab)) (f11 : Option (List Lab)) (f9 : Option (List Lab)) (y2 : AV) (c : Nat) (v22_16 : AV) (H16 : Heap) (l16 : List Lab) (f16 : Option (List Lab)) : Prop :=
  vCall false P 12 [v20_14, v22_16] H16 ((c + 9) :: p) (k5_34 P p Q l16 f16 f15 f13 f11 f9 y2 c)
def k5_3 (P : Program) (p : Lab) (Q : VPost) (y2 : AV) (y3 : AV) (y11 : AV) (H : Heap) (c : Nat) : Prop :=
  vFA 0 y2 fun v14_8 =>
  vLoad 1 false v14_8 H fun v15_9 f9 =>
  vFA 1 y2 fun v16_10 =>
  vLoad 1 false v16_10 H fun v17_11 f11 =>
  vFA 2 y2 fun v18_12 =>
  vLoad 1 false v18_12 H fun v19_13 f13 =>
  vBuild [.nils, (.int .i64 0), .nils] [(0, 1), (1, 1), (2, 1)] [v15_9, v17_11, v19_13] fun v20_14 =>
  vLoad 2 true y3 H fun v21_15 f15 =>
  vCall false P 13 [v21_15] H ((c + 8) :: p) (k5_35 P p Q f15 v20_14 f13 f11 f9 y2 c)
def k5_36 (P : Program) (p : Lab) (Q : VPost) (v11_5 : AV) (H4 : Heap) (w1 : List AV) (w0 : List AV) (c : Nat) (_ : Unit) : Prop :=
  (k5_3 P p Q (.ptr (c :: p) w0.length 0 0) (.ptr ((c + 1) :: p) w1.length 0 0) v11_5 H4 (c + 6))
def k5_37 (P : Program) (p : Lab) (Q : VPost) (w1 : List AV) (w0 : List AV) (c : Nat) (v10_4 : AV) (H4 : Heap) (l4 : List Lab) (f4 : Option (List Lab)) : Prop :=
  vNot v10_4 fun v11_5 =>
  vSel v11_5
  (k5_2 P p Q H4 c)
  (k5_36 P p Q v11_5 H4 w1 w0 c)
def V5 (P : Program) (p : Lab) (Q : VPost) (x0 x1 : AV) (H : Heap) (c : Nat) : Prop :=
  vBox x0 fun w0 =>
  (fun (H0 : Heap) =>
  vBox x1 fun w1 =>
  (fun (H1 : Heap) =>
  vLoad 3 true (.ptr (c :: p) w0.length 0 0) H1 fun v9_3 _ =>
  vCall true P 10 [v9_3] H1 ((c + 4) :: p) (k5_37 P p Q w1 w0 c)) (upd [(((c + 1) :: p), some (.rows w1.length [w1]))] H0)) (upd [((c :: p), some (.rows w0.length [w0]))] H)
theorem vt5 (P : Program) (p : Lab) (Q : VPost) (x0 x1 : AV) (H : Heap) (c : Nat) : vc P p c5.body Q [(0, x0), (1, x1)] H c = V5 P p Q x0 x1 H c := by kernel_rfl

def b18_1 : ACode := (.seq (.region [⟨(some 13), none, (.bin .lss .num), [.t 12, .t 11]⟩] none [0, 10, 11, 12, 13])
  (.seq (.cond (.t 13) .skip
  (.exit 0))
  (.seq (.block 1 (.seq (.region [⟨(some 14), none, (.indexAddr 3), [.t 10, .t 12]⟩, ⟨(some 15), none, (.load 3 true), [.t 14]⟩, ⟨(some 7), none, (.alloc [(.int .i64 0), (.int .i64 0), (.int .i64 0)]), []⟩, ⟨none, none, (.store 3), [.t 7, .t 15]⟩] none [0, 7, 10, 11, 12])
  (.block 2 (.seq (.region [⟨(some 17), none, (.fieldAddr 1), [.t 7]⟩, ⟨(some 18), none, (.load 1 false), [.t 17]⟩, ⟨(some 19), none, (.bin .lss .num), [.t 18, .c (.int .i64 0)]⟩, ⟨(some 20), none, .move, [.t 19]⟩, ⟨(some 21), (some (20, false)), (.fieldAddr 1), [.t 7]⟩, ⟨(some 22), (some (20, false)), (.load 1 false), [.t 21]⟩, ⟨(some 23), (some (20, false)), .move, [.t 0]⟩, ⟨(some 24), (some (20, false)), (.len .slice), [.t 23]⟩, ⟨(some 25), (some (20, false)), (.bin .gtr .num), [.t 22, .t 24]⟩, ⟨(some 26), none, .pick, [.t 20, .c (.bool true), .t 25]⟩, ⟨(some 16), none, .move, [.t 26]⟩] none [0, 7, 10, 11, 12, 16])
  (.cond (.t 16) (.seq (.region [⟨(some 4), none, .move, [.c .nils]⟩, ⟨(some 5), none, .move, [.c (.bool false)]⟩] none [4, 5])
  .ret)
  (.seq (.region [⟨(some 28), none, (.fieldAddr 0), [.t 7]⟩, ⟨(some 29), none, (.load 1 false), [.t 28]⟩, ⟨(some 30), none, (.bin .eql .num), [.t 29, .c (.int .i64 1)]⟩, ⟨(some 27), none, .move, [.t 30]⟩] none [0, 7, 10, 11, 12, 27])
  (.cond (.t 27) (.region [⟨(some 31), none, .move, [.t 0]⟩, ⟨(some 32), none, (.fieldAddr 1), [.t 7]⟩, ⟨(some 33), none, (.load 1 false), [.t 32]⟩, ⟨(some 34), none, (.fieldAddr 2), [.t 7]⟩, ⟨(some 35), none, (.load 1 false), [.t 34]⟩, ⟨(some 36), none, (.buildSlice 1 [(.int .i64 0)] [(0, 1)]), [.t 35]⟩, ⟨(some 37), none, .call, [.c (.fn (.func 33) [] []), .t 31, .t 33, .t 36]⟩, ⟨(some 0), none, .move, [.t 37]⟩] none [0, 10, 11, 12])
  (.seq (.region [⟨(some 39), none, (.fieldAddr 0), [.t 7]⟩, ⟨(some 40), none, (.load 1 false), [.t 39]⟩, ⟨(some 41), none, (.bin .eql .num), [.t 40, .c (.int .i64 2)]⟩, ⟨(some 42), none, .move, [.t 41]⟩, ⟨(some 43), (some (42, true)), (.fieldAddr 1), [.t 7]⟩, ⟨(some 44), (some (42, true)), (.load 1 false), [.t 43]⟩, ⟨(some 45), (some (42, true)), .move, [.t 0]⟩, ⟨(some 46), (some (42, true)), (.len .slice), [.t 45]⟩, ⟨(some 47), (some (42, true)), (.bin .lss .num), [.t 44, .t 46]⟩, ⟨(some 48), none, .pick, [.t 42, .t 47, .c (.bool false)]⟩, ⟨(some 38), none, .move, [.t 48]⟩] none [0, 7, 10, 11, 12, 38])
  (.cond (.t 38) (.region [⟨(some 49), none, .move, [.t 0]⟩, ⟨(some 50), none, (.fieldAddr 1), [.t 7]⟩, ⟨(some 51), none, (.load 1 false), [.t 50]⟩, ⟨(some 52), none, (.fieldAddr 1), [.t 7]⟩, ⟨(some 53), none, (.load 1 false), [.t 52]⟩, ⟨(some 54), none, (.bin .add .num), [.t 53, .c (.int .i64 1)]⟩, ⟨(some 55), none, .call, [.c (.fn (.func 34) [] []), .t 49, .t 51, .t 54]⟩, ⟨(some 0), none, .move, [.t 55]⟩] none [0, 10, 11, 12])
  (.seq (.region [⟨(some 4), none, .move, [.c .nils]⟩, ⟨(some 5), none, .move, [.c (.bool false)]⟩] none [4, 5])
  .ret))))))))))
  (.region [⟨(some 56), none, (.bin .add .num), [.t 12, .c (.int .i64 1)]⟩, ⟨(some 12), none, .move, [.t 56]⟩] none [0, 10, 11, 12]))))
def l18_1 : ACode := .loop [0, 10, 11, 12] b18_1
def r18_2 : ACode := (.seq (.region [⟨(some 57), none, .move, [.t 0]⟩, ⟨(some 4), none, .move, [.t 57]⟩, ⟨(some 5), none, .move, [.c (.bool true)]⟩] none [4, 5])
  .ret)
/-- duet/edit.Apply -/
def c18 : AFun := ⟨2, 58, [.tmp 4, .tmp 5],
  (.seq (.region [⟨(some 4), none, .move, [.c .nils]⟩, ⟨(some 5), none, .move, [.c (.bool false)]⟩] none [0, 1])
  (.seq (.region [⟨(some 8), none, .move, [.t 0]⟩, ⟨(some 9), none, .call, [.c (.fn (.func 25) [] []), .t 8]⟩, ⟨(some 0), none, .move, [.t 9]⟩] none [0, 1])
  (.seq (.seq (.region [⟨(some 10), none, .move, [.t 1]⟩, ⟨(some 11), none, (.len .slice), [.t 10]⟩, ⟨(some 12), none, .move, [.c (.int .i64 0)]⟩] none [0, 10, 11, 12])
  (.block 0 l18_1)) r18_2)))⟩
theorem ok18 : FunOk Try.prog 18 c18 := ⟨⟨Try.f18, _, Try.func18, rfl, by kernel_rfl, by kernel_rfl, by kernel_rfl, by kernel_rfl⟩, by decide⟩
theorem res18 : c18.res = [.tmp 4, .tmp 5] := rfl
def q18_0 (P : Program) (p : Lab) (Q : VPost) : VPost := (vblockQ 0 (vseqQ (vc P p r18_2 Q) Q))
theorem q18_0_ret (P : Program) (p : Lab) (Q : VPost) (r : RL) (H : Heap) (c : Nat) : q18_0 P p Q .ret r H c = Q .ret r H c := rfl
def V18 (P : Program) (p : Lab) (Q : VPost) (x0 x1 : AV) (H : Heap) (c : Nat) : Prop :=
  vCall true P 25 [x0] H ((c + 3) :: p) (fun v9_3 H3 l3 f3 =>
  vLen x1 fun v11_6 =>
  vc P p l18_1 (q18_0 P p Q) [(0, v9_3), (10, x1), (11, v11_6), (12, (.int .i64 0))] H3 (c + 8))
theorem vt18 (P : Program) (p : Lab) (Q : VPost) (x0 x1 : AV) (H : Heap) (c : Nat) : vc P p c18.body Q [(0, x0), (1, x1)] H c = V18 P p Q x0 x1 H c := by kernel_rfl
def k18_1 (P : Program) (p : Lab) (Q : VPost) (y0 : AV) (y7 : AV) (y10 : AV) (y11 : AV) (y12 : AV) (H : Heap) (c : Nat) : Prop :=
  Q .ret [(4, .nils), (5, (.bool false))] H (c + 2)
def k18_2 (P : Program) (p : Lab) (Q : VPost) (H12 : Heap) (y0 : AV) (y10 : AV) (y11 : AV) (y12 : AV) (c : Nat) (_ : Unit) : Prop :=
  (k18_1 P p Q y0 (.ptr ((c + 2) :: p) 3 0 0) y10 y11 y12 H12 (c + 15))
def k18_4 (P : Program) (p : Lab) (Q : VPost)  (H : Heap) (c : Nat) : Prop :=
  Q .ret [(4, .nils), (5, (.bool false))] H c
def k18_5 (P : Program) (p : Lab) (Q : VPost) (H : Heap) (c : Nat) (_ : Unit) : Prop :=
  (k18_4 P p Q  H (c + 2))
def k18_8 (P : Program) (p : Lab) (Q : VPost) (y10 : AV) (y11 : AV) (y12 : AV) (c : Nat) (v37_40 : AV) (H40 : Heap) (l40 : List Lab) (f40 : Option (List Lab)) : Prop :=
  vBin .add .num y12 (.int .i64 1) fun v56_42 =>
  Q .normal [(0, v37_40), (10, y10), (11, y11), (12, v56_42)] H40 (c + 10)
def k18_7 (P : Program) (p : Lab) (Q : VPost) (y0 : AV) (y7 : AV) (y10 : AV) (y11 : AV) (y12 : AV) (H : Heap) (c : Nat) : Prop :=
  vFA 1 y7 fun v32_35 =>
  vLoad 1 false v32_35 H fun v33_36 _ =>
  vFA 2 y7 fun v34_37 =>
  vLoad 1 false v34_37 H fun v35_38 _ =>
  vBuildS 1 [(.int .i64 0)] [(0, 1)] [v35_38] fun w39 n39 =>
  (fun (H39 : Heap) =>
  vCall true P 33 [y0, v33_36, (.sl ((c + 5) :: p) 1 0 n39)] H39 ((c + 6) :: p) (k18_8 P p Q y10 y11 y12 c)) (upd [(((c + 5) :: p), some (.rows 1 w39))] H)
def k18_9 (P : Program) (p : Lab) (Q : VPost) (y0 : AV) (y7 : AV) (y10 : AV) (y11 : AV) (y12 : AV) (H : Heap) (c : Nat) (_ : Unit) : Prop :=
  (k18_7 P p Q y0 y7 y10 y11 y12 H (c + 4))
def k18_13 (P : Program) (p : Lab) (Q : VPost) (y10 : AV) (y11 : AV) (y12 : AV) (c : Nat) (v55_61 : AV) (H61 : Heap) (l61 : List Lab) (f61 : Option (List Lab)) : Prop :=
  vBin .add .num y12 (.int .i64 1) fun v56_63 =>
  Q .normal [(0, v55_61), (10, y10), (11, y11), (12, v56_63)] H61 (c + 10)
def k18_12 (P : Program) (p : Lab) (Q : VPost) (y0 : AV) (y7 : AV) (y10 : AV) (y11 : AV) (y12 : AV) (H : Heap) (c : Nat) : Prop :=
  vFA 1 y7 fun v50_56 =>
  vLoad 1 false v50_56 H fun v51_57 _ =>
  vFA 1 y7 fun v52_58 =>
  vLoad 1 false v52_58 H fun v53_59 _ =>
  vBin .add .num v53_59 (.int .i64 1) fun v54_60 =>
  vCall true P 34 [y0, v51_57, v54_60] H ((c + 6) :: p) (k18_13 P p Q y10 y11 y12 c)
def k18_14 (P : Program) (p : Lab) (Q : VPost) (y0 : AV) (y7 : AV) (y10 : AV) (y11 : AV) (y12 : AV) (H : Heap) (c : Nat) (_ : Unit) : Prop :=
  (k18_12 P p Q y0 y7 y10 y11 y12 H c)
def k18_15 (P : Program) (p : Lab) (Q : VPost) (H : Heap) (c : Nat) (_ : Unit) : Prop :=
  (k18_4 P p Q  H (c + 2))
def k18_11 (P : Program) (p : Lab) (Q : VPost) (y0 : AV) (y7 : AV) (y10 : AV) (y11 : AV) (y12 : AV) (y38 : AV) (H : Heap) (c : Nat) : Prop :=
  vSel y38
  (k18_14 P p Q y0 y7 y10 y11 y12 H c)
  (k18_15 P p Q H c)
def k18_16 (P : Program) (p : Lab) (Q : VPost) (y0 : AV) (y7 : AV) (y10 : AV) (y11 : AV) (y12 : AV) (H : Heap) (c : Nat) (_ : Unit) : Prop :=
  vFA 1 y7 fun v43_48 =>
  vLoad 1 false v43_48 H fun v44_49 _ =>
  vLen y0 fun v46_51 =>
  vBin .lss .num v44_49 v46_51 fun v47_52 =>
  (k18_11 P p Q y0 y7 y10 y11 y12 v47_52 H (c + 11))
def k18_17 (P : Program) (p : Lab) (Q : VPost) (y0 : AV) (y7 : AV) (y10 : AV) (y11 : AV) (y12 : AV) (H : Heap) (c : Nat) : Prop :=
  Q .ret [(4, .nils), (5, (.bool false))] H (c + 2)
def k18_18 (P : Program) (p : Lab) (Q : VPost) (y0 : AV) (y7 : AV) (y10 : AV) (y11 : AV) (y12 : AV) (H : Heap) (c : Nat) (_ : Unit) : Prop :=
  (k18_17 P p Q y0 y7 y10 y11 y12 H (c + 11))
def k18_10 (P : Program) (p : Lab) (Q : VPost) (y0 : AV) (y7 : AV) (y10 : AV) (y11 : AV) (y12 : AV) (H : Heap) (c : Nat) : Prop :=
  vFA 0 y7 fun v39_44 =>
  vLoad 1 false v39_44 H fun v40_45 _ =>
  vBin .eql .num v40_45 (.int .i64 2) fun v41_46 =>
  vSel v41_46
  (k18_16 P p Q y0 y7 y10 y11 y12 H c)
  (k18_18 P p Q y0 y7 y10 y11 y12 H c)
def k18_19 (P : Program) (p : Lab) (Q : VPost) (y0 : AV) (y7 : AV) (y10 : AV) (y11 : AV) (y12 : AV) (H : Heap) (c : Nat) (_ : Unit) : Prop :=
  (k18_10 P p Q y0 y7 y10 y11 y12 H (c + 4))
def k18_6 (P : Program) (p : Lab) (Q : VPost) (y0 : AV) (y7 : AV) (y10 : AV) (y11 : AV) (y12 : AV) (H : Heap) (c : Nat) : Prop :=
  vFA 0 y7 fun v28_30 =>
  vLoad 1 false v28_30 H fun v29_31 _ =>
  vBin .eql .num v29_31 (.int .i64 1) fun v30_32 =>
  vSel v30_32
  (k18_9 P p Q y0 y7 y10 y11 y12 H c)
  (k18_19 P p Q y0 y7 y10 y11 y12 H c)
def k18_20 (P : Program) (p : Lab) (Q : VPost) (y0 : AV) (y7 : AV) (y10 : AV) (y11 : AV) (y12 : AV) (H : Heap) (c : Nat) (_ : Unit) : Prop :=
  (k18_6 P p Q y0 y7 y10 y11 y12 H c)
def k18_3 (P : Program) (p : Lab) (Q : VPost) (y0 : AV) (y7 : AV) (y10 : AV) (y11 : AV) (y12 : AV) (y16 : AV) (H : Heap) (c : Nat) : Prop :=
  vSel y16
  (k18_5 P p Q H c)
  (k18_20 P p Q y0 y7 y10 y11 y12 H c)
def k18_21 (P : Program) (p : Lab) (Q : VPost) (H12 : Heap) (y0 : AV) (y10 : AV) (y11 : AV) (y12 : AV) (c : Nat) (_ : Unit) : Prop :=
  vFA 1 (.ptr ((c + 2) :: p) 3 0 0) fun v21_21 =>
  vLoad 1 false v21_21 H12 fun v22_22 _ =>
  vLen y0 fun v24_24 =>
  vBin .gtr .num v22_22 v24_24 fun v25_25 =>
  (k18_3 P p Q y0 (.ptr ((c + 2) :: p) 3 0 0) y10 y11 y12 v25_25 H12 (c + 15))
def k18_22 (P : Program) (p : Lab) (Q : VPost) (y0 : AV) (y10 : AV) (y11 : AV) (y12 : AV) (c : Nat) (v_12 : AV) (H12 : Heap) (l12 : List Lab) (f12 : Option (List Lab)) : Prop :=
  vFA 1 (.ptr ((c + 2) :: p) 3 0 0) fun v17_13 =>
  vLoad 1 false v17_13 H12 fun v18_14 _ =>
  vBin .lss .num v18_14 (.int .i64 0) fun v19_15 =>
  vSel v19_15
  (k18_2 P p Q H12 y0 y10 y11 y12 c)
  (k18_21 P p Q H12 y0 y10 y11 y12 c)
def k18_0 (P : Program) (p : Lab) (Q : VPost) (y0 : AV) (y10 : AV) (y11 : AV) (y12 : AV) (y13 : AV) (H : Heap) (c : Nat) : Prop :=
  vIx 3 y10 y12 fun v14_9 =>
  vLoad 3 true v14_9 H fun v15_10 _ =>
  (fun (H11 : Heap) =>
  vGen (.store 3) [(.ptr ((c + 2) :: p) 3 0 0), v15_10] H11 ((c + 3) :: p) (k18_22 P p Q y0 y10 y11 y12 c)) (upd [(((c + 2) :: p), some (.rows 3 [[(.int .i64 0), (.int .i64 0), (.int .i64 0)]]))] H)
def k18_23 (P : Program) (p : Lab) (Q : VPost) (v13_8 : AV) (x0 : AV) (x10 : AV) (x11 : AV) (x12 : AV) (H : Heap) (c : Nat) (_ : Unit) : Prop :=
  (k18_0 P p Q x0 x10 x11 x12 v13_8 H (c + 1))
def V18_1 (P : Program) (p : Lab) (Q : VPost) (x0 x10 x11 x12 : AV) (H : Heap) (c : Nat) : Prop :=
  vBin .lss .num x12 x11 fun v13_8 =>
  vSel v13_8
  (k18_23 P p Q v13_8 x0 x10 x11 x12 H c)
  (fun _ =>
  Q (.exit 0) [(0, x0), (10, x10), (11, x11), (12, x12), (13, v13_8)] H (c + 1))
theorem vt18_1 (P : Program) (p : Lab) (Q : VPost) (x0 x10 x11 x12 : AV) (H : Heap) (c : Nat) : vc P p b18_1 Q [(0, x0), (10, x10), (11, x11), (12, x12)] H c = V18_1 P p Q x0 x10 x11 x12 H c := by kernel_rfl
theorem q18_0_e0 (P : Program) (p : Lab) (Q : VPost) (r : RL) (H : Heap) (c : Nat) : q18_0 P p Q (.exit 0) r H c = (vc P p r18_2 Q r H c) := rfl
def V18_2 (P : Program) (p : Lab) (Q : VPost) (x0 x10 x11 x12 x13 : AV) (H : Heap) (c : Nat) : Prop :=
  Q .ret [(4, x0), (5, (.bool true))] H (c + 3)
theorem vt18_2 (P : Program) (p : Lab) (Q : VPost) (x0 x10 x11 x12 x13 : AV) (H : Heap) (c : Nat) : vc P p r18_2 Q [(0, x0), (10, x10), (11, x11), (12, x12), (13, x13)] H c = V18_2 P p Q x0 x10 x11 x12 x13 H c := by kernel_rfl



end Go.Proofs.Ytbngfbpegdcpkaa
