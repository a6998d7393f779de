/- Texts of the proof, joined. -/
import Derived.Test.YtbngfbpegdcpkaaQ6
import Derived.Test.YtbngfbpegdcpkaaProg
import Derived.KernelRfl
/-! What is owed of functions of the program, as formulas. -/
namespace Go.Proofs.Ytbngfbpegdcpkaa
set_option maxRecDepth 100000
set_option linter.unusedVariables false
set_option linter.unusedSimpArgs false
/-- duet/duetlaw18.EditDoes -/
def c3 : AFun := ⟨2, 59, [.tmp 4],
  (.seq (.region [⟨(some 2), none, .box, [.t 0]⟩, ⟨(some 3), none, .box, [.t 1]⟩, ⟨(some 4), none, .move, [.c (.bool false)]⟩] none [2, 3])
  (.seq (.seq (.region [⟨(some 10), none, (.load 3 true), [.t 2]⟩, ⟨(some 11), none, .call, [.c (.fn (.func 10) [] []), .t 10]⟩, ⟨(some 12), none, (.un .not), [.t 11]⟩] none [2, 3, 12])
  (.cond (.t 12) (.seq (.region [⟨(some 13), none, .call, [.c (.fn (.func 11) [] [])]⟩, ⟨(some 4), none, .move, [.t 13]⟩] none [4])
  .ret)
  .skip))
  (.seq (.region [⟨(some 14), none, (.fieldAddr 1), [.t 2]⟩, ⟨(some 15), none, (.load 1 false), [.t 14]⟩, ⟨(some 16), none, (.build [.nils, (.int .i64 0), .nils] [(1, 1)]), [.t 15]⟩, ⟨(some 5), none, (.alloc [.nils, (.int .i64 0), .nils]), []⟩, ⟨none, none, (.store 3), [.t 5, .t 16]⟩] none [2, 3, 5])
  (.seq (.region [⟨(some 17), none, (.fieldAddr 0), [.t 5]⟩, ⟨(some 18), none, (.load 1 false), [.t 17]⟩, ⟨(some 19), none, (.fieldAddr 0), [.t 2]⟩, ⟨(some 20), none, (.load 1 false), [.t 19]⟩, ⟨(some 21), none, (.append 1 8), [.t 18, .t 20]⟩, ⟨(some 22), none, (.fieldAddr 0), [.t 5]⟩, ⟨none, none, (.store 1), [.t 22, .t 21]⟩] none [2, 3, 5])
  (.seq (.region [⟨(some 23), none, (.fieldAddr 2), [.t 5]⟩, ⟨(some 24), none, (.load 1 false), [.t 23]⟩, ⟨(some 25), none, (.fieldAddr 2), [.t 2]⟩, ⟨(some 26), none, (.load 1 false), [.t 25]⟩, ⟨(some 27), none, (.append 1 8), [.t 24, .t 26]⟩, ⟨(some 28), none, (.fieldAddr 2), [.t 5]⟩, ⟨none, none, (.store 1), [.t 28, .t 27]⟩] none [2, 3, 5])
  (.seq (.region [⟨(some 30), none, (.load 3 true), [.t 5]⟩, ⟨(some 31), none, (.load 2 true), [.t 3]⟩, ⟨(some 32), none, .call, [.c (.fn (.func 13) [] []), .t 31]⟩, ⟨(some 33), none, .call, [.c (.fn (.func 12) [] []), .t 30, .t 32]⟩, ⟨(some 29), none, .move, [.t 33]⟩, ⟨(some 34), none, (.extract 0), [.t 29]⟩, ⟨(some 35), none, (.extract 1), [.t 29]⟩, ⟨(some 6), none, (.alloc [.nils, (.int .i64 0), .nils]), []⟩, ⟨none, none, (.store 3), [.t 6, .t 34]⟩, ⟨(some 7), none, .move, [.t 35]⟩] (some [0, 0, 2, 7, 15, 31, 31, 0, 191, 511]) [2, 3, 5, 6, 7])
  (.seq (.region [⟨(some 37), none, (.load 3 true), [.t 2]⟩, ⟨(some 38), none, (.load 2 true), [.t 3]⟩, ⟨(some 39), none, .call, [.c (.fn (.func 14) [] []), .t 37, .t 38]⟩, ⟨(some 36), none, .move, [.t 39]⟩, ⟨(some 40), none, (.extract 0), [.t 36]⟩, ⟨(some 41), none, (.extract 1), [.t 36]⟩, ⟨(some 8), none, (.alloc [.nils, (.int .i64 0), .nils]), []⟩, ⟨none, none, (.store 3), [.t 8, .t 40]⟩, ⟨(some 9), none, .move, [.t 41]⟩] none [2, 5, 6, 7, 8, 9])
  (.seq (.region [⟨(some 42), none, (.load 3 true), [.t 6]⟩, ⟨(some 43), none, (.load 3 true), [.t 8]⟩, ⟨(some 44), none, .call, [.c (.fn (.func 15) [] []), .t 42, .t 43]⟩, ⟨(some 45), none, .move, [.t 44]⟩, ⟨(some 46), (some (45, true)), .move, [.t 7]⟩, ⟨(some 47), (some (45, true)), .call, [.c (.fn (.func 17) [] []), .t 46]⟩, ⟨(some 48), (some (45, true)), .move, [.t 9]⟩, ⟨(some 49), (some (45, true)), .call, [.c (.fn (.func 16) [] []), .t 47, .t 48]⟩, ⟨(some 50), none, .pick, [.t 45, .t 49, .c (.bool false)]⟩, ⟨(some 51), none, .move, [.t 50]⟩, ⟨(some 52), (some (51, true)), (.load 3 true), [.t 5]⟩, ⟨(some 53), (some (51, true)), (.load 3 true), [.t 2]⟩, ⟨(some 54), (some (51, true)), .call, [.c (.fn (.func 15) [] []), .t 52, .t 53]⟩, ⟨(some 55), none, .pick, [.t 51, .t 54, .c (.bool false)]⟩, ⟨(some 56), none, .move, [.t 55]⟩, ⟨(some 57), (some (56, true)), .call, [.c (.fn (.func 11) [] [])]⟩, ⟨(some 58), none, .pick, [.t 56, .t 57, .c (.bool false)]⟩, ⟨(some 4), none, .move, [.t 58]⟩] none [4])
  .ret))))))))⟩
theorem ok3 : FunOk Try.prog 3 c3 := ⟨⟨Try.f3, _, Try.func3, rfl, by kernel_rfl, by kernel_rfl, by kernel_rfl, by kernel_rfl⟩, by decide⟩
theorem res3 : c3.res = [.tmp 4] := rfl
def k3_0 (P : Program) (p : Lab) (Q : VPost) (y4 : AV) (H : Heap) (c : Nat) : Prop :=
  Q .ret [(4, y4)] H c
def k3_1 (P : Program) (p : Lab) (Q : VPost) (c : Nat) (v13_6 : AV) (H6 : Heap) (l6 : List Lab) (f6 : Option (List Lab)) : Prop :=
  (k3_0 P p Q v13_6 H6 (c + 8))
def k3_2 (P : Program) (p : Lab) (Q : VPost) (H4 : Heap) (c : Nat) (_ : Unit) : Prop :=
  vCall true P 11 [] H4 ((c + 6) :: p) (k3_1 P p Q c)
def k3_6 (P : Program) (p : Lab) (Q : VPost) (y4 : AV) (H : Heap) (c : Nat) : Prop :=
  Q .ret [(4, y4)] H c
def k3_7 (P : Program) (p : Lab) (Q : VPost) (c : Nat) (v57_61 : AV) (H61 : Heap) (l61 : List Lab) (f61 : Option (List Lab)) : Prop :=
  (k3_6 P p Q v57_61 H61 (c + 5))
def k3_8 (P : Program) (p : Lab) (Q : VPost) (H : Heap) (c : Nat) (_ : Unit) : Prop :=
  vCall false P 11 [] H ((c + 2) :: p) (k3_7 P p Q c)
def k3_9 (P : Program) (p : Lab) (Q : VPost)  (H : Heap) (c : Nat) : Prop :=
  Q .ret [(4, (.bool false))] H c
def k3_10 (P : Program) (p : Lab) (Q : VPost) (H : Heap) (c : Nat) (_ : Unit) : Prop :=
  (k3_9 P p Q  H (c + 5))
def k3_5 (P : Program) (p : Lab) (Q : VPost) (y54 : AV) (H : Heap) (c : Nat) : Prop :=
  vSel y54
  (k3_8 P p Q H c)
  (k3_10 P p Q H c)
def k3_11 (P : Program) (p : Lab) (Q : VPost) (c : Nat) (v54_58 : AV) (H58 : Heap) (l58 : List Lab) (f58 : Option (List Lab)) : Prop :=
  (k3_5 P p Q v54_58 H58 (c + 5))
def k3_12 (P : Program) (p : Lab) (Q : VPost) (y2 : AV) (y5 : AV) (H : Heap) (c : Nat) (_ : Unit) : Prop :=
  vLoad 3 true y5 H fun v52_56 _ =>
  vLoad 3 true y2 H fun v53_57 _ =>
  vCall false P 15 [v52_56, v53_57] H ((c + 4) :: p) (k3_11 P p Q c)
def k3_13 (P : Program) (p : Lab) (Q : VPost)  (H : Heap) (c : Nat) : Prop :=
  (k3_9 P p Q  H (c + 5))
def k3_14 (P : Program) (p : Lab) (Q : VPost) (H : Heap) (c : Nat) (_ : Unit) : Prop :=
  (k3_13 P p Q  H (c + 5))
def k3_4 (P : Program) (p : Lab) (Q : VPost) (y2 : AV) (y5 : AV) (y49 : AV) (H : Heap) (c : Nat) : Prop :=
  vSel y49
  (k3_12 P p Q y2 y5 H c)
  (k3_14 P p Q H c)
def k3_15 (P : Program) (p : Lab) (Q : VPost) (y2 : AV) (c : Nat) (v49_53 : AV) (H53 : Heap) (l53 : List Lab) (f53 : Option (List Lab)) : Prop :=
  (k3_4 P p Q y2 (.ptr ((c + 3) :: p) 3 0 0) v49_53 H53 (c + 46))
def k3_16 (P : Program) (p : Lab) (Q : VPost) (v41_42 : AV) (y2 : AV) (c : Nat) (v47_51 : AV) (H51 : Heap) (l51 : List Lab) (f51 : Option (List Lab)) : Prop :=
  vCall false P 16 [v47_51, v41_42] H51 ((c + 45) :: p) (k3_15 P p Q y2 c)
def k3_17 (P : Program) (p : Lab) (Q : VPost) (H48 : Heap) (v41_42 : AV) (v35_33 : AV) (y2 : AV) (c : Nat) (_ : Unit) : Prop :=
  vCall false P 17 [v35_33] H48 ((c + 43) :: p) (k3_16 P p Q v41_42 y2 c)
def k3_19 (P : Program) (p : Lab) (Q : VPost)  (H : Heap) (c : Nat) : Prop :=
  (k3_9 P p Q  H (c + 5))
def k3_18 (P : Program) (p : Lab) (Q : VPost) (y2 : AV) (y5 : AV) (H : Heap) (c : Nat) : Prop :=
  (k3_19 P p Q  H (c + 5))
def k3_20 (P : Program) (p : Lab) (Q : VPost) (H48 : Heap) (y2 : AV) (c : Nat) (_ : Unit) : Prop :=
  (k3_18 P p Q y2 (.ptr ((c + 3) :: p) 3 0 0) H48 (c + 46))
def k3_21 (P : Program) (p : Lab) (Q : VPost) (v41_42 : AV) (v35_33 : AV) (y2 : AV) (c : Nat) (v44_48 : AV) (H48 : Heap) (l48 : List Lab) (f48 : Option (List Lab)) : Prop :=
  vSel v44_48
  (k3_17 P p Q H48 v41_42 v35_33 y2 c)
  (k3_20 P p Q H48 y2 c)
def k3_22 (P : Program) (p : Lab) (Q : VPost) (v41_42 : AV) (v35_33 : AV) (y2 : AV) (c : Nat) (v_44 : AV) (H44 : Heap) (l44 : List Lab) (f44 : Option (List Lab)) : Prop :=
  vLoad 3 true (.ptr ((c + 26) :: p) 3 0 0) H44 fun v42_46 _ =>
  vLoad 3 true (.ptr ((c + 35) :: p) 3 0 0) H44 fun v43_47 _ =>
  vCall true P 15 [v42_46, v43_47] H44 ((c + 40) :: p) (k3_21 P p Q v41_42 v35_33 y2 c)
def k3_23 (P : Program) (p : Lab) (Q : VPost) (v35_33 : AV) (y2 : AV) (c : Nat) (v39_39 : AV) (H39 : Heap) (l39 : List Lab) (f39 : Option (List Lab)) : Prop :=
  vExt 0 v39_39 fun v40_41 =>
  vExt 1 v39_39 fun v41_42 =>
  (fun (H43 : Heap) =>
  vGen (.store 3) [(.ptr ((c + 35) :: p) 3 0 0), v40_41] H43 ((c + 36) :: p) (k3_22 P p Q v41_42 v35_33 y2 c)) (upd [(((c + 35) :: p), some (.rows 3 [[.nils, (.int .i64 0), .nils]]))] H39)
def k3_24 (P : Program) (p : Lab) (Q : VPost) (v35_33 : AV) (l30 : List Lab) (f30 : Option (List Lab)) (l29 : List Lab) (f29 : Option (List Lab)) (f28 : Option (List Lab)) (f27 : Option (List Lab)) (y2 : AV) (y3 : AV) (c : Nat) (v_35 : AV) (H35 : Heap) (l35 : List Lab) (f35 : Option (List Lab)) : Prop :=
  clashFree [0, 0, 2, 7, 15, 31, 31, 0, 191, 511] (addTr 0 [] ((c + 19) :: p) f27 (addTr 1 [] ((c + 20) :: p) f28 (addTr 2 l29 ((c + 21) :: p) f29 (addTr 3 l30 ((c + 22) :: p) f30 (addTr 7 [((c + 26) :: p)] ((c + 26) :: p) (some []) (addTr 8 l35 ((c + 27) :: p) f35 [])))))) ∧
  vLoad 3 true y2 H35 fun v37_37 _ =>
  vLoad 2 true y3 H35 fun v38_38 _ =>
  vCall true P 14 [v37_37, v38_38] H35 ((c + 31) :: p) (k3_23 P p Q v35_33 y2 c)
def k3_25 (P : Program) (p : Lab) (Q : VPost) (l29 : List Lab) (f29 : Option (List Lab)) (f28 : Option (List Lab)) (f27 : Option (List Lab)) (y2 : AV) (y3 : AV) (c : Nat) (v33_30 : AV) (H30 : Heap) (l30 : List Lab) (f30 : Option (List Lab)) : Prop :=
  vExt 0 v33_30 fun v34_32 =>
  vExt 1 v33_30 fun v35_33 =>
  (fun (H34 : Heap) =>
  vGen (.store 3) [(.ptr ((c + 26) :: p) 3 0 0), v34_32] H34 ((c + 27) :: p) (k3_24 P p Q v35_33 l30 f30 l29 f29 f28 f27 y2 y3 c)) (upd [(((c + 26) :: p), some (.rows 3 [[.nils, (.int .i64 0), .nils]]))] H30)
def k3_26 (P : Program) (p : Lab) (Q : VPost) (f28 : Option (List Lab)) (v30_27 : AV) (f27 : Option (List Lab)) (y2 : AV) (y3 : AV) (c : Nat) (v32_29 : AV) (H29 : Heap) (l29 : List Lab) (f29 : Option (List Lab)) : Prop :=
  vCall false P 12 [v30_27, v32_29] H29 ((c + 22) :: p) (k3_25 P p Q l29 f29 f28 f27 y2 y3 c)
def k3_27 (P : Program) (p : Lab) (Q : VPost) (y2 : AV) (y3 : AV) (c : Nat) (v_26 : AV) (H26 : Heap) (l26 : List Lab) (f26 : Option (List Lab)) : Prop :=
  vLoad 3 true (.ptr ((c + 3) :: p) 3 0 0) H26 fun v30_27 f27 =>
  vLoad 2 true y3 H26 fun v31_28 f28 =>
  vCall false P 13 [v31_28] H26 ((c + 21) :: p) (k3_26 P p Q f28 v30_27 f27 y2 y3 c)
def k3_28 (P : Program) (p : Lab) (Q : VPost) (y2 : AV) (y3 : AV) (c : Nat) (v27_24 : AV) (H24 : Heap) (l24 : List Lab) (f24 : Option (List Lab)) : Prop :=
  vFA 2 (.ptr ((c + 3) :: p) 3 0 0) fun v28_25 =>
  vGen (.store 1) [v28_25, v27_24] H24 ((c + 18) :: p) (k3_27 P p Q y2 y3 c)
def k3_29 (P : Program) (p : Lab) (Q : VPost) (y2 : AV) (y3 : AV) (c : Nat) (v_19 : AV) (H19 : Heap) (l19 : List Lab) (f19 : Option (List Lab)) : Prop :=
  vFA 2 (.ptr ((c + 3) :: p) 3 0 0) fun v23_20 =>
  vLoad 1 false v23_20 H19 fun v24_21 _ =>
  vFA 2 y2 fun v25_22 =>
  vLoad 1 false v25_22 H19 fun v26_23 _ =>
  vGen (.append 1 8) [v24_21, v26_23] H19 ((c + 16) :: p) (k3_28 P p Q y2 y3 c)
def k3_30 (P : Program) (p : Lab) (Q : VPost) (y2 : AV) (y3 : AV) (c : Nat) (v21_17 : AV) (H17 : Heap) (l17 : List Lab) (f17 : Option (List Lab)) : Prop :=
  vFA 0 (.ptr ((c + 3) :: p) 3 0 0) fun v22_18 =>
  vGen (.store 1) [v22_18, v21_17] H17 ((c + 11) :: p) (k3_29 P p Q y2 y3 c)
def k3_31 (P : Program) (p : Lab) (Q : VPost) (y2 : AV) (y3 : AV) (c : Nat) (v_12 : AV) (H12 : Heap) (l12 : List Lab) (f12 : Option (List Lab)) : Prop :=
  vFA 0 (.ptr ((c + 3) :: p) 3 0 0) fun v17_13 =>
  vLoad 1 false v17_13 H12 fun v18_14 _ =>
  vFA 0 y2 fun v19_15 =>
  vLoad 1 false v19_15 H12 fun v20_16 _ =>
  vGen (.append 1 8) [v18_14, v20_16] H12 ((c + 9) :: p) (k3_30 P p Q y2 y3 c)
def k3_3 (P : Program) (p : Lab) (Q : VPost) (y2 : AV) (y3 : AV) (y12 : AV) (H : Heap) (c : Nat) : Prop :=
  vFA 1 y2 fun v14_8 =>
  vLoad 1 false v14_8 H fun v15_9 _ =>
  vBuild [.nils, (.int .i64 0), .nils] [(1, 1)] [v15_9] fun v16_10 =>
  (fun (H11 : Heap) =>
  vGen (.store 3) [(.ptr ((c + 3) :: p) 3 0 0), v16_10] H11 ((c + 4) :: p) (k3_31 P p Q y2 y3 c)) (upd [(((c + 3) :: p), some (.rows 3 [[.nils, (.int .i64 0), .nils]]))] H)
def k3_32 (P : Program) (p : Lab) (Q : VPost) (v12_5 : AV) (H4 : Heap) (w1 : List AV) (w0 : List AV) (c : Nat) (_ : Unit) : Prop :=
  (k3_3 P p Q (.ptr (c :: p) w0.length 0 0) (.ptr ((c + 1) :: p) w1.length 0 0) v12_5 H4 (c + 6))
def k3_33 (P : Program) (p : Lab) (Q : VPost) (w1 : List AV) (w0 : List AV) (c : Nat) (v11_4 : AV) (H4 : Heap) (l4 : List Lab) (f4 : Option (List Lab)) : Prop :=
  vNot v11_4 fun v12_5 =>
  vSel v12_5
  (k3_2 P p Q H4 c)
  (k3_32 P p Q v12_5 H4 w1 w0 c)
def V3 (P : Program) (p : Lab) (Q : VPost) (x0 x1 : AV) (H : Heap) (c : Nat) : Prop :=
  vBox x0 fun w0 =>
  (fun (H0 : Heap) =>
  vBox x1 fun w1 =>
  (fun (H1 : Heap) =>
  vLoad 3 true (.ptr (c :: p) w0.length 0 0) H1 fun v10_3 _ =>
  vCall true P 10 [v10_3] H1 ((c + 4) :: p) (k3_33 P p Q w1 w0 c)) (upd [(((c + 1) :: p), some (.rows w1.length [w1]))] H0)) (upd [((c :: p), some (.rows w0.length [w0]))] H)
theorem vt3 (P : Program) (p : Lab) (Q : VPost) (x0 x1 : AV) (H : Heap) (c : Nat) : vc P p c3.body Q [(0, x0), (1, x1)] H c = V3 P p Q x0 x1 H c := by kernel_rfl


/-- duet/duetlaw18.EditApplies -/
def c4 : AFun := ⟨1, 63, [.tmp 2],
  (.seq (.region [⟨(some 1), none, .box, [.t 0]⟩, ⟨(some 2), none, .move, [.c (.bool false)]⟩] none [1])
  (.seq (.region [⟨(some 11), none, (.fieldAddr 0), [.t 1]⟩, ⟨(some 12), none, (.load 1 false), [.t 11]⟩, ⟨(some 13), none, (.fieldAddr 1), [.t 1]⟩, ⟨(some 14), none, (.load 1 false), [.t 13]⟩, ⟨(some 15), none, (.fieldAddr 2), [.t 1]⟩, ⟨(some 16), none, (.load 1 false), [.t 15]⟩, ⟨(some 17), none, (.fieldAddr 3), [.t 1]⟩, ⟨(some 18), none, (.load 1 false), [.t 17]⟩, ⟨(some 3), none, .move, [.t 12]⟩, ⟨(some 4), none, .move, [.t 14]⟩, ⟨(some 5), none, .move, [.t 16]⟩, ⟨(some 6), none, .move, [.t 18]⟩] (some [0, 1, 0, 4, 0, 16, 0, 64, 3, 271, 831, 2047]) [3, 4, 5, 6])
  (.seq (.seq (.region [⟨(some 19), none, .move, [.t 3]⟩, ⟨(some 20), none, (.len .slice), [.t 19]⟩, ⟨(some 21), none, (.bin .gtr .num), [.t 20, .c (.int .i64 300)]⟩, ⟨(some 22), none, .move, [.t 21]⟩, ⟨(some 23), (some (22, false)), .move, [.t 4]⟩, ⟨(some 24), (some (22, false)), (.len .slice), [.t 23]⟩, ⟨(some 25), (some (22, false)), (.bin .gtr .num), [.t 24, .c (.int .i64 60)]⟩, ⟨(some 26), none, .pick, [.t 22, .c (.bool true), .t 25]⟩] none [3, 4, 5, 6, 26])
  (.cond (.t 26) (.seq (.region [⟨(some 27), none, .call, [.c (.fn (.func 11) [] [])]⟩, ⟨(some 2), none, .move, [.t 27]⟩] none [2])
  .ret)
  .skip))
  (.seq (.region [⟨(some 29), none, .move, [.t 3]⟩, ⟨(some 30), none, .move, [.t 4]⟩, ⟨(some 31), none, .call, [.c (.fn (.func 19) [] []), .t 30]⟩, ⟨(some 32), none, .call, [.c (.fn (.func 18) [] []), .t 29, .t 31]⟩, ⟨(some 28), none, .move, [.t 32]⟩, ⟨(some 33), none, (.extract 0), [.t 28]⟩, ⟨(some 34), none, (.extract 1), [.t 28]⟩, ⟨(some 7), none, .move, [.t 33]⟩, ⟨(some 8), none, .move, [.t 34]⟩] none [3, 4, 5, 6, 7, 8])
  (.seq (.region [⟨(some 36), none, .move, [.t 3]⟩, ⟨(some 37), none, .move, [.t 4]⟩, ⟨(some 38), none, .call, [.c (.fn (.func 20) [] []), .t 36, .t 37]⟩, ⟨(some 35), none, .move, [.t 38]⟩, ⟨(some 39), none, (.extract 0), [.t 35]⟩, ⟨(some 40), none, (.extract 1), [.t 35]⟩, ⟨(some 9), none, .move, [.t 39]⟩, ⟨(some 10), none, .move, [.t 40]⟩] none [3, 5, 6, 7, 8, 9, 10])
  (.seq (.region [⟨(some 41), none, .move, [.t 7]⟩, ⟨(some 42), none, .move, [.t 9]⟩, ⟨(some 43), none, .call, [.c (.fn (.func 21) [] []), .t 41, .t 42]⟩, ⟨(some 44), none, .move, [.t 43]⟩, ⟨(some 45), (some (44, true)), .move, [.t 8]⟩, ⟨(some 46), (some (44, true)), .move, [.t 10]⟩, ⟨(some 47), (some (44, true)), (.bin .eql .bool), [.t 45, .t 46]⟩, ⟨(some 48), none, .pick, [.t 44, .t 47, .c (.bool false)]⟩, ⟨(some 49), none, .move, [.t 48]⟩, ⟨(some 50), (some (49, true)), .move, [.t 3]⟩, ⟨(some 51), (some (49, true)), .move, [.t 5]⟩, ⟨(some 52), (some (49, true)), .move, [.t 6]⟩, ⟨(some 53), (some (49, true)), .call, [.c (.fn (.func 22) [] []), .t 50, .t 51, .t 52]⟩, ⟨(some 54), (some (49, true)), .move, [.t 3]⟩, ⟨(some 55), (some (49, true)), .move, [.t 5]⟩, ⟨(some 56), (some (49, true)), .move, [.t 6]⟩, ⟨(some 57), (some (49, true)), .call, [.c (.fn (.func 23) [] []), .t 54, .t 55, .t 56]⟩, ⟨(some 58), (some (49, true)), (.bin .eql .num), [.t 53, .t 57]⟩, ⟨(some 59), none, .pick, [.t 49, .t 58, .c (.bool false)]⟩, ⟨(some 60), none, .move, [.t 59]⟩, ⟨(some 61), (some (60, true)), .call, [.c (.fn (.func 11) [] [])]⟩, ⟨(some 62), none, .pick, [.t 60, .t 61, .c (.bool false)]⟩, ⟨(some 2), none, .move, [.t 62]⟩] none [2])
  .ret))))))⟩
theorem ok4 : FunOk Try.prog 4 c4 := ⟨⟨Try.f4, _, Try.func4, rfl, by kernel_rfl, by kernel_rfl, by kernel_rfl, by kernel_rfl⟩, by decide⟩
theorem res4 : c4.res = [.tmp 2] := rfl
def k4_0 (P : Program) (p : Lab) (Q : VPost) (y3 : AV) (y4 : AV) (y5 : AV) (y6 : AV) (H : Heap) (c : Nat) : Prop :=
  vCall true P 11 [] H (c :: p) (fun v27_19 H19 l19 f19 =>
  Q .ret [(2, v27_19)] H19 (c + 2))
def k4_1 (P : Program) (p : Lab) (Q : VPost) (v18_9 : AV) (v16_7 : AV) (v14_5 : AV) (v12_3 : AV) (H0 : Heap) (c : Nat) (_ : Unit) : Prop :=
  (k4_0 P p Q v12_3 v14_5 v16_7 v18_9 H0 (c + 22))
def k4_3 (P : Program) (p : Lab) (Q : VPost) (y2 : AV) (H : Heap) (c : Nat) : Prop :=
  Q .ret [(2, y2)] H c
def k4_4 (P : Program) (p : Lab) (Q : VPost) (c : Nat) (v27_25 : AV) (H25 : Heap) (l25 : List Lab) (f25 : Option (List Lab)) : Prop :=
  (k4_3 P p Q v27_25 H25 (c + 2))
def k4_5 (P : Program) (p : Lab) (Q : VPost) (H : Heap) (c : Nat) (_ : Unit) : Prop :=
  vCall true P 11 [] H (c :: p) (k4_4 P p Q c)
def k4_9 (P : Program) (p : Lab) (Q : VPost) (y2 : AV) (H : Heap) (c : Nat) : Prop :=
  Q .ret [(2, y2)] H c
def k4_10 (P : Program) (p : Lab) (Q : VPost) (c : Nat) (v61_64 : AV) (H64 : Heap) (l64 : List Lab) (f64 : Option (List Lab)) : Prop :=
  (k4_9 P p Q v61_64 H64 (c + 5))
def k4_11 (P : Program) (p : Lab) (Q : VPost) (H : Heap) (c : Nat) (_ : Unit) : Prop :=
  vCall false P 11 [] H ((c + 2) :: p) (k4_10 P p Q c)
def k4_12 (P : Program) (p : Lab) (Q : VPost)  (H : Heap) (c : Nat) : Prop :=
  Q .ret [(2, (.bool false))] H c
def k4_13 (P : Program) (p : Lab) (Q : VPost) (H : Heap) (c : Nat) (_ : Unit) : Prop :=
  (k4_12 P p Q  H (c + 5))
def k4_8 (P : Program) (p : Lab) (Q : VPost) (y58 : AV) (H : Heap) (c : Nat) : Prop :=
  vSel y58
  (k4_11 P p Q H c)
  (k4_13 P p Q H c)
def k4_14 (P : Program) (p : Lab) (Q : VPost) (v53_56 : AV) (c : Nat) (v57_60 : AV) (H60 : Heap) (l60 : List Lab) (f60 : Option (List Lab)) : Prop :=
  vBin .eql .num v53_56 v57_60 fun v58_61 =>
  (k4_8 P p Q v58_61 H60 (c + 11))
def k4_15 (P : Program) (p : Lab) (Q : VPost) (y3 : AV) (y5 : AV) (y6 : AV) (c : Nat) (v53_56 : AV) (H56 : Heap) (l56 : List Lab) (f56 : Option (List Lab)) : Prop :=
  vCall false P 23 [y3, y5, y6] H56 ((c + 9) :: p) (k4_14 P p Q v53_56 c)
def k4_16 (P : Program) (p : Lab) (Q : VPost) (y3 : AV) (y5 : AV) (y6 : AV) (H : Heap) (c : Nat) (_ : Unit) : Prop :=
  vCall false P 22 [y3, y5, y6] H ((c + 5) :: p) (k4_15 P p Q y3 y5 y6 c)
def k4_17 (P : Program) (p : Lab) (Q : VPost)  (H : Heap) (c : Nat) : Prop :=
  (k4_12 P p Q  H (c + 5))
def k4_18 (P : Program) (p : Lab) (Q : VPost) (H : Heap) (c : Nat) (_ : Unit) : Prop :=
  (k4_17 P p Q  H (c + 11))
def k4_7 (P : Program) (p : Lab) (Q : VPost) (y3 : AV) (y5 : AV) (y6 : AV) (y47 : AV) (H : Heap) (c : Nat) : Prop :=
  vSel y47
  (k4_16 P p Q y3 y5 y6 H c)
  (k4_18 P p Q H c)
def k4_19 (P : Program) (p : Lab) (Q : VPost) (H46 : Heap) (v40_41 : AV) (v34_33 : AV) (y3 : AV) (y5 : AV) (y6 : AV) (c : Nat) (_ : Unit) : Prop :=
  vBin .eql .bool v34_33 v40_41 fun v47_50 =>
  (k4_7 P p Q y3 y5 y6 v47_50 H46 (c + 24))
def k4_21 (P : Program) (p : Lab) (Q : VPost)  (H : Heap) (c : Nat) : Prop :=
  (k4_12 P p Q  H (c + 5))
def k4_20 (P : Program) (p : Lab) (Q : VPost) (y3 : AV) (y5 : AV) (y6 : AV) (H : Heap) (c : Nat) : Prop :=
  (k4_21 P p Q  H (c + 11))
def k4_22 (P : Program) (p : Lab) (Q : VPost) (H46 : Heap) (y3 : AV) (y5 : AV) (y6 : AV) (c : Nat) (_ : Unit) : Prop :=
  (k4_20 P p Q y3 y5 y6 H46 (c + 24))
def k4_23 (P : Program) (p : Lab) (Q : VPost) (v40_41 : AV) (v34_33 : AV) (y3 : AV) (y5 : AV) (y6 : AV) (c : Nat) (v43_46 : AV) (H46 : Heap) (l46 : List Lab) (f46 : Option (List Lab)) : Prop :=
  vSel v43_46
  (k4_19 P p Q H46 v40_41 v34_33 y3 y5 y6 c)
  (k4_22 P p Q H46 y3 y5 y6 c)
def k4_24 (P : Program) (p : Lab) (Q : VPost) (v34_33 : AV) (v33_32 : AV) (y3 : AV) (y5 : AV) (y6 : AV) (c : Nat) (v38_38 : AV) (H38 : Heap) (l38 : List Lab) (f38 : Option (List Lab)) : Prop :=
  vExt 0 v38_38 fun v39_40 =>
  vExt 1 v38_38 fun v40_41 =>
  vCall true P 21 [v33_32, v39_40] H38 ((c + 19) :: p) (k4_23 P p Q v40_41 v34_33 y3 y5 y6 c)
def k4_25 (P : Program) (p : Lab) (Q : VPost) (y3 : AV) (y4 : AV) (y5 : AV) (y6 : AV) (c : Nat) (v32_30 : AV) (H30 : Heap) (l30 : List Lab) (f30 : Option (List Lab)) : Prop :=
  vExt 0 v32_30 fun v33_32 =>
  vExt 1 v32_30 fun v34_33 =>
  vCall true P 20 [y3, y4] H30 ((c + 11) :: p) (k4_24 P p Q v34_33 v33_32 y3 y5 y6 c)
def k4_26 (P : Program) (p : Lab) (Q : VPost) (y3 : AV) (y4 : AV) (y5 : AV) (y6 : AV) (c : Nat) (v31_29 : AV) (H29 : Heap) (l29 : List Lab) (f29 : Option (List Lab)) : Prop :=
  vCall true P 18 [y3, v31_29] H29 ((c + 3) :: p) (k4_25 P p Q y3 y4 y5 y6 c)
def k4_6 (P : Program) (p : Lab) (Q : VPost) (y3 : AV) (y4 : AV) (y5 : AV) (y6 : AV) (y26 : AV) (H : Heap) (c : Nat) : Prop :=
  vCall true P 19 [y4] H ((c + 2) :: p) (k4_26 P p Q y3 y4 y5 y6 c)
def k4_27 (P : Program) (p : Lab) (Q : VPost) (y3 : AV) (y4 : AV) (y5 : AV) (y6 : AV) (y26 : AV) (H : Heap) (c : Nat) (_ : Unit) : Prop :=
  (k4_6 P p Q y3 y4 y5 y6 y26 H c)
def k4_2 (P : Program) (p : Lab) (Q : VPost) (y3 : AV) (y4 : AV) (y5 : AV) (y6 : AV) (y26 : AV) (H : Heap) (c : Nat) : Prop :=
  vSel y26
  (k4_5 P p Q H c)
  (k4_27 P p Q y3 y4 y5 y6 y26 H c)
def k4_28 (P : Program) (p : Lab) (Q : VPost) (v18_9 : AV) (v16_7 : AV) (v14_5 : AV) (v12_3 : AV) (H0 : Heap) (c : Nat) (_ : Unit) : Prop :=
  vLen v14_5 fun v24_22 =>
  vBin .gtr .num v24_22 (.int .i64 60) fun v25_23 =>
  (k4_2 P p Q v12_3 v14_5 v16_7 v18_9 v25_23 H0 (c + 22))
def V4 (P : Program) (p : Lab) (Q : VPost) (x0 : AV) (H : Heap) (c : Nat) : Prop :=
  vBox x0 fun w0 =>
  (fun (H0 : Heap) =>
  vFA 0 (.ptr (c :: p) w0.length 0 0) fun v11_2 =>
  vLoad 1 false v11_2 H0 fun v12_3 f3 =>
  vFA 1 (.ptr (c :: p) w0.length 0 0) fun v13_4 =>
  vLoad 1 false v13_4 H0 fun v14_5 f5 =>
  vFA 2 (.ptr (c :: p) w0.length 0 0) fun v15_6 =>
  vLoad 1 false v15_6 H0 fun v16_7 f7 =>
  vFA 3 (.ptr (c :: p) w0.length 0 0) fun v17_8 =>
  vLoad 1 false v17_8 H0 fun v18_9 f9 =>
  clashFree [0, 1, 0, 4, 0, 16, 0, 64, 3, 271, 831, 2047] (addTr 1 [] ((c + 3) :: p) f3 (addTr 3 [] ((c + 5) :: p) f5 (addTr 5 [] ((c + 7) :: p) f7 (addTr 7 [] ((c + 9) :: p) f9 [])))) ∧
  vLen v12_3 fun v20_15 =>
  vBin .gtr .num v20_15 (.int .i64 300) fun v21_16 =>
  vSel v21_16
  (k4_1 P p Q v18_9 v16_7 v14_5 v12_3 H0 c)
  (k4_28 P p Q v18_9 v16_7 v14_5 v12_3 H0 c)) (upd [((c :: p), some (.rows w0.length [w0]))] H)
theorem vt4 (P : Program) (p : Lab) (Q : VPost) (x0 : AV) (H : Heap) (c : Nat) : vc P p c4.body Q [(0, x0)] H c = V4 P p Q x0 H c := by kernel_rfl


/-- duet/duetlaw18.same -/
def c15 : AFun := ⟨2, 24, [.tmp 4],
  (.seq (.region [⟨(some 2), none, .box, [.t 0]⟩, ⟨(some 3), none, .box, [.t 1]⟩, ⟨(some 4), none, .move, [.c (.bool false)]⟩] none [2, 3])
  (.seq (.region [⟨(some 5), none, (.fieldAddr 0), [.t 2]⟩, ⟨(some 6), none, (.load 1 false), [.t 5]⟩, ⟨(some 7), none, (.fieldAddr 0), [.t 3]⟩, ⟨(some 8), none, (.load 1 false), [.t 7]⟩, ⟨(some 9), none, .call, [.c (.fn (.func 21) [] []), .t 6, .t 8]⟩, ⟨(some 10), none, .move, [.t 9]⟩, ⟨(some 11), (some (10, true)), (.fieldAddr 1), [.t 2]⟩, ⟨(some 12), (some (10, true)), (.load 1 false), [.t 11]⟩, ⟨(some 13), (some (10, true)), (.fieldAddr 1), [.t 3]⟩, ⟨(some 14), (some (10, true)), (.load 1 false), [.t 13]⟩, ⟨(some 15), (some (10, true)), (.bin .eql .num), [.t 12, .t 14]⟩, ⟨(some 16), none, .pick, [.t 10, .t 15, .c (.bool false)]⟩, ⟨(some 17), none, .move, [.t 16]⟩, ⟨(some 18), (some (17, true)), (.fieldAddr 2), [.t 2]⟩, ⟨(some 19), (some (17, true)), (.load 1 false), [.t 18]⟩, ⟨(some 20), (some (17, true)), (.fieldAddr 2), [.t 3]⟩, ⟨(some 21), (some (17, true)), (.load 1 false), [.t 20]⟩, ⟨(some 22), (some (17, true)), .call, [.c (.fn (.func 21) [] []), .t 19, .t 21]⟩, ⟨(some 23), none, .pick, [.t 17, .t 22, .c (.bool false)]⟩, ⟨(some 4), none, .move, [.t 23]⟩] none [4])
  .ret))⟩
theorem ok15 : FunOk Try.prog 15 c15 := ⟨⟨Try.f15, _, Try.func15, rfl, by kernel_rfl, by kernel_rfl, by kernel_rfl, by kernel_rfl⟩, by decide⟩
theorem res15 : c15.res = [.tmp 4] := rfl
def k15_1 (P : Program) (p : Lab) (Q : VPost) (y4 : AV) (H : Heap) (c : Nat) : Prop :=
  Q .ret [(4, y4)] H c
def k15_2 (P : Program) (p : Lab) (Q : VPost) (c : Nat) (v22_20 : AV) (H20 : Heap) (l20 : List Lab) (f20 : Option (List Lab)) : Prop :=
  (k15_1 P p Q v22_20 H20 (c + 9))
def k15_3 (P : Program) (p : Lab) (Q : VPost) (y2 : AV) (y3 : AV) (H : Heap) (c : Nat) (_ : Unit) : Prop :=
  vFA 2 y2 fun v18_16 =>
  vLoad 1 false v18_16 H fun v19_17 _ =>
  vFA 2 y3 fun v20_18 =>
  vLoad 1 false v20_18 H fun v21_19 _ =>
  vCall false P 21 [v19_17, v21_19] H ((c + 6) :: p) (k15_2 P p Q c)
def k15_4 (P : Program) (p : Lab) (Q : VPost)  (H : Heap) (c : Nat) : Prop :=
  Q .ret [(4, (.bool false))] H c
def k15_5 (P : Program) (p : Lab) (Q : VPost) (H : Heap) (c : Nat) (_ : Unit) : Prop :=
  (k15_4 P p Q  H (c + 9))
def k15_0 (P : Program) (p : Lab) (Q : VPost) (y2 : AV) (y3 : AV) (y15 : AV) (H : Heap) (c : Nat) : Prop :=
  vSel y15
  (k15_3 P p Q y2 y3 H c)
  (k15_5 P p Q H c)
def k15_6 (P : Program) (p : Lab) (Q : VPost) (H7 : Heap) (w1 : List AV) (w0 : List AV) (c : Nat) (_ : Unit) : Prop :=
  vFA 1 (.ptr (c :: p) w0.length 0 0) fun v11_9 =>
  vLoad 1 false v11_9 H7 fun v12_10 _ =>
  vFA 1 (.ptr ((c + 1) :: p) w1.length 0 0) fun v13_11 =>
  vLoad 1 false v13_11 H7 fun v14_12 _ =>
  vBin .eql .num v12_10 v14_12 fun v15_13 =>
  (k15_0 P p Q (.ptr (c :: p) w0.length 0 0) (.ptr ((c + 1) :: p) w1.length 0 0) v15_13 H7 (c + 14))
def k15_7 (P : Program) (p : Lab) (Q : VPost) (y2 : AV) (y3 : AV) (H : Heap) (c : Nat) : Prop :=
  (k15_4 P p Q  H (c + 9))
def k15_8 (P : Program) (p : Lab) (Q : VPost) (H7 : Heap) (w1 : List AV) (w0 : List AV) (c : Nat) (_ : Unit) : Prop :=
  (k15_7 P p Q (.ptr (c :: p) w0.length 0 0) (.ptr ((c + 1) :: p) w1.length 0 0) H7 (c + 14))
def k15_9 (P : Program) (p : Lab) (Q : VPost) (w1 : List AV) (w0 : List AV) (c : Nat) (v9_7 : AV) (H7 : Heap) (l7 : List Lab) (f7 : Option (List Lab)) : Prop :=
  vSel v9_7
  (k15_6 P p Q H7 w1 w0 c)
  (k15_8 P p Q H7 w1 w0 c)
def V15 (P : Program) (p : Lab) (Q : VPost) (x0 x1 : AV) (H : Heap) (c : Nat) : Prop :=
  vBox x0 fun w0 =>
  (fun (H0 : Heap) =>
  vBox x1 fun w1 =>
  (fun (H1 : Heap) =>
  vFA 0 (.ptr (c :: p) w0.length 0 0) fun v5_3 =>
  vLoad 1 false v5_3 H1 fun v6_4 _ =>
  vFA 0 (.ptr ((c + 1) :: p) w1.length 0 0) fun v7_5 =>
  vLoad 1 false v7_5 H1 fun v8_6 _ =>
  vCall true P 21 [v6_4, v8_6] H1 ((c + 7) :: p) (k15_9 P p Q w1 w0 c)) (upd [(((c + 1) :: p), some (.rows w1.length [w1]))] H0)) (upd [((c :: p), some (.rows w0.length [w0]))] H)
theorem vt15 (P : Program) (p : Lab) (Q : VPost) (x0 x1 : AV) (H : Heap) (c : Nat) : vc P p c15.body Q [(0, x0), (1, x1)] H c = V15 P p Q x0 x1 H c := by kernel_rfl

def b16_1 : ACode := (.seq (.seq (.region [⟨(some 11), none, .move, [.t 5]⟩, ⟨(some 12), none, .move, [.t 0]⟩, ⟨(some 13), none, (.len .slice), [.t 12]⟩, ⟨(some 14), none, (.bin .lss .num), [.t 11, .t 13]⟩] none [0, 1, 5, 14])
  (.cond (.t 14) .skip
  (.exit 0)))
  (.seq (.block 1 (.seq (.region [⟨(some 17), none, .move, [.t 0]⟩, ⟨(some 18), none, .move, [.t 5]⟩, ⟨(some 19), none, (.indexAddr 3), [.t 17, .t 18]⟩, ⟨(some 20), none, (.load 3 true), [.t 19]⟩, ⟨(some 21), none, .move, [.t 1]⟩, ⟨(some 22), none, .move, [.t 5]⟩, ⟨(some 23), none, (.indexAddr 3), [.t 21, .t 22]⟩, ⟨(some 24), none, (.load 3 true), [.t 23]⟩, ⟨(some 25), none, (.eqs .neq [.int, .int, .int]), [.t 20, .t 24]⟩] (some [0, 0, 3, 7, 0, 0, 48, 112, 255]) [0, 1, 5, 25])
  (.cond (.t 25) (.seq (.region [⟨(some 4), none, .move, [.c (.bool false)]⟩] none [4])
  .ret)
  .skip)))
  (.region [⟨(some 15), none, .move, [.t 5]⟩, ⟨(some 16), none, (.bin .add .num), [.t 15, .c (.int .i64 1)]⟩, ⟨(some 5), none, .move, [.t 16]⟩] none [0, 1, 5])))
def l16_1 : ACode := .loop [0, 1, 5] b16_1
def r16_2 : ACode := (.seq (.region [⟨(some 4), none, .move, [.c (.bool true)]⟩] none [4])
  .ret)
/-- duet/duetref18.Same -/
def c16 : AFun := ⟨2, 26, [.tmp 4],
  (.seq (.region [⟨(some 4), none, .move, [.c (.bool false)]⟩] none [0, 1])
  (.seq (.seq (.region [⟨(some 6), none, .move, [.t 0]⟩, ⟨(some 7), none, (.len .slice), [.t 6]⟩, ⟨(some 8), none, .move, [.t 1]⟩, ⟨(some 9), none, (.len .slice), [.t 8]⟩, ⟨(some 10), none, (.bin .neq .num), [.t 7, .t 9]⟩] none [0, 1, 10])
  (.cond (.t 10) (.seq (.region [⟨(some 4), none, .move, [.c (.bool false)]⟩] none [4])
  .ret)
  .skip))
  (.seq (.seq (.region [⟨(some 5), none, .move, [.c (.int .i64 0)]⟩] none [0, 1, 5])
  (.block 0 l16_1)) r16_2)))⟩
theorem ok16 : FunOk Try.prog 16 c16 := ⟨⟨Try.f16, _, Try.func16, rfl, by kernel_rfl, by kernel_rfl, by kernel_rfl, by kernel_rfl⟩, by decide⟩
theorem res16 : c16.res = [.tmp 4] := rfl
def k16_0 (P : Program) (p : Lab) (Q : VPost)  (H : Heap) (c : Nat) : Prop :=
  Q .ret [(4, (.bool false))] H c
def k16_1 (P : Program) (p : Lab) (Q : VPost) (H : Heap) (c : Nat) (_ : Unit) : Prop :=
  (k16_0 P p Q  H (c + 7))
def q16_0 (P : Program) (p : Lab) (Q : VPost) : VPost := (vblockQ 0 (vseqQ (vc P p r16_2 Q) Q))
theorem q16_0_ret (P : Program) (p : Lab) (Q : VPost) (r : RL) (H : Heap) (c : Nat) : q16_0 P p Q .ret r H c = Q .ret r H c := rfl
def k16_2 (P : Program) (p : Lab) (Q : VPost) (y0 : AV) (y1 : AV) (y10 : AV) (H : Heap) (c : Nat) : Prop :=
  vc P p l16_1 (q16_0 P p Q) [(0, y0), (1, y1), (5, (.int .i64 0))] H (c + 1)
def k16_3 (P : Program) (p : Lab) (Q : VPost) (v10_5 : AV) (x0 : AV) (x1 : AV) (H : Heap) (c : Nat) (_ : Unit) : Prop :=
  (k16_2 P p Q x0 x1 v10_5 H (c + 6))
def V16 (P : Program) (p : Lab) (Q : VPost) (x0 x1 : AV) (H : Heap) (c : Nat) : Prop :=
  vLen x0 fun v7_2 =>
  vLen x1 fun v9_4 =>
  vBin .neq .num v7_2 v9_4 fun v10_5 =>
  vSel v10_5
  (k16_1 P p Q H c)
  (k16_3 P p Q v10_5 x0 x1 H c)
theorem vt16 (P : Program) (p : Lab) (Q : VPost) (x0 x1 : AV) (H : Heap) (c : Nat) : vc P p c16.body Q [(0, x0), (1, x1)] H c = V16 P p Q x0 x1 H c := by kernel_rfl
def k16_5 (P : Program) (p : Lab) (Q : VPost)  (H : Heap) (c : Nat) : Prop :=
  Q .ret [(4, (.bool false))] H c
def k16_6 (P : Program) (p : Lab) (Q : VPost) (H20 : Heap) (c : Nat) (_ : Unit) : Prop :=
  (k16_5 P p Q  H20 (c + 10))
def k16_7 (P : Program) (p : Lab) (Q : VPost) (y0 : AV) (y1 : AV) (y5 : AV) (y25 : AV) (H : Heap) (c : Nat) : Prop :=
  vBin .add .num y5 (.int .i64 1) fun v16_23 =>
  Q .normal [(0, y0), (1, y1), (5, v16_23)] H (c + 3)
def k16_8 (P : Program) (p : Lab) (Q : VPost) (v25_20 : AV) (H20 : Heap) (y0 : AV) (y1 : AV) (y5 : AV) (c : Nat) (_ : Unit) : Prop :=
  (k16_7 P p Q y0 y1 y5 v25_20 H20 (c + 9))
def k16_9 (P : Program) (p : Lab) (Q : VPost) (f19 : Option (List Lab)) (f15 : Option (List Lab)) (y0 : AV) (y1 : AV) (y5 : AV) (c : Nat) (v25_20 : AV) (H20 : Heap) (l20 : List Lab) (f20 : Option (List Lab)) : Prop :=
  clashFree [0, 0, 3, 7, 0, 0, 48, 112, 255] (addTr 3 [] ((c + 3) :: p) f15 (addTr 7 [] ((c + 7) :: p) f19 (addTr 8 l20 ((c + 8) :: p) f20 []))) ∧
  vSel v25_20
  (k16_6 P p Q H20 c)
  (k16_8 P p Q v25_20 H20 y0 y1 y5 c)
def k16_4 (P : Program) (p : Lab) (Q : VPost) (y0 : AV) (y1 : AV) (y5 : AV) (y14 : AV) (H : Heap) (c : Nat) : Prop :=
  vIx 3 y0 y5 fun v19_14 =>
  vLoad 3 true v19_14 H fun v20_15 f15 =>
  vIx 3 y1 y5 fun v23_18 =>
  vLoad 3 true v23_18 H fun v24_19 f19 =>
  vGen (.eqs .neq [.int, .int, .int]) [v20_15, v24_19] H ((c + 8) :: p) (k16_9 P p Q f19 f15 y0 y1 y5 c)
def k16_10 (P : Program) (p : Lab) (Q : VPost) (v14_11 : AV) (x0 : AV) (x1 : AV) (x5 : AV) (H : Heap) (c : Nat) (_ : Unit) : Prop :=
  (k16_4 P p Q x0 x1 x5 v14_11 H (c + 4))
def V16_1 (P : Program) (p : Lab) (Q : VPost) (x0 x1 x5 : AV) (H : Heap) (c : Nat) : Prop :=
  vLen x0 fun v13_10 =>
  vBin .lss .num x5 v13_10 fun v14_11 =>
  vSel v14_11
  (k16_10 P p Q v14_11 x0 x1 x5 H c)
  (fun _ =>
  Q (.exit 0) [(0, x0), (1, x1), (5, x5), (14, v14_11)] H (c + 4))
theorem vt16_1 (P : Program) (p : Lab) (Q : VPost) (x0 x1 x5 : AV) (H : Heap) (c : Nat) : vc P p b16_1 Q [(0, x0), (1, x1), (5, x5)] H c = V16_1 P p Q x0 x1 x5 H c := by kernel_rfl
theorem q16_0_e0 (P : Program) (p : Lab) (Q : VPost) (r : RL) (H : Heap) (c : Nat) : q16_0 P p Q (.exit 0) r H c = (vc P p r16_2 Q r H c) := rfl
def V16_2 (P : Program) (p : Lab) (Q : VPost) (x0 x1 x5 x14 : AV) (H : Heap) (c : Nat) : Prop :=
  Q .ret [(4, (.bool true))] H (c + 1)
theorem vt16_2 (P : Program) (p : Lab) (Q : VPost) (x0 x1 x5 x14 : AV) (H : Heap) (c : Nat) : vc P p r16_2 Q [(0, x0), (1, x1), (5, x5), (14, x14)] H c = V16_2 P p Q x0 x1 x5 x14 H c := by kernel_rfl

def b17_1 : ACode := (.seq (.seq (.region [⟨(some 5), none, .move, [.t 4]⟩, ⟨(some 6), none, .move, [.t 0]⟩, ⟨(some 7), none, (.len .slice), [.t 6]⟩, ⟨(some 8), none, (.bin .lss .num), [.t 5, .t 7]⟩] none [0, 3, 4, 8])
  (.cond (.t 8) .skip
  (.exit 0)))
  (.seq (.block 1 (.region [⟨(some 11), none, .move, [.t 3]⟩, ⟨(some 12), none, .move, [.t 0]⟩, ⟨(some 13), none, .move, [.t 4]⟩, ⟨(some 14), none, (.indexAddr 3), [.t 12, .t 13]⟩, ⟨(some 15), none, (.fieldAddr 0), [.t 14]⟩, ⟨(some 16), none, (.load 1 false), [.t 15]⟩, ⟨(some 17), none, .move, [.t 0]⟩, ⟨(some 18), none, .move, [.t 4]⟩, ⟨(some 19), none, (.indexAddr 3), [.t 17, .t 18]⟩, ⟨(some 20), none, (.fieldAddr 1), [.t 19]⟩, ⟨(some 21), none, (.load 1 false), [.t 20]⟩, ⟨(some 22), none, .move, [.t 0]⟩, ⟨(some 23), none, .move, [.t 4]⟩, ⟨(some 24), none, (.indexAddr 3), [.t 22, .t 23]⟩, ⟨(some 25), none, (.fieldAddr 2), [.t 24]⟩, ⟨(some 26), none, (.load 1 false), [.t 25]⟩, ⟨(some 27), none, (.build [(.int .i64 0), (.int .i64 0), (.int .i64 0)] [(0, 1), (1, 1), (2, 1)]), [.t 16, .t 21, .t 26]⟩, ⟨(some 28), none, (.buildSlice 3 [(.int .i64 0), (.int .i64 0), (.int .i64 0)] [(0, 3)]), [.t 27]⟩, ⟨(some 29), none, (.append 3 24), [.t 11, .t 28]⟩, ⟨(some 3), none, .move, [.t 29]⟩] (some [0, 0, 0, 6, 14, 30, 0, 0, 192, 448, 960, 0, 0, 6144, 14336, 30720, 65534, 131070, 262143, 524287]) [0, 3, 4]))
  (.region [⟨(some 9), none, .move, [.t 4]⟩, ⟨(some 10), none, (.bin .add .num), [.t 9, .c (.int .i64 1)]⟩, ⟨(some 4), none, .move, [.t 10]⟩] none [0, 3, 4])))
def l17_1 : ACode := .loop [0, 3, 4] b17_1
def r17_2 : ACode := (.seq (.region [⟨(some 30), none, .move, [.t 3]⟩, ⟨(some 2), none, .move, [.t 30]⟩] none [2])
  .ret)
/-- duet/duetlaw18.Told -/
def c17 : AFun := ⟨1, 31, [.tmp 2],
  (.seq (.region [⟨(some 2), none, .move, [.c .nils]⟩] none [0])
  (.seq (.region [⟨(some 3), none, .move, [.c .nils]⟩] none [0, 3])
  (.seq (.seq (.region [⟨(some 4), none, .move, [.c (.int .i64 0)]⟩] none [0, 3, 4])
  (.block 0 l17_1)) r17_2)))⟩
theorem ok17 : FunOk Try.prog 17 c17 := ⟨⟨Try.f17, _, Try.func17, rfl, by kernel_rfl, by kernel_rfl, by kernel_rfl, by kernel_rfl⟩, by decide⟩
theorem res17 : c17.res = [.tmp 2] := rfl
def q17_0 (P : Program) (p : Lab) (Q : VPost) : VPost := (vblockQ 0 (vseqQ (vc P p r17_2 Q) Q))
theorem q17_0_ret (P : Program) (p : Lab) (Q : VPost) (r : RL) (H : Heap) (c : Nat) : q17_0 P p Q .ret r H c = Q .ret r H c := rfl
def V17 (P : Program) (p : Lab) (Q : VPost) (x0 : AV) (H : Heap) (c : Nat) : Prop :=
  vc P p l17_1 (q17_0 P p Q) [(0, x0), (3, .nils), (4, (.int .i64 0))] H (c + 3)
theorem vt17 (P : Program) (p : Lab) (Q : VPost) (x0 : AV) (H : Heap) (c : Nat) : vc P p c17.body Q [(0, x0)] H c = V17 P p Q x0 H c := by kernel_rfl
def k17_1 (P : Program) (p : Lab) (Q : VPost) (f22 : Option (List Lab)) (f17 : Option (List Lab)) (f12 : Option (List Lab)) (y0 : AV) (y4 : AV) (c : Nat) (v29_25 : AV) (H25 : Heap) (l25 : List Lab) (f25 : Option (List Lab)) : Prop :=
  clashFree [0, 0, 0, 6, 14, 30, 0, 0, 192, 448, 960, 0, 0, 6144, 14336, 30720, 65534, 131070, 262143, 524287] (addTr 5 [] ((c + 5) :: p) f12 (addTr 10 [] ((c + 10) :: p) f17 (addTr 15 [] ((c + 15) :: p) f22 (addTr 17 [((c + 17) :: p)] ((c + 17) :: p) (some []) (addTr 18 l25 ((c + 18) :: p) f25 []))))) ∧
  vBin .add .num y4 (.int .i64 1) fun v10_28 =>
  Q .normal [(0, y0), (3, v29_25), (4, v10_28)] H25 (c + 23)
def k17_0 (P : Program) (p : Lab) (Q : VPost) (y0 : AV) (y3 : AV) (y4 : AV) (y8 : AV) (H : Heap) (c : Nat) : Prop :=
  vIx 3 y0 y4 fun v14_10 =>
  vFA 0 v14_10 fun v15_11 =>
  vLoad 1 false v15_11 H fun v16_12 f12 =>
  vIx 3 y0 y4 fun v19_15 =>
  vFA 1 v19_15 fun v20_16 =>
  vLoad 1 false v20_16 H fun v21_17 f17 =>
  vIx 3 y0 y4 fun v24_20 =>
  vFA 2 v24_20 fun v25_21 =>
  vLoad 1 false v25_21 H fun v26_22 f22 =>
  vBuild [(.int .i64 0), (.int .i64 0), (.int .i64 0)] [(0, 1), (1, 1), (2, 1)] [v16_12, v21_17, v26_22] fun v27_23 =>
  vBuildS 3 [(.int .i64 0), (.int .i64 0), (.int .i64 0)] [(0, 3)] [v27_23] fun w24 n24 =>
  (fun (H24 : Heap) =>
  vGen (.append 3 24) [y3, (.sl ((c + 17) :: p) 3 0 n24)] H24 ((c + 18) :: p) (k17_1 P p Q f22 f17 f12 y0 y4 c)) (upd [(((c + 17) :: p), some (.rows 3 w24))] H)
def k17_2 (P : Program) (p : Lab) (Q : VPost) (v8_6 : AV) (x0 : AV) (x3 : AV) (x4 : AV) (H : Heap) (c : Nat) (_ : Unit) : Prop :=
  (k17_0 P p Q x0 x3 x4 v8_6 H (c + 4))
def V17_1 (P : Program) (p : Lab) (Q : VPost) (x0 x3 x4 : AV) (H : Heap) (c : Nat) : Prop :=
  vLen x0 fun v7_5 =>
  vBin .lss .num x4 v7_5 fun v8_6 =>
  vSel v8_6
  (k17_2 P p Q v8_6 x0 x3 x4 H c)
  (fun _ =>
  Q (.exit 0) [(0, x0), (3, x3), (4, x4), (8, v8_6)] H (c + 4))
theorem vt17_1 (P : Program) (p : Lab) (Q : VPost) (x0 x3 x4 : AV) (H : Heap) (c : Nat) : vc P p b17_1 Q [(0, x0), (3, x3), (4, x4)] H c = V17_1 P p Q x0 x3 x4 H c := by kernel_rfl
theorem q17_0_e0 (P : Program) (p : Lab) (Q : VPost) (r : RL) (H : Heap) (c : Nat) : q17_0 P p Q (.exit 0) r H c = (vc P p r17_2 Q r H c) := rfl
def V17_2 (P : Program) (p : Lab) (Q : VPost) (x0 x3 x4 x8 : AV) (H : Heap) (c : Nat) : Prop :=
  Q .ret [(2, x3)] H (c + 2)
theorem vt17_2 (P : Program) (p : Lab) (Q : VPost) (x0 x3 x4 x8 : AV) (H : Heap) (c : Nat) : vc P p r17_2 Q [(0, x0), (3, x3), (4, x4), (8, x8)] H c = V17_2 P p Q x0 x3 x4 x8 H c := by kernel_rfl

def b19_1 : ACode := (.seq (.seq (.region [⟨(some 5), none, .move, [.t 4]⟩, ⟨(some 6), none, .move, [.t 0]⟩, ⟨(some 7), none, (.len .slice), [.t 6]⟩, ⟨(some 8), none, (.bin .lss .num), [.t 5, .t 7]⟩] none [0, 3, 4, 8])
  (.cond (.t 8) .skip
  (.exit 0)))
  (.seq (.block 1 (.region [⟨(some 11), none, .move, [.t 3]⟩, ⟨(some 12), none, .move, [.t 0]⟩, ⟨(some 13), none, .move, [.t 4]⟩, ⟨(some 14), none, (.indexAddr 3), [.t 12, .t 13]⟩, ⟨(some 15), none, (.fieldAddr 0), [.t 14]⟩, ⟨(some 16), none, (.load 1 false), [.t 15]⟩, ⟨(some 17), none, .move, [.t 0]⟩, ⟨(some 18), none, .move, [.t 4]⟩, ⟨(some 19), none, (.indexAddr 3), [.t 17, .t 18]⟩, ⟨(some 20), none, (.fieldAddr 1), [.t 19]⟩, ⟨(some 21), none, (.load 1 false), [.t 20]⟩, ⟨(some 22), none, .move, [.t 0]⟩, ⟨(some 23), none, .move, [.t 4]⟩, ⟨(some 24), none, (.indexAddr 3), [.t 22, .t 23]⟩, ⟨(some 25), none, (.fieldAddr 2), [.t 24]⟩, ⟨(some 26), none, (.load 1 false), [.t 25]⟩, ⟨(some 27), none, (.build [(.int .i64 0), (.int .i64 0), (.int .i64 0)] [(0, 1), (1, 1), (2, 1)]), [.t 16, .t 21, .t 26]⟩, ⟨(some 28), none, (.buildSlice 3 [(.int .i64 0), (.int .i64 0), (.int .i64 0)] [(0, 3)]), [.t 27]⟩, ⟨(some 29), none, (.append 3 24), [.t 11, .t 28]⟩, ⟨(some 3), none, .move, [.t 29]⟩] (some [0, 0, 0, 6, 14, 30, 0, 0, 192, 448, 960, 0, 0, 6144, 14336, 30720, 65534, 131070, 262143, 524287]) [0, 3, 4]))
  (.region [⟨(some 9), none, .move, [.t 4]⟩, ⟨(some 10), none, (.bin .add .num), [.t 9, .c (.int .i64 1)]⟩, ⟨(some 4), none, .move, [.t 10]⟩] none [0, 3, 4])))
def l19_1 : ACode := .loop [0, 3, 4] b19_1
def r19_2 : ACode := (.seq (.region [⟨(some 30), none, .move, [.t 3]⟩, ⟨(some 2), none, .move, [.t 30]⟩] none [2])
  .ret)
/-- duet/duetlaw18.acts -/
def c19 : AFun := ⟨1, 31, [.tmp 2],
  (.seq (.region [⟨(some 2), none, .move, [.c .nils]⟩] none [0])
  (.seq (.region [⟨(some 3), none, .move, [.c .nils]⟩] none [0, 3])
  (.seq (.seq (.region [⟨(some 4), none, .move, [.c (.int .i64 0)]⟩] none [0, 3, 4])
  (.block 0 l19_1)) r19_2)))⟩
theorem ok19 : FunOk Try.prog 19 c19 := ⟨⟨Try.f19, _, Try.func19, rfl, by kernel_rfl, by kernel_rfl, by kernel_rfl, by kernel_rfl⟩, by decide⟩
theorem res19 : c19.res = [.tmp 2] := rfl
def q19_0 (P : Program) (p : Lab) (Q : VPost) : VPost := (vblockQ 0 (vseqQ (vc P p r19_2 Q) Q))
theorem q19_0_ret (P : Program) (p : Lab) (Q : VPost) (r : RL) (H : Heap) (c : Nat) : q19_0 P p Q .ret r H c = Q .ret r H c := rfl
def V19 (P : Program) (p : Lab) (Q : VPost) (x0 : AV) (H : Heap) (c : Nat) : Prop :=
  vc P p l19_1 (q19_0 P p Q) [(0, x0), (3, .nils), (4, (.int .i64 0))] H (c + 3)
theorem vt19 (P : Program) (p : Lab) (Q : VPost) (x0 : AV) (H : Heap) (c : Nat) : vc P p c19.body Q [(0, x0)] H c = V19 P p Q x0 H c := by kernel_rfl
def k19_1 (P : Program) (p : Lab) (Q : VPost) (f22 : Option (List Lab)) (f17 : Option (List Lab)) (f12 : Option (List Lab)) (y0 : AV) (y4 : AV) (c : Nat) (v29_25 : AV) (H25 : Heap) (l25 : List Lab) (f25 : Option (List Lab)) : Prop :=
  clashFree [0, 0, 0, 6, 14, 30, 0, 0, 192, 448, 960, 0, 0, 6144, 14336, 30720, 65534, 131070, 262143, 524287] (addTr 5 [] ((c + 5) :: p) f12 (addTr 10 [] ((c + 10) :: p) f17 (addTr 15 [] ((c + 15) :: p) f22 (addTr 17 [((c + 17) :: p)] ((c + 17) :: p) (some []) (addTr 18 l25 ((c + 18) :: p) f25 []))))) ∧
  vBin .add .num y4 (.int .i64 1) fun v10_28 =>
  Q .normal [(0, y0), (3, v29_25), (4, v10_28)] H25 (c + 23)
def k19_0 (P : Program) (p : Lab) (Q : VPost) (y0 : AV) (y3 : AV) (y4 : AV) (y8 : AV) (H : Heap) (c : Nat) : Prop :=
  vIx 3 y0 y4 fun v14_10 =>
  vFA 0 v14_10 fun v15_11 =>
  vLoad 1 false v15_11 H fun v16_12 f12 =>
  vIx 3 y0 y4 fun v19_15 =>
  vFA 1 v19_15 fun v20_16 =>
  vLoad 1 false v20_16 H fun v21_17 f17 =>
  vIx 3 y0 y4 fun v24_20 =>
  vFA 2 v24_20 fun v25_21 =>
  vLoad 1 false v25_21 H fun v26_22 f22 =>
  vBuild [(.int .i64 0), (.int .i64 0), (.int .i64 0)] [(0, 1), (1, 1), (2, 1)] [v16_12, v21_17, v26_22] fun v27_23 =>
  vBuildS 3 [(.int .i64 0), (.int .i64 0), (.int .i64 0)] [(0, 3)] [v27_23] fun w24 n24 =>
  (fun (H24 : Heap) =>
  vGen (.append 3 24) [y3, (.sl ((c + 17) :: p) 3 0 n24)] H24 ((c + 18) :: p) (k19_1 P p Q f22 f17 f12 y0 y4 c)) (upd [(((c + 17) :: p), some (.rows 3 w24))] H)
def k19_2 (P : Program) (p : Lab) (Q : VPost) (v8_6 : AV) (x0 : AV) (x3 : AV) (x4 : AV) (H : Heap) (c : Nat) (_ : Unit) : Prop :=
  (k19_0 P p Q x0 x3 x4 v8_6 H (c + 4))
def V19_1 (P : Program) (p : Lab) (Q : VPost) (x0 x3 x4 : AV) (H : Heap) (c : Nat) : Prop :=
  vLen x0 fun v7_5 =>
  vBin .lss .num x4 v7_5 fun v8_6 =>
  vSel v8_6
  (k19_2 P p Q v8_6 x0 x3 x4 H c)
  (fun _ =>
  Q (.exit 0) [(0, x0), (3, x3), (4, x4), (8, v8_6)] H (c + 4))
theorem vt19_1 (P : Program) (p : Lab) (Q : VPost) (x0 x3 x4 : AV) (H : Heap) (c : Nat) : vc P p b19_1 Q [(0, x0), (3, x3), (4, x4)] H c = V19_1 P p Q x0 x3 x4 H c := by kernel_rfl
theorem q19_0_e0 (P : Program) (p : Lab) (Q : VPost) (r : RL) (H : Heap) (c : Nat) : q19_0 P p Q (.exit 0) r H c = (vc P p r19_2 Q r H c) := rfl
def V19_2 (P : Program) (p : Lab) (Q : VPost) (x0 x3 x4 x8 : AV) (H : Heap) (c : Nat) : Prop :=
  Q .ret [(2, x3)] H (c + 2)
theorem vt19_2 (P : Program) (p : Lab) (Q : VPost) (x0 x3 x4 x8 : AV) (H : Heap) (c : Nat) : vc P p r19_2 Q [(0, x0), (3, x3), (4, x4), (8, x8)] H c = V19_2 P p Q x0 x3 x4 x8 H c := by kernel_rfl



end Go.Proofs.Ytbngfbpegdcpkaa
/-! Acts in the document's terms and in the program's; the law EditApplies. -/
namespace Go.Proofs.Ytbngfbpegdcpkaa
set_option linter.unusedVariables false
set_option linter.unusedSimpArgs false
set_option maxRecDepth 100000
theorem acts_pure (A : List ActV) (hA : A.length ≤ 1000000) : Pure Try.prog 19 [.isl 3 (A.map encA)] (.isl 3 (A.map encA)) := by
  refine pure_vc Try.mixed ok19 rfl (fun q => ?_)
  simp only [params, Nat.zero_add, Nat.reduceAdd]
  simp (disch := omega) only [sel_t, sel_f, sel_dt, sel_df, sel_nt, sel_nf, v_lss, v_leq, v_gtr, v_geq, v_eql, v_neq, v_add, v_sub, v_not, v_min, v_max, v_pick_t, v_pick_f, v_ext0, v_ext1, v_ext2, v_len_isl, List.length_map, v_len_nils, v_len_sl0, v_len_sl, v_ix_map, v_ix_sl, v_nil_ptr, v_nil_iptr, v_fa_ptr, v_fa_iptr, cell_0, cell_s, cell_a2, cell_a3, cell_a7, cell_a10, v_load_map, v_load_r1, v_call_fn, v_call_fnS, v_load_H, ldH_one, ldH_map, v_store_H, stH_one, upd_same, upd_cons_ne, upd_nil, v_box, v_fld, eqs_nils, eqs_sl, v_eqs_ii, v_neqs_ii, sel_andt, sel_andf, sel_nandt, sel_nandf, encI, Int.toNat_natCast, lq_e, lq_r, Bool.not_true, Bool.not_false, Bool.false_eq_true, reduceIte, decide_true, decide_false, v_build_fill, v_buildS_fill, fill_nil, fill_cons, AV.cells, putL, chunk, List.length_cons, List.length_nil, Nat.reduceAdd, Nat.reduceDiv, Nat.reduceMod, List.take_succ_cons, List.take_zero, List.take_nil, List.drop_succ_cons, List.drop_zero, List.drop_nil, List.cons_append, List.nil_append, List.append_nil, List.all_cons, List.all_nil, AV.one, Nat.reduceLeDiff, and_self, and_true, true_and, Nat.zero_add, ne_eq, Nat.succ_ne_zero, not_false_eq_true, Bool.and_self, Nat.reduceEqDiff, Nat.le_refl, res19, q19_0_ret, q19_0_e0, vt19, vt19_1, vt19_2, V19, V19_1, V19_2, k19_1, k19_0, k19_2, encA]
  refine vloop (fun n r H c => ∃ (i : Nat) (x : AV), r = [(0, .isl 3 (A.map encA)), (3, x), (4, .int .i64 i)] ∧ i ≤ A.length ∧ n = A.length - i ∧ Own H x 3 ((A.take i).map encA) ∧ Fresh q c H) A.length ⟨0, .nils, rfl, Nat.zero_le _, rfl, .nils, .empty⟩ ?_
  rintro n r H c ⟨i, x, rfl, hi, rfl, ho, hf⟩
  repeat' (first | (simp (disch := omega) only [sel_t, sel_f, sel_dt, sel_df, sel_nt, sel_nf, v_lss, v_leq, v_gtr, v_geq, v_eql, v_neq, v_add, v_sub, v_not, v_min, v_max, v_pick_t, v_pick_f, v_ext0, v_ext1, v_ext2, v_len_isl, List.length_map, v_len_nils, v_len_sl0, v_len_sl, v_ix_map, v_ix_sl, v_nil_ptr, v_nil_iptr, v_fa_ptr, v_fa_iptr, cell_0, cell_s, cell_a2, cell_a3, cell_a7, cell_a10, v_load_map, v_load_r1, v_call_fn, v_call_fnS, v_load_H, ldH_one, ldH_map, v_store_H, stH_one, upd_same, upd_cons_ne, upd_nil, v_box, v_fld, eqs_nils, eqs_sl, v_eqs_ii, v_neqs_ii, sel_andt, sel_andf, sel_nandt, sel_nandf, encI, Int.toNat_natCast, lq_e, lq_r, Bool.not_true, Bool.not_false, Bool.false_eq_true, reduceIte, decide_true, decide_false, v_build_fill, v_buildS_fill, fill_nil, fill_cons, AV.cells, putL, chunk, List.length_cons, List.length_nil, Nat.reduceAdd, Nat.reduceDiv, Nat.reduceMod, List.take_succ_cons, List.take_zero, List.take_nil, List.drop_succ_cons, List.drop_zero, List.drop_nil, List.cons_append, List.nil_append, List.append_nil, List.all_cons, List.all_nil, AV.one, Nat.reduceLeDiff, and_self, and_true, true_and, Nat.zero_add, ne_eq, Nat.succ_ne_zero, not_false_eq_true, Bool.and_self, Nat.reduceEqDiff, Nat.le_refl, res19, q19_0_ret, q19_0_e0, vt19, vt19_1, vt19_2, V19, V19_1, V19_2, k19_1, k19_0, k19_2, encA]) | (refine sel_d (fun _ => ?_) (fun _ => ?_)) | (refine sel_n (fun _ => ?_) (fun _ => ?_)) | (refine sel_and (fun _ => ?_) (fun _ => ?_)) | (refine sel_nand (fun _ => ?_) (fun _ => ?_)) | (refine And.intro (clash_quiet rfl) ?_) | (refine eqs_isl (fun _ => ?_) ?_) | (exfalso; omega; done))
  · refine push_own ho hf (by omega) (by omega) (by decide) ?_ ?_ (fun x' H' l f ho' hf' _ => ?_)
    · simp only [List.length_map, List.length_take]; omega
    · simp only [List.length_map, List.length_take]; omega
    repeat' (first | (simp (disch := omega) only [sel_t, sel_f, sel_dt, sel_df, sel_nt, sel_nf, v_lss, v_leq, v_gtr, v_geq, v_eql, v_neq, v_add, v_sub, v_not, v_min, v_max, v_pick_t, v_pick_f, v_ext0, v_ext1, v_ext2, v_len_isl, List.length_map, v_len_nils, v_len_sl0, v_len_sl, v_ix_map, v_ix_sl, v_nil_ptr, v_nil_iptr, v_fa_ptr, v_fa_iptr, cell_0, cell_s, cell_a2, cell_a3, cell_a7, cell_a10, v_load_map, v_load_r1, v_call_fn, v_call_fnS, v_load_H, ldH_one, ldH_map, v_store_H, stH_one, upd_same, upd_cons_ne, upd_nil, v_box, v_fld, eqs_nils, eqs_sl, v_eqs_ii, v_neqs_ii, sel_andt, sel_andf, sel_nandt, sel_nandf, encI, Int.toNat_natCast, lq_e, lq_r, Bool.not_true, Bool.not_false, Bool.false_eq_true, reduceIte, decide_true, decide_false, v_build_fill, v_buildS_fill, fill_nil, fill_cons, AV.cells, putL, chunk, List.length_cons, List.length_nil, Nat.reduceAdd, Nat.reduceDiv, Nat.reduceMod, List.take_succ_cons, List.take_zero, List.take_nil, List.drop_succ_cons, List.drop_zero, List.drop_nil, List.cons_append, List.nil_append, List.append_nil, List.all_cons, List.all_nil, AV.one, Nat.reduceLeDiff, and_self, and_true, true_and, Nat.zero_add, ne_eq, Nat.succ_ne_zero, not_false_eq_true, Bool.and_self, Nat.reduceEqDiff, Nat.le_refl, res19, q19_0_ret, q19_0_e0, vt19, vt19_1, vt19_2, V19, V19_1, V19_2, k19_1, k19_0, k19_2, encA]) | (refine sel_d (fun _ => ?_) (fun _ => ?_)) | (refine sel_n (fun _ => ?_) (fun _ => ?_)) | (refine sel_and (fun _ => ?_) (fun _ => ?_)) | (refine sel_nand (fun _ => ?_) (fun _ => ?_)) | (refine And.intro (clash_quiet rfl) ?_) | (refine eqs_isl (fun _ => ?_) ?_) | (exfalso; omega; done))
    refine ⟨clash_ord (.read (.read (.read (.write (.write .nil))))) rfl, ?_⟩
    repeat' (first | (simp (disch := omega) only [sel_t, sel_f, sel_dt, sel_df, sel_nt, sel_nf, v_lss, v_leq, v_gtr, v_geq, v_eql, v_neq, v_add, v_sub, v_not, v_min, v_max, v_pick_t, v_pick_f, v_ext0, v_ext1, v_ext2, v_len_isl, List.length_map, v_len_nils, v_len_sl0, v_len_sl, v_ix_map, v_ix_sl, v_nil_ptr, v_nil_iptr, v_fa_ptr, v_fa_iptr, cell_0, cell_s, cell_a2, cell_a3, cell_a7, cell_a10, v_load_map, v_load_r1, v_call_fn, v_call_fnS, v_load_H, ldH_one, ldH_map, v_store_H, stH_one, upd_same, upd_cons_ne, upd_nil, v_box, v_fld, eqs_nils, eqs_sl, v_eqs_ii, v_neqs_ii, sel_andt, sel_andf, sel_nandt, sel_nandf, encI, Int.toNat_natCast, lq_e, lq_r, Bool.not_true, Bool.not_false, Bool.false_eq_true, reduceIte, decide_true, decide_false, v_build_fill, v_buildS_fill, fill_nil, fill_cons, AV.cells, putL, chunk, List.length_cons, List.length_nil, Nat.reduceAdd, Nat.reduceDiv, Nat.reduceMod, List.take_succ_cons, List.take_zero, List.take_nil, List.drop_succ_cons, List.drop_zero, List.drop_nil, List.cons_append, List.nil_append, List.append_nil, List.all_cons, List.all_nil, AV.one, Nat.reduceLeDiff, and_self, and_true, true_and, Nat.zero_add, ne_eq, Nat.succ_ne_zero, not_false_eq_true, Bool.and_self, Nat.reduceEqDiff, Nat.le_refl, res19, q19_0_ret, q19_0_e0, vt19, vt19_1, vt19_2, V19, V19_1, V19_2, k19_1, k19_0, k19_2, encA]) | (refine sel_d (fun _ => ?_) (fun _ => ?_)) | (refine sel_n (fun _ => ?_) (fun _ => ?_)) | (refine sel_and (fun _ => ?_) (fun _ => ?_)) | (refine sel_nand (fun _ => ?_) (fun _ => ?_)) | (refine And.intro (clash_quiet rfl) ?_) | (refine eqs_isl (fun _ => ?_) ?_) | (exfalso; omega; done))
    refine lq_n (A.length - (i + 1)) (by omega) ⟨i + 1, x', rfl, by omega, rfl, ?_, hf'.mono (by omega)⟩
    rw [List.take_add_one, nth_some (by omega)]
    simpa [encA] using ho'
  · have : i = A.length := by omega
    subst this
    rw [List.take_length] at ho
    exact vp1f (.of_own ho rowOk_acts)
theorem told_pure (A : List ActV) (hA : A.length ≤ 1000000) : Pure Try.prog 17 [.isl 3 (A.map encA)] (.isl 3 (A.map encA)) := by
  refine pure_vc Try.mixed ok17 rfl (fun q => ?_)
  simp only [params, Nat.zero_add, Nat.reduceAdd]
  simp (disch := omega) only [sel_t, sel_f, sel_dt, sel_df, sel_nt, sel_nf, v_lss, v_leq, v_gtr, v_geq, v_eql, v_neq, v_add, v_sub, v_not, v_min, v_max, v_pick_t, v_pick_f, v_ext0, v_ext1, v_ext2, v_len_isl, List.length_map, v_len_nils, v_len_sl0, v_len_sl, v_ix_map, v_ix_sl, v_nil_ptr, v_nil_iptr, v_fa_ptr, v_fa_iptr, cell_0, cell_s, cell_a2, cell_a3, cell_a7, cell_a10, v_load_map, v_load_r1, v_call_fn, v_call_fnS, v_load_H, ldH_one, ldH_map, v_store_H, stH_one, upd_same, upd_cons_ne, upd_nil, v_box, v_fld, eqs_nils, eqs_sl, v_eqs_ii, v_neqs_ii, sel_andt, sel_andf, sel_nandt, sel_nandf, encI, Int.toNat_natCast, lq_e, lq_r, Bool.not_true, Bool.not_false, Bool.false_eq_true, reduceIte, decide_true, decide_false, v_build_fill, v_buildS_fill, fill_nil, fill_cons, AV.cells, putL, chunk, List.length_cons, List.length_nil, Nat.reduceAdd, Nat.reduceDiv, Nat.reduceMod, List.take_succ_cons, List.take_zero, List.take_nil, List.drop_succ_cons, List.drop_zero, List.drop_nil, List.cons_append, List.nil_append, List.append_nil, List.all_cons, List.all_nil, AV.one, Nat.reduceLeDiff, and_self, and_true, true_and, Nat.zero_add, ne_eq, Nat.succ_ne_zero, not_false_eq_true, Bool.and_self, Nat.reduceEqDiff, Nat.le_refl, res17, q17_0_ret, q17_0_e0, vt17, vt17_1, vt17_2, V17, V17_1, V17_2, k17_1, k17_0, k17_2, encA]
  refine vloop (fun n r H c => ∃ (i : Nat) (x : AV), r = [(0, .isl 3 (A.map encA)), (3, x), (4, .int .i64 i)] ∧ i ≤ A.length ∧ n = A.length - i ∧ Own H x 3 ((A.take i).map encA) ∧ Fresh q c H) A.length ⟨0, .nils, rfl, Nat.zero_le _, rfl, .nils, .empty⟩ ?_
  rintro n r H c ⟨i, x, rfl, hi, rfl, ho, hf⟩
  repeat' (first | (simp (disch := omega) only [sel_t, sel_f, sel_dt, sel_df, sel_nt, sel_nf, v_lss, v_leq, v_gtr, v_geq, v_eql, v_neq, v_add, v_sub, v_not, v_min, v_max, v_pick_t, v_pick_f, v_ext0, v_ext1, v_ext2, v_len_isl, List.length_map, v_len_nils, v_len_sl0, v_len_sl, v_ix_map, v_ix_sl, v_nil_ptr, v_nil_iptr, v_fa_ptr, v_fa_iptr, cell_0, cell_s, cell_a2, cell_a3, cell_a7, cell_a10, v_load_map, v_load_r1, v_call_fn, v_call_fnS, v_load_H, ldH_one, ldH_map, v_store_H, stH_one, upd_same, upd_cons_ne, upd_nil, v_box, v_fld, eqs_nils, eqs_sl, v_eqs_ii, v_neqs_ii, sel_andt, sel_andf, sel_nandt, sel_nandf, encI, Int.toNat_natCast, lq_e, lq_r, Bool.not_true, Bool.not_false, Bool.false_eq_true, reduceIte, decide_true, decide_false, v_build_fill, v_buildS_fill, fill_nil, fill_cons, AV.cells, putL, chunk, List.length_cons, List.length_nil, Nat.reduceAdd, Nat.reduceDiv, Nat.reduceMod, List.take_succ_cons, List.take_zero, List.take_nil, List.drop_succ_cons, List.drop_zero, List.drop_nil, List.cons_append, List.nil_append, List.append_nil, List.all_cons, List.all_nil, AV.one, Nat.reduceLeDiff, and_self, and_true, true_and, Nat.zero_add, ne_eq, Nat.succ_ne_zero, not_false_eq_true, Bool.and_self, Nat.reduceEqDiff, Nat.le_refl, res17, q17_0_ret, q17_0_e0, vt17, vt17_1, vt17_2, V17, V17_1, V17_2, k17_1, k17_0, k17_2, encA]) | (refine sel_d (fun _ => ?_) (fun _ => ?_)) | (refine sel_n (fun _ => ?_) (fun _ => ?_)) | (refine sel_and (fun _ => ?_) (fun _ => ?_)) | (refine sel_nand (fun _ => ?_) (fun _ => ?_)) | (refine And.intro (clash_quiet rfl) ?_) | (refine eqs_isl (fun _ => ?_) ?_) | (exfalso; omega; done))
  · refine push_own ho hf (by omega) (by omega) (by decide) ?_ ?_ (fun x' H' l f ho' hf' _ => ?_)
    · simp only [List.length_map, List.length_take]; omega
    · simp only [List.length_map, List.length_take]; omega
    repeat' (first | (simp (disch := omega) only [sel_t, sel_f, sel_dt, sel_df, sel_nt, sel_nf, v_lss, v_leq, v_gtr, v_geq, v_eql, v_neq, v_add, v_sub, v_not, v_min, v_max, v_pick_t, v_pick_f, v_ext0, v_ext1, v_ext2, v_len_isl, List.length_map, v_len_nils, v_len_sl0, v_len_sl, v_ix_map, v_ix_sl, v_nil_ptr, v_nil_iptr, v_fa_ptr, v_fa_iptr, cell_0, cell_s, cell_a2, cell_a3, cell_a7, cell_a10, v_load_map, v_load_r1, v_call_fn, v_call_fnS, v_load_H, ldH_one, ldH_map, v_store_H, stH_one, upd_same, upd_cons_ne, upd_nil, v_box, v_fld, eqs_nils, eqs_sl, v_eqs_ii, v_neqs_ii, sel_andt, sel_andf, sel_nandt, sel_nandf, encI, Int.toNat_natCast, lq_e, lq_r, Bool.not_true, Bool.not_false, Bool.false_eq_true, reduceIte, decide_true, decide_false, v_build_fill, v_buildS_fill, fill_nil, fill_cons, AV.cells, putL, chunk, List.length_cons, List.length_nil, Nat.reduceAdd, Nat.reduceDiv, Nat.reduceMod, List.take_succ_cons, List.take_zero, List.take_nil, List.drop_succ_cons, List.drop_zero, List.drop_nil, List.cons_append, List.nil_append, List.append_nil, List.all_cons, List.all_nil, AV.one, Nat.reduceLeDiff, and_self, and_true, true_and, Nat.zero_add, ne_eq, Nat.succ_ne_zero, not_false_eq_true, Bool.and_self, Nat.reduceEqDiff, Nat.le_refl, res17, q17_0_ret, q17_0_e0, vt17, vt17_1, vt17_2, V17, V17_1, V17_2, k17_1, k17_0, k17_2, encA]) | (refine sel_d (fun _ => ?_) (fun _ => ?_)) | (refine sel_n (fun _ => ?_) (fun _ => ?_)) | (refine sel_and (fun _ => ?_) (fun _ => ?_)) | (refine sel_nand (fun _ => ?_) (fun _ => ?_)) | (refine And.intro (clash_quiet rfl) ?_) | (refine eqs_isl (fun _ => ?_) ?_) | (exfalso; omega; done))
    refine ⟨clash_ord (.read (.read (.read (.write (.write .nil))))) rfl, ?_⟩
    repeat' (first | (simp (disch := omega) only [sel_t, sel_f, sel_dt, sel_df, sel_nt, sel_nf, v_lss, v_leq, v_gtr, v_geq, v_eql, v_neq, v_add, v_sub, v_not, v_min, v_max, v_pick_t, v_pick_f, v_ext0, v_ext1, v_ext2, v_len_isl, List.length_map, v_len_nils, v_len_sl0, v_len_sl, v_ix_map, v_ix_sl, v_nil_ptr, v_nil_iptr, v_fa_ptr, v_fa_iptr, cell_0, cell_s, cell_a2, cell_a3, cell_a7, cell_a10, v_load_map, v_load_r1, v_call_fn, v_call_fnS, v_load_H, ldH_one, ldH_map, v_store_H, stH_one, upd_same, upd_cons_ne, upd_nil, v_box, v_fld, eqs_nils, eqs_sl, v_eqs_ii, v_neqs_ii, sel_andt, sel_andf, sel_nandt, sel_nandf, encI, Int.toNat_natCast, lq_e, lq_r, Bool.not_true, Bool.not_false, Bool.false_eq_true, reduceIte, decide_true, decide_false, v_build_fill, v_buildS_fill, fill_nil, fill_cons, AV.cells, putL, chunk, List.length_cons, List.length_nil, Nat.reduceAdd, Nat.reduceDiv, Nat.reduceMod, List.take_succ_cons, List.take_zero, List.take_nil, List.drop_succ_cons, List.drop_zero, List.drop_nil, List.cons_append, List.nil_append, List.append_nil, List.all_cons, List.all_nil, AV.one, Nat.reduceLeDiff, and_self, and_true, true_and, Nat.zero_add, ne_eq, Nat.succ_ne_zero, not_false_eq_true, Bool.and_self, Nat.reduceEqDiff, Nat.le_refl, res17, q17_0_ret, q17_0_e0, vt17, vt17_1, vt17_2, V17, V17_1, V17_2, k17_1, k17_0, k17_2, encA]) | (refine sel_d (fun _ => ?_) (fun _ => ?_)) | (refine sel_n (fun _ => ?_) (fun _ => ?_)) | (refine sel_and (fun _ => ?_) (fun _ => ?_)) | (refine sel_nand (fun _ => ?_) (fun _ => ?_)) | (refine And.intro (clash_quiet rfl) ?_) | (refine eqs_isl (fun _ => ?_) ?_) | (exfalso; omega; done))
    refine lq_n (A.length - (i + 1)) (by omega) ⟨i + 1, x', rfl, by omega, rfl, ?_, hf'.mono (by omega)⟩
    rw [List.take_add_one, nth_some (by omega)]
    simpa [encA] using ho'
  · have : i = A.length := by omega
    subst this
    rw [List.take_length] at ho
    exact vp1f (.of_own ho rowOk_acts)
def wordV (l : List Int) (a : Int) (b : Bool) : Int := if b then wordBack l (heldN l.length a) else wordOn l (heldN l.length a)
theorem word_pure (l : List Int) (hl : l.length ≤ 1000000000) (a : Int) (b : Bool) : Pure Try.prog 22 [il l, .int .i64 a, .bool b] (.int .i64 (wordV l a b)) := by
  cases b
  · exact wordOn_pure l hl a
  · exact wordBack_pure l hl a
theorem rword_pure (l : List Int) (hl : l.length ≤ 1000000000) (hI : ∀ k, k < l.length → -9223372036854775808 ≤ nth l k) (a : Int) (b : Bool) : Pure Try.prog 23 [il l, .int .i64 a, .bool b] (.int .i64 (wordV l a b)) := by
  cases b
  · exact rwordOn_pure l hl hI a
  · exact rwordBack_pure l hl hI a
theorem applyL_len : ∀ {A : List ActV} {l l' : List Int}, applyL l A = some l' → l'.length ≤ l.length + A.length
  | [], l, l', h => by simp only [applyL, Option.some.injEq] at h; subst h; simp
  | a :: A, l, l', h => by
    simp only [applyL, Option.bind_eq_some_iff] at h
    obtain ⟨m, hm, h⟩ := h
    have := applyL_len h
    obtain ⟨k, p, v⟩ := a
    simp only [actL] at hm
    split at hm
    · cases hm
    · split at hm
      · cases hm
        have := @insI_len l p.toNat v (by omega)
        simp only [List.length_cons]; omega
      · split at hm
        · rename_i h3
          cases hm
          have := @delI_len l p.toNat (by omega)
          simp only [List.length_cons]; omega
        · cases hm
theorem ve_bb {a b : Bool} {K : AV → Prop} : vBin .eql .bool (.bool a) (.bool b) K = K (.bool (a == b)) := bin_of (by simp [aBin, eqNeq])
theorem applies_law (l : List Int) (hI : ∀ x ∈ l, I64 x) (A : List ActV) (a : Int) (b : Bool) : Pure Try.prog 4 [.agg [il l, .isl 3 (A.map encA), .int .i64 a, .bool b]] (.bool true) := by
  refine pure_vc Try.mixed ok4 rfl (fun q => ?_)
  simp only [params, Nat.zero_add, Nat.reduceAdd]
  repeat' (first | (simp (disch := omega) only [sel_t, sel_f, sel_dt, sel_df, sel_nt, sel_nf, v_lss, v_leq, v_gtr, v_geq, v_eql, v_neq, v_add, v_sub, v_not, v_min, v_max, v_pick_t, v_pick_f, v_ext0, v_ext1, v_ext2, v_len_isl, List.length_map, v_len_nils, v_len_sl0, v_len_sl, v_ix_map, v_ix_sl, v_nil_ptr, v_nil_iptr, v_fa_ptr, v_fa_iptr, cell_0, cell_s, cell_a2, cell_a3, cell_a7, cell_a10, v_load_map, v_load_r1, v_call_fn, v_call_fnS, v_load_H, ldH_one, ldH_map, v_store_H, stH_one, upd_same, upd_cons_ne, upd_nil, v_box, v_fld, eqs_nils, eqs_sl, v_eqs_ii, v_neqs_ii, sel_andt, sel_andf, sel_nandt, sel_nandf, encI, Int.toNat_natCast, lq_e, lq_r, Bool.not_true, Bool.not_false, Bool.false_eq_true, reduceIte, decide_true, decide_false, v_build_fill, v_buildS_fill, fill_nil, fill_cons, AV.cells, putL, chunk, List.length_cons, List.length_nil, Nat.reduceAdd, Nat.reduceDiv, Nat.reduceMod, List.take_succ_cons, List.take_zero, List.take_nil, List.drop_succ_cons, List.drop_zero, List.drop_nil, List.cons_append, List.nil_append, List.append_nil, List.all_cons, List.all_nil, AV.one, Nat.reduceLeDiff, and_self, and_true, true_and, Nat.zero_add, ne_eq, Nat.succ_ne_zero, not_false_eq_true, Bool.and_self, Nat.reduceEqDiff, Nat.le_refl, res4, vt4, V4, k4_0, k4_1, k4_3, k4_4, k4_5, k4_9, k4_10, k4_11, k4_12, k4_13, k4_8, k4_14, k4_15, k4_16, k4_17, k4_18, k4_7, k4_19, k4_21, k4_20, k4_22, k4_23, k4_24, k4_25, k4_26, k4_6, k4_27, k4_2, k4_28]) | (refine sel_d (fun _ => ?_) (fun _ => ?_)) | (refine sel_n (fun _ => ?_) (fun _ => ?_)) | (refine sel_and (fun _ => ?_) (fun _ => ?_)) | (refine sel_nand (fun _ => ?_) (fun _ => ?_)) | (refine And.intro (clash_quiet rfl) ?_) | (refine eqs_isl (fun _ => ?_) ?_) | (exfalso; omega; done))
  · (try simp (disch := omega) only [sel_t, sel_f, sel_dt, sel_df, sel_nt, sel_nf, v_lss, v_leq, v_gtr, v_geq, v_eql, v_neq, v_add, v_sub, v_not, v_min, v_max, v_pick_t, v_pick_f, v_ext0, v_ext1, v_ext2, v_len_isl, List.length_map, v_len_nils, v_len_sl0, v_len_sl, v_ix_map, v_ix_sl, v_nil_ptr, v_nil_iptr, v_fa_ptr, v_fa_iptr, cell_0, cell_s, cell_a2, cell_a3, cell_a7, cell_a10, v_load_map, v_load_r1, v_call_fn, v_call_fnS, v_load_H, ldH_one, ldH_map, v_store_H, stH_one, upd_same, upd_cons_ne, upd_nil, v_box, v_fld, eqs_nils, eqs_sl, v_eqs_ii, v_neqs_ii, sel_andt, sel_andf, sel_nandt, sel_nandf, encI, Int.toNat_natCast, lq_e, lq_r, Bool.not_true, Bool.not_false, Bool.false_eq_true, reduceIte, decide_true, decide_false, v_build_fill, v_buildS_fill, fill_nil, fill_cons, AV.cells, putL, chunk, List.length_cons, List.length_nil, Nat.reduceAdd, Nat.reduceDiv, Nat.reduceMod, List.take_succ_cons, List.take_zero, List.take_nil, List.drop_succ_cons, List.drop_zero, List.drop_nil, List.cons_append, List.nil_append, List.append_nil, List.all_cons, List.all_nil, AV.one, Nat.reduceLeDiff, and_self, and_true, true_and, Nat.zero_add, ne_eq, Nat.succ_ne_zero, not_false_eq_true, Bool.and_self, Nat.reduceEqDiff, Nat.le_refl, res4, vt4, V4, k4_0, k4_1, k4_3, k4_4, k4_5, k4_9, k4_10, k4_11, k4_12, k4_13, k4_8, k4_14, k4_15, k4_16, k4_17, k4_18, k4_7, k4_19, k4_21, k4_20, k4_22, k4_23, k4_24, k4_25, k4_26, k4_6, k4_27, k4_2, k4_28]); refine call_pure live18 ?_; (try simp (disch := omega) only [sel_t, sel_f, sel_dt, sel_df, sel_nt, sel_nf, v_lss, v_leq, v_gtr, v_geq, v_eql, v_neq, v_add, v_sub, v_not, v_min, v_max, v_pick_t, v_pick_f, v_ext0, v_ext1, v_ext2, v_len_isl, List.length_map, v_len_nils, v_len_sl0, v_len_sl, v_ix_map, v_ix_sl, v_nil_ptr, v_nil_iptr, v_fa_ptr, v_fa_iptr, cell_0, cell_s, cell_a2, cell_a3, cell_a7, cell_a10, v_load_map, v_load_r1, v_call_fn, v_call_fnS, v_load_H, ldH_one, ldH_map, v_store_H, stH_one, upd_same, upd_cons_ne, upd_nil, v_box, v_fld, eqs_nils, eqs_sl, v_eqs_ii, v_neqs_ii, sel_andt, sel_andf, sel_nandt, sel_nandf, encI, Int.toNat_natCast, lq_e, lq_r, Bool.not_true, Bool.not_false, Bool.false_eq_true, reduceIte, decide_true, decide_false, v_build_fill, v_buildS_fill, fill_nil, fill_cons, AV.cells, putL, chunk, List.length_cons, List.length_nil, Nat.reduceAdd, Nat.reduceDiv, Nat.reduceMod, List.take_succ_cons, List.take_zero, List.take_nil, List.drop_succ_cons, List.drop_zero, List.drop_nil, List.cons_append, List.nil_append, List.append_nil, List.all_cons, List.all_nil, AV.one, Nat.reduceLeDiff, and_self, and_true, true_and, Nat.zero_add, ne_eq, Nat.succ_ne_zero, not_false_eq_true, Bool.and_self, Nat.reduceEqDiff, Nat.le_refl, res4, vt4, V4, k4_0, k4_1, k4_3, k4_4, k4_5, k4_9, k4_10, k4_11, k4_12, k4_13, k4_8, k4_14, k4_15, k4_16, k4_17, k4_18, k4_7, k4_19, k4_21, k4_20, k4_22, k4_23, k4_24, k4_25, k4_26, k4_6, k4_27, k4_2, k4_28]); exact vp1 rfl
  · (try simp (disch := omega) only [sel_t, sel_f, sel_dt, sel_df, sel_nt, sel_nf, v_lss, v_leq, v_gtr, v_geq, v_eql, v_neq, v_add, v_sub, v_not, v_min, v_max, v_pick_t, v_pick_f, v_ext0, v_ext1, v_ext2, v_len_isl, List.length_map, v_len_nils, v_len_sl0, v_len_sl, v_ix_map, v_ix_sl, v_nil_ptr, v_nil_iptr, v_fa_ptr, v_fa_iptr, cell_0, cell_s, cell_a2, cell_a3, cell_a7, cell_a10, v_load_map, v_load_r1, v_call_fn, v_call_fnS, v_load_H, ldH_one, ldH_map, v_store_H, stH_one, upd_same, upd_cons_ne, upd_nil, v_box, v_fld, eqs_nils, eqs_sl, v_eqs_ii, v_neqs_ii, sel_andt, sel_andf, sel_nandt, sel_nandf, encI, Int.toNat_natCast, lq_e, lq_r, Bool.not_true, Bool.not_false, Bool.false_eq_true, reduceIte, decide_true, decide_false, v_build_fill, v_buildS_fill, fill_nil, fill_cons, AV.cells, putL, chunk, List.length_cons, List.length_nil, Nat.reduceAdd, Nat.reduceDiv, Nat.reduceMod, List.take_succ_cons, List.take_zero, List.take_nil, List.drop_succ_cons, List.drop_zero, List.drop_nil, List.cons_append, List.nil_append, List.append_nil, List.all_cons, List.all_nil, AV.one, Nat.reduceLeDiff, and_self, and_true, true_and, Nat.zero_add, ne_eq, Nat.succ_ne_zero, not_false_eq_true, Bool.and_self, Nat.reduceEqDiff, Nat.le_refl, res4, vt4, V4, k4_0, k4_1, k4_3, k4_4, k4_5, k4_9, k4_10, k4_11, k4_12, k4_13, k4_8, k4_14, k4_15, k4_16, k4_17, k4_18, k4_7, k4_19, k4_21, k4_20, k4_22, k4_23, k4_24, k4_25, k4_26, k4_6, k4_27, k4_2, k4_28]); refine call_pure live18 ?_; (try simp (disch := omega) only [sel_t, sel_f, sel_dt, sel_df, sel_nt, sel_nf, v_lss, v_leq, v_gtr, v_geq, v_eql, v_neq, v_add, v_sub, v_not, v_min, v_max, v_pick_t, v_pick_f, v_ext0, v_ext1, v_ext2, v_len_isl, List.length_map, v_len_nils, v_len_sl0, v_len_sl, v_ix_map, v_ix_sl, v_nil_ptr, v_nil_iptr, v_fa_ptr, v_fa_iptr, cell_0, cell_s, cell_a2, cell_a3, cell_a7, cell_a10, v_load_map, v_load_r1, v_call_fn, v_call_fnS, v_load_H, ldH_one, ldH_map, v_store_H, stH_one, upd_same, upd_cons_ne, upd_nil, v_box, v_fld, eqs_nils, eqs_sl, v_eqs_ii, v_neqs_ii, sel_andt, sel_andf, sel_nandt, sel_nandf, encI, Int.toNat_natCast, lq_e, lq_r, Bool.not_true, Bool.not_false, Bool.false_eq_true, reduceIte, decide_true, decide_false, v_build_fill, v_buildS_fill, fill_nil, fill_cons, AV.cells, putL, chunk, List.length_cons, List.length_nil, Nat.reduceAdd, Nat.reduceDiv, Nat.reduceMod, List.take_succ_cons, List.take_zero, List.take_nil, List.drop_succ_cons, List.drop_zero, List.drop_nil, List.cons_append, List.nil_append, List.append_nil, List.all_cons, List.all_nil, AV.one, Nat.reduceLeDiff, and_self, and_true, true_and, Nat.zero_add, ne_eq, Nat.succ_ne_zero, not_false_eq_true, Bool.and_self, Nat.reduceEqDiff, Nat.le_refl, res4, vt4, V4, k4_0, k4_1, k4_3, k4_4, k4_5, k4_9, k4_10, k4_11, k4_12, k4_13, k4_8, k4_14, k4_15, k4_16, k4_17, k4_18, k4_7, k4_19, k4_21, k4_20, k4_22, k4_23, k4_24, k4_25, k4_26, k4_6, k4_27, k4_2, k4_28]); exact vp1 rfl
  rename_i hl hA
  have hl' : l.length ≤ 300 := by omega
  have hA' : A.length ≤ 60 := by omega
  refine call_pure (acts_pure A (by omega)) ?_
  simp (disch := omega) only [sel_t, sel_f, sel_dt, sel_df, sel_nt, sel_nf, v_lss, v_leq, v_gtr, v_geq, v_eql, v_neq, v_add, v_sub, v_not, v_min, v_max, v_pick_t, v_pick_f, v_ext0, v_ext1, v_ext2, v_len_isl, List.length_map, v_len_nils, v_len_sl0, v_len_sl, v_ix_map, v_ix_sl, v_nil_ptr, v_nil_iptr, v_fa_ptr, v_fa_iptr, cell_0, cell_s, cell_a2, cell_a3, cell_a7, cell_a10, v_load_map, v_load_r1, v_call_fn, v_call_fnS, v_load_H, ldH_one, ldH_map, v_store_H, stH_one, upd_same, upd_cons_ne, upd_nil, v_box, v_fld, eqs_nils, eqs_sl, v_eqs_ii, v_neqs_ii, sel_andt, sel_andf, sel_nandt, sel_nandf, encI, Int.toNat_natCast, lq_e, lq_r, Bool.not_true, Bool.not_false, Bool.false_eq_true, reduceIte, decide_true, decide_false, v_build_fill, v_buildS_fill, fill_nil, fill_cons, AV.cells, putL, chunk, List.length_cons, List.length_nil, Nat.reduceAdd, Nat.reduceDiv, Nat.reduceMod, List.take_succ_cons, List.take_zero, List.take_nil, List.drop_succ_cons, List.drop_zero, List.drop_nil, List.cons_append, List.nil_append, List.append_nil, List.all_cons, List.all_nil, AV.one, Nat.reduceLeDiff, and_self, and_true, true_and, Nat.zero_add, ne_eq, Nat.succ_ne_zero, not_false_eq_true, Bool.and_self, Nat.reduceEqDiff, Nat.le_refl, res4, vt4, V4, k4_0, k4_1, k4_3, k4_4, k4_5, k4_9, k4_10, k4_11, k4_12, k4_13, k4_8, k4_14, k4_15, k4_16, k4_17, k4_18, k4_7, k4_19, k4_21, k4_20, k4_22, k4_23, k4_24, k4_25, k4_26, k4_6, k4_27, k4_2, k4_28]
  refine call_pure (apply_pure l A (by omega) (by omega)) ?_
  have hlen := fun l' => @applyL_len A l l'
  have pr := rapply_pure l A (by omega) (by omega)
  have pw := word_pure l (by omega) a b
  have prw := rword_pure l (by omega) (fun k hk => (hI _ (List.mem_of_getElem? (nth_some hk))).1) a b
  generalize applyL l A = o at pr hlen ⊢
  have hsame : ∃ z is, appR o = .tuple [z, .bool is] ∧ Pure Try.prog 21 [z, z] (.bool true) := by
    cases o with
    | none => exact ⟨il [], false, rfl, same_refl [] (by simp)⟩
    | some l' => exact ⟨il l', true, rfl, same_refl l' (by have := hlen l' rfl; omega)⟩
  obtain ⟨z, is, ho, hz⟩ := hsame
  rw [ho] at pr ⊢
  simp (disch := omega) only [sel_t, sel_f, sel_dt, sel_df, sel_nt, sel_nf, v_lss, v_leq, v_gtr, v_geq, v_eql, v_neq, v_add, v_sub, v_not, v_min, v_max, v_pick_t, v_pick_f, v_ext0, v_ext1, v_ext2, v_len_isl, List.length_map, v_len_nils, v_len_sl0, v_len_sl, v_ix_map, v_ix_sl, v_nil_ptr, v_nil_iptr, v_fa_ptr, v_fa_iptr, cell_0, cell_s, cell_a2, cell_a3, cell_a7, cell_a10, v_load_map, v_load_r1, v_call_fn, v_call_fnS, v_load_H, ldH_one, ldH_map, v_store_H, stH_one, upd_same, upd_cons_ne, upd_nil, v_box, v_fld, eqs_nils, eqs_sl, v_eqs_ii, v_neqs_ii, sel_andt, sel_andf, sel_nandt, sel_nandf, encI, Int.toNat_natCast, lq_e, lq_r, Bool.not_true, Bool.not_false, Bool.false_eq_true, reduceIte, decide_true, decide_false, v_build_fill, v_buildS_fill, fill_nil, fill_cons, AV.cells, putL, chunk, List.length_cons, List.length_nil, Nat.reduceAdd, Nat.reduceDiv, Nat.reduceMod, List.take_succ_cons, List.take_zero, List.take_nil, List.drop_succ_cons, List.drop_zero, List.drop_nil, List.cons_append, List.nil_append, List.append_nil, List.all_cons, List.all_nil, AV.one, Nat.reduceLeDiff, and_self, and_true, true_and, Nat.zero_add, ne_eq, Nat.succ_ne_zero, not_false_eq_true, Bool.and_self, Nat.reduceEqDiff, Nat.le_refl, res4, vt4, V4, k4_0, k4_1, k4_3, k4_4, k4_5, k4_9, k4_10, k4_11, k4_12, k4_13, k4_8, k4_14, k4_15, k4_16, k4_17, k4_18, k4_7, k4_19, k4_21, k4_20, k4_22, k4_23, k4_24, k4_25, k4_26, k4_6, k4_27, k4_2, k4_28]
  refine call_pure pr ?_
  simp (disch := omega) only [sel_t, sel_f, sel_dt, sel_df, sel_nt, sel_nf, v_lss, v_leq, v_gtr, v_geq, v_eql, v_neq, v_add, v_sub, v_not, v_min, v_max, v_pick_t, v_pick_f, v_ext0, v_ext1, v_ext2, v_len_isl, List.length_map, v_len_nils, v_len_sl0, v_len_sl, v_ix_map, v_ix_sl, v_nil_ptr, v_nil_iptr, v_fa_ptr, v_fa_iptr, cell_0, cell_s, cell_a2, cell_a3, cell_a7, cell_a10, v_load_map, v_load_r1, v_call_fn, v_call_fnS, v_load_H, ldH_one, ldH_map, v_store_H, stH_one, upd_same, upd_cons_ne, upd_nil, v_box, v_fld, eqs_nils, eqs_sl, v_eqs_ii, v_neqs_ii, sel_andt, sel_andf, sel_nandt, sel_nandf, encI, Int.toNat_natCast, lq_e, lq_r, Bool.not_true, Bool.not_false, Bool.false_eq_true, reduceIte, decide_true, decide_false, v_build_fill, v_buildS_fill, fill_nil, fill_cons, AV.cells, putL, chunk, List.length_cons, List.length_nil, Nat.reduceAdd, Nat.reduceDiv, Nat.reduceMod, List.take_succ_cons, List.take_zero, List.take_nil, List.drop_succ_cons, List.drop_zero, List.drop_nil, List.cons_append, List.nil_append, List.append_nil, List.all_cons, List.all_nil, AV.one, Nat.reduceLeDiff, and_self, and_true, true_and, Nat.zero_add, ne_eq, Nat.succ_ne_zero, not_false_eq_true, Bool.and_self, Nat.reduceEqDiff, Nat.le_refl, res4, vt4, V4, k4_0, k4_1, k4_3, k4_4, k4_5, k4_9, k4_10, k4_11, k4_12, k4_13, k4_8, k4_14, k4_15, k4_16, k4_17, k4_18, k4_7, k4_19, k4_21, k4_20, k4_22, k4_23, k4_24, k4_25, k4_26, k4_6, k4_27, k4_2, k4_28]
  refine call_pure hz ?_
  simp (disch := omega) only [sel_t, sel_f, sel_dt, sel_df, sel_nt, sel_nf, v_lss, v_leq, v_gtr, v_geq, v_eql, v_neq, v_add, v_sub, v_not, v_min, v_max, v_pick_t, v_pick_f, v_ext0, v_ext1, v_ext2, v_len_isl, List.length_map, v_len_nils, v_len_sl0, v_len_sl, v_ix_map, v_ix_sl, v_nil_ptr, v_nil_iptr, v_fa_ptr, v_fa_iptr, cell_0, cell_s, cell_a2, cell_a3, cell_a7, cell_a10, v_load_map, v_load_r1, v_call_fn, v_call_fnS, v_load_H, ldH_one, ldH_map, v_store_H, stH_one, upd_same, upd_cons_ne, upd_nil, v_box, v_fld, eqs_nils, eqs_sl, v_eqs_ii, v_neqs_ii, sel_andt, sel_andf, sel_nandt, sel_nandf, encI, Int.toNat_natCast, lq_e, lq_r, Bool.not_true, Bool.not_false, Bool.false_eq_true, reduceIte, decide_true, decide_false, v_build_fill, v_buildS_fill, fill_nil, fill_cons, AV.cells, putL, chunk, List.length_cons, List.length_nil, Nat.reduceAdd, Nat.reduceDiv, Nat.reduceMod, List.take_succ_cons, List.take_zero, List.take_nil, List.drop_succ_cons, List.drop_zero, List.drop_nil, List.cons_append, List.nil_append, List.append_nil, List.all_cons, List.all_nil, AV.one, Nat.reduceLeDiff, and_self, and_true, true_and, Nat.zero_add, ne_eq, Nat.succ_ne_zero, not_false_eq_true, Bool.and_self, Nat.reduceEqDiff, Nat.le_refl, res4, vt4, V4, k4_0, k4_1, k4_3, k4_4, k4_5, k4_9, k4_10, k4_11, k4_12, k4_13, k4_8, k4_14, k4_15, k4_16, k4_17, k4_18, k4_7, k4_19, k4_21, k4_20, k4_22, k4_23, k4_24, k4_25, k4_26, k4_6, k4_27, k4_2, k4_28]
  rw [ve_bb, show (is == is) = true by cases is <;> rfl]
  simp (disch := omega) only [sel_t, sel_f, sel_dt, sel_df, sel_nt, sel_nf, v_lss, v_leq, v_gtr, v_geq, v_eql, v_neq, v_add, v_sub, v_not, v_min, v_max, v_pick_t, v_pick_f, v_ext0, v_ext1, v_ext2, v_len_isl, List.length_map, v_len_nils, v_len_sl0, v_len_sl, v_ix_map, v_ix_sl, v_nil_ptr, v_nil_iptr, v_fa_ptr, v_fa_iptr, cell_0, cell_s, cell_a2, cell_a3, cell_a7, cell_a10, v_load_map, v_load_r1, v_call_fn, v_call_fnS, v_load_H, ldH_one, ldH_map, v_store_H, stH_one, upd_same, upd_cons_ne, upd_nil, v_box, v_fld, eqs_nils, eqs_sl, v_eqs_ii, v_neqs_ii, sel_andt, sel_andf, sel_nandt, sel_nandf, encI, Int.toNat_natCast, lq_e, lq_r, Bool.not_true, Bool.not_false, Bool.false_eq_true, reduceIte, decide_true, decide_false, v_build_fill, v_buildS_fill, fill_nil, fill_cons, AV.cells, putL, chunk, List.length_cons, List.length_nil, Nat.reduceAdd, Nat.reduceDiv, Nat.reduceMod, List.take_succ_cons, List.take_zero, List.take_nil, List.drop_succ_cons, List.drop_zero, List.drop_nil, List.cons_append, List.nil_append, List.append_nil, List.all_cons, List.all_nil, AV.one, Nat.reduceLeDiff, and_self, and_true, true_and, Nat.zero_add, ne_eq, Nat.succ_ne_zero, not_false_eq_true, Bool.and_self, Nat.reduceEqDiff, Nat.le_refl, res4, vt4, V4, k4_0, k4_1, k4_3, k4_4, k4_5, k4_9, k4_10, k4_11, k4_12, k4_13, k4_8, k4_14, k4_15, k4_16, k4_17, k4_18, k4_7, k4_19, k4_21, k4_20, k4_22, k4_23, k4_24, k4_25, k4_26, k4_6, k4_27, k4_2, k4_28]
  refine call_pure pw ?_
  simp (disch := omega) only [sel_t, sel_f, sel_dt, sel_df, sel_nt, sel_nf, v_lss, v_leq, v_gtr, v_geq, v_eql, v_neq, v_add, v_sub, v_not, v_min, v_max, v_pick_t, v_pick_f, v_ext0, v_ext1, v_ext2, v_len_isl, List.length_map, v_len_nils, v_len_sl0, v_len_sl, v_ix_map, v_ix_sl, v_nil_ptr, v_nil_iptr, v_fa_ptr, v_fa_iptr, cell_0, cell_s, cell_a2, cell_a3, cell_a7, cell_a10, v_load_map, v_load_r1, v_call_fn, v_call_fnS, v_load_H, ldH_one, ldH_map, v_store_H, stH_one, upd_same, upd_cons_ne, upd_nil, v_box, v_fld, eqs_nils, eqs_sl, v_eqs_ii, v_neqs_ii, sel_andt, sel_andf, sel_nandt, sel_nandf, encI, Int.toNat_natCast, lq_e, lq_r, Bool.not_true, Bool.not_false, Bool.false_eq_true, reduceIte, decide_true, decide_false, v_build_fill, v_buildS_fill, fill_nil, fill_cons, AV.cells, putL, chunk, List.length_cons, List.length_nil, Nat.reduceAdd, Nat.reduceDiv, Nat.reduceMod, List.take_succ_cons, List.take_zero, List.take_nil, List.drop_succ_cons, List.drop_zero, List.drop_nil, List.cons_append, List.nil_append, List.append_nil, List.all_cons, List.all_nil, AV.one, Nat.reduceLeDiff, and_self, and_true, true_and, Nat.zero_add, ne_eq, Nat.succ_ne_zero, not_false_eq_true, Bool.and_self, Nat.reduceEqDiff, Nat.le_refl, res4, vt4, V4, k4_0, k4_1, k4_3, k4_4, k4_5, k4_9, k4_10, k4_11, k4_12, k4_13, k4_8, k4_14, k4_15, k4_16, k4_17, k4_18, k4_7, k4_19, k4_21, k4_20, k4_22, k4_23, k4_24, k4_25, k4_26, k4_6, k4_27, k4_2, k4_28]
  refine call_pure prw ?_
  (try simp (disch := omega) only [sel_t, sel_f, sel_dt, sel_df, sel_nt, sel_nf, v_lss, v_leq, v_gtr, v_geq, v_eql, v_neq, v_add, v_sub, v_not, v_min, v_max, v_pick_t, v_pick_f, v_ext0, v_ext1, v_ext2, v_len_isl, List.length_map, v_len_nils, v_len_sl0, v_len_sl, v_ix_map, v_ix_sl, v_nil_ptr, v_nil_iptr, v_fa_ptr, v_fa_iptr, cell_0, cell_s, cell_a2, cell_a3, cell_a7, cell_a10, v_load_map, v_load_r1, v_call_fn, v_call_fnS, v_load_H, ldH_one, ldH_map, v_store_H, stH_one, upd_same, upd_cons_ne, upd_nil, v_box, v_fld, eqs_nils, eqs_sl, v_eqs_ii, v_neqs_ii, sel_andt, sel_andf, sel_nandt, sel_nandf, encI, Int.toNat_natCast, lq_e, lq_r, Bool.not_true, Bool.not_false, Bool.false_eq_true, reduceIte, decide_true, decide_false, v_build_fill, v_buildS_fill, fill_nil, fill_cons, AV.cells, putL, chunk, List.length_cons, List.length_nil, Nat.reduceAdd, Nat.reduceDiv, Nat.reduceMod, List.take_succ_cons, List.take_zero, List.take_nil, List.drop_succ_cons, List.drop_zero, List.drop_nil, List.cons_append, List.nil_append, List.append_nil, List.all_cons, List.all_nil, AV.one, Nat.reduceLeDiff, and_self, and_true, true_and, Nat.zero_add, ne_eq, Nat.succ_ne_zero, not_false_eq_true, Bool.and_self, Nat.reduceEqDiff, Nat.le_refl, res4, vt4, V4, k4_0, k4_1, k4_3, k4_4, k4_5, k4_9, k4_10, k4_11, k4_12, k4_13, k4_8, k4_14, k4_15, k4_16, k4_17, k4_18, k4_7, k4_19, k4_21, k4_20, k4_22, k4_23, k4_24, k4_25, k4_26, k4_6, k4_27, k4_2, k4_28]); refine call_pure live18 ?_; (try simp (disch := omega) only [sel_t, sel_f, sel_dt, sel_df, sel_nt, sel_nf, v_lss, v_leq, v_gtr, v_geq, v_eql, v_neq, v_add, v_sub, v_not, v_min, v_max, v_pick_t, v_pick_f, v_ext0, v_ext1, v_ext2, v_len_isl, List.length_map, v_len_nils, v_len_sl0, v_len_sl, v_ix_map, v_ix_sl, v_nil_ptr, v_nil_iptr, v_fa_ptr, v_fa_iptr, cell_0, cell_s, cell_a2, cell_a3, cell_a7, cell_a10, v_load_map, v_load_r1, v_call_fn, v_call_fnS, v_load_H, ldH_one, ldH_map, v_store_H, stH_one, upd_same, upd_cons_ne, upd_nil, v_box, v_fld, eqs_nils, eqs_sl, v_eqs_ii, v_neqs_ii, sel_andt, sel_andf, sel_nandt, sel_nandf, encI, Int.toNat_natCast, lq_e, lq_r, Bool.not_true, Bool.not_false, Bool.false_eq_true, reduceIte, decide_true, decide_false, v_build_fill, v_buildS_fill, fill_nil, fill_cons, AV.cells, putL, chunk, List.length_cons, List.length_nil, Nat.reduceAdd, Nat.reduceDiv, Nat.reduceMod, List.take_succ_cons, List.take_zero, List.take_nil, List.drop_succ_cons, List.drop_zero, List.drop_nil, List.cons_append, List.nil_append, List.append_nil, List.all_cons, List.all_nil, AV.one, Nat.reduceLeDiff, and_self, and_true, true_and, Nat.zero_add, ne_eq, Nat.succ_ne_zero, not_false_eq_true, Bool.and_self, Nat.reduceEqDiff, Nat.le_refl, res4, vt4, V4, k4_0, k4_1, k4_3, k4_4, k4_5, k4_9, k4_10, k4_11, k4_12, k4_13, k4_8, k4_14, k4_15, k4_16, k4_17, k4_18, k4_7, k4_19, k4_21, k4_20, k4_22, k4_23, k4_24, k4_25, k4_26, k4_6, k4_27, k4_2, k4_28]); exact vp1 rfl
theorem act_shape {n : Nat} {xs : List AV} (h : shapeOf Try.prog (n + 2) 72 xs) : ∃ a : ActV, xs = encA a := by
  unfold shapeOf at h
  simp only [Try.underlying72, shapeFs] at h
  obtain ⟨a, x, rfl, _, h1, b, y, rfl, _, h2, c, z, rfl, _, h3, rfl⟩ := h
  obtain ⟨i, rfl, hi⟩ := int_shape h1
  obtain ⟨j, rfl, hj⟩ := int_shape h2
  obtain ⟨k, rfl, hk⟩ := int_shape h3
  exact ⟨(i, j, k), rfl⟩
theorem rows_acts {n : Nat} : ∀ {rows : List (List AV)}, (∀ r ∈ rows, shapeOf Try.prog (n + 2) 72 r) → ∃ l : List ActV, rows = l.map encA
  | [], _ => ⟨[], rfl⟩
  | r :: rows, h => by
    obtain ⟨i, rfl⟩ := act_shape (h r (by simp))
    obtain ⟨l, rfl⟩ := rows_acts (rows := rows) (fun r hr => h r (by simp [hr]))
    exact ⟨i :: l, rfl⟩
theorem acts_shape {n : Nat} {xs : List AV} (h : shapeOf Try.prog (n + 3) 35 xs) : ∃ A : List ActV, xs = [.isl 3 (A.map encA)] := by
  unfold shapeOf at h
  simp only [Try.underlying35] at h
  obtain ⟨rows, rfl, _, h2⟩ := h
  obtain ⟨l, rfl⟩ := rows_acts h2
  have : Try.prog.cellsOf 72 = 3 := by kernel_rfl
  rw [this]
  exact ⟨l, rfl⟩
theorem case_shape {n : Nat} {xs : List AV} (h : shapeOf Try.prog (n + 4) 43 xs) : ∃ (l : List Int) (A : List ActV) (a : Int) (b : Bool), xs = [.isl 1 (intRows l), .isl 3 (A.map encA), .int .i64 a, .bool b] ∧ ∀ x ∈ l, I64 x := by
  unfold shapeOf at h
  simp only [Try.underlying43, shapeFs] at h
  obtain ⟨a, x, rfl, _, h1, b, y, rfl, _, h2, c, z, rfl, _, h3, d, w, rfl, _, h4, rfl⟩ := h
  obtain ⟨k, l, rfl, g1⟩ := ints_shape h1
  obtain ⟨A, rfl⟩ := acts_shape h2
  obtain ⟨i, rfl, g2⟩ := int_shape h3
  obtain ⟨t, rfl⟩ := bool_shape h4
  cases g1 with
  | row _ _ hx => exact ⟨_, A, i, t, rfl, hx⟩
theorem par_case {x y z w : AV} : parOf Try.prog 43 [x, y, z, w] = .agg [x, y, z, w] := by simp [parOf, Try.underlying43]
end Go.Proofs.Ytbngfbpegdcpkaa
