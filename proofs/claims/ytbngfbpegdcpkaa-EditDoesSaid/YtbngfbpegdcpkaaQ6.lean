/- Texts of the proof, joined. -/
import Derived.Test.YtbngfbpegdcpkaaQ5
import Derived.Test.YtbngfbpegdcpkaaProg
import Derived.KernelRfl
/-! What is owed of functions of the program, as formulas. -/
namespace Go.Proofs.Ytbngfbpegdcpkaa
set_option maxRecDepth 100000
set_option linter.unusedVariables false
set_option linter.unusedSimpArgs false
/-- (*duet/duetref18.work).put -/
def c30 : AFun := ⟨2, 62, [.tmp 4],
  (.seq (.region [⟨(some 4), none, .move, [.c (.bool false)]⟩] none [0, 1])
  (.seq (.seq (.region [⟨(some 8), none, .move, [.t 0]⟩, ⟨(some 9), none, .nilCheck, [.t 8]⟩, ⟨(some 10), none, (.fieldAddr 0), [.t 9]⟩, ⟨(some 11), none, (.fieldAddr 0), [.t 10]⟩, ⟨(some 12), none, (.load 1 false), [.t 11]⟩, ⟨(some 13), none, (.len .slice), [.t 12]⟩, ⟨(some 14), none, (.bin .geq .num), [.t 13, .c (.int .i64 1000)]⟩, ⟨(some 15), none, .move, [.t 14]⟩, ⟨(some 16), (some (15, false)), .move, [.t 1]⟩, ⟨(some 17), (some (15, false)), .call, [.c (.fn (.func 57) [] []), .t 16]⟩, ⟨(some 18), (some (15, false)), (.un .not), [.t 17]⟩, ⟨(some 19), none, .pick, [.t 15, .c (.bool true), .t 18]⟩] none [0, 1, 19])
  (.cond (.t 19) (.seq (.region [⟨(some 4), none, .move, [.c (.bool false)]⟩] none [4])
  .ret)
  .skip))
  (.seq (.region [⟨(some 20), none, .move, [.t 0]⟩, ⟨(some 21), none, .nilCheck, [.t 20]⟩, ⟨(some 22), none, (.fieldAddr 0), [.t 21]⟩, ⟨(some 23), none, (.fieldAddr 1), [.t 22]⟩, ⟨(some 24), none, (.load 1 false), [.t 23]⟩, ⟨(some 25), none, .move, [.t 1]⟩, ⟨(some 26), none, (.build [(.int .i64 0), (.int .i64 0), (.int .i64 0)] [(0, 1), (1, 1), (2, 1)]), [.c (.int .i64 1), .t 24, .t 25]⟩, ⟨(some 5), none, (.alloc [(.int .i64 0), (.int .i64 0), (.int .i64 0)]), []⟩, ⟨none, none, (.store 3), [.t 5, .t 26]⟩] none [0, 5])
  (.seq (.region [⟨(some 27), none, .move, [.t 0]⟩, ⟨(some 28), none, .move, [.t 0]⟩, ⟨(some 29), none, .nilCheck, [.t 28]⟩, ⟨(some 30), none, (.fieldAddr 3), [.t 29]⟩, ⟨(some 31), none, (.load 1 false), [.t 30]⟩, ⟨(some 32), none, (.load 3 true), [.t 5]⟩, ⟨(some 33), none, (.buildSlice 3 [(.int .i64 0), (.int .i64 0), (.int .i64 0)] [(0, 3)]), [.t 32]⟩, ⟨(some 34), none, (.append 3 24), [.t 31, .t 33]⟩, ⟨(some 35), none, .nilCheck, [.t 27]⟩, ⟨(some 36), none, (.fieldAddr 3), [.t 35]⟩, ⟨none, none, (.store 1), [.t 36, .t 34]⟩] (some [0, 0, 2, 6, 14, 0, 32, 126, 255, 511, 1023]) [0, 5])
  (.seq (.region [⟨(some 38), none, .move, [.t 0]⟩, ⟨(some 39), none, .nilCheck, [.t 38]⟩, ⟨(some 40), none, (.fieldAddr 0), [.t 39]⟩, ⟨(some 41), none, (.fieldAddr 0), [.t 40]⟩, ⟨(some 42), none, (.load 1 false), [.t 41]⟩, ⟨(some 43), none, (.load 3 true), [.t 5]⟩, ⟨(some 44), none, (.buildSlice 3 [(.int .i64 0), (.int .i64 0), (.int .i64 0)] [(0, 3)]), [.t 43]⟩, ⟨(some 45), none, .call, [.c (.fn (.func 20) [] []), .t 42, .t 44]⟩, ⟨(some 37), none, .move, [.t 45]⟩, ⟨(some 46), none, (.extract 0), [.t 37]⟩, ⟨(some 47), none, (.extract 1), [.t 37]⟩, ⟨(some 6), none, .move, [.t 46]⟩, ⟨(some 7), none, .move, [.t 47]⟩] (some [0, 1, 3, 7, 15, 0, 32, 127, 255, 511, 511, 1023, 4095]) [0, 6])
  (.seq (.region [⟨(some 48), none, .move, [.t 0]⟩, ⟨(some 49), none, .move, [.t 6]⟩, ⟨(some 50), none, .nilCheck, [.t 48]⟩, ⟨(some 51), none, (.fieldAddr 0), [.t 50]⟩, ⟨(some 52), none, (.fieldAddr 0), [.t 51]⟩, ⟨none, none, (.store 1), [.t 52, .t 49]⟩] none [0])
  (.seq (.region [⟨(some 53), none, .move, [.t 0]⟩, ⟨(some 54), none, .nilCheck, [.t 53]⟩, ⟨(some 55), none, (.fieldAddr 0), [.t 54]⟩, ⟨(some 56), none, (.fieldAddr 1), [.t 55]⟩, ⟨(some 57), none, (.load 1 false), [.t 56]⟩, ⟨(some 58), none, (.bin .add .num), [.t 57, .c (.int .i64 1)]⟩, ⟨(some 59), none, .nilCheck, [.t 53]⟩, ⟨(some 60), none, (.fieldAddr 0), [.t 59]⟩, ⟨(some 61), none, (.fieldAddr 1), [.t 60]⟩, ⟨none, none, (.store 1), [.t 61, .t 58]⟩] none [])
  (.seq (.region [⟨(some 4), none, .move, [.c (.bool true)]⟩] none [4])
  .ret))))))))⟩
theorem ok30 : FunOk Try.prog 30 c30 := ⟨⟨Try.f30, _, Try.func30, rfl, by kernel_rfl, by kernel_rfl, by kernel_rfl, by kernel_rfl⟩, by decide⟩
theorem D8 : c30.res = [.tmp 4] := rfl
def C3 (P : Program) (p : Lab) (Q : aA) (y0 : AV) (y1 : AV) (H : aB) (c : Nat) : Prop :=
  Q .ret [(4, (.bool false))] H (c + 1)
def C2 (P : Program) (p : Lab) (Q : aA) (x0 : AV) (x1 : AV) (H : aB) (c : Nat) (_ : Unit) : Prop :=
  (C3 P p Q x0 x1 H (c + 13))
def CZ (P : Program) (p : Lab) (Q : aA)  (H : aB) (c : Nat) : Prop :=
  Q .ret [(4, (.bool false))] H c
def CY (P : Program) (p : Lab) (Q : aA) (H : aB) (c : Nat) (_ : Unit) : Prop :=
  (CZ P p Q  H (c + 1))
def CW (P : Program) (p : Lab) (Q : aA) (y0 : AV) (c : Nat) (v_54 : AV) (H54 : aB) (l54 : List Lab) (f54 : Option (List Lab)) : Prop :=
  aW y0 fun v54_56 =>
  vFA 0 v54_56 fun v55_57 =>
  vFA 1 v55_57 fun v56_58 =>
  aF 1 false v56_58 H54 fun v57_59 _ =>
  aJ .add .num v57_59 (.int .i64 1) fun v58_60 =>
  aW y0 fun v59_61 =>
  vFA 0 v59_61 fun v60_62 =>
  vFA 1 v60_62 fun v61_63 =>
  aM (.store 1) [v61_63, v58_60] H54 ((c + 48) :: p) (fun v_64 H64 l64 f64 =>
  Q .ret [(4, (.bool true))] H64 (c + 50))
def CV (P : Program) (p : Lab) (Q : aA) (f41 : Option (List Lab)) (f40 : Option (List Lab)) (y0 : AV) (c : Nat) (v45_43 : AV) (H43 : aB) (l43 : List Lab) (f43 : Option (List Lab)) : Prop :=
  qX 0 v45_43 fun v46_45 =>
  qX 1 v45_43 fun v47_46 =>
  aI [0, 1, 3, 7, 15, 0, 32, 127, 255, 511, 511, 1023, 4095] (aH 4 [] ((c + 24) :: p) f40 (aH 5 [] ((c + 25) :: p) f41 (aH 6 [((c + 26) :: p)] ((c + 26) :: p) (some []) (aH 7 l43 ((c + 27) :: p) f43 [])))) ∧
  aW y0 fun v50_51 =>
  vFA 0 v50_51 fun v51_52 =>
  vFA 0 v51_52 fun v52_53 =>
  aM (.store 1) [v52_53, v46_45] H43 ((c + 38) :: p) (CW P p Q y0 c)
def CU (P : Program) (p : Lab) (Q : aA) (l32 : List Lab) (f32 : Option (List Lab)) (f30 : Option (List Lab)) (f29 : Option (List Lab)) (y0 : AV) (c : Nat) (v_35 : AV) (H35 : aB) (l35 : List Lab) (f35 : Option (List Lab)) : Prop :=
  aI [0, 0, 2, 6, 14, 0, 32, 126, 255, 511, 1023] (aH 4 [] ((c + 13) :: p) f29 (aH 5 [] ((c + 14) :: p) f30 (aH 6 [((c + 15) :: p)] ((c + 15) :: p) (some []) (aH 7 l32 ((c + 16) :: p) f32 (aH 10 l35 ((c + 19) :: p) f35 []))))) ∧
  aW y0 fun v39_37 =>
  vFA 0 v39_37 fun v40_38 =>
  vFA 0 v40_38 fun v41_39 =>
  aF 1 false v41_39 H35 fun v42_40 f40 =>
  aF 3 true (.ptr ((c + 7) :: p) 3 0 0) H35 fun v43_41 f41 =>
  jP 3 [(.int .i64 0), (.int .i64 0), (.int .i64 0)] [(0, 3)] [v43_41] fun w42 n42 =>
  (fun (H42 : aB) =>
  aN false P 20 [v42_40, (.sl ((c + 26) :: p) 3 0 n42)] H42 ((c + 27) :: p) (CV P p Q f41 f40 y0 c)) (upd [(((c + 26) :: p), some (.rows 3 w42))] H35)
def CT (P : Program) (p : Lab) (Q : aA) (f30 : Option (List Lab)) (f29 : Option (List Lab)) (y0 : AV) (c : Nat) (v34_32 : AV) (H32 : aB) (l32 : List Lab) (f32 : Option (List Lab)) : Prop :=
  aW y0 fun v35_33 =>
  vFA 3 v35_33 fun v36_34 =>
  aM (.store 1) [v36_34, v34_32] H32 ((c + 19) :: p) (CU P p Q l32 f32 f30 f29 y0 c)
def wN (P : Program) (p : Lab) (Q : aA) (y0 : AV) (c : Nat) (v_24 : AV) (H24 : aB) (l24 : List Lab) (f24 : Option (List Lab)) : Prop :=
  aW y0 fun v29_27 =>
  vFA 3 v29_27 fun v30_28 =>
  aF 1 false v30_28 H24 fun v31_29 f29 =>
  aF 3 true (.ptr ((c + 7) :: p) 3 0 0) H24 fun v32_30 f30 =>
  jP 3 [(.int .i64 0), (.int .i64 0), (.int .i64 0)] [(0, 3)] [v32_30] fun w31 n31 =>
  (fun (H31 : aB) =>
  aM (.append 3 24) [v31_29, (.sl ((c + 15) :: p) 3 0 n31)] H31 ((c + 16) :: p) (CT P p Q f30 f29 y0 c)) (upd [(((c + 15) :: p), some (.rows 3 w31))] H24)
def CX (P : Program) (p : Lab) (Q : aA) (y0 : AV) (y1 : AV) (y19 : AV) (H : aB) (c : Nat) : Prop :=
  aW y0 fun v21_17 =>
  vFA 0 v21_17 fun v22_18 =>
  vFA 1 v22_18 fun v23_19 =>
  aF 1 false v23_19 H fun v24_20 _ =>
  gB [(.int .i64 0), (.int .i64 0), (.int .i64 0)] [(0, 1), (1, 1), (2, 1)] [(.int .i64 1), v24_20, y1] fun v26_22 =>
  (fun (H23 : aB) =>
  aM (.store 3) [(.ptr ((c + 7) :: p) 3 0 0), v26_22] H23 ((c + 8) :: p) (wN P p Q y0 c)) (upd [(((c + 7) :: p), some (.rows 3 [[(.int .i64 0), (.int .i64 0), (.int .i64 0)]]))] H)
def wM (P : Program) (p : Lab) (Q : aA) (y0 : AV) (y1 : AV) (y19 : AV) (H : aB) (c : Nat) (_ : Unit) : Prop :=
  (CX P p Q y0 y1 y19 H c)
def C0 (P : Program) (p : Lab) (Q : aA) (y0 : AV) (y1 : AV) (y19 : AV) (H : aB) (c : Nat) : Prop :=
  aL y19
  (CY P p Q H c)
  (wM P p Q y0 y1 y19 H c)
def wL (P : Program) (p : Lab) (Q : aA) (x0 : AV) (x1 : AV) (c : Nat) (v17_12 : AV) (H12 : aB) (l12 : List Lab) (f12 : Option (List Lab)) : Prop :=
  xU v17_12 fun v18_13 =>
  (C0 P p Q x0 x1 v18_13 H12 (c + 13))
def wK (P : Program) (p : Lab) (Q : aA) (x0 : AV) (x1 : AV) (H : aB) (c : Nat) (_ : Unit) : Prop :=
  aN false P 57 [x1] H ((c + 10) :: p) (wL P p Q x0 x1 c)
def V30 (P : Program) (p : Lab) (Q : aA) (x0 x1 : AV) (H : aB) (c : Nat) : Prop :=
  aW x0 fun v9_2 =>
  vFA 0 v9_2 fun v10_3 =>
  vFA 0 v10_3 fun v11_4 =>
  aF 1 false v11_4 H fun v12_5 _ =>
  cS v12_5 fun v13_6 =>
  aJ .geq .num v13_6 (.int .i64 1000) fun v14_7 =>
  aL v14_7
  (C2 P p Q x0 x1 H c)
  (wK P p Q x0 x1 H c)
theorem LA (P : Program) (p : Lab) (Q : aA) (x0 x1 : AV) (H : aB) (c : Nat) : vc P p c30.body Q [(0, x0), (1, x1)] H c = V30 P p Q x0 x1 H c := by kernel_rfl

def ZK : ACode := (.seq (.seq (.region [⟨(some 99), none, .move, [.t 7]⟩, ⟨(some 100), none, .move, [.t 6]⟩, ⟨(some 101), none, (.len .slice), [.t 100]⟩, ⟨(some 102), none, (.bin .lss .num), [.t 99, .t 101]⟩] none [0, 6, 7, 102])
  (.cond (.t 102) .skip
  (.exit 1)))
  (.seq (.block 2 (.seq (.region [⟨(some 105), none, .move, [.t 0]⟩, ⟨(some 106), none, .move, [.t 6]⟩, ⟨(some 107), none, .move, [.t 7]⟩, ⟨(some 108), none, (.indexAddr 1), [.t 106, .t 107]⟩, ⟨(some 109), none, (.load 1 false), [.t 108]⟩, ⟨(some 110), none, .call, [.c (.fn (.func 30) [] []), .t 105, .t 109]⟩, ⟨(some 111), none, (.un .not), [.t 110]⟩] none [0, 6, 7, 111])
  (.cond (.t 111) (.exit 1)
  .skip)))
  (.region [⟨(some 103), none, .move, [.t 7]⟩, ⟨(some 104), none, (.bin .add .num), [.t 103, .c (.int .i64 1)]⟩, ⟨(some 7), none, .move, [.t 104]⟩] none [0, 6, 7])))
def XZ : ACode := .loop [0, 6, 7] ZK
/-- (*duet/duetref18.work).ctrl -/
def c31 : AFun := ⟨2, 116, [],
  (.seq (.region [⟨(some 8), none, .move, [.t 0]⟩, ⟨(some 9), none, .nilCheck, [.t 8]⟩, ⟨(some 10), none, (.fieldAddr 0), [.t 9]⟩, ⟨(some 11), none, (.fieldAddr 1), [.t 10]⟩, ⟨(some 12), none, (.load 1 false), [.t 11]⟩, ⟨(some 4), none, .move, [.t 12]⟩] none [0, 1, 4])
  (.seq (.region [⟨(some 13), none, .move, [.t 0]⟩, ⟨(some 14), none, .nilCheck, [.t 13]⟩, ⟨(some 15), none, (.fieldAddr 0), [.t 14]⟩, ⟨(some 16), none, (.fieldAddr 0), [.t 15]⟩, ⟨(some 17), none, (.load 1 false), [.t 16]⟩, ⟨(some 18), none, (.len .slice), [.t 17]⟩, ⟨(some 5), none, .move, [.t 18]⟩] none [0, 1, 4, 5])
  (.seq (.region [⟨(some 19), none, .move, [.t 1]⟩] none [0, 4, 5, 19])
  (.block 0 (.seq (.region [⟨(some 21), none, (.bin .eql .num), [.t 19, .c (.int .i64 97)]⟩, ⟨(some 20), none, .move, [.t 21]⟩] none [0, 4, 5, 19, 20])
  (.cond (.t 20) (.region [⟨(some 22), none, .move, [.t 0]⟩, ⟨(some 23), none, .nilCheck, [.t 22]⟩, ⟨(some 24), none, (.fieldAddr 0), [.t 23]⟩, ⟨(some 25), none, (.fieldAddr 1), [.t 24]⟩, ⟨none, none, (.store 1), [.t 25, .c (.int .i64 0)]⟩] none [])
  (.seq (.region [⟨(some 27), none, (.bin .eql .num), [.t 19, .c (.int .i64 101)]⟩, ⟨(some 26), none, .move, [.t 27]⟩] none [0, 4, 5, 19, 26])
  (.cond (.t 26) (.region [⟨(some 28), none, .move, [.t 0]⟩, ⟨(some 29), none, .move, [.t 5]⟩, ⟨(some 30), none, .nilCheck, [.t 28]⟩, ⟨(some 31), none, (.fieldAddr 0), [.t 30]⟩, ⟨(some 32), none, (.fieldAddr 1), [.t 31]⟩, ⟨none, none, (.store 1), [.t 32, .t 29]⟩] none [])
  (.seq (.region [⟨(some 34), none, (.bin .eql .num), [.t 19, .c (.int .i64 98)]⟩, ⟨(some 33), none, .move, [.t 34]⟩] none [0, 4, 5, 19, 33])
  (.cond (.t 33) (.region [⟨(some 35), none, .move, [.t 0]⟩, ⟨(some 36), none, .move, [.t 4]⟩, ⟨(some 37), none, (.bin .sub .num), [.t 36, .c (.int .i64 1)]⟩, ⟨(some 38), none, .max, [.t 37, .c (.int .i64 0)]⟩, ⟨(some 39), none, .nilCheck, [.t 35]⟩, ⟨(some 40), none, (.fieldAddr 0), [.t 39]⟩, ⟨(some 41), none, (.fieldAddr 1), [.t 40]⟩, ⟨none, none, (.store 1), [.t 41, .t 38]⟩] none [])
  (.seq (.region [⟨(some 43), none, (.bin .eql .num), [.t 19, .c (.int .i64 102)]⟩, ⟨(some 42), none, .move, [.t 43]⟩] none [0, 4, 5, 19, 42])
  (.cond (.t 42) (.region [⟨(some 44), none, .move, [.t 0]⟩, ⟨(some 45), none, .move, [.t 4]⟩, ⟨(some 46), none, (.bin .add .num), [.t 45, .c (.int .i64 1)]⟩, ⟨(some 47), none, .move, [.t 5]⟩, ⟨(some 48), none, .min, [.t 46, .t 47]⟩, ⟨(some 49), none, .nilCheck, [.t 44]⟩, ⟨(some 50), none, (.fieldAddr 0), [.t 49]⟩, ⟨(some 51), none, (.fieldAddr 1), [.t 50]⟩, ⟨none, none, (.store 1), [.t 51, .t 48]⟩] none [])
  (.seq (.region [⟨(some 53), none, (.bin .eql .num), [.t 19, .c (.int .i64 104)]⟩, ⟨(some 52), none, .move, [.t 53]⟩] none [0, 4, 5, 19, 52])
  (.cond (.t 52) (.region [⟨(some 54), none, .move, [.t 0]⟩, ⟨(some 55), none, .move, [.t 4]⟩, ⟨(some 56), none, (.bin .sub .num), [.t 55, .c (.int .i64 1)]⟩, ⟨(some 57), none, .max, [.t 56, .c (.int .i64 0)]⟩, ⟨(some 58), none, .move, [.t 4]⟩, ⟨(some 59), none, .call, [.c (.fn (.func 58) [] []), .t 54, .t 57, .t 58]⟩] none [])
  (.seq (.region [⟨(some 61), none, (.bin .eql .num), [.t 19, .c (.int .i64 100)]⟩, ⟨(some 60), none, .move, [.t 61]⟩] none [0, 4, 5, 19, 60])
  (.cond (.t 60) (.region [⟨(some 62), none, .move, [.t 0]⟩, ⟨(some 63), none, .move, [.t 4]⟩, ⟨(some 64), none, .move, [.t 4]⟩, ⟨(some 65), none, (.bin .add .num), [.t 64, .c (.int .i64 1)]⟩, ⟨(some 66), none, .move, [.t 5]⟩, ⟨(some 67), none, .min, [.t 65, .t 66]⟩, ⟨(some 68), none, .call, [.c (.fn (.func 58) [] []), .t 62, .t 63, .t 67]⟩] none [])
  (.seq (.region [⟨(some 70), none, (.bin .eql .num), [.t 19, .c (.int .i64 107)]⟩, ⟨(some 69), none, .move, [.t 70]⟩] none [0, 4, 5, 19, 69])
  (.cond (.t 69) (.region [⟨(some 71), none, .move, [.t 0]⟩, ⟨(some 72), none, .move, [.t 4]⟩, ⟨(some 73), none, .move, [.t 5]⟩, ⟨(some 74), none, .call, [.c (.fn (.func 32) [] []), .t 71, .t 72, .t 73]⟩] none [])
  (.seq (.region [⟨(some 76), none, (.bin .eql .num), [.t 19, .c (.int .i64 117)]⟩, ⟨(some 75), none, .move, [.t 76]⟩] none [0, 4, 19, 75])
  (.cond (.t 75) (.region [⟨(some 77), none, .move, [.t 0]⟩, ⟨(some 78), none, .move, [.t 4]⟩, ⟨(some 79), none, .call, [.c (.fn (.func 32) [] []), .t 77, .c (.int .i64 0), .t 78]⟩] none [])
  (.seq (.region [⟨(some 81), none, (.bin .eql .num), [.t 19, .c (.int .i64 119)]⟩, ⟨(some 80), none, .move, [.t 81]⟩] none [0, 4, 19, 80])
  (.cond (.t 80) (.region [⟨(some 82), none, .move, [.t 0]⟩, ⟨(some 83), none, .move, [.t 0]⟩, ⟨(some 84), none, .nilCheck, [.t 83]⟩, ⟨(some 85), none, (.fieldAddr 0), [.t 84]⟩, ⟨(some 86), none, (.fieldAddr 0), [.t 85]⟩, ⟨(some 87), none, (.load 1 false), [.t 86]⟩, ⟨(some 88), none, .move, [.t 4]⟩, ⟨(some 89), none, .call, [.c (.fn (.func 23) [] []), .t 87, .t 88, .c (.bool true)]⟩, ⟨(some 90), none, .move, [.t 4]⟩, ⟨(some 91), none, .call, [.c (.fn (.func 32) [] []), .t 82, .t 89, .t 90]⟩] none [])
  (.seq (.region [⟨(some 93), none, (.bin .eql .num), [.t 19, .c (.int .i64 121)]⟩, ⟨(some 92), none, .move, [.t 93]⟩] none [0, 19, 92])
  (.cond (.t 92) (.seq (.region [⟨(some 94), none, .move, [.t 0]⟩, ⟨(some 95), none, .nilCheck, [.t 94]⟩, ⟨(some 96), none, (.fieldAddr 0), [.t 95]⟩, ⟨(some 97), none, (.fieldAddr 2), [.t 96]⟩, ⟨(some 98), none, (.load 1 false), [.t 97]⟩, ⟨(some 6), none, .move, [.t 98]⟩] none [0, 6])
  (.seq (.region [⟨(some 7), none, .move, [.c (.int .i64 0)]⟩] none [0, 6, 7])
  (.block 1 XZ)))
  (.seq (.region [⟨(some 113), none, (.bin .eql .num), [.t 19, .c (.int .i64 116)]⟩, ⟨(some 112), none, .move, [.t 113]⟩] none [0, 112])
  (.cond (.t 112) (.region [⟨(some 114), none, .move, [.t 0]⟩, ⟨(some 115), none, .call, [.c (.fn (.func 59) [] []), .t 114]⟩] none [])
  .skip))))))))))))))))))))))))))⟩
theorem ok31 : FunOk Try.prog 31 c31 := ⟨⟨Try.f31, _, Try.func31, rfl, by kernel_rfl, by kernel_rfl, by kernel_rfl, by kernel_rfl⟩, by decide⟩
theorem mK : c31.res = [] := rfl
def mF (P : Program) (p : Lab) (Q : aA) (y0 : AV) (H : aB) (c : Nat) : Prop :=
  aW y0 fun v23_17 =>
  vFA 0 v23_17 fun v24_18 =>
  vFA 1 v24_18 fun v25_19 =>
  aM (.store 1) [v25_19, (.int .i64 0)] H ((c + 4) :: p) (fun v_20 H20 l20 f20 =>
  Q .normal [] H20 (c + 5))
def mE (P : Program) (p : Lab) (Q : aA) (x0 : AV) (H : aB) (c : Nat) (_ : Unit) : Prop :=
  (mF P p Q x0 H (c + 16))
def mC (P : Program) (p : Lab) (Q : aA) (y0 : AV) (y5 : AV) (H : aB) (c : Nat) : Prop :=
  aW y0 fun v30_25 =>
  vFA 0 v30_25 fun v31_26 =>
  vFA 1 v31_26 fun v32_27 =>
  aM (.store 1) [v32_27, y5] H ((c + 5) :: p) (fun v_28 H28 l28 f28 =>
  Q .normal [] H28 (c + 6))
def mB (P : Program) (p : Lab) (Q : aA) (y0 : AV) (y5 : AV) (H : aB) (c : Nat) (_ : Unit) : Prop :=
  (mC P p Q y0 y5 H c)
def lZ (P : Program) (p : Lab) (Q : aA) (y0 : AV) (y4 : AV) (H : aB) (c : Nat) : Prop :=
  aJ .sub .num y4 (.int .i64 1) fun v37_33 =>
  LG v37_33 (.int .i64 0) fun v38_34 =>
  aW y0 fun v39_35 =>
  vFA 0 v39_35 fun v40_36 =>
  vFA 1 v40_36 fun v41_37 =>
  aM (.store 1) [v41_37, v38_34] H ((c + 7) :: p) (fun v_38 H38 l38 f38 =>
  Q .normal [] H38 (c + 8))
def lY (P : Program) (p : Lab) (Q : aA) (y0 : AV) (y4 : AV) (H : aB) (c : Nat) (_ : Unit) : Prop :=
  (lZ P p Q y0 y4 H c)
def lW (P : Program) (p : Lab) (Q : aA) (y0 : AV) (y4 : AV) (y5 : AV) (H : aB) (c : Nat) : Prop :=
  aJ .add .num y4 (.int .i64 1) fun v46_43 =>
  I2 v46_43 y5 fun v48_45 =>
  aW y0 fun v49_46 =>
  vFA 0 v49_46 fun v50_47 =>
  vFA 1 v50_47 fun v51_48 =>
  aM (.store 1) [v51_48, v48_45] H ((c + 8) :: p) (fun v_49 H49 l49 f49 =>
  Q .normal [] H49 (c + 9))
def iM (P : Program) (p : Lab) (Q : aA) (y0 : AV) (y4 : AV) (y5 : AV) (H : aB) (c : Nat) (_ : Unit) : Prop :=
  (lW P p Q y0 y4 y5 H c)
def iK (P : Program) (p : Lab) (Q : aA) (y0 : AV) (y4 : AV) (H : aB) (c : Nat) : Prop :=
  aJ .sub .num y4 (.int .i64 1) fun v56_54 =>
  LG v56_54 (.int .i64 0) fun v57_55 =>
  aN true P 58 [y0, v57_55, y4] H ((c + 5) :: p) (fun v59_57 H57 l57 f57 =>
  Q .normal [] H57 (c + 6))
def iJ (P : Program) (p : Lab) (Q : aA) (y0 : AV) (y4 : AV) (H : aB) (c : Nat) (_ : Unit) : Prop :=
  (iK P p Q y0 y4 H c)
def iH (P : Program) (p : Lab) (Q : aA) (y0 : AV) (y4 : AV) (y5 : AV) (H : aB) (c : Nat) : Prop :=
  aJ .add .num y4 (.int .i64 1) fun v65_63 =>
  I2 v65_63 y5 fun v67_65 =>
  aN true P 58 [y0, y4, v67_65] H ((c + 6) :: p) (fun v68_66 H66 l66 f66 =>
  Q .normal [] H66 (c + 7))
def iG (P : Program) (p : Lab) (Q : aA) (y0 : AV) (y4 : AV) (y5 : AV) (H : aB) (c : Nat) (_ : Unit) : Prop :=
  (iH P p Q y0 y4 y5 H c)
def iD (P : Program) (p : Lab) (Q : aA) (y0 : AV) (y4 : AV) (y5 : AV) (H : aB) (c : Nat) : Prop :=
  aN true P 32 [y0, y4, y5] H ((c + 3) :: p) (fun v74_72 H72 l72 f72 =>
  Q .normal [] H72 (c + 4))
def iC (P : Program) (p : Lab) (Q : aA) (y0 : AV) (y4 : AV) (y5 : AV) (H : aB) (c : Nat) (_ : Unit) : Prop :=
  (iD P p Q y0 y4 y5 H c)
def iA (P : Program) (p : Lab) (Q : aA) (y0 : AV) (y4 : AV) (H : aB) (c : Nat) (_ : Unit) : Prop :=
  aN true P 32 [y0, (.int .i64 0), y4] H ((c + 2) :: p) (fun v79_77 H77 l77 f77 =>
  Q .normal [] H77 (c + 3))
def hX (P : Program) (p : Lab) (Q : aA) (y0 : AV) (y4 : AV) (c : Nat) (v89_87 : AV) (H87 : aB) (l87 : List Lab) (f87 : Option (List Lab)) : Prop :=
  aN true P 32 [y0, v89_87, y4] H87 ((c + 9) :: p) (fun v91_89 H89 l89 f89 =>
  Q .normal [] H89 (c + 10))
def hY (P : Program) (p : Lab) (Q : aA) (y0 : AV) (y4 : AV) (H : aB) (c : Nat) : Prop :=
  aW y0 fun v84_82 =>
  vFA 0 v84_82 fun v85_83 =>
  vFA 0 v85_83 fun v86_84 =>
  aF 1 false v86_84 H fun v87_85 _ =>
  aN true P 23 [v87_85, y4, (.bool true)] H ((c + 7) :: p) (hX P p Q y0 y4 c)
def hP (P : Program) (p : Lab) (Q : aA) (y0 : AV) (y4 : AV) (H : aB) (c : Nat) (_ : Unit) : Prop :=
  (hY P p Q y0 y4 H c)
def RF (P : Program) (p : Lab) (Q : aA) : aA := (jO 1 (jO 0 Q))
theorem bD (P : Program) (p : Lab) (Q : aA) (r : RL) (H : aB) (c : Nat) : RF P p Q .ret r H c = Q .ret r H c := rfl
def g9 (P : Program) (p : Lab) (Q : aA) (y0 : AV) (H : aB) (c : Nat) : Prop :=
  aW y0 fun v95_93 =>
  vFA 0 v95_93 fun v96_94 =>
  vFA 2 v96_94 fun v97_95 =>
  aF 1 false v97_95 H fun v98_96 _ =>
  vc P p XZ (RF P p Q) [(0, y0), (6, v98_96), (7, (.int .i64 0))] H (c + 7)
def g8 (P : Program) (p : Lab) (Q : aA) (y0 : AV) (H : aB) (c : Nat) (_ : Unit) : Prop :=
  (g9 P p Q y0 H c)
def gZ (P : Program) (p : Lab) (Q : aA) (y0 : AV) (H : aB) (c : Nat) (_ : Unit) : Prop :=
  aN true P 59 [y0] H ((c + 1) :: p) (fun v115_102 H102 l102 f102 =>
  Q .normal [] H102 (c + 2))
def g7 (P : Program) (p : Lab) (Q : aA) (y0 : AV) (y112 : AV) (H : aB) (c : Nat) : Prop :=
  aL y112
  (gZ P p Q y0 H c)
  (fun _ =>
  Q .normal [(0, y0), (112, y112)] H c)
def gY (P : Program) (p : Lab) (Q : aA) (y0 : AV) (y19 : AV) (H : aB) (c : Nat) (_ : Unit) : Prop :=
  aJ .eql .num y19 (.int .i64 116) fun v113_99 =>
  (g7 P p Q y0 v113_99 H (c + 2))
def hB (P : Program) (p : Lab) (Q : aA) (y0 : AV) (y19 : AV) (y92 : AV) (H : aB) (c : Nat) : Prop :=
  aL y92
  (g8 P p Q y0 H c)
  (gY P p Q y0 y19 H c)
def gX (P : Program) (p : Lab) (Q : aA) (y0 : AV) (y19 : AV) (H : aB) (c : Nat) (_ : Unit) : Prop :=
  aJ .eql .num y19 (.int .i64 121) fun v93_90 =>
  (hB P p Q y0 y19 v93_90 H (c + 2))
def hZ (P : Program) (p : Lab) (Q : aA) (y0 : AV) (y4 : AV) (y19 : AV) (y80 : AV) (H : aB) (c : Nat) : Prop :=
  aL y80
  (hP P p Q y0 y4 H c)
  (gX P p Q y0 y19 H c)
def gW (P : Program) (p : Lab) (Q : aA) (y0 : AV) (y4 : AV) (y19 : AV) (H : aB) (c : Nat) (_ : Unit) : Prop :=
  aJ .eql .num y19 (.int .i64 119) fun v81_78 =>
  (hZ P p Q y0 y4 y19 v81_78 H (c + 2))
def iB (P : Program) (p : Lab) (Q : aA) (y0 : AV) (y4 : AV) (y19 : AV) (y75 : AV) (H : aB) (c : Nat) : Prop :=
  aL y75
  (iA P p Q y0 y4 H c)
  (gW P p Q y0 y4 y19 H c)
def gV (P : Program) (p : Lab) (Q : aA) (y0 : AV) (y4 : AV) (y19 : AV) (H : aB) (c : Nat) (_ : Unit) : Prop :=
  aJ .eql .num y19 (.int .i64 117) fun v76_73 =>
  (iB P p Q y0 y4 y19 v76_73 H (c + 2))
def iE (P : Program) (p : Lab) (Q : aA) (y0 : AV) (y4 : AV) (y5 : AV) (y19 : AV) (y69 : AV) (H : aB) (c : Nat) : Prop :=
  aL y69
  (iC P p Q y0 y4 y5 H c)
  (gV P p Q y0 y4 y19 H c)
def gU (P : Program) (p : Lab) (Q : aA) (y0 : AV) (y4 : AV) (y5 : AV) (y19 : AV) (H : aB) (c : Nat) (_ : Unit) : Prop :=
  aJ .eql .num y19 (.int .i64 107) fun v70_67 =>
  (iE P p Q y0 y4 y5 y19 v70_67 H (c + 2))
def iI (P : Program) (p : Lab) (Q : aA) (y0 : AV) (y4 : AV) (y5 : AV) (y19 : AV) (y60 : AV) (H : aB) (c : Nat) : Prop :=
  aL y60
  (iG P p Q y0 y4 y5 H c)
  (gU P p Q y0 y4 y5 y19 H c)
def gT (P : Program) (p : Lab) (Q : aA) (y0 : AV) (y4 : AV) (y5 : AV) (y19 : AV) (H : aB) (c : Nat) (_ : Unit) : Prop :=
  aJ .eql .num y19 (.int .i64 100) fun v61_58 =>
  (iI P p Q y0 y4 y5 y19 v61_58 H (c + 2))
def iL (P : Program) (p : Lab) (Q : aA) (y0 : AV) (y4 : AV) (y5 : AV) (y19 : AV) (y52 : AV) (H : aB) (c : Nat) : Prop :=
  aL y52
  (iJ P p Q y0 y4 H c)
  (gT P p Q y0 y4 y5 y19 H c)
def gS (P : Program) (p : Lab) (Q : aA) (y0 : AV) (y4 : AV) (y5 : AV) (y19 : AV) (H : aB) (c : Nat) (_ : Unit) : Prop :=
  aJ .eql .num y19 (.int .i64 104) fun v53_50 =>
  (iL P p Q y0 y4 y5 y19 v53_50 H (c + 2))
def lX (P : Program) (p : Lab) (Q : aA) (y0 : AV) (y4 : AV) (y5 : AV) (y19 : AV) (y42 : AV) (H : aB) (c : Nat) : Prop :=
  aL y42
  (iM P p Q y0 y4 y5 H c)
  (gS P p Q y0 y4 y5 y19 H c)
def gR (P : Program) (p : Lab) (Q : aA) (y0 : AV) (y4 : AV) (y5 : AV) (y19 : AV) (H : aB) (c : Nat) (_ : Unit) : Prop :=
  aJ .eql .num y19 (.int .i64 102) fun v43_39 =>
  (lX P p Q y0 y4 y5 y19 v43_39 H (c + 2))
def mA (P : Program) (p : Lab) (Q : aA) (y0 : AV) (y4 : AV) (y5 : AV) (y19 : AV) (y33 : AV) (H : aB) (c : Nat) : Prop :=
  aL y33
  (lY P p Q y0 y4 H c)
  (gR P p Q y0 y4 y5 y19 H c)
def gQ (P : Program) (p : Lab) (Q : aA) (y0 : AV) (y4 : AV) (y5 : AV) (y19 : AV) (H : aB) (c : Nat) (_ : Unit) : Prop :=
  aJ .eql .num y19 (.int .i64 98) fun v34_29 =>
  (mA P p Q y0 y4 y5 y19 v34_29 H (c + 2))
def mD (P : Program) (p : Lab) (Q : aA) (y0 : AV) (y4 : AV) (y5 : AV) (y19 : AV) (y26 : AV) (H : aB) (c : Nat) : Prop :=
  aL y26
  (mB P p Q y0 y5 H c)
  (gQ P p Q y0 y4 y5 y19 H c)
def gP (P : Program) (p : Lab) (Q : aA) (v18_11 : AV) (v12_4 : AV) (x0 : AV) (x1 : AV) (H : aB) (c : Nat) (_ : Unit) : Prop :=
  aJ .eql .num x1 (.int .i64 101) fun v27_21 =>
  (mD P p Q x0 v12_4 v18_11 x1 v27_21 H (c + 18))
def V31 (P : Program) (p : Lab) (Q : aA) (x0 x1 : AV) (H : aB) (c : Nat) : Prop :=
  aW x0 fun v9_1 =>
  vFA 0 v9_1 fun v10_2 =>
  vFA 1 v10_2 fun v11_3 =>
  aF 1 false v11_3 H fun v12_4 _ =>
  aW x0 fun v14_7 =>
  vFA 0 v14_7 fun v15_8 =>
  vFA 0 v15_8 fun v16_9 =>
  aF 1 false v16_9 H fun v17_10 _ =>
  cS v17_10 fun v18_11 =>
  aJ .eql .num x1 (.int .i64 97) fun v21_14 =>
  aL v21_14
  (mE P p Q x0 H c)
  (gP P p Q v18_11 v12_4 x0 x1 H c)
theorem rH (P : Program) (p : Lab) (Q : aA) (x0 x1 : AV) (H : aB) (c : Nat) : vc P p c31.body Q [(0, x0), (1, x1)] H c = V31 P p Q x0 x1 H c := by kernel_rfl
def gN (P : Program) (p : Lab) (Q : aA) (y0 : AV) (y6 : AV) (y7 : AV) (y111 : AV) (H : aB) (c : Nat) : Prop :=
  aJ .add .num y7 (.int .i64 1) fun v104_115 =>
  Q .normal [(0, y0), (6, y6), (7, v104_115)] H (c + 3)
def gM (P : Program) (p : Lab) (Q : aA) (v111_113 : AV) (H112 : aB) (y0 : AV) (y6 : AV) (y7 : AV) (c : Nat) (_ : Unit) : Prop :=
  (gN P p Q y0 y6 y7 v111_113 H112 (c + 7))
def gL (P : Program) (p : Lab) (Q : aA) (y0 : AV) (y6 : AV) (y7 : AV) (c : Nat) (v110_112 : AV) (H112 : aB) (l112 : List Lab) (f112 : Option (List Lab)) : Prop :=
  xU v110_112 fun v111_113 =>
  aL v111_113
  (fun _ =>
  Q (.exit 1) [(0, y0), (6, y6), (7, y7), (111, v111_113)] H112 (c + 7))
  (gM P p Q v111_113 H112 y0 y6 y7 c)
def gO (P : Program) (p : Lab) (Q : aA) (y0 : AV) (y6 : AV) (y7 : AV) (y102 : AV) (H : aB) (c : Nat) : Prop :=
  vIx 1 y6 y7 fun v108_110 =>
  aF 1 false v108_110 H fun v109_111 _ =>
  aN true P 30 [y0, v109_111] H ((c + 5) :: p) (gL P p Q y0 y6 y7 c)
def gK (P : Program) (p : Lab) (Q : aA) (v102_106 : AV) (x0 : AV) (x6 : AV) (x7 : AV) (H : aB) (c : Nat) (_ : Unit) : Prop :=
  (gO P p Q x0 x6 x7 v102_106 H (c + 4))
def mG (P : Program) (p : Lab) (Q : aA) (x0 x6 x7 : AV) (H : aB) (c : Nat) : Prop :=
  cS x6 fun v101_105 =>
  aJ .lss .num x7 v101_105 fun v102_106 =>
  aL v102_106
  (gK P p Q v102_106 x0 x6 x7 H c)
  (fun _ =>
  Q (.exit 1) [(0, x0), (6, x6), (7, x7), (102, v102_106)] H (c + 4))
theorem iW (P : Program) (p : Lab) (Q : aA) (x0 x6 x7 : AV) (H : aB) (c : Nat) : vc P p ZK Q [(0, x0), (6, x6), (7, x7)] H c = mG P p Q x0 x6 x7 H c := by kernel_rfl
theorem bL (P : Program) (p : Lab) (Q : aA) (r : RL) (H : aB) (c : Nat) : RF P p Q (.exit 1) r H c = (Q .normal r H c) := rfl


/-- (*duet/duetref18.work).kill -/
def c32 : AFun := ⟨3, 19, [],
  (.seq (.region [⟨(some 7), none, .move, [.t 0]⟩, ⟨(some 8), none, .move, [.t 1]⟩, ⟨(some 9), none, .move, [.t 2]⟩, ⟨(some 10), none, .call, [.c (.fn (.func 58) [] []), .t 7, .t 8, .t 9]⟩, ⟨(some 6), none, .move, [.t 10]⟩] none [0, 6])
  (.seq (.region [⟨(some 11), none, .move, [.t 6]⟩, ⟨(some 12), none, (.len .slice), [.t 11]⟩, ⟨(some 13), none, (.bin .gtr .num), [.t 12, .c (.int .i64 0)]⟩] none [0, 6, 13])
  (.cond (.t 13) (.region [⟨(some 14), none, .move, [.t 0]⟩, ⟨(some 15), none, .move, [.t 6]⟩, ⟨(some 16), none, .nilCheck, [.t 14]⟩, ⟨(some 17), none, (.fieldAddr 0), [.t 16]⟩, ⟨(some 18), none, (.fieldAddr 2), [.t 17]⟩, ⟨none, none, (.store 1), [.t 18, .t 15]⟩] none [])
  .skip)))⟩
theorem ok32 : FunOk Try.prog 32 c32 := ⟨⟨Try.f32, _, Try.func32, rfl, by kernel_rfl, by kernel_rfl, by kernel_rfl, by kernel_rfl⟩, by decide⟩
theorem Q8 : c32.res = [] := rfl
def P0 (P : Program) (p : Lab) (Q : aA) (y0 : AV) (y6 : AV) (H : aB) (c : Nat) : Prop :=
  aW y0 fun v16_10 =>
  vFA 0 v16_10 fun v17_11 =>
  vFA 2 v17_11 fun v18_12 =>
  aM (.store 1) [v18_12, y6] H ((c + 5) :: p) (fun v_13 H13 l13 f13 =>
  Q .normal [] H13 (c + 6))
def PZ (P : Program) (p : Lab) (Q : aA) (v10_3 : AV) (H3 : aB) (x0 : AV) (c : Nat) (_ : Unit) : Prop :=
  (P0 P p Q x0 v10_3 H3 (c + 8))
def PY (P : Program) (p : Lab) (Q : aA) (x0 : AV) (c : Nat) (v10_3 : AV) (H3 : aB) (l3 : List Lab) (f3 : Option (List Lab)) : Prop :=
  cS v10_3 fun v12_6 =>
  aJ .gtr .num v12_6 (.int .i64 0) fun v13_7 =>
  aL v13_7
  (PZ P p Q v10_3 H3 x0 c)
  (fun _ =>
  Q .normal [(0, x0), (6, v10_3), (13, v13_7)] H3 (c + 8))
def V32 (P : Program) (p : Lab) (Q : aA) (x0 x1 x2 : AV) (H : aB) (c : Nat) : Prop :=
  aN true P 58 [x0, x1, x2] H ((c + 3) :: p) (PY P p Q x0 c)
theorem Z2 (P : Program) (p : Lab) (Q : aA) (x0 x1 x2 : AV) (H : aB) (c : Nat) : vc P p c32.body Q [(0, x0), (1, x1), (2, x2)] H c = V32 P p Q x0 x1 x2 H c := by kernel_rfl

def ZG : ACode := (.seq (.seq (.region [⟨(some 13), none, .move, [.t 8]⟩, ⟨(some 14), none, .move, [.t 2]⟩, ⟨(some 15), none, (.bin .lss .num), [.t 13, .t 14]⟩] none [0, 1, 2, 7, 8, 15])
  (.cond (.t 15) .skip
  (.exit 0)))
  (.seq (.block 1 (.seq (.region [⟨(some 18), none, .move, [.t 1]⟩, ⟨(some 19), none, .move, [.t 0]⟩, ⟨(some 20), none, .nilCheck, [.t 19]⟩, ⟨(some 21), none, (.fieldAddr 0), [.t 20]⟩, ⟨(some 22), none, (.fieldAddr 0), [.t 21]⟩, ⟨(some 23), none, (.load 1 false), [.t 22]⟩, ⟨(some 24), none, .move, [.t 1]⟩, ⟨(some 25), none, (.indexAddr 1), [.t 23, .t 24]⟩, ⟨(some 26), none, (.load 1 false), [.t 25]⟩, ⟨(some 27), none, (.build [(.int .i64 0), (.int .i64 0), (.int .i64 0)] [(0, 1), (1, 1), (2, 1)]), [.c (.int .i64 2), .t 18, .t 26]⟩, ⟨(some 9), none, (.alloc [(.int .i64 0), (.int .i64 0), (.int .i64 0)]), []⟩, ⟨none, none, (.store 3), [.t 9, .t 27]⟩] none [0, 1, 2, 7, 8, 9])
  (.seq (.region [⟨(some 28), none, .move, [.t 7]⟩, ⟨(some 29), none, (.fieldAddr 2), [.t 9]⟩, ⟨(some 30), none, (.load 1 false), [.t 29]⟩, ⟨(some 31), none, (.buildSlice 1 [(.int .i64 0)] [(0, 1)]), [.t 30]⟩, ⟨(some 32), none, (.append 1 8), [.t 28, .t 31]⟩, ⟨(some 7), none, .move, [.t 32]⟩] none [0, 1, 2, 7, 8, 9])
  (.seq (.region [⟨(some 33), none, .move, [.t 0]⟩, ⟨(some 34), none, .move, [.t 0]⟩, ⟨(some 35), none, .nilCheck, [.t 34]⟩, ⟨(some 36), none, (.fieldAddr 3), [.t 35]⟩, ⟨(some 37), none, (.load 1 false), [.t 36]⟩, ⟨(some 38), none, (.load 3 true), [.t 9]⟩, ⟨(some 39), none, (.buildSlice 3 [(.int .i64 0), (.int .i64 0), (.int .i64 0)] [(0, 3)]), [.t 38]⟩, ⟨(some 40), none, (.append 3 24), [.t 37, .t 39]⟩, ⟨(some 41), none, .nilCheck, [.t 33]⟩, ⟨(some 42), none, (.fieldAddr 3), [.t 41]⟩, ⟨none, none, (.store 1), [.t 42, .t 40]⟩] (some [0, 0, 2, 6, 14, 0, 32, 126, 255, 511, 1023]) [0, 1, 2, 7, 8, 9])
  (.seq (.region [⟨(some 44), none, .move, [.t 0]⟩, ⟨(some 45), none, .nilCheck, [.t 44]⟩, ⟨(some 46), none, (.fieldAddr 0), [.t 45]⟩, ⟨(some 47), none, (.fieldAddr 0), [.t 46]⟩, ⟨(some 48), none, (.load 1 false), [.t 47]⟩, ⟨(some 49), none, (.load 3 true), [.t 9]⟩, ⟨(some 50), none, (.buildSlice 3 [(.int .i64 0), (.int .i64 0), (.int .i64 0)] [(0, 3)]), [.t 49]⟩, ⟨(some 51), none, .call, [.c (.fn (.func 20) [] []), .t 48, .t 50]⟩, ⟨(some 43), none, .move, [.t 51]⟩, ⟨(some 52), none, (.extract 0), [.t 43]⟩, ⟨(some 53), none, (.extract 1), [.t 43]⟩, ⟨(some 10), none, .move, [.t 52]⟩, ⟨(some 11), none, .move, [.t 53]⟩] (some [0, 1, 3, 7, 15, 0, 32, 127, 255, 511, 511, 1023, 4095]) [0, 1, 2, 7, 8, 10])
  (.region [⟨(some 54), none, .move, [.t 0]⟩, ⟨(some 55), none, .move, [.t 10]⟩, ⟨(some 56), none, .nilCheck, [.t 54]⟩, ⟨(some 57), none, (.fieldAddr 0), [.t 56]⟩, ⟨(some 58), none, (.fieldAddr 0), [.t 57]⟩, ⟨none, none, (.store 1), [.t 58, .t 55]⟩] none [0, 1, 2, 7, 8]))))))
  (.region [⟨(some 16), none, .move, [.t 8]⟩, ⟨(some 17), none, (.bin .add .num), [.t 16, .c (.int .i64 1)]⟩, ⟨(some 8), none, .move, [.t 17]⟩] none [0, 1, 2, 7, 8])))
def XV : ACode := .loop [0, 1, 2, 7, 8] ZG
def O5 : ACode := (.seq (.seq (.region [⟨(some 59), none, .move, [.t 1]⟩, ⟨(some 60), none, .move, [.t 2]⟩, ⟨(some 61), none, (.bin .lss .num), [.t 59, .t 60]⟩] none [0, 1, 7, 61])
  (.cond (.t 61) (.region [⟨(some 62), none, .move, [.t 0]⟩, ⟨(some 63), none, .move, [.t 1]⟩, ⟨(some 64), none, .nilCheck, [.t 62]⟩, ⟨(some 65), none, (.fieldAddr 0), [.t 64]⟩, ⟨(some 66), none, (.fieldAddr 1), [.t 65]⟩, ⟨none, none, (.store 1), [.t 66, .t 63]⟩] none [7])
  .skip))
  (.seq (.region [⟨(some 67), none, .move, [.t 7]⟩, ⟨(some 6), none, .move, [.t 67]⟩] none [6])
  .ret))
/-- (*duet/duetref18.work).cut -/
def c58 : AFun := ⟨3, 68, [.tmp 6],
  (.seq (.region [⟨(some 6), none, .move, [.c .nils]⟩] none [0, 1, 2])
  (.seq (.region [⟨(some 7), none, .move, [.c .nils]⟩] none [0, 1, 2, 7])
  (.seq (.seq (.region [⟨(some 12), none, .move, [.t 1]⟩, ⟨(some 8), none, .move, [.t 12]⟩] none [0, 1, 2, 7, 8])
  (.block 0 XV)) O5)))⟩
theorem ok58 : FunOk Try.prog 58 c58 := ⟨⟨Try.f58, _, Try.func58, rfl, by kernel_rfl, by kernel_rfl, by kernel_rfl, by kernel_rfl⟩, by decide⟩
theorem D7 : c58.res = [.tmp 6] := rfl
def RA (P : Program) (p : Lab) (Q : aA) : aA := (jO 0 (qG (vc P p O5 Q) Q))
theorem oQ (P : Program) (p : Lab) (Q : aA) (r : RL) (H : aB) (c : Nat) : RA P p Q .ret r H c = Q .ret r H c := rfl
def V58 (P : Program) (p : Lab) (Q : aA) (x0 x1 x2 : AV) (H : aB) (c : Nat) : Prop :=
  vc P p XV (RA P p Q) [(0, x0), (1, x1), (2, x2), (7, .nils), (8, x1)] H (c + 4)
theorem K9 (P : Program) (p : Lab) (Q : aA) (x0 x1 x2 : AV) (H : aB) (c : Nat) : vc P p c58.body Q [(0, x0), (1, x1), (2, x2)] H c = V58 P p Q x0 x1 x2 H c := by kernel_rfl
def CR (P : Program) (p : Lab) (Q : aA) (v32_23 : AV) (y0 : AV) (y1 : AV) (y2 : AV) (y8 : AV) (c : Nat) (v_54 : AV) (H54 : aB) (l54 : List Lab) (f54 : Option (List Lab)) : Prop :=
  aJ .add .num y8 (.int .i64 1) fun v17_56 =>
  Q .normal [(0, y0), (1, y1), (2, y2), (7, v32_23), (8, v17_56)] H54 (c + 51)
def CQ (P : Program) (p : Lab) (Q : aA) (f41 : Option (List Lab)) (f40 : Option (List Lab)) (v32_23 : AV) (y0 : AV) (y1 : AV) (y2 : AV) (y8 : AV) (c : Nat) (v51_43 : AV) (H43 : aB) (l43 : List Lab) (f43 : Option (List Lab)) : Prop :=
  qX 0 v51_43 fun v52_45 =>
  qX 1 v51_43 fun v53_46 =>
  aI [0, 1, 3, 7, 15, 0, 32, 127, 255, 511, 511, 1023, 4095] (aH 4 [] ((c + 33) :: p) f40 (aH 5 [] ((c + 34) :: p) f41 (aH 6 [((c + 35) :: p)] ((c + 35) :: p) (some []) (aH 7 l43 ((c + 36) :: p) f43 [])))) ∧
  aW y0 fun v56_51 =>
  vFA 0 v56_51 fun v57_52 =>
  vFA 0 v57_52 fun v58_53 =>
  aM (.store 1) [v58_53, v52_45] H43 ((c + 47) :: p) (CR P p Q v32_23 y0 y1 y2 y8 c)
def CP (P : Program) (p : Lab) (Q : aA) (l32 : List Lab) (f32 : Option (List Lab)) (f30 : Option (List Lab)) (f29 : Option (List Lab)) (v32_23 : AV) (y0 : AV) (y1 : AV) (y2 : AV) (y8 : AV) (c : Nat) (v_35 : AV) (H35 : aB) (l35 : List Lab) (f35 : Option (List Lab)) : Prop :=
  aI [0, 0, 2, 6, 14, 0, 32, 126, 255, 511, 1023] (aH 4 [] ((c + 22) :: p) f29 (aH 5 [] ((c + 23) :: p) f30 (aH 6 [((c + 24) :: p)] ((c + 24) :: p) (some []) (aH 7 l32 ((c + 25) :: p) f32 (aH 10 l35 ((c + 28) :: p) f35 []))))) ∧
  aW y0 fun v45_37 =>
  vFA 0 v45_37 fun v46_38 =>
  vFA 0 v46_38 fun v47_39 =>
  aF 1 false v47_39 H35 fun v48_40 f40 =>
  aF 3 true (.ptr ((c + 10) :: p) 3 0 0) H35 fun v49_41 f41 =>
  jP 3 [(.int .i64 0), (.int .i64 0), (.int .i64 0)] [(0, 3)] [v49_41] fun w42 n42 =>
  (fun (H42 : aB) =>
  aN false P 20 [v48_40, (.sl ((c + 35) :: p) 3 0 n42)] H42 ((c + 36) :: p) (CQ P p Q f41 f40 v32_23 y0 y1 y2 y8 c)) (upd [(((c + 35) :: p), some (.rows 3 w42))] H35)
def CO (P : Program) (p : Lab) (Q : aA) (f30 : Option (List Lab)) (f29 : Option (List Lab)) (v32_23 : AV) (y0 : AV) (y1 : AV) (y2 : AV) (y8 : AV) (c : Nat) (v40_32 : AV) (H32 : aB) (l32 : List Lab) (f32 : Option (List Lab)) : Prop :=
  aW y0 fun v41_33 =>
  vFA 3 v41_33 fun v42_34 =>
  aM (.store 1) [v42_34, v40_32] H32 ((c + 28) :: p) (CP P p Q l32 f32 f30 f29 v32_23 y0 y1 y2 y8 c)
def CN (P : Program) (p : Lab) (Q : aA) (y0 : AV) (y1 : AV) (y2 : AV) (y8 : AV) (c : Nat) (v32_23 : AV) (H23 : aB) (l23 : List Lab) (f23 : Option (List Lab)) : Prop :=
  aW y0 fun v35_27 =>
  vFA 3 v35_27 fun v36_28 =>
  aF 1 false v36_28 H23 fun v37_29 f29 =>
  aF 3 true (.ptr ((c + 10) :: p) 3 0 0) H23 fun v38_30 f30 =>
  jP 3 [(.int .i64 0), (.int .i64 0), (.int .i64 0)] [(0, 3)] [v38_30] fun w31 n31 =>
  (fun (H31 : aB) =>
  aM (.append 3 24) [v37_29, (.sl ((c + 24) :: p) 3 0 n31)] H31 ((c + 25) :: p) (CO P p Q f30 f29 v32_23 y0 y1 y2 y8 c)) (upd [(((c + 24) :: p), some (.rows 3 w31))] H23)
def CM (P : Program) (p : Lab) (Q : aA) (y0 : AV) (y1 : AV) (y2 : AV) (y7 : AV) (y8 : AV) (c : Nat) (v_18 : AV) (H18 : aB) (l18 : List Lab) (f18 : Option (List Lab)) : Prop :=
  vFA 2 (.ptr ((c + 10) :: p) 3 0 0) fun v29_20 =>
  aF 1 false v29_20 H18 fun v30_21 _ =>
  jP 1 [(.int .i64 0)] [(0, 1)] [v30_21] fun w22 n22 =>
  (fun (H22 : aB) =>
  aM (.append 1 8) [y7, (.sl ((c + 15) :: p) 1 0 n22)] H22 ((c + 16) :: p) (CN P p Q y0 y1 y2 y8 c)) (upd [(((c + 15) :: p), some (.rows 1 w22))] H18)
def CS (P : Program) (p : Lab) (Q : aA) (y0 : AV) (y1 : AV) (y2 : AV) (y7 : AV) (y8 : AV) (y15 : AV) (H : aB) (c : Nat) : Prop :=
  aW y0 fun v20_9 =>
  vFA 0 v20_9 fun v21_10 =>
  vFA 0 v21_10 fun v22_11 =>
  aF 1 false v22_11 H fun v23_12 _ =>
  vIx 1 v23_12 y1 fun v25_14 =>
  aF 1 false v25_14 H fun v26_15 _ =>
  gB [(.int .i64 0), (.int .i64 0), (.int .i64 0)] [(0, 1), (1, 1), (2, 1)] [(.int .i64 2), y1, v26_15] fun v27_16 =>
  (fun (H17 : aB) =>
  aM (.store 3) [(.ptr ((c + 10) :: p) 3 0 0), v27_16] H17 ((c + 11) :: p) (CM P p Q y0 y1 y2 y7 y8 c)) (upd [(((c + 10) :: p), some (.rows 3 [[(.int .i64 0), (.int .i64 0), (.int .i64 0)]]))] H)
def CL (P : Program) (p : Lab) (Q : aA) (v15_6 : AV) (x0 : AV) (x1 : AV) (x2 : AV) (x7 : AV) (x8 : AV) (H : aB) (c : Nat) (_ : Unit) : Prop :=
  (CS P p Q x0 x1 x2 x7 x8 v15_6 H (c + 3))
def DC (P : Program) (p : Lab) (Q : aA) (x0 x1 x2 x7 x8 : AV) (H : aB) (c : Nat) : Prop :=
  aJ .lss .num x8 x2 fun v15_6 =>
  aL v15_6
  (CL P p Q v15_6 x0 x1 x2 x7 x8 H c)
  (fun _ =>
  Q (.exit 0) [(0, x0), (1, x1), (2, x2), (7, x7), (8, x8), (15, v15_6)] H (c + 3))
theorem xR (P : Program) (p : Lab) (Q : aA) (x0 x1 x2 x7 x8 : AV) (H : aB) (c : Nat) : vc P p ZG Q [(0, x0), (1, x1), (2, x2), (7, x7), (8, x8)] H c = DC P p Q x0 x1 x2 x7 x8 H c := by kernel_rfl
theorem q8 (P : Program) (p : Lab) (Q : aA) (r : RL) (H : aB) (c : Nat) : RA P p Q (.exit 0) r H c = (vc P p O5 Q r H c) := rfl
def CJ (P : Program) (p : Lab) (Q : aA) (y0 : AV) (y1 : AV) (y7 : AV) (H : aB) (c : Nat) : Prop :=
  aW y0 fun v64_63 =>
  vFA 0 v64_63 fun v65_64 =>
  vFA 1 v65_64 fun v66_65 =>
  aM (.store 1) [v66_65, y1] H ((c + 5) :: p) (fun v_66 H66 l66 f66 =>
  Q .ret [(6, y7)] H66 (c + 8))
def CI (P : Program) (p : Lab) (Q : aA) (x0 : AV) (x1 : AV) (x7 : AV) (H : aB) (c : Nat) (_ : Unit) : Prop :=
  (CJ P p Q x0 x1 x7 H (c + 3))
def wJ (P : Program) (p : Lab) (Q : aA) (y0 : AV) (y1 : AV) (y7 : AV) (y61 : AV) (H : aB) (c : Nat) : Prop :=
  Q .ret [(6, y7)] H (c + 2)
def wI (P : Program) (p : Lab) (Q : aA) (v61_60 : AV) (x0 : AV) (x1 : AV) (x7 : AV) (H : aB) (c : Nat) (_ : Unit) : Prop :=
  (wJ P p Q x0 x1 x7 v61_60 H (c + 3))
def DB (P : Program) (p : Lab) (Q : aA) (x0 x1 x2 x7 x8 x15 : AV) (H : aB) (c : Nat) : Prop :=
  aJ .lss .num x1 x2 fun v61_60 =>
  aL v61_60
  (CI P p Q x0 x1 x7 H c)
  (wI P p Q v61_60 x0 x1 x7 H c)
theorem xQ (P : Program) (p : Lab) (Q : aA) (x0 x1 x2 x7 x8 x15 : AV) (H : aB) (c : Nat) : vc P p O5 Q [(0, x0), (1, x1), (2, x2), (7, x7), (8, x8), (15, x15)] H c = DB P p Q x0 x1 x2 x7 x8 x15 H c := by kernel_rfl


/-- (*duet/duetref18.work).swap -/
def c59 : AFun := ⟨1, 59, [],
  (.seq (.region [⟨(some 5), none, .move, [.t 0]⟩, ⟨(some 6), none, .nilCheck, [.t 5]⟩, ⟨(some 7), none, (.fieldAddr 0), [.t 6]⟩, ⟨(some 8), none, (.fieldAddr 0), [.t 7]⟩, ⟨(some 9), none, (.load 1 false), [.t 8]⟩, ⟨(some 10), none, (.len .slice), [.t 9]⟩, ⟨(some 2), none, .move, [.t 10]⟩] none [0, 2])
  (.seq (.seq (.region [⟨(some 11), none, .move, [.t 2]⟩, ⟨(some 12), none, (.bin .lss .num), [.t 11, .c (.int .i64 2)]⟩, ⟨(some 13), none, .move, [.t 12]⟩, ⟨(some 14), (some (13, false)), .move, [.t 0]⟩, ⟨(some 15), (some (13, false)), .nilCheck, [.t 14]⟩, ⟨(some 16), (some (13, false)), (.fieldAddr 0), [.t 15]⟩, ⟨(some 17), (some (13, false)), (.fieldAddr 1), [.t 16]⟩, ⟨(some 18), (some (13, false)), (.load 1 false), [.t 17]⟩, ⟨(some 19), (some (13, false)), (.bin .eql .num), [.t 18, .c (.int .i64 0)]⟩, ⟨(some 20), none, .pick, [.t 13, .c (.bool true), .t 19]⟩] none [0, 2, 20])
  (.cond (.t 20) .ret
  .skip))
  (.seq (.region [⟨(some 21), none, .move, [.t 0]⟩, ⟨(some 22), none, .nilCheck, [.t 21]⟩, ⟨(some 23), none, (.fieldAddr 0), [.t 22]⟩, ⟨(some 24), none, (.fieldAddr 1), [.t 23]⟩, ⟨(some 25), none, (.load 1 false), [.t 24]⟩, ⟨(some 26), none, .move, [.t 2]⟩, ⟨(some 27), none, (.bin .sub .num), [.t 26, .c (.int .i64 1)]⟩, ⟨(some 28), none, .min, [.t 25, .t 27]⟩, ⟨(some 3), none, .move, [.t 28]⟩] none [0, 2, 3])
  (.seq (.seq (.region [⟨(some 29), none, .move, [.t 2]⟩, ⟨(some 30), none, (.bin .gtr .num), [.t 29, .c (.int .i64 1000)]⟩, ⟨(some 31), none, .move, [.t 30]⟩, ⟨(some 32), (some (31, false)), .move, [.t 0]⟩, ⟨(some 33), (some (31, false)), .nilCheck, [.t 32]⟩, ⟨(some 34), (some (31, false)), (.fieldAddr 0), [.t 33]⟩, ⟨(some 35), (some (31, false)), (.fieldAddr 0), [.t 34]⟩, ⟨(some 36), (some (31, false)), (.load 1 false), [.t 35]⟩, ⟨(some 37), (some (31, false)), .move, [.t 3]⟩, ⟨(some 38), (some (31, false)), (.bin .sub .num), [.t 37, .c (.int .i64 1)]⟩, ⟨(some 39), (some (31, false)), (.indexAddr 1), [.t 36, .t 38]⟩, ⟨(some 40), (some (31, false)), (.load 1 false), [.t 39]⟩, ⟨(some 41), (some (31, false)), .call, [.c (.fn (.func 57) [] []), .t 40]⟩, ⟨(some 42), (some (31, false)), (.un .not), [.t 41]⟩, ⟨(some 43), none, .pick, [.t 31, .c (.bool true), .t 42]⟩] none [0, 3, 43])
  (.cond (.t 43) .ret
  .skip))
  (.seq (.region [⟨(some 44), none, .move, [.t 0]⟩, ⟨(some 45), none, .move, [.t 3]⟩, ⟨(some 46), none, (.bin .sub .num), [.t 45, .c (.int .i64 1)]⟩, ⟨(some 47), none, .move, [.t 3]⟩, ⟨(some 48), none, .call, [.c (.fn (.func 58) [] []), .t 44, .t 46, .t 47]⟩, ⟨(some 4), none, .move, [.t 48]⟩] none [0, 3, 4])
  (.seq (.region [⟨(some 49), none, .move, [.t 0]⟩, ⟨(some 50), none, .move, [.t 3]⟩, ⟨(some 51), none, .nilCheck, [.t 49]⟩, ⟨(some 52), none, (.fieldAddr 0), [.t 51]⟩, ⟨(some 53), none, (.fieldAddr 1), [.t 52]⟩, ⟨none, none, (.store 1), [.t 53, .t 50]⟩] none [0, 4])
  (.region [⟨(some 54), none, .move, [.t 0]⟩, ⟨(some 55), none, .move, [.t 4]⟩, ⟨(some 56), none, (.indexAddr 1), [.t 55, .c (.int .i64 0)]⟩, ⟨(some 57), none, (.load 1 false), [.t 56]⟩, ⟨(some 58), none, .call, [.c (.fn (.func 30) [] []), .t 54, .t 57]⟩] none [])))))))⟩
theorem ok59 : FunOk Try.prog 59 c59 := ⟨⟨Try.f59, _, Try.func59, rfl, by kernel_rfl, by kernel_rfl, by kernel_rfl, by kernel_rfl⟩, by decide⟩
theorem CG : c59.res = [] := rfl
def A4 (P : Program) (p : Lab) (Q : aA) (y0 : AV) (y2 : AV) (H : aB) (c : Nat) : Prop :=
  Q .ret [(0, y0), (2, y2), (20, (.bool true))] H c
def A3 (P : Program) (p : Lab) (Q : aA) (v10_5 : AV) (x0 : AV) (H : aB) (c : Nat) (_ : Unit) : Prop :=
  (A4 P p Q x0 v10_5 H (c + 17))
def A0 (P : Program) (p : Lab) (Q : aA) (y0 : AV) (y3 : AV) (H : aB) (c : Nat) : Prop :=
  Q .ret [(0, y0), (3, y3), (43, (.bool true))] H c
def AZ (P : Program) (p : Lab) (Q : aA) (v28_25 : AV) (y0 : AV) (H : aB) (c : Nat) (_ : Unit) : Prop :=
  (A0 P p Q y0 v28_25 H (c + 24))
def AW (P : Program) (p : Lab) (Q : aA) (v48_47 : AV) (y0 : AV) (c : Nat) (v_54 : AV) (H54 : aB) (l54 : List Lab) (f54 : Option (List Lab)) : Prop :=
  vIx 1 v48_47 (.int .i64 0) fun v56_57 =>
  aF 1 false v56_57 H54 fun v57_58 _ =>
  aN true P 30 [y0, v57_58] H54 ((c + 16) :: p) (fun v58_59 H59 l59 f59 =>
  Q .normal [] H59 (c + 17))
def AU (P : Program) (p : Lab) (Q : aA) (y0 : AV) (y3 : AV) (c : Nat) (v48_47 : AV) (H47 : aB) (l47 : List Lab) (f47 : Option (List Lab)) : Prop :=
  aW y0 fun v51_51 =>
  vFA 0 v51_51 fun v52_52 =>
  vFA 1 v52_52 fun v53_53 =>
  aM (.store 1) [v53_53, y3] H47 ((c + 11) :: p) (AW P p Q v48_47 y0 c)
def AX (P : Program) (p : Lab) (Q : aA) (y0 : AV) (y3 : AV) (y43 : AV) (H : aB) (c : Nat) : Prop :=
  aJ .sub .num y3 (.int .i64 1) fun v46_45 =>
  aN true P 58 [y0, v46_45, y3] H ((c + 4) :: p) (AU P p Q y0 y3 c)
def t0 (P : Program) (p : Lab) (Q : aA) (y0 : AV) (y3 : AV) (y43 : AV) (H : aB) (c : Nat) (_ : Unit) : Prop :=
  (AX P p Q y0 y3 y43 H c)
def AY (P : Program) (p : Lab) (Q : aA) (y0 : AV) (y3 : AV) (y43 : AV) (H : aB) (c : Nat) : Prop :=
  aL y43
  (fun _ =>
  Q .ret [(0, y0), (3, y3), (43, y43)] H c)
  (t0 P p Q y0 y3 y43 H c)
def tZ (P : Program) (p : Lab) (Q : aA) (v28_25 : AV) (y0 : AV) (c : Nat) (v41_40 : AV) (H40 : aB) (l40 : List Lab) (f40 : Option (List Lab)) : Prop :=
  xU v41_40 fun v42_41 =>
  (AY P p Q y0 v28_25 v42_41 H40 (c + 24))
def tY (P : Program) (p : Lab) (Q : aA) (v28_25 : AV) (y0 : AV) (H : aB) (c : Nat) (_ : Unit) : Prop :=
  aW y0 fun v33_32 =>
  vFA 0 v33_32 fun v34_33 =>
  vFA 0 v34_33 fun v35_34 =>
  aF 1 false v35_34 H fun v36_35 _ =>
  aJ .sub .num v28_25 (.int .i64 1) fun v38_37 =>
  vIx 1 v36_35 v38_37 fun v39_38 =>
  aF 1 false v39_38 H fun v40_39 _ =>
  aN false P 57 [v40_39] H ((c + 21) :: p) (tZ P p Q v28_25 y0 c)
def A1 (P : Program) (p : Lab) (Q : aA) (y0 : AV) (y2 : AV) (y20 : AV) (H : aB) (c : Nat) : Prop :=
  aW y0 fun v22_19 =>
  vFA 0 v22_19 fun v23_20 =>
  vFA 1 v23_20 fun v24_21 =>
  aF 1 false v24_21 H fun v25_22 _ =>
  aJ .sub .num y2 (.int .i64 1) fun v27_24 =>
  I2 v25_22 v27_24 fun v28_25 =>
  aJ .gtr .num y2 (.int .i64 1000) fun v30_28 =>
  aL v30_28
  (AZ P p Q v28_25 y0 H c)
  (tY P p Q v28_25 y0 H c)
def tX (P : Program) (p : Lab) (Q : aA) (y0 : AV) (y2 : AV) (y20 : AV) (H : aB) (c : Nat) (_ : Unit) : Prop :=
  (A1 P p Q y0 y2 y20 H c)
def A2 (P : Program) (p : Lab) (Q : aA) (y0 : AV) (y2 : AV) (y20 : AV) (H : aB) (c : Nat) : Prop :=
  aL y20
  (fun _ =>
  Q .ret [(0, y0), (2, y2), (20, y20)] H c)
  (tX P p Q y0 y2 y20 H c)
def tW (P : Program) (p : Lab) (Q : aA) (v10_5 : AV) (x0 : AV) (H : aB) (c : Nat) (_ : Unit) : Prop :=
  aW x0 fun v15_12 =>
  vFA 0 v15_12 fun v16_13 =>
  vFA 1 v16_13 fun v17_14 =>
  aF 1 false v17_14 H fun v18_15 _ =>
  aJ .eql .num v18_15 (.int .i64 0) fun v19_16 =>
  (A2 P p Q x0 v10_5 v19_16 H (c + 17))
def V59 (P : Program) (p : Lab) (Q : aA) (x0 : AV) (H : aB) (c : Nat) : Prop :=
  aW x0 fun v6_1 =>
  vFA 0 v6_1 fun v7_2 =>
  vFA 0 v7_2 fun v8_3 =>
  aF 1 false v8_3 H fun v9_4 _ =>
  cS v9_4 fun v10_5 =>
  aJ .lss .num v10_5 (.int .i64 2) fun v12_8 =>
  aL v12_8
  (A3 P p Q v10_5 x0 H c)
  (tW P p Q v10_5 x0 H c)
theorem IY (P : Program) (p : Lab) (Q : aA) (x0 : AV) (H : aB) (c : Nat) : vc P p c59.body Q [(0, x0)] H c = V59 P p Q x0 H c := by kernel_rfl


/-- duet/duetref18.Do -/
def c14 : AFun := ⟨2, 131, [.cell 4 3 true, .tmp 5],
  (.seq (.region [⟨(some 2), none, .box, [.t 0]⟩, ⟨(some 3), none, .box, [.t 1]⟩, ⟨(some 4), none, (.alloc [.nils, (.int .i64 0), .nils]), []⟩, ⟨(some 5), none, .move, [.c .nils]⟩] none [2, 3, 4])
  (.seq (.region [⟨(some 9), none, (.load 3 true), [.t 2]⟩, ⟨(some 10), none, (.build [.nils, (.int .i64 0), .nils, .nils] [(0, 3)]), [.t 9]⟩, ⟨(some 11), none, .box, [.t 10]⟩, ⟨(some 6), none, .move, [.t 11]⟩] none [2, 3, 4, 6])
  (.seq (.region [⟨(some 12), none, .move, [.t 6]⟩, ⟨(some 13), none, (.fieldAddr 0), [.t 2]⟩, ⟨(some 14), none, (.load 1 false), [.t 13]⟩, ⟨(some 15), none, (.fieldAddr 1), [.t 2]⟩, ⟨(some 16), none, (.load 1 false), [.t 15]⟩, ⟨(some 17), none, .call, [.c (.fn (.func 29) [] []), .t 14, .t 16]⟩, ⟨(some 18), none, .nilCheck, [.t 12]⟩, ⟨(some 19), none, (.fieldAddr 0), [.t 18]⟩, ⟨(some 20), none, (.fieldAddr 1), [.t 19]⟩, ⟨none, none, (.store 1), [.t 20, .t 17]⟩] none [2, 3, 4, 6])
  (.seq (.region [⟨(some 21), none, .move, [.t 6]⟩, ⟨(some 22), none, .nilCheck, [.t 21]⟩, ⟨(some 23), none, (.fieldAddr 0), [.t 22]⟩, ⟨(some 24), none, (.fieldAddr 1), [.t 23]⟩, ⟨(some 25), none, (.load 1 false), [.t 24]⟩, ⟨(some 7), none, .move, [.t 25]⟩] none [2, 3, 4, 6, 7])
  (.seq (.seq (.region [⟨(some 26), none, (.fieldAddr 0), [.t 3]⟩, ⟨(some 27), none, (.load 1 false), [.t 26]⟩] none [2, 3, 4, 6, 7, 27])
  (.block 0 (.seq (.region [⟨(some 29), none, (.bin .eql .num), [.t 27, .c (.int .i64 1)]⟩, ⟨(some 28), none, .move, [.t 29]⟩] none [2, 3, 4, 6, 7, 27, 28])
  (.cond (.t 28) (.region [⟨(some 30), none, .move, [.t 6]⟩, ⟨(some 31), none, (.fieldAddr 1), [.t 3]⟩, ⟨(some 32), none, (.load 1 false), [.t 31]⟩, ⟨(some 33), none, .call, [.c (.fn (.func 30) [] []), .t 30, .t 32]⟩] none [4, 6])
  (.seq (.region [⟨(some 35), none, (.bin .eql .num), [.t 27, .c (.int .i64 2)]⟩, ⟨(some 34), none, .move, [.t 35]⟩] none [2, 3, 4, 6, 7, 27, 34])
  (.cond (.t 34) (.region [⟨(some 36), none, .move, [.t 6]⟩, ⟨(some 37), none, (.fieldAddr 1), [.t 3]⟩, ⟨(some 38), none, (.load 1 false), [.t 37]⟩, ⟨(some 39), none, .call, [.c (.fn (.func 31) [] []), .t 36, .t 38]⟩] none [4, 6])
  (.seq (.region [⟨(some 41), none, (.bin .eql .num), [.t 27, .c (.int .i64 3)]⟩, ⟨(some 40), none, .move, [.t 41]⟩] none [2, 3, 4, 6, 7, 27, 40])
  (.cond (.t 40) (.seq (.region [⟨(some 42), none, (.fieldAddr 1), [.t 3]⟩, ⟨(some 43), none, (.load 1 false), [.t 42]⟩] none [2, 4, 6, 7, 43])
  (.block 1 (.seq (.region [⟨(some 45), none, (.bin .eql .num), [.t 43, .c (.int .i64 98)]⟩, ⟨(some 44), none, .move, [.t 45]⟩] none [2, 4, 6, 7, 43, 44])
  (.cond (.t 44) (.region [⟨(some 46), none, .move, [.t 6]⟩, ⟨(some 47), none, (.fieldAddr 0), [.t 2]⟩, ⟨(some 48), none, (.load 1 false), [.t 47]⟩, ⟨(some 49), none, .move, [.t 7]⟩, ⟨(some 50), none, .call, [.c (.fn (.func 23) [] []), .t 48, .t 49, .c (.bool true)]⟩, ⟨(some 51), none, .nilCheck, [.t 46]⟩, ⟨(some 52), none, (.fieldAddr 0), [.t 51]⟩, ⟨(some 53), none, (.fieldAddr 1), [.t 52]⟩, ⟨none, none, (.store 1), [.t 53, .t 50]⟩] none [4, 6])
  (.seq (.region [⟨(some 55), none, (.bin .eql .num), [.t 43, .c (.int .i64 102)]⟩, ⟨(some 54), none, .move, [.t 55]⟩] none [2, 4, 6, 7, 43, 54])
  (.cond (.t 54) (.region [⟨(some 56), none, .move, [.t 6]⟩, ⟨(some 57), none, (.fieldAddr 0), [.t 2]⟩, ⟨(some 58), none, (.load 1 false), [.t 57]⟩, ⟨(some 59), none, .move, [.t 7]⟩, ⟨(some 60), none, .call, [.c (.fn (.func 23) [] []), .t 58, .t 59, .c (.bool false)]⟩, ⟨(some 61), none, .nilCheck, [.t 56]⟩, ⟨(some 62), none, (.fieldAddr 0), [.t 61]⟩, ⟨(some 63), none, (.fieldAddr 1), [.t 62]⟩, ⟨none, none, (.store 1), [.t 63, .t 60]⟩] none [4, 6])
  (.seq (.region [⟨(some 65), none, (.bin .eql .num), [.t 43, .c (.int .i64 100)]⟩, ⟨(some 64), none, .move, [.t 65]⟩] none [2, 4, 6, 7, 43, 64])
  (.cond (.t 64) (.region [⟨(some 66), none, .move, [.t 6]⟩, ⟨(some 67), none, .move, [.t 7]⟩, ⟨(some 68), none, (.fieldAddr 0), [.t 2]⟩, ⟨(some 69), none, (.load 1 false), [.t 68]⟩, ⟨(some 70), none, .move, [.t 7]⟩, ⟨(some 71), none, .call, [.c (.fn (.func 23) [] []), .t 69, .t 70, .c (.bool false)]⟩, ⟨(some 72), none, .call, [.c (.fn (.func 32) [] []), .t 66, .t 67, .t 71]⟩] none [4, 6])
  (.seq (.region [⟨(some 74), none, (.bin .eql .num), [.t 43, .c (.int .i64 127)]⟩, ⟨(some 73), none, .move, [.t 74]⟩] none [2, 4, 6, 7, 73])
  (.cond (.t 73) (.region [⟨(some 75), none, .move, [.t 6]⟩, ⟨(some 76), none, (.fieldAddr 0), [.t 2]⟩, ⟨(some 77), none, (.load 1 false), [.t 76]⟩, ⟨(some 78), none, .move, [.t 7]⟩, ⟨(some 79), none, .call, [.c (.fn (.func 23) [] []), .t 77, .t 78, .c (.bool true)]⟩, ⟨(some 80), none, .move, [.t 7]⟩, ⟨(some 81), none, .call, [.c (.fn (.func 32) [] []), .t 75, .t 79, .t 80]⟩] none [4, 6])
  .skip))))))))))
  (.seq (.region [⟨(some 83), none, (.bin .eql .num), [.t 27, .c (.int .i64 6)]⟩, ⟨(some 82), none, .move, [.t 83]⟩] none [4, 6, 27, 82])
  (.cond (.t 82) (.region [⟨(some 84), none, .move, [.t 6]⟩, ⟨(some 85), none, .call, [.c (.fn (.func 31) [] []), .t 84, .c (.int .i64 102)]⟩] none [4, 6])
  (.seq (.region [⟨(some 87), none, (.bin .eql .num), [.t 27, .c (.int .i64 7)]⟩, ⟨(some 86), none, .move, [.t 87]⟩] none [4, 6, 27, 86])
  (.cond (.t 86) (.region [⟨(some 88), none, .move, [.t 6]⟩, ⟨(some 89), none, .call, [.c (.fn (.func 31) [] []), .t 88, .c (.int .i64 98)]⟩] none [4, 6])
  (.seq (.region [⟨(some 91), none, (.bin .eql .num), [.t 27, .c (.int .i64 8)]⟩, ⟨(some 90), none, .move, [.t 91]⟩] none [4, 6, 27, 90])
  (.cond (.t 90) (.region [⟨(some 92), none, .move, [.t 6]⟩, ⟨(some 93), none, .call, [.c (.fn (.func 31) [] []), .t 92, .c (.int .i64 97)]⟩] none [4, 6])
  (.seq (.region [⟨(some 95), none, (.bin .eql .num), [.t 27, .c (.int .i64 9)]⟩, ⟨(some 94), none, .move, [.t 95]⟩] none [4, 6, 27, 94])
  (.cond (.t 94) (.region [⟨(some 96), none, .move, [.t 6]⟩, ⟨(some 97), none, .call, [.c (.fn (.func 31) [] []), .t 96, .c (.int .i64 101)]⟩] none [4, 6])
  (.seq (.region [⟨(some 99), none, (.bin .eql .num), [.t 27, .c (.int .i64 10)]⟩, ⟨(some 98), none, .move, [.t 99]⟩] none [4, 6, 98])
  (.cond (.t 98) (.region [⟨(some 100), none, .move, [.t 6]⟩, ⟨(some 101), none, .call, [.c (.fn (.func 31) [] []), .t 100, .c (.int .i64 100)]⟩] none [4, 6])
  .skip))))))))))))))))))
  (.seq (.region [⟨(some 102), none, .move, [.t 6]⟩, ⟨(some 103), none, .nilCheck, [.t 102]⟩, ⟨(some 104), none, (.fieldAddr 0), [.t 103]⟩, ⟨(some 105), none, (.fieldAddr 1), [.t 104]⟩, ⟨(some 106), none, (.load 1 false), [.t 105]⟩, ⟨(some 107), none, (.build [.nils, (.int .i64 0), .nils] [(1, 1)]), [.t 106]⟩, ⟨(some 8), none, (.alloc [.nils, (.int .i64 0), .nils]), []⟩, ⟨none, none, (.store 3), [.t 8, .t 107]⟩] none [4, 6, 8])
  (.seq (.region [⟨(some 108), none, (.fieldAddr 0), [.t 8]⟩, ⟨(some 109), none, (.load 1 false), [.t 108]⟩, ⟨(some 110), none, .move, [.t 6]⟩, ⟨(some 111), none, .nilCheck, [.t 110]⟩, ⟨(some 112), none, (.fieldAddr 0), [.t 111]⟩, ⟨(some 113), none, (.fieldAddr 0), [.t 112]⟩, ⟨(some 114), none, (.load 1 false), [.t 113]⟩, ⟨(some 115), none, (.append 1 8), [.t 109, .t 114]⟩, ⟨(some 116), none, (.fieldAddr 0), [.t 8]⟩, ⟨none, none, (.store 1), [.t 116, .t 115]⟩] (some [0, 1, 0, 4, 12, 28, 60, 127, 255, 511]) [4, 6, 8])
  (.seq (.region [⟨(some 117), none, (.fieldAddr 2), [.t 8]⟩, ⟨(some 118), none, (.load 1 false), [.t 117]⟩, ⟨(some 119), none, .move, [.t 6]⟩, ⟨(some 120), none, .nilCheck, [.t 119]⟩, ⟨(some 121), none, (.fieldAddr 0), [.t 120]⟩, ⟨(some 122), none, (.fieldAddr 2), [.t 121]⟩, ⟨(some 123), none, (.load 1 false), [.t 122]⟩, ⟨(some 124), none, (.append 1 8), [.t 118, .t 123]⟩, ⟨(some 125), none, (.fieldAddr 2), [.t 8]⟩, ⟨none, none, (.store 1), [.t 125, .t 124]⟩] (some [0, 1, 0, 4, 12, 28, 60, 127, 255, 511]) [4, 6, 8])
  (.seq (.region [⟨(some 126), none, (.load 3 true), [.t 8]⟩, ⟨(some 127), none, .move, [.t 6]⟩, ⟨(some 128), none, .nilCheck, [.t 127]⟩, ⟨(some 129), none, (.fieldAddr 3), [.t 128]⟩, ⟨(some 130), none, (.load 1 false), [.t 129]⟩, ⟨none, none, (.store 3), [.t 4, .t 126]⟩, ⟨(some 5), none, .move, [.t 130]⟩] (some [0, 0, 2, 6, 14, 1, 63]) [4, 5])
  .ret)))))))))⟩
theorem ok14 : FunOk Try.prog 14 c14 := ⟨⟨Try.f14, _, Try.func14, rfl, by kernel_rfl, by kernel_rfl, by kernel_rfl, by kernel_rfl⟩, by decide⟩
theorem lS : c14.res = [.cell 4 3 true, .tmp 5] := rfl
def lA (P : Program) (p : Lab) (Q : aA) (v130_64 : AV) (f64 : Option (List Lab)) (f60 : Option (List Lab)) (y4 : AV) (c : Nat) (v_65 : AV) (H65 : aB) (l65 : List Lab) (f65 : Option (List Lab)) : Prop :=
  aI [0, 0, 2, 6, 14, 1, 63] (aH 0 [] ((c + 32) :: p) f60 (aH 4 [] ((c + 36) :: p) f64 (aH 5 l65 ((c + 37) :: p) f65 []))) ∧
  Q .ret [(4, y4), (5, v130_64)] H65 (c + 39)
def k9 (P : Program) (p : Lab) (Q : aA) (l57 : List Lab) (f57 : Option (List Lab)) (f56 : Option (List Lab)) (f51 : Option (List Lab)) (y4 : AV) (y6 : AV) (c : Nat) (v_59 : AV) (H59 : aB) (l59 : List Lab) (f59 : Option (List Lab)) : Prop :=
  aI [0, 1, 0, 4, 12, 28, 60, 127, 255, 511] (aH 1 [] ((c + 23) :: p) f51 (aH 6 [] ((c + 28) :: p) f56 (aH 7 l57 ((c + 29) :: p) f57 (aH 9 l59 ((c + 31) :: p) f59 [])))) ∧
  aF 3 true (.ptr ((c + 10) :: p) 3 0 0) H59 fun v126_60 f60 =>
  aW y6 fun v128_62 =>
  vFA 3 v128_62 fun v129_63 =>
  aF 1 false v129_63 H59 fun v130_64 f64 =>
  aM (.store 3) [y4, v126_60] H59 ((c + 37) :: p) (lA P p Q v130_64 f64 f60 y4 c)
def k8 (P : Program) (p : Lab) (Q : aA) (f56 : Option (List Lab)) (f51 : Option (List Lab)) (y4 : AV) (y6 : AV) (c : Nat) (v124_57 : AV) (H57 : aB) (l57 : List Lab) (f57 : Option (List Lab)) : Prop :=
  vFA 2 (.ptr ((c + 10) :: p) 3 0 0) fun v125_58 =>
  aM (.store 1) [v125_58, v124_57] H57 ((c + 31) :: p) (k9 P p Q l57 f57 f56 f51 y4 y6 c)
def k7 (P : Program) (p : Lab) (Q : aA) (l47 : List Lab) (f47 : Option (List Lab)) (f46 : Option (List Lab)) (f41 : Option (List Lab)) (y4 : AV) (y6 : AV) (c : Nat) (v_49 : AV) (H49 : aB) (l49 : List Lab) (f49 : Option (List Lab)) : Prop :=
  aI [0, 1, 0, 4, 12, 28, 60, 127, 255, 511] (aH 1 [] ((c + 13) :: p) f41 (aH 6 [] ((c + 18) :: p) f46 (aH 7 l47 ((c + 19) :: p) f47 (aH 9 l49 ((c + 21) :: p) f49 [])))) ∧
  vFA 2 (.ptr ((c + 10) :: p) 3 0 0) fun v117_50 =>
  aF 1 false v117_50 H49 fun v118_51 f51 =>
  aW y6 fun v120_53 =>
  vFA 0 v120_53 fun v121_54 =>
  vFA 2 v121_54 fun v122_55 =>
  aF 1 false v122_55 H49 fun v123_56 f56 =>
  aM (.append 1 8) [v118_51, v123_56] H49 ((c + 29) :: p) (k8 P p Q f56 f51 y4 y6 c)
def k6 (P : Program) (p : Lab) (Q : aA) (f46 : Option (List Lab)) (f41 : Option (List Lab)) (y4 : AV) (y6 : AV) (c : Nat) (v115_47 : AV) (H47 : aB) (l47 : List Lab) (f47 : Option (List Lab)) : Prop :=
  vFA 0 (.ptr ((c + 10) :: p) 3 0 0) fun v116_48 =>
  aM (.store 1) [v116_48, v115_47] H47 ((c + 21) :: p) (k7 P p Q l47 f47 f46 f41 y4 y6 c)
def k0 (P : Program) (p : Lab) (Q : aA) (y4 : AV) (y6 : AV) (c : Nat) (v_39 : AV) (H39 : aB) (l39 : List Lab) (f39 : Option (List Lab)) : Prop :=
  vFA 0 (.ptr ((c + 10) :: p) 3 0 0) fun v108_40 =>
  aF 1 false v108_40 H39 fun v109_41 f41 =>
  aW y6 fun v111_43 =>
  vFA 0 v111_43 fun v112_44 =>
  vFA 0 v112_44 fun v113_45 =>
  aF 1 false v113_45 H39 fun v114_46 f46 =>
  aM (.append 1 8) [v109_41, v114_46] H39 ((c + 19) :: p) (k6 P p Q f46 f41 y4 y6 c)
def kV (P : Program) (p : Lab) (Q : aA) (y4 : AV) (y6 : AV) (c : Nat) (v33_31 : AV) (H31 : aB) (l31 : List Lab) (f31 : Option (List Lab)) : Prop :=
  aW y6 fun v103_33 =>
  vFA 0 v103_33 fun v104_34 =>
  vFA 1 v104_34 fun v105_35 =>
  aF 1 false v105_35 H31 fun v106_36 _ =>
  gB [.nils, (.int .i64 0), .nils] [(1, 1)] [v106_36] fun v107_37 =>
  (fun (H38 : aB) =>
  aM (.store 3) [(.ptr ((c + 10) :: p) 3 0 0), v107_37] H38 ((c + 11) :: p) (k0 P p Q y4 y6 c)) (upd [(((c + 10) :: p), some (.rows 3 [[.nils, (.int .i64 0), .nils]]))] H31)
def lC (P : Program) (p : Lab) (Q : aA) (y3 : AV) (y4 : AV) (y6 : AV) (H : aB) (c : Nat) : Prop :=
  vFA 1 y3 fun v31_29 =>
  aF 1 false v31_29 H fun v32_30 _ =>
  aN true P 30 [y6, v32_30] H ((c + 3) :: p) (kV P p Q y4 y6 c)
def kZ (P : Program) (p : Lab) (Q : aA) (H17 : aB) (w6 : List AV) (w1 : List AV) (c : Nat) (_ : Unit) : Prop :=
  (lC P p Q (.ptr ((c + 1) :: p) w1.length 0 0) (.ptr ((c + 2) :: p) 3 0 0) (.ptr ((c + 6) :: p) w6.length 0 0) H17 (c + 28))
def fZ (P : Program) (p : Lab) (Q : aA) (v130_105 : AV) (f105 : Option (List Lab)) (f101 : Option (List Lab)) (y4 : AV) (c : Nat) (v_106 : AV) (H106 : aB) (l106 : List Lab) (f106 : Option (List Lab)) : Prop :=
  aI [0, 0, 2, 6, 14, 1, 63] (aH 0 [] ((c + 32) :: p) f101 (aH 4 [] ((c + 36) :: p) f105 (aH 5 l106 ((c + 37) :: p) f106 []))) ∧
  Q .ret [(4, y4), (5, v130_105)] H106 (c + 39)
def fY (P : Program) (p : Lab) (Q : aA) (l98 : List Lab) (f98 : Option (List Lab)) (f97 : Option (List Lab)) (f92 : Option (List Lab)) (y4 : AV) (y6 : AV) (c : Nat) (v_100 : AV) (H100 : aB) (l100 : List Lab) (f100 : Option (List Lab)) : Prop :=
  aI [0, 1, 0, 4, 12, 28, 60, 127, 255, 511] (aH 1 [] ((c + 23) :: p) f92 (aH 6 [] ((c + 28) :: p) f97 (aH 7 l98 ((c + 29) :: p) f98 (aH 9 l100 ((c + 31) :: p) f100 [])))) ∧
  aF 3 true (.ptr ((c + 10) :: p) 3 0 0) H100 fun v126_101 f101 =>
  aW y6 fun v128_103 =>
  vFA 3 v128_103 fun v129_104 =>
  aF 1 false v129_104 H100 fun v130_105 f105 =>
  aM (.store 3) [y4, v126_101] H100 ((c + 37) :: p) (fZ P p Q v130_105 f105 f101 y4 c)
def fX (P : Program) (p : Lab) (Q : aA) (f97 : Option (List Lab)) (f92 : Option (List Lab)) (y4 : AV) (y6 : AV) (c : Nat) (v124_98 : AV) (H98 : aB) (l98 : List Lab) (f98 : Option (List Lab)) : Prop :=
  vFA 2 (.ptr ((c + 10) :: p) 3 0 0) fun v125_99 =>
  aM (.store 1) [v125_99, v124_98] H98 ((c + 31) :: p) (fY P p Q l98 f98 f97 f92 y4 y6 c)
def fW (P : Program) (p : Lab) (Q : aA) (l88 : List Lab) (f88 : Option (List Lab)) (f87 : Option (List Lab)) (f82 : Option (List Lab)) (y4 : AV) (y6 : AV) (c : Nat) (v_90 : AV) (H90 : aB) (l90 : List Lab) (f90 : Option (List Lab)) : Prop :=
  aI [0, 1, 0, 4, 12, 28, 60, 127, 255, 511] (aH 1 [] ((c + 13) :: p) f82 (aH 6 [] ((c + 18) :: p) f87 (aH 7 l88 ((c + 19) :: p) f88 (aH 9 l90 ((c + 21) :: p) f90 [])))) ∧
  vFA 2 (.ptr ((c + 10) :: p) 3 0 0) fun v117_91 =>
  aF 1 false v117_91 H90 fun v118_92 f92 =>
  aW y6 fun v120_94 =>
  vFA 0 v120_94 fun v121_95 =>
  vFA 2 v121_95 fun v122_96 =>
  aF 1 false v122_96 H90 fun v123_97 f97 =>
  aM (.append 1 8) [v118_92, v123_97] H90 ((c + 29) :: p) (fX P p Q f97 f92 y4 y6 c)
def fV (P : Program) (p : Lab) (Q : aA) (f87 : Option (List Lab)) (f82 : Option (List Lab)) (y4 : AV) (y6 : AV) (c : Nat) (v115_88 : AV) (H88 : aB) (l88 : List Lab) (f88 : Option (List Lab)) : Prop :=
  vFA 0 (.ptr ((c + 10) :: p) 3 0 0) fun v116_89 =>
  aM (.store 1) [v116_89, v115_88] H88 ((c + 21) :: p) (fW P p Q l88 f88 f87 f82 y4 y6 c)
def fU (P : Program) (p : Lab) (Q : aA) (y4 : AV) (y6 : AV) (c : Nat) (v_80 : AV) (H80 : aB) (l80 : List Lab) (f80 : Option (List Lab)) : Prop :=
  vFA 0 (.ptr ((c + 10) :: p) 3 0 0) fun v108_81 =>
  aF 1 false v108_81 H80 fun v109_82 f82 =>
  aW y6 fun v111_84 =>
  vFA 0 v111_84 fun v112_85 =>
  vFA 0 v112_85 fun v113_86 =>
  aF 1 false v113_86 H80 fun v114_87 f87 =>
  aM (.append 1 8) [v109_82, v114_87] H80 ((c + 19) :: p) (fV P p Q f87 f82 y4 y6 c)
def fT (P : Program) (p : Lab) (Q : aA) (y4 : AV) (y6 : AV) (c : Nat) (v39_72 : AV) (H72 : aB) (l72 : List Lab) (f72 : Option (List Lab)) : Prop :=
  aW y6 fun v103_74 =>
  vFA 0 v103_74 fun v104_75 =>
  vFA 1 v104_75 fun v105_76 =>
  aF 1 false v105_76 H72 fun v106_77 _ =>
  gB [.nils, (.int .i64 0), .nils] [(1, 1)] [v106_77] fun v107_78 =>
  (fun (H79 : aB) =>
  aM (.store 3) [(.ptr ((c + 10) :: p) 3 0 0), v107_78] H79 ((c + 11) :: p) (fU P p Q y4 y6 c)) (upd [(((c + 10) :: p), some (.rows 3 [[.nils, (.int .i64 0), .nils]]))] H72)
def gA (P : Program) (p : Lab) (Q : aA) (y3 : AV) (y4 : AV) (y6 : AV) (H : aB) (c : Nat) : Prop :=
  vFA 1 y3 fun v37_70 =>
  aF 1 false v37_70 H fun v38_71 _ =>
  aN true P 31 [y6, v38_71] H ((c + 3) :: p) (fT P p Q y4 y6 c)
def fS (P : Program) (p : Lab) (Q : aA) (y3 : AV) (y4 : AV) (y6 : AV) (H : aB) (c : Nat) (_ : Unit) : Prop :=
  (gA P p Q y3 y4 y6 H c)
def fO (P : Program) (p : Lab) (Q : aA) (v130_155 : AV) (f155 : Option (List Lab)) (f151 : Option (List Lab)) (y4 : AV) (c : Nat) (v_156 : AV) (H156 : aB) (l156 : List Lab) (f156 : Option (List Lab)) : Prop :=
  aI [0, 0, 2, 6, 14, 1, 63] (aH 0 [] ((c + 37) :: p) f151 (aH 4 [] ((c + 41) :: p) f155 (aH 5 l156 ((c + 42) :: p) f156 []))) ∧
  Q .ret [(4, y4), (5, v130_155)] H156 (c + 44)
def fN (P : Program) (p : Lab) (Q : aA) (l148 : List Lab) (f148 : Option (List Lab)) (f147 : Option (List Lab)) (f142 : Option (List Lab)) (y4 : AV) (y6 : AV) (c : Nat) (v_150 : AV) (H150 : aB) (l150 : List Lab) (f150 : Option (List Lab)) : Prop :=
  aI [0, 1, 0, 4, 12, 28, 60, 127, 255, 511] (aH 1 [] ((c + 28) :: p) f142 (aH 6 [] ((c + 33) :: p) f147 (aH 7 l148 ((c + 34) :: p) f148 (aH 9 l150 ((c + 36) :: p) f150 [])))) ∧
  aF 3 true (.ptr ((c + 15) :: p) 3 0 0) H150 fun v126_151 f151 =>
  aW y6 fun v128_153 =>
  vFA 3 v128_153 fun v129_154 =>
  aF 1 false v129_154 H150 fun v130_155 f155 =>
  aM (.store 3) [y4, v126_151] H150 ((c + 42) :: p) (fO P p Q v130_155 f155 f151 y4 c)
def fM (P : Program) (p : Lab) (Q : aA) (f147 : Option (List Lab)) (f142 : Option (List Lab)) (y4 : AV) (y6 : AV) (c : Nat) (v124_148 : AV) (H148 : aB) (l148 : List Lab) (f148 : Option (List Lab)) : Prop :=
  vFA 2 (.ptr ((c + 15) :: p) 3 0 0) fun v125_149 =>
  aM (.store 1) [v125_149, v124_148] H148 ((c + 36) :: p) (fN P p Q l148 f148 f147 f142 y4 y6 c)
def fL (P : Program) (p : Lab) (Q : aA) (l138 : List Lab) (f138 : Option (List Lab)) (f137 : Option (List Lab)) (f132 : Option (List Lab)) (y4 : AV) (y6 : AV) (c : Nat) (v_140 : AV) (H140 : aB) (l140 : List Lab) (f140 : Option (List Lab)) : Prop :=
  aI [0, 1, 0, 4, 12, 28, 60, 127, 255, 511] (aH 1 [] ((c + 18) :: p) f132 (aH 6 [] ((c + 23) :: p) f137 (aH 7 l138 ((c + 24) :: p) f138 (aH 9 l140 ((c + 26) :: p) f140 [])))) ∧
  vFA 2 (.ptr ((c + 15) :: p) 3 0 0) fun v117_141 =>
  aF 1 false v117_141 H140 fun v118_142 f142 =>
  aW y6 fun v120_144 =>
  vFA 0 v120_144 fun v121_145 =>
  vFA 2 v121_145 fun v122_146 =>
  aF 1 false v122_146 H140 fun v123_147 f147 =>
  aM (.append 1 8) [v118_142, v123_147] H140 ((c + 34) :: p) (fM P p Q f147 f142 y4 y6 c)
def fK (P : Program) (p : Lab) (Q : aA) (f137 : Option (List Lab)) (f132 : Option (List Lab)) (y4 : AV) (y6 : AV) (c : Nat) (v115_138 : AV) (H138 : aB) (l138 : List Lab) (f138 : Option (List Lab)) : Prop :=
  vFA 0 (.ptr ((c + 15) :: p) 3 0 0) fun v116_139 =>
  aM (.store 1) [v116_139, v115_138] H138 ((c + 26) :: p) (fL P p Q l138 f138 f137 f132 y4 y6 c)
def fJ (P : Program) (p : Lab) (Q : aA) (y4 : AV) (y6 : AV) (c : Nat) (v_130 : AV) (H130 : aB) (l130 : List Lab) (f130 : Option (List Lab)) : Prop :=
  vFA 0 (.ptr ((c + 15) :: p) 3 0 0) fun v108_131 =>
  aF 1 false v108_131 H130 fun v109_132 f132 =>
  aW y6 fun v111_134 =>
  vFA 0 v111_134 fun v112_135 =>
  vFA 0 v112_135 fun v113_136 =>
  aF 1 false v113_136 H130 fun v114_137 f137 =>
  aM (.append 1 8) [v109_132, v114_137] H130 ((c + 24) :: p) (fK P p Q f137 f132 y4 y6 c)
def fI (P : Program) (p : Lab) (Q : aA) (y4 : AV) (y6 : AV) (c : Nat) (v_122 : AV) (H122 : aB) (l122 : List Lab) (f122 : Option (List Lab)) : Prop :=
  aW y6 fun v103_124 =>
  vFA 0 v103_124 fun v104_125 =>
  vFA 1 v104_125 fun v105_126 =>
  aF 1 false v105_126 H122 fun v106_127 _ =>
  gB [.nils, (.int .i64 0), .nils] [(1, 1)] [v106_127] fun v107_128 =>
  (fun (H129 : aB) =>
  aM (.store 3) [(.ptr ((c + 15) :: p) 3 0 0), v107_128] H129 ((c + 16) :: p) (fJ P p Q y4 y6 c)) (upd [(((c + 15) :: p), some (.rows 3 [[.nils, (.int .i64 0), .nils]]))] H122)
def cY (P : Program) (p : Lab) (Q : aA) (y4 : AV) (y6 : AV) (c : Nat) (v50_118 : AV) (H118 : aB) (l118 : List Lab) (f118 : Option (List Lab)) : Prop :=
  aW y6 fun v51_119 =>
  vFA 0 v51_119 fun v52_120 =>
  vFA 1 v52_120 fun v53_121 =>
  aM (.store 1) [v53_121, v50_118] H118 ((c + 8) :: p) (fI P p Q y4 y6 c)
def fP (P : Program) (p : Lab) (Q : aA) (y2 : AV) (y4 : AV) (y6 : AV) (y7 : AV) (H : aB) (c : Nat) : Prop :=
  vFA 0 y2 fun v47_115 =>
  aF 1 false v47_115 H fun v48_116 _ =>
  aN true P 23 [v48_116, y7, (.bool true)] H ((c + 4) :: p) (cY P p Q y4 y6 c)
def fH (P : Program) (p : Lab) (Q : aA) (y2 : AV) (y4 : AV) (y6 : AV) (y7 : AV) (H : aB) (c : Nat) (_ : Unit) : Prop :=
  (fP P p Q y2 y4 y6 y7 H (c + 2))
def fD (P : Program) (p : Lab) (Q : aA) (v130_201 : AV) (f201 : Option (List Lab)) (f197 : Option (List Lab)) (y4 : AV) (c : Nat) (v_202 : AV) (H202 : aB) (l202 : List Lab) (f202 : Option (List Lab)) : Prop :=
  aI [0, 0, 2, 6, 14, 1, 63] (aH 0 [] ((c + 37) :: p) f197 (aH 4 [] ((c + 41) :: p) f201 (aH 5 l202 ((c + 42) :: p) f202 []))) ∧
  Q .ret [(4, y4), (5, v130_201)] H202 (c + 44)
def fC (P : Program) (p : Lab) (Q : aA) (l194 : List Lab) (f194 : Option (List Lab)) (f193 : Option (List Lab)) (f188 : Option (List Lab)) (y4 : AV) (y6 : AV) (c : Nat) (v_196 : AV) (H196 : aB) (l196 : List Lab) (f196 : Option (List Lab)) : Prop :=
  aI [0, 1, 0, 4, 12, 28, 60, 127, 255, 511] (aH 1 [] ((c + 28) :: p) f188 (aH 6 [] ((c + 33) :: p) f193 (aH 7 l194 ((c + 34) :: p) f194 (aH 9 l196 ((c + 36) :: p) f196 [])))) ∧
  aF 3 true (.ptr ((c + 15) :: p) 3 0 0) H196 fun v126_197 f197 =>
  aW y6 fun v128_199 =>
  vFA 3 v128_199 fun v129_200 =>
  aF 1 false v129_200 H196 fun v130_201 f201 =>
  aM (.store 3) [y4, v126_197] H196 ((c + 42) :: p) (fD P p Q v130_201 f201 f197 y4 c)
def fB (P : Program) (p : Lab) (Q : aA) (f193 : Option (List Lab)) (f188 : Option (List Lab)) (y4 : AV) (y6 : AV) (c : Nat) (v124_194 : AV) (H194 : aB) (l194 : List Lab) (f194 : Option (List Lab)) : Prop :=
  vFA 2 (.ptr ((c + 15) :: p) 3 0 0) fun v125_195 =>
  aM (.store 1) [v125_195, v124_194] H194 ((c + 36) :: p) (fC P p Q l194 f194 f193 f188 y4 y6 c)
def fA (P : Program) (p : Lab) (Q : aA) (l184 : List Lab) (f184 : Option (List Lab)) (f183 : Option (List Lab)) (f178 : Option (List Lab)) (y4 : AV) (y6 : AV) (c : Nat) (v_186 : AV) (H186 : aB) (l186 : List Lab) (f186 : Option (List Lab)) : Prop :=
  aI [0, 1, 0, 4, 12, 28, 60, 127, 255, 511] (aH 1 [] ((c + 18) :: p) f178 (aH 6 [] ((c + 23) :: p) f183 (aH 7 l184 ((c + 24) :: p) f184 (aH 9 l186 ((c + 26) :: p) f186 [])))) ∧
  vFA 2 (.ptr ((c + 15) :: p) 3 0 0) fun v117_187 =>
  aF 1 false v117_187 H186 fun v118_188 f188 =>
  aW y6 fun v120_190 =>
  vFA 0 v120_190 fun v121_191 =>
  vFA 2 v121_191 fun v122_192 =>
  aF 1 false v122_192 H186 fun v123_193 f193 =>
  aM (.append 1 8) [v118_188, v123_193] H186 ((c + 34) :: p) (fB P p Q f193 f188 y4 y6 c)
def e9 (P : Program) (p : Lab) (Q : aA) (f183 : Option (List Lab)) (f178 : Option (List Lab)) (y4 : AV) (y6 : AV) (c : Nat) (v115_184 : AV) (H184 : aB) (l184 : List Lab) (f184 : Option (List Lab)) : Prop :=
  vFA 0 (.ptr ((c + 15) :: p) 3 0 0) fun v116_185 =>
  aM (.store 1) [v116_185, v115_184] H184 ((c + 26) :: p) (fA P p Q l184 f184 f183 f178 y4 y6 c)
def e8 (P : Program) (p : Lab) (Q : aA) (y4 : AV) (y6 : AV) (c : Nat) (v_176 : AV) (H176 : aB) (l176 : List Lab) (f176 : Option (List Lab)) : Prop :=
  vFA 0 (.ptr ((c + 15) :: p) 3 0 0) fun v108_177 =>
  aF 1 false v108_177 H176 fun v109_178 f178 =>
  aW y6 fun v111_180 =>
  vFA 0 v111_180 fun v112_181 =>
  vFA 0 v112_181 fun v113_182 =>
  aF 1 false v113_182 H176 fun v114_183 f183 =>
  aM (.append 1 8) [v109_178, v114_183] H176 ((c + 24) :: p) (e9 P p Q f183 f178 y4 y6 c)
def e7 (P : Program) (p : Lab) (Q : aA) (y4 : AV) (y6 : AV) (c : Nat) (v_168 : AV) (H168 : aB) (l168 : List Lab) (f168 : Option (List Lab)) : Prop :=
  aW y6 fun v103_170 =>
  vFA 0 v103_170 fun v104_171 =>
  vFA 1 v104_171 fun v105_172 =>
  aF 1 false v105_172 H168 fun v106_173 _ =>
  gB [.nils, (.int .i64 0), .nils] [(1, 1)] [v106_173] fun v107_174 =>
  (fun (H175 : aB) =>
  aM (.store 3) [(.ptr ((c + 15) :: p) 3 0 0), v107_174] H175 ((c + 16) :: p) (e8 P p Q y4 y6 c)) (upd [(((c + 15) :: p), some (.rows 3 [[.nils, (.int .i64 0), .nils]]))] H168)
def cX (P : Program) (p : Lab) (Q : aA) (y4 : AV) (y6 : AV) (c : Nat) (v60_164 : AV) (H164 : aB) (l164 : List Lab) (f164 : Option (List Lab)) : Prop :=
  aW y6 fun v61_165 =>
  vFA 0 v61_165 fun v62_166 =>
  vFA 1 v62_166 fun v63_167 =>
  aM (.store 1) [v63_167, v60_164] H164 ((c + 8) :: p) (e7 P p Q y4 y6 c)
def fE (P : Program) (p : Lab) (Q : aA) (y2 : AV) (y4 : AV) (y6 : AV) (y7 : AV) (H : aB) (c : Nat) : Prop :=
  vFA 0 y2 fun v57_161 =>
  aF 1 false v57_161 H fun v58_162 _ =>
  aN true P 23 [v58_162, y7, (.bool false)] H ((c + 4) :: p) (cX P p Q y4 y6 c)
def eZ (P : Program) (p : Lab) (Q : aA) (y2 : AV) (y4 : AV) (y6 : AV) (y7 : AV) (H : aB) (c : Nat) (_ : Unit) : Prop :=
  (fE P p Q y2 y4 y6 y7 H c)
def eW (P : Program) (p : Lab) (Q : aA) (v130_245 : AV) (f245 : Option (List Lab)) (f241 : Option (List Lab)) (y4 : AV) (c : Nat) (v_246 : AV) (H246 : aB) (l246 : List Lab) (f246 : Option (List Lab)) : Prop :=
  aI [0, 0, 2, 6, 14, 1, 63] (aH 0 [] ((c + 35) :: p) f241 (aH 4 [] ((c + 39) :: p) f245 (aH 5 l246 ((c + 40) :: p) f246 []))) ∧
  Q .ret [(4, y4), (5, v130_245)] H246 (c + 42)
def eV (P : Program) (p : Lab) (Q : aA) (l238 : List Lab) (f238 : Option (List Lab)) (f237 : Option (List Lab)) (f232 : Option (List Lab)) (y4 : AV) (y6 : AV) (c : Nat) (v_240 : AV) (H240 : aB) (l240 : List Lab) (f240 : Option (List Lab)) : Prop :=
  aI [0, 1, 0, 4, 12, 28, 60, 127, 255, 511] (aH 1 [] ((c + 26) :: p) f232 (aH 6 [] ((c + 31) :: p) f237 (aH 7 l238 ((c + 32) :: p) f238 (aH 9 l240 ((c + 34) :: p) f240 [])))) ∧
  aF 3 true (.ptr ((c + 13) :: p) 3 0 0) H240 fun v126_241 f241 =>
  aW y6 fun v128_243 =>
  vFA 3 v128_243 fun v129_244 =>
  aF 1 false v129_244 H240 fun v130_245 f245 =>
  aM (.store 3) [y4, v126_241] H240 ((c + 40) :: p) (eW P p Q v130_245 f245 f241 y4 c)
def eU (P : Program) (p : Lab) (Q : aA) (f237 : Option (List Lab)) (f232 : Option (List Lab)) (y4 : AV) (y6 : AV) (c : Nat) (v124_238 : AV) (H238 : aB) (l238 : List Lab) (f238 : Option (List Lab)) : Prop :=
  vFA 2 (.ptr ((c + 13) :: p) 3 0 0) fun v125_239 =>
  aM (.store 1) [v125_239, v124_238] H238 ((c + 34) :: p) (eV P p Q l238 f238 f237 f232 y4 y6 c)
def eT (P : Program) (p : Lab) (Q : aA) (l228 : List Lab) (f228 : Option (List Lab)) (f227 : Option (List Lab)) (f222 : Option (List Lab)) (y4 : AV) (y6 : AV) (c : Nat) (v_230 : AV) (H230 : aB) (l230 : List Lab) (f230 : Option (List Lab)) : Prop :=
  aI [0, 1, 0, 4, 12, 28, 60, 127, 255, 511] (aH 1 [] ((c + 16) :: p) f222 (aH 6 [] ((c + 21) :: p) f227 (aH 7 l228 ((c + 22) :: p) f228 (aH 9 l230 ((c + 24) :: p) f230 [])))) ∧
  vFA 2 (.ptr ((c + 13) :: p) 3 0 0) fun v117_231 =>
  aF 1 false v117_231 H230 fun v118_232 f232 =>
  aW y6 fun v120_234 =>
  vFA 0 v120_234 fun v121_235 =>
  vFA 2 v121_235 fun v122_236 =>
  aF 1 false v122_236 H230 fun v123_237 f237 =>
  aM (.append 1 8) [v118_232, v123_237] H230 ((c + 32) :: p) (eU P p Q f237 f232 y4 y6 c)
def eS (P : Program) (p : Lab) (Q : aA) (f227 : Option (List Lab)) (f222 : Option (List Lab)) (y4 : AV) (y6 : AV) (c : Nat) (v115_228 : AV) (H228 : aB) (l228 : List Lab) (f228 : Option (List Lab)) : Prop :=
  vFA 0 (.ptr ((c + 13) :: p) 3 0 0) fun v116_229 =>
  aM (.store 1) [v116_229, v115_228] H228 ((c + 24) :: p) (eT P p Q l228 f228 f227 f222 y4 y6 c)
def eR (P : Program) (p : Lab) (Q : aA) (y4 : AV) (y6 : AV) (c : Nat) (v_220 : AV) (H220 : aB) (l220 : List Lab) (f220 : Option (List Lab)) : Prop :=
  vFA 0 (.ptr ((c + 13) :: p) 3 0 0) fun v108_221 =>
  aF 1 false v108_221 H220 fun v109_222 f222 =>
  aW y6 fun v111_224 =>
  vFA 0 v111_224 fun v112_225 =>
  vFA 0 v112_225 fun v113_226 =>
  aF 1 false v113_226 H220 fun v114_227 f227 =>
  aM (.append 1 8) [v109_222, v114_227] H220 ((c + 22) :: p) (eS P p Q f227 f222 y4 y6 c)
def eQ (P : Program) (p : Lab) (Q : aA) (y4 : AV) (y6 : AV) (c : Nat) (v72_212 : AV) (H212 : aB) (l212 : List Lab) (f212 : Option (List Lab)) : Prop :=
  aW y6 fun v103_214 =>
  vFA 0 v103_214 fun v104_215 =>
  vFA 1 v104_215 fun v105_216 =>
  aF 1 false v105_216 H212 fun v106_217 _ =>
  gB [.nils, (.int .i64 0), .nils] [(1, 1)] [v106_217] fun v107_218 =>
  (fun (H219 : aB) =>
  aM (.store 3) [(.ptr ((c + 13) :: p) 3 0 0), v107_218] H219 ((c + 14) :: p) (eR P p Q y4 y6 c)) (upd [(((c + 13) :: p), some (.rows 3 [[.nils, (.int .i64 0), .nils]]))] H212)
def eP (P : Program) (p : Lab) (Q : aA) (y4 : AV) (y6 : AV) (y7 : AV) (c : Nat) (v71_211 : AV) (H211 : aB) (l211 : List Lab) (f211 : Option (List Lab)) : Prop :=
  aN true P 32 [y6, y7, v71_211] H211 ((c + 6) :: p) (eQ P p Q y4 y6 c)
def eX (P : Program) (p : Lab) (Q : aA) (y2 : AV) (y4 : AV) (y6 : AV) (y7 : AV) (H : aB) (c : Nat) : Prop :=
  vFA 0 y2 fun v68_208 =>
  aF 1 false v68_208 H fun v69_209 _ =>
  aN true P 23 [v69_209, y7, (.bool false)] H ((c + 5) :: p) (eP P p Q y4 y6 y7 c)
def eO (P : Program) (p : Lab) (Q : aA) (y2 : AV) (y4 : AV) (y6 : AV) (y7 : AV) (H : aB) (c : Nat) (_ : Unit) : Prop :=
  (eX P p Q y2 y4 y6 y7 H c)
def eK (P : Program) (p : Lab) (Q : aA) (v130_289 : AV) (f289 : Option (List Lab)) (f285 : Option (List Lab)) (y4 : AV) (c : Nat) (v_290 : AV) (H290 : aB) (l290 : List Lab) (f290 : Option (List Lab)) : Prop :=
  aI [0, 0, 2, 6, 14, 1, 63] (aH 0 [] ((c + 35) :: p) f285 (aH 4 [] ((c + 39) :: p) f289 (aH 5 l290 ((c + 40) :: p) f290 []))) ∧
  Q .ret [(4, y4), (5, v130_289)] H290 (c + 42)
def eJ (P : Program) (p : Lab) (Q : aA) (l282 : List Lab) (f282 : Option (List Lab)) (f281 : Option (List Lab)) (f276 : Option (List Lab)) (y4 : AV) (y6 : AV) (c : Nat) (v_284 : AV) (H284 : aB) (l284 : List Lab) (f284 : Option (List Lab)) : Prop :=
  aI [0, 1, 0, 4, 12, 28, 60, 127, 255, 511] (aH 1 [] ((c + 26) :: p) f276 (aH 6 [] ((c + 31) :: p) f281 (aH 7 l282 ((c + 32) :: p) f282 (aH 9 l284 ((c + 34) :: p) f284 [])))) ∧
  aF 3 true (.ptr ((c + 13) :: p) 3 0 0) H284 fun v126_285 f285 =>
  aW y6 fun v128_287 =>
  vFA 3 v128_287 fun v129_288 =>
  aF 1 false v129_288 H284 fun v130_289 f289 =>
  aM (.store 3) [y4, v126_285] H284 ((c + 40) :: p) (eK P p Q v130_289 f289 f285 y4 c)
def eI (P : Program) (p : Lab) (Q : aA) (f281 : Option (List Lab)) (f276 : Option (List Lab)) (y4 : AV) (y6 : AV) (c : Nat) (v124_282 : AV) (H282 : aB) (l282 : List Lab) (f282 : Option (List Lab)) : Prop :=
  vFA 2 (.ptr ((c + 13) :: p) 3 0 0) fun v125_283 =>
  aM (.store 1) [v125_283, v124_282] H282 ((c + 34) :: p) (eJ P p Q l282 f282 f281 f276 y4 y6 c)
def eH (P : Program) (p : Lab) (Q : aA) (l272 : List Lab) (f272 : Option (List Lab)) (f271 : Option (List Lab)) (f266 : Option (List Lab)) (y4 : AV) (y6 : AV) (c : Nat) (v_274 : AV) (H274 : aB) (l274 : List Lab) (f274 : Option (List Lab)) : Prop :=
  aI [0, 1, 0, 4, 12, 28, 60, 127, 255, 511] (aH 1 [] ((c + 16) :: p) f266 (aH 6 [] ((c + 21) :: p) f271 (aH 7 l272 ((c + 22) :: p) f272 (aH 9 l274 ((c + 24) :: p) f274 [])))) ∧
  vFA 2 (.ptr ((c + 13) :: p) 3 0 0) fun v117_275 =>
  aF 1 false v117_275 H274 fun v118_276 f276 =>
  aW y6 fun v120_278 =>
  vFA 0 v120_278 fun v121_279 =>
  vFA 2 v121_279 fun v122_280 =>
  aF 1 false v122_280 H274 fun v123_281 f281 =>
  aM (.append 1 8) [v118_276, v123_281] H274 ((c + 32) :: p) (eI P p Q f281 f276 y4 y6 c)
def eF (P : Program) (p : Lab) (Q : aA) (f271 : Option (List Lab)) (f266 : Option (List Lab)) (y4 : AV) (y6 : AV) (c : Nat) (v115_272 : AV) (H272 : aB) (l272 : List Lab) (f272 : Option (List Lab)) : Prop :=
  vFA 0 (.ptr ((c + 13) :: p) 3 0 0) fun v116_273 =>
  aM (.store 1) [v116_273, v115_272] H272 ((c + 24) :: p) (eH P p Q l272 f272 f271 f266 y4 y6 c)
def eE (P : Program) (p : Lab) (Q : aA) (y4 : AV) (y6 : AV) (c : Nat) (v_264 : AV) (H264 : aB) (l264 : List Lab) (f264 : Option (List Lab)) : Prop :=
  vFA 0 (.ptr ((c + 13) :: p) 3 0 0) fun v108_265 =>
  aF 1 false v108_265 H264 fun v109_266 f266 =>
  aW y6 fun v111_268 =>
  vFA 0 v111_268 fun v112_269 =>
  vFA 0 v112_269 fun v113_270 =>
  aF 1 false v113_270 H264 fun v114_271 f271 =>
  aM (.append 1 8) [v109_266, v114_271] H264 ((c + 22) :: p) (eF P p Q f271 f266 y4 y6 c)
def eD (P : Program) (p : Lab) (Q : aA) (y4 : AV) (y6 : AV) (c : Nat) (v81_256 : AV) (H256 : aB) (l256 : List Lab) (f256 : Option (List Lab)) : Prop :=
  aW y6 fun v103_258 =>
  vFA 0 v103_258 fun v104_259 =>
  vFA 1 v104_259 fun v105_260 =>
  aF 1 false v105_260 H256 fun v106_261 _ =>
  gB [.nils, (.int .i64 0), .nils] [(1, 1)] [v106_261] fun v107_262 =>
  (fun (H263 : aB) =>
  aM (.store 3) [(.ptr ((c + 13) :: p) 3 0 0), v107_262] H263 ((c + 14) :: p) (eE P p Q y4 y6 c)) (upd [(((c + 13) :: p), some (.rows 3 [[.nils, (.int .i64 0), .nils]]))] H256)
def eC (P : Program) (p : Lab) (Q : aA) (y4 : AV) (y6 : AV) (y7 : AV) (c : Nat) (v79_254 : AV) (H254 : aB) (l254 : List Lab) (f254 : Option (List Lab)) : Prop :=
  aN true P 32 [y6, v79_254, y7] H254 ((c + 6) :: p) (eD P p Q y4 y6 c)
def eM (P : Program) (p : Lab) (Q : aA) (y2 : AV) (y4 : AV) (y6 : AV) (y7 : AV) (H : aB) (c : Nat) : Prop :=
  vFA 0 y2 fun v76_251 =>
  aF 1 false v76_251 H fun v77_252 _ =>
  aN true P 23 [v77_252, y7, (.bool true)] H ((c + 4) :: p) (eC P p Q y4 y6 y7 c)
def eA (P : Program) (p : Lab) (Q : aA) (y2 : AV) (y4 : AV) (y6 : AV) (y7 : AV) (H : aB) (c : Nat) (_ : Unit) : Prop :=
  (eM P p Q y2 y4 y6 y7 H c)
def d8 (P : Program) (p : Lab) (Q : aA) (v130_324 : AV) (f324 : Option (List Lab)) (f320 : Option (List Lab)) (y4 : AV) (c : Nat) (v_325 : AV) (H325 : aB) (l325 : List Lab) (f325 : Option (List Lab)) : Prop :=
  aI [0, 0, 2, 6, 14, 1, 63] (aH 0 [] ((c + 28) :: p) f320 (aH 4 [] ((c + 32) :: p) f324 (aH 5 l325 ((c + 33) :: p) f325 []))) ∧
  Q .ret [(4, y4), (5, v130_324)] H325 (c + 35)
def d7 (P : Program) (p : Lab) (Q : aA) (l317 : List Lab) (f317 : Option (List Lab)) (f316 : Option (List Lab)) (f311 : Option (List Lab)) (y4 : AV) (y6 : AV) (c : Nat) (v_319 : AV) (H319 : aB) (l319 : List Lab) (f319 : Option (List Lab)) : Prop :=
  aI [0, 1, 0, 4, 12, 28, 60, 127, 255, 511] (aH 1 [] ((c + 19) :: p) f311 (aH 6 [] ((c + 24) :: p) f316 (aH 7 l317 ((c + 25) :: p) f317 (aH 9 l319 ((c + 27) :: p) f319 [])))) ∧
  aF 3 true (.ptr ((c + 6) :: p) 3 0 0) H319 fun v126_320 f320 =>
  aW y6 fun v128_322 =>
  vFA 3 v128_322 fun v129_323 =>
  aF 1 false v129_323 H319 fun v130_324 f324 =>
  aM (.store 3) [y4, v126_320] H319 ((c + 33) :: p) (d8 P p Q v130_324 f324 f320 y4 c)
def d6 (P : Program) (p : Lab) (Q : aA) (f316 : Option (List Lab)) (f311 : Option (List Lab)) (y4 : AV) (y6 : AV) (c : Nat) (v124_317 : AV) (H317 : aB) (l317 : List Lab) (f317 : Option (List Lab)) : Prop :=
  vFA 2 (.ptr ((c + 6) :: p) 3 0 0) fun v125_318 =>
  aM (.store 1) [v125_318, v124_317] H317 ((c + 27) :: p) (d7 P p Q l317 f317 f316 f311 y4 y6 c)
def d5 (P : Program) (p : Lab) (Q : aA) (l307 : List Lab) (f307 : Option (List Lab)) (f306 : Option (List Lab)) (f301 : Option (List Lab)) (y4 : AV) (y6 : AV) (c : Nat) (v_309 : AV) (H309 : aB) (l309 : List Lab) (f309 : Option (List Lab)) : Prop :=
  aI [0, 1, 0, 4, 12, 28, 60, 127, 255, 511] (aH 1 [] ((c + 9) :: p) f301 (aH 6 [] ((c + 14) :: p) f306 (aH 7 l307 ((c + 15) :: p) f307 (aH 9 l309 ((c + 17) :: p) f309 [])))) ∧
  vFA 2 (.ptr ((c + 6) :: p) 3 0 0) fun v117_310 =>
  aF 1 false v117_310 H309 fun v118_311 f311 =>
  aW y6 fun v120_313 =>
  vFA 0 v120_313 fun v121_314 =>
  vFA 2 v121_314 fun v122_315 =>
  aF 1 false v122_315 H309 fun v123_316 f316 =>
  aM (.append 1 8) [v118_311, v123_316] H309 ((c + 25) :: p) (d6 P p Q f316 f311 y4 y6 c)
def d4 (P : Program) (p : Lab) (Q : aA) (f306 : Option (List Lab)) (f301 : Option (List Lab)) (y4 : AV) (y6 : AV) (c : Nat) (v115_307 : AV) (H307 : aB) (l307 : List Lab) (f307 : Option (List Lab)) : Prop :=
  vFA 0 (.ptr ((c + 6) :: p) 3 0 0) fun v116_308 =>
  aM (.store 1) [v116_308, v115_307] H307 ((c + 17) :: p) (d5 P p Q l307 f307 f306 f301 y4 y6 c)
def d3 (P : Program) (p : Lab) (Q : aA) (y4 : AV) (y6 : AV) (c : Nat) (v_299 : AV) (H299 : aB) (l299 : List Lab) (f299 : Option (List Lab)) : Prop :=
  vFA 0 (.ptr ((c + 6) :: p) 3 0 0) fun v108_300 =>
  aF 1 false v108_300 H299 fun v109_301 f301 =>
  aW y6 fun v111_303 =>
  vFA 0 v111_303 fun v112_304 =>
  vFA 0 v112_304 fun v113_305 =>
  aF 1 false v113_305 H299 fun v114_306 f306 =>
  aM (.append 1 8) [v109_301, v114_306] H299 ((c + 15) :: p) (d4 P p Q f306 f301 y4 y6 c)
def d9 (P : Program) (p : Lab) (Q : aA) (y2 : AV) (y4 : AV) (y6 : AV) (y7 : AV) (y73 : AV) (H : aB) (c : Nat) : Prop :=
  aW y6 fun v103_293 =>
  vFA 0 v103_293 fun v104_294 =>
  vFA 1 v104_294 fun v105_295 =>
  aF 1 false v105_295 H fun v106_296 _ =>
  gB [.nils, (.int .i64 0), .nils] [(1, 1)] [v106_296] fun v107_297 =>
  (fun (H298 : aB) =>
  aM (.store 3) [(.ptr ((c + 6) :: p) 3 0 0), v107_297] H298 ((c + 7) :: p) (d3 P p Q y4 y6 c)) (upd [(((c + 6) :: p), some (.rows 3 [[.nils, (.int .i64 0), .nils]]))] H)
def d2 (P : Program) (p : Lab) (Q : aA) (y2 : AV) (y4 : AV) (y6 : AV) (y7 : AV) (y73 : AV) (H : aB) (c : Nat) (_ : Unit) : Prop :=
  (d9 P p Q y2 y4 y6 y7 y73 H c)
def eN (P : Program) (p : Lab) (Q : aA) (y2 : AV) (y4 : AV) (y6 : AV) (y7 : AV) (y73 : AV) (H : aB) (c : Nat) : Prop :=
  aL y73
  (eA P p Q y2 y4 y6 y7 H c)
  (d2 P p Q y2 y4 y6 y7 y73 H c)
def d1 (P : Program) (p : Lab) (Q : aA) (y2 : AV) (y4 : AV) (y6 : AV) (y7 : AV) (y43 : AV) (H : aB) (c : Nat) (_ : Unit) : Prop :=
  aJ .eql .num y43 (.int .i64 127) fun v74_248 =>
  (eN P p Q y2 y4 y6 y7 v74_248 H (c + 2))
def eY (P : Program) (p : Lab) (Q : aA) (y2 : AV) (y4 : AV) (y6 : AV) (y7 : AV) (y43 : AV) (y64 : AV) (H : aB) (c : Nat) : Prop :=
  aL y64
  (eO P p Q y2 y4 y6 y7 H c)
  (d1 P p Q y2 y4 y6 y7 y43 H c)
def d0 (P : Program) (p : Lab) (Q : aA) (y2 : AV) (y4 : AV) (y6 : AV) (y7 : AV) (y43 : AV) (H : aB) (c : Nat) (_ : Unit) : Prop :=
  aJ .eql .num y43 (.int .i64 100) fun v65_204 =>
  (eY P p Q y2 y4 y6 y7 y43 v65_204 H (c + 2))
def fF (P : Program) (p : Lab) (Q : aA) (y2 : AV) (y4 : AV) (y6 : AV) (y7 : AV) (y43 : AV) (y54 : AV) (H : aB) (c : Nat) : Prop :=
  aL y54
  (eZ P p Q y2 y4 y6 y7 H c)
  (d0 P p Q y2 y4 y6 y7 y43 H c)
def dZ (P : Program) (p : Lab) (Q : aA) (y2 : AV) (y4 : AV) (y6 : AV) (y7 : AV) (y43 : AV) (H : aB) (c : Nat) (_ : Unit) : Prop :=
  aJ .eql .num y43 (.int .i64 102) fun v55_158 =>
  (fF P p Q y2 y4 y6 y7 y43 v55_158 H (c + 4))
def fQ (P : Program) (p : Lab) (Q : aA) (y2 : AV) (y4 : AV) (y6 : AV) (y7 : AV) (y43 : AV) (H : aB) (c : Nat) : Prop :=
  aJ .eql .num y43 (.int .i64 98) fun v45_112 =>
  aL v45_112
  (fH P p Q y2 y4 y6 y7 H c)
  (dZ P p Q y2 y4 y6 y7 y43 H c)
def dY (P : Program) (p : Lab) (Q : aA) (y2 : AV) (y3 : AV) (y4 : AV) (y6 : AV) (y7 : AV) (H : aB) (c : Nat) (_ : Unit) : Prop :=
  vFA 1 y3 fun v42_110 =>
  aF 1 false v42_110 H fun v43_111 _ =>
  (fQ P p Q y2 y4 y6 y7 v43_111 H (c + 2))
def dW (P : Program) (p : Lab) (Q : aA) (v130_363 : AV) (f363 : Option (List Lab)) (f359 : Option (List Lab)) (y4 : AV) (c : Nat) (v_364 : AV) (H364 : aB) (l364 : List Lab) (f364 : Option (List Lab)) : Prop :=
  aI [0, 0, 2, 6, 14, 1, 63] (aH 0 [] ((c + 28) :: p) f359 (aH 4 [] ((c + 32) :: p) f363 (aH 5 l364 ((c + 33) :: p) f364 []))) ∧
  Q .ret [(4, y4), (5, v130_363)] H364 (c + 35)
def dV (P : Program) (p : Lab) (Q : aA) (l356 : List Lab) (f356 : Option (List Lab)) (f355 : Option (List Lab)) (f350 : Option (List Lab)) (y4 : AV) (y6 : AV) (c : Nat) (v_358 : AV) (H358 : aB) (l358 : List Lab) (f358 : Option (List Lab)) : Prop :=
  aI [0, 1, 0, 4, 12, 28, 60, 127, 255, 511] (aH 1 [] ((c + 19) :: p) f350 (aH 6 [] ((c + 24) :: p) f355 (aH 7 l356 ((c + 25) :: p) f356 (aH 9 l358 ((c + 27) :: p) f358 [])))) ∧
  aF 3 true (.ptr ((c + 6) :: p) 3 0 0) H358 fun v126_359 f359 =>
  aW y6 fun v128_361 =>
  vFA 3 v128_361 fun v129_362 =>
  aF 1 false v129_362 H358 fun v130_363 f363 =>
  aM (.store 3) [y4, v126_359] H358 ((c + 33) :: p) (dW P p Q v130_363 f363 f359 y4 c)
def dU (P : Program) (p : Lab) (Q : aA) (f355 : Option (List Lab)) (f350 : Option (List Lab)) (y4 : AV) (y6 : AV) (c : Nat) (v124_356 : AV) (H356 : aB) (l356 : List Lab) (f356 : Option (List Lab)) : Prop :=
  vFA 2 (.ptr ((c + 6) :: p) 3 0 0) fun v125_357 =>
  aM (.store 1) [v125_357, v124_356] H356 ((c + 27) :: p) (dV P p Q l356 f356 f355 f350 y4 y6 c)
def dS (P : Program) (p : Lab) (Q : aA) (l346 : List Lab) (f346 : Option (List Lab)) (f345 : Option (List Lab)) (f340 : Option (List Lab)) (y4 : AV) (y6 : AV) (c : Nat) (v_348 : AV) (H348 : aB) (l348 : List Lab) (f348 : Option (List Lab)) : Prop :=
  aI [0, 1, 0, 4, 12, 28, 60, 127, 255, 511] (aH 1 [] ((c + 9) :: p) f340 (aH 6 [] ((c + 14) :: p) f345 (aH 7 l346 ((c + 15) :: p) f346 (aH 9 l348 ((c + 17) :: p) f348 [])))) ∧
  vFA 2 (.ptr ((c + 6) :: p) 3 0 0) fun v117_349 =>
  aF 1 false v117_349 H348 fun v118_350 f350 =>
  aW y6 fun v120_352 =>
  vFA 0 v120_352 fun v121_353 =>
  vFA 2 v121_353 fun v122_354 =>
  aF 1 false v122_354 H348 fun v123_355 f355 =>
  aM (.append 1 8) [v118_350, v123_355] H348 ((c + 25) :: p) (dU P p Q f355 f350 y4 y6 c)
def dR (P : Program) (p : Lab) (Q : aA) (f345 : Option (List Lab)) (f340 : Option (List Lab)) (y4 : AV) (y6 : AV) (c : Nat) (v115_346 : AV) (H346 : aB) (l346 : List Lab) (f346 : Option (List Lab)) : Prop :=
  vFA 0 (.ptr ((c + 6) :: p) 3 0 0) fun v116_347 =>
  aM (.store 1) [v116_347, v115_346] H346 ((c + 17) :: p) (dS P p Q l346 f346 f345 f340 y4 y6 c)
def dQ (P : Program) (p : Lab) (Q : aA) (y4 : AV) (y6 : AV) (c : Nat) (v_338 : AV) (H338 : aB) (l338 : List Lab) (f338 : Option (List Lab)) : Prop :=
  vFA 0 (.ptr ((c + 6) :: p) 3 0 0) fun v108_339 =>
  aF 1 false v108_339 H338 fun v109_340 f340 =>
  aW y6 fun v111_342 =>
  vFA 0 v111_342 fun v112_343 =>
  vFA 0 v112_343 fun v113_344 =>
  aF 1 false v113_344 H338 fun v114_345 f345 =>
  aM (.append 1 8) [v109_340, v114_345] H338 ((c + 15) :: p) (dR P p Q f345 f340 y4 y6 c)
def cJ (P : Program) (p : Lab) (Q : aA) (y4 : AV) (y6 : AV) (H : aB) (c : Nat) : Prop :=
  aW y6 fun v103_332 =>
  vFA 0 v103_332 fun v104_333 =>
  vFA 1 v104_333 fun v105_334 =>
  aF 1 false v105_334 H fun v106_335 _ =>
  gB [.nils, (.int .i64 0), .nils] [(1, 1)] [v106_335] fun v107_336 =>
  (fun (H337 : aB) =>
  aM (.store 3) [(.ptr ((c + 6) :: p) 3 0 0), v107_336] H337 ((c + 7) :: p) (dQ P p Q y4 y6 c)) (upd [(((c + 6) :: p), some (.rows 3 [[.nils, (.int .i64 0), .nils]]))] H)
def dP (P : Program) (p : Lab) (Q : aA) (y4 : AV) (y6 : AV) (c : Nat) (v85_330 : AV) (H330 : aB) (l330 : List Lab) (f330 : Option (List Lab)) : Prop :=
  (cJ P p Q y4 y6 H330 (c + 2))
def dN (P : Program) (p : Lab) (Q : aA) (y4 : AV) (y6 : AV) (H : aB) (c : Nat) (_ : Unit) : Prop :=
  aN true P 31 [y6, (.int .i64 102)] H ((c + 1) :: p) (dP P p Q y4 y6 c)
def dL (P : Program) (p : Lab) (Q : aA) (y4 : AV) (y6 : AV) (c : Nat) (v89_369 : AV) (H369 : aB) (l369 : List Lab) (f369 : Option (List Lab)) : Prop :=
  (cJ P p Q y4 y6 H369 (c + 2))
def dK (P : Program) (p : Lab) (Q : aA) (y4 : AV) (y6 : AV) (H : aB) (c : Nat) (_ : Unit) : Prop :=
  aN true P 31 [y6, (.int .i64 98)] H ((c + 1) :: p) (dL P p Q y4 y6 c)
def dI (P : Program) (p : Lab) (Q : aA) (y4 : AV) (y6 : AV) (c : Nat) (v93_373 : AV) (H373 : aB) (l373 : List Lab) (f373 : Option (List Lab)) : Prop :=
  (cJ P p Q y4 y6 H373 (c + 2))
def dH (P : Program) (p : Lab) (Q : aA) (y4 : AV) (y6 : AV) (H : aB) (c : Nat) (_ : Unit) : Prop :=
  aN true P 31 [y6, (.int .i64 97)] H ((c + 1) :: p) (dI P p Q y4 y6 c)
def dF (P : Program) (p : Lab) (Q : aA) (y4 : AV) (y6 : AV) (c : Nat) (v97_377 : AV) (H377 : aB) (l377 : List Lab) (f377 : Option (List Lab)) : Prop :=
  (cJ P p Q y4 y6 H377 (c + 2))
def dE (P : Program) (p : Lab) (Q : aA) (y4 : AV) (y6 : AV) (H : aB) (c : Nat) (_ : Unit) : Prop :=
  aN true P 31 [y6, (.int .i64 101)] H ((c + 1) :: p) (dF P p Q y4 y6 c)
def dC (P : Program) (p : Lab) (Q : aA) (y4 : AV) (y6 : AV) (c : Nat) (v101_381 : AV) (H381 : aB) (l381 : List Lab) (f381 : Option (List Lab)) : Prop :=
  (cJ P p Q y4 y6 H381 (c + 2))
def dB (P : Program) (p : Lab) (Q : aA) (y4 : AV) (y6 : AV) (H : aB) (c : Nat) (_ : Unit) : Prop :=
  aN true P 31 [y6, (.int .i64 100)] H ((c + 1) :: p) (dC P p Q y4 y6 c)
def c0 (P : Program) (p : Lab) (Q : aA) (v130_414 : AV) (f414 : Option (List Lab)) (f410 : Option (List Lab)) (y4 : AV) (c : Nat) (v_415 : AV) (H415 : aB) (l415 : List Lab) (f415 : Option (List Lab)) : Prop :=
  aI [0, 0, 2, 6, 14, 1, 63] (aH 0 [] ((c + 28) :: p) f410 (aH 4 [] ((c + 32) :: p) f414 (aH 5 l415 ((c + 33) :: p) f415 []))) ∧
  Q .ret [(4, y4), (5, v130_414)] H415 (c + 35)
def b8 (P : Program) (p : Lab) (Q : aA) (l407 : List Lab) (f407 : Option (List Lab)) (f406 : Option (List Lab)) (f401 : Option (List Lab)) (y4 : AV) (y6 : AV) (c : Nat) (v_409 : AV) (H409 : aB) (l409 : List Lab) (f409 : Option (List Lab)) : Prop :=
  aI [0, 1, 0, 4, 12, 28, 60, 127, 255, 511] (aH 1 [] ((c + 19) :: p) f401 (aH 6 [] ((c + 24) :: p) f406 (aH 7 l407 ((c + 25) :: p) f407 (aH 9 l409 ((c + 27) :: p) f409 [])))) ∧
  aF 3 true (.ptr ((c + 6) :: p) 3 0 0) H409 fun v126_410 f410 =>
  aW y6 fun v128_412 =>
  vFA 3 v128_412 fun v129_413 =>
  aF 1 false v129_413 H409 fun v130_414 f414 =>
  aM (.store 3) [y4, v126_410] H409 ((c + 33) :: p) (c0 P p Q v130_414 f414 f410 y4 c)
def b7 (P : Program) (p : Lab) (Q : aA) (f406 : Option (List Lab)) (f401 : Option (List Lab)) (y4 : AV) (y6 : AV) (c : Nat) (v124_407 : AV) (H407 : aB) (l407 : List Lab) (f407 : Option (List Lab)) : Prop :=
  vFA 2 (.ptr ((c + 6) :: p) 3 0 0) fun v125_408 =>
  aM (.store 1) [v125_408, v124_407] H407 ((c + 27) :: p) (b8 P p Q l407 f407 f406 f401 y4 y6 c)
def b6 (P : Program) (p : Lab) (Q : aA) (l397 : List Lab) (f397 : Option (List Lab)) (f396 : Option (List Lab)) (f391 : Option (List Lab)) (y4 : AV) (y6 : AV) (c : Nat) (v_399 : AV) (H399 : aB) (l399 : List Lab) (f399 : Option (List Lab)) : Prop :=
  aI [0, 1, 0, 4, 12, 28, 60, 127, 255, 511] (aH 1 [] ((c + 9) :: p) f391 (aH 6 [] ((c + 14) :: p) f396 (aH 7 l397 ((c + 15) :: p) f397 (aH 9 l399 ((c + 17) :: p) f399 [])))) ∧
  vFA 2 (.ptr ((c + 6) :: p) 3 0 0) fun v117_400 =>
  aF 1 false v117_400 H399 fun v118_401 f401 =>
  aW y6 fun v120_403 =>
  vFA 0 v120_403 fun v121_404 =>
  vFA 2 v121_404 fun v122_405 =>
  aF 1 false v122_405 H399 fun v123_406 f406 =>
  aM (.append 1 8) [v118_401, v123_406] H399 ((c + 25) :: p) (b7 P p Q f406 f401 y4 y6 c)
def b5 (P : Program) (p : Lab) (Q : aA) (f396 : Option (List Lab)) (f391 : Option (List Lab)) (y4 : AV) (y6 : AV) (c : Nat) (v115_397 : AV) (H397 : aB) (l397 : List Lab) (f397 : Option (List Lab)) : Prop :=
  vFA 0 (.ptr ((c + 6) :: p) 3 0 0) fun v116_398 =>
  aM (.store 1) [v116_398, v115_397] H397 ((c + 17) :: p) (b6 P p Q l397 f397 f396 f391 y4 y6 c)
def b4 (P : Program) (p : Lab) (Q : aA) (y4 : AV) (y6 : AV) (c : Nat) (v_389 : AV) (H389 : aB) (l389 : List Lab) (f389 : Option (List Lab)) : Prop :=
  vFA 0 (.ptr ((c + 6) :: p) 3 0 0) fun v108_390 =>
  aF 1 false v108_390 H389 fun v109_391 f391 =>
  aW y6 fun v111_393 =>
  vFA 0 v111_393 fun v112_394 =>
  vFA 0 v112_394 fun v113_395 =>
  aF 1 false v113_395 H389 fun v114_396 f396 =>
  aM (.append 1 8) [v109_391, v114_396] H389 ((c + 15) :: p) (b5 P p Q f396 f391 y4 y6 c)
def dA (P : Program) (p : Lab) (Q : aA) (y4 : AV) (y6 : AV) (y98 : AV) (H : aB) (c : Nat) : Prop :=
  aW y6 fun v103_383 =>
  vFA 0 v103_383 fun v104_384 =>
  vFA 1 v104_384 fun v105_385 =>
  aF 1 false v105_385 H fun v106_386 _ =>
  gB [.nils, (.int .i64 0), .nils] [(1, 1)] [v106_386] fun v107_387 =>
  (fun (H388 : aB) =>
  aM (.store 3) [(.ptr ((c + 6) :: p) 3 0 0), v107_387] H388 ((c + 7) :: p) (b4 P p Q y4 y6 c)) (upd [(((c + 6) :: p), some (.rows 3 [[.nils, (.int .i64 0), .nils]]))] H)
def b3 (P : Program) (p : Lab) (Q : aA) (y4 : AV) (y6 : AV) (y98 : AV) (H : aB) (c : Nat) (_ : Unit) : Prop :=
  (dA P p Q y4 y6 y98 H c)
def dD (P : Program) (p : Lab) (Q : aA) (y4 : AV) (y6 : AV) (y98 : AV) (H : aB) (c : Nat) : Prop :=
  aL y98
  (dB P p Q y4 y6 H c)
  (b3 P p Q y4 y6 y98 H c)
def b0 (P : Program) (p : Lab) (Q : aA) (y4 : AV) (y6 : AV) (y27 : AV) (H : aB) (c : Nat) (_ : Unit) : Prop :=
  aJ .eql .num y27 (.int .i64 10) fun v99_378 =>
  (dD P p Q y4 y6 v99_378 H (c + 2))
def dG (P : Program) (p : Lab) (Q : aA) (y4 : AV) (y6 : AV) (y27 : AV) (y94 : AV) (H : aB) (c : Nat) : Prop :=
  aL y94
  (dE P p Q y4 y6 H c)
  (b0 P p Q y4 y6 y27 H c)
def bZ (P : Program) (p : Lab) (Q : aA) (y4 : AV) (y6 : AV) (y27 : AV) (H : aB) (c : Nat) (_ : Unit) : Prop :=
  aJ .eql .num y27 (.int .i64 9) fun v95_374 =>
  (dG P p Q y4 y6 y27 v95_374 H (c + 2))
def dJ (P : Program) (p : Lab) (Q : aA) (y4 : AV) (y6 : AV) (y27 : AV) (y90 : AV) (H : aB) (c : Nat) : Prop :=
  aL y90
  (dH P p Q y4 y6 H c)
  (bZ P p Q y4 y6 y27 H c)
def bX (P : Program) (p : Lab) (Q : aA) (y4 : AV) (y6 : AV) (y27 : AV) (H : aB) (c : Nat) (_ : Unit) : Prop :=
  aJ .eql .num y27 (.int .i64 8) fun v91_370 =>
  (dJ P p Q y4 y6 y27 v91_370 H (c + 2))
def dM (P : Program) (p : Lab) (Q : aA) (y4 : AV) (y6 : AV) (y27 : AV) (y86 : AV) (H : aB) (c : Nat) : Prop :=
  aL y86
  (dK P p Q y4 y6 H c)
  (bX P p Q y4 y6 y27 H c)
def bW (P : Program) (p : Lab) (Q : aA) (y4 : AV) (y6 : AV) (y27 : AV) (H : aB) (c : Nat) (_ : Unit) : Prop :=
  aJ .eql .num y27 (.int .i64 7) fun v87_366 =>
  (dM P p Q y4 y6 y27 v87_366 H (c + 2))
def dX (P : Program) (p : Lab) (Q : aA) (y4 : AV) (y6 : AV) (y27 : AV) (y82 : AV) (H : aB) (c : Nat) : Prop :=
  aL y82
  (dN P p Q y4 y6 H c)
  (bW P p Q y4 y6 y27 H c)
def bV (P : Program) (p : Lab) (Q : aA) (y4 : AV) (y6 : AV) (y27 : AV) (H : aB) (c : Nat) (_ : Unit) : Prop :=
  aJ .eql .num y27 (.int .i64 6) fun v83_327 =>
  (dX P p Q y4 y6 y27 v83_327 H (c + 2))
def fR (P : Program) (p : Lab) (Q : aA) (y2 : AV) (y3 : AV) (y4 : AV) (y6 : AV) (y7 : AV) (y27 : AV) (y40 : AV) (H : aB) (c : Nat) : Prop :=
  aL y40
  (dY P p Q y2 y3 y4 y6 y7 H c)
  (bV P p Q y4 y6 y27 H c)
def bU (P : Program) (p : Lab) (Q : aA) (y2 : AV) (y3 : AV) (y4 : AV) (y6 : AV) (y7 : AV) (y27 : AV) (H : aB) (c : Nat) (_ : Unit) : Prop :=
  aJ .eql .num y27 (.int .i64 3) fun v41_108 =>
  (fR P p Q y2 y3 y4 y6 y7 y27 v41_108 H (c + 2))
def kY (P : Program) (p : Lab) (Q : aA) (y2 : AV) (y3 : AV) (y4 : AV) (y6 : AV) (y7 : AV) (y27 : AV) (y34 : AV) (H : aB) (c : Nat) : Prop :=
  aL y34
  (fS P p Q y3 y4 y6 H c)
  (bU P p Q y2 y3 y4 y6 y7 y27 H c)
def bT (P : Program) (p : Lab) (Q : aA) (v27_25 : AV) (v25_22 : AV) (H17 : aB) (w6 : List AV) (w1 : List AV) (w0 : List AV) (c : Nat) (_ : Unit) : Prop :=
  aJ .eql .num v27_25 (.int .i64 2) fun v35_67 =>
  (kY P p Q (.ptr (c :: p) w0.length 0 0) (.ptr ((c + 1) :: p) w1.length 0 0) (.ptr ((c + 2) :: p) 3 0 0) (.ptr ((c + 6) :: p) w6.length 0 0) v25_22 v27_25 v35_67 H17 (c + 30))
def bS (P : Program) (p : Lab) (Q : aA) (w6 : List AV) (w1 : List AV) (w0 : List AV) (c : Nat) (v_17 : AV) (H17 : aB) (l17 : List Lab) (f17 : Option (List Lab)) : Prop :=
  aW (.ptr ((c + 6) :: p) w6.length 0 0) fun v22_19 =>
  vFA 0 v22_19 fun v23_20 =>
  vFA 1 v23_20 fun v24_21 =>
  aF 1 false v24_21 H17 fun v25_22 _ =>
  vFA 0 (.ptr ((c + 1) :: p) w1.length 0 0) fun v26_24 =>
  aF 1 false v26_24 H17 fun v27_25 _ =>
  aJ .eql .num v27_25 (.int .i64 1) fun v29_26 =>
  aL v29_26
  (kZ P p Q H17 w6 w1 c)
  (bT P p Q v27_25 v25_22 H17 w6 w1 w0 c)
def bR (P : Program) (p : Lab) (Q : aA) (w6 : List AV) (w1 : List AV) (w0 : List AV) (c : Nat) (v17_13 : AV) (H13 : aB) (l13 : List Lab) (f13 : Option (List Lab)) : Prop :=
  aW (.ptr ((c + 6) :: p) w6.length 0 0) fun v18_14 =>
  vFA 0 v18_14 fun v19_15 =>
  vFA 1 v19_15 fun v20_16 =>
  aM (.store 1) [v20_16, v17_13] H13 ((c + 17) :: p) (bS P p Q w6 w1 w0 c)
def V14 (P : Program) (p : Lab) (Q : aA) (x0 x1 : AV) (H : aB) (c : Nat) : Prop :=
  zI x0 fun w0 =>
  (fun (H0 : aB) =>
  zI x1 fun w1 =>
  (fun (H1 : aB) =>
  (fun (H2 : aB) =>
  aF 3 true (.ptr (c :: p) w0.length 0 0) H2 fun v9_4 _ =>
  gB [.nils, (.int .i64 0), .nils, .nils] [(0, 3)] [v9_4] fun v10_5 =>
  zI v10_5 fun w6 =>
  (fun (H6 : aB) =>
  vFA 0 (.ptr (c :: p) w0.length 0 0) fun v13_9 =>
  aF 1 false v13_9 H6 fun v14_10 _ =>
  vFA 1 (.ptr (c :: p) w0.length 0 0) fun v15_11 =>
  aF 1 false v15_11 H6 fun v16_12 _ =>
  aN true P 29 [v14_10, v16_12] H6 ((c + 13) :: p) (bR P p Q w6 w1 w0 c)) (upd [(((c + 6) :: p), some (.rows w6.length [w6]))] H2)) (upd [(((c + 2) :: p), some (.rows 3 [[.nils, (.int .i64 0), .nils]]))] H1)) (upd [(((c + 1) :: p), some (.rows w1.length [w1]))] H0)) (upd [((c :: p), some (.rows w0.length [w0]))] H)
theorem q4 (P : Program) (p : Lab) (Q : aA) (x0 x1 : AV) (H : aB) (c : Nat) : vc P p c14.body Q [(0, x0), (1, x1)] H c = V14 P p Q x0 x1 H c := by kernel_rfl



end Go.Proofs.Ytbngfbpegdcpkaa
/-! The document's answer for layer 18: what keys do. -/
namespace Go.Proofs.Ytbngfbpegdcpkaa
set_option linter.unusedVariables false
set_option linter.unusedSimpArgs false
set_option maxRecDepth 100000
/-- the document's work in memory -/
structure RW (H : aB) (lw : Lab) (xa : AV) (w : Wk) : Prop where
  s : H lw = some (.rows 4 [[il w.line, .int .i64 w.pos, il w.kill, xa]])
  a : Own H xa 3 (w.acts.map bA)
theorem rw_in {H : aB} {q lw l : Lab} {xa : AV} {w : Wk} {k : Nat} (h : RW H lw xa w) (hl : l ∈ lw :: (k :: q) :: labs xa) : H l ≠ none ∨ Under q l := by
  simp only [List.mem_cons] at hl
  rcases hl with rfl | rfl | hl
  · exact .inl (by rw [h.s]; simp)
  · exact .inr ⟨[k], rfl⟩
  · exact .inl (by rw [h.a.lab hl]; simp)
theorem DI {H : aB} {q lw : Lab} {xa : AV} {w : Wk} (h : RW H lw xa w) (hf : Fresh q 0 H) (hp : w.pos ≤ w.line.length) (hl : w.line.length ≤ 1000000) (ha : w.acts.length ≤ 1000000) (c : Int) :
    SoundE Try.prog 30 [.ptr lw 4 0 0, .int .i64 c] H q (fun y u => y = .bool (wX w c) ∧ ∃ xa', RW (upd u H) lw xa' (mN w c)) := by
  refine cC Try.mixed ok30 rfl ?_
  have hs := h.s
  have out : ∀ {c' : Nat}, wX w c = false → VRE q H [.tmp 4] (fun y u => y = .bool (wX w c) ∧ ∃ xa', RW (upd u H) lw xa' (mN w c)) .ret [(4, .bool false)] H c' := fun {c'} hb =>
    ⟨.inr rfl, .bool false, .bool false, [], by simp [j1, iV, nA, bE], ⟨by rw [hb], xa, by rw [mN, hb]; exact h⟩, fun l hl => absurd hl (aS l), .refl _, fun l o hl => hl⟩
  simp only [params, Nat.zero_add, Nat.reduceAdd]
  simp (disch := omega) only [vsb, aE, reduceIte, AV.cells, putL, aC, Nat.reduceAdd, Nat.reduceDiv, Nat.reduceMod, AV.one, Nat.reduceLeDiff, Nat.reduceEqDiff, D8, LA, V30, C3, C2, CZ, CY, CW, CV, CU, CT, wN, CX, wM, C0, wL, wK, hs]
  refine aY (fun hfull => ?_) (fun hroom => ?_)
  · simp (disch := omega) only [vsb, aE, reduceIte, AV.cells, putL, aC, Nat.reduceAdd, Nat.reduceDiv, Nat.reduceMod, AV.one, Nat.reduceLeDiff, Nat.reduceEqDiff, D8, LA, V30, C3, C2, CZ, CY, CW, CV, CU, CT, wN, CX, wM, C0, wL, wK]
    exact out (by simp [wX]; omega)
  simp (disch := omega) only [vsb, aE, reduceIte, AV.cells, putL, aC, Nat.reduceAdd, Nat.reduceDiv, Nat.reduceMod, AV.one, Nat.reduceLeDiff, Nat.reduceEqDiff, D8, LA, V30, C3, C2, CZ, CY, CW, CV, CU, CT, wN, CX, wM, C0, wL, wK]
  refine aO (HI c) ?_
  cases hr : yP c
  · simp (disch := omega) only [vsb, aE, reduceIte, AV.cells, putL, aC, Nat.reduceAdd, Nat.reduceDiv, Nat.reduceMod, AV.one, Nat.reduceLeDiff, Nat.reduceEqDiff, D8, LA, V30, C3, C2, CZ, CY, CW, CV, CU, CT, wN, CX, wM, C0, wL, wK]
    exact out (by simp [wX, hr])
  have hb : wX w c = true := by simp [wX, hr]; omega
  have hlw : ∀ k, lw ≠ k :: q := fun k e => by rw [e, hf.at (Nat.zero_le _)] at hs; cases hs
  have hlw' : ∀ k, ¬ (k :: q = lw) := fun k e => hlw k e.symm
  simp (disch := omega) only [vsb, aE, reduceIte, AV.cells, putL, aC, Nat.reduceAdd, Nat.reduceDiv, Nat.reduceMod, AV.one, Nat.reduceLeDiff, Nat.reduceEqDiff, D8, LA, V30, C3, C2, CZ, CY, CW, CV, CU, CT, wN, CX, wM, C0, wL, wK, hs]
  have k1 : Kp (lw :: (29 :: q) :: labs xa) H (upd [(20 :: q, some (.rows 3 [[.int .i64 1, .int .i64 w.pos, .int .i64 c]]))] (upd [(20 :: q, some (.rows 3 [[.int .i64 0, .int .i64 0, .int .i64 0]]))] H)) := (Kp.refl.new (hf.at (by omega))).new (hf.at (by omega))
  have F1 : Fresh q 21 (upd [(20 :: q, some (.rows 3 [[.int .i64 1, .int .i64 w.pos, .int .i64 c]]))] (upd [(20 :: q, some (.rows 3 [[.int .i64 0, .int .i64 0, .int .i64 0]]))] H)) := (hf.upd (d := 21) (by omega) (by omega)).upd (by omega) (by omega)
  have a1 : Own (upd [(20 :: q, some (.rows 3 [[.int .i64 1, .int .i64 w.pos, .int .i64 c]]))] (upd [(20 :: q, some (.rows 3 [[.int .i64 0, .int .i64 0, .int .i64 0]]))] H)) xa 3 (w.acts.map bA) := (h.a.grow (hf.at (by omega))).store (h.a.out (hf.at (by omega)))
  have s1 : upd [(20 :: q, some (.rows 3 [[.int .i64 1, .int .i64 w.pos, .int .i64 c]]))] (upd [(20 :: q, some (.rows 3 [[.int .i64 0, .int .i64 0, .int .i64 0]]))] H) lw = some (.rows 4 [[il w.line, .int .i64 w.pos, il w.kill, xa]]) := by
    simp only [upd, if_neg (hlw _)]; exact hs
  have p1 : upd [(20 :: q, some (.rows 3 [[.int .i64 1, .int .i64 w.pos, .int .i64 c]]))] (upd [(20 :: q, some (.rows 3 [[.int .i64 0, .int .i64 0, .int .i64 0]]))] H) (20 :: q) = some (.rows 3 [[.int .i64 1, .int .i64 w.pos, .int .i64 c]]) := aK
  generalize upd [(20 :: q, some (.rows 3 [[.int .i64 1, .int .i64 w.pos, .int .i64 c]]))] (upd [(20 :: q, some (.rows 3 [[.int .i64 0, .int .i64 0, .int .i64 0]]))] H) = H1 at *
  simp (disch := omega) only [vsb, aE, reduceIte, AV.cells, putL, aC, Nat.reduceAdd, Nat.reduceDiv, Nat.reduceMod, AV.one, Nat.reduceLeDiff, Nat.reduceEqDiff, D8, LA, V30, C3, C2, CZ, CY, CW, CV, CU, CT, wN, CX, wM, C0, wL, wK, s1]
  refine zT a1 F1 (by omega) (by omega) (by decide) (by rw [List.length_map]; omega) (by rw [List.length_map]; omega) (fun x' H2 l2 f2 hx2 a2 F2 kb2 => ?_)
  have k2 := k1.push kb2 (fun l hl => .inl (by simp [hl]))
  have s2 := kb2 _ _ s1 (wZ a1 s1 (by decide))
  have p2 := kb2 _ _ p1 (HQ (h.a.out (hf.at (by omega))))
  subst hx2
  rw [List.length_map] at a2 ⊢
  simp (disch := omega) only [vsb, aE, reduceIte, AV.cells, putL, aC, Nat.reduceAdd, Nat.reduceDiv, Nat.reduceMod, AV.one, Nat.reduceLeDiff, Nat.reduceEqDiff, D8, LA, V30, C3, C2, CZ, CY, CW, CV, CU, CT, wN, CX, wM, C0, wL, wK, s2]
  refine ⟨(by (repeat' (first | exact cV | exact bB | refine cW ?_ ?_ | refine bC ?_ ?_)); all_goals (first | exact Or.inl rfl | exact Or.inl (by decide) | exact Or.inr ⟨by (simp (decide := true) [a6, hlw'] <;> assumption), by (simp (decide := true) [a6, hlw'] <;> assumption)⟩)), ?_⟩
  have k3 : Kp (lw :: (29 :: q) :: labs xa) H (upd [(lw, some (.rows 4 [[il w.line, .int .i64 w.pos, il w.kill, .sl (29 :: q) 3 0 (w.acts.length + 1)]]))] H2) := k2.old (by simp)
  have a3 : Own (upd [(lw, some (.rows 4 [[il w.line, .int .i64 w.pos, il w.kill, .sl (29 :: q) 3 0 (w.acts.length + 1)]]))] H2) (.sl (29 :: q) 3 0 (w.acts.length + 1)) 3 (w.acts.map bA ++ [[.int .i64 1, .int .i64 w.pos, .int .i64 c]]) := a2.store (by simp [labs, hlw])
  have s3 : upd [(lw, some (.rows 4 [[il w.line, .int .i64 w.pos, il w.kill, .sl (29 :: q) 3 0 (w.acts.length + 1)]]))] H2 lw = some (.rows 4 [[il w.line, .int .i64 w.pos, il w.kill, .sl (29 :: q) 3 0 (w.acts.length + 1)]]) := aK
  have p3 : upd [(lw, some (.rows 4 [[il w.line, .int .i64 w.pos, il w.kill, .sl (29 :: q) 3 0 (w.acts.length + 1)]]))] H2 (20 :: q) = some (.rows 3 [[.int .i64 1, .int .i64 w.pos, .int .i64 c]]) := by
    simp only [upd, if_neg (hlw' 20)]; exact p2
  generalize upd [(lw, some (.rows 4 [[il w.line, .int .i64 w.pos, il w.kill, .sl (29 :: q) 3 0 (w.acts.length + 1)]]))] H2 = H3 at *
  simp (disch := omega) only [vsb, aE, reduceIte, AV.cells, putL, aC, Nat.reduceAdd, Nat.reduceDiv, Nat.reduceMod, AV.one, Nat.reduceLeDiff, Nat.reduceEqDiff, D8, LA, V30, C3, C2, CZ, CY, CW, CV, CU, CT, wN, CX, wM, C0, wL, wK, s3, p3]
  have hap : gH w.line [(1, (w.pos : Int), c)] = some (xK w.line w.pos c) := by
    simp only [gH, rE]
    rw [if_neg (by omega), if_pos trivial, Int.toNat_natCast]; rfl
  have hpure := zP w.line [(1, (w.pos : Int), c)] hl (by simp)
  rw [hap] at hpure
  refine cB (NI (ls := [39 :: q]) hpure (.cons (.refl _) (.cons (Fr.rows (rows := [bA (1, (w.pos : Int), c)]) (by simp [upd]) aK (by simp [sY, bA, AV.one]) rfl) .nil)) (by simp [upd])) ?_
  have k4 : Kp (lw :: (29 :: q) :: labs xa) H (upd [(39 :: q, none)] (upd [(39 :: q, some (.rows 3 [[.int .i64 1, .int .i64 w.pos, .int .i64 c]]))] H3)) := (k3.new (hf.at (by omega))).new (hf.at (by omega))
  have a4 : Own (upd [(39 :: q, none)] (upd [(39 :: q, some (.rows 3 [[.int .i64 1, .int .i64 w.pos, .int .i64 c]]))] H3)) (.sl (29 :: q) 3 0 (w.acts.length + 1)) 3 (w.acts.map bA ++ [[.int .i64 1, .int .i64 w.pos, .int .i64 c]]) := (a3.store (by simp [labs])).store (by simp [labs])
  have s4 : upd [(39 :: q, none)] (upd [(39 :: q, some (.rows 3 [[.int .i64 1, .int .i64 w.pos, .int .i64 c]]))] H3) lw = some (.rows 4 [[il w.line, .int .i64 w.pos, il w.kill, .sl (29 :: q) 3 0 (w.acts.length + 1)]]) := by
    simp only [upd, if_neg (hlw 39)]; exact s3
  simp only [List.map_cons, List.map_nil, OK]
  generalize upd [(39 :: q, none)] (upd [(39 :: q, some (.rows 3 [[.int .i64 1, .int .i64 w.pos, .int .i64 c]]))] H3) = H4 at *
  simp (disch := omega) only [vsb, aE, reduceIte, AV.cells, putL, aC, Nat.reduceAdd, Nat.reduceDiv, Nat.reduceMod, AV.one, Nat.reduceLeDiff, Nat.reduceEqDiff, D8, LA, V30, C3, C2, CZ, CY, CW, CV, CU, CT, wN, CX, wM, C0, wL, wK, s4]
  refine ⟨(by (repeat' (first | exact cV | exact bB | refine cW ?_ ?_ | refine bC ?_ ?_)); all_goals (first | exact Or.inl rfl | exact Or.inl (by decide) | exact Or.inr ⟨by (simp (decide := true) [a6, hlw'] <;> assumption), by (simp (decide := true) [a6, hlw'] <;> assumption)⟩)), ?_⟩
  have e1 : (w.acts.map bA ++ [[AV.int .i64 1, .int .i64 w.pos, .int .i64 c]]) = (mN w c).acts.map bA := by simp [mN, hb, bA]
  rw [e1] at a4
  refine LF (ls := lw :: (29 :: q) :: labs xa) (.inr rfl) rfl (fun l hl => ?_) ((k4.old (by simp)).old (by simp)) (fun u h1 h2 _ => ⟨⟨by rw [hb], .sl (29 :: q) 3 0 (w.acts.length + 1), ⟨h1 _ _ ?_ (.inl (by simp)), ?_⟩⟩, .refl _⟩)
  · exact rw_in h hl
  · rw [aK]; simp [mN, hb]
  · refine (((a4.store (by simp [labs, hlw])).store (by simp [labs, hlw]))).keep (fun lab o hl ho => h1 lab o ho (.inl ?_))
    simp only [labs, List.mem_singleton] at hl
    simp [hl]
def rG (l : List Int) (f j : Nat) : List Int := l.take f ++ l.drop (f + j)
theorem lineC_len {l : List Int} {f j : Nat} (h : f + j ≤ l.length) : (rG l f j).length = l.length - j := by simp [rG]; omega
theorem lineC_nth {l : List Int} {f j : Nat} (h : f + j < l.length) : nth (rG l f j) f = nth l (f + j) := by
  unfold nth rG
  simp only [List.getD_eq_getElem?_getD]
  rw [List.getElem?_append_right (by simp; omega)]
  simp only [List.length_take, List.getElem?_drop]
  congr 2; omega
theorem lineC_del {l : List Int} {f j : Nat} (h : f + j < l.length) : vG (rG l f j) f = rG l f (j + 1) := by
  have hf : (l.take f).length = f := by simp; omega
  unfold vG rG
  rw [List.take_append_of_le_length (by omega), List.take_of_length_le (by omega), List.drop_append, List.drop_of_length_le (by omega), List.nil_append, hf, List.drop_drop]
  congr 2; omega
theorem xZ {H : aB} {q lw : Lab} {xa : AV} {w : Wk} (h : RW H lw xa w) (hf : Fresh q 0 H) (f t : Nat) (hft : f ≤ t) (ht : t ≤ w.line.length) (hl : w.line.length ≤ 1000000) (ha : w.acts.length ≤ 1000000) :
    SoundE Try.prog 58 [.ptr lw 4 0 0, .int .i64 f, .int .i64 t] H q (fun y u => y = il (jV w f t) ∧ ∃ xa', RW (upd u H) lw xa' (mH w f t)) := by
  refine cC Try.mixed ok58 rfl ?_
  have hs := h.s
  have hlw : ∀ k, lw ≠ k :: q := fun k e => by rw [e, hf.at (Nat.zero_le _)] at hs; cases hs
  have hlw' : ∀ k, ¬ (k :: q = lw) := fun k e => hlw k e.symm
  simp only [params, Nat.zero_add, Nat.reduceAdd]
  simp (disch := omega) only [vsb, aE, reduceIte, AV.cells, putL, aC, Nat.reduceAdd, Nat.reduceDiv, Nat.reduceMod, AV.one, Nat.reduceLeDiff, Nat.reduceEqDiff, D7, oQ, q8, K9, xR, xQ, V58, DC, DB, CR, CQ, CP, CO, CN, CM, CS, CL, CJ, CI, wJ, wI, hs]
  refine qH (fun m r G c => ∃ (j : Nat) (xg xb : AV), r = [(0, .ptr lw 4 0 0), (1, .int .i64 f), (2, .int .i64 t), (7, xg), (8, .int .i64 (f + j : Nat))] ∧ f + j ≤ t ∧ m = t - f - j ∧
    G lw = some (.rows 4 [[il (rG w.line f j), .int .i64 w.pos, il w.kill, xb]]) ∧ Own G xb 3 ((w.acts ++ (jV w f (f + j)).map fun c => (2, (f : Int), c)).map bA) ∧ Own G xg 1 ((jV w f (f + j)).map aE) ∧ Fresh q c G ∧ Kp (lw :: labs xa) H G ∧ (∀ l ∈ labs xb, l ∈ labs xa ∨ (H l = none ∧ Under q l)) ∧ ∀ l ∈ labs xg, H l = none) (t - f) ⟨0, .nils, xa, rfl, hft, rfl, ?_, ?_, ?_, ?_, .refl, fun l hl => .inl hl, fun l hl => by cases hl⟩ ?_
  · simpa [rG] using hs
  · simpa [jV] using h.a
  · simpa [jV] using Own.nils
  · exact hf.mono (by omega)
  rintro m r G c ⟨j, xg, xb, rfl, hj, rfl, sG, aG, gG, fG, kG, bG, ngG⟩
  simp (disch := omega) only [vsb, aE, reduceIte, AV.cells, putL, aC, Nat.reduceAdd, Nat.reduceDiv, Nat.reduceMod, AV.one, Nat.reduceLeDiff, Nat.reduceEqDiff, D7, oQ, q8, K9, xR, xQ, V58, DC, DB, CR, CQ, CP, CO, CN, CM, CS, CL, CJ, CI, wJ, wI]
  refine aY (fun hlt => ?_) (fun hge => ?_)
  · have hjt : f + j < t := by omega
    have hlen := @lineC_len w.line f j (by omega)
    simp (disch := omega) only [vsb, aE, reduceIte, AV.cells, putL, aC, Nat.reduceAdd, Nat.reduceDiv, Nat.reduceMod, AV.one, Nat.reduceLeDiff, Nat.reduceEqDiff, D7, oQ, q8, K9, xR, xQ, V58, DC, DB, CR, CQ, CP, CO, CN, CM, CS, CL, CJ, CI, wJ, wI, sG]
    rw [lineC_nth (by omega)]
    have glen : (jV w f (f + j)).length = j := by rw [EV (by omega) (by omega)]; omega
    have gsucc : jV w f (f + (j + 1)) = jV w f (f + j) ++ [nth w.line (f + j)] := by
      unfold jV
      rw [show f + (j + 1) - f = j + 1 by omega, show f + j - f = j by omega, CE (by simp; omega)]
      congr 1
      unfold nth; simp [List.getD_eq_getElem?_getD]
    have eB : (w.acts ++ (jV w f (f + j)).map fun c => (2, (f : Int), c)).map bA ++ [[.int .i64 2, .int .i64 f, .int .i64 (nth w.line (f + j))]] = (w.acts ++ (jV w f (f + (j + 1))).map fun c => (2, (f : Int), c)).map bA := by rw [gsucc]; simp [bA]
    have eG : (jV w f (f + j)).map aE ++ [[.int .i64 (nth w.line (f + j))]] = (jV w f (f + (j + 1))).map aE := by rw [gsucc]; simp [aE]
    have lB : ((w.acts ++ (jV w f (f + j)).map fun c => (2, (f : Int), c)).map bA).length = w.acts.length + j := by simp [glen]
    have lG : ((jV w f (f + j)).map aE).length = j := by simp [glen]
    generalize (w.acts ++ (jV w f (f + j)).map fun c => (2, (f : Int), c)).map bA = RB at aG eB lB
    generalize (jV w f (f + j)).map aE = RG at gG eG lG
    generalize hG1 : upd [((c + 3 + 10) :: q, _)] (upd [((c + 3 + 10) :: q, _)] G) = G1
    have fr : ∀ k, H (k :: q) = none := fun k => hf.at (Nat.zero_le _)
    have hn : G ((c + 3 + 10) :: q) = none := fG.at (by omega)
    have k1 : Kp (lw :: labs xa) H G1 := by subst hG1; exact (kG.new (fr _)).new (fr _)
    have F1 : Fresh q (c + 14) G1 := by subst hG1; exact (fG.upd (d := c + 14) (by omega) (by omega)).more (by omega)
    have a1 : Own G1 xb 3 RB := by subst hG1; exact (aG.grow hn).store (aG.out hn)
    have g1 : Own G1 xg 1 RG := by subst hG1; exact (gG.grow hn).store (gG.out hn)
    have s1 : G1 lw = some (.rows 4 [[il (rG w.line f j), .int .i64 w.pos, il w.kill, xb]]) := by subst hG1; simp only [upd, if_neg (hlw _)]; exact sG
    have p1 : G1 ((c + 3 + 10) :: q) = some (.rows 3 [[.int .i64 2, .int .i64 f, .int .i64 (nth w.line (f + j))]]) := by subst hG1; exact aK
    refine zT g1 F1 (by omega) (by omega) (by decide) (by omega) (by omega) (fun x2 G2 l2 f2 hx2 g2 F2 kb2 => ?_)
    have k2 := k1.push kb2 (fun l hl => .inr (ngG l hl))
    have s2 := kb2 _ _ s1 (HQ (g1.ne s1 (by decide)))
    have p2 := kb2 _ _ p1 (HQ (gG.out hn))
    have a2 : Own G2 xb 3 RB := a1.keep fun lab o hl ho => kb2 _ _ ho (HQ (g1.ne (a1.lab hl) (by decide)))
    have n2 : ∀ l ∈ labs x2, H l = none := fun l hl => by
      subst hx2; simp only [labs, List.mem_singleton] at hl; rw [hl]; exact fr _
    simp (disch := omega) only [vsb, aE, reduceIte, AV.cells, putL, aC, Nat.reduceAdd, Nat.reduceDiv, Nat.reduceMod, AV.one, Nat.reduceLeDiff, Nat.reduceEqDiff, D7, oQ, q8, K9, xR, xQ, V58, DC, DB, CR, CQ, CP, CO, CN, CM, CS, CL, CJ, CI, wJ, wI, s2, p2]
    refine zT a2 F2 (by omega) (by omega) (by decide) (by omega) (by omega) (fun x3 G3 l3 f3 hx3 a3 F3 kb3 => ?_)
    have k3 := k2.push kb3 (fun l hl => (bG l hl).elim (fun h => .inl (by simp [h])) (fun h => .inr h.1))
    have s3 := kb3 _ _ s2 (HQ (a2.ne s2 (by decide)))
    have p3 := kb3 _ _ p2 (HQ (aG.out hn))
    have g3 : Own G3 x2 1 _ := g2.keep fun lab o hl ho => kb3 _ _ ho (HQ (a2.ne (g2.lab hl) (by decide)))
    have n3 : ∀ l ∈ labs x3, H l = none ∧ Under q l := fun l hl => by
      subst hx3; simp only [labs, List.mem_singleton] at hl; rw [hl]; exact ⟨fr _, ⟨[_], rfl⟩⟩
    subst hx3
    simp (disch := omega) only [vsb, aE, reduceIte, AV.cells, putL, aC, Nat.reduceAdd, Nat.reduceDiv, Nat.reduceMod, AV.one, Nat.reduceLeDiff, Nat.reduceEqDiff, D7, oQ, q8, K9, xR, xQ, V58, DC, DB, CR, CQ, CP, CO, CN, CM, CS, CL, CJ, CI, wJ, wI, s3]
    refine ⟨(by (repeat' (first | exact cV | exact bB | refine cW ?_ ?_ | refine bC ?_ ?_)); all_goals (first | exact Or.inl rfl | exact Or.inl (by decide) | exact Or.inr ⟨by (simp (decide := true) [a6, hlw'] <;> assumption), by (simp (decide := true) [a6, hlw'] <;> assumption)⟩)), ?_⟩
    rw [eB] at a3
    rw [eG] at g3
    generalize hG4 : upd [(lw, _)] G3 = G4
    have s4 : G4 lw = some (.rows 4 [[il (rG w.line f j), .int .i64 w.pos, il w.kill, .sl ((c + 3 + 25) :: q) 3 0 (RB.length + 1)]]) := by subst hG4; exact aK
    have p4 : G4 ((c + 3 + 10) :: q) = some (.rows 3 [[.int .i64 2, .int .i64 f, .int .i64 (nth w.line (f + j))]]) := by subst hG4; simp only [upd, if_neg (hlw' _)]; exact p3
    have k4 : Kp (lw :: labs xa) H G4 := by subst hG4; exact k3.old (by simp)
    have a4 : Own G4 (.sl ((c + 3 + 25) :: q) 3 0 (RB.length + 1)) 3 ((w.acts ++ (jV w f (f + (j + 1))).map fun c => (2, (f : Int), c)).map bA) := by subst hG4; exact a3.store (by simp [labs, hlw])
    have g4 : Own G4 x2 1 ((jV w f (f + (j + 1))).map aE) := by subst hG4; exact g3.store (g3.ne s3 (by decide))
    have F4 : Fresh q (c + 3 + 25 + 1) G4 := by subst hG4; exact F3.over s3
    simp (disch := omega) only [vsb, aE, reduceIte, AV.cells, putL, aC, Nat.reduceAdd, Nat.reduceDiv, Nat.reduceMod, AV.one, Nat.reduceLeDiff, Nat.reduceEqDiff, D7, oQ, q8, K9, xR, xQ, V58, DC, DB, CR, CQ, CP, CO, CN, CM, CS, CL, CJ, CI, wJ, wI, s4, p4]
    have hap : gH (rG w.line f j) [(2, (f : Int), nth w.line (f + j))] = some (rG w.line f (j + 1)) := by
      simp only [gH, rE]
      rw [if_neg (by omega), if_neg (by omega), if_pos ⟨trivial, by omega⟩, Int.toNat_natCast, lineC_del (by omega)]; rfl
    have hpure := zP (rG w.line f j) [(2, (f : Int), nth w.line (f + j))] (by omega) (by simp)
    rw [hap] at hpure
    refine cB (NI (ls := [(c + 3 + 35) :: q]) hpure (.cons (.refl _) (.cons (Fr.rows (rows := [bA (2, (f : Int), nth w.line (f + j))]) (by simp [upd]) aK (by simp [sY, bA, AV.one]) rfl) .nil)) (by simp [upd])) ?_
    simp only [List.map_cons, List.map_nil, OK]
    generalize hG5 : upd [((c + 3 + 35) :: q, none)] (upd [((c + 3 + 35) :: q, _)] G4) = G5
    have s5 : G5 lw = some (.rows 4 [[il (rG w.line f j), .int .i64 w.pos, il w.kill, .sl ((c + 3 + 25) :: q) 3 0 (RB.length + 1)]]) := by subst hG5; simp only [upd, if_neg (hlw _)]; exact s4
    have k5 : Kp (lw :: labs xa) H G5 := by subst hG5; exact (k4.new (fr _)).new (fr _)
    have a5 : Own G5 (.sl ((c + 3 + 25) :: q) 3 0 (RB.length + 1)) 3 ((w.acts ++ (jV w f (f + (j + 1))).map fun c => (2, (f : Int), c)).map bA) := by subst hG5; exact (a4.store (by simp [labs])).store (by simp [labs])
    have g5 : Own G5 x2 1 ((jV w f (f + (j + 1))).map aE) := by subst hG5; subst hx2; exact (g4.store (by simp [labs])).store (by simp [labs])
    have F5 : Fresh q (c + 3 + 35 + 1) G5 := by subst hG5; exact (F4.upd (d := c + 3 + 35 + 1) (by omega) (by omega)).more (by omega)
    simp (disch := omega) only [vsb, aE, reduceIte, AV.cells, putL, aC, Nat.reduceAdd, Nat.reduceDiv, Nat.reduceMod, AV.one, Nat.reduceLeDiff, Nat.reduceEqDiff, D7, oQ, q8, K9, xR, xQ, V58, DC, DB, CR, CQ, CP, CO, CN, CM, CS, CL, CJ, CI, wJ, wI, s5]
    refine ⟨(by (repeat' (first | exact cV | exact bB | refine cW ?_ ?_ | refine bC ?_ ?_)); all_goals (first | exact Or.inl rfl | exact Or.inl (by decide) | exact Or.inr ⟨by (simp (decide := true) [a6, hlw'] <;> assumption), by (simp (decide := true) [a6, hlw'] <;> assumption)⟩)), ?_⟩
    refine w7 (t - f - (j + 1)) (by omega) ⟨j + 1, x2, .sl ((c + 3 + 25) :: q) 3 0 (RB.length + 1), ?_, by omega, by omega, aK, a5.store (by simp [labs, hlw]), g5.store (g5.ne s5 (by decide)), ?_, k5.old (by simp), fun l hl => .inr (n3 l hl), n2⟩
    · rw [show ((f + (j + 1) : Nat) : Int) = ((f + j : Nat) : Int) + 1 by omega]; rfl
    · exact (F5.over s5).mono (by omega)
  · obtain rfl : t = f + j := by omega
    have h1 : ∀ l ∈ lw :: (labs xb ++ labs xa), H l ≠ none ∨ Under q l := fun l hl => by
      simp only [List.mem_cons, List.mem_append] at hl
      have hxa : l ∈ labs xa → H l ≠ none ∨ Under q l := fun hl => .inl (by rw [h.a.lab hl]; simp)
      rcases hl with rfl | hl | hl
      · exact .inl (by rw [hs]; simp)
      · exact (bG l hl).elim hxa (fun h => .inr h.2)
      · exact hxa hl
    have gout : ∀ l ∈ labs xg, l ∉ lw :: (labs xb ++ labs xa) := fun l hl hm => by
      simp only [List.mem_cons, List.mem_append] at hm
      rcases hm with rfl | hm | hm
      · exact gG.ne sG (by decide) hl
      · exact gG.ne (aG.lab hm) (by decide) hl
      · have := ngG l hl; rw [h.a.lab hm] at this; cases this
    have kE : Kp (lw :: (labs xb ++ labs xa)) H G := kG.mono (by simp; intro l hl; simp [hl])
    refine aY (fun h0 => ?_) (fun h0 => ?_)
    · simp (disch := omega) only [vsb, aE, reduceIte, AV.cells, putL, aC, Nat.reduceAdd, Nat.reduceDiv, Nat.reduceMod, AV.one, Nat.reduceLeDiff, Nat.reduceEqDiff, D7, oQ, q8, K9, xR, xQ, V58, DC, DB, CR, CQ, CP, CO, CN, CM, CS, CL, CJ, CI, wJ, wI, sG]
      have gE : Own (upd [(lw, some (.rows 4 [[il (rG w.line f j), .int .i64 f, il w.kill, xb]]))] G) xg 1 ((jV w f (f + j)).map aE) := gG.store (gG.ne sG (by decide))
      refine LF (ls := lw :: (labs xb ++ labs xa)) (.inr rfl) (x := xg) (y := il (jV w f (f + j))) rfl h1 (kE.old (by simp)) (fun u h2 h3 h4 => ⟨⟨rfl, xb, ⟨?_, ?_⟩⟩, ?_⟩)
      · refine h2 _ _ ?_ (.inl (by simp))
        rw [aK]; simp [mH, rG, show f < f + j by omega]
      · rw [mH, if_pos (by omega)]
        exact (aG.store (aG.ne sG (by decide))).keep fun lab o hl ho => h2 lab o ho (.inl (by simp [hl]))
      · exact Fr.own_at gE (fun l hl => ⟨by rw [h4 l (gout l hl)]; exact ngG l hl, by rw [gE.lab hl]; simp⟩) j7
    · simp (disch := omega) only [vsb, aE, reduceIte, AV.cells, putL, aC, Nat.reduceAdd, Nat.reduceDiv, Nat.reduceMod, AV.one, Nat.reduceLeDiff, Nat.reduceEqDiff, D7, oQ, q8, K9, xR, xQ, V58, DC, DB, CR, CQ, CP, CO, CN, CM, CS, CL, CJ, CI, wJ, wI, sG]
      obtain rfl : j = 0 := by omega
      refine LF (ls := lw :: (labs xb ++ labs xa)) (.inr rfl) (x := xg) (y := il (jV w f (f + 0))) rfl h1 kE (fun u h2 h3 h4 => ⟨⟨rfl, xb, ⟨?_, ?_⟩⟩, ?_⟩)
      · refine h2 _ _ ?_ (.inl (by simp))
        rw [sG]; simp [mH, rG]
      · rw [mH, if_neg (by omega)]
        have aG' : Own G xb 3 (w.acts.map bA) := by simpa [jV] using aG
        exact aG'.keep fun lab o hl ho => h2 lab o ho (.inl (by simp [hl]))
      · exact Fr.own_at gG (fun l hl => ⟨by rw [h4 l (gout l hl)]; exact ngG l hl, by rw [gG.lab hl]; simp⟩) j7
end Go.Proofs.Ytbngfbpegdcpkaa
/-! The document's answer for layer 18: kill, swap, what keys do. -/
namespace Go.Proofs.Ytbngfbpegdcpkaa
set_option linter.unusedVariables false
set_option linter.unusedSimpArgs false
set_option maxRecDepth 100000
def WS (H : aB) (lw : Lab) (w' : Wk) : AV → Chg → Prop := fun _ u => ∃ xa', RW (upd u H) lw xa' w'
theorem jQ {H : aB} {q : Lab} {lw : Lab} {u : Chg} {w' : Wk} {e : AEx} (he : e = .normal ∨ e = .ret) (hu : ∀ l, u.has l → H l ≠ none ∨ Under q l) (h : ∃ xa', RW (upd u H) lw xa' w') {c : Nat} {r : RL} : VRE q H [] (WS H lw w') e r (upd u H) c :=
  ⟨he, .tuple [], .tuple [], u, by simp [j1, iV], h, hu, .refl _, fun _ _ h => h⟩
theorem RW.at {H : aB} {lw : Lab} {xa : AV} {w : Wk} (h : RW H lw xa w) {p' : Int} (n : Nat) (hp : p' = n) : RW (upd [(lw, some (.rows 4 [[il w.line, .int .i64 p', il w.kill, xa]]))] H) lw xa { w with pos := n } :=
  ⟨by rw [aK, hp], h.a.store (h.a.ne h.s (by decide))⟩
theorem RW.kl {H : aB} {lw : Lab} {xa : AV} {w : Wk} (h : RW H lw xa w) (g : List Int) : RW (upd [(lw, some (.rows 4 [[il w.line, .int .i64 w.pos, il g, xa]]))] H) lw xa { w with kill := g } :=
  ⟨aK, h.a.store (h.a.ne h.s (by decide))⟩
theorem B3 {H : aB} {q lw : Lab} {o : Option AO} {o' : AO} (h : H lw = some o') : ∀ l, Chg.has [(lw, o)] l → H l ≠ none ∨ Under q l := fun l hl => .inl (by rw [cR hl, h]; simp)
theorem r6 {H : aB} {q lw : Lab} {xa : AV} {w : Wk} (h : RW H lw xa w) (hf : Fresh q 0 H) (f t : Nat) (hft : f ≤ t) (ht : t ≤ w.line.length) (hl : w.line.length ≤ 1000000) (ha : w.acts.length ≤ 1000000) :
    SoundE Try.prog 32 [.ptr lw 4 0 0, .int .i64 f, .int .i64 t] H q (WS H lw (kX w f t)) := by
  refine cC Try.mixed ok32 rfl ?_
  simp only [params, Nat.zero_add, Nat.reduceAdd]
  simp (disch := omega) only [vsb, aE, reduceIte, AV.cells, putL, aC, Nat.reduceAdd, Nat.reduceDiv, Nat.reduceMod, AV.one, Nat.reduceLeDiff, Nat.reduceEqDiff, Q8, Z2, V32, P0, PZ, PY]
  refine m6 (xZ h ((hf.mono (by omega)).callee) f t hft ht hl ha) (hf.mono (by omega)) (fun x u hx hu hf2 => ?_)
  obtain ⟨rfl, xa2, h2⟩ := hx
  have hs := h2.s
  have hg := EV hft ht
  simp (disch := omega) only [vsb, aE, reduceIte, AV.cells, putL, aC, Nat.reduceAdd, Nat.reduceDiv, Nat.reduceMod, AV.one, Nat.reduceLeDiff, Nat.reduceEqDiff, Q8, Z2, V32, P0, PZ, PY, hs]
  refine aY (fun hpos => ?_) (fun hz => ?_)
  · simp (disch := omega) only [vsb, aE, reduceIte, AV.cells, putL, aC, Nat.reduceAdd, Nat.reduceDiv, Nat.reduceMod, AV.one, Nat.reduceLeDiff, Nat.reduceEqDiff, Q8, Z2, V32, P0, PZ, PY, hs]
    rw [← upd_app]
    refine jQ (.inl rfl) (tA hu (B3 hs)) ⟨xa2, ?_⟩
    rw [upd_app, kX, if_pos (by omega)]
    exact h2.kl _
  · refine jQ (.inl rfl) hu ⟨xa2, ?_⟩
    rw [kX, if_neg (by omega)]
    rwa [mH, if_neg (by omega)] at h2
theorem v_ix0 {k : IntKind} {l : List Int} {K : AV → Prop} (h : 0 < l.length) : vIx 1 (il l) (.int k 0) K = K (.iptr 1 (l.map aE) 0 0) := by
  have e : nH 1 (il l) (.int k 0) = some (.iptr 1 (l.map aE) 0 0) := by simp [nH, il, h]
  simp [vIx, e]
theorem rswap_sound {H : aB} {q lw : Lab} {xa : AV} {w : Wk} (h : RW H lw xa w) (hf : Fresh q 0 H) (hp : w.pos ≤ w.line.length) (hl : w.line.length ≤ 1000000) (ha : w.acts.length ≤ 100000) :
    SoundE Try.prog 59 [.ptr lw 4 0 0] H q (WS H lw (oU w)) := by
  refine cC Try.mixed ok59 rfl ?_
  have hs := h.s
  have stay : ∀ {r : RL} {c : Nat}, oU w = w → VRE q H [] (WS H lw (oU w)) .ret r H c := fun {r c} e =>
    jQ (u := []) (.inr rfl) (fun l hl => absurd hl (aS l)) ⟨xa, by rw [e]; exact h⟩
  simp only [params, Nat.zero_add, Nat.reduceAdd]
  simp (disch := omega) only [vsb, aE, reduceIte, AV.cells, putL, aC, Nat.reduceAdd, Nat.reduceDiv, Nat.reduceMod, AV.one, Nat.reduceLeDiff, Nat.reduceEqDiff, CG, IY, V59, A4, A3, A0, AZ, AW, AU, AX, t0, AY, tZ, tY, A1, tX, A2, tW, hs]
  refine aY (fun hshort => ?_) (fun hlong => ?_)
  · simp (disch := omega) only [vsb, aE, reduceIte, AV.cells, putL, aC, Nat.reduceAdd, Nat.reduceDiv, Nat.reduceMod, AV.one, Nat.reduceLeDiff, Nat.reduceEqDiff, CG, IY, V59, A4, A3, A0, AZ, AW, AU, AX, t0, AY, tZ, tY, A1, tX, A2, tW, hs]
    exact stay (by unfold oU; rw [if_pos (.inl (by omega))])
  simp (disch := omega) only [vsb, aE, reduceIte, AV.cells, putL, aC, Nat.reduceAdd, Nat.reduceDiv, Nat.reduceMod, AV.one, Nat.reduceLeDiff, Nat.reduceEqDiff, CG, IY, V59, A4, A3, A0, AZ, AW, AU, AX, t0, AY, tZ, tY, A1, tX, A2, tW, hs]
  refine aY (fun hz => ?_) (fun hnz => ?_)
  · exact stay (by unfold oU; rw [if_pos (.inr (by omega))])
  simp (disch := omega) only [vsb, aE, reduceIte, AV.cells, putL, aC, Nat.reduceAdd, Nat.reduceDiv, Nat.reduceMod, AV.one, Nat.reduceLeDiff, Nat.reduceEqDiff, CG, IY, V59, A4, A3, A0, AZ, AW, AU, AX, t0, AY, tZ, tY, A1, tX, A2, tW, hs]
  obtain ⟨m, hm, hm1⟩ : ∃ m, m = Min.min w.pos (w.line.length - 1) ∧ Min.min (w.pos : Int) ((w.line.length : Int) - 1) = (m : Int) := ⟨_, rfl, by omega⟩
  rw [hm1]
  have hsw : oU w = if 1000 < w.line.length ∨ yP (nth w.line (m - 1)) = false then w else mN { mH w (m - 1) m with pos := m } (nth w.line (m - 1)) := by
    unfold oU; rw [if_neg (by omega), ← hm]
  refine aY (fun hbig => ?_) (fun hfit => ?_)
  · simp (disch := omega) only [vsb, aE, reduceIte, AV.cells, putL, aC, Nat.reduceAdd, Nat.reduceDiv, Nat.reduceMod, AV.one, Nat.reduceLeDiff, Nat.reduceEqDiff, CG, IY, V59, A4, A3, A0, AZ, AW, AU, AX, t0, AY, tZ, tY, A1, tX, A2, tW, hs]
    exact stay (by rw [hsw, if_pos (.inl (by omega))])
  obtain ⟨m1, rfl⟩ : ∃ m1, m = m1 + 1 := ⟨m - 1, by omega⟩
  have em : ((m1 + 1 : Nat) : Int) - 1 = (m1 : Nat) := by omega
  simp (disch := omega) only [vsb, aE, reduceIte, AV.cells, putL, aC, Nat.reduceAdd, Nat.reduceDiv, Nat.reduceMod, AV.one, Nat.reduceLeDiff, Nat.reduceEqDiff, CG, IY, V59, A4, A3, A0, AZ, AW, AU, AX, t0, AY, tZ, tY, A1, tX, A2, tW, hs, em]
  rw [Nat.add_sub_cancel] at hsw
  refine aO (HI _) ?_
  cases hr : yP (nth w.line m1)
  · simp (disch := omega) only [vsb, aE, reduceIte, AV.cells, putL, aC, Nat.reduceAdd, Nat.reduceDiv, Nat.reduceMod, AV.one, Nat.reduceLeDiff, Nat.reduceEqDiff, CG, IY, V59, A4, A3, A0, AZ, AW, AU, AX, t0, AY, tZ, tY, A1, tX, A2, tW]
    exact stay (by rw [hsw, if_pos (.inr hr)])
  simp (disch := omega) only [vsb, aE, reduceIte, AV.cells, putL, aC, Nat.reduceAdd, Nat.reduceDiv, Nat.reduceMod, AV.one, Nat.reduceLeDiff, Nat.reduceEqDiff, CG, IY, V59, A4, A3, A0, AZ, AW, AU, AX, t0, AY, tZ, tY, A1, tX, A2, tW, em]
  have hg : jV w m1 (m1 + 1) = [nth w.line m1] := by
    rw [jV, Nat.add_sub_cancel_left, EU (by omega)]; rfl
  have hcw : mH w m1 (m1 + 1) = ⟨w.line.take m1 ++ w.line.drop (m1 + 1), m1, w.kill, w.acts ++ [(2, (m1 : Int), nth w.line m1)]⟩ := by rw [mH, if_pos (by omega), hg]; rfl
  refine m6 (xZ h ((hf.mono (by omega)).callee) m1 (m1 + 1) (by omega) (by omega) hl (by omega)) (hf.mono (by omega)) (fun x u hx hu hf2 => ?_)
  obtain ⟨rfl, xa2, h2⟩ := hx
  rw [hcw] at h2
  rw [hg]
  have hs2 := h2.s
  simp (disch := omega) only [vsb, aE, reduceIte, AV.cells, putL, aC, Nat.reduceAdd, Nat.reduceDiv, Nat.reduceMod, AV.one, Nat.reduceLeDiff, Nat.reduceEqDiff, CG, IY, V59, A4, A3, A0, AZ, AW, AU, AX, t0, AY, tZ, tY, A1, tX, A2, tW, hs2]
  rw [v_ix0 (by simp)]
  simp (disch := first | omega | (simp; done)) only [vsb, aE, reduceIte, AV.cells, putL, aC, Nat.reduceAdd, Nat.reduceDiv, Nat.reduceMod, AV.one, Nat.reduceLeDiff, Nat.reduceEqDiff, CG, IY, V59, A4, A3, A0, AZ, AW, AU, AX, t0, AY, tZ, tY, A1, tX, A2, tW]
  have e0 : nth [nth w.line m1] 0 = nth w.line m1 := rfl
  rw [e0]
  have hw2 := h2.at (m1 + 1) rfl
  refine m6 (DI hw2 (((hf2.over hs2).mono (by omega)).callee) (by simp; omega) (by simp; omega) (by simp; omega) (nth w.line m1)) ((hf2.over hs2).mono (by omega)) (fun x u2 hx hu2 hf3 => ?_)
  obtain ⟨rfl, xa3, h3⟩ := hx
  rw [← upd_app, ← upd_app, List.append_assoc] at h3 ⊢
  refine jQ (.inl rfl) (tA (tA hu (B3 hs2)) (by rw [upd_app]; exact hu2)) ⟨xa3, ?_⟩
  rw [hsw, if_neg (by rw [hr]; simp; omega), hcw]
  exact h3
theorem yank_split : ∀ {l : List Int} {w : Wk}, w.pos ≤ w.line.length → (mJ w l).pos ≤ (mJ w l).line.length
  | [], w, h => h
  | c :: l, w, h => by
    unfold mJ
    split
    · exact yank_split (EC h)
    · exact h
/-- what a key with Ctrl does, the document's -/
def jW (w : Wk) (c : Int) : Wk :=
  if c = 97 then { w with pos := 0 } else if c = 101 then { w with pos := w.line.length } else if c = 98 then { w with pos := w.pos - 1 } else if c = 102 then { w with pos := Min.min (w.pos + 1) w.line.length }
  else if c = 104 then mH w (w.pos - 1) w.pos else if c = 100 then mH w w.pos (Min.min (w.pos + 1) w.line.length) else if c = 107 then kX w w.pos w.line.length else if c = 117 then kX w 0 w.pos
  else if c = 119 then kX w (bK w.line w.pos).toNat w.pos else if c = 121 then mJ w w.kill else if c = 116 then oU w else w
theorem rctrl_sound {H : aB} {q lw : Lab} {xa : AV} {w : Wk} (h : RW H lw xa w) (hf : Fresh q 0 H) (hp : w.pos ≤ w.line.length) (hl : w.line.length ≤ 100000) (hk : w.kill.length ≤ 100000) (ha : w.acts.length ≤ 100000) (hI : ∀ k, k < w.line.length → -9223372036854775808 ≤ nth w.line k) (c : Int) :
    SoundE Try.prog 31 [.ptr lw 4 0 0, .int .i64 c] H q (WS H lw (jW w c)) := by
  refine cC Try.mixed ok31 rfl ?_
  have hs := h.s
  simp only [params, Nat.zero_add, Nat.reduceAdd]
  simp (disch := omega) only [vsb, aE, reduceIte, AV.cells, putL, aC, Nat.reduceAdd, Nat.reduceDiv, Nat.reduceMod, AV.one, Nat.reduceLeDiff, Nat.reduceEqDiff, mK, bD, bL, rH, iW, V31, mG, mF, mE, mC, mB, lZ, lY, lW, iM, iK, iJ, iH, iG, iD, iC, iA, hX, hY, hP, g9, g8, gZ, g7, gY, hB, gX, hZ, gW, iB, gV, iE, gU, iI, gT, iL, gS, lX, gR, mA, gQ, mD, gP, gN, gM, gL, gO, gK, hs]
  refine aY (fun h1 => ?_) (fun h1 => ?_)
  · simp (disch := omega) only [vsb, aE, reduceIte, AV.cells, putL, aC, Nat.reduceAdd, Nat.reduceDiv, Nat.reduceMod, AV.one, Nat.reduceLeDiff, Nat.reduceEqDiff, mK, bD, bL, rH, iW, V31, mG, mF, mE, mC, mB, lZ, lY, lW, iM, iK, iJ, iH, iG, iD, iC, iA, hX, hY, hP, g9, g8, gZ, g7, gY, hB, gX, hZ, gW, iB, gV, iE, gU, iI, gT, iL, gS, lX, gR, mA, gQ, mD, gP, gN, gM, gL, gO, gK, hs]
    refine jQ (u := [(lw, _)]) (.inl rfl) (B3 hs) ⟨xa, ?_⟩
    rw [jW, if_pos h1]
    exact h.at 0 rfl
  simp (disch := omega) only [vsb, aE, reduceIte, AV.cells, putL, aC, Nat.reduceAdd, Nat.reduceDiv, Nat.reduceMod, AV.one, Nat.reduceLeDiff, Nat.reduceEqDiff, mK, bD, bL, rH, iW, V31, mG, mF, mE, mC, mB, lZ, lY, lW, iM, iK, iJ, iH, iG, iD, iC, iA, hX, hY, hP, g9, g8, gZ, g7, gY, hB, gX, hZ, gW, iB, gV, iE, gU, iI, gT, iL, gS, lX, gR, mA, gQ, mD, gP, gN, gM, gL, gO, gK, hs]
  refine aY (fun h2 => ?_) (fun h2 => ?_)
  · simp (disch := omega) only [vsb, aE, reduceIte, AV.cells, putL, aC, Nat.reduceAdd, Nat.reduceDiv, Nat.reduceMod, AV.one, Nat.reduceLeDiff, Nat.reduceEqDiff, mK, bD, bL, rH, iW, V31, mG, mF, mE, mC, mB, lZ, lY, lW, iM, iK, iJ, iH, iG, iD, iC, iA, hX, hY, hP, g9, g8, gZ, g7, gY, hB, gX, hZ, gW, iB, gV, iE, gU, iI, gT, iL, gS, lX, gR, mA, gQ, mD, gP, gN, gM, gL, gO, gK, hs]
    refine jQ (u := [(lw, _)]) (.inl rfl) (B3 hs) ⟨xa, ?_⟩
    rw [jW, if_neg h1, if_pos h2]
    exact h.at _ rfl
  simp (disch := omega) only [vsb, aE, reduceIte, AV.cells, putL, aC, Nat.reduceAdd, Nat.reduceDiv, Nat.reduceMod, AV.one, Nat.reduceLeDiff, Nat.reduceEqDiff, mK, bD, bL, rH, iW, V31, mG, mF, mE, mC, mB, lZ, lY, lW, iM, iK, iJ, iH, iG, iD, iC, iA, hX, hY, hP, g9, g8, gZ, g7, gY, hB, gX, hZ, gW, iB, gV, iE, gU, iI, gT, iL, gS, lX, gR, mA, gQ, mD, gP, gN, gM, gL, gO, gK, hs]
  refine aY (fun h3 => ?_) (fun h3 => ?_)
  · simp (disch := omega) only [vsb, aE, reduceIte, AV.cells, putL, aC, Nat.reduceAdd, Nat.reduceDiv, Nat.reduceMod, AV.one, Nat.reduceLeDiff, Nat.reduceEqDiff, mK, bD, bL, rH, iW, V31, mG, mF, mE, mC, mB, lZ, lY, lW, iM, iK, iJ, iH, iG, iD, iC, iA, hX, hY, hP, g9, g8, gZ, g7, gY, hB, gX, hZ, gW, iB, gV, iE, gU, iI, gT, iL, gS, lX, gR, mA, gQ, mD, gP, gN, gM, gL, gO, gK, hs]
    refine jQ (u := [(lw, _)]) (.inl rfl) (B3 hs) ⟨xa, ?_⟩
    rw [jW, if_neg h1, if_neg h2, if_pos h3]
    exact h.at _ (by omega)
  simp (disch := omega) only [vsb, aE, reduceIte, AV.cells, putL, aC, Nat.reduceAdd, Nat.reduceDiv, Nat.reduceMod, AV.one, Nat.reduceLeDiff, Nat.reduceEqDiff, mK, bD, bL, rH, iW, V31, mG, mF, mE, mC, mB, lZ, lY, lW, iM, iK, iJ, iH, iG, iD, iC, iA, hX, hY, hP, g9, g8, gZ, g7, gY, hB, gX, hZ, gW, iB, gV, iE, gU, iI, gT, iL, gS, lX, gR, mA, gQ, mD, gP, gN, gM, gL, gO, gK, hs]
  refine aY (fun h4 => ?_) (fun h4 => ?_)
  · simp (disch := omega) only [vsb, aE, reduceIte, AV.cells, putL, aC, Nat.reduceAdd, Nat.reduceDiv, Nat.reduceMod, AV.one, Nat.reduceLeDiff, Nat.reduceEqDiff, mK, bD, bL, rH, iW, V31, mG, mF, mE, mC, mB, lZ, lY, lW, iM, iK, iJ, iH, iG, iD, iC, iA, hX, hY, hP, g9, g8, gZ, g7, gY, hB, gX, hZ, gW, iB, gV, iE, gU, iI, gT, iL, gS, lX, gR, mA, gQ, mD, gP, gN, gM, gL, gO, gK, hs]
    refine jQ (u := [(lw, _)]) (.inl rfl) (B3 hs) ⟨xa, ?_⟩
    rw [jW, if_neg h1, if_neg h2, if_neg h3, if_pos h4]
    exact h.at _ (by omega)
  simp (disch := omega) only [vsb, aE, reduceIte, AV.cells, putL, aC, Nat.reduceAdd, Nat.reduceDiv, Nat.reduceMod, AV.one, Nat.reduceLeDiff, Nat.reduceEqDiff, mK, bD, bL, rH, iW, V31, mG, mF, mE, mC, mB, lZ, lY, lW, iM, iK, iJ, iH, iG, iD, iC, iA, hX, hY, hP, g9, g8, gZ, g7, gY, hB, gX, hZ, gW, iB, gV, iE, gU, iI, gT, iL, gS, lX, gR, mA, gQ, mD, gP, gN, gM, gL, gO, gK, hs]
  refine aY (fun h5 => ?_) (fun h5 => ?_)
  · simp (disch := omega) only [vsb, aE, reduceIte, AV.cells, putL, aC, Nat.reduceAdd, Nat.reduceDiv, Nat.reduceMod, AV.one, Nat.reduceLeDiff, Nat.reduceEqDiff, mK, bD, bL, rH, iW, V31, mG, mF, mE, mC, mB, lZ, lY, lW, iM, iK, iJ, iH, iG, iD, iC, iA, hX, hY, hP, g9, g8, gZ, g7, gY, hB, gX, hZ, gW, iB, gV, iE, gU, iI, gT, iL, gS, lX, gR, mA, gQ, mD, gP, gN, gM, gL, gO, gK, hs]
    have e1 : Max.max ((w.pos : Int) - 1) 0 = ((w.pos - 1 : Nat) : Int) := by omega
    rw [e1]
    refine m6 (xZ h ((hf.mono (by omega)).callee) _ _ (by omega) hp (by omega) (by omega)) (hf.mono (by omega)) (fun x u hx hu hf2 => ?_)
    refine jQ (.inl rfl) hu ?_
    rw [jW, if_neg h1, if_neg h2, if_neg h3, if_neg h4, if_pos h5]
    exact hx.2
  simp (disch := omega) only [vsb, aE, reduceIte, AV.cells, putL, aC, Nat.reduceAdd, Nat.reduceDiv, Nat.reduceMod, AV.one, Nat.reduceLeDiff, Nat.reduceEqDiff, mK, bD, bL, rH, iW, V31, mG, mF, mE, mC, mB, lZ, lY, lW, iM, iK, iJ, iH, iG, iD, iC, iA, hX, hY, hP, g9, g8, gZ, g7, gY, hB, gX, hZ, gW, iB, gV, iE, gU, iI, gT, iL, gS, lX, gR, mA, gQ, mD, gP, gN, gM, gL, gO, gK, hs]
  refine aY (fun h6 => ?_) (fun h6 => ?_)
  · simp (disch := omega) only [vsb, aE, reduceIte, AV.cells, putL, aC, Nat.reduceAdd, Nat.reduceDiv, Nat.reduceMod, AV.one, Nat.reduceLeDiff, Nat.reduceEqDiff, mK, bD, bL, rH, iW, V31, mG, mF, mE, mC, mB, lZ, lY, lW, iM, iK, iJ, iH, iG, iD, iC, iA, hX, hY, hP, g9, g8, gZ, g7, gY, hB, gX, hZ, gW, iB, gV, iE, gU, iI, gT, iL, gS, lX, gR, mA, gQ, mD, gP, gN, gM, gL, gO, gK, hs]
    have e1 : Min.min ((w.pos : Int) + 1) w.line.length = ((Min.min (w.pos + 1) w.line.length : Nat) : Int) := by omega
    rw [e1]
    refine m6 (xZ h ((hf.mono (by omega)).callee) _ _ (by omega) (by omega) (by omega) (by omega)) (hf.mono (by omega)) (fun x u hx hu hf2 => ?_)
    refine jQ (.inl rfl) hu ?_
    rw [jW, if_neg h1, if_neg h2, if_neg h3, if_neg h4, if_neg h5, if_pos h6]
    exact hx.2
  simp (disch := omega) only [vsb, aE, reduceIte, AV.cells, putL, aC, Nat.reduceAdd, Nat.reduceDiv, Nat.reduceMod, AV.one, Nat.reduceLeDiff, Nat.reduceEqDiff, mK, bD, bL, rH, iW, V31, mG, mF, mE, mC, mB, lZ, lY, lW, iM, iK, iJ, iH, iG, iD, iC, iA, hX, hY, hP, g9, g8, gZ, g7, gY, hB, gX, hZ, gW, iB, gV, iE, gU, iI, gT, iL, gS, lX, gR, mA, gQ, mD, gP, gN, gM, gL, gO, gK, hs]
  refine aY (fun h7 => ?_) (fun h7 => ?_)
  · simp (disch := omega) only [vsb, aE, reduceIte, AV.cells, putL, aC, Nat.reduceAdd, Nat.reduceDiv, Nat.reduceMod, AV.one, Nat.reduceLeDiff, Nat.reduceEqDiff, mK, bD, bL, rH, iW, V31, mG, mF, mE, mC, mB, lZ, lY, lW, iM, iK, iJ, iH, iG, iD, iC, iA, hX, hY, hP, g9, g8, gZ, g7, gY, hB, gX, hZ, gW, iB, gV, iE, gU, iI, gT, iL, gS, lX, gR, mA, gQ, mD, gP, gN, gM, gL, gO, gK, hs]
    refine m6 (r6 h ((hf.mono (by omega)).callee) _ _ hp (by omega) (by omega) (by omega)) (hf.mono (by omega)) (fun x u hx hu hf2 => ?_)
    refine jQ (.inl rfl) hu ?_
    rw [jW, if_neg h1, if_neg h2, if_neg h3, if_neg h4, if_neg h5, if_neg h6, if_pos h7]
    exact hx
  simp (disch := omega) only [vsb, aE, reduceIte, AV.cells, putL, aC, Nat.reduceAdd, Nat.reduceDiv, Nat.reduceMod, AV.one, Nat.reduceLeDiff, Nat.reduceEqDiff, mK, bD, bL, rH, iW, V31, mG, mF, mE, mC, mB, lZ, lY, lW, iM, iK, iJ, iH, iG, iD, iC, iA, hX, hY, hP, g9, g8, gZ, g7, gY, hB, gX, hZ, gW, iB, gV, iE, gU, iI, gT, iL, gS, lX, gR, mA, gQ, mD, gP, gN, gM, gL, gO, gK, hs]
  refine aY (fun h8 => ?_) (fun h8 => ?_)
  · simp (disch := omega) only [vsb, aE, reduceIte, AV.cells, putL, aC, Nat.reduceAdd, Nat.reduceDiv, Nat.reduceMod, AV.one, Nat.reduceLeDiff, Nat.reduceEqDiff, mK, bD, bL, rH, iW, V31, mG, mF, mE, mC, mB, lZ, lY, lW, iM, iK, iJ, iH, iG, iD, iC, iA, hX, hY, hP, g9, g8, gZ, g7, gY, hB, gX, hZ, gW, iB, gV, iE, gU, iI, gT, iL, gS, lX, gR, mA, gQ, mD, gP, gN, gM, gL, gO, gK, hs]
    refine m6 (r6 h ((hf.mono (by omega)).callee) 0 _ (by omega) hp (by omega) (by omega)) (hf.mono (by omega)) (fun x u hx hu hf2 => ?_)
    refine jQ (.inl rfl) hu ?_
    rw [jW, if_neg h1, if_neg h2, if_neg h3, if_neg h4, if_neg h5, if_neg h6, if_neg h7, if_pos h8]
    exact hx
  simp (disch := omega) only [vsb, aE, reduceIte, AV.cells, putL, aC, Nat.reduceAdd, Nat.reduceDiv, Nat.reduceMod, AV.one, Nat.reduceLeDiff, Nat.reduceEqDiff, mK, bD, bL, rH, iW, V31, mG, mF, mE, mC, mB, lZ, lY, lW, iM, iK, iJ, iH, iG, iD, iC, iA, hX, hY, hP, g9, g8, gZ, g7, gY, hB, gX, hZ, gW, iB, gV, iE, gU, iI, gT, iL, gS, lX, gR, mA, gQ, mD, gP, gN, gM, gL, gO, gK, hs]
  have hh : aR w.line.length w.pos = w.pos := by unfold aR; omega
  refine aY (fun h9 => ?_) (fun h9 => ?_)
  · simp (disch := omega) only [vsb, aE, reduceIte, AV.cells, putL, aC, Nat.reduceAdd, Nat.reduceDiv, Nat.reduceMod, AV.one, Nat.reduceLeDiff, Nat.reduceEqDiff, mK, bD, bL, rH, iW, V31, mG, mF, mE, mC, mB, lZ, lY, lW, iM, iK, iJ, iH, iG, iD, iC, iA, hX, hY, hP, g9, g8, gZ, g7, gY, hB, gX, hZ, gW, iB, gV, iE, gU, iI, gT, iL, gS, lX, gR, mA, gQ, mD, gP, gN, gM, gL, gO, gK, hs]
    have pw := tL w.line (by omega) hI w.pos
    rw [hh] at pw
    refine aO pw ?_
    simp (disch := omega) only [vsb, aE, reduceIte, AV.cells, putL, aC, Nat.reduceAdd, Nat.reduceDiv, Nat.reduceMod, AV.one, Nat.reduceLeDiff, Nat.reduceEqDiff, mK, bD, bL, rH, iW, V31, mG, mF, mE, mC, mB, lZ, lY, lW, iM, iK, iJ, iH, iG, iD, iC, iA, hX, hY, hP, g9, g8, gZ, g7, gY, hB, gX, hZ, gW, iB, gV, iE, gU, iI, gT, iL, gS, lX, gR, mA, gQ, mD, gP, gN, gM, gL, gO, gK, hs]
    obtain ⟨e1, e2⟩ := qZ hp
    rw [e1]
    refine m6 (r6 h ((hf.mono (by omega)).callee) _ _ (by omega) hp (by omega) (by omega)) (hf.mono (by omega)) (fun x u hx hu hf2 => ?_)
    refine jQ (.inl rfl) hu ?_
    rw [jW, if_neg h1, if_neg h2, if_neg h3, if_neg h4, if_neg h5, if_neg h6, if_neg h7, if_neg h8, if_pos h9]
    exact hx
  simp (disch := omega) only [vsb, aE, reduceIte, AV.cells, putL, aC, Nat.reduceAdd, Nat.reduceDiv, Nat.reduceMod, AV.one, Nat.reduceLeDiff, Nat.reduceEqDiff, mK, bD, bL, rH, iW, V31, mG, mF, mE, mC, mB, lZ, lY, lW, iM, iK, iJ, iH, iG, iD, iC, iA, hX, hY, hP, g9, g8, gZ, g7, gY, hB, gX, hZ, gW, iB, gV, iE, gU, iI, gT, iL, gS, lX, gR, mA, gQ, mD, gP, gN, gM, gL, gO, gK, hs]
  refine aY (fun h10 => ?_) (fun h10 => ?_)
  · simp (disch := omega) only [vsb, aE, reduceIte, AV.cells, putL, aC, Nat.reduceAdd, Nat.reduceDiv, Nat.reduceMod, AV.one, Nat.reduceLeDiff, Nat.reduceEqDiff, mK, bD, bL, rH, iW, V31, mG, mF, mE, mC, mB, lZ, lY, lW, iM, iK, iJ, iH, iG, iD, iC, iA, hX, hY, hP, g9, g8, gZ, g7, gY, hB, gX, hZ, gW, iB, gV, iE, gU, iI, gT, iL, gS, lX, gR, mA, gQ, mD, gP, gN, gM, gL, gO, gK, hs]
    have e10 : jW w c = mJ w w.kill := by rw [jW, if_neg h1, if_neg h2, if_neg h3, if_neg h4, if_neg h5, if_neg h6, if_neg h7, if_neg h8, if_neg h9, if_pos h10]
    rw [e10]
    refine qH (fun n r H' c => ∃ (i : Nat) (u : Chg) (xa' : AV) (w' : Wk), r = [(0, .ptr lw 4 0 0), (6, il w.kill), (7, .int .i64 i)] ∧ i ≤ w.kill.length ∧ n = w.kill.length - i ∧ H' = upd u H ∧ (∀ l, u.has l → H l ≠ none ∨ Under q l) ∧ Fresh q c H' ∧ RW H' lw xa' w' ∧ w'.pos ≤ w'.line.length ∧ w'.line.length ≤ w.line.length + i ∧ w'.acts.length ≤ w.acts.length + i ∧ mJ w w.kill = mJ w' (w.kill.drop i)) w.kill.length ⟨0, [], xa, w, rfl, Nat.zero_le _, rfl, rfl, fun l hl => absurd hl (aS l), hf.mono (Nat.zero_le _), h, hp, Nat.le_refl _, Nat.le_refl _, rfl⟩ ?_
    rintro n r H' c' ⟨i, u, xa', w', rfl, hi, rfl, rfl, hu, hf', h', hp', hl', ha', hy⟩
    simp (disch := omega) only [vsb, aE, reduceIte, AV.cells, putL, aC, Nat.reduceAdd, Nat.reduceDiv, Nat.reduceMod, AV.one, Nat.reduceLeDiff, Nat.reduceEqDiff, mK, bD, bL, rH, iW, V31, mG, mF, mE, mC, mB, lZ, lY, lW, iM, iK, iJ, iH, iG, iD, iC, iA, hX, hY, hP, g9, g8, gZ, g7, gY, hB, gX, hZ, gW, iB, gV, iE, gU, iI, gT, iL, gS, lX, gR, mA, gQ, mD, gP, gN, gM, gL, gO, gK]
    refine aY (fun hlt => ?_) (fun hge => ?_)
    · have hd := EU (l := w.kill) (i := i) (by omega)
      simp (disch := omega) only [vsb, aE, reduceIte, AV.cells, putL, aC, Nat.reduceAdd, Nat.reduceDiv, Nat.reduceMod, AV.one, Nat.reduceLeDiff, Nat.reduceEqDiff, mK, bD, bL, rH, iW, V31, mG, mF, mE, mC, mB, lZ, lY, lW, iM, iK, iJ, iH, iG, iD, iC, iA, hX, hY, hP, g9, g8, gZ, g7, gY, hB, gX, hZ, gW, iB, gV, iE, gU, iI, gT, iL, gS, lX, gR, mA, gQ, mD, gP, gN, gM, gL, gO, gK]
      refine m6 (DI h' ((hf'.mono (by omega)).callee) hp' (by omega) (by omega) (nth w.kill i)) (hf'.mono (by omega)) (fun x u2 hx hu2 hf2 => ?_)
      obtain ⟨rfl, xa2, h2⟩ := hx
      cases hb : wX w' (nth w.kill i)
      · simp (disch := omega) only [vsb, aE, reduceIte, AV.cells, putL, aC, Nat.reduceAdd, Nat.reduceDiv, Nat.reduceMod, AV.one, Nat.reduceLeDiff, Nat.reduceEqDiff, mK, bD, bL, rH, iW, V31, mG, mF, mE, mC, mB, lZ, lY, lW, iM, iK, iJ, iH, iG, iD, iC, iA, hX, hY, hP, g9, g8, gZ, g7, gY, hB, gX, hZ, gW, iB, gV, iE, gU, iI, gT, iL, gS, lX, gR, mA, gQ, mD, gP, gN, gM, gL, gO, gK]
        rw [← upd_app]
        refine jQ (.inl rfl) (tA hu hu2) ⟨xa2, ?_⟩
        rw [upd_app, hy, hd, mJ, hb, if_neg (by simp)]
        rw [mN, hb, if_neg (by simp)] at h2
        exact h2
      · simp (disch := omega) only [vsb, aE, reduceIte, AV.cells, putL, aC, Nat.reduceAdd, Nat.reduceDiv, Nat.reduceMod, AV.one, Nat.reduceLeDiff, Nat.reduceEqDiff, mK, bD, bL, rH, iW, V31, mG, mF, mE, mC, mB, lZ, lY, lW, iM, iK, iJ, iH, iG, iD, iC, iA, hX, hY, hP, g9, g8, gZ, g7, gY, hB, gX, hZ, gW, iB, gV, iE, gU, iI, gT, iL, gS, lX, gR, mA, gQ, mD, gP, gN, gM, gL, gO, gK]
        refine w7 (w.kill.length - (i + 1)) (by omega) ⟨i + 1, u2 ++ u, xa2, mN w' (nth w.kill i), rfl, by omega, rfl, upd_app.symm, tA hu hu2, hf2.mono (by omega), h2, EC hp', ?_, ?_, ?_⟩
        · have : (mN w' (nth w.kill i)).line.length = w'.line.length + 1 := by rw [mN, hb, if_pos rfl]; exact r9 hp'
          omega
        · have := @tC w' (nth w.kill i); omega
        · rw [hy, hd, mJ, hb, if_pos rfl]
    · refine jQ (.inl rfl) hu ⟨xa', ?_⟩
      rw [hy, show i = w.kill.length by omega, List.drop_length, mJ]
      exact h'
  simp (disch := omega) only [vsb, aE, reduceIte, AV.cells, putL, aC, Nat.reduceAdd, Nat.reduceDiv, Nat.reduceMod, AV.one, Nat.reduceLeDiff, Nat.reduceEqDiff, mK, bD, bL, rH, iW, V31, mG, mF, mE, mC, mB, lZ, lY, lW, iM, iK, iJ, iH, iG, iD, iC, iA, hX, hY, hP, g9, g8, gZ, g7, gY, hB, gX, hZ, gW, iB, gV, iE, gU, iI, gT, iL, gS, lX, gR, mA, gQ, mD, gP, gN, gM, gL, gO, gK, hs]
  refine aY (fun h11 => ?_) (fun h11 => ?_)
  · simp (disch := omega) only [vsb, aE, reduceIte, AV.cells, putL, aC, Nat.reduceAdd, Nat.reduceDiv, Nat.reduceMod, AV.one, Nat.reduceLeDiff, Nat.reduceEqDiff, mK, bD, bL, rH, iW, V31, mG, mF, mE, mC, mB, lZ, lY, lW, iM, iK, iJ, iH, iG, iD, iC, iA, hX, hY, hP, g9, g8, gZ, g7, gY, hB, gX, hZ, gW, iB, gV, iE, gU, iI, gT, iL, gS, lX, gR, mA, gQ, mD, gP, gN, gM, gL, gO, gK, hs]
    refine m6 (rswap_sound h ((hf.mono (by omega)).callee) hp (by omega) (by omega)) (hf.mono (by omega)) (fun x u hx hu hf2 => ?_)
    refine jQ (.inl rfl) hu ?_
    rw [jW, if_neg h1, if_neg h2, if_neg h3, if_neg h4, if_neg h5, if_neg h6, if_neg h7, if_neg h8, if_neg h9, if_neg h10, if_pos h11]
    exact hx
  · refine jQ (u := []) (.inl rfl) (fun l hl => absurd hl (aS l)) ⟨xa, ?_⟩
    rw [jW, if_neg h1, if_neg h2, if_neg h3, if_neg h4, if_neg h5, if_neg h6, if_neg h7, if_neg h8, if_neg h9, if_neg h10, if_neg h11]
    exact h
end Go.Proofs.Ytbngfbpegdcpkaa
/-! The document's answer for layer 18: what a key does. -/
namespace Go.Proofs.Ytbngfbpegdcpkaa
set_option linter.unusedVariables false
set_option linter.unusedSimpArgs false
set_option maxRecDepth 100000
/-- what a key with Meta does, the document's -/
def w5 (w : Wk) (c : Int) : Wk :=
  if c = 98 then { w with pos := (bK w.line w.pos).toNat } else if c = 102 then { w with pos := cH w.line w.pos } else if c = 100 then kX w w.pos (cH w.line w.pos)
  else if c = 127 then kX w (bK w.line w.pos).toNat w.pos else w
def q7 (w : Wk) (k r : Int) : Wk :=
  if k = 1 then mN w r else if k = 2 then jW w r else if k = 3 then w5 w r else if k = 6 then jW w 102 else if k = 7 then jW w 98 else if k = 8 then jW w 97 else if k = 9 then jW w 101 else if k = 10 then jW w 100 else w
theorem O3 {f : Nat} {xs : List AV} {G : aB} {q : Lab} {c : Nat} {KK : KF} {w w' : Wk} (hG : G (6 :: q) = some (.rows 4 [[il w.line, .int .i64 w.pos, il w.kill, .nils]])) (h2 : G (2 :: q) = some (.rows 3 [[.nils, .int .i64 0, .nils]])) (hw : w.acts = []) (hF : Fresh q c G) (hc : 7 ≤ c)
    (h : ∀ H0, RW H0 (6 :: q) .nils w → Fresh (c :: q) 0 H0 → SoundE Try.prog f xs H0 (c :: q) (fun y u => ∃ xa', RW (upd u H0) (6 :: q) xa' w'))
    (hk : ∀ x G' l xa, RW G' (6 :: q) xa w' → G' (2 :: q) = some (.rows 3 [[.nils, .int .i64 0, .nils]]) → 2 :: q ∉ labs xa → Fresh q (c + 1) G' → KK x G' l none) : aN true Try.prog f xs G (c :: q) KK := by
  have h0 : RW (upd [(6 :: q, some (.rows 4 [[il w.line, .int .i64 w.pos, il w.kill, .nils]]))] fun _ => none) (6 :: q) .nils w := ⟨aK, by rw [hw]; exact Own.nils⟩
  have hF0 : Fresh (c :: q) 0 (upd [(6 :: q, some (.rows 4 [[il w.line, .int .i64 w.pos, il w.kill, .nils]]))] fun _ => none) := fun j s _ => by
    simp only [upd]
    rw [if_neg (fun e => by have := congrArg List.length e; simp at this; omega)]
  have hsub : ∀ l o, upd [(6 :: q, some (.rows 4 [[il w.line, .int .i64 w.pos, il w.kill, .nils]]))] (fun _ => none) l = some o → G l = some o := fun l o hl => by
    simp only [upd] at hl
    split at hl
    · rename_i e; rw [e, hG]; exact hl
    · cases hl
  refine m6 ((h _ h0 hF0).frame hsub) hF (fun x u hx hu hF' => ?_)
  obtain ⟨⟨xa, hr⟩, hin⟩ := hx
  have up : ∀ l o, upd u (upd [(6 :: q, some (.rows 4 [[il w.line, .int .i64 w.pos, il w.kill, .nils]]))] fun _ => none) l = some o → upd u G l = some o := fun l o hl => by
    by_cases hh : u.has l
    · rw [BT (H' := upd [(6 :: q, some (.rows 4 [[il w.line, .int .i64 w.pos, il w.kill, .nils]]))] fun _ => none) hh]; exact hl
    · rw [bQ hh] at hl ⊢; exact hsub l o hl
  have hn2 : ¬ u.has (2 :: q) := fun hh => by
    rcases hin _ hh with h3 | ⟨t, ht⟩
    · simp [upd] at h3
    · have := congrArg List.length ht
      cases t with
      | nil => simp at ht; omega
      | cons a t => simp at this; omega
  refine hk x _ _ xa ⟨up _ _ hr.s, hr.a.keep fun lab o _ ho => up lab o ho⟩ (by rw [bQ hn2]; exact h2) (hr.a.out (by rw [bQ hn2]; simp [upd])) hF'
theorem mL {G : aB} {q : Lab} {xa : AV} {v : Wk} {c : Nat} {x : AV} {ls : List Lab} {f : Option (List Lab)} (hl : v.line.length ≤ 1000000) (hk : v.kill.length ≤ 1000000) (hR : RW G (6 :: q) xa v) (h2 : G (2 :: q) = some (.rows 3 [[.nils, .int .i64 0, .nils]])) (hn : 2 :: q ∉ labs xa) (hF : Fresh q (c + 10) G) (hc : 7 ≤ c) :
    kV Try.prog q (VP [.cell 4 3 true, .tmp 5] (doR v)) (.ptr (2 :: q) 3 0 0) (.ptr (6 :: q) 4 0 0) c x G ls f := by
  have h6 := hR.s
  have hn10 : G ((c + 10) :: q) = none := hF.at (by omega)
  have n6 : ¬ (6 :: q = (c + 10) :: q) := by simp
  have n2 : ¬ (2 :: q = (c + 10) :: q) := by simp
  simp (disch := omega) only [vsb, aE, reduceIte, AV.cells, putL, aC, Nat.reduceAdd, Nat.reduceDiv, Nat.reduceMod, AV.one, Nat.reduceLeDiff, Nat.reduceEqDiff, lS, q4, V14, lA, k9, k8, k7, k6, k0, kV, lC, kZ, fZ, fY, fX, fW, fV, fU, fT, gA, fS, fO, fN, fM, fL, fK, fJ, fI, cY, fP, fH, fD, fC, fB, fA, e9, e8, e7, cX, fE, eZ, eW, eV, eU, eT, eS, eR, eQ, eP, eX, eO, eK, eJ, eI, eH, eF, eE, eD, eC, eM, eA, d8, d7, d6, d5, d4, d3, d9, d2, eN, d1, eY, d0, fF, dZ, fQ, dY, dW, dV, dU, dS, dR, dQ, cJ, dP, dN, dL, dK, dI, dH, dF, dE, dC, dB, c0, b8, b7, b6, b5, b4, dA, b3, dD, b0, dG, bZ, dJ, bX, dM, bW, dX, bV, fR, bU, kY, bT, bS, bR, h6, h2]
  generalize hG1 : upd [_] (upd [_] G) = G1
  have r1 : G1 ((c + 10) :: q) = some (.rows 3 [[.nils, .int .i64 v.pos, .nils]]) := by subst hG1; exact aK
  have s1 : G1 (6 :: q) = some (.rows 4 [[il v.line, .int .i64 v.pos, il v.kill, xa]]) := by
    subst hG1; simp only [upd, if_neg n6]; exact h6
  have t1 : G1 (2 :: q) = some (.rows 3 [[.nils, .int .i64 0, .nils]]) := by
    subst hG1; simp only [upd, if_neg n2]; exact h2
  have a1 : Own G1 xa 3 (v.acts.map bA) := by subst hG1; exact (hR.a.grow hn10).store (hR.a.out hn10)
  have F1 : Fresh q (c + 11) G1 := by subst hG1; exact (hF.upd (d := c + 11) (by omega) (by omega)).more (by omega)
  have o10 : (c + 10) :: q ∉ labs xa := hR.a.out hn10
  refine nM (x := .nils) Own.nils wT F1 (by omega) (by decide) (by simp; omega) (by simp; omega) (fun x1 G2 l2 f2 o2 F2 kb2 hx2 => ?_)
  have r2 := kb2 _ _ r1 (fun _ _ _ e => by cases e)
  have s2 := kb2 _ _ s1 (fun _ _ _ e => by cases e)
  have t2 := kb2 _ _ t1 (fun _ _ _ e => by cases e)
  have a2 : Own G2 xa 3 (v.acts.map bA) := a1.keep fun lab o _ ho => kb2 _ _ ho (fun _ _ _ e => by cases e)
  have cx1 : x1.cells = [x1] ∧ x1.one = true := o2.cells
  rw [List.nil_append] at o2
  have hx1 : x1 = .nils ∨ ∃ lb n, x1 = .sl lb 1 0 n := by
    rcases o2 with ⟨h, _⟩ | ⟨lb, h, _⟩
    · exact .inl h
    · exact .inr ⟨lb, _, h⟩
  have hx1' : ∀ lab ∈ labs x1, lab = (c + 19) :: q := fun lab hl => (hx2 lab hl).resolve_left (by simp [labs])
  clear hx2
  rcases hx1 with rfl | ⟨lb1, n1, rfl⟩
  all_goals
    simp (disch := omega) only [vsb, aE, reduceIte, AV.cells, putL, aC, Nat.reduceAdd, Nat.reduceDiv, Nat.reduceMod, AV.one, Nat.reduceLeDiff, Nat.reduceEqDiff, lS, q4, V14, lA, k9, k8, k7, k6, k0, kV, lC, kZ, fZ, fY, fX, fW, fV, fU, fT, gA, fS, fO, fN, fM, fL, fK, fJ, fI, cY, fP, fH, fD, fC, fB, fA, e9, e8, e7, cX, fE, eZ, eW, eV, eU, eT, eS, eR, eQ, eP, eX, eO, eK, eJ, eI, eH, eF, eE, eD, eC, eM, eA, d8, d7, d6, d5, d4, d3, d9, d2, eN, d1, eY, d0, fF, dZ, fQ, dY, dW, dV, dU, dS, dR, dQ, cJ, dP, dN, dL, dK, dI, dH, dF, dE, dC, dB, c0, b8, b7, b6, b5, b4, dA, b3, dD, b0, dG, bZ, dJ, bX, dM, bW, dX, bV, fR, bU, kY, bT, bS, bR, r2, s2]
    refine ⟨(by (repeat' (first | exact cV | exact bB | refine cW ?_ ?_ | refine bC ?_ ?_)); all_goals (first | exact Or.inl rfl | exact Or.inl (by decide) | exact Or.inr ⟨by (simp (decide := true) [a6, ne_eq] <;> assumption), by (simp (decide := true) [a6, ne_eq] <;> assumption)⟩)), ?_⟩
    generalize hG3 : upd [_] G2 = G3
    have r3 := QB hG3
    have s3 := GE hG3 n6 s2
    have t3 := GE hG3 n2 t2
    have a3 := (a2.store o10).to hG3
    have o3 := (o2.store (o2.ne r2 (by decide))).to hG3
    have F3 := (F2.over r2).to hG3
    refine nM (x := .nils) Own.nils wT F3 (by omega) (by decide) (by simp; omega) (by simp; omega) (fun x2 G4 l4 f4 o4 F4 kb4 hx4 => ?_)
    have r4 := kb4 _ _ r3 (fun _ _ _ e => by cases e)
    have s4 := kb4 _ _ s3 (fun _ _ _ e => by cases e)
    have t4 := kb4 _ _ t3 (fun _ _ _ e => by cases e)
    have a4 : Own G4 xa 3 (v.acts.map bA) := a3.keep fun lab o _ ho => kb4 _ _ ho (fun _ _ _ e => by cases e)
    have o34 := o3.keep (H' := G4) fun lab o _ ho => kb4 _ _ ho (fun _ _ _ e => by cases e)
    rw [List.nil_append] at o4
    have hx2 : x2 = .nils ∨ ∃ lb n, x2 = .sl lb 1 0 n := by
      rcases o4 with ⟨h, _⟩ | ⟨lb, h, _⟩
      · exact .inl h
      · exact .inr ⟨lb, _, h⟩
    rcases hx2 with rfl | ⟨lb2, n2', rfl⟩
    all_goals
      simp (disch := omega) only [vsb, aE, reduceIte, AV.cells, putL, aC, Nat.reduceAdd, Nat.reduceDiv, Nat.reduceMod, AV.one, Nat.reduceLeDiff, Nat.reduceEqDiff, lS, q4, V14, lA, k9, k8, k7, k6, k0, kV, lC, kZ, fZ, fY, fX, fW, fV, fU, fT, gA, fS, fO, fN, fM, fL, fK, fJ, fI, cY, fP, fH, fD, fC, fB, fA, e9, e8, e7, cX, fE, eZ, eW, eV, eU, eT, eS, eR, eQ, eP, eX, eO, eK, eJ, eI, eH, eF, eE, eD, eC, eM, eA, d8, d7, d6, d5, d4, d3, d9, d2, eN, d1, eY, d0, fF, dZ, fQ, dY, dW, dV, dU, dS, dR, dQ, cJ, dP, dN, dL, dK, dI, dH, dF, dE, dC, dB, c0, b8, b7, b6, b5, b4, dA, b3, dD, b0, dG, bZ, dJ, bX, dM, bW, dX, bV, fR, bU, kY, bT, bS, bR, r4, s4, t4]
      refine ⟨(by (repeat' (first | exact cV | exact bB | refine cW ?_ ?_ | refine bC ?_ ?_)); all_goals (first | exact Or.inl rfl | exact Or.inl (by decide) | exact Or.inr ⟨by (simp (decide := true) [a6, ne_eq] <;> assumption), by (simp (decide := true) [a6, ne_eq] <;> assumption)⟩)), ?_⟩
      generalize hG5 : upd [_] G4 = G5
      have r5 := QB hG5
      have s5 := GE hG5 n6 s4
      have t5 := GE hG5 n2 t4
      have a5 := (a4.store o10).to hG5
      have o5 := (o34.store (o34.ne r4 (by decide))).to hG5
      have p5 := (o4.store (o4.ne r4 (by decide))).to hG5
      refine ⟨(by (repeat' (first | exact cV | exact bB | refine cW ?_ ?_ | refine bC ?_ ?_)); all_goals (first | exact Or.inl rfl | exact Or.inl (by decide) | exact Or.inr ⟨by (simp (decide := true) [a6, ne_eq] <;> assumption), by (simp (decide := true) [a6, ne_eq] <;> assumption)⟩)), ?_⟩
      exact ⟨.inr rfl, _, LU aK rfl (by decide), Fr.two (Fr.agg3 (.of_own (o5.store (o5.ne t5 (by decide))) j7) (.refl _) (.of_own (p5.store (p5.ne t5 (by decide))) j7)) (.of_own (a5.store hn) tP)⟩
def Bnd (w w' : Wk) : Prop := w'.line.length ≤ w.line.length + w.kill.length + 1 ∧ w'.kill.length ≤ w.line.length + w.kill.length
theorem LL {w : Wk} {c : Int} (h : w.pos ≤ w.line.length) : (mN w c).line.length ≤ w.line.length + 1 := by
  unfold mN
  split
  · rw [r9 h]; omega
  · omega
theorem bnd_put {w : Wk} {c : Int} (h : w.pos ≤ w.line.length) : Bnd w (mN w c) := ⟨by have := @LL w c h; omega, by rw [B1]; omega⟩
theorem LT {w : Wk} {f t : Nat} : Bnd w (mH w f t) := by
  unfold mH Bnd
  split
  · simp; omega
  · omega
theorem NV {w : Wk} {f t : Nat} : Bnd w (kX w f t) := by
  have := @LT w f t
  unfold kX Bnd
  split
  · refine ⟨this.1, ?_⟩
    simp [jV]; omega
  · omega
theorem NU : ∀ {g : List Int} {w : Wk}, w.pos ≤ w.line.length → (mJ w g).line.length ≤ w.line.length + g.length ∧ (mJ w g).kill = w.kill
  | [], w, h => ⟨by simp [mJ], rfl⟩
  | c :: g, w, h => by
    unfold mJ
    split
    · have := @NU g (mN w c) (EC h)
      have h2 := @LL w c h
      exact ⟨by simp; omega, by rw [this.2, B1]⟩
    · exact ⟨by simp, rfl⟩
theorem bnd_swap {w : Wk} (h : w.pos ≤ w.line.length) : Bnd w (oU w) := by
  unfold oU
  split
  · exact ⟨by omega, by omega⟩
  · split
    · exact ⟨by omega, by omega⟩
    · rename_i h1 _
      have hc := @LT w (Min.min w.pos (w.line.length - 1) - 1) (Min.min w.pos (w.line.length - 1))
      have hp : (Min.min w.pos (w.line.length - 1)) ≤ (mH w (Min.min w.pos (w.line.length - 1) - 1) (Min.min w.pos (w.line.length - 1))).line.length := by
        unfold mH; split
        · simp; omega
        · omega
      have hl : (mH w (Min.min w.pos (w.line.length - 1) - 1) (Min.min w.pos (w.line.length - 1))).line.length ≤ w.line.length := by
        unfold mH; split
        · simp; omega
        · omega
      have h2 := @LL { mH w (Min.min w.pos (w.line.length - 1) - 1) (Min.min w.pos (w.line.length - 1)) with pos := Min.min w.pos (w.line.length - 1) } (nth w.line (Min.min w.pos (w.line.length - 1) - 1)) hp
      refine ⟨?_, ?_⟩
      · simp only at h2 ⊢; omega
      · rw [B1]; exact hc.2
theorem bnd_ctrl {w : Wk} {c : Int} (h : w.pos ≤ w.line.length) : Bnd w (jW w c) := by
  have h0 : ∀ n, Bnd w { w with pos := n } := fun n => ⟨by simp; omega, by simp⟩
  have hy := @NU w.kill w h
  unfold jW
  repeat' split
  all_goals first | exact h0 _ | exact LT | exact NV | exact bnd_swap h | exact ⟨by omega, by rw [hy.2]; omega⟩ | exact ⟨by omega, by omega⟩
theorem WM {w : Wk} {k r : Int} (h : w.pos ≤ w.line.length) : Bnd w (q7 w k r) := by
  have h0 : ∀ n, Bnd w { w with pos := n } := fun n => ⟨by simp; omega, by simp⟩
  unfold q7 w5
  repeat' split
  all_goals first | exact bnd_put h | exact bnd_ctrl h | exact h0 _ | exact NV | exact ⟨by omega, by omega⟩
theorem rdo_pure (l : List Int) (hl : l.length ≤ 100000) (hI : ∀ k, k < l.length → -9223372036854775808 ≤ nth l k) (a : Int) (kl : List Int) (hkl : kl.length ≤ 100000) (k r : Int) : lV Try.prog 14 [.agg [il l, .int .i64 a, il kl], .agg [.int .i64 k, .int .i64 r]] (doR (q7 ⟨l, aR l.length a, kl, []⟩ k r)) := by
  refine cP Try.mixed ok14 rfl (fun q => ?_)
  simp only [params, Nat.zero_add, Nat.reduceAdd]
  simp (disch := omega) only [vsb, aE, reduceIte, AV.cells, putL, aC, Nat.reduceAdd, Nat.reduceDiv, Nat.reduceMod, AV.one, Nat.reduceLeDiff, Nat.reduceEqDiff, lS, q4, V14, lA, k9, k8, k7, k6, k0, kV, lC, kZ, fZ, fY, fX, fW, fV, fU, fT, gA, fS, fO, fN, fM, fL, fK, fJ, fI, cY, fP, fH, fD, fC, fB, fA, e9, e8, e7, cX, fE, eZ, eW, eV, eU, eT, eS, eR, eQ, eP, eX, eO, eK, eJ, eI, eH, eF, eE, eD, eC, eM, eA, d8, d7, d6, d5, d4, d3, d9, d2, eN, d1, eY, d0, fF, dZ, fQ, dY, dW, dV, dU, dS, dR, dQ, cJ, dP, dN, dL, dK, dI, dH, dF, dE, dC, dB, c0, b8, b7, b6, b5, b4, dA, b3, dD, b0, dG, bZ, dJ, bX, dM, bW, dX, bV, fR, bU, kY, bT, bS, bR]
  refine aO (DJ l a) ?_
  simp (disch := omega) only [vsb, aE, reduceIte, AV.cells, putL, aC, Nat.reduceAdd, Nat.reduceDiv, Nat.reduceMod, AV.one, Nat.reduceLeDiff, Nat.reduceEqDiff, lS, q4, V14, lA, k9, k8, k7, k6, k0, kV, lC, kZ, fZ, fY, fX, fW, fV, fU, fT, gA, fS, fO, fN, fM, fL, fK, fJ, fI, cY, fP, fH, fD, fC, fB, fA, e9, e8, e7, cX, fE, eZ, eW, eV, eU, eT, eS, eR, eQ, eP, eX, eO, eK, eJ, eI, eH, eF, eE, eD, eC, eM, eA, d8, d7, d6, d5, d4, d3, d9, d2, eN, d1, eY, d0, fF, dZ, fQ, dY, dW, dV, dU, dS, dR, dQ, cJ, dP, dN, dL, dK, dI, dH, dF, dE, dC, dB, c0, b8, b7, b6, b5, b4, dA, b3, dD, b0, dG, bZ, dJ, bX, dM, bW, dX, bV, fR, bU, kY, bT, bS, bR]
  have fin : ∀ (v : Wk), v.line.length ≤ 1000000 → v.kill.length ≤ 1000000 → ∀ (x1 x2 xa : AV) (He : aB) (d : Nat), He (2 :: q) = some (.rows 3 [[x1, .int .i64 v.pos, x2]]) → Own He x1 1 (v.line.map aE) → Own He x2 1 (v.kill.map aE) → Own He xa 3 (v.acts.map bA) → VP [.cell 4 3 true, .tmp 5] (doR v) .ret [(4, .ptr (2 :: q) 3 0 0), (5, xa)] He d := by
    intro v _ _ x1 x2 xa He d h1 h2 h3 h4
    exact ⟨.inr rfl, _, LU h1 rfl (by decide), Fr.two (Fr.agg3 (.of_own h2 j7) (.refl _) (.of_own h3 j7)) (.of_own h4 tP)⟩
  generalize hG0 : upd [(6 :: q, _)] (upd [(6 :: q, _)] (upd [(2 :: q, _)] (upd [(1 :: q, _)] (upd [(0 :: q, _)] fun _ => none)))) = G0
  have g6 : G0 (6 :: q) = some (.rows 4 [[il l, .int .i64 (aR l.length a), il kl, .nils]]) := by subst hG0; exact aK
  have g2 : G0 (2 :: q) = some (.rows 3 [[.nils, .int .i64 0, .nils]]) := by subst hG0; simp [upd]
  have g1 : G0 (1 :: q) = some (.rows 2 [[.int .i64 k, .int .i64 r]]) := by subst hG0; simp [upd]
  have g0 : G0 (0 :: q) = some (.rows 3 [[il l, .int .i64 a, il kl]]) := by subst hG0; simp [upd]
  have gF : Fresh q 28 G0 := by subst hG0; exact (((((Fresh.empty (c := 28)).more (by omega)).more (by omega)).more (by omega)).more (by omega)).more (by omega)
  clear hG0
  have hw0 : (⟨l, aR l.length a, kl, []⟩ : Wk).pos ≤ l.length := cA
  generalize hN : aR l.length a = n0 at *
  have hb := @WM ⟨l, n0, kl, []⟩ k r hw0
  have b1 : (q7 ⟨l, n0, kl, []⟩ k r).line.length ≤ 1000000 := by have := hb.1; simp only at this; omega
  have b2 : (q7 ⟨l, n0, kl, []⟩ k r).kill.length ≤ 1000000 := by have := hb.2; simp only at this; omega
  clear hb
  have gen : ∀ {c : Int} {d : Nat} {KK : KF}, q7 ⟨l, n0, kl, []⟩ k r = jW ⟨l, n0, kl, []⟩ c → 28 ≤ d →
      (∀ x G' ls xa, RW G' (6 :: q) xa (q7 ⟨l, n0, kl, []⟩ k r) → G' (2 :: q) = some (.rows 3 [[.nils, .int .i64 0, .nils]]) → 2 :: q ∉ labs xa → Fresh q (d + 1) G' → KK x G' ls none) → aN true Try.prog 31 [.ptr (6 :: q) 4 0 0, .int .i64 c] G0 (d :: q) KK := by
    intro c d KK e hd hk
    refine O3 (w := ⟨l, n0, kl, []⟩) (w' := jW ⟨l, n0, kl, []⟩ c) g6 g2 rfl (gF.mono hd) (by omega) (fun H0 h0 hf0 => rctrl_sound h0 hf0 hw0 hl hkl (by simp) hI c) (fun x G' ls xa hR h2 hn hF' => hk x G' ls xa (by rw [e]; exact hR) h2 hn hF')
  refine aY (fun h1 => ?_) (fun h1 => ?_)
  · simp (disch := omega) only [vsb, aE, reduceIte, AV.cells, putL, aC, Nat.reduceAdd, Nat.reduceDiv, Nat.reduceMod, AV.one, Nat.reduceLeDiff, Nat.reduceEqDiff, lS, q4, V14, lA, k9, k8, k7, k6, k0, kV, lC, kZ, fZ, fY, fX, fW, fV, fU, fT, gA, fS, fO, fN, fM, fL, fK, fJ, fI, cY, fP, fH, fD, fC, fB, fA, e9, e8, e7, cX, fE, eZ, eW, eV, eU, eT, eS, eR, eQ, eP, eX, eO, eK, eJ, eI, eH, eF, eE, eD, eC, eM, eA, d8, d7, d6, d5, d4, d3, d9, d2, eN, d1, eY, d0, fF, dZ, fQ, dY, dW, dV, dU, dS, dR, dQ, cJ, dP, dN, dL, dK, dI, dH, dF, dE, dC, dB, c0, b8, b7, b6, b5, b4, dA, b3, dD, b0, dG, bZ, dJ, bX, dM, bW, dX, bV, fR, bU, kY, bT, bS, bR, g1]
    have e : q7 ⟨l, n0, kl, []⟩ k r = mN ⟨l, n0, kl, []⟩ r := by rw [q7, if_pos h1]
    refine O3 (w := ⟨l, n0, kl, []⟩) (w' := mN ⟨l, n0, kl, []⟩ r) g6 g2 rfl (gF.mono (by omega)) (by omega) (fun H0 h0 hf0 => (DI h0 hf0 hw0 (by simp; omega) (by simp) r).mono (fun x u h _ => h.2)) (fun x G' ls xa hR h2 hn hF' => ?_)
    rw [← e] at hR
    exact mL (x := .nilf) (ls := []) (f := none) b1 b2 hR h2 hn (hF'.mono (by omega)) (by omega)
  simp (disch := omega) only [vsb, aE, reduceIte, AV.cells, putL, aC, Nat.reduceAdd, Nat.reduceDiv, Nat.reduceMod, AV.one, Nat.reduceLeDiff, Nat.reduceEqDiff, lS, q4, V14, lA, k9, k8, k7, k6, k0, kV, lC, kZ, fZ, fY, fX, fW, fV, fU, fT, gA, fS, fO, fN, fM, fL, fK, fJ, fI, cY, fP, fH, fD, fC, fB, fA, e9, e8, e7, cX, fE, eZ, eW, eV, eU, eT, eS, eR, eQ, eP, eX, eO, eK, eJ, eI, eH, eF, eE, eD, eC, eM, eA, d8, d7, d6, d5, d4, d3, d9, d2, eN, d1, eY, d0, fF, dZ, fQ, dY, dW, dV, dU, dS, dR, dQ, cJ, dP, dN, dL, dK, dI, dH, dF, dE, dC, dB, c0, b8, b7, b6, b5, b4, dA, b3, dD, b0, dG, bZ, dJ, bX, dM, bW, dX, bV, fR, bU, kY, bT, bS, bR, g1]
  refine aY (fun h2 => ?_) (fun h2 => ?_)
  · simp (disch := omega) only [vsb, aE, reduceIte, AV.cells, putL, aC, Nat.reduceAdd, Nat.reduceDiv, Nat.reduceMod, AV.one, Nat.reduceLeDiff, Nat.reduceEqDiff, lS, q4, V14, lA, k9, k8, k7, k6, k0, kV, lC, kZ, fZ, fY, fX, fW, fV, fU, fT, gA, fS, fO, fN, fM, fL, fK, fJ, fI, cY, fP, fH, fD, fC, fB, fA, e9, e8, e7, cX, fE, eZ, eW, eV, eU, eT, eS, eR, eQ, eP, eX, eO, eK, eJ, eI, eH, eF, eE, eD, eC, eM, eA, d8, d7, d6, d5, d4, d3, d9, d2, eN, d1, eY, d0, fF, dZ, fQ, dY, dW, dV, dU, dS, dR, dQ, cJ, dP, dN, dL, dK, dI, dH, dF, dE, dC, dB, c0, b8, b7, b6, b5, b4, dA, b3, dD, b0, dG, bZ, dJ, bX, dM, bW, dX, bV, fR, bU, kY, bT, bS, bR, g1]
    refine gen (by rw [q7, if_neg h1, if_pos h2]) (by omega) (fun x G' ls xa hR h2 hn hF' => ?_)
    exact mL (x := .nilf) (ls := []) (f := none) b1 b2 hR h2 hn (hF'.mono (by omega)) (by omega)
  have w0 : RW G0 (6 :: q) .nils ⟨l, n0, kl, []⟩ := ⟨g6, Own.nils⟩
  have hh : aR l.length n0 = n0 := by have : n0 ≤ l.length := hw0; unfold aR; omega
  have pb := tL l (by omega) hI n0
  have po := D4 l (by omega) hI n0
  rw [hh] at pb po
  obtain ⟨eb1, eb2⟩ := qZ (l := l) (a := n0) hw0
  have ho := @tB l n0 hw0
  have hge : n0 ≤ cH l n0 := I8
  simp (disch := omega) only [vsb, aE, reduceIte, AV.cells, putL, aC, Nat.reduceAdd, Nat.reduceDiv, Nat.reduceMod, AV.one, Nat.reduceLeDiff, Nat.reduceEqDiff, lS, q4, V14, lA, k9, k8, k7, k6, k0, kV, lC, kZ, fZ, fY, fX, fW, fV, fU, fT, gA, fS, fO, fN, fM, fL, fK, fJ, fI, cY, fP, fH, fD, fC, fB, fA, e9, e8, e7, cX, fE, eZ, eW, eV, eU, eT, eS, eR, eQ, eP, eX, eO, eK, eJ, eI, eH, eF, eE, eD, eC, eM, eA, d8, d7, d6, d5, d4, d3, d9, d2, eN, d1, eY, d0, fF, dZ, fQ, dY, dW, dV, dU, dS, dR, dQ, cJ, dP, dN, dL, dK, dI, dH, dF, dE, dC, dB, c0, b8, b7, b6, b5, b4, dA, b3, dD, b0, dG, bZ, dJ, bX, dM, bW, dX, bV, fR, bU, kY, bT, bS, bR, g1]
  refine aY (fun h3 => ?_) (fun h3 => ?_)
  · have em : q7 ⟨l, n0, kl, []⟩ k r = w5 ⟨l, n0, kl, []⟩ r := by rw [q7, if_neg h1, if_neg h2, if_pos h3]
    simp (disch := omega) only [vsb, aE, reduceIte, AV.cells, putL, aC, Nat.reduceAdd, Nat.reduceDiv, Nat.reduceMod, AV.one, Nat.reduceLeDiff, Nat.reduceEqDiff, lS, q4, V14, lA, k9, k8, k7, k6, k0, kV, lC, kZ, fZ, fY, fX, fW, fV, fU, fT, gA, fS, fO, fN, fM, fL, fK, fJ, fI, cY, fP, fH, fD, fC, fB, fA, e9, e8, e7, cX, fE, eZ, eW, eV, eU, eT, eS, eR, eQ, eP, eX, eO, eK, eJ, eI, eH, eF, eE, eD, eC, eM, eA, d8, d7, d6, d5, d4, d3, d9, d2, eN, d1, eY, d0, fF, dZ, fQ, dY, dW, dV, dU, dS, dR, dQ, cJ, dP, dN, dL, dK, dI, dH, dF, dE, dC, dB, c0, b8, b7, b6, b5, b4, dA, b3, dD, b0, dG, bZ, dJ, bX, dM, bW, dX, bV, fR, bU, kY, bT, bS, bR, g1]
    refine aY (fun r1 => ?_) (fun r1 => ?_)
    · simp (disch := omega) only [vsb, aE, reduceIte, AV.cells, putL, aC, Nat.reduceAdd, Nat.reduceDiv, Nat.reduceMod, AV.one, Nat.reduceLeDiff, Nat.reduceEqDiff, lS, q4, V14, lA, k9, k8, k7, k6, k0, kV, lC, kZ, fZ, fY, fX, fW, fV, fU, fT, gA, fS, fO, fN, fM, fL, fK, fJ, fI, cY, fP, fH, fD, fC, fB, fA, e9, e8, e7, cX, fE, eZ, eW, eV, eU, eT, eS, eR, eQ, eP, eX, eO, eK, eJ, eI, eH, eF, eE, eD, eC, eM, eA, d8, d7, d6, d5, d4, d3, d9, d2, eN, d1, eY, d0, fF, dZ, fQ, dY, dW, dV, dU, dS, dR, dQ, cJ, dP, dN, dL, dK, dI, dH, dF, dE, dC, dB, c0, b8, b7, b6, b5, b4, dA, b3, dD, b0, dG, bZ, dJ, bX, dM, bW, dX, bV, fR, bU, kY, bT, bS, bR, g0]
      refine aO pb ?_
      simp (disch := omega) only [vsb, aE, reduceIte, AV.cells, putL, aC, Nat.reduceAdd, Nat.reduceDiv, Nat.reduceMod, AV.one, Nat.reduceLeDiff, Nat.reduceEqDiff, cY, g6]
      have e : q7 ⟨l, n0, kl, []⟩ k r = { (⟨l, n0, kl, []⟩ : Wk) with pos := (bK l n0).toNat } := by rw [em, w5, if_pos r1]
      have hR := w0.at _ eb1
      rw [← e] at hR
      exact mL (c := 41) (x := .nilf) (ls := []) (f := none) b1 b2 hR (by simp only [upd]; rw [if_neg (by simp)]; exact g2) (by simp [labs]) ((gF.over g6).mono (by omega)) (by omega)
    simp (disch := omega) only [vsb, aE, reduceIte, AV.cells, putL, aC, Nat.reduceAdd, Nat.reduceDiv, Nat.reduceMod, AV.one, Nat.reduceLeDiff, Nat.reduceEqDiff, lS, q4, V14, lA, k9, k8, k7, k6, k0, kV, lC, kZ, fZ, fY, fX, fW, fV, fU, fT, gA, fS, fO, fN, fM, fL, fK, fJ, fI, cY, fP, fH, fD, fC, fB, fA, e9, e8, e7, cX, fE, eZ, eW, eV, eU, eT, eS, eR, eQ, eP, eX, eO, eK, eJ, eI, eH, eF, eE, eD, eC, eM, eA, d8, d7, d6, d5, d4, d3, d9, d2, eN, d1, eY, d0, fF, dZ, fQ, dY, dW, dV, dU, dS, dR, dQ, cJ, dP, dN, dL, dK, dI, dH, dF, dE, dC, dB, c0, b8, b7, b6, b5, b4, dA, b3, dD, b0, dG, bZ, dJ, bX, dM, bW, dX, bV, fR, bU, kY, bT, bS, bR, g1]
    refine aY (fun r2 => ?_) (fun r2 => ?_)
    · simp (disch := omega) only [vsb, aE, reduceIte, AV.cells, putL, aC, Nat.reduceAdd, Nat.reduceDiv, Nat.reduceMod, AV.one, Nat.reduceLeDiff, Nat.reduceEqDiff, lS, q4, V14, lA, k9, k8, k7, k6, k0, kV, lC, kZ, fZ, fY, fX, fW, fV, fU, fT, gA, fS, fO, fN, fM, fL, fK, fJ, fI, cY, fP, fH, fD, fC, fB, fA, e9, e8, e7, cX, fE, eZ, eW, eV, eU, eT, eS, eR, eQ, eP, eX, eO, eK, eJ, eI, eH, eF, eE, eD, eC, eM, eA, d8, d7, d6, d5, d4, d3, d9, d2, eN, d1, eY, d0, fF, dZ, fQ, dY, dW, dV, dU, dS, dR, dQ, cJ, dP, dN, dL, dK, dI, dH, dF, dE, dC, dB, c0, b8, b7, b6, b5, b4, dA, b3, dD, b0, dG, bZ, dJ, bX, dM, bW, dX, bV, fR, bU, kY, bT, bS, bR, g0]
      refine aO po ?_
      simp (disch := omega) only [vsb, aE, reduceIte, AV.cells, putL, aC, Nat.reduceAdd, Nat.reduceDiv, Nat.reduceMod, AV.one, Nat.reduceLeDiff, Nat.reduceEqDiff, cX, g6]
      have e : q7 ⟨l, n0, kl, []⟩ k r = { (⟨l, n0, kl, []⟩ : Wk) with pos := cH l n0 } := by rw [em, w5, if_neg r1, if_pos r2]
      have hR := w0.at (p' := (cH l n0 : Int)) _ rfl
      rw [← e] at hR
      exact mL (c := 43) (x := .nilf) (ls := []) (f := none) b1 b2 hR (by simp only [upd]; rw [if_neg (by simp)]; exact g2) (by simp [labs]) ((gF.over g6).mono (by omega)) (by omega)
    simp (disch := omega) only [vsb, aE, reduceIte, AV.cells, putL, aC, Nat.reduceAdd, Nat.reduceDiv, Nat.reduceMod, AV.one, Nat.reduceLeDiff, Nat.reduceEqDiff, lS, q4, V14, lA, k9, k8, k7, k6, k0, kV, lC, kZ, fZ, fY, fX, fW, fV, fU, fT, gA, fS, fO, fN, fM, fL, fK, fJ, fI, cY, fP, fH, fD, fC, fB, fA, e9, e8, e7, cX, fE, eZ, eW, eV, eU, eT, eS, eR, eQ, eP, eX, eO, eK, eJ, eI, eH, eF, eE, eD, eC, eM, eA, d8, d7, d6, d5, d4, d3, d9, d2, eN, d1, eY, d0, fF, dZ, fQ, dY, dW, dV, dU, dS, dR, dQ, cJ, dP, dN, dL, dK, dI, dH, dF, dE, dC, dB, c0, b8, b7, b6, b5, b4, dA, b3, dD, b0, dG, bZ, dJ, bX, dM, bW, dX, bV, fR, bU, kY, bT, bS, bR, g1]
    refine aY (fun r3 => ?_) (fun r3 => ?_)
    · simp (disch := omega) only [vsb, aE, reduceIte, AV.cells, putL, aC, Nat.reduceAdd, Nat.reduceDiv, Nat.reduceMod, AV.one, Nat.reduceLeDiff, Nat.reduceEqDiff, lS, q4, V14, lA, k9, k8, k7, k6, k0, kV, lC, kZ, fZ, fY, fX, fW, fV, fU, fT, gA, fS, fO, fN, fM, fL, fK, fJ, fI, cY, fP, fH, fD, fC, fB, fA, e9, e8, e7, cX, fE, eZ, eW, eV, eU, eT, eS, eR, eQ, eP, eX, eO, eK, eJ, eI, eH, eF, eE, eD, eC, eM, eA, d8, d7, d6, d5, d4, d3, d9, d2, eN, d1, eY, d0, fF, dZ, fQ, dY, dW, dV, dU, dS, dR, dQ, cJ, dP, dN, dL, dK, dI, dH, dF, dE, dC, dB, c0, b8, b7, b6, b5, b4, dA, b3, dD, b0, dG, bZ, dJ, bX, dM, bW, dX, bV, fR, bU, kY, bT, bS, bR, g0]
      refine aO po ?_
      simp (disch := omega) only [vsb, aE, reduceIte, AV.cells, putL, aC, Nat.reduceAdd, Nat.reduceDiv, Nat.reduceMod, AV.one, Nat.reduceLeDiff, Nat.reduceEqDiff, lS, q4, V14, lA, k9, k8, k7, k6, k0, kV, lC, kZ, fZ, fY, fX, fW, fV, fU, fT, gA, fS, fO, fN, fM, fL, fK, fJ, fI, cY, fP, fH, fD, fC, fB, fA, e9, e8, e7, cX, fE, eZ, eW, eV, eU, eT, eS, eR, eQ, eP, eX, eO, eK, eJ, eI, eH, eF, eE, eD, eC, eM, eA, d8, d7, d6, d5, d4, d3, d9, d2, eN, d1, eY, d0, fF, dZ, fQ, dY, dW, dV, dU, dS, dR, dQ, cJ, dP, dN, dL, dK, dI, dH, dF, dE, dC, dB, c0, b8, b7, b6, b5, b4, dA, b3, dD, b0, dG, bZ, dJ, bX, dM, bW, dX, bV, fR, bU, kY, bT, bS, bR, g6]
      have e : q7 ⟨l, n0, kl, []⟩ k r = kX ⟨l, n0, kl, []⟩ n0 (cH l n0) := by rw [em, w5, if_neg r1, if_neg r2, if_pos r3]
      refine O3 (w := ⟨l, n0, kl, []⟩) (w' := kX ⟨l, n0, kl, []⟩ n0 (cH l n0)) g6 g2 rfl (gF.mono (by omega)) (by omega) (fun H0 h0 hf0 => r6 h0 hf0 _ _ hge ho (by simp; omega) (by simp)) (fun x G' ls xa hR h2 hn hF' => ?_)
      rw [← e] at hR
      exact mL (x := .nilf) (ls := []) (f := none) b1 b2 hR h2 hn (hF'.mono (by omega)) (by omega)
    simp (disch := omega) only [vsb, aE, reduceIte, AV.cells, putL, aC, Nat.reduceAdd, Nat.reduceDiv, Nat.reduceMod, AV.one, Nat.reduceLeDiff, Nat.reduceEqDiff, lS, q4, V14, lA, k9, k8, k7, k6, k0, kV, lC, kZ, fZ, fY, fX, fW, fV, fU, fT, gA, fS, fO, fN, fM, fL, fK, fJ, fI, cY, fP, fH, fD, fC, fB, fA, e9, e8, e7, cX, fE, eZ, eW, eV, eU, eT, eS, eR, eQ, eP, eX, eO, eK, eJ, eI, eH, eF, eE, eD, eC, eM, eA, d8, d7, d6, d5, d4, d3, d9, d2, eN, d1, eY, d0, fF, dZ, fQ, dY, dW, dV, dU, dS, dR, dQ, cJ, dP, dN, dL, dK, dI, dH, dF, dE, dC, dB, c0, b8, b7, b6, b5, b4, dA, b3, dD, b0, dG, bZ, dJ, bX, dM, bW, dX, bV, fR, bU, kY, bT, bS, bR, g1]
    refine aY (fun r4 => ?_) (fun r4 => ?_)
    · simp (disch := omega) only [vsb, aE, reduceIte, AV.cells, putL, aC, Nat.reduceAdd, Nat.reduceDiv, Nat.reduceMod, AV.one, Nat.reduceLeDiff, Nat.reduceEqDiff, lS, q4, V14, lA, k9, k8, k7, k6, k0, kV, lC, kZ, fZ, fY, fX, fW, fV, fU, fT, gA, fS, fO, fN, fM, fL, fK, fJ, fI, cY, fP, fH, fD, fC, fB, fA, e9, e8, e7, cX, fE, eZ, eW, eV, eU, eT, eS, eR, eQ, eP, eX, eO, eK, eJ, eI, eH, eF, eE, eD, eC, eM, eA, d8, d7, d6, d5, d4, d3, d9, d2, eN, d1, eY, d0, fF, dZ, fQ, dY, dW, dV, dU, dS, dR, dQ, cJ, dP, dN, dL, dK, dI, dH, dF, dE, dC, dB, c0, b8, b7, b6, b5, b4, dA, b3, dD, b0, dG, bZ, dJ, bX, dM, bW, dX, bV, fR, bU, kY, bT, bS, bR, g0]
      refine aO pb ?_
      rw [eb1]
      simp (disch := omega) only [vsb, aE, reduceIte, AV.cells, putL, aC, Nat.reduceAdd, Nat.reduceDiv, Nat.reduceMod, AV.one, Nat.reduceLeDiff, Nat.reduceEqDiff, lS, q4, V14, lA, k9, k8, k7, k6, k0, kV, lC, kZ, fZ, fY, fX, fW, fV, fU, fT, gA, fS, fO, fN, fM, fL, fK, fJ, fI, cY, fP, fH, fD, fC, fB, fA, e9, e8, e7, cX, fE, eZ, eW, eV, eU, eT, eS, eR, eQ, eP, eX, eO, eK, eJ, eI, eH, eF, eE, eD, eC, eM, eA, d8, d7, d6, d5, d4, d3, d9, d2, eN, d1, eY, d0, fF, dZ, fQ, dY, dW, dV, dU, dS, dR, dQ, cJ, dP, dN, dL, dK, dI, dH, dF, dE, dC, dB, c0, b8, b7, b6, b5, b4, dA, b3, dD, b0, dG, bZ, dJ, bX, dM, bW, dX, bV, fR, bU, kY, bT, bS, bR, g6]
      have e : q7 ⟨l, n0, kl, []⟩ k r = kX ⟨l, n0, kl, []⟩ (bK l n0).toNat n0 := by rw [em, w5, if_neg r1, if_neg r2, if_neg r3, if_pos r4]
      refine O3 (w := ⟨l, n0, kl, []⟩) (w' := kX ⟨l, n0, kl, []⟩ (bK l n0).toNat n0) g6 g2 rfl (gF.mono (by omega)) (by omega) (fun H0 h0 hf0 => r6 h0 hf0 _ _ eb2 hw0 (by simp; omega) (by simp)) (fun x G' ls xa hR h2 hn hF' => ?_)
      rw [← e] at hR
      exact mL (x := .nilf) (ls := []) (f := none) b1 b2 hR h2 hn (hF'.mono (by omega)) (by omega)
    · have e : q7 ⟨l, n0, kl, []⟩ k r = ⟨l, n0, kl, []⟩ := by rw [em, w5, if_neg r1, if_neg r2, if_neg r3, if_neg r4]
      rw [← e] at w0
      exact mL (c := 38) (x := .nilf) (ls := []) (f := none) b1 b2 w0 g2 (by simp [labs]) (gF.mono (by omega)) (by omega)
  simp (disch := omega) only [vsb, aE, reduceIte, AV.cells, putL, aC, Nat.reduceAdd, Nat.reduceDiv, Nat.reduceMod, AV.one, Nat.reduceLeDiff, Nat.reduceEqDiff, lS, q4, V14, lA, k9, k8, k7, k6, k0, kV, lC, kZ, fZ, fY, fX, fW, fV, fU, fT, gA, fS, fO, fN, fM, fL, fK, fJ, fI, cY, fP, fH, fD, fC, fB, fA, e9, e8, e7, cX, fE, eZ, eW, eV, eU, eT, eS, eR, eQ, eP, eX, eO, eK, eJ, eI, eH, eF, eE, eD, eC, eM, eA, d8, d7, d6, d5, d4, d3, d9, d2, eN, d1, eY, d0, fF, dZ, fQ, dY, dW, dV, dU, dS, dR, dQ, cJ, dP, dN, dL, dK, dI, dH, dF, dE, dC, dB, c0, b8, b7, b6, b5, b4, dA, b3, dD, b0, dG, bZ, dJ, bX, dM, bW, dX, bV, fR, bU, kY, bT, bS, bR, g1]
  refine aY (fun h6 => ?_) (fun h6 => ?_)
  · simp (disch := omega) only [vsb, aE, reduceIte, AV.cells, putL, aC, Nat.reduceAdd, Nat.reduceDiv, Nat.reduceMod, AV.one, Nat.reduceLeDiff, Nat.reduceEqDiff, lS, q4, V14, lA, k9, k8, k7, k6, k0, kV, lC, kZ, fZ, fY, fX, fW, fV, fU, fT, gA, fS, fO, fN, fM, fL, fK, fJ, fI, cY, fP, fH, fD, fC, fB, fA, e9, e8, e7, cX, fE, eZ, eW, eV, eU, eT, eS, eR, eQ, eP, eX, eO, eK, eJ, eI, eH, eF, eE, eD, eC, eM, eA, d8, d7, d6, d5, d4, d3, d9, d2, eN, d1, eY, d0, fF, dZ, fQ, dY, dW, dV, dU, dS, dR, dQ, cJ, dP, dN, dL, dK, dI, dH, dF, dE, dC, dB, c0, b8, b7, b6, b5, b4, dA, b3, dD, b0, dG, bZ, dJ, bX, dM, bW, dX, bV, fR, bU, kY, bT, bS, bR, g1]
    refine gen (by rw [q7, if_neg h1, if_neg h2, if_neg h3, if_pos h6]) (by omega) (fun x G' ls xa hR h2 hn hF' => ?_)
    exact mL (x := .nilf) (ls := []) (f := none) b1 b2 hR h2 hn (hF'.mono (by omega)) (by omega)
  simp (disch := omega) only [vsb, aE, reduceIte, AV.cells, putL, aC, Nat.reduceAdd, Nat.reduceDiv, Nat.reduceMod, AV.one, Nat.reduceLeDiff, Nat.reduceEqDiff, lS, q4, V14, lA, k9, k8, k7, k6, k0, kV, lC, kZ, fZ, fY, fX, fW, fV, fU, fT, gA, fS, fO, fN, fM, fL, fK, fJ, fI, cY, fP, fH, fD, fC, fB, fA, e9, e8, e7, cX, fE, eZ, eW, eV, eU, eT, eS, eR, eQ, eP, eX, eO, eK, eJ, eI, eH, eF, eE, eD, eC, eM, eA, d8, d7, d6, d5, d4, d3, d9, d2, eN, d1, eY, d0, fF, dZ, fQ, dY, dW, dV, dU, dS, dR, dQ, cJ, dP, dN, dL, dK, dI, dH, dF, dE, dC, dB, c0, b8, b7, b6, b5, b4, dA, b3, dD, b0, dG, bZ, dJ, bX, dM, bW, dX, bV, fR, bU, kY, bT, bS, bR, g1]
  refine aY (fun h7 => ?_) (fun h7 => ?_)
  · simp (disch := omega) only [vsb, aE, reduceIte, AV.cells, putL, aC, Nat.reduceAdd, Nat.reduceDiv, Nat.reduceMod, AV.one, Nat.reduceLeDiff, Nat.reduceEqDiff, lS, q4, V14, lA, k9, k8, k7, k6, k0, kV, lC, kZ, fZ, fY, fX, fW, fV, fU, fT, gA, fS, fO, fN, fM, fL, fK, fJ, fI, cY, fP, fH, fD, fC, fB, fA, e9, e8, e7, cX, fE, eZ, eW, eV, eU, eT, eS, eR, eQ, eP, eX, eO, eK, eJ, eI, eH, eF, eE, eD, eC, eM, eA, d8, d7, d6, d5, d4, d3, d9, d2, eN, d1, eY, d0, fF, dZ, fQ, dY, dW, dV, dU, dS, dR, dQ, cJ, dP, dN, dL, dK, dI, dH, dF, dE, dC, dB, c0, b8, b7, b6, b5, b4, dA, b3, dD, b0, dG, bZ, dJ, bX, dM, bW, dX, bV, fR, bU, kY, bT, bS, bR, g1]
    refine gen (by rw [q7, if_neg h1, if_neg h2, if_neg h3, if_neg h6, if_pos h7]) (by omega) (fun x G' ls xa hR h2 hn hF' => ?_)
    exact mL (x := .nilf) (ls := []) (f := none) b1 b2 hR h2 hn (hF'.mono (by omega)) (by omega)
  simp (disch := omega) only [vsb, aE, reduceIte, AV.cells, putL, aC, Nat.reduceAdd, Nat.reduceDiv, Nat.reduceMod, AV.one, Nat.reduceLeDiff, Nat.reduceEqDiff, lS, q4, V14, lA, k9, k8, k7, k6, k0, kV, lC, kZ, fZ, fY, fX, fW, fV, fU, fT, gA, fS, fO, fN, fM, fL, fK, fJ, fI, cY, fP, fH, fD, fC, fB, fA, e9, e8, e7, cX, fE, eZ, eW, eV, eU, eT, eS, eR, eQ, eP, eX, eO, eK, eJ, eI, eH, eF, eE, eD, eC, eM, eA, d8, d7, d6, d5, d4, d3, d9, d2, eN, d1, eY, d0, fF, dZ, fQ, dY, dW, dV, dU, dS, dR, dQ, cJ, dP, dN, dL, dK, dI, dH, dF, dE, dC, dB, c0, b8, b7, b6, b5, b4, dA, b3, dD, b0, dG, bZ, dJ, bX, dM, bW, dX, bV, fR, bU, kY, bT, bS, bR, g1]
  refine aY (fun h8 => ?_) (fun h8 => ?_)
  · simp (disch := omega) only [vsb, aE, reduceIte, AV.cells, putL, aC, Nat.reduceAdd, Nat.reduceDiv, Nat.reduceMod, AV.one, Nat.reduceLeDiff, Nat.reduceEqDiff, lS, q4, V14, lA, k9, k8, k7, k6, k0, kV, lC, kZ, fZ, fY, fX, fW, fV, fU, fT, gA, fS, fO, fN, fM, fL, fK, fJ, fI, cY, fP, fH, fD, fC, fB, fA, e9, e8, e7, cX, fE, eZ, eW, eV, eU, eT, eS, eR, eQ, eP, eX, eO, eK, eJ, eI, eH, eF, eE, eD, eC, eM, eA, d8, d7, d6, d5, d4, d3, d9, d2, eN, d1, eY, d0, fF, dZ, fQ, dY, dW, dV, dU, dS, dR, dQ, cJ, dP, dN, dL, dK, dI, dH, dF, dE, dC, dB, c0, b8, b7, b6, b5, b4, dA, b3, dD, b0, dG, bZ, dJ, bX, dM, bW, dX, bV, fR, bU, kY, bT, bS, bR, g1]
    refine gen (by rw [q7, if_neg h1, if_neg h2, if_neg h3, if_neg h6, if_neg h7, if_pos h8]) (by omega) (fun x G' ls xa hR h2 hn hF' => ?_)
    exact mL (x := .nilf) (ls := []) (f := none) b1 b2 hR h2 hn (hF'.mono (by omega)) (by omega)
  simp (disch := omega) only [vsb, aE, reduceIte, AV.cells, putL, aC, Nat.reduceAdd, Nat.reduceDiv, Nat.reduceMod, AV.one, Nat.reduceLeDiff, Nat.reduceEqDiff, lS, q4, V14, lA, k9, k8, k7, k6, k0, kV, lC, kZ, fZ, fY, fX, fW, fV, fU, fT, gA, fS, fO, fN, fM, fL, fK, fJ, fI, cY, fP, fH, fD, fC, fB, fA, e9, e8, e7, cX, fE, eZ, eW, eV, eU, eT, eS, eR, eQ, eP, eX, eO, eK, eJ, eI, eH, eF, eE, eD, eC, eM, eA, d8, d7, d6, d5, d4, d3, d9, d2, eN, d1, eY, d0, fF, dZ, fQ, dY, dW, dV, dU, dS, dR, dQ, cJ, dP, dN, dL, dK, dI, dH, dF, dE, dC, dB, c0, b8, b7, b6, b5, b4, dA, b3, dD, b0, dG, bZ, dJ, bX, dM, bW, dX, bV, fR, bU, kY, bT, bS, bR, g1]
  refine aY (fun h9 => ?_) (fun h9 => ?_)
  · simp (disch := omega) only [vsb, aE, reduceIte, AV.cells, putL, aC, Nat.reduceAdd, Nat.reduceDiv, Nat.reduceMod, AV.one, Nat.reduceLeDiff, Nat.reduceEqDiff, lS, q4, V14, lA, k9, k8, k7, k6, k0, kV, lC, kZ, fZ, fY, fX, fW, fV, fU, fT, gA, fS, fO, fN, fM, fL, fK, fJ, fI, cY, fP, fH, fD, fC, fB, fA, e9, e8, e7, cX, fE, eZ, eW, eV, eU, eT, eS, eR, eQ, eP, eX, eO, eK, eJ, eI, eH, eF, eE, eD, eC, eM, eA, d8, d7, d6, d5, d4, d3, d9, d2, eN, d1, eY, d0, fF, dZ, fQ, dY, dW, dV, dU, dS, dR, dQ, cJ, dP, dN, dL, dK, dI, dH, dF, dE, dC, dB, c0, b8, b7, b6, b5, b4, dA, b3, dD, b0, dG, bZ, dJ, bX, dM, bW, dX, bV, fR, bU, kY, bT, bS, bR, g1]
    refine gen (by rw [q7, if_neg h1, if_neg h2, if_neg h3, if_neg h6, if_neg h7, if_neg h8, if_pos h9]) (by omega) (fun x G' ls xa hR h2 hn hF' => ?_)
    exact mL (x := .nilf) (ls := []) (f := none) b1 b2 hR h2 hn (hF'.mono (by omega)) (by omega)
  simp (disch := omega) only [vsb, aE, reduceIte, AV.cells, putL, aC, Nat.reduceAdd, Nat.reduceDiv, Nat.reduceMod, AV.one, Nat.reduceLeDiff, Nat.reduceEqDiff, lS, q4, V14, lA, k9, k8, k7, k6, k0, kV, lC, kZ, fZ, fY, fX, fW, fV, fU, fT, gA, fS, fO, fN, fM, fL, fK, fJ, fI, cY, fP, fH, fD, fC, fB, fA, e9, e8, e7, cX, fE, eZ, eW, eV, eU, eT, eS, eR, eQ, eP, eX, eO, eK, eJ, eI, eH, eF, eE, eD, eC, eM, eA, d8, d7, d6, d5, d4, d3, d9, d2, eN, d1, eY, d0, fF, dZ, fQ, dY, dW, dV, dU, dS, dR, dQ, cJ, dP, dN, dL, dK, dI, dH, dF, dE, dC, dB, c0, b8, b7, b6, b5, b4, dA, b3, dD, b0, dG, bZ, dJ, bX, dM, bW, dX, bV, fR, bU, kY, bT, bS, bR, g1]
  refine aY (fun h10 => ?_) (fun h10 => ?_)
  · simp (disch := omega) only [vsb, aE, reduceIte, AV.cells, putL, aC, Nat.reduceAdd, Nat.reduceDiv, Nat.reduceMod, AV.one, Nat.reduceLeDiff, Nat.reduceEqDiff, lS, q4, V14, lA, k9, k8, k7, k6, k0, kV, lC, kZ, fZ, fY, fX, fW, fV, fU, fT, gA, fS, fO, fN, fM, fL, fK, fJ, fI, cY, fP, fH, fD, fC, fB, fA, e9, e8, e7, cX, fE, eZ, eW, eV, eU, eT, eS, eR, eQ, eP, eX, eO, eK, eJ, eI, eH, eF, eE, eD, eC, eM, eA, d8, d7, d6, d5, d4, d3, d9, d2, eN, d1, eY, d0, fF, dZ, fQ, dY, dW, dV, dU, dS, dR, dQ, cJ, dP, dN, dL, dK, dI, dH, dF, dE, dC, dB, c0, b8, b7, b6, b5, b4, dA, b3, dD, b0, dG, bZ, dJ, bX, dM, bW, dX, bV, fR, bU, kY, bT, bS, bR, g1]
    refine gen (by rw [q7, if_neg h1, if_neg h2, if_neg h3, if_neg h6, if_neg h7, if_neg h8, if_neg h9, if_pos h10]) (by omega) (fun x G' ls xa hR h2 hn hF' => ?_)
    exact mL (x := .nilf) (ls := []) (f := none) b1 b2 hR h2 hn (hF'.mono (by omega)) (by omega)
  · have e : q7 ⟨l, n0, kl, []⟩ k r = ⟨l, n0, kl, []⟩ := by rw [q7, if_neg h1, if_neg h2, if_neg h3, if_neg h6, if_neg h7, if_neg h8, if_neg h9, if_neg h10]
    rw [← e] at w0
    exact mL (c := 38) (x := .nilf) (ls := []) (f := none) b1 b2 w0 g2 (by simp [labs]) (gF.mono (by omega)) (by omega)
end Go.Proofs.Ytbngfbpegdcpkaa
/-! What keys do is what their acts do to the line. -/
namespace Go.Proofs.Ytbngfbpegdcpkaa
set_option linter.unusedVariables false
set_option linter.unusedSimpArgs false
set_option maxRecDepth 100000
theorem DY {B : List CC} : ∀ {A : List CC} {l : List Int}, gH l (A ++ B) = (gH l A).bind fun l' => gH l' B
  | [], l => rfl
  | a :: A, l => by
    simp only [List.cons_append, gH]
    cases rE l a with
    | none => rfl
    | some l' => exact DY
theorem delI_take {l : List Int} {f : Nat} (h : f < l.length) : (vG l f).take f = l.take f := by
  have hl : (l.take f).length = f := by simp; omega
  rw [vG]; exact List.take_left' hl
theorem delI_drop {l : List Int} {f n : Nat} (h : f < l.length) : (vG l f).drop (f + n) = l.drop (f + n + 1) := by
  have hl : (l.take f).length = f := by simp; omega
  rw [vG, ← List.drop_drop, List.drop_left' hl, List.drop_drop]
  congr 1; omega
theorem K3 {f : Nat} : ∀ {g l : List Int}, f + g.length ≤ l.length → gH l (g.map fun c => (2, (f : Int), c)) = some (l.take f ++ l.drop (f + g.length))
  | [], l, h => by simp [gH]
  | c :: g, l, h => by
    simp only [List.length_cons] at h
    have ha : rE l (2, (f : Int), c) = some (vG l f) := by
      have h1 : ¬ ((f : Int) < 0 ∨ (l.length : Int) < f) := by omega
      have h2 : (f : Int) < l.length := by omega
      simp only [rE, if_neg h1]
      rw [if_neg (by decide), if_pos ⟨trivial, h2⟩, Int.toNat_natCast]
    have hd := BL (l := l) (i := f) (by omega)
    simp only [List.map_cons, gH, ha, Option.bind_some]
    rw [K3 (by rw [hd]; omega), delI_take (by omega), delI_drop (by omega)]
    simp [Nat.add_assoc]
structure Good (l0 : List Int) (w : Wk) : Prop where
  a : gH l0 w.acts = some w.line
  p : w.pos ≤ w.line.length
  n : w.line.length ≤ max 1000 l0.length
theorem Good.at {l0 : List Int} {w : Wk} (h : Good l0 w) {n : Nat} (hn : n ≤ w.line.length) : Good l0 { w with pos := n } := ⟨h.a, hn, h.n⟩
theorem Good.put {l0 : List Int} {w : Wk} (h : Good l0 w) {c : Int} : Good l0 (mN w c) := by
  unfold mN
  split
  · rename_i hb
    have hp := h.p
    have hl : w.line.length < 1000 := by simp [wX] at hb; exact hb.1
    have hi := r9 (c := c) hp
    refine ⟨?_, by simp only [hi]; omega, by simp only [hi]; omega⟩
    have ha : rE w.line (1, (w.pos : Int), c) = some (xK w.line w.pos c) := by
      have h1 : ¬ ((w.pos : Int) < 0 ∨ (w.line.length : Int) < w.pos) := by omega
      simp only [rE, if_neg h1]
      rw [if_pos trivial, Int.toNat_natCast]
    simp only [DY, h.a, Option.bind_some, gH, ha]
  · exact h
theorem Good.cut {l0 : List Int} {w : Wk} (h : Good l0 w) {f t : Nat} (ht : t ≤ w.line.length) : Good l0 (mH w f t) := by
  unfold mH
  split
  · rename_i hlt
    have hg : (jV w f t).length = t - f := EV (by omega) ht
    refine ⟨?_, by simp; omega, by have := h.n; simp; omega⟩
    simp only [DY, h.a, Option.bind_some]
    rw [K3 (by rw [hg]; omega), hg, show f + (t - f) = t by omega]
  · exact h
theorem Good.kill {l0 : List Int} {w : Wk} (h : Good l0 w) {f t : Nat} (ht : t ≤ w.line.length) : Good l0 (kX w f t) := by
  unfold kX
  split
  · have := h.cut (f := f) ht
    exact ⟨this.a, this.p, this.n⟩
  · exact h
theorem Good.yank {l0 : List Int} : ∀ {g : List Int} {w : Wk}, Good l0 w → Good l0 (mJ w g)
  | [], w, h => h
  | c :: g, w, h => by
    unfold mJ
    split
    · exact Good.yank h.put
    · exact h
theorem Good.swap {l0 : List Int} {w : Wk} (h : Good l0 w) : Good l0 (oU w) := by
  unfold oU
  split
  · exact h
  · rename_i h1
    split
    · exact h
    · refine ((h.cut (f := _) (t := _) (by omega)).at ?_).put
      have : (Min.min w.pos (w.line.length - 1) - 1) < Min.min w.pos (w.line.length - 1) := by omega
      simp only [mH, if_pos this]
      simp
      omega
theorem keyT_good {l0 : List Int} : ∀ e ∈ keyT, ∀ w, Good l0 w → Good l0 (e.2.2.2 w) := by
  intro e he w h
  simp only [keyT, List.mem_cons, List.not_mem_nil, or_false] at he
  have hp := h.p
  rcases he with rfl | rfl | rfl | rfl | rfl | rfl | rfl | rfl | rfl | rfl | rfl | rfl | rfl | rfl | rfl | rfl | rfl | rfl | rfl | rfl
  · exact h.at (Nat.zero_le _)
  · exact h.at (Nat.le_refl _)
  · exact h.at cA
  · exact h.at cA
  · exact h.cut hp
  · exact h.cut cA
  · exact h.kill (Nat.le_refl _)
  · exact h.kill hp
  · exact h.kill hp
  · exact h.yank
  · exact h.swap
  · exact h.at (Nat.le_trans (qZ cA).2 cA)
  · exact h.at (tB cA)
  · exact h.kill (tB cA)
  · exact h.kill hp
  · exact h.at cA
  · exact h.at cA
  · exact h.at (Nat.zero_le _)
  · exact h.at (Nat.le_refl _)
  · exact h.cut cA
theorem do_good (l : List Int) (a : Int) (kl : List Int) (k r : Int) : Good l (doS l a kl k r) := by
  have h0 : Good l ⟨l, aR l.length a, kl, []⟩ := ⟨rfl, cA, by simp only; omega⟩
  unfold doS
  split
  · exact h0.put
  · unfold wH
    split
    · rename_i e he
      exact keyT_good e (List.mem_of_find?_eq_some he) _ h0
    · exact h0
/-- how many acts -/
def aAa (w w' : Wk) : Prop := w'.acts.length ≤ w.acts.length + w.line.length + w.kill.length + 2
theorem more_put {w : Wk} {c : Int} : (mN w c).acts.length ≤ w.acts.length + 1 := tC
theorem zV {w : Wk} {f t : Nat} : (mH w f t).acts.length ≤ w.acts.length + w.line.length := by
  unfold mH
  split
  · simp [jV]; omega
  · omega
theorem w3 {w : Wk} {f t : Nat} : (kX w f t).acts.length ≤ w.acts.length + w.line.length := by
  unfold kX
  split
  · exact zV
  · omega
theorem JX : ∀ {g : List Int} {w : Wk}, (mJ w g).acts.length ≤ w.acts.length + g.length
  | [], w => by simp [mJ]
  | c :: g, w => by
    unfold mJ
    split
    · have h1 := JX (g := g) (w := mN w c)
      have h2 := @tC w c
      simp only [List.length_cons]; omega
    · simp only [List.length_cons]; omega
theorem more_swap {w : Wk} : (oU w).acts.length ≤ w.acts.length + w.line.length + 1 := by
  unfold oU
  split
  · omega
  · split
    · omega
    · refine Nat.le_trans tC ?_
      have := @zV w (Min.min w.pos (w.line.length - 1) - 1) (Min.min w.pos (w.line.length - 1))
      simp only
      omega
theorem keyT_more : ∀ e ∈ keyT, ∀ w, aAa w (e.2.2.2 w) := by
  intro e he w
  simp only [keyT, List.mem_cons, List.not_mem_nil, or_false] at he
  unfold aAa
  rcases he with rfl | rfl | rfl | rfl | rfl | rfl | rfl | rfl | rfl | rfl | rfl | rfl | rfl | rfl | rfl | rfl | rfl | rfl | rfl | rfl
  · simp only; omega
  · simp only; omega
  · simp only; omega
  · simp only; omega
  · have := @zV w (aR w.line.length (w.pos - 1)) w.pos; simp only; omega
  · have := @zV w w.pos (aR w.line.length (w.pos + 1)); simp only; omega
  · have := @w3 w w.pos w.line.length; simp only; omega
  · have := @w3 w 0 w.pos; simp only; omega
  · have := @w3 w (bK w.line (aR w.line.length w.pos)).toNat w.pos; simp only; omega
  · have := @JX w.kill w; simp only; omega
  · have := @more_swap w; simp only; omega
  · simp only; omega
  · simp only; omega
  · have := @w3 w w.pos (cH w.line (aR w.line.length w.pos)); simp only; omega
  · have := @w3 w (bK w.line (aR w.line.length w.pos)).toNat w.pos; simp only; omega
  · simp only; omega
  · simp only; omega
  · simp only; omega
  · simp only; omega
  · have := @zV w w.pos (aR w.line.length (w.pos + 1)); simp only; omega
theorem P6 (l : List Int) (a : Int) (kl : List Int) (k r : Int) : (doS l a kl k r).acts.length ≤ l.length + kl.length + 2 := by
  unfold doS
  split
  · have := @tC ⟨l, aR l.length a, kl, []⟩ r
    simp only [List.length_nil] at this
    omega
  · unfold wH
    split
    · rename_i e he
      have := keyT_more e (List.mem_of_find?_eq_some he) ⟨l, aR l.length a, kl, []⟩
      unfold aAa at this
      simp only [List.length_nil] at this
      omega
    · simp
theorem acts_law (l kl : List Int) (a k r : Int) : lV Try.prog 5 [.agg [il l, .int .i64 a, il kl], .agg [.int .i64 k, .int .i64 r]] (.bool true) := by
  refine cP Try.mixed ok5 rfl (fun q => ?_)
  simp only [params, Nat.zero_add, Nat.reduceAdd]
  simp (disch := omega) only [vsb, aE, reduceIte, AV.cells, putL, aC, Nat.reduceAdd, Nat.reduceDiv, Nat.reduceMod, AV.one, Nat.reduceLeDiff, Nat.reduceEqDiff, I4, vt5, V5, IC, IB, IA, HU, HT, AS, tV, AR, HV, AQ, AP, AN, HW, AM, AJ, AL, AI, HX, AH, AE, AF, AG, AD, HY, AC, AB, z7, z8, z9, AA, z6, z5, z4, z3, z2, HZ, z1, z0]
  refine aO (NM l kl a) ?_
  cases hfew : OF l kl
  · (try simp (disch := omega) only [vsb, aE, reduceIte, AV.cells, putL, aC, Nat.reduceAdd, Nat.reduceDiv, Nat.reduceMod, AV.one, Nat.reduceLeDiff, Nat.reduceEqDiff, I4, vt5, V5, IC, IB, IA, HU, HT, AS, tV, AR, HV, AQ, AP, AN, HW, AM, AJ, AL, AI, HX, AH, AE, AF, AG, AD, HY, AC, AB, z7, z8, z9, AA, z6, z5, z4, z3, z2, HZ, z1, z0]); refine aO DL ?_; (try simp (disch := omega) only [vsb, aE, reduceIte, AV.cells, putL, aC, Nat.reduceAdd, Nat.reduceDiv, Nat.reduceMod, AV.one, Nat.reduceLeDiff, Nat.reduceEqDiff, I4, vt5, V5, IC, IB, IA, HU, HT, AS, tV, AR, HV, AQ, AP, AN, HW, AM, AJ, AL, AI, HX, AH, AE, AF, AG, AD, HY, AC, AB, z7, z8, z9, AA, z6, z5, z4, z3, z2, HZ, z1, z0]); exact vp1 rfl
  simp only [OF, Bool.and_eq_true, decide_eq_true_eq] at hfew
  obtain ⟨hl, hkl⟩ := hfew
  simp (disch := omega) only [vsb, aE, reduceIte, AV.cells, putL, aC, Nat.reduceAdd, Nat.reduceDiv, Nat.reduceMod, AV.one, Nat.reduceLeDiff, Nat.reduceEqDiff, I4, vt5, V5, IC, IB, IA, HU, HT, AS, tV, AR, HV, AQ, AP, AN, HW, AM, AJ, AL, AI, HX, AH, AE, AF, AG, AD, HY, AC, AB, z7, z8, z9, AA, z6, z5, z4, z3, z2, HZ, z1, z0]
  refine aO (MP k r) ?_
  simp (disch := omega) only [vsb, aE, reduceIte, AV.cells, putL, aC, Nat.reduceAdd, Nat.reduceDiv, Nat.reduceMod, AV.one, Nat.reduceLeDiff, Nat.reduceEqDiff, I4, vt5, V5, IC, IB, IA, HU, HT, AS, tV, AR, HV, AQ, AP, AN, HW, AM, AJ, AL, AI, HX, AH, AE, AF, AG, AD, HY, AC, AB, z7, z8, z9, AA, z6, z5, z4, z3, z2, HZ, z1, z0]
  refine aO (P5 l (by omega) a kl (by omega) k r) ?_
  have hgood := do_good l a kl k r
  have hmore := P6 l a kl k r
  generalize doS l a kl k r = w at hgood hmore ⊢
  obtain ⟨li, p, ki, A⟩ := w
  obtain ⟨g1, g2, g3⟩ := hgood
  simp only at g1 g2 g3 hmore
  rw [WJ]
  simp (disch := omega) only [vsb, aE, reduceIte, AV.cells, putL, aC, Nat.reduceAdd, Nat.reduceDiv, Nat.reduceMod, AV.one, Nat.reduceLeDiff, Nat.reduceEqDiff, I4, vt5, V5, IC, IB, IA, HU, HT, AS, tV, AR, HV, AQ, AP, AN, HW, AM, AJ, AL, AI, HX, AH, AE, AF, AG, AD, HY, AC, AB, z7, z8, z9, AA, z6, z5, z4, z3, z2, HZ, z1, z0]
  refine ⟨(by (repeat' (first | exact cV | exact bB | refine cW ?_ ?_ | refine bC ?_ ?_)); all_goals (first | exact Or.inl rfl | exact Or.inl (by decide) | exact Or.inr ⟨by (simp (decide := true) [a6, ne_eq] <;> assumption), by (simp (decide := true) [a6, ne_eq] <;> assumption)⟩)), ?_⟩
  have p2 := IT l A (by omega) (by omega)
  rw [g1, OK] at p2
  refine aO p2 ?_
  simp (disch := omega) only [vsb, aE, reduceIte, AV.cells, putL, aC, Nat.reduceAdd, Nat.reduceDiv, Nat.reduceMod, AV.one, Nat.reduceLeDiff, Nat.reduceEqDiff, I4, vt5, V5, IC, IB, IA, HU, HT, AS, tV, AR, HV, AQ, AP, AN, HW, AM, AJ, AL, AI, HX, AH, AE, AF, AG, AD, HY, AC, AB, z7, z8, z9, AA, z6, z5, z4, z3, z2, HZ, z1, z0]
  refine aO (E3 li (by omega)) ?_
  simp (disch := omega) only [vsb, aE, reduceIte, AV.cells, putL, aC, Nat.reduceAdd, Nat.reduceDiv, Nat.reduceMod, AV.one, Nat.reduceLeDiff, Nat.reduceEqDiff, I4, vt5, V5, IC, IB, IA, HU, HT, AS, tV, AR, HV, AQ, AP, AN, HW, AM, AJ, AL, AI, HX, AH, AE, AF, AG, AD, HY, AC, AB, z7, z8, z9, AA, z6, z5, z4, z3, z2, HZ, z1, z0, QV]
  (try simp (disch := omega) only [vsb, aE, reduceIte, AV.cells, putL, aC, Nat.reduceAdd, Nat.reduceDiv, Nat.reduceMod, AV.one, Nat.reduceLeDiff, Nat.reduceEqDiff, I4, vt5, V5, IC, IB, IA, HU, HT, AS, tV, AR, HV, AQ, AP, AN, HW, AM, AJ, AL, AI, HX, AH, AE, AF, AG, AD, HY, AC, AB, z7, z8, z9, AA, z6, z5, z4, z3, z2, HZ, z1, z0]); refine aO DL ?_; (try simp (disch := omega) only [vsb, aE, reduceIte, AV.cells, putL, aC, Nat.reduceAdd, Nat.reduceDiv, Nat.reduceMod, AV.one, Nat.reduceLeDiff, Nat.reduceEqDiff, I4, vt5, V5, IC, IB, IA, HU, HT, AS, tV, AR, HV, AQ, AP, AN, HW, AM, AJ, AL, AI, HX, AH, AE, AF, AG, AD, HY, AC, AB, z7, z8, z9, AA, z6, z5, z4, z3, z2, HZ, z1, z0]); exact vp1 rfl
end Go.Proofs.Ytbngfbpegdcpkaa
/-! The law EditDoes. -/
namespace Go.Proofs.Ytbngfbpegdcpkaa
set_option linter.unusedVariables false
set_option linter.unusedSimpArgs false
set_option maxRecDepth 100000
theorem held_id {n a : Nat} (h : a ≤ n) : aR n (a : Int) = a := by unfold aR; omega
theorem do_same (l : List Int) (a : Int) (kl : List Int) (k r : Int) : doS l a kl k r = q7 ⟨l, aR l.length a, kl, []⟩ k r := by
  have hp : aR l.length a ≤ l.length := cA
  unfold doS
  generalize aR l.length a = n at hp ⊢
  have hh : aR l.length n = n := held_id hp
  have em : aR l.length ((n : Int) - 1) = n - 1 := by unfold aR; omega
  have ep : aR l.length ((n : Int) + 1) = Min.min (n + 1) l.length := by unfold aR; omega
  by_cases h1 : k = 1
  · rw [if_pos h1, q7, if_pos h1]
  rw [if_neg h1]
  by_cases h2 : k = 2
  · subst h2
    rw [if_pos (.inl rfl), q7, if_neg (by decide), if_pos rfl]
    by_cases c1 : r = 97
    · subst c1; rfl
    by_cases c2 : r = 101
    · subst c2; rfl
    by_cases c3 : r = 98
    · subst c3; simp [wH, cQ, keyT, jW, em]
    by_cases c4 : r = 102
    · subst c4; simp [wH, cQ, keyT, jW, ep]
    by_cases c5 : r = 104
    · subst c5; simp [wH, cQ, keyT, jW, em]
    by_cases c6 : r = 100
    · subst c6; simp [wH, cQ, keyT, jW, ep]
    by_cases c7 : r = 107
    · subst c7; rfl
    by_cases c8 : r = 117
    · subst c8; rfl
    by_cases c9 : r = 119
    · subst c9; simp [wH, cQ, keyT, jW, hh]
    by_cases c10 : r = 121
    · subst c10; rfl
    by_cases c11 : r = 116
    · subst c11; rfl
    simp [wH, cQ, keyT, jW, c1, c2, c3, c4, c5, c6, c7, c8, c9, c10, c11, List.find?_cons, Ne.symm c1, Ne.symm c2, Ne.symm c3, Ne.symm c4, Ne.symm c5, Ne.symm c6, Ne.symm c7, Ne.symm c8, Ne.symm c9, Ne.symm c10, Ne.symm c11]
  by_cases h3 : k = 3
  · subst h3
    rw [if_pos (.inr rfl), q7, if_neg (by decide), if_neg (by decide), if_pos rfl]
    by_cases c1 : r = 98
    · subst c1; simp [wH, cQ, keyT, w5, hh]
    by_cases c2 : r = 102
    · subst c2; simp [wH, cQ, keyT, w5, hh]
    by_cases c3 : r = 100
    · subst c3; simp [wH, cQ, keyT, w5, hh]
    by_cases c4 : r = 127
    · subst c4; simp [wH, cQ, keyT, w5, hh]
    simp [wH, cQ, keyT, w5, c1, c2, c3, c4, List.find?_cons, Ne.symm c1, Ne.symm c2, Ne.symm c3, Ne.symm c4]
  rw [if_neg (by omega), q7, if_neg h1, if_neg h2, if_neg h3]
  by_cases c6 : k = 6
  · subst c6; simp [wH, cQ, keyT, jW, ep]
  by_cases c7 : k = 7
  · subst c7; simp [wH, cQ, keyT, jW, em]
  by_cases c8 : k = 8
  · subst c8; rfl
  by_cases c9 : k = 9
  · subst c9; rfl
  by_cases c10 : k = 10
  · subst c10; simp [wH, cQ, keyT, jW, ep]
  simp [wH, cQ, keyT, List.find?_cons, c6, c7, c8, c9, c10, Ne.symm h2, Ne.symm h3, Ne.symm c6, Ne.symm c7, Ne.symm c8, Ne.symm c9, Ne.symm c10]
theorem HE (l1 k1 l2 k2 : List Int) (a1 a2 : Int) (h1 : l1.length ≤ 1000000000) (h2 : k1.length ≤ 1000000000) : lV Try.prog 15 [.agg [il l1, .int .i64 a1, il k1], .agg [il l2, .int .i64 a2, il k2]] (.bool (decide (l1 = l2) && decide (a1 = a2) && decide (k1 = k2))) := by
  refine cP Try.mixed ok15 rfl (fun q => ?_)
  simp only [params, Nat.zero_add, Nat.reduceAdd]
  repeat' (first | (simp (disch := omega) only [vsb, aE, reduceIte, AV.cells, putL, aC, Nat.reduceAdd, Nat.reduceDiv, Nat.reduceMod, AV.one, Nat.reduceLeDiff, Nat.reduceEqDiff, OY, WY, V15, ND, NC, NB, KJ, NA, NE, M9, M8, M7, M6]) | (refine aY (fun _ => ?_) (fun _ => ?_)) | (refine jN (fun _ => ?_) (fun _ => ?_)) | (refine cF (fun _ => ?_) (fun _ => ?_)) | (refine bI (fun _ => ?_) (fun _ => ?_)) | (refine And.intro (aV rfl) ?_) | (refine cG (fun _ => ?_) ?_) | (exfalso; omega; done))
  refine aO (E4 l1 l2 h1) ?_
  by_cases c1 : l1 = l2
  · rw [decide_eq_true c1]
    repeat' (first | (simp (disch := omega) only [vsb, aE, reduceIte, AV.cells, putL, aC, Nat.reduceAdd, Nat.reduceDiv, Nat.reduceMod, AV.one, Nat.reduceLeDiff, Nat.reduceEqDiff, OY, WY, V15, ND, NC, NB, KJ, NA, NE, M9, M8, M7, M6]) | (refine aY (fun _ => ?_) (fun _ => ?_)) | (refine jN (fun _ => ?_) (fun _ => ?_)) | (refine cF (fun _ => ?_) (fun _ => ?_)) | (refine bI (fun _ => ?_) (fun _ => ?_)) | (refine And.intro (aV rfl) ?_) | (refine cG (fun _ => ?_) ?_) | (exfalso; omega; done))
    · refine aO (E4 k1 k2 h2) ?_
      simp (disch := omega) only [vsb, aE, reduceIte, AV.cells, putL, aC, Nat.reduceAdd, Nat.reduceDiv, Nat.reduceMod, AV.one, Nat.reduceLeDiff, Nat.reduceEqDiff, OY, WY, V15, ND, NC, NB, KJ, NA, NE, M9, M8, M7, M6]
      rename_i c2
      exact vp1 (by rw [decide_eq_true c2]; simp)
    · rename_i c2
      exact vp1 (by rw [decide_eq_false c2]; simp)
  · rw [decide_eq_false c1]
    repeat' (first | (simp (disch := omega) only [vsb, aE, reduceIte, AV.cells, putL, aC, Nat.reduceAdd, Nat.reduceDiv, Nat.reduceMod, AV.one, Nat.reduceLeDiff, Nat.reduceEqDiff, OY, WY, V15, ND, NC, NB, KJ, NA, NE, M9, M8, M7, M6]) | (refine aY (fun _ => ?_) (fun _ => ?_)) | (refine jN (fun _ => ?_) (fun _ => ?_)) | (refine cF (fun _ => ?_) (fun _ => ?_)) | (refine bI (fun _ => ?_) (fun _ => ?_)) | (refine And.intro (aV rfl) ?_) | (refine cG (fun _ => ?_) ?_) | (exfalso; omega; done))
    exact vp1 (by simp)
theorem OM {H : aB} {q : Lab} {KK : KF} {x y z : Int} : aM (.eqs .neq [.int, .int, .int]) [.agg [.int .i64 x, .int .i64 y, .int .i64 z], .agg [.int .i64 x, .int .i64 y, .int .i64 z]] H q KK = KK (.bool false) H [] (some []) := by
  have : aop nU (.eqs .neq [.int, .int, .int]) [.agg [.int .i64 x, .int .i64 y, .int .i64 z], .agg [.int .i64 x, .int .i64 y, .int .i64 z]] H q = some (.pure (.bool false)) := by
    simp [aop, vH, gC, AV.isAgg, AV.cells, FM, ceq, lE]
  simp [aM, this]; rfl
theorem sameA_pure (A : List CC) (hA : A.length ≤ 1000000000) : lV Try.prog 16 [.isl 3 (A.map bA), .isl 3 (A.map bA)] (.bool true) := by
  refine cP Try.mixed ok16 rfl (fun q => ?_)
  simp only [params, Nat.zero_add, Nat.reduceAdd]
  repeat' (first | (simp (disch := omega) only [vsb, aE, reduceIte, AV.cells, putL, aC, Nat.reduceAdd, Nat.reduceDiv, Nat.reduceMod, AV.one, Nat.reduceLeDiff, Nat.reduceEqDiff, XS, JW, MI, aAi, QT, QS, V16, WR, WQ, WH, WG, WF, WE, WC, WB, WA, V9, V8, WD, OD, bA, OM]) | (refine aY (fun _ => ?_) (fun _ => ?_)) | (refine jN (fun _ => ?_) (fun _ => ?_)) | (refine cF (fun _ => ?_) (fun _ => ?_)) | (refine bI (fun _ => ?_) (fun _ => ?_)) | (refine And.intro (aV rfl) ?_) | (refine cG (fun _ => ?_) ?_) | (exfalso; omega; done))
  refine qH (fun n r H c => ∃ i : Nat, r = [(0, .isl 3 (A.map bA)), (1, .isl 3 (A.map bA)), (5, .int .i64 i)] ∧ H = (fun _ => none) ∧ i ≤ A.length ∧ n = A.length - i) A.length ⟨0, rfl, rfl, by omega, rfl⟩ ?_
  rintro n r H c ⟨i, rfl, rfl, hi, rfl⟩
  repeat' (first | (simp (disch := omega) only [vsb, aE, reduceIte, AV.cells, putL, aC, Nat.reduceAdd, Nat.reduceDiv, Nat.reduceMod, AV.one, Nat.reduceLeDiff, Nat.reduceEqDiff, XS, JW, MI, aAi, QT, QS, V16, WR, WQ, WH, WG, WF, WE, WC, WB, WA, V9, V8, WD, OD, bA, OM]) | (refine aY (fun _ => ?_) (fun _ => ?_)) | (refine jN (fun _ => ?_) (fun _ => ?_)) | (refine cF (fun _ => ?_) (fun _ => ?_)) | (refine bI (fun _ => ?_) (fun _ => ?_)) | (refine And.intro (aV rfl) ?_) | (refine cG (fun _ => ?_) ?_) | (exfalso; omega; done))
  · exact w7 (A.length - (i + 1)) (by omega) ⟨i + 1, rfl, rfl, by omega, rfl⟩
  · exact vp1 rfl
theorem own_state {G : aB} {q : Lab} {x1 x2 : AV} {l kl : List Int} {a k r : Int} {y : AV} {f : Nat} {q' : Lab} (hp : lV Try.prog f [.agg [il l, .int .i64 a, il kl], .agg [.int .i64 k, .int .i64 r]] y) (o1 : Own G x1 1 (l.map aE)) (o2 : Own G x2 1 (kl.map aE)) (hr : G (9 :: q) = some (.rows 3 [[x1, .int .i64 a, x2]])) :
    aZ Try.prog f [.agg [x1, .int .i64 a, x2], .agg [.int .i64 k, .int .i64 r]] G q' ⟨y, (9 :: q, some (.rows 3 [[il l, .int .i64 a, il kl]])) :: (labs x1 ++ labs x2).map fun l => (l, none), none⟩ := by
  have hin : ∀ l ∈ labs x1 ++ labs x2, ∃ rs, G l = some (.rows 1 rs) := fun l hl => by
    rcases List.mem_append.1 hl with h | h
    · exact ⟨_, o1.lab h⟩
    · exact ⟨_, o2.lab h⟩
  have h9 : 9 :: q ∉ labs x1 ++ labs x2 := fun hm => by
    obtain ⟨rs, h⟩ := hin _ hm
    rw [hr] at h; cases h
  have f1 : Fr (fun l => l ∈ labs x1 ++ labs x2 ∧ G l ≠ none) G x1 (il l) := Fr.own_at o1 (fun l hl => ⟨by simp [hl], by rw [o1.lab hl]; simp⟩) j7
  have f2 : Fr (fun l => l ∈ labs x1 ++ labs x2 ∧ G l ≠ none) G x2 (il kl) := Fr.own_at o2 (fun l hl => ⟨by simp [hl], by rw [o2.lab hl]; simp⟩) j7
  refine give_any (ls := labs x1 ++ labs x2) hp (.cons (Fr.agg3 f1 (.refl _) f2) (.cons (.refl _) .nil)) (fun l hl => by obtain ⟨rs, h⟩ := hin l hl; rw [h]; simp) (fun l hl => ?_) (fun l o' hl => ?_)
  · rcases has_cons.1 hl with rfl | ⟨p, hp, rfl⟩
    · rw [hr]; simp
    · obtain ⟨k, hk, rfl⟩ := List.mem_map.1 hp
      obtain ⟨rs, h⟩ := hin k hk
      rw [h]; simp
  · by_cases e : l = 9 :: q
    · subst e
      rw [aK] at hl
      cases hl
      refine ⟨h9, _, hr, .inr ⟨3, _, _, rfl, rfl, rfl, by simp [sY, il, AV.one], fun i j x hx => ?_⟩⟩
      match i, j with
      | 0, 0 => simp [aQ] at hx; subst hx; exact ⟨x1, rfl, f1⟩
      | 0, 1 => simp [aQ] at hx; subst hx; exact ⟨_, rfl, .refl _⟩
      | 0, 2 => simp [aQ] at hx; subst hx; exact ⟨x2, rfl, f2⟩
      | 0, j + 3 => simp [aQ] at hx
      | i + 1, j => simp [aQ] at hx
    · rw [aP e] at hl
      obtain ⟨h1, h2⟩ := JG hl
      exact ⟨h1, o', h2, .inl rfl⟩
theorem does_end {G : aB} {q : Lab} {x1 x2 : AV} {l kl : List Int} (hl : l.length ≤ 1100) (hkl : kl.length ≤ 1100) (hI : ∀ x ∈ l, I64 x) {a k r : Int} (o1 : Own G x1 1 (l.map aE)) (o2 : Own G x2 1 (kl.map aE)) (hx1 : x1 = .nils ∨ ∃ n, x1 = .sl (15 :: q) 1 0 n) (hx2 : x2 = .nils ∨ ∃ n, x2 = .sl (22 :: q) 1 0 n) (hr : G (9 :: q) = some (.rows 3 [[x1, .int .i64 a, x2]])) (hs : G (0 :: q) = some (.rows 3 [[il l, .int .i64 a, il kl]])) (ht : G (1 :: q) = some (.rows 2 [[.int .i64 k, .int .i64 r]])) :
    aN false Try.prog 13 [.agg [.int .i64 k, .int .i64 r]] G (27 :: q) (sV Try.prog q (VP [.tmp 4] (.bool true)) (some [1 :: q]) (.agg [x1, .int .i64 a, x2]) (some [9 :: q]) (.ptr (0 :: q) 3 0 0) (.ptr (1 :: q) 2 0 0) 6) := by
  refine aO (MP k r) ?_
  simp (disch := omega) only [vsb, aE, reduceIte, AV.cells, putL, aC, Nat.reduceAdd, Nat.reduceDiv, Nat.reduceMod, AV.one, Nat.reduceLeDiff, Nat.reduceEqDiff, D9, vt3, V3, DV, DU, DT, DP, DN, DM, BF, uX, DQ, uW, uV, uU, uT, DR, uS, uR, uQ, uO, uP, uN, uM, uL, uK, uJ, uI, sV, uH, uG, uF, uE, uD, DS, uC, uB]
  have rs1 : ∀ l o, l ∈ (9 :: q) :: (labs x1 ++ labs x2) → G l = some o → restr G (some ((9 :: q) :: (labs x1 ++ labs x2))) l = some o := fun l o hm h => by rw [nS hm]; exact h
  refine cB (res_foot (F := (9 :: q) :: (labs x1 ++ labs x2)) (own_state (P5 l (by omega) a kl (by omega) k r) (o1.keep fun lab o hl h => rs1 lab o (by simp [hl]) h) (o2.keep fun lab o hl h => rs1 lab o (by simp [hl]) h) (rs1 _ _ (by simp) hr))) ?_
  have hin : ∀ {n e : Nat} {rs : List (List AV)}, G (n :: q) = some (.rows e rs) → e ≠ 1 → n :: q ∉ labs x1 ++ labs x2 := fun {n e rs} h he hm => by
    rcases List.mem_append.1 hm with h' | h'
    · have := o1.lab h'; rw [h] at this; cases this; exact he rfl
    · have := o2.lab h'; rw [h] at this; cases this; exact he rfl
  generalize hG2 : upd _ G = G2
  have r2 : G2 (9 :: q) = some (.rows 3 [[il l, .int .i64 a, il kl]]) := by subst hG2; exact aK
  have s2 : G2 (0 :: q) = some (.rows 3 [[il l, .int .i64 a, il kl]]) := by
    subst hG2; rw [aP (by simp), bQ (fun ⟨p, hp, e⟩ => by obtain ⟨k, hk, rfl⟩ := List.mem_map.1 hp; exact hin hs (by decide) (e ▸ hk))]; exact hs
  have t2 : G2 (1 :: q) = some (.rows 2 [[.int .i64 k, .int .i64 r]]) := by
    subst hG2; rw [aP (by simp), bQ (fun ⟨p, hp, e⟩ => by obtain ⟨k, hk, rfl⟩ := List.mem_map.1 hp; exact hin ht (by decide) (e ▸ hk))]; exact ht
  have hb := @WM ⟨l, aR l.length a, kl, []⟩ k r cA
  have hm := P6 l a kl k r
  have pr := rdo_pure l (by omega) (fun k hk => (hI _ (List.mem_of_getElem? (tU hk))).1) a kl (by omega) k r
  rw [← do_same] at pr hb
  generalize doS l a kl k r = w at *
  obtain ⟨li, p, ki, A⟩ := w
  obtain ⟨hb1, hb2⟩ := hb
  simp only at hb1 hb2 hm
  rw [WJ] at pr ⊢
  simp (disch := omega) only [vsb, aE, reduceIte, AV.cells, putL, aC, Nat.reduceAdd, Nat.reduceDiv, Nat.reduceMod, AV.one, Nat.reduceLeDiff, Nat.reduceEqDiff, D9, vt3, V3, DV, DU, DT, DP, DN, DM, BF, uX, DQ, uW, uV, uU, uT, DR, uS, uR, uQ, uO, uP, uN, uM, uL, uK, uJ, uI, sV, uH, uG, uF, uE, uD, DS, uC, uB, r2, s2, t2]
  refine ⟨?_, ?_⟩
  · rcases hx1 with rfl | ⟨n1, rfl⟩ <;> rcases hx2 with rfl | ⟨n2, rfl⟩ <;> simp only [labs, List.append_nil, List.nil_append, List.map_cons, List.map_nil, List.cons_append] <;> (repeat' (first | exact cV | exact bB | refine cW ?_ ?_ | refine bC ?_ ?_)); all_goals (first | exact Or.inl rfl | exact Or.inl (by decide) | exact Or.inr ⟨by (simp (decide := true) [a6, ne_eq] <;> assumption), by (simp (decide := true) [a6, ne_eq] <;> assumption)⟩)
  refine aO pr ?_
  simp (disch := omega) only [vsb, aE, reduceIte, AV.cells, putL, aC, Nat.reduceAdd, Nat.reduceDiv, Nat.reduceMod, AV.one, Nat.reduceLeDiff, Nat.reduceEqDiff, D9, vt3, V3, DV, DU, DT, DP, DN, DM, BF, uX, DQ, uW, uV, uU, uT, DR, uS, uR, uQ, uO, uP, uN, uM, uL, uK, uJ, uI, sV, uH, uG, uF, uE, uD, DS, uC, uB, r2, s2, t2]
  have q1 := HE li ki li ki p p (by omega) (by omega)
  rw [decide_eq_true rfl, decide_eq_true rfl, decide_eq_true rfl] at q1
  refine aO q1 ?_
  simp (disch := omega) only [vsb, aE, reduceIte, AV.cells, putL, aC, Nat.reduceAdd, Nat.reduceDiv, Nat.reduceMod, AV.one, Nat.reduceLeDiff, Nat.reduceEqDiff, D9, vt3, V3, DV, DU, DT, DP, DN, DM, BF, uX, DQ, uW, uV, uU, uT, DR, uS, uR, uQ, uO, uP, uN, uM, uL, uK, uJ, uI, sV, uH, uG, uF, uE, uD, DS, uC, uB, r2, s2, t2]
  refine aO (told_pure A (by omega)) ?_
  simp (disch := omega) only [vsb, aE, reduceIte, AV.cells, putL, aC, Nat.reduceAdd, Nat.reduceDiv, Nat.reduceMod, AV.one, Nat.reduceLeDiff, Nat.reduceEqDiff, D9, vt3, V3, DV, DU, DT, DP, DN, DM, BF, uX, DQ, uW, uV, uU, uT, DR, uS, uR, uQ, uO, uP, uN, uM, uL, uK, uJ, uI, sV, uH, uG, uF, uE, uD, DS, uC, uB, r2, s2, t2]
  refine aO (sameA_pure A (by omega)) ?_
  simp (disch := omega) only [vsb, aE, reduceIte, AV.cells, putL, aC, Nat.reduceAdd, Nat.reduceDiv, Nat.reduceMod, AV.one, Nat.reduceLeDiff, Nat.reduceEqDiff, D9, vt3, V3, DV, DU, DT, DP, DN, DM, BF, uX, DQ, uW, uV, uU, uT, DR, uS, uR, uQ, uO, uP, uN, uM, uL, uK, uJ, uI, sV, uH, uG, uF, uE, uD, DS, uC, uB, r2, s2, t2]
  have q2 := HE l kl l kl a a (by omega) (by omega)
  rw [decide_eq_true rfl, decide_eq_true rfl, decide_eq_true rfl] at q2
  refine aO q2 ?_
  (try simp (disch := omega) only [vsb, aE, reduceIte, AV.cells, putL, aC, Nat.reduceAdd, Nat.reduceDiv, Nat.reduceMod, AV.one, Nat.reduceLeDiff, Nat.reduceEqDiff, D9, vt3, V3, DV, DU, DT, DP, DN, DM, BF, uX, DQ, uW, uV, uU, uT, DR, uS, uR, uQ, uO, uP, uN, uM, uL, uK, uJ, uI, sV, uH, uG, uF, uE, uD, DS, uC, uB]); refine aO DL ?_; (try simp (disch := omega) only [vsb, aE, reduceIte, AV.cells, putL, aC, Nat.reduceAdd, Nat.reduceDiv, Nat.reduceMod, AV.one, Nat.reduceLeDiff, Nat.reduceEqDiff, D9, vt3, V3, DV, DU, DT, DP, DN, DM, BF, uX, DQ, uW, uV, uU, uT, DR, uS, uR, uQ, uO, uP, uN, uM, uL, uK, uJ, uI, sV, uH, uG, uF, uE, uD, DS, uC, uB]); exact vp1 rfl
theorem does_law (l kl : List Int) (hI : ∀ x ∈ l, I64 x) (a k r : Int) : lV Try.prog 3 [.agg [il l, .int .i64 a, il kl], .agg [.int .i64 k, .int .i64 r]] (.bool true) := by
  refine cP Try.mixed ok3 rfl (fun q => ?_)
  simp only [params, Nat.zero_add, Nat.reduceAdd]
  simp (disch := omega) only [vsb, aE, reduceIte, AV.cells, putL, aC, Nat.reduceAdd, Nat.reduceDiv, Nat.reduceMod, AV.one, Nat.reduceLeDiff, Nat.reduceEqDiff, D9, vt3, V3, DV, DU, DT, DP, DN, DM, BF, uX, DQ, uW, uV, uU, uT, DR, uS, uR, uQ, uO, uP, uN, uM, uL, uK, uJ, uI, sV, uH, uG, uF, uE, uD, DS, uC, uB]
  refine aO (NM l kl a) ?_
  cases hfew : OF l kl
  · (try simp (disch := omega) only [vsb, aE, reduceIte, AV.cells, putL, aC, Nat.reduceAdd, Nat.reduceDiv, Nat.reduceMod, AV.one, Nat.reduceLeDiff, Nat.reduceEqDiff, D9, vt3, V3, DV, DU, DT, DP, DN, DM, BF, uX, DQ, uW, uV, uU, uT, DR, uS, uR, uQ, uO, uP, uN, uM, uL, uK, uJ, uI, sV, uH, uG, uF, uE, uD, DS, uC, uB]); refine aO DL ?_; (try simp (disch := omega) only [vsb, aE, reduceIte, AV.cells, putL, aC, Nat.reduceAdd, Nat.reduceDiv, Nat.reduceMod, AV.one, Nat.reduceLeDiff, Nat.reduceEqDiff, D9, vt3, V3, DV, DU, DT, DP, DN, DM, BF, uX, DQ, uW, uV, uU, uT, DR, uS, uR, uQ, uO, uP, uN, uM, uL, uK, uJ, uI, sV, uH, uG, uF, uE, uD, DS, uC, uB]); exact vp1 rfl
  simp only [OF, Bool.and_eq_true, decide_eq_true_eq] at hfew
  obtain ⟨hl, hkl⟩ := hfew
  simp (disch := omega) only [vsb, aE, reduceIte, AV.cells, putL, aC, Nat.reduceAdd, Nat.reduceDiv, Nat.reduceMod, AV.one, Nat.reduceLeDiff, Nat.reduceEqDiff, D9, vt3, V3, DV, DU, DT, DP, DN, DM, BF, uX, DQ, uW, uV, uU, uT, DR, uS, uR, uQ, uO, uP, uN, uM, uL, uK, uJ, uI, sV, uH, uG, uF, uE, uD, DS, uC, uB]
  generalize hG1 : upd [(9 :: q, _)] (upd [(9 :: q, _)] (upd [(1 :: q, _)] (upd [(0 :: q, _)] fun _ => none))) = G1
  have r1 : G1 (9 :: q) = some (.rows 3 [[.nils, .int .i64 a, .nils]]) := by subst hG1; exact aK
  have s1 : G1 (0 :: q) = some (.rows 3 [[il l, .int .i64 a, il kl]]) := by subst hG1; simp [upd]
  have t1 : G1 (1 :: q) = some (.rows 2 [[.int .i64 k, .int .i64 r]]) := by subst hG1; simp [upd]
  have F1 : Fresh q 10 G1 := by subst hG1; exact ((((Fresh.empty (c := 10)).more (by omega)).more (by omega)).more (by omega)).more (by omega)
  clear hG1
  refine nM (x := .nils) Own.nils wT F1 (by omega) (by decide) (by simp; omega) (by simp; omega) (fun x1 G2 l2 f2 o2 F2 kb2 hx2 => ?_)
  have r2 := kb2 _ _ r1 (fun _ _ _ e => by cases e)
  have s2 := kb2 _ _ s1 (fun _ _ _ e => by cases e)
  have t2 := kb2 _ _ t1 (fun _ _ _ e => by cases e)
  rw [List.nil_append] at o2
  have hx1 : x1 = .nils ∨ ∃ n, x1 = .sl (15 :: q) 1 0 n := by
    rcases o2 with ⟨h, _⟩ | ⟨lb, h, _⟩
    · exact .inl h
    · obtain rfl := (hx2 lb (by simp [h, labs])).resolve_left (by simp [labs])
      exact .inr ⟨_, h⟩
  have hx1c := hx1
  rcases hx1 with rfl | ⟨n1, rfl⟩
  all_goals
    simp (disch := omega) only [vsb, aE, reduceIte, AV.cells, putL, aC, Nat.reduceAdd, Nat.reduceDiv, Nat.reduceMod, AV.one, Nat.reduceLeDiff, Nat.reduceEqDiff, D9, vt3, V3, DV, DU, DT, DP, DN, DM, BF, uX, DQ, uW, uV, uU, uT, DR, uS, uR, uQ, uO, uP, uN, uM, uL, uK, uJ, uI, sV, uH, uG, uF, uE, uD, DS, uC, uB, r2, s2, t2]
    generalize hG3 : upd [_] G2 = G3
    have r3 := QB hG3
    have s3 := GE hG3 (by simp) s2
    have t3 := GE hG3 (by simp) t2
    have o3 := (o2.store (o2.ne r2 (by decide))).to hG3
    have F3 := (F2.over r2).to hG3
    clear hG3
    refine nM (x := .nils) Own.nils wT F3 (by omega) (by decide) (by simp; omega) (by simp; omega) (fun x2 G4 l4 f4 o4 F4 kb4 hx4 => ?_)
    have r4 := kb4 _ _ r3 (fun _ _ _ e => by cases e)
    have s4 := kb4 _ _ s3 (fun _ _ _ e => by cases e)
    have t4 := kb4 _ _ t3 (fun _ _ _ e => by cases e)
    have o34 := o3.keep (H' := G4) fun lab o _ ho => kb4 _ _ ho (fun _ _ _ e => by cases e)
    rw [List.nil_append] at o4
    have hx2 : x2 = .nils ∨ ∃ n, x2 = .sl (22 :: q) 1 0 n := by
      rcases o4 with ⟨h, _⟩ | ⟨lb, h, _⟩
      · exact .inl h
      · obtain rfl := (hx4 lb (by simp [h, labs])).resolve_left (by simp [labs])
        exact .inr ⟨_, h⟩
    have hx2c := hx2
    rcases hx2 with rfl | ⟨n2', rfl⟩
    all_goals
      simp (disch := omega) only [vsb, aE, reduceIte, AV.cells, putL, aC, Nat.reduceAdd, Nat.reduceDiv, Nat.reduceMod, AV.one, Nat.reduceLeDiff, Nat.reduceEqDiff, D9, vt3, V3, DV, DU, DT, DP, DN, DM, BF, uX, DQ, uW, uV, uU, uT, DR, uS, uR, uQ, uO, uP, uN, uM, uL, uK, uJ, uI, sV, uH, uG, uF, uE, uD, DS, uC, uB, r4, s4, t4]
      generalize hG5 : upd [_] G4 = G5
      exact does_end hl hkl hI ((o34.store (o34.ne r4 (by decide))).to hG5) ((o4.store (o4.ne r4 (by decide))).to hG5) hx1c hx2c (QB hG5) (GE hG5 (by simp) s4) (GE hG5 (by simp) t4)
theorem state_shapeI {n : Nat} {xs : List AV} (h : a9 Try.prog (n + 3) 24 xs) : ∃ (l : List Int) (a : Int) (kl : List Int), xs = [.isl 1 (s8 l), .int .i64 a, .isl 1 (s8 kl)] ∧ I64 a ∧ ∀ x ∈ l, I64 x := by
  unfold a9 at h
  simp only [Try.underlying24, q5] at h
  obtain ⟨a, x, rfl, _, h1, b, y, rfl, _, h2, c, z, rfl, _, h3, rfl⟩ := h
  obtain ⟨k, l, rfl, g1⟩ := vA h1
  obtain ⟨i, rfl, g2⟩ := oR h2
  obtain ⟨k2, l2, rfl, g3⟩ := vA h3
  cases g3
  cases g1 with
  | row _ _ hx => exact ⟨_, i, _, rfl, g2, hx⟩
end Go.Proofs.Ytbngfbpegdcpkaa
